/-
  What the statements of the chapter share, part 23: TB, TG1, PL2, PL3, PL4, VA1, NT.
-/
import Derived.Test.YtgkjcmglcnhpaaaGreatDoorCards
import Derived.Test.YtgkjcmglcnhpaaaGreatDoorT12
import Derived.Test.YtgkjcmglcnhpaaaGreatDoorT13
import Derived.Test.YtgkjcmglcnhpaaaGreatDoorT15
import Derived.Test.YtgkjcmglcnhpaaaGreatDoorT18
import Derived.Test.YtgkjcmglcnhpaaaGreatDoorT19
import Derived.Test.YtgkjcmglcnhpaaaGreatDoorT20
import Derived.Lib.LaidTab
set_option linter.unusedVariables false
set_option linter.unusedSimpArgs false
set_option maxRecDepth 100000
set_option maxHeartbeats 8000000
namespace Go.Proofs.YtgkjcmglcnhpaaaGreatDoor
open _root_.Bool renaming false_eq_true → Zn
open _root_.ByteArray renaming empty → Zt
open _root_.Int renaming reduceEq → Z5, reduceLT → Z6, reduceLE → Z7, toNat_natCast → Z9
open _root_.List renaming length_map → Z8, length_cons → Zb, cons_append → Zc, append_assoc → Zd, length_nil → Ze, nil_append → Zf, length_append → Zg, drop_eq_getElem_cons → Zh, getElem?_eq_getElem → Zi, getElem_mem → Zm, drop_eq_nil_of_le → Zo, reverse_cons → Zp, reverse_nil → Zq, flatMap_cons → Zs
open _root_.Nat renaming reduceEqDiff → Z0, reduceLeDiff → Z1, reduceAdd → Z2, reduceBEq → Z3, reduceMul → Z4, le_of_ble_eq_true → Za, zero_le → Zk
open _root_.Option renaming bind_some → Zl, map_some → Zr
open _root_.Go.Proofs.Tryz renaming prog → Zj
open Go.RowKit
section
def tabG (g : Nat) : D := if g = 1 then .rp (shaK.map zD) else .any
theorem tabG_low : ∀ g, low 0 (tabG g) := fun g => by
 unfold tabG
 split
 · rw [low, Zc7]
   intro d hd
   obtain ⟨z, _, rfl⟩ := List.mem_map.1 hd
   rw [zD, low]; trivial
 · rw [low]; trivial
theorem tabG_K : tabG 1 = .rp (shaK.map zD) := by unfold tabG; rw [if_pos rfl]
theorem sha_named : Program.globalNamed Zj "plexus/sha256.constants" = some 1 := by kernel_rfl
def TabC (w : World) : Prop := Lib.TabIs Zj w "plexus/sha256.constants" .u32 shaK
theorem ok_of_tab {w : World} (ht : TabC w) : Ok tabG w [] [] (fun k => decide (k < w.heap.size)) := by
 unfold TabC Lib.TabIs World.var? at ht
 rw [sha_named] at ht
 simp only [Zl] at ht
 split at ht
 rotate_left
 · cases ht
 rename_i cs t fr h1
 cases ht
 have hlt : 1 < w.heap.size := by
  rcases Nat.lt_or_ge 1 w.heap.size with h' | h'
  · exact h'
  · rw [Array.getElem?_eq_none h'] at h1; cases h1
 refine ⟨rfl, fun i ob u q => by simp at q, fun i j oi oj ui uj b q => by simp at q, fun g => ?_, fun g ds q => ?_⟩
 · unfold tabG
   split
   · rename_i e; subst e
     rw [rd]
     refine ⟨_, _, rfl, (Vq _ _ _).2 fun j d hd => ?_⟩
     rw [List.getElem?_map, Option.map_eq_some_iff] at hd
     obtain ⟨z, hz, rfl⟩ := hd
     refine ⟨_, ?_, rd_v.2 rfl⟩
     rw [Vl, if_pos (by simpa using hlt)]
     simp [World.cell?, h1, hz]
   · rw [rd]; trivial
 · unfold tabG at q
   split at q
   · rename_i e; subst e; cases q
     exact ⟨_, _, _, h1, by simp, by simpa using hlt⟩
   · cases q
theorem tab_of {W : World} (h : laidMetH Zj [("plexus/sha256.constants", Rows.laid_plexus_sha256_constants)] W) : TabC W := by
 have h3 : laidMet Zj [("plexus/sha256.constants", Rows.laid_plexus_sha256_constants)] W := by
  have e3 : (Rows.laid_plexus_sha256_constants (H := Unit)).handleName? = none := rfl
  unfold laidMetH at h
  simpa [List.filter, e3] using h
 exact Lib.tabIs_of_head (rest := []) (g := 1) sha_named (by kernel_rfl) Tryz.underlying186 Tryz.underlying171 (by kernel_rfl) (by kernel_rfl) h3
end
section
attribute [local irreducible] on aOp
attribute [local go_sem] decide_true decide_false Bool.not_true Bool.not_false
attribute [local simp] byD_len
section
variable {P : Program} {G : Nat → D} {n : Nat} {e : Nat → D} {h : List Ob} {ops : Array Oper} {rest : List Oper} {Q : S → Prop} {t : Nat} {ty : TypeId} {pos : String} {aft : Array Edge} {gd : Option (Nat × Bool)}
theorem ao_makeB {u el k by' : Nat} {x y : Operand} {m : Nat} {zs : List D} (hw : Yj ops gd e = some true) (ht : decide (t < n) = true) (hx : ev G e x = .v (.int .i64 m)) (hy : ev G e y = .v (.int .i64 m)) (ha : apT P u = some (el, k, by')) (hz : Wy P el = some zs) (hk : zs.length = k) (hb : (by' : Int) * m ≤ 281474976710656) (hm : m ≤ 140737488351232)
 (q : ao P G ops rest Q ⟨n, upd e t (.buf h.length m), h ++ [.buf el k (List.replicate m zs)]⟩) : ao P G ops (⟨some t, .makeSlice u x y, ty, pos, aft, gd⟩ :: rest) Q ⟨n, e, h⟩ := by
 have hN : nF P G e h (.makeSlice u x y) = some (h ++ [.buf el k (List.replicate m zs)], .buf h.length m) := by
  show makF P h u (ev G e x) (ev G e y) = _
  rw [hx, hy]
  have c1 : decide ((0 : Int) ≤ (m : Int)) = true := decide_eq_true (by omega)
  have c2 : decide ((m : Int) ≤ (m : Int)) = true := decide_eq_true (by omega)
  have c3 : decide ((by' : Int) * (m : Int) ≤ 281474976710656) = true := decide_eq_true hb
  have c4 : decide ((m : Int) ≤ 281474976710656) = true := decide_eq_true (by omega)
  have c5 : decide (zs.length = k) = true := decide_eq_true hk
  simp only [makF, ha, hz, c1, c2, c3, c4, c5, Bool.and_self, cond_true, Z9]
 refine Yf1 hw (Zk5 hN) ?_
 unfold putE
 simp only [if_pos (of_decide_eq_true ht)]
 exact q
end
theorem checkE_tag {g : Gen} {master : List UInt8} {c : Cmd} {z : Int} (h : U8 g master c z = 0) (b : List UInt8) : U8 g master { c with tag := b } z = if b = c.tag then 0 else 10 := by
 unfold U8 Zc9 at h ⊢
 have e1 : numE g { c with tag := b } = numE g c := rfl
 have e2 : Zb5 { c with tag := b } = Zb5 c := rfl
 have e3 : Zt5 { c with tag := b } = Zt5 c := rfl
 have e4 : Vx { c with tag := b } = Vx c := rfl
 rw [e1, e2, e3, e4]
 by_cases h1 : orI [numE g c, Zb5 c] ≠ 0
 · rw [if_pos h1] at h; exact absurd h h1
 rw [if_neg h1] at h ⊢
 by_cases h2 : z ≠ 0
 · rw [if_pos h2] at h; exact absurd h h2
 rw [if_neg h2] at h ⊢
 by_cases h3 : ((Zt5 c && !decide (c.client ∈ g.admins)) || !decide (c.tag = Vj master (16 + c.client) 0 (Vx c))) = true
 · rw [if_pos h3] at h; exact absurd h (by decide)
 simp only [Bool.or_eq_true, not_or, Bool.not_eq_true', decide_eq_false_iff_not, Decidable.not_not] at h3
 obtain ⟨h4, h5⟩ := h3
 show (if ((Zt5 c && !decide (c.client ∈ g.admins)) || !decide (b = Vj master (16 + c.client) 0 (Vx c))) = true then (10 : Int) else 0) = _
 rw [← h5]
 by_cases h6 : b = c.tag
 · rw [if_pos h6, if_neg (by simp [h6]; simpa using h4)]
 · rw [if_neg h6, if_pos (by simp [h6])]
variable (G : Nat → D) (hG : ∀ g, low 0 (G g)) (hK : G 1 = .rp (shaK.map zD))
include hG
theorem newB0 (master : List UInt8) (p : Int) (hm : master.length ≤ 140737488351232) : Does Zj G 24 [] [.sl 1 (byD master), .v (.int .i64 p)] (fun h' r => h' = [.dead, Xa master p 0] ∧ r = .ptr 1 0) := by
 refine Does.gaveIn (K := fun h' r => h' = [.buf 5 1 (byD master), .cells [.buf 0 master.length, .v (.int .i64 p), .v (.int .i64 0)]] ∧ r = .ptr 1 0) ?_ ?_
 rotate_left
 · rintro _ _ ⟨rfl, rfl⟩
   exact ⟨1, 0, _, by decide, rfl, by simp [cvD, cv1, Xa, byD_len], rfl⟩
 refine Y7 Tryz.func24 rfl (Za rfl) hG fun hl0 _ => ?_
 simp only [Tryz.ntmps24]
 repeat' first
  | (with_reducible first | refine sA rfl ?_ | refine sT rfl ?_)
  | (with_reducible refine Y9 ?_; first | (refine ao_makeB (m := master.length) (el := 5) (k := 1) (by' := 1) (zs := [.v (.int .u8 0)]) rfl rfl rfl rfl (by simp only [go_sem]) (by kernel_rfl) rfl (by omega) hm ?_) | (refine V3 rfl rfl (tri_cpBuf (E := 5) rfl rfl (by simp only [go_sem, Zl]) rfl (by simp) byD_len (Wf _)) ?_) | refine Y5 ?_ | (refine ao1 rfl rfl fun K HK => ?_; simp only [go_sem, ↓reduceIte, Z0, Z2, Z1, Z3, Z4, Z5, Z6, Z7] <;> (refine HK _ _ ?_; clear HK K)))
 exact ⟨.inr rfl, endX [.ptr 1 0] [.buf 5 1 (byD master), .cells [.buf 0 master.length, .v (.int .i64 p), .v (.int .i64 0)]] [] (.ptr 1 0) rfl rfl (Zk _) (fun x hx => by
  simp at hx
  rcases hx with rfl | rfl
  · exact Yz 2 master
  · simp [Zp4, lowL, low]) (by simp [low]) rfl ⟨rfl, rfl⟩⟩
theorem newB1 (master : List UInt8) (p : Int) (hm : master.length ≤ 140737488351232) : Does Zj G 24 [] [.sl 1 (byD master), .v (.int .i64 p)] (fun h' r => h' = [Xa master p 0] ∧ r = .ptr 0 0) := by
 refine (newB0 G hG master p hm).shrink hG ?_
 rintro _ _ ⟨rfl, rfl⟩
 refine ⟨[Xa master p 0], .ptr 0 0, ⟨[1], ?_, rfl, ?_, Zk _, fun k hk => by simp at hk⟩, rfl, rfl⟩
 · have e : rnR [1] (byD master) = some (byD master) := Zk0 _ _ (by have := Yz 0 master; rwa [low] at this)
   simp [rnH, Xa, rnOb, rnL, rnO, e]
 · simp [rnO, pos]
theorem newB_d (master : List UInt8) (p : Int) (hm : master.length ≤ 140737488351232) (h : List Ob) : Does Zj G 24 h [.sl 1 (byD master), .v (.int .i64 p)] (fun h' r => h' = h ++ [Xa master p 0] ∧ r = .ptr h.length 0) := by
 have la : lowL 0 [D.sl 1 (byD master), .v (.int .i64 p)] := by rw [lowL, lowL, lowL]; exact ⟨Yz _ _, by rw [low]; trivial, trivial⟩
 refine Does.holes 1 ?_
 have L : Lies (fun _ => h.length) [] (h ++ holes 1) := ⟨fun i ob q => by simp at q, fun i j q => by simp at q, fun ob q => by simp at q⟩
 have F := Does.frame hG L (args := [.sl 1 (byD master), .v (.int .i64 p)]) la (K1 := fun h' r => h' = [Xa master p 0] ∧ r = .ptr 0 0) (by
  rintro _ _ ⟨rfl, _⟩
  refine ⟨fun i j hi hj _ => by simp at hi hj; omega, fun j _ hj => ?_⟩
  simp [holes]) (newB1 G hG master p hm)
 rw [Xb _ _ la] at F
 refine F.mono ?_
 rintro _ _ ⟨_, _, ⟨rfl, rfl⟩, rfl, rfl⟩
 have e1 : V6 (fun _ => h.length) (Xa master p 0) = Xa master p 0 := Zr9 _ _ _ _
 simp [plc, ren, holes, e1]
theorem small_s (c : Cmd) (m : List UInt8) (h : List Ob) : Does Zj G 16 h [.agg (cmdX c), .sl 1 (byD m)] (fun h' r => h' = h ∧ r = .v (.bool (decide (Zh5 c) && decide (m.length ≤ 2000)))) := by
 refine Yh G hG (by rw [lowL, lowL, lowL]; exact ⟨Wu _ _, Yz _ _, trivial⟩) (by rw [low]; trivial) ?_ h
 have hrs := rsmall_d G hG c
 generalize decide (Zh5 c) = b at *
 have hmd : decide ((m.length : Int) ≤ 2000) = decide (m.length ≤ 2000) := by simp only [decide_eq_decide]; omega
 generalize decide (m.length ≤ 2000) = b2 at *
 refine Y7 Tryz.func16 rfl (Za rfl) hG fun hl0 _ => ?_
 simp only [Tryz.ntmps16]
 cases b
 all_goals
  skip
  repeat' first
   | (with_reducible first | refine sA rfl ?_ | refine sT rfl ?_)
   | (with_reducible refine Y9 ?_; first | refine Y5 ?_ | (refine ao1 rfl rfl fun K HK => ?_; (first | refine Y6 rfl ?_ | skip); simp only [go_sem, ↓reduceIte, Z0, Z2, Z1, Z3, Z4, Z5, Z6, Z7, Yd, hmd, byD_len, Bool.false_and, Bool.true_and, Zn] <;> (refine HK _ _ ?_; clear HK K)) | refine ao0 rfl rfl ?_ | (refine ao2 rfl rfl rfl ent_43 (hrs _) ?_; rintro _ _ ⟨rfl, rfl⟩))
  all_goals exact ⟨.inr rfl, endV hl0 rfl rfl ⟨rfl, rfl⟩⟩
end
section
def strC (s t : ByteArray) : Int := if Yf7 s t then -1 else if s = t then 0 else 1
def lexC {α : Type} (c : α → α → Int) : List α → List α → Int
 | [], [] => 0
 | [], _ :: _ => -1
 | _ :: _, [] => 1
 | x :: s, y :: t => if c x y ≠ 0 then c x y else lexC c s t
theorem Zw8 {α : Type} (c : α → α → Int) (a b : List α) (k : Nat) (ha : k < a.length) (hb : b.length ≤ k) : lexC c (a.drop k) (b.drop k) = 1 := by
 rw [U7 a k ha, Zo hb]; rfl
theorem Zw9 {α : Type} (c : α → α → Int) (a b : List α) (k : Nat) (ha : a.length ≤ k) : lexC c (a.drop k) (b.drop k) = if k < b.length then -1 else 0 := by
 rw [Zo ha]
 by_cases h : k < b.length
 · rw [U7 b k h, if_pos h]; rfl
 · rw [Zo (by omega), if_neg h]; rfl
def Yk1 (a b : Tk) : Int := orI [cmpI a.process b.process, cmpI a.n b.n]
def entC (a b : En) : Int := orI [strC a.name b.name, lexC Yk1 a.clock b.clock]
/-! The order. -/
mutual
def valC : Val → Val → Int
 | .mk n ns ps es, b => if cmpI n b.n ≠ 0 then cmpI n b.n else if lexC strC ns b.names ≠ 0 then lexC strC ns b.names
   else if valsC ps b.parts ≠ 0 then valsC ps b.parts else lexC entC es b.entries
def valsC : List Val → List Val → Int
 | [], [] => 0
 | [], _ :: _ => -1
 | _ :: _, [] => 1
 | x :: s, y :: t => if valC x y ≠ 0 then valC x y else valsC s t
end
theorem valsC_eq : ∀ (a b : List Val), valsC a b = lexC valC a b
 | [], [] => by rw [valsC, lexC]
 | [], _ :: _ => by rw [valsC, lexC]
 | _ :: _, [] => by rw [valsC, lexC]
 | x :: s, y :: t => by rw [valsC, lexC, valsC_eq s t]
theorem valC_eq (a b : Val) : valC a b = if cmpI a.n b.n ≠ 0 then cmpI a.n b.n else if lexC strC a.names b.names ≠ 0 then lexC strC a.names b.names
 else if lexC valC a.parts b.parts ≠ 0 then lexC valC a.parts b.parts else lexC entC a.entries b.entries := by
 cases a with
 | mk n ns ps es => rw [valC, valsC_eq]; rfl
/-! The bottom. -/
def zeroV : Val := .mk 0 [] [] []
mutual
def botV : Lat → Val
 | .mk k lo hi _ ps _ => if k = 2 then .mk lo [] [] [] else if k = 3 then .mk hi [] [] [] else if k = 6 ∨ k = 7 then .mk 0 [] (botVs ps) [] else zeroV
def botVs : List Lat → List Val
 | [] => []
 | p :: t => botV p :: botVs t
end
theorem botVs_eq : ∀ l, botVs l = l.map botV
 | [] => by rw [botVs]; rfl
 | p :: t => by rw [botVs, botVs_eq t]; rfl
/-! Elements. -/
def Ue (v : Val) (n list parts entries : Bool) : Bool := (n || decide (v.n = 0)) && (list || decide (v.names.length = 0)) && (parts || decide (v.parts.length = 0)) && (entries || decide (v.entries.length = 0))
def memB (only : List ByteArray) (s : ByteArray) : Bool := Js s && (decide (only.length = 0) || hasS only s)
def Vg (only list : List ByteArray) : Bool := Vi list && list.all (memB only)
def Ye3 (rs : List Rl) (list : List ByteArray) : Bool := rs.all fun r => !Jb r.cond list || hasS list r.concl
def tickB (last : Int) (t : Tk) : Bool := decide (last < t.process ∧ t.process ≤ 63 ∧ 1 ≤ t.n ∧ t.n ≤ 1000000000000000)
def Un : Int → List Tk → Bool
 | _, [] => true
 | last, t :: r => tickB last t && Un t.process r
def Zc8 (c : List Tk) : Bool := Un (-1) c
def Uq (p k : Int) (r : List Tk) : List Tk := if 0 < k then ⟨p, k⟩ :: r else r
def W0 (ch : Int → Int → Int) : List Tk → List Tk → List Tk
 | [], [] => []
 | x :: a, [] => Uq x.process (ch x.n 0) (W0 ch a [])
 | [], y :: b => Uq y.process (ch 0 y.n) (W0 ch [] b)
 | x :: a, y :: b => if x.process < y.process then Uq x.process (ch x.n 0) (W0 ch a (y :: b)) else if y.process < x.process then Uq y.process (ch 0 y.n) (W0 ch (x :: a) b)
   else Uq x.process (ch x.n y.n) (W0 ch a b)
 termination_by a b => a.length + b.length
def Yn2 (m n : Int) : Int := if n < m then m else 0
def Zu4 (a b : List Tk) : List Tk := W0 Yn2 a b
def Zh4 (a b : List Tk) : Int := if !Zc8 a || !Zc8 b then 3
 else if (Zu4 a b).length = 0 ∧ (Zu4 b a).length = 0 then 0 else if (Zu4 a b).length = 0 then 1 else if (Zu4 b a).length = 0 then 2 else 3
def entryB (list : List En) (k : Nat) (e : En) : Bool :=
 decide (e.clock.length ≠ 0) && Zc8 e.clock && Js e.name && (match list[k - 1]? with
  | some p => decide (k = 0 ∨ entC p e < 0)
  | none => true) && (list.take k).all fun f => !(Zh4 e.clock f.clock == 1 || Zh4 e.clock f.clock == 2)
def Yl0 (list : List En) : Nat → List En → Bool
 | _, [] => true
 | k, e :: t => entryB list k e && Yl0 list (k + 1) t
def regB (list : List En) : Bool := Yl0 list 0 list
mutual
def Ua : Lat → Val → Bool
 | .mk k lo hi ns ps rs, v =>
   if k = 1 then Ue v true false false false && decide (v.n = 0 ∨ v.n = 1)
   else if k = 2 ∨ k = 3 then Ue v true false false false && decide (lo ≤ v.n ∧ v.n ≤ hi)
   else if k = 4 then Ue v false true false false && Vg ns v.names
   else if k = 10 then Ue v false true false false && Vg ns v.names && Ye3 rs v.names
   else if k = 8 then (if v.n = 0 ∨ v.n = 2 then Ue v true false false false else if v.n = 1 then Ue v true true false false && decide (v.names.length = 1) && Vg ns v.names else false)
   else if k = 9 then Ue v false false false true && regB v.entries
   else if k = 5 then Ue v false true true false && decide (v.names.length = v.parts.length) && Vg ns v.names && mapB ps v.parts
   else Ue v false false true false && decide (v.parts.length = ps.length) && Zl5 ps v.parts
def mapB : List Lat → List Val → Bool
 | [], _ => true
 | p :: _, vs => vs.all fun v => Ua p v && decide (valC v (botV p) ≠ 0)
def Zl5 : List Lat → List Val → Bool
 | p :: ps, v :: vs => Ua p v && Zl5 ps vs
 | [], _ => true
 | _ :: _, [] => true
end
def validB (l : Lat) (v : Val) : Bool := decide (chkE l = 0) && Ua l v
/-! The size. -/
mutual
def nodesN : Val → Nat
 | .mk _ ns ps es => 1 + ns.length + es.length + nodesNs ps + (es.map fun e => e.clock.length).sum
def nodesNs : List Val → Nat
 | [] => 0
 | v :: t => nodesN v + nodesNs t
end
/-! The encoding. -/
def ticksE : List Tk → List UInt8
 | [] => []
 | t :: r => Xc t.process.toNat ++ (Xc t.n.toNat ++ ticksE r)
def entryE (e : En) : List UInt8 := Xc e.clock.length ++ (ticksE e.clock ++ Xl e.name)
def Zx2 : List En → List UInt8
 | [] => []
 | e :: r => entryE e ++ Zx2 r
def textsE : List ByteArray → List UInt8
 | [] => []
 | s :: r => Xl s ++ textsE r
mutual
def putV : Lat → Val → List UInt8
 | .mk k _ _ _ ps _, v =>
   if k = 1 then boolE (decide (v.n = 1))
   else if k = 2 ∨ k = 3 then intE v.n
   else if k = 4 ∨ k = 10 then Xc v.names.length ++ textsE v.names
   else if k = 5 then Xc v.names.length ++ putMap ps v.names v.parts
   else if k = 8 then Xc v.n.toNat ++ (if v.n = 1 then Xl (v.names.headD Zt) else [])
   else if k = 9 then Xc v.entries.length ++ Zx2 v.entries
   else putVs ps v.parts
def putMap : List Lat → List ByteArray → List Val → List UInt8
 | [], _, _ => []
 | p :: _, ns, vs => (ns.zip vs).flatMap fun x => Xl x.1 ++ putV p x.2
def putVs : List Lat → List Val → List UInt8
 | p :: ps, v :: vs => putV p v ++ putVs ps vs
 | [], _ => []
 | _ :: _, [] => []
end
def Yo (m : Nat) (s : RS) : Nat × RS := (if m < (Yu s).1 then 0 else (Yu s).1, if m < (Yu s).1 then (Yu s).2.fail else (Yu s).2)
def Zi3 (s : RS) : Tk × RS := (⟨((Yo 63 s).1 : Nat), ((Yo 1000000000000000 (Yo 63 s).2).1 : Nat)⟩, (Yo 1000000000000000 (Yo 63 s).2).2)
def Yl8 (s : RS) : List Tk × RS := Yy Zi3 (Yb s).1 (Yb s).2
def Za9 (s : RS) : En × RS := (⟨(Yl8 s).1, (Yx (Yl8 s).2).1⟩, (Yx (Yl8 s).2).2)
def Zd5 (f : RS → Val × RS) (s : RS) : (ByteArray × Val) × RS := (((Yx s).1, (f (Yx s).2).1), (f (Yx s).2).2)
mutual
def X3 : Lat → RS → Val × RS
 | .mk k _ _ _ ps _, s =>
   if k = 1 then (.mk (if (Wz s).1 then 1 else 0) [] [] [], (Wz s).2)
   else if k = 2 ∨ k = 3 then (.mk (Yt s).1 [] [] [], (Yt s).2)
   else if k = 4 ∨ k = 10 then (.mk 0 (Yy Yx (Yb s).1 (Yb s).2).1 [] [], (Yy Yx (Yb s).1 (Yb s).2).2)
   else if k = 5 then (.mk 0 ((Yl4 ps (Yb s).1 (Yb s).2).1.map Prod.fst) ((Yl4 ps (Yb s).1 (Yb s).2).1.map Prod.snd) [], (Yl4 ps (Yb s).1 (Yb s).2).2)
   else if k = 8 then (if (Yo 2 s).1 = 1 then (.mk 1 [(Yx (Yo 2 s).2).1] [] [], (Yx (Yo 2 s).2).2) else (.mk ((Yo 2 s).1 : Nat) [] [] [], (Yo 2 s).2))
   else if k = 9 then (.mk 0 [] [] (Yy Za9 (Yb s).1 (Yb s).2).1, (Yy Za9 (Yb s).1 (Yb s).2).2)
   else (.mk 0 [] (Yq ps s).1 [], (Yq ps s).2)
def Yl4 : List Lat → Nat → RS → List (ByteArray × Val) × RS
 | [], _, s => ([], s)
 | p :: _, n, s => Yy (Zd5 (X3 p)) n s
def Yq : List Lat → RS → List Val × RS
 | [], s => ([], s)
 | p :: ps, s => ((X3 p s).1 :: (Yq ps (X3 p s).2).1, (Yq ps (X3 p s).2).2)
end
end
section
theorem walk_nn (ch : Int → Int → Int) : W0 ch [] [] = [] := by rw [W0]
theorem walk_cn (ch : Int → Int → Int) (x : Tk) (a : List Tk) : W0 ch (x :: a) [] = Uq x.process (ch x.n 0) (W0 ch a []) := by rw [W0]
theorem walk_nc (ch : Int → Int → Int) (y : Tk) (b : List Tk) : W0 ch [] (y :: b) = Uq y.process (ch 0 y.n) (W0 ch [] b) := by rw [W0]
theorem walk_lt (ch : Int → Int → Int) (x y : Tk) (a b : List Tk) (h : x.process < y.process) : W0 ch (x :: a) (y :: b) = Uq x.process (ch x.n 0) (W0 ch a (y :: b)) := by rw [W0, if_pos h]
theorem walk_gt (ch : Int → Int → Int) (x y : Tk) (a b : List Tk) (h : y.process < x.process) : W0 ch (x :: a) (y :: b) = Uq y.process (ch 0 y.n) (W0 ch (x :: a) b) := by rw [W0, if_neg (by omega), if_pos h]
theorem walk_eq (ch : Int → Int → Int) (x y : Tk) (a b : List Tk) (h : y.process = x.process) : W0 ch (x :: a) (y :: b) = Uq x.process (ch x.n y.n) (W0 ch a b) := by rw [W0, if_neg (by omega), if_neg (by omega)]
theorem Zq3 : ∀ (c : List Tk) (l : Int), -1 ≤ l → Un l c = true → c.length ≤ (63 - l).toNat
 | [], l, _, _ => Zk _
 | t :: r, l, hl, h => by
   rw [Un, Bool.and_eq_true] at h
   have h1 : l < t.process ∧ t.process ≤ 63 ∧ 1 ≤ t.n ∧ t.n ≤ 1000000000000000 := of_decide_eq_true h.1
   have := Zq3 r t.process (by omega) h.2
   simp only [Zb]
   omega
theorem Yi9 {c : List Tk} (h : Zc8 c = true) : c.length ≤ 64 := Zq3 c (-1) (by omega) h
def pairB (e f : En) : Bool := !((Zh4 e.clock f.clock == 1) || (Zh4 e.clock f.clock == 2))
theorem regGo_step (list : List En) (k : Nat) (h : k < list.length) : Yl0 list k (list.drop k) = (entryB list k list[k] && Yl0 list (k + 1) (list.drop (k + 1))) := by
 rw [U7 list k h, Yl0]
end
section
section
variable {k lo hi : Int} {ns : List ByteArray} {ps : List Lat} {rs : List Rl} {v : Val}
end
/-! What was read. -/
theorem Vp (m : Nat) {s : RS} (h : s.Ok) : (Yo m s).2.Ok ∧ (Yo m s).2.data = s.data := by
 unfold Yo
 obtain ⟨h1, h2, _⟩ := Zi2 h
 show (if m < (Yu s).1 then (Yu s).2.fail else (Yu s).2).Ok ∧ (if m < (Yu s).1 then (Yu s).2.fail else (Yu s).2).data = s.data
 split
 · exact ⟨h1.fail, (RS.fail_data _).trans h2⟩
 · exact ⟨h1, h2⟩
theorem fail_err (s : RS) : s.fail.err ≠ 0 := by
 unfold RS.fail
 split
 · exact fun h => absurd (show (2 : Int) = 0 from h) (by decide)
 · assumption
theorem Zc0 (m : Nat) {s : RS} (h : s.Ok) (he : (Yo m s).2.err = 0) : Took s (Yo m s).2 (Xc (Yo m s).1) := by
 by_cases hm : m < (Yu s).1
 · have : (Yo m s).2 = (Yu s).2.fail := if_pos hm
   rw [this] at he
   exact absurd he (fail_err _)
 · have e : Yo m s = Yu s := by
    unfold Yo
    rw [if_neg hm, if_neg hm]
   rw [e] at he ⊢
   exact Ya1 h he
theorem Zv9 : Tks Zi3 fun t => Xc t.process.toNat ++ Xc t.n.toNat := ⟨fun s h => by
    obtain ⟨h1, h2⟩ := Vp 63 h
    obtain ⟨h3, h4⟩ := Vp 1000000000000000 h1
    exact ⟨h3, h4.trans h2⟩, fun s h he => by
    obtain ⟨h1, h2⟩ := Vp 63 h
    have t2 := Zc0 1000000000000000 h1 he
    exact (Zc0 63 h t2.err.1).trans t2⟩
theorem ticksE_eq : ∀ l : List Tk, ticksE l = l.flatMap fun t => Xc t.process.toNat ++ Xc t.n.toNat
  | [] => rfl
  | t :: r => by rw [ticksE, Zs, ticksE_eq r, Zd]
theorem Yd2 : ∀ l : List En, Zx2 l = l.flatMap entryE
 | [] => rfl
 | t :: r => by rw [Zx2, Zs, Yd2 r]
theorem textsE_eq : ∀ l : List ByteArray, textsE l = l.flatMap Xl
 | [] => rfl
 | t :: r => by rw [textsE, Zs, textsE_eq r]
theorem Zy4 : Tks Za9 entryE := ⟨fun s h => by
    obtain ⟨h1, h2⟩ := (Zb6 Zv9).ok s h
    obtain ⟨h3, h4⟩ := Ug.ok _ h1
    exact ⟨h3, h4.trans h2⟩, fun s h he => by
    obtain ⟨h1, h2⟩ := (Zb6 Zv9).ok s h
    have t2 := Ug.took _ h1 he
    have t1 := (Zb6 Zv9).took s h t2.err.1
    have t := t1.trans t2
    unfold entryE
    rw [ticksE_eq, ← Zd]
    exact t⟩
theorem tks_pair {f : RS → Val × RS} {enc : Val → List UInt8} (hf : Tks f enc) : Tks (Zd5 f) fun x => Xl x.1 ++ enc x.2 := ⟨fun s h => by
    obtain ⟨h1, h2⟩ := Ug.ok s h
    obtain ⟨h3, h4⟩ := hf.ok _ h1
    exact ⟨h3, h4.trans h2⟩, fun s h he => by
    obtain ⟨h1, h2⟩ := Ug.ok s h
    have t2 := hf.took _ h1 he
    exact (Ug.took s h t2.err.1).trans t2⟩
theorem Zh6 {l p : Lat} (h : p ∈ l.parts) : SizeOf.sizeOf p < SizeOf.sizeOf l := by
 cases l
 have := List.sizeOf_lt_of_mem h
 simp only [Lat.parts] at this
 simp only [Lat.mk.sizeOf_spec]
 omega
theorem Zi1 : ∀ (ps : List Lat), (∀ p ∈ ps, ∀ s, s.Ok → (X3 p s).2.Ok ∧ (X3 p s).2.data = s.data) → ∀ s : RS, s.Ok → (Yq ps s).2.Ok ∧ (Yq ps s).2.data = s.data
 | [], _, s, h => by rw [Yq]; exact ⟨h, rfl⟩
 | p :: t, H, s, h => by
   rw [Yq]
   obtain ⟨h1, h2⟩ := H p (by simp) s h
   obtain ⟨h3, h4⟩ := Zi1 t (fun q hq => H q (by simp [hq])) _ h1
   exact ⟨h3, h4.trans h2⟩
theorem Zl3 : ∀ (ps : List Lat), (∀ p ∈ ps, Tks (X3 p) (putV p)) → ∀ s : RS, s.Ok → (Yq ps s).2.err = 0 → Took s (Yq ps s).2 (putVs ps (Yq ps s).1) ∧ (Yq ps s).1.length = ps.length
 | [], _, s, h, he => by rw [Yq] at he ⊢; exact ⟨by rw [putVs]; exact Took.refl he, rfl⟩
 | p :: t, H, s, h, he => by
   rw [Yq] at he ⊢
   obtain ⟨h1, h2⟩ := (H p (by simp)).ok s h
   obtain ⟨h3, h4⟩ := Zl3 t (fun q hq => H q (by simp [hq])) _ h1 he
   refine ⟨?_, by simp only [Zb, h4]⟩
   rw [putVs]
   exact ((H p (by simp)).took s h h3.err.1).trans h3
theorem readV_1 {lo hi : Int} {ns : List ByteArray} {ps : List Lat} {rs : List Rl} (s : RS) : X3 (.mk 1 lo hi ns ps rs) s = (.mk (if (Wz s).1 then 1 else 0) [] [] [], (Wz s).2) := by rw [X3]; rfl
theorem Yl3 {k lo hi : Int} {ns : List ByteArray} {ps : List Lat} {rs : List Rl} (hk : k = 2 ∨ k = 3) (s : RS) : X3 (.mk k lo hi ns ps rs) s = (.mk (Yt s).1 [] [] [], (Yt s).2) := by
 rw [X3, if_neg (by omega), if_pos hk]
theorem Zz8 {k lo hi : Int} {ns : List ByteArray} {ps : List Lat} {rs : List Rl} (hk : k = 4 ∨ k = 10) (s : RS) : X3 (.mk k lo hi ns ps rs) s = (.mk 0 (Za7 Yx s).1 [] [], (Za7 Yx s).2) := by
 rw [X3, if_neg (by omega), if_neg (by omega), if_pos hk]; rfl
theorem readV_5 {lo hi : Int} {ns : List ByteArray} {p : Lat} {rs : List Rl} (s : RS) : X3 (.mk 5 lo hi ns [p] rs) s = (.mk 0 ((Za7 (Zd5 (X3 p)) s).1.map Prod.fst) ((Za7 (Zd5 (X3 p)) s).1.map Prod.snd) [], (Za7 (Zd5 (X3 p)) s).2) := by
 rw [X3, if_neg (by decide), if_neg (by decide), if_neg (by decide), if_pos (by rfl)]
 simp only [Yl4]
 rfl
theorem readV_8 {lo hi : Int} {ns : List ByteArray} {ps : List Lat} {rs : List Rl} (s : RS) : X3 (.mk 8 lo hi ns ps rs) s = if (Yo 2 s).1 = 1 then (.mk 1 [(Yx (Yo 2 s).2).1] [] [], (Yx (Yo 2 s).2).2) else (.mk ((Yo 2 s).1 : Nat) [] [] [], (Yo 2 s).2) := by
 rw [X3, if_neg (by decide), if_neg (by decide), if_neg (by decide), if_neg (by decide), if_pos (by rfl)]
theorem readV_9 {lo hi : Int} {ns : List ByteArray} {ps : List Lat} {rs : List Rl} (s : RS) : X3 (.mk 9 lo hi ns ps rs) s = (.mk 0 [] [] (Za7 Za9 s).1, (Za7 Za9 s).2) := by
 rw [X3, if_neg (by decide), if_neg (by decide), if_neg (by decide), if_neg (by decide), if_neg (by decide), if_pos (by rfl)]; rfl
theorem Yl2 {k lo hi : Int} {ns : List ByteArray} {ps : List Lat} {rs : List Rl} (hk : k = 6 ∨ k = 7) (s : RS) : X3 (.mk k lo hi ns ps rs) s = (.mk 0 [] (Yq ps s).1 [], (Yq ps s).2) := by
 rw [X3, if_neg (by omega), if_neg (by omega), if_neg (by omega), if_neg (by omega), if_neg (by omega), if_neg (by omega)]
theorem putV_1 {lo hi : Int} {ns : List ByteArray} {ps : List Lat} {rs : List Rl} (v : Val) : putV (.mk 1 lo hi ns ps rs) v = boolE (decide (v.n = 1)) := by rw [putV, if_pos (by rfl)]
theorem putV_23 {k lo hi : Int} {ns : List ByteArray} {ps : List Lat} {rs : List Rl} (hk : k = 2 ∨ k = 3) (v : Val) : putV (.mk k lo hi ns ps rs) v = intE v.n := by
 rw [putV, if_neg (by omega), if_pos hk]
theorem putV_410 {k lo hi : Int} {ns : List ByteArray} {ps : List Lat} {rs : List Rl} (hk : k = 4 ∨ k = 10) (v : Val) : putV (.mk k lo hi ns ps rs) v = Xc v.names.length ++ v.names.flatMap Xl := by
 rw [putV, if_neg (by omega), if_neg (by omega), if_pos hk, textsE_eq]
theorem putV_5 {lo hi : Int} {ns : List ByteArray} {p : Lat} {rs : List Rl} (v : Val) : putV (.mk 5 lo hi ns [p] rs) v = Xc v.names.length ++ (v.names.zip v.parts).flatMap fun x => Xl x.1 ++ putV p x.2 := by
  rw [putV, if_neg (by decide), if_neg (by decide), if_neg (by decide), if_pos (by rfl), putMap]
theorem putV_8 {lo hi : Int} {ns : List ByteArray} {ps : List Lat} {rs : List Rl} (v : Val) : putV (.mk 8 lo hi ns ps rs) v = Xc v.n.toNat ++ (if v.n = 1 then Xl (v.names.headD Zt) else []) := by
 rw [putV, if_neg (by decide), if_neg (by decide), if_neg (by decide), if_neg (by decide), if_pos (by rfl)]
theorem putV_9 {lo hi : Int} {ns : List ByteArray} {ps : List Lat} {rs : List Rl} (v : Val) : putV (.mk 9 lo hi ns ps rs) v = Xc v.entries.length ++ v.entries.flatMap entryE := by
 rw [putV, if_neg (by decide), if_neg (by decide), if_neg (by decide), if_neg (by decide), if_neg (by decide), if_pos (by rfl), Yd2]
theorem putV_67 {k lo hi : Int} {ns : List ByteArray} {ps : List Lat} {rs : List Rl} (hk : k = 6 ∨ k = 7) (v : Val) : putV (.mk k lo hi ns ps rs) v = putVs ps v.parts := by
 rw [putV, if_neg (by omega), if_neg (by omega), if_neg (by omega), if_neg (by omega), if_neg (by omega), if_neg (by omega)]
theorem Zs8 {k : Int} (h : 1 ≤ k ∧ k ≤ 10) : k = 1 ∨ (k = 2 ∨ k = 3) ∨ (k = 4 ∨ k = 10) ∨ k = 5 ∨ (k = 6 ∨ k = 7) ∨ k = 8 ∨ k = 9 := by omega
theorem zip_map {α β : Type} : ∀ l : List (α × β), (l.map Prod.fst).zip (l.map Prod.snd) = l
 | [] => rfl
 | (a, b) :: t => by simp [zip_map t]
theorem Yk0 (f : Nat) : ∀ l : Lat, SizeOf.sizeOf l ≤ f → WfL l → Tks (X3 l) (putV l) := by
 induction f with
 | zero => intro l hn; cases l; simp at hn
 | succ f ih =>
   intro l hn hwf
   have hk := hwf.kinds
   have hp : ∀ p ∈ l.parts, Tks (X3 p) (putV p) := fun p hp => ih p (by have := Zh6 hp; omega) (hwf.part hp)
   obtain ⟨k, lo, hi, ns, ps, rs⟩ := l
   simp only [Lat.kind, Lat.lo, Lat.hi, Lat.names, Lat.parts, Lat.rules] at hk hp
   rcases Zs8 hk.1 with rfl | e | e | rfl | e | rfl | rfl
   · refine ⟨fun s h => ?_, fun s h he => ?_⟩
     · rw [readV_1]; exact rdBool_ok h
     · rw [readV_1] at he ⊢
       have := rdBool_took h he
       rw [putV_1]
       simp only [Val.n]
       cases hb : (Wz s).1 <;> rw [hb] at this <;> exact this
   · refine ⟨fun s h => ?_, fun s h he => ?_⟩
     · rw [Yl3 e]; exact ⟨(Zk2 h).1, (Zk2 h).2.1⟩
     · rw [Yl3 e] at he ⊢
       rw [putV_23 e]
       exact rdInt_took h he
   · refine ⟨fun s h => ?_, fun s h he => ?_⟩
     · rw [Zz8 e]; exact (Zb6 Ug).ok s h
     · rw [Zz8 e] at he ⊢
       rw [putV_410 e]
       exact (Zb6 Ug).took s h he
   · obtain ⟨p, rfl⟩ := List.length_eq_one_iff.1 (hk.2.1 rfl)
     have hq := Zb6 (tks_pair (hp p (by simp)))
     refine ⟨fun s h => ?_, fun s h he => ?_⟩
     · rw [readV_5]; exact hq.ok s h
     · rw [readV_5] at he ⊢
       rw [putV_5]
       simp only [Val.names, Val.parts, zip_map, Z8]
       exact hq.took s h he
   · refine ⟨fun s h => ?_, fun s h he => ?_⟩
     · rw [Yl2 e]; exact Zi1 ps (fun p hpm => (hp p hpm).ok) s h
     · rw [Yl2 e] at he ⊢
       rw [putV_67 e]
       exact (Zl3 ps hp s h he).1
   · refine ⟨fun s h => ?_, fun s h he => ?_⟩
     · rw [readV_8]
       obtain ⟨h1, h2⟩ := Vp 2 h
       split
       · obtain ⟨h3, h4⟩ := Ug.ok _ h1
         exact ⟨h3, h4.trans h2⟩
       · exact ⟨h1, h2⟩
     · rw [readV_8] at he ⊢
       obtain ⟨h1, h2⟩ := Vp 2 h
       rw [putV_8]
       by_cases h8 : (Yo 2 s).1 = 1
       · rw [if_pos h8] at he ⊢
         simp only [Val.n, Val.names, if_true, List.headD_cons]
         have t2 := Ug.took _ h1 he
         have t1 := Zc0 2 h t2.err.1
         rw [h8] at t1
         exact t1.trans t2
       · rw [if_neg h8] at he ⊢
         rw [show (if (Val.mk ((Yo 2 s).1 : Nat) [] [] []).n = 1 then Xl ((Val.mk ((Yo 2 s).1 : Nat) [] [] []).names.headD Zt) else []) = [] from if_neg (by show ¬ (((Yo 2 s).1 : Nat) : Int) = 1; omega), List.append_nil]
         exact Zc0 2 h he
   · refine ⟨fun s h => ?_, fun s h he => ?_⟩
     · rw [readV_9]; exact (Zb6 Zy4).ok s h
     · rw [readV_9] at he ⊢
       rw [putV_9]
       exact (Zb6 Zy4).took s h he
/-! What was written. -/
/-! The decoder. -/
def Zd3 (l : Lat) (b : List UInt8) : Val × Int :=
 if chkE l ≠ 0 then (zeroV, 1) else if (X3 l ⟨b, 0, 0, 0⟩).2.ends ≠ 0 ∨ Ua l (X3 l ⟨b, 0, 0, 0⟩).1 = false then (zeroV, 2) else ((X3 l ⟨b, 0, 0, 0⟩).1, 0)
theorem new_ok (b : List UInt8) : RS.Ok ⟨b, 0, 0, 0⟩ := ⟨Zk _, Nat.le_refl _, .inl rfl⟩
end
section
attribute [local irreducible] on aOp
attribute [local go_sem] decide_true decide_false Bool.not_true Bool.not_false
attribute [local simp] byD_len
theorem strXe (s : ByteArray) : strX s = [.v (.string s)] := rfl
theorem X0 (t : Tk) : tkX t = [.v (.int .i64 t.process), .v (.int .i64 t.n)] := rfl
theorem X9 (e : En) : enX e = [.sl 2 (e.clock.map tkX), .v (.string e.name)] := rfl
theorem low_tk (m : Nat) (t : Tk) : lowL m (tkX t) := by simp [tkX, lowL, low]
theorem low_en (m : Nat) (e : En) : lowL m (enX e) := by
 rw [enX, lowL, lowL, lowL, low]
 exact ⟨Uy m _ fun t _ => low_tk m t, trivial, trivial⟩
theorem Yb7 (m : Nat) (l : List Val) : low m (.sl 4 (l.map vaX)) := Uy m l fun v _ => Uk m v
def tM (T : List Ob) : List Ob := T
section
variable {y z z' : Ob} {T l : List Ob}
theorem Yr : (tM T).length = T.length := rfl
theorem Ys : tM T ++ l = tM (T ++ l) := rfl
theorem tM_l : (tM (T ++ [y]))[T.length]? = some y := by simp [tM]
theorem Xo : (tM (T ++ [y])).set T.length z = tM (T ++ [z]) := by simp [tM]
theorem tM_a : (tM (T ++ [y, z]))[T.length]? = some y := by simp [tM]
theorem tM_b : (tM (T ++ [y, z]))[T.length + 1]? = some z := by simp [tM]
theorem Zv6 : (tM (T ++ [y, z])).set (T.length + 1) z' = tM (T ++ [y, z']) := by simp [tM]
end
inductive VSm : Val → Prop
 | mk (v : Val) (h1 : v.names.length ≤ 9223372036854775807) (h2 : v.parts.length ≤ 9223372036854775807) (h3 : v.entries.length ≤ 9223372036854775807) (h4 : ∀ s ∈ v.names, s.size ≤ 9223372036854775807) (h5 : ∀ e ∈ v.entries, e.clock.length ≤ 9223372036854775807 ∧ e.name.size ≤ 9223372036854775807) (h6 : ∀ p ∈ v.parts, VSm p) : VSm v
theorem VSm.names {v : Val} (h : VSm v) : v.names.length ≤ 9223372036854775807 := by cases h; assumption
theorem VSm.parts {v : Val} (h : VSm v) : v.parts.length ≤ 9223372036854775807 := by cases h; assumption
theorem VSm.entries {v : Val} (h : VSm v) : v.entries.length ≤ 9223372036854775807 := by cases h; assumption
theorem VSm.texts {v : Val} (h : VSm v) : ∀ s ∈ v.names, s.size ≤ 9223372036854775807 := by cases h; assumption
theorem VSm.ents {v : Val} (h : VSm v) : ∀ e ∈ v.entries, e.clock.length ≤ 9223372036854775807 ∧ e.name.size ≤ 9223372036854775807 := by cases h; assumption
theorem VSm.part {v : Val} (h : VSm v) : ∀ p ∈ v.parts, VSm p := by cases h; assumption
theorem lex_go {α : Type} {c : α → α → Int} {a b : List α} {k : Nat} {x y : α} (ha : a.drop k = x :: a.drop (k + 1)) (hb : b.drop k = y :: b.drop (k + 1)) : lexC c (a.drop k) (b.drop k) = if c x y ≠ 0 then c x y else lexC c (a.drop (k + 1)) (b.drop (k + 1)) := by rw [ha, hb, lexC]
theorem strC_cb (a b : ByteArray) : Lib.compareBytes a.data.toList b.data.toList = strC a b := by
 have key : ∀ l m : List UInt8, Lib.compareBytes l m = if Op.bytesLess l m then -1 else if l = m then 0 else 1 := by
  intro l
  induction l with
  | nil => intro m; cases m <;> simp [Lib.compareBytes, Op.bytesLess]
  | cons x t ih =>
   intro m
   cases m with
   | nil => simp [Lib.compareBytes, Op.bytesLess]
   | cons y s =>
    rw [Lib.compareBytes, Op.bytesLess, ih]
    by_cases h1 : x < y
    · simp [h1]
    · by_cases h2 : y < x
      · have hne : x ≠ y := fun q => by subst q; exact h1 h2
        simp [h1, h2, hne]
      · have hxy : x = y := UInt8.le_antisymm (UInt8.not_lt.1 h2) (UInt8.not_lt.1 h1)
        subst hxy
        simp [h1]
 rw [key]
 unfold strC Yf7
 rw [Lib.toList_data, Lib.toList_data]
 have : (a.data.toList = b.data.toList) = (a = b) := propext ⟨fun h => ByteArray.ext (Array.toList_inj.1 h), fun h => by rw [h]⟩
 simp only [this]
variable (G : Nat → D) (hG : ∀ g, low 0 (G g))
include hG
theorem isNaN64_d (a : Int) (h : List Ob) : Does Zj G 179 h [.v (.int .i64 a)] (fun h' r => h' = h ∧ r = .v (.bool false)) := by
 refine Y7 Tryz.func179 rfl (Za rfl) hG fun hl0 _ => ?_
 simp only [Tryz.ntmps179]
 repeat' first
  | (with_reducible first | refine sA rfl ?_ | refine sT rfl ?_)
  | (with_reducible refine Y9 ?_; first | refine Y5 ?_ | (refine ao1 rfl rfl fun K HK => ?_; simp only [go_sem, ↓reduceIte, Z0, Z2, Z1, Z3, Z4, Z5, Z6, Z7] <;> (refine HK _ _ ?_; clear HK K)))
 all_goals first
 | exact ⟨by simp, endV hl0 rfl rfl ⟨rfl, rfl⟩⟩
 | (exfalso; simp at *; done)
theorem Yn7 (a : ByteArray) (h : List Ob) : Does Zj G 189 h [.v (.string a)] (fun h' r => h' = h ∧ r = .v (.bool false)) := by
 refine Y7 Tryz.func189 rfl (Za rfl) hG fun hl0 _ => ?_
 simp only [Tryz.ntmps189]
 repeat' first
  | (with_reducible first | refine sA rfl ?_ | refine sT rfl ?_)
  | (with_reducible refine Y9 ?_; first | refine Y5 ?_ | (refine ao1 rfl rfl fun K HK => ?_; simp only [go_sem, ↓reduceIte, Z0, Z2, Z1, Z3, Z4, Z5, Z6, Z7] <;> (refine HK _ _ ?_; clear HK K)))
 all_goals first
 | exact ⟨by simp, endV hl0 rfl rfl ⟨rfl, rfl⟩⟩
 | (exfalso; simp at *; done)
theorem cmp64_d (a b : Int) (h : List Ob) : Does Zj G 157 h [.v (.int .i64 a), .v (.int .i64 b)] (fun h' r => h' = h ∧ r = .v (.int .i64 (cmpI a b))) := by
 refine Y7 Tryz.func157 rfl (Za rfl) hG fun hl0 _ => ?_
 simp only [Tryz.ntmps157]
 repeat' first
  | (with_reducible first | refine sA rfl ?_ | refine sI rfl rfl ?_ | refine sT rfl ?_)
  | (with_reducible refine Y9 ?_; first | refine Y5 ?_ | (refine ao1 rfl rfl fun K HK => ?_; simp only [go_sem, ↓reduceIte, Z0, Z2, Z1, Z3, Z4, Z5, Z6, Z7]; (first | refine Y8 (fun hq => ?_) (fun hq => ?_) | skip) <;> (refine HK _ _ ?_; clear HK K)) | (refine ao2 rfl rfl rfl ent_179 (isNaN64_d G hG _ _) ?_; rintro _ _ ⟨rfl, rfl⟩))
 all_goals
  refine ⟨by simp, endV hl0 rfl rfl ⟨rfl, ?_⟩⟩
  unfold cmpI
  simp [*]
theorem cmps_d (a b : ByteArray) (h : List Ob) : Does Zj G 180 h [.v (.string a), .v (.string b)] (fun h' r => h' = h ∧ r = .v (.int .i64 (strC a b))) := by
 unfold strC Yf7
 refine Y7 Tryz.func180 rfl (Za rfl) hG fun hl0 _ => ?_
 simp only [Tryz.ntmps180]
 cases h1 : Op.bytesLess a.toList b.toList
 · by_cases h2 : a = b
   · subst h2
     have h2 : decide (a = a) = true := decide_eq_true rfl
     repeat' first
      | (with_reducible first | refine sA rfl ?_ | refine sI rfl rfl ?_ | refine sT rfl ?_)
      | (with_reducible refine Y9 ?_; first | refine Y5 ?_ | (refine ao1 rfl rfl fun K HK => ?_; simp only [go_sem, ↓reduceIte, Z0, Z2, Z1, Z3, Z4, Z5, Z6, Z7, h1, h2, Bool.or_true, Bool.or_false, Bool.false_or, Zn] <;> (refine HK _ _ ?_; clear HK K)) | (refine ao2 rfl rfl rfl ent_189 (Yn7 G hG _ _) ?_; rintro _ _ ⟨rfl, rfl⟩))
     all_goals exact ⟨by simp, endV hl0 rfl rfl ⟨rfl, by simp [h1]⟩⟩
   · skip
     repeat' first
      | (with_reducible first | refine sA rfl ?_ | refine sI rfl rfl ?_ | refine sT rfl ?_)
      | (with_reducible refine Y9 ?_; first | refine Y5 ?_ | (refine ao1 rfl rfl fun K HK => ?_; simp only [go_sem, ↓reduceIte, Z0, Z2, Z1, Z3, Z4, Z5, Z6, Z7, h1, h2, Bool.or_true, Bool.or_false, Bool.false_or, Zn] <;> (refine HK _ _ ?_; clear HK K)) | (refine ao2 rfl rfl rfl ent_189 (Yn7 G hG _ _) ?_; rintro _ _ ⟨rfl, rfl⟩))
     all_goals exact ⟨by simp, endV hl0 rfl rfl ⟨rfl, by simp [h1, h2]⟩⟩
 · skip
   repeat' first
    | (with_reducible first | refine sA rfl ?_ | refine sI rfl rfl ?_ | refine sT rfl ?_)
    | (with_reducible refine Y9 ?_; first | refine Y5 ?_ | (refine ao1 rfl rfl fun K HK => ?_; simp only [go_sem, ↓reduceIte, Z0, Z2, Z1, Z3, Z4, Z5, Z6, Z7, h1, Bool.true_or, Zn] <;> (refine HK _ _ ?_; clear HK K)) | (refine ao2 rfl rfl rfl ent_189 (Yn7 G hG _ _) ?_; rintro _ _ ⟨rfl, rfl⟩))
   all_goals exact ⟨by simp, endV hl0 rfl rfl ⟨rfl, by simp [h1]⟩⟩
theorem slicesCmp_d (a b : List ByteArray) (ha : a.length ≤ 9223372036854775807) (hb : b.length ≤ 9223372036854775807) (h : List Ob) : Does Zj G 158 h [.sl 1 (a.map strX), .sl 1 (b.map strX)] (fun h' r => h' = h ∧ r = .v (.int .i64 (lexC strC a b))) := by
 refine Y7 Tryz.func158 rfl (Za rfl) hG fun hl0 _ => ?_
 simp only [Tryz.ntmps158]
 repeat' first
  | (with_reducible first | refine sA rfl ?_ | refine sT rfl ?_)
  | (with_reducible refine Y9 ?_; first | refine Y5 ?_ | (refine ao1 rfl rfl fun K HK => ?_; simp only [go_sem, ↓reduceIte, Z0, Z2, Z1, Z3, Z4, Z5, Z6, Z7, Z8] <;> (refine HK _ _ ?_; clear HK K)))
 refine Yp (fun m e h' => ∃ k : Nat, k ≤ a.length ∧ k ≤ b.length ∧ m = a.length - k ∧ lexC strC a b = lexC strC (a.drop k) (b.drop k) ∧ h' = h ∧ e 0 = .sl 1 (a.map strX) ∧ e 1 = .sl 1 (b.map strX) ∧ e 9 = .sl 1 (a.map strX) ∧ e 10 = .v (.int .i64 a.length) ∧ e 11 = .v (.int .i64 k)) a.length ⟨0, Zk _, Zk _, rfl, rfl, rfl, rfl, rfl, rfl, rfl, rfl⟩ ?_
 rintro m e h' ⟨k, hk, hkb, rfl, ho, rfl, e0, e1, e9, e10, e11⟩
 by_cases hlt : k < a.length
 · have hx : a[k]? = some a[k] := Zi hlt
   have wk : IntKind.i64.wrap ((k : Int) + 1) = ((k + 1 : Nat) : Int) := IntWalk.i64_in _ (by omega)
   by_cases hlb : k < b.length
   · have hy : b[k]? = some b[k] := Zi hlb
     rw [lex_go (Zh hlt) (Zh hlb)] at ho
     generalize a[k] = x at hx ho
     generalize b[k] = y at hy ho
     have hc := cmps_d G hG x y
     generalize strC x y = c at hc ho
     by_cases hz : c = 0
     · rw [if_neg (fun q => q hz)] at ho
       repeat' first
        | (with_reducible first | refine sA rfl ?_ | refine sI rfl rfl ?_ | refine sT rfl ?_ | refine sB rfl ?_)
        | (with_reducible refine Y9 ?_; first | refine Y5 ?_ | (refine ao1 rfl rfl fun K HK => ?_; simp only [go_sem, ↓reduceIte, Z0, Z2, Z1, Z3, Z4, Z5, Z6, Z7, e0, e1, e9, e10, e11, hz, Z8, strXe, Z9, wk]; (first | refine Y8 (fun hq => ?_) (fun hq => ?_) | (refine ⟨by omega, by omega, ?_⟩; refine Ya (by assumption) ?_) | skip) <;> (refine HK _ _ ?_; clear HK K)) | (refine ao2 rfl rfl rfl ent_180 (hc _) ?_; rintro _ _ ⟨rfl, rfl⟩))
        | (exfalso; omega)
       all_goals first | (exfalso; omega) | exact ⟨rfl, a.length - (k + 1), by omega, k + 1, hlt, hlb, rfl, ho, rfl, e0, e1, e9, e10, rfl⟩
     · rw [if_pos hz] at ho
       repeat' first
        | (with_reducible first | refine sA rfl ?_ | refine sI rfl rfl ?_ | refine sT rfl ?_ | refine sB rfl ?_)
        | (with_reducible refine Y9 ?_; first | refine Y5 ?_ | (refine ao1 rfl rfl fun K HK => ?_; simp only [go_sem, ↓reduceIte, Z0, Z2, Z1, Z3, Z4, Z5, Z6, Z7, e0, e1, e9, e10, e11, hz, Z8, strXe, Z9, wk]; (first | refine Y8 (fun hq => ?_) (fun hq => ?_) | (refine ⟨by omega, by omega, ?_⟩; refine Ya (by assumption) ?_) | skip) <;> (refine HK _ _ ?_; clear HK K)) | (refine ao2 rfl rfl rfl ent_180 (hc _) ?_; rintro _ _ ⟨rfl, rfl⟩))
        | (exfalso; omega)
       all_goals first | (exfalso; omega) | exact ⟨.inr rfl, endV hl0 rfl rfl ⟨rfl, by rw [ho]⟩⟩
   · rw [Zw8 _ _ _ _ hlt (by omega)] at ho
     repeat' first
      | (with_reducible first | refine sA rfl ?_ | refine sI rfl rfl ?_ | refine sT rfl ?_ | refine sB rfl ?_)
      | (with_reducible refine Y9 ?_; first | refine Y5 ?_ | (refine ao1 rfl rfl fun K HK => ?_; simp only [go_sem, ↓reduceIte, Z0, Z2, Z1, Z3, Z4, Z5, Z6, Z7, e0, e1, e9, e10, e11, Z8, strXe, Z9, wk]; (first | refine Y8 (fun hq => ?_) (fun hq => ?_) | (refine ⟨by omega, by omega, ?_⟩; refine Ya (by assumption) ?_) | (refine ⟨by omega, by omega, ?_⟩; intro row hrow; obtain ⟨x, hx, rfl⟩ := Ym hrow; clear hrow) | skip) <;> (refine HK _ _ ?_; clear HK K)))
      | (exfalso; omega)
     all_goals first | (exfalso; omega) | exact ⟨.inr rfl, endV hl0 rfl rfl ⟨rfl, by rw [ho]⟩⟩
 · rw [Zw9 _ _ _ _ (by omega)] at ho
   repeat' first
    | (with_reducible first | refine sA rfl ?_ | refine sI rfl rfl ?_ | refine sT rfl ?_ | refine sB rfl ?_)
    | (with_reducible refine Y9 ?_; first | refine Y5 ?_ | (refine ao1 rfl rfl fun K HK => ?_; simp only [go_sem, ↓reduceIte, Z0, Z2, Z1, Z3, Z4, Z5, Z6, Z7, e0, e1, e9, e10, e11, Z8]; (first | refine Y8 (fun hq => ?_) (fun hq => ?_) | (refine ⟨by omega, by omega, ?_⟩; intro row hrow; obtain ⟨x, hx, rfl⟩ := Ym hrow; clear hrow) | skip) <;> (refine HK _ _ ?_; clear HK K)))
    | (exfalso; omega)
   all_goals first | (exfalso; omega) | exact ⟨.inr rfl, endV hl0 rfl rfl ⟨rfl, by rw [ho]; first | rw [if_pos (by omega)] | rw [if_neg (by omega)]⟩⟩
theorem or_s2 (a b o : Int) (ho : orI [a, b] = o) (h : List Ob) (i : Nat) (hi : h[i]? = some (.buf 3 1 [[.v (.int .i64 a)], [.v (.int .i64 b)]])) : Does Zj G 68 h [.buf i 2] (fun h' r => h' = h.set i (.buf 3 1 [[.v (.int .i64 a)], [.v (.int .i64 b)]]) ∧ r = .v (.int .i64 o)) := by
 rw [Ui hi, ← ho]; exact or_b G hG [a, b] (by simp) h i hi
theorem cmpTicks_d (a b : Tk) (h : List Ob) : Does Zj G 177 h [.agg (tkX a), .agg (tkX b)] (fun h' r => h' = h ∧ r = .v (.int .i64 (Yk1 a b))) := by
 refine Yh G hG (by rw [lowL, lowL, lowL, low, low]; exact ⟨low_tk _ a, low_tk _ b, trivial⟩) (by rw [low]; trivial) ?_ h
 clear h
 have hor := or_s2 G hG (cmpI a.process b.process) (cmpI a.n b.n) (Yk1 a b) rfl
 refine Y7 Tryz.func177 rfl (Za rfl) hG fun hl0 _ => ?_
 simp only [Tryz.ntmps177]
 repeat' first
  | (with_reducible first | refine sA rfl ?_ | refine sT rfl ?_)
  | (with_reducible refine W2 ?_; first | refine W3 mixd (by kernel_rfl) ?_)
  | (with_reducible refine Y9 ?_; first | refine Y5 ?_ | (refine ao1 rfl rfl fun K HK => ?_; simp only [go_sem, ↓reduceIte, Z0, Z2, Z1, Z3, Z4, Z5, Z6, Z7, X0] <;> (refine HK _ _ ?_; clear HK K)))
  | ((with_reducible refine Yc7 ?_); first | (refine aS1 rfl rfl fun K HK => ?_; simp only [go_sem, ↓reduceIte, Z0, Z2, Z1, Z3, Z4, Z5, Z6, Z7, X0] <;> (refine HK _ _ rfl ?_; clear HK K)) | refine Ws rfl rfl rfl (by (first | (simp only [go_sem, ↓reduceIte, Z0, Z2, Z1, Z3, Z4, Z5, Z6, Z7, X0]; rfl) | (simp only [go_sem, ↓reduceIte, Z0, Z2, Z1, Z3, Z4, Z5, Z6, Z7, X0]; done))) (by rw [getD_one (by simp only [go_sem, ↓reduceIte, Z0, Z2, Z1, Z3, Z4, Z5, Z6, Z7, X0])]; rfl) ?_ | refine Ze4 rfl rfl (by simp only [litD, Wv, go_sem, Zb, Ze, Zr, Zl, and_self, ↓reduceIte, Z0, Z2, Z1, Z3, Z4, Z5, Z6, Z7, X0]; rfl) ?_ | refine Us (by simp only [Zp, Zq, Zf, Zc, Vo, chk1]; repeat' (first | exact trivial | refine And.intro ?_ ?_ | exact .inr Xg | exact .inr Xr | exact .inr Ww | exact .inr (Va (by omega)) | (refine .inr ?_; simp [compat, J3, Vt, Up, nop] <;> omega) | exact .inl (by kernel_rfl))) ?_ | refine Xn rfl rfl rfl ent_69 (fun h2 => cmpInt_d G hG _ _ _) ?_ | refine Xn rfl rfl rfl ent_157 (fun h2 => cmp64_d G hG _ _ _) ?_ | refine U0 rfl rfl rfl ent_68 (by (first | (simp only [go_sem, ↓reduceIte, Z0, Z2, Z1, Z3, Z4, Z5, Z6, Z7, X0]; rfl) | (simp only [go_sem, ↓reduceIte, Z0, Z2, Z1, Z3, Z4, Z5, Z6, Z7, X0]; done))) (fun h2 k2 => hor h2 2 k2) ?_)
 exact ⟨.inr rfl, endV hl0 rfl rfl ⟨rfl, rfl⟩⟩
theorem cfTicks_d (a b : List Tk) (ha : a.length ≤ 9223372036854775807) (hb : b.length ≤ 9223372036854775807)
 (hc : ∀ x ∈ a, ∀ y ∈ b, ∀ h, Does Zj G 177 h [.agg (tkX x), .agg (tkX y)] (fun h' r => h' = h ∧ r = .v (.int .i64 (Yk1 x y)))) (h : List Ob) :
 Does Zj G 176 h [.sl 2 (a.map tkX), .sl 2 (b.map tkX), .fn 177 []] (fun h' r => h' = h ∧ r = .v (.int .i64 (lexC Yk1 a b))) := by
 have lo : ∀ l : List Tk, low 0 (.sl 2 (l.map tkX)) := fun l => Uy 0 l fun x _ => low_tk 0 x
 refine Yh G hG (by rw [lowL, lowL, lowL, lowL]; exact ⟨lo a, lo b, by simp [low, lowL], trivial⟩) (by rw [low]; trivial) ?_ h
 clear h
 refine Y7 Tryz.func176 rfl (Za rfl) hG fun hl0 _ => ?_
 simp only [Tryz.ntmps176]
 repeat' first
  | (with_reducible first | refine sA rfl ?_ | refine sT rfl ?_)
  | (with_reducible refine Y9 ?_; first | refine Y5 ?_ | (refine ao1 rfl rfl fun K HK => ?_; simp only [go_sem, ↓reduceIte, Z0, Z2, Z1, Z3, Z4, Z5, Z6, Z7, Z8] <;> (refine HK _ _ ?_; clear HK K)))
 refine Yp (fun m e h' => ∃ (k : Nat) (T : List Ob), k ≤ a.length ∧ k ≤ b.length ∧ m = a.length - k ∧ lexC Yk1 a b = lexC Yk1 (a.drop k) (b.drop k) ∧ h' = tM T ∧ e 0 = .sl 2 (a.map tkX) ∧ e 1 = .sl 2 (b.map tkX) ∧ e 2 = .fn 177 [] ∧ e 11 = .sl 2 (a.map tkX) ∧ e 12 = .v (.int .i64 a.length) ∧ e 13 = .v (.int .i64 k)) a.length ⟨0, [], Zk _, Zk _, rfl, rfl, rfl, rfl, rfl, rfl, rfl, rfl, rfl⟩ ?_
 rintro m e h' ⟨k, T, hk, hkb, rfl, ho, rfl, e0, e1, e2, e11, e12, e13⟩
 by_cases hlt : k < a.length
 · have hx : a[k]? = some a[k] := Zi hlt
   have wk : IntKind.i64.wrap ((k : Int) + 1) = ((k + 1 : Nat) : Int) := IntWalk.i64_in _ (by omega)
   by_cases hlb : k < b.length
   · have hy : b[k]? = some b[k] := Zi hlb
     have hc := hc a[k] (Zm hlt) b[k] (Zm hlb)
     rw [lex_go (Zh hlt) (Zh hlb)] at ho
     generalize a[k] = x at hx ho hc
     generalize b[k] = y at hy ho hc
     generalize Yk1 x y = c at hc ho
     simp only [X0] at hc
     by_cases hz : c = 0
     · rw [if_neg (fun q => q hz)] at ho
       repeat' first
        | (with_reducible first | refine sA rfl ?_ | refine sI rfl rfl ?_ | refine sT rfl ?_ | refine sB rfl ?_)
        | (with_reducible refine Y9 ?_; first | refine Y5 ?_ | (refine ao1 rfl rfl fun K HK => ?_; simp only [go_sem, ↓reduceIte, Z0, Z2, Z1, Z3, Z4, Z5, Z6, Z7, e0, e1, e2, e11, e12, e13, hz, Z8, X0, Z9, wk, Yr, Ys, tM_l, Xo, tM_a, tM_b, Zv6, Zd, Zc, Zf, Zg, Zb, Ze]; (first | refine Y8 (fun hq => ?_) (fun hq => ?_) | (refine ⟨by omega, by omega, ?_⟩; refine Ya (by assumption) ?_) | skip) <;> (refine HK _ _ ?_; clear HK K)) | (refine ao2 rfl rfl rfl ent_177 (hc _) ?_; rintro _ _ ⟨rfl, rfl⟩) | (refine ao1' rfl fun K HK => ?_; simp only [go_sem, ↓reduceIte, Z0, Z2, Z1, Z3, Z4, Z5, Z6, Z7, e0, e1, e2, e11, e12, e13, hz, Z8, X0, Z9, wk, Yr, Ys, tM_l, Xo, tM_a, tM_b, Zv6, Zd, Zc, Zf, Zg, Zb, Ze]; refine HK _ _ ?_; clear HK K))
        | (exfalso; omega)
       all_goals first | (exfalso; omega) | exact ⟨rfl, a.length - (k + 1), by omega, k + 1, _, hlt, hlb, rfl, ho, rfl, e0, e1, e2, e11, e12, rfl⟩
     · rw [if_pos hz] at ho
       repeat' first
        | (with_reducible first | refine sA rfl ?_ | refine sI rfl rfl ?_ | refine sT rfl ?_ | refine sB rfl ?_)
        | (with_reducible refine Y9 ?_; first | refine Y5 ?_ | (refine ao1 rfl rfl fun K HK => ?_; simp only [go_sem, ↓reduceIte, Z0, Z2, Z1, Z3, Z4, Z5, Z6, Z7, e0, e1, e2, e11, e12, e13, hz, Z8, X0, Z9, wk, Yr, Ys, tM_l, Xo, tM_a, tM_b, Zv6, Zd, Zc, Zf, Zg, Zb, Ze]; (first | refine Y8 (fun hq => ?_) (fun hq => ?_) | (refine ⟨by omega, by omega, ?_⟩; refine Ya (by assumption) ?_) | skip) <;> (refine HK _ _ ?_; clear HK K)) | (refine ao2 rfl rfl rfl ent_177 (hc _) ?_; rintro _ _ ⟨rfl, rfl⟩) | (refine ao1' rfl fun K HK => ?_; simp only [go_sem, ↓reduceIte, Z0, Z2, Z1, Z3, Z4, Z5, Z6, Z7, e0, e1, e2, e11, e12, e13, hz, Z8, X0, Z9, wk, Yr, Ys, tM_l, Xo, tM_a, tM_b, Zv6, Zd, Zc, Zf, Zg, Zb, Ze]; refine HK _ _ ?_; clear HK K))
        | (exfalso; omega)
       all_goals first | (exfalso; omega) | exact ⟨.inr rfl, endV hl0 rfl rfl ⟨rfl, by rw [ho]⟩⟩
   · rw [Zw8 _ _ _ _ hlt (by omega)] at ho
     repeat' first
      | (with_reducible first | refine sA rfl ?_ | refine sI rfl rfl ?_ | refine sT rfl ?_ | refine sB rfl ?_)
      | (with_reducible refine Y9 ?_; first | refine Y5 ?_ | (refine ao1 rfl rfl fun K HK => ?_; simp only [go_sem, ↓reduceIte, Z0, Z2, Z1, Z3, Z4, Z5, Z6, Z7, e0, e1, e2, e11, e12, e13, Z8, X0, Z9, wk, Yr, Ys, tM_l, Xo]; (first | refine Y8 (fun hq => ?_) (fun hq => ?_) | (refine ⟨by omega, by omega, ?_⟩; refine Ya (by assumption) ?_) | (refine ⟨by omega, by omega, ?_⟩; intro row hrow; obtain ⟨x, hx, rfl⟩ := Ym hrow; clear hrow) | skip) <;> (refine HK _ _ ?_; clear HK K)) | (refine ao1' rfl fun K HK => ?_; simp only [go_sem, ↓reduceIte, Z0, Z2, Z1, Z3, Z4, Z5, Z6, Z7, e0, e1, e2, e11, e12, e13, Z8, X0, Z9, wk, Yr, Ys, tM_l, Xo]; refine HK _ _ ?_; clear HK K))
      | (exfalso; omega)
     all_goals first | (exfalso; omega) | exact ⟨.inr rfl, endV hl0 rfl rfl ⟨rfl, by rw [ho]⟩⟩
 · rw [Zw9 _ _ _ _ (by omega)] at ho
   repeat' first
    | (with_reducible first | refine sA rfl ?_ | refine sI rfl rfl ?_ | refine sT rfl ?_ | refine sB rfl ?_)
    | (with_reducible refine Y9 ?_; first | refine Y5 ?_ | (refine ao1 rfl rfl fun K HK => ?_; simp only [go_sem, ↓reduceIte, Z0, Z2, Z1, Z3, Z4, Z5, Z6, Z7, e0, e1, e2, e11, e12, e13, Z8]; (first | refine Y8 (fun hq => ?_) (fun hq => ?_) | (refine ⟨by omega, by omega, ?_⟩; intro row hrow; obtain ⟨x, hx, rfl⟩ := Ym hrow; clear hrow) | skip) <;> (refine HK _ _ ?_; clear HK K)))
    | (exfalso; omega)
   all_goals first | (exfalso; omega) | exact ⟨.inr rfl, endV hl0 rfl rfl ⟨rfl, by rw [ho]; first | rw [if_pos (by omega)] | rw [if_neg (by omega)]⟩⟩
theorem cmpEnts_d (a b : En) (ha : a.clock.length ≤ 9223372036854775807) (hb : b.clock.length ≤ 9223372036854775807) (h : List Ob) : Does Zj G 155 h [.agg (enX a), .agg (enX b)] (fun h' r => h' = h ∧ r = .v (.int .i64 (entC a b))) := by
 refine Yh G hG (by rw [lowL, lowL, lowL, low, low]; exact ⟨low_en _ a, low_en _ b, trivial⟩) (by rw [low]; trivial) ?_ h
 clear h
 have hor := or_s2 G hG (strC a.name b.name) (lexC Yk1 a.clock b.clock) (entC a b) rfl
 have hsc := scmp_d G hG a.name b.name
 simp only [strC_cb] at hsc
 have hcf := cfTicks_d G hG a.clock b.clock ha hb (fun x _ y _ h => cmpTicks_d G hG x y h)
 refine Y7 Tryz.func155 rfl (Za rfl) hG fun hl0 _ => ?_
 simp only [Tryz.ntmps155]
 repeat' first
  | (with_reducible first | refine sA rfl ?_ | refine sT rfl ?_)
  | (with_reducible refine W2 ?_; first | refine W3 mixd (by kernel_rfl) ?_)
  | (with_reducible refine Y9 ?_; first | refine Y5 ?_ | (refine ao1 rfl rfl fun K HK => ?_; simp only [go_sem, ↓reduceIte, Z0, Z2, Z1, Z3, Z4, Z5, Z6, Z7, X9] <;> (refine HK _ _ ?_; clear HK K)))
  | ((with_reducible refine Yc7 ?_); first | (refine aS1 rfl rfl fun K HK => ?_; simp only [go_sem, ↓reduceIte, Z0, Z2, Z1, Z3, Z4, Z5, Z6, Z7, X9] <;> (refine HK _ _ rfl ?_; clear HK K)) | refine Ws rfl rfl rfl (by (first | (simp only [go_sem, ↓reduceIte, Z0, Z2, Z1, Z3, Z4, Z5, Z6, Z7, X9]; rfl) | (simp only [go_sem, ↓reduceIte, Z0, Z2, Z1, Z3, Z4, Z5, Z6, Z7, X9]; done))) (by rw [getD_one (by simp only [go_sem, ↓reduceIte, Z0, Z2, Z1, Z3, Z4, Z5, Z6, Z7, X9])]; rfl) ?_ | refine Ze4 rfl rfl (by simp only [litD, Wv, go_sem, Zb, Ze, Zr, Zl, and_self, ↓reduceIte, Z0, Z2, Z1, Z3, Z4, Z5, Z6, Z7, X9]; rfl) ?_ | refine Us (by simp only [Zp, Zq, Zf, Zc, Vo, chk1]; repeat' (first | exact trivial | refine And.intro ?_ ?_ | exact .inr Xg | exact .inr Xr | exact .inr Ww | exact .inr (Va (by omega)) | (refine .inr ?_; simp [compat, J3, Vt, Up, nop] <;> omega) | exact .inl (by kernel_rfl))) ?_ | refine Xn rfl rfl rfl ent_70 (fun h2 => hsc _) ?_ | refine Xn rfl rfl rfl ent_176 (fun h2 => hcf _) ?_ | refine U0 rfl rfl rfl ent_68 (by (first | (simp only [go_sem, ↓reduceIte, Z0, Z2, Z1, Z3, Z4, Z5, Z6, Z7, X9]; rfl) | (simp only [go_sem, ↓reduceIte, Z0, Z2, Z1, Z3, Z4, Z5, Z6, Z7, X9]; done))) (fun h2 k2 => hor h2 2 k2) ?_)
 exact ⟨.inr rfl, endV hl0 rfl rfl ⟨rfl, rfl⟩⟩
theorem cfEnts_d (a b : List En) (ha : a.length ≤ 9223372036854775807) (hb : b.length ≤ 9223372036854775807)
 (hc : ∀ x ∈ a, ∀ y ∈ b, ∀ h, Does Zj G 155 h [.agg (enX x), .agg (enX y)] (fun h' r => h' = h ∧ r = .v (.int .i64 (entC x y)))) (h : List Ob) :
 Does Zj G 160 h [.sl 2 (a.map enX), .sl 2 (b.map enX), .fn 155 []] (fun h' r => h' = h ∧ r = .v (.int .i64 (lexC entC a b))) := by
 have lo : ∀ l : List En, low 0 (.sl 2 (l.map enX)) := fun l => Uy 0 l fun x _ => low_en 0 x
 refine Yh G hG (by rw [lowL, lowL, lowL, lowL]; exact ⟨lo a, lo b, by simp [low, lowL], trivial⟩) (by rw [low]; trivial) ?_ h
 clear h
 refine Y7 Tryz.func160 rfl (Za rfl) hG fun hl0 _ => ?_
 simp only [Tryz.ntmps160]
 repeat' first
  | (with_reducible first | refine sA rfl ?_ | refine sT rfl ?_)
  | (with_reducible refine Y9 ?_; first | refine Y5 ?_ | (refine ao1 rfl rfl fun K HK => ?_; simp only [go_sem, ↓reduceIte, Z0, Z2, Z1, Z3, Z4, Z5, Z6, Z7, Z8] <;> (refine HK _ _ ?_; clear HK K)))
 refine Yp (fun m e h' => ∃ (k : Nat) (T : List Ob), k ≤ a.length ∧ k ≤ b.length ∧ m = a.length - k ∧ lexC entC a b = lexC entC (a.drop k) (b.drop k) ∧ h' = tM T ∧ e 0 = .sl 2 (a.map enX) ∧ e 1 = .sl 2 (b.map enX) ∧ e 2 = .fn 155 [] ∧ e 11 = .sl 2 (a.map enX) ∧ e 12 = .v (.int .i64 a.length) ∧ e 13 = .v (.int .i64 k)) a.length ⟨0, [], Zk _, Zk _, rfl, rfl, rfl, rfl, rfl, rfl, rfl, rfl, rfl⟩ ?_
 rintro m e h' ⟨k, T, hk, hkb, rfl, ho, rfl, e0, e1, e2, e11, e12, e13⟩
 by_cases hlt : k < a.length
 · have hx : a[k]? = some a[k] := Zi hlt
   have wk : IntKind.i64.wrap ((k : Int) + 1) = ((k + 1 : Nat) : Int) := IntWalk.i64_in _ (by omega)
   by_cases hlb : k < b.length
   · have hy : b[k]? = some b[k] := Zi hlb
     have hc := hc a[k] (Zm hlt) b[k] (Zm hlb)
     rw [lex_go (Zh hlt) (Zh hlb)] at ho
     generalize a[k] = x at hx ho hc
     generalize b[k] = y at hy ho hc
     generalize entC x y = c at hc ho
     simp only [X9] at hc
     by_cases hz : c = 0
     · rw [if_neg (fun q => q hz)] at ho
       repeat' first
        | (with_reducible first | refine sA rfl ?_ | refine sI rfl rfl ?_ | refine sT rfl ?_ | refine sB rfl ?_)
        | (with_reducible refine Y9 ?_; first | refine Y5 ?_ | (refine ao1 rfl rfl fun K HK => ?_; simp only [go_sem, ↓reduceIte, Z0, Z2, Z1, Z3, Z4, Z5, Z6, Z7, e0, e1, e2, e11, e12, e13, hz, Z8, X9, Z9, wk, Yr, Ys, tM_l, Xo, tM_a, tM_b, Zv6, Zd, Zc, Zf, Zg, Zb, Ze]; (first | refine Y8 (fun hq => ?_) (fun hq => ?_) | (refine ⟨by omega, by omega, ?_⟩; refine Ya (by assumption) ?_) | skip) <;> (refine HK _ _ ?_; clear HK K)) | (refine ao2 rfl rfl rfl Yo1 (hc _) ?_; rintro _ _ ⟨rfl, rfl⟩) | (refine ao1' rfl fun K HK => ?_; simp only [go_sem, ↓reduceIte, Z0, Z2, Z1, Z3, Z4, Z5, Z6, Z7, e0, e1, e2, e11, e12, e13, hz, Z8, X9, Z9, wk, Yr, Ys, tM_l, Xo, tM_a, tM_b, Zv6, Zd, Zc, Zf, Zg, Zb, Ze]; refine HK _ _ ?_; clear HK K))
        | (exfalso; omega)
       all_goals first | (exfalso; omega) | exact ⟨rfl, a.length - (k + 1), by omega, k + 1, _, hlt, hlb, rfl, ho, rfl, e0, e1, e2, e11, e12, rfl⟩
     · rw [if_pos hz] at ho
       repeat' first
        | (with_reducible first | refine sA rfl ?_ | refine sI rfl rfl ?_ | refine sT rfl ?_ | refine sB rfl ?_)
        | (with_reducible refine Y9 ?_; first | refine Y5 ?_ | (refine ao1 rfl rfl fun K HK => ?_; simp only [go_sem, ↓reduceIte, Z0, Z2, Z1, Z3, Z4, Z5, Z6, Z7, e0, e1, e2, e11, e12, e13, hz, Z8, X9, Z9, wk, Yr, Ys, tM_l, Xo, tM_a, tM_b, Zv6, Zd, Zc, Zf, Zg, Zb, Ze]; (first | refine Y8 (fun hq => ?_) (fun hq => ?_) | (refine ⟨by omega, by omega, ?_⟩; refine Ya (by assumption) ?_) | skip) <;> (refine HK _ _ ?_; clear HK K)) | (refine ao2 rfl rfl rfl Yo1 (hc _) ?_; rintro _ _ ⟨rfl, rfl⟩) | (refine ao1' rfl fun K HK => ?_; simp only [go_sem, ↓reduceIte, Z0, Z2, Z1, Z3, Z4, Z5, Z6, Z7, e0, e1, e2, e11, e12, e13, hz, Z8, X9, Z9, wk, Yr, Ys, tM_l, Xo, tM_a, tM_b, Zv6, Zd, Zc, Zf, Zg, Zb, Ze]; refine HK _ _ ?_; clear HK K))
        | (exfalso; omega)
       all_goals first | (exfalso; omega) | exact ⟨.inr rfl, endV hl0 rfl rfl ⟨rfl, by rw [ho]⟩⟩
   · rw [Zw8 _ _ _ _ hlt (by omega)] at ho
     repeat' first
      | (with_reducible first | refine sA rfl ?_ | refine sI rfl rfl ?_ | refine sT rfl ?_ | refine sB rfl ?_)
      | (with_reducible refine Y9 ?_; first | refine Y5 ?_ | (refine ao1 rfl rfl fun K HK => ?_; simp only [go_sem, ↓reduceIte, Z0, Z2, Z1, Z3, Z4, Z5, Z6, Z7, e0, e1, e2, e11, e12, e13, Z8, X9, Z9, wk, Yr, Ys, tM_l, Xo]; (first | refine Y8 (fun hq => ?_) (fun hq => ?_) | (refine ⟨by omega, by omega, ?_⟩; refine Ya (by assumption) ?_) | (refine ⟨by omega, by omega, ?_⟩; intro row hrow; obtain ⟨x, hx, rfl⟩ := Ym hrow; clear hrow) | skip) <;> (refine HK _ _ ?_; clear HK K)) | (refine ao1' rfl fun K HK => ?_; simp only [go_sem, ↓reduceIte, Z0, Z2, Z1, Z3, Z4, Z5, Z6, Z7, e0, e1, e2, e11, e12, e13, Z8, X9, Z9, wk, Yr, Ys, tM_l, Xo]; refine HK _ _ ?_; clear HK K))
      | (exfalso; omega)
     all_goals first | (exfalso; omega) | exact ⟨.inr rfl, endV hl0 rfl rfl ⟨rfl, by rw [ho]⟩⟩
 · rw [Zw9 _ _ _ _ (by omega)] at ho
   repeat' first
    | (with_reducible first | refine sA rfl ?_ | refine sI rfl rfl ?_ | refine sT rfl ?_ | refine sB rfl ?_)
    | (with_reducible refine Y9 ?_; first | refine Y5 ?_ | (refine ao1 rfl rfl fun K HK => ?_; simp only [go_sem, ↓reduceIte, Z0, Z2, Z1, Z3, Z4, Z5, Z6, Z7, e0, e1, e2, e11, e12, e13, Z8]; (first | refine Y8 (fun hq => ?_) (fun hq => ?_) | (refine ⟨by omega, by omega, ?_⟩; intro row hrow; obtain ⟨x, hx, rfl⟩ := Ym hrow; clear hrow) | skip) <;> (refine HK _ _ ?_; clear HK K)))
    | (exfalso; omega)
   all_goals first | (exfalso; omega) | exact ⟨.inr rfl, endV hl0 rfl rfl ⟨rfl, by rw [ho]; first | rw [if_pos (by omega)] | rw [if_neg (by omega)]⟩⟩
theorem cfVals_d (a b : List Val) (ha : a.length ≤ 9223372036854775807) (hb : b.length ≤ 9223372036854775807)
 (hc : ∀ x ∈ a, ∀ y ∈ b, ∀ h, Does Zj G 140 h [.agg (vaX x), .agg (vaX y)] (fun h' r => h' = h ∧ r = .v (.int .i64 (valC x y)))) (h : List Ob) :
 Does Zj G 159 h [.sl 4 (a.map vaX), .sl 4 (b.map vaX), .fn 140 []] (fun h' r => h' = h ∧ r = .v (.int .i64 (lexC valC a b))) := by
 have lo : ∀ l : List Val, low 0 (.sl 4 (l.map vaX)) := fun l => Uy 0 l fun x _ => Uk 0 x
 refine Yh G hG (by rw [lowL, lowL, lowL, lowL]; exact ⟨lo a, lo b, by simp [low, lowL], trivial⟩) (by rw [low]; trivial) ?_ h
 clear h
 refine Y7 Tryz.func159 rfl (Za rfl) hG fun hl0 _ => ?_
 simp only [Tryz.ntmps159]
 repeat' first
  | (with_reducible first | refine sA rfl ?_ | refine sT rfl ?_)
  | (with_reducible refine Y9 ?_; first | refine Y5 ?_ | (refine ao1 rfl rfl fun K HK => ?_; simp only [go_sem, ↓reduceIte, Z0, Z2, Z1, Z3, Z4, Z5, Z6, Z7, Z8] <;> (refine HK _ _ ?_; clear HK K)))
 refine Yp (fun m e h' => ∃ (k : Nat) (T : List Ob), k ≤ a.length ∧ k ≤ b.length ∧ m = a.length - k ∧ lexC valC a b = lexC valC (a.drop k) (b.drop k) ∧ h' = tM T ∧ e 0 = .sl 4 (a.map vaX) ∧ e 1 = .sl 4 (b.map vaX) ∧ e 2 = .fn 140 [] ∧ e 11 = .sl 4 (a.map vaX) ∧ e 12 = .v (.int .i64 a.length) ∧ e 13 = .v (.int .i64 k)) a.length ⟨0, [], Zk _, Zk _, rfl, rfl, rfl, rfl, rfl, rfl, rfl, rfl, rfl⟩ ?_
 rintro m e h' ⟨k, T, hk, hkb, rfl, ho, rfl, e0, e1, e2, e11, e12, e13⟩
 by_cases hlt : k < a.length
 · have hx : a[k]? = some a[k] := Zi hlt
   have wk : IntKind.i64.wrap ((k : Int) + 1) = ((k + 1 : Nat) : Int) := IntWalk.i64_in _ (by omega)
   by_cases hlb : k < b.length
   · have hy : b[k]? = some b[k] := Zi hlb
     have hc := hc a[k] (Zm hlt) b[k] (Zm hlb)
     rw [lex_go (Zh hlt) (Zh hlb)] at ho
     generalize a[k] = x at hx ho hc
     generalize b[k] = y at hy ho hc
     generalize valC x y = c at hc ho
     simp only [Yg] at hc
     by_cases hz : c = 0
     · rw [if_neg (fun q => q hz)] at ho
       repeat' first
        | (with_reducible first | refine sA rfl ?_ | refine sI rfl rfl ?_ | refine sT rfl ?_ | refine sB rfl ?_)
        | (with_reducible refine Y9 ?_; first | refine Y5 ?_ | (refine ao1 rfl rfl fun K HK => ?_; simp only [go_sem, ↓reduceIte, Z0, Z2, Z1, Z3, Z4, Z5, Z6, Z7, e0, e1, e2, e11, e12, e13, hz, Z8, Yg, Z9, wk, Yr, Ys, tM_l, Xo, tM_a, tM_b, Zv6, Zd, Zc, Zf, Zg, Zb, Ze]; (first | refine Y8 (fun hq => ?_) (fun hq => ?_) | (refine ⟨by omega, by omega, ?_⟩; refine Ya (by assumption) ?_) | skip) <;> (refine HK _ _ ?_; clear HK K)) | (refine ao2 rfl rfl rfl ent_140 (hc _) ?_; rintro _ _ ⟨rfl, rfl⟩) | (refine ao1' rfl fun K HK => ?_; simp only [go_sem, ↓reduceIte, Z0, Z2, Z1, Z3, Z4, Z5, Z6, Z7, e0, e1, e2, e11, e12, e13, hz, Z8, Yg, Z9, wk, Yr, Ys, tM_l, Xo, tM_a, tM_b, Zv6, Zd, Zc, Zf, Zg, Zb, Ze]; refine HK _ _ ?_; clear HK K))
        | (exfalso; omega)
       all_goals first | (exfalso; omega) | exact ⟨rfl, a.length - (k + 1), by omega, k + 1, _, hlt, hlb, rfl, ho, rfl, e0, e1, e2, e11, e12, rfl⟩
     · rw [if_pos hz] at ho
       repeat' first
        | (with_reducible first | refine sA rfl ?_ | refine sI rfl rfl ?_ | refine sT rfl ?_ | refine sB rfl ?_)
        | (with_reducible refine Y9 ?_; first | refine Y5 ?_ | (refine ao1 rfl rfl fun K HK => ?_; simp only [go_sem, ↓reduceIte, Z0, Z2, Z1, Z3, Z4, Z5, Z6, Z7, e0, e1, e2, e11, e12, e13, hz, Z8, Yg, Z9, wk, Yr, Ys, tM_l, Xo, tM_a, tM_b, Zv6, Zd, Zc, Zf, Zg, Zb, Ze]; (first | refine Y8 (fun hq => ?_) (fun hq => ?_) | (refine ⟨by omega, by omega, ?_⟩; refine Ya (by assumption) ?_) | skip) <;> (refine HK _ _ ?_; clear HK K)) | (refine ao2 rfl rfl rfl ent_140 (hc _) ?_; rintro _ _ ⟨rfl, rfl⟩) | (refine ao1' rfl fun K HK => ?_; simp only [go_sem, ↓reduceIte, Z0, Z2, Z1, Z3, Z4, Z5, Z6, Z7, e0, e1, e2, e11, e12, e13, hz, Z8, Yg, Z9, wk, Yr, Ys, tM_l, Xo, tM_a, tM_b, Zv6, Zd, Zc, Zf, Zg, Zb, Ze]; refine HK _ _ ?_; clear HK K))
        | (exfalso; omega)
       all_goals first | (exfalso; omega) | exact ⟨.inr rfl, endV hl0 rfl rfl ⟨rfl, by rw [ho]⟩⟩
   · rw [Zw8 _ _ _ _ hlt (by omega)] at ho
     repeat' first
      | (with_reducible first | refine sA rfl ?_ | refine sI rfl rfl ?_ | refine sT rfl ?_ | refine sB rfl ?_)
      | (with_reducible refine Y9 ?_; first | refine Y5 ?_ | (refine ao1 rfl rfl fun K HK => ?_; simp only [go_sem, ↓reduceIte, Z0, Z2, Z1, Z3, Z4, Z5, Z6, Z7, e0, e1, e2, e11, e12, e13, Z8, Yg, Z9, wk, Yr, Ys, tM_l, Xo]; (first | refine Y8 (fun hq => ?_) (fun hq => ?_) | (refine ⟨by omega, by omega, ?_⟩; refine Ya (by assumption) ?_) | (refine ⟨by omega, by omega, ?_⟩; intro row hrow; obtain ⟨x, hx, rfl⟩ := Ym hrow; clear hrow) | skip) <;> (refine HK _ _ ?_; clear HK K)) | (refine ao1' rfl fun K HK => ?_; simp only [go_sem, ↓reduceIte, Z0, Z2, Z1, Z3, Z4, Z5, Z6, Z7, e0, e1, e2, e11, e12, e13, Z8, Yg, Z9, wk, Yr, Ys, tM_l, Xo]; refine HK _ _ ?_; clear HK K))
      | (exfalso; omega)
     all_goals first | (exfalso; omega) | exact ⟨.inr rfl, endV hl0 rfl rfl ⟨rfl, by rw [ho]⟩⟩
 · rw [Zw9 _ _ _ _ (by omega)] at ho
   repeat' first
    | (with_reducible first | refine sA rfl ?_ | refine sI rfl rfl ?_ | refine sT rfl ?_ | refine sB rfl ?_)
    | (with_reducible refine Y9 ?_; first | refine Y5 ?_ | (refine ao1 rfl rfl fun K HK => ?_; simp only [go_sem, ↓reduceIte, Z0, Z2, Z1, Z3, Z4, Z5, Z6, Z7, e0, e1, e2, e11, e12, e13, Z8]; (first | refine Y8 (fun hq => ?_) (fun hq => ?_) | (refine ⟨by omega, by omega, ?_⟩; intro row hrow; obtain ⟨x, hx, rfl⟩ := Ym hrow; clear hrow) | skip) <;> (refine HK _ _ ?_; clear HK K)))
    | (exfalso; omega)
   all_goals first | (exfalso; omega) | exact ⟨.inr rfl, endV hl0 rfl rfl ⟨rfl, by rw [ho]; first | rw [if_pos (by omega)] | rw [if_neg (by omega)]⟩⟩
theorem compare_va (n : Nat) : ∀ (a b : Val), SizeOf.sizeOf a ≤ n → VSm a → VSm b → ∀ (h : List Ob), Does Zj G 140 h [.agg (vaX a), .agg (vaX b)] (fun h' r => h' = h ∧ r = .v (.int .i64 (valC a b))) := by
 induction n with
 | zero => intro a b hn; cases a; simp at hn
 | succ n ih =>
 intro a b hn sa sb h
 refine Yh G hG (by rw [lowL, lowL, lowL, low, low]; exact ⟨Uk _ a, Uk _ b, trivial⟩) (by rw [low]; trivial) ?_ h
 clear h
 have hor := or_s2 G hG (cmpI a.n b.n) (lexC strC a.names b.names) _ rfl
 have hna := slicesCmp_d G hG a.names b.names sa.names sb.names
 have hpa := cfVals_d G hG a.parts b.parts sa.parts sb.parts (fun x hx y hy h => ih x y (by
   have := List.sizeOf_lt_of_mem hx
   cases a with
   | mk m ns ps es => simp only [Val.parts] at this; simp only [Val.mk.sizeOf_spec] at hn; omega) (sa.part x hx) (sb.part y hy) h)
 have hen := cfEnts_d G hG a.entries b.entries sa.entries sb.entries (fun x hx y hy h => cmpEnts_d G hG x y (sa.ents x hx).1 (sb.ents y hy).1 h)
 have hv : valC a b = if orI [cmpI a.n b.n, lexC strC a.names b.names] ≠ 0 then orI [cmpI a.n b.n, lexC strC a.names b.names] else if lexC valC a.parts b.parts ≠ 0 then lexC valC a.parts b.parts else lexC entC a.entries b.entries := by
  rw [valC_eq]
  by_cases h1 : cmpI a.n b.n = 0
  · by_cases h2 : lexC strC a.names b.names = 0 <;> simp [orI, h1, h2]
  · simp [orI, h1]
 generalize orI [cmpI a.n b.n, lexC strC a.names b.names] = o1 at *
 generalize lexC valC a.parts b.parts = o2 at *
 generalize lexC entC a.entries b.entries = o3 at *
 generalize valC a b = vc at *
 have hc1 := cmp64_d G hG a.n b.n
 generalize cmpI a.n b.n = c1 at *
 generalize lexC strC a.names b.names = c2 at *
 refine Y7 Tryz.func140 rfl (Za rfl) hG fun hl0 _ => ?_
 simp only [Tryz.ntmps140]
 by_cases h1 : o1 = 0
 · by_cases h2 : o2 = 0
   all_goals
    skip
    repeat' first
     | (with_reducible first | refine sA rfl ?_ | refine sI rfl rfl ?_ | refine sT rfl ?_)
     | (with_reducible refine W2 ?_; first | refine W3 mixd (by kernel_rfl) ?_)
     | (with_reducible refine Y9 ?_; first | refine Y5 ?_ | (refine ao1 rfl rfl fun K HK => ?_; simp only [go_sem, ↓reduceIte, Z0, Z2, Z1, Z3, Z4, Z5, Z6, Z7, Yg, h1, h2] <;> (refine HK _ _ ?_; clear HK K)) | (refine ao2 rfl rfl rfl ent_159 (hpa _) ?_; rintro _ _ ⟨rfl, rfl⟩) | (refine ao2 rfl rfl rfl ent_160 (hen _) ?_; rintro _ _ ⟨rfl, rfl⟩))
     | ((with_reducible refine Yc7 ?_); first | (refine aS1 rfl rfl fun K HK => ?_; simp only [go_sem, ↓reduceIte, Z0, Z2, Z1, Z3, Z4, Z5, Z6, Z7, Yg, h1, h2] <;> (refine HK _ _ rfl ?_; clear HK K)) | refine Ws rfl rfl rfl (by (first | (simp only [go_sem, ↓reduceIte, Z0, Z2, Z1, Z3, Z4, Z5, Z6, Z7, Yg, h1, h2]; rfl) | (simp only [go_sem, ↓reduceIte, Z0, Z2, Z1, Z3, Z4, Z5, Z6, Z7, Yg, h1, h2]; done))) (by rw [getD_one (by simp only [go_sem, ↓reduceIte, Z0, Z2, Z1, Z3, Z4, Z5, Z6, Z7, Yg, h1, h2])]; rfl) ?_ | refine Ze4 rfl rfl (by simp only [litD, Wv, go_sem, Zb, Ze, Zr, Zl, and_self, ↓reduceIte, Z0, Z2, Z1, Z3, Z4, Z5, Z6, Z7, Yg, h1, h2]; rfl) ?_ | refine Us (by simp only [Zp, Zq, Zf, Zc, Vo, chk1]; repeat' (first | exact trivial | refine And.intro ?_ ?_ | exact .inr Xg | exact .inr Xr | exact .inr Ww | exact .inr (Va (by omega)) | (refine .inr ?_; simp [compat, J3, Vt, Up, nop] <;> omega) | exact .inl (by kernel_rfl))) ?_ | refine Xn rfl rfl rfl ent_157 (fun h2 => hc1 _) ?_ | refine Xn rfl rfl rfl ent_158 (fun h2 => hna _) ?_ | refine U0 rfl rfl rfl ent_68 (by (first | (simp only [go_sem, ↓reduceIte, Z0, Z2, Z1, Z3, Z4, Z5, Z6, Z7, Yg, h1, h2]; rfl) | (simp only [go_sem, ↓reduceIte, Z0, Z2, Z1, Z3, Z4, Z5, Z6, Z7, Yg, h1, h2]; done))) (fun h2 k2 => hor h2 2 k2) ?_)
    exact ⟨.inr rfl, endV hl0 rfl rfl ⟨rfl, by rw [hv]; simp [h1, h2]⟩⟩
 · skip
   repeat' first
    | (with_reducible first | refine sA rfl ?_ | refine sI rfl rfl ?_ | refine sT rfl ?_)
    | (with_reducible refine W2 ?_; first | refine W3 mixd (by kernel_rfl) ?_)
    | (with_reducible refine Y9 ?_; first | refine Y5 ?_ | (refine ao1 rfl rfl fun K HK => ?_; simp only [go_sem, ↓reduceIte, Z0, Z2, Z1, Z3, Z4, Z5, Z6, Z7, Yg, h1] <;> (refine HK _ _ ?_; clear HK K)))
    | ((with_reducible refine Yc7 ?_); first | (refine aS1 rfl rfl fun K HK => ?_; simp only [go_sem, ↓reduceIte, Z0, Z2, Z1, Z3, Z4, Z5, Z6, Z7, Yg, h1] <;> (refine HK _ _ rfl ?_; clear HK K)) | refine Ws rfl rfl rfl (by (first | (simp only [go_sem, ↓reduceIte, Z0, Z2, Z1, Z3, Z4, Z5, Z6, Z7, Yg, h1]; rfl) | (simp only [go_sem, ↓reduceIte, Z0, Z2, Z1, Z3, Z4, Z5, Z6, Z7, Yg, h1]; done))) (by rw [getD_one (by simp only [go_sem, ↓reduceIte, Z0, Z2, Z1, Z3, Z4, Z5, Z6, Z7, Yg, h1])]; rfl) ?_ | refine Ze4 rfl rfl (by simp only [litD, Wv, go_sem, Zb, Ze, Zr, Zl, and_self, ↓reduceIte, Z0, Z2, Z1, Z3, Z4, Z5, Z6, Z7, Yg, h1]; rfl) ?_ | refine Us (by simp only [Zp, Zq, Zf, Zc, Vo, chk1]; repeat' (first | exact trivial | refine And.intro ?_ ?_ | exact .inr Xg | exact .inr Xr | exact .inr Ww | exact .inr (Va (by omega)) | (refine .inr ?_; simp [compat, J3, Vt, Up, nop] <;> omega) | exact .inl (by kernel_rfl))) ?_ | refine Xn rfl rfl rfl ent_157 (fun h2 => hc1 _) ?_ | refine Xn rfl rfl rfl ent_158 (fun h2 => hna _) ?_ | refine U0 rfl rfl rfl ent_68 (by (first | (simp only [go_sem, ↓reduceIte, Z0, Z2, Z1, Z3, Z4, Z5, Z6, Z7, Yg, h1]; rfl) | (simp only [go_sem, ↓reduceIte, Z0, Z2, Z1, Z3, Z4, Z5, Z6, Z7, Yg, h1]; done))) (fun h2 k2 => hor h2 2 k2) ?_)
   exact ⟨.inr rfl, endV hl0 rfl rfl ⟨rfl, by rw [hv]; simp [h1]⟩⟩
theorem equal_va (a b : Val) (sa : VSm a) (sb : VSm b) (h : List Ob) : Does Zj G 113 h [.agg (vaX a), .agg (vaX b)] (fun h' r => h' = h ∧ r = .v (.bool (decide (valC a b = 0)))) := by
 refine Yh G hG (by rw [lowL, lowL, lowL, low, low]; exact ⟨Uk _ a, Uk _ b, trivial⟩) (by rw [low]; trivial) ?_ h
 clear h
 have hc := compare_va G hG _ a b (Nat.le_refl _) sa sb
 generalize valC a b = c at *
 simp only [Yg] at hc
 refine Y7 Tryz.func113 rfl (Za rfl) hG fun hl0 _ => ?_
 simp only [Tryz.ntmps113]
 repeat' first
  | (with_reducible first | refine sA rfl ?_ | refine sT rfl ?_)
  | (with_reducible refine Y9 ?_; first | refine Y5 ?_ | (refine ao1 rfl rfl fun K HK => ?_; simp only [go_sem, ↓reduceIte, Z0, Z2, Z1, Z3, Z4, Z5, Z6, Z7, Yg]; (first | refine Y8 (fun hq => ?_) (fun hq => ?_) | skip) <;> (refine HK _ _ ?_; clear HK K)) | (refine ao2 rfl rfl rfl ent_140 (hc _) ?_; rintro _ _ ⟨rfl, rfl⟩))
 all_goals exact ⟨.inr rfl, endV hl0 rfl rfl ⟨rfl, by first | rw [decide_eq_true hq] | rw [decide_eq_false hq] | rfl⟩⟩
end
section
section
variable {P : Program} {G : Nat → D} {n : Nat} {e : Nat → D} {h : List Ob}
theorem Sit_niltmp {B : Base} {a : Act} {w : World} (E k t : Nat) (ht : e t = .v (.slice none 0 0)) (r : Sit G B ⟨n, e, h⟩ a w) : Sit G B ⟨n, upd e t (.buf h.length 0), h ++ [.buf E k []]⟩ a w := by
 obtain ⟨hd, p, r⟩ := r
 obtain ⟨o, ev⟩ := Ok.grow (ob := .buf E k []) (u := .slice none 0 0) (w' := w) r.ok rfl rfl rfl (Nat.le_refl _) (fun _ _ => rfl) (fun b hb => by cases hb) (fun c s => ⟨[], World.ownsRow_nil _ _ _ _, by simp [rdL], fun row h => by simp at h, fun g h => by cases h⟩)
 refine ⟨_, _, o, r.evo.trans ev, fun t' => ?_, r.size, r.defers⟩
 have q := ev.rd r.ok (r.tmp t')
 show rd _ _ _ (upd e t (.buf h.length 0) t') _
 unfold upd
 by_cases hh : t' = t
 · subst hh
   rw [if_pos rfl]
   have ht : (⟨n, e, h⟩ : S).env t' = .v (.slice none 0 0) := ht
   rw [ht] at q
   exact rd_nilbuf (E := E) (k := k) (by simp) (by rw [← r.ok.len]; simp) q
 · rw [if_neg hh]; exact q
theorem aw_niltmp {c : Code} {Q : Exit → S → Prop} (E k t : Nat) (ht : e t = .v (.slice none 0 0)) (q : aw P G c Q ⟨n, upd e t (.buf h.length 0), h ++ [.buf E k []]⟩) : aw P G c Q ⟨n, e, h⟩ := fun B a w r => q B a w (Sit_niltmp E k t ht r)
end
end
end Go.Proofs.YtgkjcmglcnhpaaaGreatDoor
