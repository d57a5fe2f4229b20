/-
  What the statements of the chapter share, part 23: TB, TG1, PL2, PL3, PL4, VA1, NT, VA2, VA3, VA4, WK, VA5, RR6, VA7, VA8, VA9, VA10, VA11, VA6, VA12, LG2, TG2, RS1, RS2, RS3.
-/
import Derived.Test.YtgkjcmglcnhpaaaGreatDoorCards
import Derived.Test.YtgkjcmglcnhpaaaGreatDoorR12
import Derived.Test.YtgkjcmglcnhpaaaGreatDoorR13
import Derived.Test.YtgkjcmglcnhpaaaGreatDoorR14
import Derived.Test.YtgkjcmglcnhpaaaGreatDoorR15
import Derived.Test.YtgkjcmglcnhpaaaGreatDoorR18
import Derived.Test.YtgkjcmglcnhpaaaGreatDoorR19
import Derived.Test.YtgkjcmglcnhpaaaGreatDoorR20
import Derived.Test.YtgkjcmglcnhpaaaGreatDoorR21
import Derived.Lib.LaidTab
set_option linter.unusedVariables false
set_option linter.unusedSimpArgs false
set_option maxRecDepth 100000
set_option maxHeartbeats 8000000
namespace Go.Proofs.YtgkjcmglcnhpaaaGreatDoor
open _root_.Bool renaming not_false → Za, not_true → Zb, and_eq_true → Zj
open _root_.Int renaming reduceEq → Z5, reduceLT → Z6, reduceLE → Z7, toNat_natCast → Z8, reduceBEq → Zh
open _root_.List renaming getElem?_eq_getElem → Z9, replicate → Zd, getD_eq_getElem?_getD → Zf, getElem?_eq_some_iff → Zg, reverse_cons → Zi, reverse_nil → Zl, cons_append → Zm, length_take → Zn, nil_append → Zo, length_append → Zp
open _root_.Nat renaming reduceEqDiff → Z0, reduceLeDiff → Z1, reduceAdd → Z2, reduceBEq → Z3, reduceMul → Z4, le_of_ble_eq_true → Zc, sub_self → Zq
open _root_.Option renaming getD_some → Zk
open _root_.Go.Proofs.Tryz renaming prog → Ze
open Go.RowKit
section
def tabG (g : Nat) : D := if g = 1 then .rp (shaK.map zD) else .any
theorem tabG_low : ∀ g, low 0 (tabG g) := fun g => by
 unfold tabG
 split
 · rw [low, Ue]
   intro d hd
   obtain ⟨z, _, rfl⟩ := List.mem_map.1 hd
   rw [zD, low]; trivial
 · rw [low]; trivial
theorem tabG_K : tabG 1 = .rp (shaK.map zD) := by unfold tabG; rw [if_pos rfl]
theorem sha_named : Program.globalNamed Ze "plexus/sha256.constants" = some 1 := by kernel_rfl
def TabC (w : World) : Prop := Lib.TabIs Ze w "plexus/sha256.constants" .u32 shaK
theorem ok_of_tab {w : World} (ht : TabC w) : Ok tabG w [] [] (fun k => decide (k < w.heap.size)) := by
 unfold TabC Lib.TabIs World.var? at ht
 rw [sha_named] at ht
 simp only [Option.bind_some] at ht
 split at ht
 rotate_left
 · cases ht
 rename_i cs t fr h1
 cases ht
 have hlt : 1 < w.heap.size := by
  rcases Nat.lt_or_ge 1 w.heap.size with h' | h'
  · exact h'
  · rw [Array.getElem?_eq_none h'] at h1; cases h1
 refine ⟨rfl, fun i ob u q => by simp at q, fun i j oi oj ui uj b q => by simp at q, fun g => ?_, fun g ds q => ?_⟩
 · unfold tabG
   split
   · rename_i e; subst e
     rw [rd]
     refine ⟨_, _, rfl, (Wh _ _ _).2 fun j d hd => ?_⟩
     rw [List.getElem?_map, Option.map_eq_some_iff] at hd
     obtain ⟨z, hz, rfl⟩ := hd
     refine ⟨_, ?_, rd_v.2 rfl⟩
     rw [Wa, if_pos (by simpa using hlt)]
     simp [World.cell?, h1, hz]
   · rw [rd]; trivial
 · unfold tabG at q
   split at q
   · rename_i e; subst e; cases q
     exact ⟨_, _, _, h1, by simp, by simpa using hlt⟩
   · cases q
theorem tab_of {W : World} (h : laidMetH Ze [("plexus/sha256.constants", Rows.laid_plexus_sha256_constants)] W) : TabC W := by
 have h3 : laidMet Ze [("plexus/sha256.constants", Rows.laid_plexus_sha256_constants)] W := by
  have e3 : (Rows.laid_plexus_sha256_constants (H := Unit)).handleName? = none := rfl
  unfold laidMetH at h
  simpa [List.filter, e3] using h
 exact Lib.tabIs_of_head (rest := []) (g := 1) sha_named (by kernel_rfl) Tryz.underlying186 Tryz.underlying171 (by kernel_rfl) (by kernel_rfl) h3
end
section
attribute [local irreducible] on aOp
attribute [local go_sem] decide_true decide_false Zb Za
attribute [local simp] byD_len
section
variable {P : Program} {G : Nat → D} {n : Nat} {e : Nat → D} {h : List Ob} {ops : Array Oper} {rest : List Oper} {Q : S → Prop} {t : Nat} {ty : TypeId} {pos : String} {aft : Array Edge} {gd : Option (Nat × Bool)}
end
variable (G : Nat → D) (hG : ∀ g, low 0 (G g)) (hK : G 1 = .rp (shaK.map zD))
include hG
end
section
def strC (s t : ByteArray) : Int := if strLt s t then -1 else if s = t then 0 else 1
def lexC {α : Type} (c : α → α → Int) : List α → List α → Int
 | [], [] => 0
 | [], _ :: _ => -1
 | _ :: _, [] => 1
 | x :: s, y :: t => if c x y ≠ 0 then c x y else lexC c s t
def tickC (a b : Tk) : Int := orI [cmpI a.process b.process, cmpI a.n b.n]
def entC (a b : En) : Int := orI [strC a.name b.name, lexC tickC a.clock b.clock]
/-! The order. -/
mutual
def valC : Val → Val → Int
 | .mk n ns ps es, b => if cmpI n b.n ≠ 0 then cmpI n b.n else if lexC strC ns b.names ≠ 0 then lexC strC ns b.names
   else if valsC ps b.parts ≠ 0 then valsC ps b.parts else lexC entC es b.entries
def valsC : List Val → List Val → Int
 | [], [] => 0
 | [], _ :: _ => -1
 | _ :: _, [] => 1
 | x :: s, y :: t => if valC x y ≠ 0 then valC x y else valsC s t
end
/-! The bottom. -/
def zeroV : Val := .mk 0 [] [] []
mutual
def botV : Lat → Val
 | .mk k lo hi _ ps _ => if k = 2 then .mk lo [] [] [] else if k = 3 then .mk hi [] [] [] else if k = 6 ∨ k = 7 then .mk 0 [] (botVs ps) [] else zeroV
def botVs : List Lat → List Val
 | [] => []
 | p :: t => botV p :: botVs t
end
/-! Elements. -/
def Zy0 (v : Val) (n list parts entries : Bool) : Bool := (n || decide (v.n = 0)) && (list || decide (v.names.length = 0)) && (parts || decide (v.parts.length = 0)) && (entries || decide (v.entries.length = 0))
def memB (only : List ByteArray) (s : ByteArray) : Bool := Vc s && (decide (only.length = 0) || hasS only s)
def Zn3 (only list : List ByteArray) : Bool := Jy list && list.all (memB only)
def closedB (rs : List Rl) (list : List ByteArray) : Bool := rs.all fun r => !subsetS r.cond list || hasS list r.concl
def tickB (last : Int) (t : Tk) : Bool := decide (last < t.process ∧ t.process ≤ 63 ∧ 1 ≤ t.n ∧ t.n ≤ 1000000000000000)
def clockFrom : Int → List Tk → Bool
 | _, [] => true
 | last, t :: r => tickB last t && clockFrom t.process r
def clockB (c : List Tk) : Bool := clockFrom (-1) c
def emitT (p k : Int) (r : List Tk) : List Tk := if 0 < k then ⟨p, k⟩ :: r else r
def walkT (ch : Int → Int → Int) : List Tk → List Tk → List Tk
 | [], [] => []
 | x :: a, [] => emitT x.process (ch x.n 0) (walkT ch a [])
 | [], y :: b => emitT y.process (ch 0 y.n) (walkT ch [] b)
 | x :: a, y :: b => if x.process < y.process then emitT x.process (ch x.n 0) (walkT ch a (y :: b)) else if y.process < x.process then emitT y.process (ch 0 y.n) (walkT ch (x :: a) b)
   else emitT x.process (ch x.n y.n) (walkT ch a b)
 termination_by a b => a.length + b.length
def minusCh (m n : Int) : Int := if n < m then m else 0
def minusT (a b : List Tk) : List Tk := walkT minusCh a b
def clockC (a b : List Tk) : Int := if !clockB a || !clockB b then 3
 else if (minusT a b).length = 0 ∧ (minusT b a).length = 0 then 0 else if (minusT a b).length = 0 then 1 else if (minusT b a).length = 0 then 2 else 3
def entryB (list : List En) (k : Nat) (e : En) : Bool :=
 decide (e.clock.length ≠ 0) && clockB e.clock && Vc e.name && (match list[k - 1]? with
  | some p => decide (k = 0 ∨ entC p e < 0)
  | none => true) && (list.take k).all fun f => !(clockC e.clock f.clock == 1 || clockC e.clock f.clock == 2)
def regGo (list : List En) : Nat → List En → Bool
 | _, [] => true
 | k, e :: t => entryB list k e && regGo list (k + 1) t
def regB (list : List En) : Bool := regGo list 0 list
mutual
def elemB : Lat → Val → Bool
 | .mk k lo hi ns ps rs, v =>
   if k = 1 then Zy0 v true false false false && decide (v.n = 0 ∨ v.n = 1)
   else if k = 2 ∨ k = 3 then Zy0 v true false false false && decide (lo ≤ v.n ∧ v.n ≤ hi)
   else if k = 4 then Zy0 v false true false false && Zn3 ns v.names
   else if k = 10 then Zy0 v false true false false && Zn3 ns v.names && closedB rs v.names
   else if k = 8 then (if v.n = 0 ∨ v.n = 2 then Zy0 v true false false false else if v.n = 1 then Zy0 v true true false false && decide (v.names.length = 1) && Zn3 ns v.names else false)
   else if k = 9 then Zy0 v false false false true && regB v.entries
   else if k = 5 then Zy0 v false true true false && decide (v.names.length = v.parts.length) && Zn3 ns v.names && mapB ps v.parts
   else Zy0 v false false true false && decide (v.parts.length = ps.length) && elemsB ps v.parts
def mapB : List Lat → List Val → Bool
 | [], _ => true
 | p :: _, vs => vs.all fun v => elemB p v && decide (valC v (botV p) ≠ 0)
def elemsB : List Lat → List Val → Bool
 | p :: ps, v :: vs => elemB p v && elemsB ps vs
 | [], _ => true
 | _ :: _, [] => true
end
def validB (l : Lat) (v : Val) : Bool := decide (chkE l = 0) && elemB l v
/-! The size. -/
mutual
def nodesN : Val → Nat
 | .mk _ ns ps es => 1 + ns.length + es.length + nodesNs ps + (es.map fun e => e.clock.length).sum
def nodesNs : List Val → Nat
 | [] => 0
 | v :: t => nodesN v + nodesNs t
end
/-! The encoding. -/
def ticksE : List Tk → List UInt8
 | [] => []
 | t :: r => X3 t.process.toNat ++ (X3 t.n.toNat ++ ticksE r)
def entryE (e : En) : List UInt8 := X3 e.clock.length ++ (ticksE e.clock ++ Yv e.name)
def entriesE : List En → List UInt8
 | [] => []
 | e :: r => entryE e ++ entriesE r
def textsE : List ByteArray → List UInt8
 | [] => []
 | s :: r => Yv s ++ textsE r
mutual
def putV : Lat → Val → List UInt8
 | .mk k _ _ _ ps _, v =>
   if k = 1 then boolE (decide (v.n = 1))
   else if k = 2 ∨ k = 3 then intE v.n
   else if k = 4 ∨ k = 10 then X3 v.names.length ++ textsE v.names
   else if k = 5 then X3 v.names.length ++ putMap ps v.names v.parts
   else if k = 8 then X3 v.n.toNat ++ (if v.n = 1 then Yv (v.names.headD ByteArray.empty) else [])
   else if k = 9 then X3 v.entries.length ++ entriesE v.entries
   else putVs ps v.parts
def putMap : List Lat → List ByteArray → List Val → List UInt8
 | [], _, _ => []
 | p :: _, ns, vs => (ns.zip vs).flatMap fun x => Yv x.1 ++ putV p x.2
def putVs : List Lat → List Val → List UInt8
 | p :: ps, v :: vs => putV p v ++ putVs ps vs
 | [], _ => []
 | _ :: _, [] => []
end
def Uk (m : Nat) (s : RS) : Nat × RS := (if m < (Xc s).1 then 0 else (Xc s).1, if m < (Xc s).1 then (Xc s).2.fail else (Xc s).2)
def rdTick (s : RS) : Tk × RS := (⟨((Uk 63 s).1 : Nat), ((Uk 1000000000000000 (Uk 63 s).2).1 : Nat)⟩, (Uk 1000000000000000 (Uk 63 s).2).2)
def rdClock (s : RS) : List Tk × RS := Wi rdTick (Ym s).1 (Ym s).2
def rdEntry (s : RS) : En × RS := (⟨(rdClock s).1, (Vm (rdClock s).2).1⟩, (Vm (rdClock s).2).2)
def rdPair (f : RS → Val × RS) (s : RS) : (ByteArray × Val) × RS := (((Vm s).1, (f (Vm s).2).1), (f (Vm s).2).2)
mutual
def Zp8 : Lat → RS → Val × RS
 | .mk k _ _ _ ps _, s =>
   if k = 1 then (.mk (if (rdBool s).1 then 1 else 0) [] [] [], (rdBool s).2)
   else if k = 2 ∨ k = 3 then (.mk (Yo s).1 [] [] [], (Yo s).2)
   else if k = 4 ∨ k = 10 then (.mk 0 (Wi Vm (Ym s).1 (Ym s).2).1 [] [], (Wi Vm (Ym s).1 (Ym s).2).2)
   else if k = 5 then (.mk 0 ((readMap ps (Ym s).1 (Ym s).2).1.map Prod.fst) ((readMap ps (Ym s).1 (Ym s).2).1.map Prod.snd) [], (readMap ps (Ym s).1 (Ym s).2).2)
   else if k = 8 then (if (Uk 2 s).1 = 1 then (.mk 1 [(Vm (Uk 2 s).2).1] [] [], (Vm (Uk 2 s).2).2) else (.mk ((Uk 2 s).1 : Nat) [] [] [], (Uk 2 s).2))
   else if k = 9 then (.mk 0 [] [] (Wi rdEntry (Ym s).1 (Ym s).2).1, (Wi rdEntry (Ym s).1 (Ym s).2).2)
   else (.mk 0 [] (Zf2 ps s).1 [], (Zf2 ps s).2)
def readMap : List Lat → Nat → RS → List (ByteArray × Val) × RS
 | [], _, s => ([], s)
 | p :: _, n, s => Wi (rdPair (Zp8 p)) n s
def Zf2 : List Lat → RS → List Val × RS
 | [], s => ([], s)
 | p :: ps, s => ((Zp8 p s).1 :: (Zf2 ps (Zp8 p s).2).1, (Zf2 ps (Zp8 p s).2).2)
end
end
section
def pairB (e f : En) : Bool := !((clockC e.clock f.clock == 1) || (clockC e.clock f.clock == 2))
end
section
section
variable {k lo hi : Int} {ns : List ByteArray} {ps : List Lat} {rs : List Rl} {v : Val}
end
/-! What was read. -/
/-! What was written. -/
/-! The decoder. -/
def decodeV (l : Lat) (b : List UInt8) : Val × Int :=
 if chkE l ≠ 0 then (zeroV, 1) else if (Zp8 l ⟨b, 0, 0, 0⟩).2.ends ≠ 0 ∨ elemB l (Zp8 l ⟨b, 0, 0, 0⟩).1 = false then (zeroV, 2) else ((Zp8 l ⟨b, 0, 0, 0⟩).1, 0)
end
section
attribute [local irreducible] on aOp
attribute [local go_sem] decide_true decide_false Zb Za
attribute [local simp] byD_len
def tM (T : List Ob) : List Ob := T
section
variable {y z z' : Ob} {T l : List Ob}
end
inductive VSm : Val → Prop
 | mk (v : Val) (h1 : v.names.length ≤ 9223372036854775807) (h2 : v.parts.length ≤ 9223372036854775807) (h3 : v.entries.length ≤ 9223372036854775807) (h4 : ∀ s ∈ v.names, s.size ≤ 9223372036854775807) (h5 : ∀ e ∈ v.entries, e.clock.length ≤ 9223372036854775807 ∧ e.name.size ≤ 9223372036854775807) (h6 : ∀ p ∈ v.parts, VSm p) : VSm v
theorem VSm.names {v : Val} (h : VSm v) : v.names.length ≤ 9223372036854775807 := by cases h; assumption
theorem VSm.parts {v : Val} (h : VSm v) : v.parts.length ≤ 9223372036854775807 := by cases h; assumption
theorem VSm.entries {v : Val} (h : VSm v) : v.entries.length ≤ 9223372036854775807 := by cases h; assumption
theorem VSm.texts {v : Val} (h : VSm v) : ∀ s ∈ v.names, s.size ≤ 9223372036854775807 := by cases h; assumption
theorem VSm.part {v : Val} (h : VSm v) : ∀ p ∈ v.parts, VSm p := by cases h; assumption
variable (G : Nat → D) (hG : ∀ g, low 0 (G g))
include hG
end
section
section
variable {P : Program} {G : Nat → D} {n : Nat} {e : Nat → D} {h : List Ob}
theorem Sit_niltmp {B : Base} {a : Act} {w : World} (E k t : Nat) (ht : e t = .v (.slice none 0 0)) (r : Sit G B ⟨n, e, h⟩ a w) : Sit G B ⟨n, upd e t (.buf h.length 0), h ++ [.buf E k []]⟩ a w := by
 obtain ⟨hd, p, r⟩ := r
 obtain ⟨o, ev⟩ := Ok.grow (ob := .buf E k []) (u := .slice none 0 0) (w' := w) r.ok rfl rfl rfl (Nat.le_refl _) (fun _ _ => rfl) (fun b hb => by cases hb) (fun c s => ⟨[], World.ownsRow_nil _ _ _ _, by simp [rdL], fun row h => by simp at h, fun g h => by cases h⟩)
 refine ⟨_, _, o, r.evo.trans ev, fun t' => ?_, r.size, r.defers⟩
 have q := ev.rd r.ok (r.tmp t')
 show rd _ _ _ (upd e t (.buf h.length 0) t') _
 unfold upd
 by_cases hh : t' = t
 · subst hh
   rw [if_pos rfl]
   have ht : (⟨n, e, h⟩ : S).env t' = .v (.slice none 0 0) := ht
   rw [ht] at q
   exact rd_nilbuf (E := E) (k := k) (by simp) (by rw [← r.ok.len]; simp) q
 · rw [if_neg hh]; exact q
theorem aw_niltmp {c : Code} {Q : Exit → S → Prop} (E k t : Nat) (ht : e t = .v (.slice none 0 0)) (q : aw P G c Q ⟨n, upd e t (.buf h.length 0), h ++ [.buf E k []]⟩) : aw P G c Q ⟨n, e, h⟩ := fun B a w r => q B a w (Sit_niltmp E k t ht r)
end
end
section
attribute [local irreducible] on aOp
attribute [local go_sem] decide_true decide_false Zb Za
attribute [local simp] byD_len
def bM (A : Ob) (T : List Ob) : List Ob := A :: T
section
variable {A B y y' : Ob} {T l : List Ob}
end
variable (G : Nat → D) (hG : ∀ g, low 0 (G g))
include hG
end
section
attribute [local irreducible] on aOp
attribute [local go_sem] decide_true decide_false Zb Za
attribute [local simp] byD_len
variable (G : Nat → D) (hG : ∀ g, low 0 (G g))
include hG
end
section
attribute [local irreducible] on aOp
attribute [local go_sem] decide_true decide_false Zb Za
attribute [local simp] byD_len
def befB (list : List En) (k : Nat) (e : En) : Bool := match list[k - 1]? with
 | some p => decide (k = 0 ∨ entC p e < 0)
 | none => true
def rM (T : List Ob) (x : Ob) (U : List Ob) : List Ob := T ++ x :: U
section
variable {x y y' : Ob} {T U l : List Ob}
end
variable (G : Nat → D) (hG : ∀ g, low 0 (G g))
include hG
end
section
def Wk (d d' : D) : Prop := ∀ hd hh W u, rd hd hh W d u → rd hd hh W d' u
def WkL (d d' : List D) : Prop := ∀ hd hh W u, rdL hd hh W d u → rdL hd hh W d' u
end
section
attribute [local irreducible] on aOp
attribute [local go_sem] decide_true decide_false Zb Za
attribute [local simp] byD_len
def kM (A Z V B : Ob) (T : List Ob) : List Ob := A :: Z :: V :: B :: T
section
variable {A Z V B y y' : Ob} {T l : List Ob}
end
def nilV : List D := [.v (.int .i64 0), .v (.slice none 0 0), .v (.slice none 0 0), .v (.slice none 0 0)]
section
variable {l : Lat} {v : Val}
end
variable (G : Nat → D) (hG : ∀ g, low 0 (G g))
include hG
end
section
attribute [local irreducible] on aOp
attribute [local go_sem] decide_true decide_false Zb Za
attribute [local simp] byD_len
variable (G : Nat → D) (hG : ∀ g, low 0 (G g))
def rdSm (m : Nat) (s : RS) : Nat × RS := (if m < (Xc s).1 then 0 else (Xc s).1, if m < (Xc s).1 then (Xc s).2.fail else (Xc s).2)
include hG
end
section
attribute [local irreducible] on aOp
attribute [local go_sem] decide_true decide_false Zb Za
attribute [local simp] byD_len
def q4 (R A Z V : Ob) (T : List Ob) : List Ob := R :: A :: Z :: V :: T
section
variable {R A Z V y y' z z' : Ob} {T l : List Ob}
end
def q5 (R A Z V B : Ob) (T : List Ob) : List Ob := R :: A :: Z :: V :: B :: T
section
variable {R A Z V B y y' z z' : Ob} {T l : List Ob}
end
def q6 (R A Z V B C : Ob) (T : List Ob) : List Ob := R :: A :: Z :: V :: B :: C :: T
section
variable {R A Z V B C y y' z z' : Ob} {T l : List Ob}
end
theorem rdrOb_ren (π : Nat → Nat) (s : RS) : Xv π (Yj s) = Yj s := by
 rw [U8]; simp only [Xv, renL, ren, Zp7]
theorem rdr_at {P : Program} {G : Nat → D} (hG : ∀ g, low 0 (G g)) {f : FuncId} {s s' : RS} {xs : List D} {r0 : D} (lx : lowL 0 xs) (lr : low 0 r0) (q : Does P G f [Yj s] (.ptr 0 0 :: xs) (fun h' r => h' = [Yj s'] ∧ r = r0)) {h : List Ob} {i : Nat} (hi : h[i]? = some (Yj s)) : Does P G f h (.ptr i 0 :: xs) (fun h' r => h' = h.set i (Yj s') ∧ r = r0) := by
 have L : Lies (fun _ => i) [Yj s] h := by
  refine ⟨fun k ob' hk => ?_, fun a b ha hb _ => ?_, ?_⟩
  · rcases k with _ | k
    · cases hk; rw [rdrOb_ren]; exact hi
    · simp at hk
  · simp at ha hb; omega
  · intro x hx
    simp at hx; subst hx; exact Wb _ s
 have F := Does.frame hG L (args := .ptr 0 0 :: xs) (by rw [lowL, low]; exact ⟨Nat.zero_lt_succ _, V0 (Nat.zero_le _) _ lx⟩) (K1 := fun h' r => h' = [Yj s'] ∧ r = r0) (by
  rintro _ _ ⟨rfl, _⟩
  refine ⟨fun a b ha hb _ => ?_, fun k h1 h2 => ?_⟩
  · simp at ha hb; omega
  · have h1 : 1 ≤ k := h1
    have h2 : k < 1 := h2
    omega) q
 rw [renL, ren, Yt _ _ lx] at F
 refine F.mono ?_
 rintro _ _ ⟨_, _, ⟨rfl, rfl⟩, rfl, rfl⟩
 refine ⟨?_, U7 _ _ lr⟩
 simp only [List.map_cons, List.map_nil, plc, rdrOb_ren]
def ReadD (G : Nat → D) (l : Lat) : Prop := ∀ s : RS, s.Ok → s.data.length ≤ 1000000 → Does Ze G 111 [Yj s] [.ptr 0 0, .agg (latX l)] (fun h' r => h' = [Yj (Zp8 l s).2] ∧ r = .agg (vaX (Zp8 l s).1))
theorem ReadD.at {G : Nat → D} (hG : ∀ g, low 0 (G g)) {l : Lat} (q : ReadD G l) {s : RS} (ho : s.Ok) (hl : s.data.length ≤ 1000000) {h : List Ob} {i : Nat} (hi : h[i]? = some (Yj s)) : Does Ze G 111 h [.ptr i 0, .agg (latX l)] (fun h' r => h' = h.set i (Yj (Zp8 l s).2) ∧ r = .agg (vaX (Zp8 l s).1)) :=
 rdr_at hG (Zg4 _ l) (by rw [low]; exact low_val _ _) (q s ho hl) hi
section
variable {l : Lat}
end
variable (G : Nat → D) (hG : ∀ g, low 0 (G g))
include hG
end
section
attribute [local irreducible] on aOp
attribute [local go_sem] decide_true decide_false Zb Za
attribute [local simp] byD_len
variable (G : Nat → D) (hG : ∀ g, low 0 (G g))
include hG
end
section
attribute [local irreducible] on aOp
attribute [local go_sem] decide_true decide_false Zb Za
attribute [local simp] byD_len
variable (G : Nat → D) (hG : ∀ g, low 0 (G g))
include hG
end
section
attribute [local irreducible] on aOp
attribute [local go_sem] decide_true decide_false Zb Za
attribute [local simp] byD_len
variable (G : Nat → D) (hG : ∀ g, low 0 (G g))
include hG
end
section
attribute [local irreducible] on aOp
attribute [local go_sem] decide_true decide_false Zb Za
attribute [local simp] byD_len
def w5 (R A Z V B : Ob) (T : List Ob) (X C : Ob) (U : List Ob) : List Ob := R :: A :: Z :: V :: B :: (T ++ X :: C :: U)
section
variable {R A Z V B X C y y' : Ob} {T U l : List Ob}
end
variable (G : Nat → D) (hG : ∀ g, low 0 (G g))
include hG
end
section
attribute [local irreducible] on aOp
attribute [local go_sem] decide_true decide_false Zb Za
attribute [local simp] byD_len
def vM (A B : Ob) (T : List Ob) : List Ob := A :: B :: T
section
variable {A B y y' : Ob} {T l : List Ob}
end
variable (G : Nat → D) (hG : ∀ g, low 0 (G g))
include hG
end
section
attribute [local irreducible] on aOp
attribute [local go_sem] decide_true decide_false Zb Za
attribute [local simp] byD_len
def isBotB (l : Lat) (v : Val) : Bool := decide (chkE l = 0) && decide (valC v (botV l) = 0)
variable (G : Nat → D) (hG : ∀ g, low 0 (G g))
include hG
end
section
attribute [local irreducible] on aOp
attribute [local go_sem] decide_true decide_false Zb Za
attribute [local simp] byD_len
theorem latsE_go {l : List (ByteArray × Lat)} {k : Nat} {o : ByteArray × Lat} (h : l.drop k = o :: l.drop (k + 1)) : Zu3 (l.drop k) = if chkE o.2 ≠ 0 then chkE o.2 else Zu3 (l.drop (k + 1)) := by rw [h, Zu3]
theorem names_at {l : List (ByteArray × Lat)} {k : Nat} {o : ByteArray × Lat} (h : l[k]? = some o) : (l.map (·.1))[k]? = some o.1 := by rw [List.getElem?_map, h]; rfl
theorem ris_0 {l : List ByteArray} {x : ByteArray} (h : l[0]? = some x) : Ys l 0 = (Vc x && Ys l 1) := by
 obtain ⟨hl, rfl⟩ := Zg.1 h
 exact Zk5 l hl
theorem ris_s {l : List ByteArray} {j : Nat} {x y : ByteArray} (hy : l[j]? = some y) (hx : l[j + 1]? = some x) : Ys l (j + 1) = (Vc x && (strLt y x && Ys l (j + 2))) := by
 obtain ⟨hl, rfl⟩ := Zg.1 hx
 obtain ⟨hm, rfl⟩ := Zg.1 hy
 exact Zp5 l j hl
variable (G : Nat → D) (hG : ∀ g, low 0 (G g))
include hG
end
section
attribute [local irreducible] on aOp
attribute [local go_sem] decide_true decide_false Zb Za
attribute [local simp] byD_len
theorem J7 : ∀ (l : List ByteArray) (p : ByteArray), Wu p l = true → ∀ x ∈ l, p.toList < x.toList
 | [], _, _, x, hx => by simp at hx
 | y :: t, p, h, x, hx => by
  rw [Wu, Zj] at h
  have h1 : p.toList < y.toList := by have := h.1; rw [strLt, bl_eq] at this; exact of_decide_eq_true this
  rcases List.mem_cons.1 hx with rfl | hx
  · exact h1
  · exact List.lt_trans h1 (J7 t y h.2 x hx)
theorem Ze8 : ∀ (l : List ByteArray) (p : ByteArray), Wu p l = true → l.Nodup
 | [], _, _ => List.nodup_nil
 | y :: t, p, h => by
  rw [Wu, Zj] at h
  refine List.nodup_cons.2 ⟨fun hy => ?_, Ze8 t y h.2⟩
  exact List.lt_irrefl _ (J7 t y h.2 y hy)
theorem Zy2 : ∀ (l : List ByteArray), Jy l = true → l.Nodup
 | [], _ => List.nodup_nil
 | y :: t, h => List.nodup_cons.2 ⟨fun hy => List.lt_irrefl _ (J7 t y h y hy), Ze8 t y h⟩
def gOf (g : GenL) : Gen := ⟨g.mode, g.replicas, g.founders, g.clients, g.admins, g.objects.map fun o => (o.1, latX o.2)⟩
theorem gOf_x (g : GenL) : genX (gOf g) = gnX g := by
 simp only [genX, gnX, gOf, List.map_map]; rfl
theorem gOf_ok {g : GenL} (h : genE g = 0) : (gOf g).Ok := by
 obtain ⟨_, h2, h3, _⟩ := genE_ok h
 rw [Xy, Zj] at h3
 have mem : ∀ o ∈ (gOf g).objects, ∃ q ∈ g.objects, o = (q.1, latX q.2) := fun o ho => by
  obtain ⟨q, hq, rfl⟩ := List.mem_map.1 ho; exact ⟨q, hq, rfl⟩
 refine ⟨by simp only [gOf, List.length_map]; omega, fun o ho => ?_, fun o ho => ?_, fun o ho => ?_, fun o ho => ?_, ?_⟩
 · obtain ⟨q, hq, rfl⟩ := mem o ho
   have hn := List.all_eq_true.1 h3.1 q.1 (List.mem_map.2 ⟨q, hq, rfl⟩)
   rw [Vc, Zj] at hn
   have := of_decide_eq_true hn.1
   show q.1.size ≤ 1000000
   omega
 · obtain ⟨q, hq, rfl⟩ := mem o ho; exact Uf _
 · obtain ⟨q, hq, rfl⟩ := mem o ho; exact Zd8 0 _
 · obtain ⟨q, hq, rfl⟩ := mem o ho
   show (latX q.2).all D.one = true
   rw [Y9]; rfl
 · simp only [gOf, List.map_map]
   exact Zy2 _ h3.2
open Classical in
noncomputable def latOf (d : List D) : Lat := if h : ∃ l, latX l = d ∧ Sm l then h.choose else ⟨0, 0, 0, [], [], []⟩
open Classical in
noncomputable def valOf (d : List D) : Val := if h : ∃ v, vaX v = d ∧ VSm v then h.choose else zeroV
noncomputable def decX (d : List D) (b : List UInt8) : List D × Int := (vaX (decodeV (latOf d) b).1, (decodeV (latOf d) b).2)
noncomputable def botX (d x : List D) : Bool := isBotB (latOf d) (valOf x)
open Classical in
noncomputable def wrZ (g : Gen) (ws : List (ByteArray × List UInt8)) : Int :=
 if ∃ i, i < ws.length ∧ ¬ okAt g ws i then 3 else if ∃ i, i < ws.length ∧ Yd0 g decX botX ws i then 4 else 0
variable (G : Nat → D) (hG : ∀ g, low 0 (G g)) (hK : G 1 = .rp (shaK.map zD))
include hG
include hK
end
section
set_option maxHeartbeats 16000000
attribute [local irreducible] on aOp
attribute [local go_sem] decide_true decide_false Zb Za
attribute [local simp] byD_len
theorem rnd_asc (k w : Int) (u : W8) : rndZ k w u = ⟨Xw (Xw (t1Z u k w) (s0Z u)) (majZ u), u.a, u.b, u.c, Xw u.d (t1Z u k w), u.e, u.f, u.g⟩ := by
 unfold rndZ; rw [add32_assoc]
variable (G : Nat → D) (hG : ∀ g, low 0 (G g))
include hG
theorem Uj (x : Int) (n : Nat) (hn : n ≤ 32) (h : List Ob) : Does Ze G 174 h [.v (.int .u32 x), .v (.int .u64 n)] (fun h' r => h' = h ∧ r = .v (.int .u32 (Zf0 x n))) := by
 refine Y5 Tryz.func174 rfl (Zc rfl) hG fun hl0 _ => ?_
 simp only [Tryz.ntmps174]
 have w1 : IntKind.u64.wrap (32 - (n : Int)) = ((32 - n : Nat) : Int) := by rw [IntKind.wrap_u64]; omega
 have w2 : decide (0 ≤ (n : Int)) = true := decide_eq_true (by omega)
 have w3 : decide (0 ≤ ((32 - n : Nat) : Int)) = true := decide_eq_true (by omega)
 repeat' first
  | (with_reducible first | refine sA rfl ?_ | refine sT rfl ?_)
  | (with_reducible refine Y8 ?_; first | refine Y4 ?_ | (refine ao1 rfl rfl fun K HK => ?_; simp only [go_sem, ↓reduceIte, Z0, Z2, Z1, Z3, Z4, Z5, Z6, Z7, w1, w2, w3, Z8] <;> (refine HK _ _ ?_; clear HK K)))
 exact ⟨by simp, endD (r := .v (.int .u32 (Zf0 x n))) hl0 rfl (by simp) (by simp) rfl (by rw [low]; trivial) ⟨rfl, rfl⟩⟩
omit hG
theorem getKs : getD Ze 186 (shaK.map zD) 0 = some (.agg (shaK.map zD)) := by kernel_rfl
theorem stKs : ((shaK.map zD).all D.one && szT Ze 186 == some (shaK.map zD).length) = true := by kernel_rfl
include hG
theorem rconst_d (h : List Ob) : Does Ze G 175 h [] (fun h' r => h' = h ∧ r = .agg (shaK.map zD)) := by
 refine Yf G hG (by simp [lowL]) (by rw [low]; exact low_zs _ _) ?_ h
 refine Y5 Tryz.func175 rfl (Zc rfl) hG fun hl0 _ => ?_
 simp only [Tryz.ntmps175]
 repeat' first
  | (with_reducible first | refine sA rfl ?_ | refine sT rfl ?_)
  | (with_reducible refine Y8 ?_; first | refine Y4 ?_ | (refine ao1 rfl rfl fun K HK => ?_; simp only [go_sem, ↓reduceIte, Z0, Z2, Z1, Z3, Z4, Z5, Z6, Z7] <;> (refine HK _ _ ?_; clear HK K)) | (refine ao1' rfl fun K HK => ?_; simp only [go_sem, ↓reduceIte, Z0, Z2, Z1, Z3, Z4, Z5, Z6, Z7]; refine HK _ _ ?_; clear HK K))
 exact ⟨.inr rfl, endD (ds := [.agg (shaK.map zD)]) (r := .agg (shaK.map zD)) hl0 (Zi9 (i := 0) (o := 0) rfl rfl getKs) (by simp) (by simp) (cvD_zs _ _ _) (by rw [low]; exact low_zs _ _) ⟨rfl, rfl⟩⟩
theorem rblock_d (v : W8) (b : List UInt8) (hb : b.length = 64) (h : List Ob) :
 Does Ze G 149 h [.agg (v.ls.map zD), .sl 1 (byD b)] (fun h' r => h' = h ∧ r = .agg ((blkZ v b).ls.map zD)) := by
 refine Yf G hG (by rw [lowL, lowL, lowL]; exact ⟨Zl0 _ _, Yb _ _, trivial⟩) (Zl0 _ _) ?_ h
 refine Y5 Tryz.func149 rfl (Zc rfl) hG fun hl0 _ => ?_
 simp only [Tryz.ntmps149]
 repeat' first
  | (with_reducible first | refine sA rfl ?_ | refine sT rfl ?_)
  | (with_reducible refine Y8 ?_; first | refine Y4 ?_ | (refine ao1 rfl rfl fun K HK => ?_; simp only [go_sem, ↓reduceIte, Z0, Z2, Z1, Z3, Z4, Z5, Z6, Z7] <;> (refine HK _ _ ?_; clear HK K)))
 refine Yr (fun m e h' => ∃ (k : Nat) (W : List Int), k ≤ 16 ∧ m = 16 - k ∧ W.length = 64 ∧ sch1 b (16 - k) W = sch1 b 16 (Zd 64 0) ∧ h' = [.cells (v.ls.map zD), .cells (Zd 8 (zD 0)), .cells (W.map zD)] ∧ e 1 = .sl 1 (byD b) ∧ e 2 = .ptr 0 0 ∧ e 4 = .ptr 1 0 ∧ e 5 = .ptr 2 0 ∧ e 6 = .v (.int .i64 k)) 16 ⟨0, Zd 64 0, by omega, rfl, rfl, rfl, rfl, rfl, rfl, rfl, rfl, rfl⟩ ?_
 rintro m e h' ⟨k, W, hk, rfl, hW, hS, rfl, e1, e2, e4, e5, e6⟩
 by_cases hlt : k < 16
 · have hx0 : b[4 * k]? = some b[4 * k] := Z9 (by omega)
   have hx1 : b[4 * k + 1]? = some b[4 * k + 1] := Z9 (by omega)
   have hx2 : b[4 * k + 2]? = some b[4 * k + 2] := Z9 (by omega)
   have hx3 : b[4 * k + 3]? = some b[4 * k + 3] := Z9 (by omega)
   have hS' : sch1 b (16 - (k + 1)) (W.set k (be4 b[4 * k] b[4 * k + 1] b[4 * k + 2] b[4 * k + 3])) = sch1 b (16 - k) W := by
    obtain ⟨n, hn⟩ : ∃ n, 16 - k = n + 1 := ⟨15 - k, by omega⟩
    rw [hn, sch1, show 16 - (k + 1) = n by omega, show 15 - n = k by omega]
    simp only [Zf, hx0, hx1, hx2, hx3, Zk]
   generalize b[4 * k] = x0 at hx0 hS'
   generalize b[4 * k + 1] = x1 at hx1 hS'
   generalize b[4 * k + 2] = x2 at hx2 hS'
   generalize b[4 * k + 3] = x3 at hx3 hS'
   have w0 : IntKind.i64.wrap (4 * (k : Int)) = ((4 * k : Nat) : Int) := IntWalk.i64_in _ (by omega)
   have w1 : IntKind.i64.wrap (((4 * k : Nat) : Int) + 1) = ((4 * k + 1 : Nat) : Int) := IntWalk.i64_in _ (by omega)
   have w2 : IntKind.i64.wrap (((4 * k : Nat) : Int) + 2) = ((4 * k + 2 : Nat) : Int) := IntWalk.i64_in _ (by omega)
   have w3 : IntKind.i64.wrap (((4 * k : Nat) : Int) + 3) = ((4 * k + 3 : Nat) : Int) := IntWalk.i64_in _ (by omega)
   have wk : IntKind.i64.wrap ((k : Int) + 1) = ((k + 1 : Nat) : Int) := IntWalk.i64_in _ (by omega)
   repeat' first
    | (with_reducible first | refine sA rfl ?_ | refine sI rfl rfl ?_ | refine sT rfl ?_ | refine sB rfl ?_)
    | (with_reducible refine Xe ?_; first | refine Wq mixd (by kernel_rfl) ?_)
    | (with_reducible refine Y8 ?_; first | refine Y4 ?_ | (refine ao1 rfl rfl fun K HK => ?_; simp only [go_sem, ↓reduceIte, Z0, Z2, Z1, Z3, Z4, Z5, Z6, Z7, e1, e2, e4, e5, e6, w0, w1, w2, w3, wk, Z8]; (first | refine Y6 (fun hq => ?_) (fun hq => ?_) | (refine ⟨by omega, by omega, ?_⟩; refine Yg (by assumption) ?_) | skip) <;> (refine HK _ _ ?_; clear HK K)))
    | ((with_reducible refine gd_aS ?_); first | (refine aS1 rfl rfl fun K HK => ?_; refine Ve (by first | rfl | (simp only [go_sem, e1, e2, e4, e5, e6, w0, w1, w2, w3, wk, Z8]; rfl)) (by first | rfl | (simp only [go_sem, e1, e2, e4, e5, e6, w0, w1, w2, w3, wk, Z8]; rfl)) (by first | (simp only [go_sem]; rfl) | (simp only [go_sem]; done)) (by first | (simp only [go_sem]; rfl) | (simp only [go_sem]; done)) (by omega) ?_; refine HK _ _ rfl ?_; clear HK K) | (refine Vs rfl rfl (by (simp only [go_sem, ↓reduceIte, Z0, Z2, Z1, Z3, Z4, Z5, Z6, Z7, e1, e2, e4, e5, e6, w0, w1, w2, w3, wk, Z8]; rfl)) rfl (by simp only [go_sem]) (by simp [hW]; omega) ?_) | (refine aS1 rfl rfl fun K HK => ?_; simp only [go_sem, ↓reduceIte, Z0, Z2, Z1, Z3, Z4, Z5, Z6, Z7, e1, e2, e4, e5, e6, w0, w1, w2, w3, wk, Z8]; (first | refine Y6 (fun hq => ?_) (fun hq => ?_) | (refine ⟨by omega, by omega, ?_⟩; refine Yg (by assumption) ?_) | skip) <;> (refine HK _ _ rfl ?_; clear HK K)) | refine Jw (by simp only [Zi, Zl, Zo, Zm, Vh, chk1]; repeat' (first | exact trivial | refine And.intro ?_ ?_ | exact .inr Xr)) ?_)
    | (exfalso; omega)
   refine ⟨rfl, 16 - (k + 1), by omega, k + 1, W.set k (be4 x0 x1 x2 x3), by omega, rfl, by simp [hW], by rw [hS']; exact hS, ?_, ?_, ?_, ?_, ?_, ?_⟩
   · exact congrArg (fun x => [Ob.cells (v.ls.map zD), .cells (Zd 8 (zD 0)), .cells x]) (Jd (W := W) (k := k) (z := be4 x0 x1 x2 x3) (by omega))
   all_goals first | rfl | (simp [upd, e1, e2, e4, e5]; done)
 have hk16 : k = 16 := by omega
 subst hk16
 repeat' first
  | (with_reducible first | refine sA rfl ?_ | refine sI rfl rfl ?_ | refine sT rfl ?_ | refine sB rfl ?_)
  | (with_reducible refine Xe ?_; first | refine Ya mixd (by kernel_rfl) ?_)
  | (with_reducible refine Y8 ?_; first | refine Y4 ?_ | (refine ao1 rfl rfl fun K HK => ?_; simp only [go_sem, ↓reduceIte, Z0, Z2, Z1, Z3, Z4, Z5, Z6, Z7, e1, e2, e4, e5, e6]; (first | refine Y6 (fun hq => ?_) (fun hq => ?_) | (refine ⟨by omega, by omega, ?_⟩; intro row hrow; obtain ⟨x, hx, rfl⟩ := Yn hrow; clear hrow) | skip) <;> (refine HK _ _ ?_; clear HK K)))
  | (with_reducible refine Ws ?_; first | (refine aq1 rfl rfl fun K HK => ?_; simp only [go_sem, ↓reduceIte, Z0, Z2, Z1, Z3, Z4, Z5, Z6, Z7, e1, e2, e4, e5, e6]; (first | refine Y6 (fun hq => ?_) (fun hq => ?_) | (refine ⟨by omega, by omega, ?_⟩; intro row hrow; obtain ⟨x, hx, rfl⟩ := Yn hrow; clear hrow) | skip) <;> (refine HK _ _ rfl ?_; clear HK K)))
  | (exfalso; omega)
 have hSc : sch2 (64 - 16) W = schZ b := by
  rw [Zq, sch1] at hS
  rw [hS]; unfold schZ; rw [show 64 - 16 = 48 from rfl]
 refine Yr (fun m e h' => ∃ (k : Nat) (W : List Int), 16 ≤ k ∧ k ≤ 64 ∧ m = 64 - k ∧ W.length = 64 ∧ sch2 (64 - k) W = schZ b ∧ h' = [.cells (v.ls.map zD), .cells (Zd 8 (zD 0)), .cells (W.map zD)] ∧ e 2 = .ptr 0 0 ∧ e 4 = .ptr 1 0 ∧ e 5 = .ptr 2 0 ∧ e 7 = .v (.int .i64 k)) 48 ⟨16, W, by omega, by omega, rfl, hW, hSc, rfl, e2, e4, e5, rfl⟩ ?_
 clear hSc hS hW W hk hlt e1 e2 e4 e5 e6 e
 rintro m e h' ⟨k, W, hk, hk2, rfl, hW, hS, rfl, e2, e4, e5, e7⟩
 by_cases hlt : k < 64
 · have hx0 : W[k - 15]? = some W[k - 15] := Z9 (by omega)
   have hx1 : W[k - 2]? = some W[k - 2] := Z9 (by omega)
   have hx2 : W[k - 7]? = some W[k - 7] := Z9 (by omega)
   have hx3 : W[k - 16]? = some W[k - 16] := Z9 (by omega)
   have hS' : sch2 (64 - (k + 1)) (W.set k (sgZ W[k - 15] W[k - 2] W[k - 7] W[k - 16])) = sch2 (64 - k) W := by
    obtain ⟨n, hn⟩ : ∃ n, 64 - k = n + 1 := ⟨63 - k, by omega⟩
    rw [hn, sch2, show 64 - (k + 1) = n by omega, show 63 - n = k by omega]
    simp only [Zf, hx0, hx1, hx2, hx3, Zk]
   generalize W[k - 15] = x15 at hx0 hS'
   generalize W[k - 2] = x2 at hx1 hS'
   generalize W[k - 7] = x7 at hx2 hS'
   generalize W[k - 16] = x16 at hx3 hS'
   have w0 : IntKind.i64.wrap ((k : Int) - 15) = ((k - 15 : Nat) : Int) := (IntWalk.i64_in _ (by omega)).trans (by omega)
   have w1 : IntKind.i64.wrap ((k : Int) - 2) = ((k - 2 : Nat) : Int) := (IntWalk.i64_in _ (by omega)).trans (by omega)
   have w2 : IntKind.i64.wrap ((k : Int) - 7) = ((k - 7 : Nat) : Int) := (IntWalk.i64_in _ (by omega)).trans (by omega)
   have w3 : IntKind.i64.wrap ((k : Int) - 16) = ((k - 16 : Nat) : Int) := (IntWalk.i64_in _ (by omega)).trans (by omega)
   have wk : IntKind.i64.wrap ((k : Int) + 1) = ((k + 1 : Nat) : Int) := IntWalk.i64_in _ (by omega)
   repeat' first
    | (with_reducible first | refine sA rfl ?_ | refine sI rfl rfl ?_ | refine sT rfl ?_ | refine sB rfl ?_)
    | (with_reducible refine Xe ?_; first | refine Wq mixd (by kernel_rfl) ?_)
    | (with_reducible refine Y8 ?_; first | refine Y4 ?_ | (refine ao1 rfl rfl fun K HK => ?_; simp only [go_sem, ↓reduceIte, Z0, Z2, Z1, Z3, Z4, Z5, Z6, Z7, e2, e4, e5, e7, w0, w1, w2, w3, wk, Z8]; (first | refine Y6 (fun hq => ?_) (fun hq => ?_) | skip) <;> (refine HK _ _ ?_; clear HK K)) | (refine ao2 rfl rfl rfl Uo (Uj G hG _ 7 (by omega) _) ?_; rintro _ _ ⟨rfl, rfl⟩) | (refine ao2 rfl rfl rfl Uo (Uj G hG _ 17 (by omega) _) ?_; rintro _ _ ⟨rfl, rfl⟩) | (refine ao2 rfl rfl rfl Uo (Uj G hG _ 18 (by omega) _) ?_; rintro _ _ ⟨rfl, rfl⟩) | (refine ao2 rfl rfl rfl Uo (Uj G hG _ 19 (by omega) _) ?_; rintro _ _ ⟨rfl, rfl⟩))
    | ((with_reducible refine gd_aS ?_); first | (refine aS1 rfl rfl fun K HK => ?_; refine Ve (by first | rfl | (simp only [go_sem, e2, e4, e5, e7, w0, w1, w2, w3, wk, Z8]; rfl)) (by first | rfl | (simp only [go_sem, e2, e4, e5, e7, w0, w1, w2, w3, wk, Z8]; rfl)) (by first | (simp only [go_sem]; rfl) | (simp only [go_sem]; done)) (by first | (simp only [go_sem]; rfl) | (simp only [go_sem]; done)) (by omega) ?_; refine HK _ _ rfl ?_; clear HK K) | (refine Vj rfl rfl rfl (by (simp only [go_sem, ↓reduceIte, Z0, Z2, Z1, Z3, Z4, Z5, Z6, Z7, e2, e4, e5, e7, w0, w1, w2, w3, wk, Z8]; rfl)) (Ze1 (by first | (simp only [go_sem]; rfl) | (simp only [go_sem]; done)) (by assumption)) ?_) | (refine Vs rfl rfl (by (simp only [go_sem, ↓reduceIte, Z0, Z2, Z1, Z3, Z4, Z5, Z6, Z7, e2, e4, e5, e7, w0, w1, w2, w3, wk, Z8]; rfl)) rfl (by simp only [go_sem]) (by simp [hW]; omega) ?_) | (refine aS1 rfl rfl fun K HK => ?_; simp only [go_sem, ↓reduceIte, Z0, Z2, Z1, Z3, Z4, Z5, Z6, Z7, e2, e4, e5, e7, w0, w1, w2, w3, wk, Z8]; (first | refine Y6 (fun hq => ?_) (fun hq => ?_) | skip) <;> (refine HK _ _ rfl ?_; clear HK K)) | refine Jw (by simp only [Zi, Zl, Zo, Zm, Vh, chk1]; repeat' (first | exact trivial | refine And.intro ?_ ?_ | exact .inr Xr | exact .inr Wn | exact .inr U1 | exact .inl (by kernel_rfl))) ?_)
    | (exfalso; omega)
   refine ⟨rfl, 64 - (k + 1), by omega, k + 1, W.set k (sgZ x15 x2 x7 x16), by omega, by omega, rfl, by simp [hW], by rw [hS']; exact hS, ?_, ?_, ?_, ?_, ?_⟩
   · exact congrArg (fun x => [Ob.cells (v.ls.map zD), .cells (Zd 8 (zD 0)), .cells x]) (Jd (W := W) (k := k) (z := sgZ x15 x2 x7 x16) (by omega))
   all_goals first | rfl | (simp [upd, e2, e4, e5]; done)
 have hk64 : k = 64 := by omega
 subst hk64
 rw [Zq, sch2] at hS
 subst hS
 generalize hWe : schZ b = W at hW ⊢
 repeat' first
  | (with_reducible first | refine sA rfl ?_ | refine sI rfl rfl ?_ | refine sT rfl ?_ | refine sB rfl ?_)
  | (with_reducible refine Xe ?_; first | refine Ya mixd (by kernel_rfl) ?_)
  | (with_reducible refine Y8 ?_; first | refine Y4 ?_ | (refine ao1 rfl rfl fun K HK => ?_; simp only [go_sem, ↓reduceIte, Z0, Z2, Z1, Z3, Z4, Z5, Z6, Z7, e2, e4, e5, e7]; (first | refine Y6 (fun hq => ?_) (fun hq => ?_) | skip) <;> (refine HK _ _ ?_; clear HK K)) | (refine ao2 rfl rfl rfl ent_175 (rconst_d G hG _) ?_; rintro _ _ ⟨rfl, rfl⟩))
  | (with_reducible refine Ws ?_; first | (refine aq1 rfl rfl fun K HK => ?_; simp only [go_sem, ↓reduceIte, Z0, Z2, Z1, Z3, Z4, Z5, Z6, Z7, e2, e4, e5, e7]; (first | refine Y6 (fun hq => ?_) (fun hq => ?_) | skip) <;> (refine HK _ _ rfl ?_; clear HK K)))
  | ((with_reducible refine Y8 ?_); first | (refine ao1' rfl fun K HK => ?_; refine Yd3 (es := shaK.map zD) rfl rfl rfl stKs rfl ?_; refine HK _ _ ?_; clear HK K) | (refine ao1 rfl rfl fun K HK => ?_; refine Yy (by first | rfl | (simp only [go_sem, e2, e4, e5, e7]; rfl)) (by (simp only [go_sem, ↓reduceIte, Z0, Z2, Z1, Z3, Z4, Z5, Z6, Z7, e2, e4, e5, e7]; rfl)) (Jk (by first | (simp only [go_sem]; rfl) | (simp only [go_sem]; done)) (by first | (simp only [go_sem]; rfl) | (simp only [go_sem]; done))) ?_; refine HK _ _ ?_; clear HK K) | (refine ao1' rfl fun K HK => ?_; refine Ze4 (by first | rfl | (simp only [go_sem, e2, e4, e5, e7]; rfl)) (by (simp only [go_sem, ↓reduceIte, Z0, Z2, Z1, Z3, Z4, Z5, Z6, Z7, e2, e4, e5, e7]; rfl)) rfl (by first | (simp only [go_sem]; rfl) | (simp only [go_sem]; done)) rfl ?_; refine HK _ _ ?_; clear HK K))
  | (exfalso; omega)
 refine Yr (fun m e h' => ∃ (k : Nat) (u : W8), k ≤ 64 ∧ m = 64 - k ∧ Zd2 shaK W (64 - k) u = Zd2 shaK W 64 v ∧ h' = [.cells (v.ls.map zD), .cells (Zd 8 (zD 0)), .cells (W.map zD), .cells (shaK.map zD), .cells (u.ls.map zD)] ∧ e 2 = .ptr 0 0 ∧ e 4 = .ptr 1 0 ∧ e 5 = .ptr 2 0 ∧ e 12 = .ptr 3 0 ∧ e 13 = .ptr 4 0 ∧ e 14 = .v (.int .i64 k)) 64 ⟨0, v, by omega, rfl, by rw [Nat.sub_zero], rfl, e2, e4, e5, rfl, rfl, rfl⟩ ?_
 clear hk hk2 hlt e2 e4 e5 e7 e
 rintro m e h' ⟨k, u, hk, rfl, hS, rfl, e2, e4, e5, e12, e13, e14⟩
 by_cases hlt : k < 64
 · have hx0 : W[k]? = some W[k] := Z9 (by omega)
   have hx1 : shaK[k]? = some (shaK[k]'hlt) := Z9 hlt
   have hS' : Zd2 shaK W (64 - (k + 1)) (rndZ (shaK[k]'hlt) W[k] u) = Zd2 shaK W (64 - k) u := by
    obtain ⟨n, hn⟩ : ∃ n, 64 - k = n + 1 := ⟨63 - k, by omega⟩
    rw [hn, Zd2, show 64 - (k + 1) = n by omega, show 63 - n = k by omega]
    simp only [Zf, hx0, hx1, Zk]
   generalize W[k] = wv at hx0 hS'
   generalize (shaK[k]'hlt) = kv at hx1 hS'
   have wk : IntKind.i64.wrap ((k : Int) + 1) = ((k + 1 : Nat) : Int) := IntWalk.i64_in _ (by omega)
   repeat' first
    | (with_reducible first | refine sA rfl ?_ | refine sI rfl rfl ?_ | refine sT rfl ?_ | refine sB rfl ?_)
    | (with_reducible refine Xe ?_; first | refine Ya mixd (by kernel_rfl) ?_)
    | (with_reducible refine Y8 ?_; first | (refine ao1 rfl rfl fun K HK => ?_; refine aOp_unx rfl ?_; refine HK _ _ ?_; clear HK K) | refine Y4 ?_ | (refine ao1 rfl rfl fun K HK => ?_; simp only [go_sem, ↓reduceIte, Z0, Z2, Z1, Z3, Z4, Z5, Z6, Z7, e2, e4, e5, e12, e13, e14, wk, Z8]; (first | refine Y6 (fun hq => ?_) (fun hq => ?_) | skip) <;> (refine HK _ _ ?_; clear HK K)) | (refine ao2 rfl rfl rfl Uo (Uj G hG _ 2 (by omega) _) ?_; rintro _ _ ⟨rfl, rfl⟩) | (refine ao2 rfl rfl rfl Uo (Uj G hG _ 6 (by omega) _) ?_; rintro _ _ ⟨rfl, rfl⟩) | (refine ao2 rfl rfl rfl Uo (Uj G hG _ 11 (by omega) _) ?_; rintro _ _ ⟨rfl, rfl⟩) | (refine ao2 rfl rfl rfl Uo (Uj G hG _ 13 (by omega) _) ?_; rintro _ _ ⟨rfl, rfl⟩) | (refine ao2 rfl rfl rfl Uo (Uj G hG _ 22 (by omega) _) ?_; rintro _ _ ⟨rfl, rfl⟩) | (refine ao2 rfl rfl rfl Uo (Uj G hG _ 25 (by omega) _) ?_; rintro _ _ ⟨rfl, rfl⟩))
    | (with_reducible refine Ws ?_; first | (refine aq1 rfl rfl fun K HK => ?_; simp only [go_sem, ↓reduceIte, Z0, Z2, Z1, Z3, Z4, Z5, Z6, Z7, e2, e4, e5, e12, e13, e14, wk, Z8]; (first | refine Y6 (fun hq => ?_) (fun hq => ?_) | skip) <;> (refine HK _ _ rfl ?_; clear HK K)) | refine X2 ?_)
    | ((with_reducible refine Y8 ?_); first | (refine ao1 rfl rfl fun K HK => ?_; refine Zn4 (by first | rfl | (simp only [go_sem, e2, e4, e5, e12, e13, e14, wk, Z8]; rfl)) (by first | rfl | (simp only [go_sem, e2, e4, e5, e12, e13, e14, wk, Z8]; rfl)) (by first | (simp only [go_sem]; rfl) | (simp only [go_sem]; done)) (by first | (simp only [go_sem]; rfl) | (simp only [go_sem]; done)) (by decide) (by decide) ?_; refine HK _ _ ?_; clear HK K) | (refine ao1 rfl rfl fun K HK => ?_; refine aOp_lz (by first | rfl | (simp only [go_sem, e2, e4, e5, e12, e13, e14, wk, Z8]; rfl)) (by (simp only [go_sem, ↓reduceIte, Z0, Z2, Z1, Z3, Z4, Z5, Z6, Z7, e2, e4, e5, e12, e13, e14, wk, Z8]; rfl)) (by rw [getD_one (by first | (simp only [go_sem]; rfl) | (simp only [go_sem]; done))]; rfl) ?_; refine HK _ _ ?_; clear HK K) | (refine ao1' rfl fun K HK => ?_; refine Ze4 (by first | rfl | (simp only [go_sem, e2, e4, e5, e12, e13, e14, wk, Z8]; rfl)) (by (simp only [go_sem, ↓reduceIte, Z0, Z2, Z1, Z3, Z4, Z5, Z6, Z7, e2, e4, e5, e12, e13, e14, wk, Z8]; rfl)) (v := ⟨Xw (Xw (t1Z u kv wv) (s0Z u)) (majZ u), u.a, u.b, u.c, Xw u.d (t1Z u kv wv), u.e, u.f, u.g⟩) rfl (by first | (simp only [go_sem]; rfl) | (simp only [go_sem]; done)) rfl ?_; refine HK _ _ ?_; clear HK K))
    | ((with_reducible refine Ws ?_); first | (refine aq1 rfl rfl fun K HK => ?_; refine Ve (by first | rfl | (simp only [go_sem, e2, e4, e5, e12, e13, e14, wk, Z8]; rfl)) (by first | rfl | (simp only [go_sem, e2, e4, e5, e12, e13, e14, wk, Z8]; rfl)) (by first | (simp only [go_sem]; rfl) | (simp only [go_sem]; done)) (by first | (simp only [go_sem]; rfl) | (simp only [go_sem]; done)) (by omega) ?_; refine HK _ _ rfl ?_; clear HK K) | (refine aq1 rfl rfl fun K HK => ?_; refine Yy (by first | rfl | (simp only [go_sem, e2, e4, e5, e12, e13, e14, wk, Z8]; rfl)) (by (simp only [go_sem, ↓reduceIte, Z0, Z2, Z1, Z3, Z4, Z5, Z6, Z7, e2, e4, e5, e12, e13, e14, wk, Z8]; rfl)) (Ze1 (by first | (simp only [go_sem]; rfl) | (simp only [go_sem]; done)) (by assumption)) ?_; refine HK _ _ rfl ?_; clear HK K) | (refine aq1 rfl rfl fun K HK => ?_; refine Zn4 (by first | rfl | (simp only [go_sem, e2, e4, e5, e12, e13, e14, wk, Z8]; rfl)) (by first | rfl | (simp only [go_sem, e2, e4, e5, e12, e13, e14, wk, Z8]; rfl)) (by first | (simp only [go_sem]; rfl) | (simp only [go_sem]; done)) (by first | (simp only [go_sem]; rfl) | (simp only [go_sem]; done)) (by decide) (by decide) ?_; refine HK _ _ rfl ?_; clear HK K) | (refine aq1 rfl rfl fun K HK => ?_; refine aOp_lz (by first | rfl | (simp only [go_sem, e2, e4, e5, e12, e13, e14, wk, Z8]; rfl)) (by (simp only [go_sem, ↓reduceIte, Z0, Z2, Z1, Z3, Z4, Z5, Z6, Z7, e2, e4, e5, e12, e13, e14, wk, Z8]; rfl)) (by rw [getD_one (by first | (simp only [go_sem]; rfl) | (simp only [go_sem]; done))]; rfl) ?_; refine HK _ _ rfl ?_; clear HK K))
    | (exfalso; omega)
   refine ⟨rfl, 64 - (k + 1), by omega, k + 1, rndZ kv wv u, by omega, rfl, by rw [hS']; exact hS, by rw [rnd_asc], ?_, ?_, ?_, ?_, ?_, rfl⟩
   all_goals first | rfl | (simp [upd, e2, e4, e5, e12, e13]; done)
 have hk64 : k = 64 := by omega
 subst hk64
 rw [Zq, Zd2] at hS
 repeat' first
  | (with_reducible first | refine sA rfl ?_ | refine sI rfl rfl ?_ | refine sT rfl ?_ | refine sB rfl ?_)
  | (with_reducible refine Xe ?_; first | refine Ya mixd (by kernel_rfl) ?_)
  | (with_reducible refine Y8 ?_; first | refine Y4 ?_ | (refine ao1 rfl rfl fun K HK => ?_; simp only [go_sem, ↓reduceIte, Z0, Z2, Z1, Z3, Z4, Z5, Z6, Z7, e2, e4, e5, e12, e13, e14]; (first | refine Y6 (fun hq => ?_) (fun hq => ?_) | skip) <;> (refine HK _ _ ?_; clear HK K)))
  | (exfalso; omega)
 refine Yr (fun m e h' => ∃ (k : Nat) (U : List Int), k ≤ 8 ∧ m = 8 - k ∧ U.length = 8 ∧ addJ v.ls (8 - k) U = (u.add v).ls ∧ h' = [.cells (v.ls.map zD), .cells (Zd 8 (zD 0)), .cells (W.map zD), .cells (shaK.map zD), .cells (U.map zD)] ∧ e 2 = .ptr 0 0 ∧ e 4 = .ptr 1 0 ∧ e 13 = .ptr 4 0 ∧ e 22 = .v (.int .i64 k)) 8 ⟨0, u.ls, by omega, rfl, rfl, by rw [Nat.sub_zero]; exact addJ_eq u v, rfl, e2, e4, e13, rfl⟩ ?_
 clear hk hlt e2 e4 e5 e12 e13 e14 e
 rintro m e h' ⟨k, U, hk, rfl, hU, hT, rfl, e2, e4, e13, e22⟩
 by_cases hlt : k < 8
 · have hx0 : U[k]? = some U[k] := Z9 (by omega)
   have hvl : v.ls.length = 8 := rfl
   have hx1 : v.ls[k]? = some (v.ls[k]'(by omega)) := Z9 (by omega)
   have hS' : addJ v.ls (8 - (k + 1)) (U.set k (Xw U[k] (v.ls[k]'(by omega)))) = addJ v.ls (8 - k) U := by
    obtain ⟨n, hn⟩ : ∃ n, 8 - k = n + 1 := ⟨7 - k, by omega⟩
    rw [hn, addJ, show 8 - (k + 1) = n by omega, show 7 - n = k by omega]
    simp only [Zf, hx0, hx1, Zk]
   generalize U[k] = x at hx0 hS'
   generalize (v.ls[k]'(by omega)) = y at hx1 hS'
   have wk : IntKind.i64.wrap ((k : Int) + 1) = ((k + 1 : Nat) : Int) := IntWalk.i64_in _ (by omega)
   repeat' first
    | (with_reducible first | refine sA rfl ?_ | refine sI rfl rfl ?_ | refine sT rfl ?_ | refine sB rfl ?_)
    | (with_reducible refine Xe ?_; first | refine Wq mixd (by kernel_rfl) ?_)
    | (with_reducible refine Y8 ?_; first | refine Y4 ?_ | (refine ao1 rfl rfl fun K HK => ?_; simp only [go_sem, ↓reduceIte, Z0, Z2, Z1, Z3, Z4, Z5, Z6, Z7, e2, e4, e13, e22, wk, Z8]; (first | refine Y6 (fun hq => ?_) (fun hq => ?_) | skip) <;> (refine HK _ _ ?_; clear HK K)))
    | ((with_reducible refine gd_aS ?_); first | (refine aS1 rfl rfl fun K HK => ?_; refine Ve (by first | rfl | (simp only [go_sem, e2, e4, e13, e22, wk, Z8]; rfl)) (by first | rfl | (simp only [go_sem, e2, e4, e13, e22, wk, Z8]; rfl)) (by first | (simp only [go_sem]; rfl) | (simp only [go_sem]; done)) (by first | (simp only [go_sem]; rfl) | (simp only [go_sem]; done)) (by omega) ?_; refine HK _ _ rfl ?_; clear HK K) | (refine Vj rfl rfl rfl (by (simp only [go_sem, ↓reduceIte, Z0, Z2, Z1, Z3, Z4, Z5, Z6, Z7, e2, e4, e13, e22, wk, Z8]; rfl)) (Ze1 (by first | (simp only [go_sem]; rfl) | (simp only [go_sem]; done)) (by assumption)) ?_) | (refine Vs rfl rfl (by (simp only [go_sem, ↓reduceIte, Z0, Z2, Z1, Z3, Z4, Z5, Z6, Z7, e2, e4, e13, e22, wk, Z8]; rfl)) rfl (by simp only [go_sem]) (by simp [hU]; omega) ?_) | (refine aS1 rfl rfl fun K HK => ?_; simp only [go_sem, ↓reduceIte, Z0, Z2, Z1, Z3, Z4, Z5, Z6, Z7, e2, e4, e13, e22, wk, Z8]; (first | refine Y6 (fun hq => ?_) (fun hq => ?_) | skip) <;> (refine HK _ _ rfl ?_; clear HK K)) | refine Jw (by simp only [Zi, Zl, Zo, Zm, Vh, chk1]; repeat' (first | exact trivial | refine And.intro ?_ ?_ | exact .inr Xr | exact .inr Wn | exact .inr U1 | exact .inr (Zh3 (by omega)) | exact .inl (by kernel_rfl))) ?_)
    | (exfalso; omega)
   refine ⟨rfl, 8 - (k + 1), by omega, k + 1, U.set k (Xw x y), by omega, rfl, by simp [hU], by rw [hS']; exact hT, ?_, ?_, ?_, ?_, rfl⟩
   · exact congrArg (fun z => [Ob.cells (v.ls.map zD), .cells (Zd 8 (zD 0)), .cells (W.map zD), .cells (shaK.map zD), .cells z]) (by first | exact putL_set0 (W := U) (k := k) (z := Xw x y) (by omega) | exact Jd (W := U) (k := k) (z := Xw x y) (by omega))
   all_goals first | rfl | (simp [upd, e2, e4, e13]; done)
 have hk8 : k = 8 := by omega
 subst hk8
 rw [Zq, addJ] at hT
 have hB : (blkZ v b).ls = U := by rw [hT]; unfold blkZ; rw [hWe, ← hS]
 rw [hB]
 rw [hT]
 repeat' first
  | (with_reducible first | refine sA rfl ?_ | refine sI rfl rfl ?_ | refine sT rfl ?_ | refine sB rfl ?_)
  | (with_reducible refine Xe ?_; first | refine Ya mixd (by kernel_rfl) ?_)
  | (with_reducible refine Y8 ?_; first | refine Y4 ?_ | (refine ao1 rfl rfl fun K HK => ?_; simp only [go_sem, ↓reduceIte, Z0, Z2, Z1, Z3, Z4, Z5, Z6, Z7, e2, e4, e13, e22]; (first | refine Y6 (fun hq => ?_) (fun hq => ?_) | skip) <;> (refine HK _ _ ?_; clear HK K)))
  | (with_reducible refine Ws ?_; first | (refine aq1 rfl rfl fun K HK => ?_; simp only [go_sem, ↓reduceIte, Z0, Z2, Z1, Z3, Z4, Z5, Z6, Z7, e2, e4, e13, e22]; (first | refine Y6 (fun hq => ?_) (fun hq => ?_) | skip) <;> (refine HK _ _ rfl ?_; clear HK K)))
  | ((with_reducible refine Y8 ?_); first | (refine ao1 rfl rfl fun K HK => ?_; refine Yy (by first | rfl | (simp only [go_sem, e2, e4, e13, e22]; rfl)) (by (simp only [go_sem, ↓reduceIte, Z0, Z2, Z1, Z3, Z4, Z5, Z6, Z7, e2, e4, e13, e22]; rfl)) (Jk (by first | (simp only [go_sem]; rfl) | (simp only [go_sem]; done)) (by first | (simp only [go_sem]; rfl) | (simp only [go_sem]; done))) ?_; refine HK _ _ ?_; clear HK K) | (refine ao1' rfl fun K HK => ?_; refine Ze4 (by first | rfl | (simp only [go_sem, e2, e4, e13, e22]; rfl)) (by (simp only [go_sem, ↓reduceIte, Z0, Z2, Z1, Z3, Z4, Z5, Z6, Z7, e2, e4, e13, e22]; rfl)) rfl (by first | (simp only [go_sem]; rfl) | (simp only [go_sem]; done)) rfl ?_; refine HK _ _ ?_; clear HK K))
  | (exfalso; omega)
 exact ⟨.inr rfl, endD (ds := [.agg ((u.add v).ls.map zD)]) (r := .agg ((u.add v).ls.map zD)) hl0 (Zi9 (i := 1) (o := 0) (by simp [upd, e4]) rfl (Jk (by simp only [go_sem]) (by simp only [go_sem]))) (by simp) (by simp) (cvD_zs _ _ _) (Zl0 _ _) ⟨rfl, rfl⟩⟩
end
section
attribute [local irreducible] on aOp
attribute [local go_sem] decide_true decide_false Zb Za
attribute [local simp] byD_len
variable (G : Nat → D) (hG : ∀ g, low 0 (G g))
include hG
theorem rpad0 (b : List UInt8) (hb : b.length ≤ 100000000) : Does Ze G 148 [] [.sl 1 (byD b)] (fun h' r => h' = [.buf 5 1 (byD (padZ b b.length))] ∧ r = .buf 0 (padZ b b.length).length) := by
 refine Y5 Tryz.func148 rfl (Zc rfl) hG fun hl0 _ => ?_
 simp only [Tryz.ntmps148]
 repeat' first
  | (with_reducible first | refine sA rfl ?_ | refine sT rfl ?_)
  | (with_reducible refine Y8 ?_; first | refine Y4 ?_ | (refine ao1 rfl rfl fun K HK => ?_; simp only [go_sem, ↓reduceIte, Z0, Z2, Z1, Z3, Z4, Z5, Z6, Z7, rG_0, V2, V4, V3] <;> (refine HK _ _ ?_; clear HK K)) | refine Wf rfl rfl rfl rfl (by (simp only [go_sem, ↓reduceIte, Z0, Z2, Z1, Z3, Z4, Z5, Z6, Z7, rG_0, V2, V4, V3]; rfl)) (by simp) (by simp only [go_sem]; rfl) (by (simp only [go_sem, ↓reduceIte, Z0, Z2, Z1, Z3, Z4, Z5, Z6, Z7, rG_0, V2, V4, V3]; rfl)) (by simp) (by (first | exact X0 _ | (simp [X9, D.one, Value.oneCell']; done))) (by (simp; omega)) ?_ | refine Js rfl rfl rfl (by (simp only [go_sem, ↓reduceIte, Z0, Z2, Z1, Z3, Z4, Z5, Z6, Z7, rG_0, V2, V4, V3]; rfl)) (by simp) (by simp only [go_sem]; rfl) rfl (by (first | exact X0 _ | (simp [X9, D.one, Value.oneCell']; done))) (by (simp; omega)) ?_)
 refine Yr (fun m e h' => ∃ (k : Nat) (cur : List UInt8) (T : List Ob), k ≤ zc b.length ∧ m = zc b.length - k ∧ cur = b ++ [128] ++ Zd k 0 ∧ h' = rG (byD cur) T ∧ e 0 = .sl 1 (byD b) ∧ e 3 = .buf 0 cur.length) (zc b.length) ⟨0, b ++ [128], [.buf 5 1 (byD [128])], Nat.zero_le _, rfl, by simp, ?_, rfl, ?_⟩ ?_
 · simp [rG, byD]
 · simp [upd]
 rintro m e h' ⟨k, cur, T, hk, rfl, hcur, rfl, e0, e3⟩
 have hcl : cur.length = b.length + 1 + k := by rw [hcur]; simp; omega
 have hz : zc b.length = (119 - b.length % 64) % 64 := rfl
 have wr : (cur.length : Int).tmod 64 = ((cur.length % 64 : Nat) : Int) := by rw [Int.tmod_eq_emod_of_nonneg (by omega)]; rfl
 by_cases hlt : k < zc b.length
 · skip
   repeat' first
    | (with_reducible first | refine sA rfl ?_ | refine sI rfl rfl ?_ | refine sT rfl ?_ | refine sB rfl ?_)
    | (with_reducible refine Y8 ?_; first | refine Y4 ?_ | (refine ao1 rfl rfl fun K HK => ?_; simp only [go_sem, ↓reduceIte, Z0, Z2, Z1, Z3, Z4, Z5, Z6, Z7, e0, e3, wr, Zh, rG_0, V2, V4, V3]; (first | refine W7 (fun hq => ?_) (fun hq => ?_) | skip) <;> (refine HK _ _ ?_; clear HK K)) | refine Wf rfl rfl rfl rfl (by (simp only [go_sem, ↓reduceIte, Z0, Z2, Z1, Z3, Z4, Z5, Z6, Z7, e0, e3, wr, Zh, rG_0, V2, V4, V3]; rfl)) (by simp) (by simp only [go_sem]; rfl) (by (simp only [go_sem, ↓reduceIte, Z0, Z2, Z1, Z3, Z4, Z5, Z6, Z7, e0, e3, wr, Zh, rG_0, V2, V4, V3]; rfl)) (by simp) (by (simp [X9, D.one, Value.oneCell']; done)) (by (simp; omega)) ?_)
    | (exfalso; omega)
   · refine ⟨rfl, zc b.length - (k + 1), by omega, k + 1, cur ++ [0], T ++ [.buf 5 1 [[.v (.int .u8 0)]]], by omega, rfl, by rw [hcur]; simp [List.replicate_succ'], ?_, by simp [upd, e0], by simp [upd]⟩
     exact congrArg (fun x => rG x (T ++ [.buf 5 1 [[.v (.int .u8 0)]]])) (by simp [byD] : byD cur ++ [[D.v (.int .u8 0)]] = byD (cur ++ [0]))
   all_goals (exfalso; omega)
 have hkz : k = zc b.length := by omega
 have wn : IntKind.u64.wrap (b.length : Int) = (b.length : Int) := by rw [IntKind.wrap_u64]; omega
 have w8 : IntKind.u64.wrap ((b.length : Int) * 8) = ((8 * b.length : Nat) : Int) := by rw [IntKind.wrap_u64]; omega
 repeat' first
  | (with_reducible first | refine sA rfl ?_ | refine sI rfl rfl ?_ | refine sT rfl ?_ | refine sB rfl ?_)
  | (with_reducible refine Y8 ?_; first | refine Y4 ?_ | (refine ao1 rfl rfl fun K HK => ?_; simp only [go_sem, ↓reduceIte, Z0, Z2, Z1, Z3, Z4, Z5, Z6, Z7, e0, e3, wr, wn, w8, Zh, rG_0, V2, V4, V3]; (first | refine W7 (fun hq => ?_) (fun hq => ?_) | skip) <;> (refine HK _ _ ?_; clear HK K)) | refine Wf rfl rfl rfl rfl (by (simp only [go_sem, ↓reduceIte, Z0, Z2, Z1, Z3, Z4, Z5, Z6, Z7, e0, e3, wr, wn, w8, Zh, rG_0, V2, V4, V3]; rfl)) (by simp) (by simp only [go_sem]; rfl) (by (simp only [go_sem, ↓reduceIte, Z0, Z2, Z1, Z3, Z4, Z5, Z6, Z7, e0, e3, wr, wn, w8, Zh, rG_0, V2, V4, V3]; rfl)) (by simp) (by (simp [X9, D.one, Value.oneCell']; done)) (by omega) ?_)
  | (exfalso; omega)
 rotate_left
 all_goals try (exfalso; omega)
 refine Yr (fun m e h' => ∃ (j : Nat) (T : List Ob), j ≤ 8 ∧ m = 8 - j ∧ h' = rG (byD (cur ++ (be8 (8 * b.length)).take j)) T ∧ e 3 = .buf 0 (cur.length + j) ∧ e 4 = .v (.int .u64 ((8 * b.length : Nat) : Int)) ∧ e 5 = .v (.int .i64 (56 - 8 * (j : Int)))) 8 ⟨0, T, by omega, rfl, by simp, by simp [upd, e3], rfl, rfl⟩ ?_
 clear hlt e0 e3 wr T e
 rintro m e h' ⟨j, T, hj, rfl, rfl, e3, e4, e5⟩
 have hbl : (be8 (8 * b.length)).length = 8 := by simp [be8]
 have hcj : (cur ++ (be8 (8 * b.length)).take j).length = cur.length + j := by rw [Zp, Zn, hbl]; omega
 by_cases hlt : j < 8
 · have ws : decide ((0 : Int) ≤ 56 - 8 * (j : Int)) = true := decide_eq_true (by omega)
   have wt : (56 - 8 * (j : Int)).toNat = 56 - 8 * j := by omega
   have wu : IntKind.u64.wrap (56 - 8 * (j : Int)) = 56 - 8 * (j : Int) := by rw [IntKind.wrap_u64]; omega
   have hv := be8_val (8 * b.length) (56 - 8 * j) (by omega)
   have w5 : IntKind.i64.wrap (56 - 8 * (j : Int) - 8) = 56 - 8 * ((j + 1 : Nat) : Int) := (IntWalk.i64_in _ (by omega)).trans (by omega)
   generalize hP : cur ++ (be8 (8 * b.length)).take j = P at hcj
   rw [← hcj] at e3
   repeat' first
    | (with_reducible first | refine sA rfl ?_ | refine sI rfl rfl ?_ | refine sT rfl ?_ | refine sB rfl ?_)
    | (with_reducible refine Y8 ?_; first | refine Y4 ?_ | (refine ao1 rfl rfl fun K HK => ?_; simp only [go_sem, ↓reduceIte, Z0, Z2, Z1, Z3, Z4, Z5, Z6, Z7, e3, e4, e5, ws, wt, wu, hv, w5, rG_0, V2, V4, V3] <;> (refine HK _ _ ?_; clear HK K)) | refine Wf rfl rfl rfl rfl (by (simp only [go_sem, ↓reduceIte, Z0, Z2, Z1, Z3, Z4, Z5, Z6, Z7, e3, e4, e5, ws, wt, wu, hv, w5, rG_0, V2, V4, V3]; rfl)) (by simp) (by simp only [go_sem]; rfl) (by (simp only [go_sem, ↓reduceIte, Z0, Z2, Z1, Z3, Z4, Z5, Z6, Z7, e3, e4, e5, ws, wt, wu, hv, w5, rG_0, V2, V4, V3]; rfl)) (by simp) (by (simp [X9, D.one, Value.oneCell']; done)) (by (simp; omega)) ?_)
   · refine ⟨rfl, 8 - (j + 1), by omega, j + 1, T ++ [.buf 5 1 [[.v (.int .u8 ((UInt8.ofNat (8 * b.length / 2 ^ (56 - 8 * j))).toNat : Int))]]], by omega, rfl, ?_, ?_, by simp [upd, e4], rfl⟩
     · rw [be8_take (8 * b.length) hlt, ← List.append_assoc, hP]
       exact congrArg (fun x => rG x (T ++ [.buf 5 1 [[.v (.int .u8 ((UInt8.ofNat (8 * b.length / 2 ^ (56 - 8 * j))).toNat : Int))]]])) (by simp [byD] : byD P ++ [[D.v (.int .u8 ((UInt8.ofNat (8 * b.length / 2 ^ (56 - 8 * j))).toNat : Int))]] = byD (P ++ [UInt8.ofNat (8 * b.length / 2 ^ (56 - 8 * j))]))
     · simp [upd]; omega
   all_goals (exfalso; omega)
 have hj8 : j = 8 := by omega
 subst hj8
 have hP : cur ++ (be8 (8 * b.length)).take 8 = padZ b b.length := by
  rw [List.take_of_length_le (by omega), hcur, hkz]; rfl
 rw [hP] at hcj ⊢
 rw [← hcj] at e3
 have ws : decide ((0 : Int) ≤ 56 - 8 * ((8 : Nat) : Int)) = false := decide_eq_false (by omega)
 repeat' first
  | (with_reducible first | refine sA rfl ?_ | refine sI rfl rfl ?_ | refine sT rfl ?_ | refine sB rfl ?_)
  | (with_reducible refine Y8 ?_; first | refine Y4 ?_ | (refine ao1 rfl rfl fun K HK => ?_; simp only [go_sem, ↓reduceIte, Z0, Z2, Z1, Z3, Z4, Z5, Z6, Z7, e3, e4, e5, ws, rG_0, V2, V4, V3] <;> (refine HK _ _ ?_; clear HK K)))
 all_goals first | (exfalso; omega) | exact ⟨.inr rfl, endB (l := padZ b b.length) rfl (T := T) rfl rfl rfl ⟨rfl, rfl⟩⟩
theorem rpad_d (b : List UInt8) (hb : b.length ≤ 100000000) (h : List Ob) : Does Ze G 148 h [.sl 1 (byD b)] (fun h' r => h' = h ∧ r = .sl 1 (byD (padZ b b.length))) :=
 Zs7 hG (by rw [lowL, lowL]; exact ⟨Yb _ _, trivial⟩) rfl (rpad0 G hG b hb) h
theorem rblock_e {v : W8} {b : List UInt8} {rows : List (List D)} (hr : rows = byD b) (hb : b.length = 64) (h : List Ob) : Does Ze G 149 h [.agg (v.ls.map zD), .sl 1 rows] (fun h' r => h' = h ∧ r = .agg ((blkZ v b).ls.map zD)) := by
 subst hr; exact rblock_d G hG v b hb h
theorem rsum_d (b : List UInt8) (hb : b.length ≤ 100000000) (h : List Ob) : Does Ze G 122 h [.sl 1 (byD b)] (fun h' r => h' = h ∧ r = .v (.string ⟨(sumZ b).toArray⟩)) := by
 refine Yf G hG (by rw [lowL, lowL]; exact ⟨Yb _ _, trivial⟩) (by rw [low]; trivial) ?_ h
 have hp := rpad_d G hG b hb
 have hPm := padZ_len b b.length
 have hPl : (padZ b b.length).length ≤ 100000200 := by unfold padZ zc; simp [be8]; omega
 have hsz : sumZ b = outZ (Wt J8 (padZ b b.length)) := by unfold sumZ; rfl
 rw [hsz]
 generalize padZ b b.length = P at hp hPm hPl ⊢
 refine Y5 Tryz.func122 rfl (Zc rfl) hG fun hl0 _ => ?_
 simp only [Tryz.ntmps122]
 repeat' first
  | (with_reducible first | refine sA rfl ?_ | refine sT rfl ?_)
  | (with_reducible refine Y8 ?_; first | refine Y4 ?_ | (refine ao1 rfl rfl fun K HK => ?_; simp only [go_sem, ↓reduceIte, Z0, Z2, Z1, Z3, Z4, Z5, Z6, Z7] <;> (refine HK _ _ ?_; clear HK K)) | (refine ao2 rfl rfl rfl ent_148 (hp _) ?_; rintro _ _ ⟨rfl, rfl⟩) | (refine ao1' rfl fun K HK => ?_; simp only [go_sem, ↓reduceIte, Z0, Z2, Z1, Z3, Z4, Z5, Z6, Z7]; refine HK _ _ ?_; clear HK K))
 refine Yr (fun m e h' => ∃ (k : Nat) (v : W8), 64 * k ≤ P.length ∧ m = P.length - 64 * k ∧ Wt v (P.drop (64 * k)) = Wt J8 P ∧ h' = [.cells (v.ls.map zD)] ∧ e 3 = .ptr 0 0 ∧ e 4 = .sl 1 (byD P) ∧ e 5 = .v (.int .i64 ((64 * k : Nat) : Int))) P.length ⟨0, J8, Nat.zero_le _, rfl, rfl, rfl, rfl, rfl, rfl⟩ ?_
 rintro m e h' ⟨k, v, hk, rfl, hB, rfl, e3, e4, e5⟩
 by_cases hlt : 64 * k < P.length
 · have h64 : 64 * (k + 1) ≤ P.length := by omega
   have wk : IntKind.i64.wrap (((64 * k : Nat) : Int) + 64) = ((64 * (k + 1) : Nat) : Int) := (IntWalk.i64_in _ (by omega)).trans (by omega)
   have hx : ((byD P).take (((64 * (k + 1) : Nat) : Int)).toNat).drop (((64 * k : Nat) : Int)).toNat = byD ((P.drop (64 * k)).take 64) := by
    rw [Z8, Z8, Za9, show 64 * (k + 1) = 64 * k + 64 by omega, List.drop_take, Nat.add_sub_cancel_left]
   have hl64 : ((P.drop (64 * k)).take 64).length = 64 := by rw [Zn, List.length_drop]; omega
   have hB2 : Wt (blkZ v ((P.drop (64 * k)).take 64)) (P.drop (64 * (k + 1))) = Wt J8 P := by
    rw [← hB, Zh6 (l := P.drop (64 * k)) (by rw [List.length_drop]; omega), List.drop_drop]; rfl
   generalize (P.drop (64 * k)).take 64 = c at hx hl64 hB2
   repeat' first
    | (with_reducible first | refine sA rfl ?_ | refine sI rfl rfl ?_ | refine sT rfl ?_ | refine sB rfl ?_)
    | (with_reducible refine Xe ?_; first | refine Wq mixd (by kernel_rfl) ?_)
    | (with_reducible refine Y8 ?_; first | refine Y4 ?_ | (refine ao1 rfl rfl fun K HK => ?_; simp only [go_sem, ↓reduceIte, Z0, Z2, Z1, Z3, Z4, Z5, Z6, Z7, e3, e4, e5, wk]; (first | refine Y6 (fun hq => ?_) (fun hq => ?_) | (refine Zc4 (by simp only [go_sem]) rfl rfl (by first | omega | simp) (by first | omega | simp) (by simp only [go_sem]; omega) ?_) | skip) <;> (refine HK _ _ ?_; clear HK K)))
    | ((with_reducible refine gd_aS ?_); first | (refine Vj rfl rfl (by first | rfl | (simp only [go_sem, e3, e4, e5, wk]; rfl)) (by (simp only [go_sem, ↓reduceIte, Z0, Z2, Z1, Z3, Z4, Z5, Z6, Z7, e3, e4, e5, wk]; rfl)) (Jk (by first | (simp only [go_sem]; rfl) | (simp only [go_sem]; done)) (by first | (simp only [go_sem]; rfl) | (simp only [go_sem]; done))) ?_) | (refine Vs (es := (blkZ v c).ls.map zD) rfl (by first | rfl | (simp only [go_sem, e3, e4, e5, wk]; rfl)) (by (simp only [go_sem, ↓reduceIte, Z0, Z2, Z1, Z3, Z4, Z5, Z6, Z7, e3, e4, e5, wk]; rfl)) rfl (by rw [all_zs]; simp only [go_sem]; rfl) (by simp [W8.ls]) ?_) | (refine aS1 rfl rfl fun K HK => ?_; simp only [go_sem, ↓reduceIte, Z0, Z2, Z1, Z3, Z4, Z5, Z6, Z7, e3, e4, e5, wk]; (first | refine Y6 (fun hq => ?_) (fun hq => ?_) | (refine Zc4 (by simp only [go_sem]) rfl rfl (by first | omega | simp) (by first | omega | simp) (by simp only [go_sem]; omega) ?_) | skip) <;> (refine HK _ _ rfl ?_; clear HK K)) | refine Jw (by simp only [Zi, Zl, Zo, Zm, Vh, chk1]; repeat' (first | exact trivial | refine And.intro ?_ ?_ | exact .inr Xr | exact .inr Wn | exact .inl (by kernel_rfl))) ?_ | refine Vt rfl rfl rfl ent_149 (fun h2 => rblock_e G hG hx hl64 _) ?_)
    | (exfalso; omega)
   exact ⟨rfl, P.length - 64 * (k + 1), by omega, k + 1, blkZ v c, h64, rfl, hB2, rfl, by simp [upd, e3], by simp [upd, e4], by simp [upd]⟩
 have hkP : P.length ≤ 64 * k := by omega
 rw [List.drop_eq_nil_of_le hkP, Zh5 (by simp)] at hB
 subst hB
 generalize hV : Wt J8 P = v
 repeat' first
  | (with_reducible first | refine sA rfl ?_ | refine sI rfl rfl ?_ | refine sT rfl ?_ | refine sB rfl ?_)
  | (with_reducible refine Xe ?_; first | refine Ya mixd (by kernel_rfl) ?_)
  | (with_reducible refine Y8 ?_; first | refine Y4 ?_ | (refine ao1 rfl rfl fun K HK => ?_; simp only [go_sem, ↓reduceIte, Z0, Z2, Z1, Z3, Z4, Z5, Z6, Z7, e3, e4, e5]; (first | refine Y6 (fun hq => ?_) (fun hq => ?_) | skip) <;> (refine HK _ _ ?_; clear HK K)))
  | (exfalso; omega)
 refine aw_niltmp 5 1 6 rfl ?_
 refine Yr (fun m e h' => ∃ (k : Nat) (out : List UInt8) (U : List Ob), k ≤ 8 ∧ m = 8 - k ∧ out = ((v.ls.take k).map outW).flatten ∧ h' = .cells (v.ls.map zD) :: .buf 5 1 (byD out) :: U ∧ e 3 = .ptr 0 0 ∧ e 6 = .buf 1 out.length ∧ e 7 = .v (.int .i64 k)) 8 ⟨0, [], [], by omega, rfl, rfl, rfl, by simp [upd, e3], by simp [upd], rfl⟩ ?_
 clear e3 e4 e5 e
 rintro m e h' ⟨k, out, U, hk8, rfl, ho, rfl, e3, e6, e7⟩
 have hvl : v.ls.length = 8 := rfl
 have hol : out.length = 4 * k := by
  rw [ho, List.length_flatten, List.map_map]
  have : ∀ l : List Int, (l.map (List.length ∘ outW)).sum = 4 * l.length := fun l => by
   induction l with
   | nil => rfl
   | cons a t ih => rw [List.map_cons, List.sum_cons, ih]; simp [outW]; omega
  rw [this, Zn, hvl]; omega
 by_cases h0 : k < 8
 · have hz : v.ls[k]? = some (v.ls[k]'(by omega)) := Z9 (by omega)
   generalize (v.ls[k]'(by omega)) = z at hz
   have wk : IntKind.i64.wrap ((k : Int) + 1) = ((k + 1 : Nat) : Int) := IntWalk.i64_in _ (by omega)
   repeat' first
    | (with_reducible first | refine sA rfl ?_ | refine sI rfl rfl ?_ | refine sT rfl ?_ | refine sB rfl ?_)
    | (with_reducible refine Y8 ?_; first | refine Y4 ?_ | (refine ao1 rfl rfl fun K HK => ?_; simp only [go_sem, ↓reduceIte, Z0, Z2, Z1, Z3, Z4, Z5, Z6, Z7, e3, e6, e7, wk]; (first | refine Y6 (fun hq => ?_) (fun hq => ?_) | skip) <;> (refine HK _ _ ?_; clear HK K)) | refine Wf rfl rfl rfl rfl (by (simp only [go_sem, ↓reduceIte, Z0, Z2, Z1, Z3, Z4, Z5, Z6, Z7, e3, e6, e7, wk]; rfl)) (by simp) (by simp only [go_sem]; rfl) (by (simp only [go_sem, ↓reduceIte, Z0, Z2, Z1, Z3, Z4, Z5, Z6, Z7, e3, e6, e7, wk]; rfl)) (by simp) (by (simp [X9, D.one, Value.oneCell']; done)) (by (simp; omega)) ?_)
    | ((with_reducible refine Y8 ?_); first | (refine ao1 rfl rfl fun K HK => ?_; refine Ve (by first | rfl | (simp only [go_sem, e3, e6, e7, wk]; rfl)) (by first | rfl | (simp only [go_sem, e3, e6, e7, wk]; rfl)) (by first | (simp only [go_sem]; rfl) | (simp only [go_sem]; done)) (by first | (simp only [go_sem]; rfl) | (simp only [go_sem]; done)) (by omega) ?_; refine HK _ _ ?_; clear HK K) | (refine ao1 rfl rfl fun K HK => ?_; refine Yy (by first | rfl | (simp only [go_sem, e3, e6, e7, wk]; rfl)) (by (simp only [go_sem, ↓reduceIte, Z0, Z2, Z1, Z3, Z4, Z5, Z6, Z7, e3, e6, e7, wk]; rfl)) (Ze1 (by first | (simp only [go_sem]; rfl) | (simp only [go_sem]; done)) (by assumption)) ?_; refine HK _ _ ?_; clear HK K))
    | (exfalso; omega)
   refine ⟨rfl, 8 - (k + 1), by omega, k + 1, out ++ outW z, _, by omega, rfl, ?_, congrArg (fun x => Ob.cells (v.ls.map zD) :: .buf 5 1 x :: (U ++ [_])) (?_ : byD out ++ _ = _), ?_, ?_, rfl⟩
   · rw [ho, List.take_add_one, hz]; simp
   · rw [outW_rows]; simp [byD]
   · simp [upd, e3]
   · simp [upd, outW]
 have hk88 : k = 8 := by omega
 subst hk88
 have hoz : out = outZ v := by rw [ho]; rfl
 repeat' first
  | (with_reducible first | refine sA rfl ?_ | refine sI rfl rfl ?_ | refine sT rfl ?_ | refine sB rfl ?_)
  | (with_reducible refine Y8 ?_; first | refine Y4 ?_ | (refine ao1 rfl rfl fun K HK => ?_; simp only [go_sem, ↓reduceIte, Z0, Z2, Z1, Z3, Z4, Z5, Z6, Z7, e3, e6, e7]; (first | refine Y6 (fun hq => ?_) (fun hq => ?_) | skip) <;> (refine HK _ _ ?_; clear HK K)))
  | ((with_reducible refine Y8 ?_); first | (refine ao1 rfl rfl fun K HK => ?_; refine aOp_bst (bs := out) (by simp only [go_sem, e6]; rfl) rfl rfl (by simp only [go_sem]) (by simp only [go_sem]) ?_; refine HK _ _ ?_; clear HK K))
  | (exfalso; omega)
 rw [hoz]
 exact ⟨.inr rfl, endX [.v (.string ⟨(outZ v).toArray⟩)] [] (.cells (v.ls.map zD) :: .buf 5 1 (byD (outZ v)) :: U) (.v (.string ⟨(outZ v).toArray⟩)) rfl rfl (Nat.le_refl _) hl0 (by rw [low]; trivial) rfl ⟨rfl, rfl⟩⟩
end
section
attribute [local irreducible] on aOp
attribute [local go_sem] decide_true decide_false Zb Za
attribute [local simp] byD_len
variable (G : Nat → D) (hG : ∀ g, low 0 (G g))
include hG
theorem kpad0 (key : List UInt8) (p : UInt8) (hk : key.length ≤ 100000000) : Does Ze G 123 [] [.sl 1 (byD key), .v (.int .u8 p.toNat)] (fun h' r => h' = [.buf 5 1 (byD (xorB p (keyZ key)))] ∧ r = .buf 0 (xorB p (keyZ key)).length) := by
 obtain ⟨kk, hkk⟩ : ∃ kk, kk = if 64 < key.length then sumZ key else key := ⟨_, rfl⟩
 have hKZ : keyZ key = kk ++ Zd (64 - kk.length) 0 := by unfold keyZ; rw [← hkk]
 have hkl := Zm9 key
 have hsl := W3 key
 have hk64 : kk.length ≤ 64 := by rw [hkk]; split <;> omega
 have hw : decide ((64 : Int) < (key.length : Int)) = decide (64 < key.length) := decide_eq_decide.2 (by omega)
 refine Y5 Tryz.func123 rfl (Zc rfl) hG fun hl0 _ => ?_
 simp only [Tryz.ntmps123]
 by_cases hlong : 64 < key.length
 all_goals
  first | rw [if_pos hlong] at hkk | rw [if_neg hlong] at hkk
  repeat' first
   | (with_reducible first | refine sA rfl ?_ | refine sI rfl rfl ?_ | refine sT rfl ?_)
   | (with_reducible refine Y8 ?_; first | (refine ao1 rfl rfl fun K HK => ?_; refine aOp_cvs rfl (by simp only [go_sem]) (by kernel_rfl) (by rw [W3]; decide) ?_; refine HK _ _ ?_; clear HK K) | refine Y4 ?_ | (refine ao1 rfl rfl fun K HK => ?_; simp only [go_sem, ↓reduceIte, Z0, Z2, Z1, Z3, Z4, Z5, Z6, Z7, hlong]; (first | refine Y6 (fun hq => ?_) (fun hq => ?_) | skip) <;> (refine HK _ _ ?_; clear HK K)) | (refine ao2 rfl rfl rfl ent_122 (rsum_d G hG key hk _) ?_; rintro _ _ ⟨rfl, rfl⟩))
   | (exfalso; omega)
  refine Yr (fun m e h' => ∃ (j : Nat) (cur : List UInt8) (U : List Ob), j ≤ 64 ∧ m = 64 - j ∧ cur = xorB p ((keyZ key).take j) ∧ h' = rG (byD cur) U ∧ e 1 = .v (.int .u8 p.toNat) ∧ e 5 = .sl 1 (byD kk) ∧ e 6 = .buf 0 cur.length ∧ e 7 = .v (.int .i64 j)) 64 ⟨0, [], [], by omega, rfl, rfl, rfl, rfl, by rw [hkk]; rfl, rfl, rfl⟩ ?_
  clear hw
  rintro m e h' ⟨j, cur, U, hj, rfl, hcur, rfl, e1, e5, e6, e7⟩
  have hxl : cur.length = j := by rw [hcur]; rw [Vo, Zn]; omega
  by_cases hlt : j < 64
  · have wk : IntKind.i64.wrap ((j : Int) + 1) = ((j + 1 : Nat) : Int) := IntWalk.i64_in _ (by omega)
    have hN : ∀ y : UInt8, (keyZ key)[j]? = some y → byD cur ++ [[.v (.int .u8 ((y ^^^ p).toNat : Int))]] = byD (xorB p ((keyZ key).take (j + 1))) := fun y hy => by
     rw [hcur, List.take_add_one, hy]; simp [xorB, byD]
    by_cases hin : j < kk.length
    · have hy : kk[j]? = some kk[j] := Z9 hin
      have hN2 := hN kk[j] (by rw [hKZ, List.getElem?_append_left hin, hy])
      generalize kk[j] = y at hy hN2
      have xb := Zx5 y p
      rw [← xb] at hN2
      repeat' first
       | (with_reducible first | refine sA rfl ?_ | refine sI rfl rfl ?_ | refine sT rfl ?_ | refine sB rfl ?_)
       | (with_reducible refine Y8 ?_; first | refine Y4 ?_ | (refine ao1 rfl rfl fun K HK => ?_; simp only [go_sem, ↓reduceIte, Z0, Z2, Z1, Z3, Z4, Z5, Z6, Z7, e1, e5, e6, e7, wk, hin, rG_0, V2, V4, V3, Z8]; (first | refine Y6 (fun hq => ?_) (fun hq => ?_) | (refine ⟨by omega, by omega, ?_⟩; intro row hrow; obtain ⟨x, hx, rfl⟩ := Yn hrow; clear hrow) | skip) <;> (refine HK _ _ ?_; clear HK K)) | refine Wf rfl rfl rfl rfl (by (simp only [go_sem, ↓reduceIte, Z0, Z2, Z1, Z3, Z4, Z5, Z6, Z7, e1, e5, e6, e7, wk, hin, rG_0, V2, V4, V3, Z8]; rfl)) (by simp) (by simp only [go_sem]; rfl) (by (simp only [go_sem, ↓reduceIte, Z0, Z2, Z1, Z3, Z4, Z5, Z6, Z7, e1, e5, e6, e7, wk, hin, rG_0, V2, V4, V3, Z8]; rfl)) (by simp) (by (simp [X9, D.one, Value.oneCell']; done)) (by (first | omega | (simp; omega))) ?_)
       | (exfalso; omega)
      all_goals try (exfalso; omega)
      try (obtain rfl := Option.some.inj (hx.symm.trans hy))
      refine ⟨rfl, 64 - (j + 1), by omega, j + 1, _, _, by omega, rfl, rfl, congrArg (fun z => rG z _) hN2, by simp [upd, e1], by simp [upd, e5], ?_, rfl⟩
      simp [upd, Vo]; omega
    · have hN2 := hN 0 (by rw [hKZ, List.getElem?_append_right (by omega), List.getElem?_replicate, if_pos (by omega)])
      have xb := Zx5 0 p
      have xb2 : ((0 : UInt8).toNat : Int) = 0 := rfl
      rw [← xb, xb2] at hN2
      repeat' first
       | (with_reducible first | refine sA rfl ?_ | refine sI rfl rfl ?_ | refine sT rfl ?_ | refine sB rfl ?_)
       | (with_reducible refine Y8 ?_; first | refine Y4 ?_ | (refine ao1 rfl rfl fun K HK => ?_; simp only [go_sem, ↓reduceIte, Z0, Z2, Z1, Z3, Z4, Z5, Z6, Z7, e1, e5, e6, e7, wk, hin, rG_0, V2, V4, V3, Z8]; (first | refine Y6 (fun hq => ?_) (fun hq => ?_) | (refine ⟨by omega, by omega, ?_⟩; intro row hrow; obtain ⟨x, hx, rfl⟩ := Yn hrow; clear hrow) | skip) <;> (refine HK _ _ ?_; clear HK K)) | refine Wf rfl rfl rfl rfl (by (simp only [go_sem, ↓reduceIte, Z0, Z2, Z1, Z3, Z4, Z5, Z6, Z7, e1, e5, e6, e7, wk, hin, rG_0, V2, V4, V3, Z8]; rfl)) (by simp) (by simp only [go_sem]; rfl) (by (simp only [go_sem, ↓reduceIte, Z0, Z2, Z1, Z3, Z4, Z5, Z6, Z7, e1, e5, e6, e7, wk, hin, rG_0, V2, V4, V3, Z8]; rfl)) (by simp) (by (simp [X9, D.one, Value.oneCell']; done)) (by (first | omega | (simp; omega))) ?_)
       | (exfalso; omega)
      all_goals try (exfalso; omega)
      refine ⟨rfl, 64 - (j + 1), by omega, j + 1, _, _, by omega, rfl, rfl, congrArg (fun z => rG z _) hN2, by simp [upd, e1], by simp [upd, e5], ?_, rfl⟩
      simp [upd, Vo]; omega
  have hj64 : j = 64 := by omega
  subst hj64
  rw [List.take_of_length_le (by omega)] at hcur
  subst hcur
  repeat' first
   | (with_reducible first | refine sA rfl ?_ | refine sI rfl rfl ?_ | refine sT rfl ?_ | refine sB rfl ?_)
   | (with_reducible refine Y8 ?_; first | refine Y4 ?_ | (refine ao1 rfl rfl fun K HK => ?_; simp only [go_sem, ↓reduceIte, Z0, Z2, Z1, Z3, Z4, Z5, Z6, Z7, e1, e5, e6, e7, rG_0, V2, V4, V3]; (first | refine Y6 (fun hq => ?_) (fun hq => ?_) | (refine ⟨by omega, by omega, ?_⟩; intro row hrow; obtain ⟨x, hx, rfl⟩ := Yn hrow; clear hrow) | skip) <;> (refine HK _ _ ?_; clear HK K)) | refine Wf rfl rfl rfl rfl (by (simp only [go_sem, ↓reduceIte, Z0, Z2, Z1, Z3, Z4, Z5, Z6, Z7, e1, e5, e6, e7, rG_0, V2, V4, V3]; rfl)) (by simp) (by simp only [go_sem]; rfl) (by (simp only [go_sem, ↓reduceIte, Z0, Z2, Z1, Z3, Z4, Z5, Z6, Z7, e1, e5, e6, e7, rG_0, V2, V4, V3]; rfl)) (by simp) (by (simp [X9, D.one, Value.oneCell']; done)) (by omega) ?_)
   | (exfalso; omega)
  all_goals first | (exfalso; omega) | exact ⟨.inr rfl, endB (l := xorB p (keyZ key)) rfl (T := U) rfl rfl rfl ⟨rfl, rfl⟩⟩
theorem rsum_b {b : List UInt8} (hb : b.length ≤ 100000000) {h : List Ob} {i E n : Nat} {rows : List (List D)} (hi : h[i]? = some (.buf E 1 rows)) (hr : rows = byD b) (hn : n = b.length) : Does Ze G 122 h [.buf i n] (fun h' r => h' = h.set i .dead ∧ r = .v (.string ⟨(sumZ b).toArray⟩)) := by
 subst hr hn
 exact Does.give1c hi byD_len (rsum_d G hG b hb _)
theorem rtag_d (key m : List UInt8) (hk : key.length ≤ 1000000) (hml : m.length ≤ 90000000) (h : List Ob) : Does Ze G 101 h [.sl 1 (byD key), .sl 1 (byD m)] (fun h' r => h' = h ∧ r = .sl 1 (byD (tagZ key m))) := by
 refine Yf G hG (by rw [lowL, lowL, lowL]; exact ⟨Yb _ _, Yb _ _, trivial⟩) (Yb _ _) ?_ h
 have hkl := Zm9 key
 have hT : tagZ key m = sumZ (xorB 92 (keyZ key) ++ sumZ (xorB 54 (keyZ key) ++ m)) := by unfold tagZ; rfl
 have hp1 := fun h => does_new hG (by simp only [lowL, low]; exact ⟨Yb _ _, trivial, trivial⟩) (kpad0 G hG key 54 (by omega)) h
 have hp2 := fun h => does_new hG (by simp only [lowL, low]; exact ⟨Yb _ _, trivial, trivial⟩) (kpad0 G hG key 92 (by omega)) h
 generalize keyZ key = KK at hkl hT hp1 hp2
 have hx1 := Vo 54 KK
 have hx2 := Vo 92 KK
 have hs1 := W3 (xorB 54 KK ++ m)
 refine Y5 Tryz.func101 rfl (Zc rfl) hG fun hl0 _ => ?_
 simp only [Tryz.ntmps101]
 repeat' first
  | (with_reducible first | refine sA rfl ?_ | refine sT rfl ?_)
  | (with_reducible refine Y8 ?_; first | (refine ao1 rfl rfl fun K HK => ?_; refine aOp_cvs rfl (by simp only [go_sem]) (by kernel_rfl) (by rw [W3]; decide) ?_; refine HK _ _ ?_; clear HK K) | refine Y4 ?_ | (refine ao1 rfl rfl fun K HK => ?_; simp only [go_sem, ↓reduceIte, Z0, Z2, Z1, Z3, Z4, Z5, Z6, Z7] <;> (refine HK _ _ ?_; clear HK K)) | refine Js rfl rfl rfl (by (simp only [go_sem, ↓reduceIte, Z0, Z2, Z1, Z3, Z4, Z5, Z6, Z7]; rfl)) (by simp) (by simp only [go_sem]; rfl) rfl (by exact X0 _) (by (simp; omega)) ?_ | (refine ao2 rfl rfl rfl ent_123 (hp1 _) ?_; rintro _ _ ⟨rfl, rfl⟩) | (refine ao2 rfl rfl rfl ent_123 (hp2 _) ?_; rintro _ _ ⟨rfl, rfl⟩) | (refine ao2 rfl rfl rfl ent_122 (rsum_b G hG (b := xorB 54 KK ++ m) (by rw [Zp]; omega) (by with_unfolding_all rfl) (by simp [byD]) (by first | (simp; done) | (simp; omega))) ?_; rintro _ _ ⟨rfl, rfl⟩) | (refine ao2 rfl rfl rfl ent_122 (rsum_b G hG (b := xorB 92 KK ++ sumZ (xorB 54 KK ++ m)) (by rw [Zp, W3]; omega) (by with_unfolding_all rfl) (by simp [byD]) (by first | (simp [W3]; done) | (simp [W3]; omega))) ?_; rintro _ _ ⟨rfl, rfl⟩))
 rw [hT]
 exact ⟨.inr rfl, endD (r := .sl 1 (byD (sumZ (xorB 92 KK ++ sumZ (xorB 54 KK ++ m))))) hl0 rfl (by simp) (by simp) rfl (Yb _ _) ⟨rfl, rfl⟩⟩
end
end Go.Proofs.YtgkjcmglcnhpaaaGreatDoor
