/-
  What the statements of the chapter share, part 13: WR1, WR2, WR3, RB0, CL0, CL2, OF0.
-/
import Derived.Test.YtbhkcbidcfofiaaGreatY09
import Derived.Test.YtbhkcbidcfofiaaGreatY11
import Derived.Test.YtbhkcbidcfofiaaGreatY12
import Derived.Laws.BitsAllLaws
import Derived.Lib.Zigzag
set_option linter.unusedVariables false
set_option linter.unusedSimpArgs false
set_option maxRecDepth 100000
set_option maxHeartbeats 8000000
namespace Go.Proofs.YtbhkcbidcfofiaaGreat
open _root_.Bool renaming not_false → Z0, not_true → Z1
open _root_.List renaming map_cons → Z2
open Go.RowKit
section
attribute [local irreducible] on aOp
attribute [local go_sem] decide_true decide_false Z1 Z0
attribute [local simp] byD_len
variable (G : Nat → D) (hG : ∀ g, low 0 (G g))
def wG (n : Nat) (rows : List (List D)) (T : List Ob) : List Ob := .cells [.buf 1 n] :: .buf 5 1 rows :: T
def wH (l : List UInt8) : List Ob := wG l.length (byD l) []
theorem wH_eq (l : List UInt8) : wH l = wG l.length (byD l) [] := rfl
section
variable {n m : Nat} {rows r2 : List (List D)} {T l : List Ob}
theorem wG_0 : (wG n rows T)[0]? = some (.cells [.buf 1 n]) := rfl
theorem wG_1 : (wG n rows T)[1]? = some (.buf 5 1 rows) := rfl
theorem wG_s0 : (wG n rows T).set 0 (.cells [.buf 1 m]) = wG m rows T := rfl
theorem wG_s1 : (wG n rows T).set 1 (.buf 5 1 r2) = wG n r2 T := rfl
theorem wG_a0 : (wG n rows T ++ l)[0]? = some (.cells [.buf 1 n]) := rfl
theorem wG_a1 : (wG n rows T ++ l)[1]? = some (.buf 5 1 rows) := rfl
theorem wG_b0 : (wG n rows T ++ l).set 0 (.cells [.buf 1 m]) = wG m rows (T ++ l) := rfl
theorem wG_b1 : (wG n rows T ++ l).set 1 (.buf 5 1 r2) = wG n r2 (T ++ l) := rfl
end
include hG
attribute [local go_sem] Int.reduceEq Int.reduceLE Int.reduceLT Nat.reduceAdd Nat.reduceBEq Nat.reduceEqDiff Nat.reduceLeDiff Nat.reduceMul wG_0 wG_1 wG_a0 wG_a1 wG_b0 wG_b1 wG_s0 wG_s1 wH_eq
attribute [local go_sem ↓] reduceIte
omit hG
include hG
end
section
attribute [local irreducible] on aOp
attribute [local go_sem] decide_true decide_false Z1 Z0
attribute [local simp] byD_len
theorem renR_by (π : Nat → Nat) (l : List UInt8) : renR π (byD l) = byD l := by
 have := J8 π (.sl 1 (byD l)) (low_by 0 l)
 rw [ren] at this
 exact (D.sl.inj this).2
variable (G : Nat → D) (hG : ∀ g, low 0 (G g))
include hG
omit hG
structure Cmd where
 client : Int
 seq : Int
 kind : Int
 writes : List (ByteArray × List UInt8)
 replica : Int
 tag : List UInt8
def wrX (x : ByteArray × List UInt8) : List D := [.v (.string x.1), .sl 1 (byD x.2)]
def cmdX (c : Cmd) : List D := [.v (.int .i64 c.client), .v (.int .i64 c.seq), .v (.int .i64 c.kind), .sl 2 (c.writes.map wrX), .v (.int .i64 c.replica), .sl 1 (byD c.tag)]
structure Cmd.Ok (c : Cmd) : Prop where
 client : I64 c.client
 seq : I64 c.seq
 kind : I64 c.kind
 replica : I64 c.replica
 many : c.writes.length ≤ 3000
 each : ∀ x ∈ c.writes, x.1.size ≤ 10000 ∧ x.2.length ≤ 10000
 tag : c.tag.length ≤ 10000
def writesE (l : List (ByteArray × List UInt8)) : List UInt8 := l.flatMap fun x => textE x.1 ++ bytesE x.2
def writeC (c : Cmd) : List UInt8 := intE c.client ++ intE c.seq ++ intE c.kind ++ Zl2 c.writes.length ++ writesE c.writes ++ intE c.replica
def encC (c : Cmd) : List UInt8 := writeC c ++ bytesE c.tag
def wB (n : Nat) (rows : List (List D)) (b : Ob) (T : List Ob) : List Ob := wG n rows (b :: T)
section
variable {n m : Nat} {rows r2 : List (List D)} {T : List Ob} {b x y : Ob}
theorem wB_len : (wB n rows b T).length = T.length + 3 := rfl
theorem wH_box {l : List UInt8} : wH l ++ [x] = wB l.length (byD l) x [] := rfl
theorem wH_len {l : List UInt8} : (wH l).length = 2 := rfl
end
include hG
end
section
attribute [local irreducible] on aOp
attribute [local go_sem] decide_true decide_false Z1 Z0
attribute [local simp] byD_len
variable (G : Nat → D) (hG : ∀ g, low 0 (G g))
def hE (c : Cmd) (n : Nat) (rows : List (List D)) : List Ob := [.cells (cmdX c), .cells [.buf 2 n], .buf 5 1 rows]
include hG
theorem Ya {P : Program} {f : FuncId} {args : List D} {r : D} (la : lowL 0 args) (lr : low 0 r) (q : Does P G f [] args (fun h' r' => h' = [] ∧ r' = r)) (h : List Ob) : Does P G f h args (fun h' r' => h' = h ∧ r' = r) := by
 have L : Lies (fun i => i) [] h := ⟨fun i ob q => by simp at q, fun i j q => by simp at q, fun ob q => by simp at q⟩
 have F := Does.frame hG L (args := args) la (K1 := fun h1 r1 => h1 = [] ∧ r1 = r) (by
  rintro _ _ ⟨rfl, _⟩
  exact ⟨fun i j hi => by simp at hi, fun j _ hj => by simp at hj⟩) q
 rw [W5 _ _ la] at F
 refine F.mono ?_
 rintro _ _ ⟨_, _, ⟨rfl, rfl⟩, rfl, rfl⟩
 exact ⟨rfl, J8 _ _ lr⟩
omit hG in
omit hG in
end
section
variable {P : Program} {G : Nat → D} {h : List Ob} {f : FuncId} {args : List D}
theorem Does.drop {K K' : List Ob → D → Prop} (hG : ∀ g, low 0 (G g)) (q : Does P G f h args K) (k : ∀ h' r, K h' r → ∃ m, h.length ≤ m ∧ m ≤ h'.length ∧ lowH m (h'.take m) ∧ low m (cvD (fun i => decide (m ≤ i)) h' r) ∧ K' (h'.take m) (cvD (fun i => decide (m ≤ i)) h' r)) : Does P G f h args K' := fun w hd p vs o ha => by
 refine (q w hd p vs o ha).mono ?_
 rintro e w' ⟨v, hd', h', r, p', rfl, hK, ok, hr, ev⟩
 obtain ⟨m, h2, h3, h4, h5, h6⟩ := k _ _ hK
 obtain ⟨p2, o2, ev2, cv⟩ := ok.give fun i => decide (m ≤ i)
 have htk : (Zj8 (fun i => decide (m ≤ i)) h').take m = h'.take m := by
  apply List.ext_getElem?
  intro i
  rw [List.getElem?_take, List.getElem?_take]
  split
  · rename_i hi
    unfold Zj8
    rw [List.getElem?_mapIdx]
    cases h'[i]? with
    | none => rfl
    | some ob => simp [show ¬ m ≤ i by omega]
  · rfl
 have hlk : (Zj8 (fun i => decide (m ≤ i)) h').length = h'.length := by simp [Zj8]
 have o3 := o2.take (m := m) (by rw [htk]; exact h4) fun g => Zt9 (Nat.zero_le _) _ (hG g)
 have ev3 := (ev.trans ev2).take o h2 (by rw [hlk]; exact h3)
 have q3 := Zi8 (m := m) (by rw [hlk, ok.len]) _ _ h5 (cv _ _ hr)
 rw [htk] at o3 ev3 q3
 exact ⟨v, _, _, _, p2, rfl, h6, o3, q3, ev3⟩
end
section
variable {P : Program} {G : Nat → D} {n : Nat} {e : Nat → D} {h : List Ob} {ops : Array Oper} {rest : List Oper} {Q : S → Prop}
theorem tri_soundE {B : Base} {a : Act} {w : World} {o : Oper} {K : Act → World → Prop} {KD : List Ob → D → Prop} {R : Exit → Act → World → Prop} (q : OpTri P G o ((opds o.op).map (ev G e)) h KD) (r : Sit G B ⟨n, e, h⟩ a w) (k : ∀ h' d, KD h' d → ∀ a' w', Sit G B ⟨n, putE n e o.dst d, h'⟩ a' w' → K a' w') : o.wp P a w K R := by
 obtain ⟨hd, p, r⟩ := r
 refine Oper.wp_mono ?_ (q a w hd p R r.defers r.ok (Zp6 r _))
 rintro a' w' ⟨v, rfl, hd', h'', d', p', hk, o', q', ev'⟩
 have := r.put o' ev' q' o.dst
 rw [J9] at this
 exact k _ _ hk _ _ ⟨hd', p', this⟩
theorem ao_ex {o : Oper} {KD : List Ob → D → Prop} (hw : Yc ops o.guard e = some true) (q : OpTri P G o ((opds o.op).map (ev G e)) h KD) (k : ∀ h' d, KD h' d → ao P G ops rest Q ⟨n, putE n e o.dst d, h'⟩) : ao P G ops (o :: rest) Q ⟨n, e, h⟩ := by
 rintro B a w r R hR
 obtain ⟨hd, p, r'⟩ := id r
 unfold wpList
 rw [if_pos (X4 (o := o) r' hw)]
 exact .inl (tri_soundE q r fun h' d hk a' w' r2 => k h' d hk B a' w' r2 R hR)
theorem tri_nil {dst : Option Nat} {t yt ty : TypeId} {x y : Operand} {pos : String} {aft : Array Edge} {gd : Option (Nat × Bool)} {k : Nat} {xs : List (List D)} (ht : slT P t = true) :
 OpTri P G ⟨dst, .binOp .eql t x y yt, ty, pos, aft, gd⟩ [.sl k xs, .v (.slice none 0 0)] h (fun h' d => h' = h ∧ ((d = .v (.bool true) ∧ xs = []) ∨ d = .v (.bool false))) := fun a w hd p R hdf ok ha => by
 have ho : opds (.binOp .eql t x y yt) = [x, y] := by simp [opds, Op.operands]
 rw [ho, Z2, Z2, List.map_nil, rdL] at ha
 obtain ⟨u, t1, e1, h1, ha⟩ := ha
 rw [rdL] at ha
 obtain ⟨u2, t2, e2, h2, ha⟩ := ha
 rw [rd] at h1
 rw [rd] at h2
 obtain ⟨ad, cap, hu, hc, _, hr⟩ := h1
 subst h2
 cases e1
 injection e2 with e2 e3
 obtain ⟨el, hun⟩ := Vw ht
 have en : ∀ w, (Op.equal t (.slice ad xs.length cap) (.slice none 0 0)).run P w = .ok (ad.isNone) w := fun w => by
  unfold Op.equal Op.maxDepth Op.equalIn
  cases ad <;> simp [Go.underlying, hun]
 have hrun : (execOp a.eval ⟨dst, .binOp .eql t x y yt, ty, pos, aft, gd⟩).run P w = .ok (.value (.bool ad.isNone)) w := by
  simp [execOp, hu, e2, eqGuard, binOp, en]
 unfold Oper.wp
 rw [hrun]
 refine ⟨_, rfl, .same ok ⟨rfl, ?_⟩ (d := .v (.bool ad.isNone)) (by rw [rd])⟩
 cases ad with
 | none =>
  refine .inl ⟨rfl, ?_⟩
  have := hc.1 rfl
  exact List.eq_nil_of_length_eq_zero (by omega)
 | some a => exact .inr rfl
theorem Does.nilbuf {f : FuncId} {args : List D} {K K' : List Ob → D → Prop} (E k : Nat) (q : Does P G f h args K) (c : ∀ h' r, K h' r → K' h' r ∨ (r = .v (.slice none 0 0) ∧ K' (h' ++ [.buf E k []]) (.buf h'.length 0))) : Does P G f h args K' := fun w hd p vs o ha => by
 refine (q w hd p vs o ha).mono ?_
 rintro e w' ⟨v, hd', h', r, p', rfl, hK, ok, hr, ev⟩
 rcases c _ _ hK with hk | ⟨rfl, hk⟩
 · exact ⟨v, hd', h', r, p', rfl, hk, ok, hr, ev⟩
 · obtain ⟨o2, ev2⟩ := Ok.grow (ob := .buf E k []) (u := .slice none 0 0) (w' := w') ok rfl rfl rfl (Nat.le_refl _) (fun _ _ => rfl) (fun b hb => by cases hb) (fun c s => ⟨[], World.ownsRow_nil _ _ _ _, by simp [rdL], fun row h => by simp at h, fun g h => by cases h⟩)
   exact ⟨v, _, _, _, _, rfl, hk, o2, Zw6 (E := E) (k := k) (by simp) (by rw [← ok.len]; simp) (ev2.rd ok hr), ev.trans ev2⟩
end
section
section
variable {P : Program} {G : Nat → D} {n m0 : Nat} {e : Nat → D} {h : List Ob} {ops : Array Oper} {rest : List Oper} {Q : (Nat → D) → List Ob → Prop} {done : List Eff} {t : Nat} {ty : TypeId} {pos : String} {aft : Array Edge} {gd : Option (Nat × Bool)}
theorem aS_idxB {u : TypeId} {x y : Operand} {i m E k : Nat} {κ : IntKind} {z : Int} {xs : List (List D)} (hw : Yc ops gd e = some true) (ht : decide (t < n) = true) (hx : ev G e x = .buf i m) (hy : ev G e y = .v (.int κ z)) (hi : h[i]? = some (.buf E k xs)) (hm : xs.length = m) (he : (elT P u).bind (szT P) = some k) (h0 : 0 ≤ z) (h1 : z < (m : Int))
 (q : aeS P G n m0 ops Q (Wq i (.buf E k xs) (.bp i m z.toNat 0) :: done) rest (upd e t (.bp i m z.toNat 0)) h) : aeS P G n m0 ops Q done (⟨some t, .indexAddr u x y, ty, pos, aft, gd⟩ :: rest) e h := by
 have hh : ∀ h, (Wq i (.buf E k xs) (.bp i m z.toNat 0)).heap h = h := fun h => by simp [Wq, Eff.heap, Yv]
 refine ⟨Wq i (.buf E k xs) (.bp i m z.toNat 0), .inl ⟨hw, ⟨by simp [Wq], fun _ _ _ => rfl⟩, fun h2 k2 => .inl ?_⟩, by simpa [Wq, Eff.ok] using hi, ?_⟩
 · rw [hh]
   have hi2 : h2[i]? = some (.buf E k xs) := k2 (i, .buf E k xs) (by simp [Wq])
   rw [aOp_iaddr, hx, hy, idxA_buf]
   exact ⟨E, k, xs, hi2, hm, he, h0, h1, rfl, rfl⟩
 · rw [hh]; unfold putE; simp only [if_pos (of_decide_eq_true ht)]; exact q
theorem aS_loadB {u : TypeId} {x : Operand} {i m r j E k : Nat} {xs : List (List D)} {row : List D} {d : D} (hw : Yc ops gd e = some true) (ht : decide (t < n) = true) (hx : ev G e x = .bp i m r j) (hi : h[i]? = some (.buf E k xs)) (hm : xs.length = m) (hr : xs[r]? = some row) (hg : getD P u row j = some d)
 (q : aeS P G n m0 ops Q (Wq i (.buf E k xs) d :: done) rest (upd e t d) h) : aeS P G n m0 ops Q done (⟨some t, .load u x, ty, pos, aft, gd⟩ :: rest) e h := by
 have hh : ∀ h, (Wq i (.buf E k xs) d).heap h = h := fun h => by simp [Wq, Eff.heap, Yv]
 refine ⟨Wq i (.buf E k xs) d, .inl ⟨hw, ⟨by simp [Wq], fun _ _ _ => rfl⟩, fun h2 k2 => .inl ?_⟩, by simpa [Wq, Eff.ok] using hi, ?_⟩
 · rw [hh]
   have hi2 : h2[i]? = some (.buf E k xs) := k2 (i, .buf E k xs) (by simp [Wq])
   show on (Ug P h2 u (ev G e x)) _
   rw [hx]
   simp only [Ug, hi2, hr, if_pos hm, Option.bind_some, hg, on]
   exact ⟨trivial, rfl⟩
 · rw [hh]; unfold putE; simp only [if_pos (of_decide_eq_true ht)]; exact q
end
theorem does_newR {P : Program} {G : Nat → D} {f : FuncId} {args : List D} (hG : ∀ g, low 0 (G g)) {e k n : Nat} {rows : List (List D)} (lr : low 0 (.sl k rows)) (la : lowL 0 args) (q : Does P G f [] args (fun h' r => h' = [.buf e k rows] ∧ r = .buf 0 n)) (h : List Ob) : Does P G f h args (fun h' r => h' = h ++ [.buf e k rows] ∧ r = .buf h.length n) := by
 refine Does.holes 1 ?_
 have L : Lies (fun _ => h.length) [] (h ++ holes 1) := ⟨fun i ob q => by simp at q, fun i j q => by simp at q, fun ob q => by simp at q⟩
 have F := Does.frame hG L (args := args) la (K1 := fun h' r => h' = [.buf e k rows] ∧ r = .buf 0 n) (by
  rintro _ _ ⟨rfl, _⟩
  refine ⟨fun i j hi hj _ => by simp at hi hj; omega, fun j _ hj => ?_⟩
  simp [holes]) q
 rw [W5 _ _ la] at F
 refine F.mono ?_
 rintro _ _ ⟨_, _, ⟨rfl, rfl⟩, rfl, rfl⟩
 have e1 : renR (fun _ => h.length) rows = rows := by
  have := J8 (fun _ => h.length) _ lr
  rw [ren] at this
  exact (D.sl.inj this).2
 simp [plc, Va, ren, holes, e1]
end
section
section
variable {P : Program} {G : Nat → D} {n : Nat} {e : Nat → D} {h : List Ob} {ops : Array Oper} {rest : List Oper} {Q : S → Prop} {t : Nat} {ty : TypeId} {pos : String} {aft : Array Edge} {gd : Option (Nat × Bool)}
theorem ao_callK {x : Operand} {args : Array Operand} {tys : Array TypeId} {f : FuncId} {cap : List D} {K : List Ob → D → Prop} (hw : Yc ops gd e = some true) (ht : decide (t < n) = true) (hx : ev G e x = .fn f cap) (he : entB P f = true) (hc : Does P G f h (args.toList.map (ev G e) ++ cap) K)
 (q : ∀ h' r, K h' r → ao P G ops rest Q ⟨n, upd e t r, h'⟩) : ao P G ops (⟨some t, .call ⟨.value x, args, tys⟩, ty, pos, aft, gd⟩ :: rest) Q ⟨n, e, h⟩ := by
 have ho : opds (.call ⟨.value x, args, tys⟩) = x :: args.toList := by simp [opds, Op.operands, Call.operands]
 refine ao_ex (KD := K) hw ?_ fun h' d hk => ?_
 · show OpTri P G _ ((opds (.call ⟨.value x, args, tys⟩)).map (ev G e)) h K
   rw [ho, Z2, hx]
   exact Zu9 he hc
 · unfold putE
   simp only [if_pos (of_decide_eq_true ht)]
   exact q h' d hk
end
end
end Go.Proofs.YtbhkcbidcfofiaaGreat
