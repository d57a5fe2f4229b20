/-
  What the statements of the chapter share, part 20: PL1, LX, LA1, LA2, LA3, LA4, LA5, LB1, LB2, LB3.
-/
import Derived.Test.YtgkjcmglcnhpaaaGreatDoorT01
import Derived.Test.YtgkjcmglcnhpaaaGreatDoorT15
import Derived.Lib.Strings
set_option linter.unusedVariables false
set_option linter.unusedSimpArgs false
set_option maxRecDepth 100000
set_option maxHeartbeats 8000000
namespace Go.Proofs.YtgkjcmglcnhpaaaGreatDoor
open _root_.Array renaming getElem?_eq_getElem → Zk
open _root_.Bool renaming false_eq_true → Z5, not_false → Ze, true_and → Zg, not_true → Zh, eq_iff_iff → Zj, false_and → Zm
open _root_.Int renaming reduceEq → Z6, reduceLT → Z7, reduceLE → Z8, toNat_natCast → Zb, toNat_zero → Zn
open _root_.List renaming length_map → Z9, getElem?_eq_getElem → Zc, drop_eq_nil_of_le → Zd, drop_eq_getElem_cons → Zi, all_cons → Zo
open _root_.Nat renaming reduceEqDiff → Z0, reduceLeDiff → Z1, reduceAdd → Z2, reduceBEq → Z3, reduceMul → Z4, le_of_ble_eq_true → Za, zero_le → Zl
open _root_.Go.Proofs.Tryz renaming prog → Zf
open Go.RowKit
section
def wordB (c : Int) : Bool := decide ((97 ≤ c ∧ c ≤ 122) ∨ (48 ≤ c ∧ c ≤ 57) ∨ c = 45)
def strEq (a b : ByteArray) : Bool := decide (a = b)
def hasS : List ByteArray → ByteArray → Bool
 | [], _ => false
 | x :: s, c => decide (x = c) || hasS s c
theorem U7 {α : Type} (xs : List α) (k : Nat) (h : k < xs.length) : xs.drop k = xs[k] :: xs.drop (k + 1) := Zi h
def Jb (a b : List ByteArray) : Bool := a.all fun s => hasS b s
def Yf7 (a b : ByteArray) : Bool := Op.bytesLess a.toList b.toList
def Xz : ByteArray → List ByteArray → Bool
 | _, [] => true
 | p, x :: t => Yf7 p x && Xz x t
def Vi : List ByteArray → Bool
 | [] => true
 | x :: t => Xz x t
theorem sorted_step (l : List ByteArray) (k : Nat) (h : k + 1 < l.length) : Xz (l[k]'(by omega)) (l.drop (k + 1)) = (Yf7 (l[k]'(by omega)) l[k + 1] && Xz l[k + 1] (l.drop (k + 2))) := by
  rw [U7 l (k + 1) h, Xz]
def Js (s : ByteArray) : Bool := decide (1 ≤ s.size ∧ s.size ≤ 16) && (decide ((97 : Int) ≤ ((s.data.toList.getD 0 0).toNat : Int) ∧ ((s.data.toList.getD 0 0).toNat : Int) ≤ 122) && s.data.toList.all fun c => wordB c.toNat)
theorem all_attach {α : Type} (l : List α) (f : α → Bool) : (l.attach.all fun p => f p.1) = l.all f := by
  rw [Zj]
  simp [List.all_eq_true]
def J9 : Lat → Bool
 | .mk k _ _ _ ps _ => decide (k = 1 ∨ k = 2 ∨ k = 3) || (decide (k = 7) && decide (ps.length = 2) && ps.attach.all fun p => J9 p.1)
 termination_by l => SizeOf.sizeOf l
 decreasing_by
  have := List.sizeOf_lt_of_mem p.2
  simp only [Lat.mk.sizeOf_spec]
  omega
theorem Ye7 (l : Lat) : J9 l = (decide (l.kind = 1 ∨ l.kind = 2 ∨ l.kind = 3) || (decide (l.kind = 7) && decide (l.parts.length = 2) && l.parts.all J9)) := by
 cases l with
 | mk k lo hi ns ps rs => rw [J9, all_attach]; rfl
theorem Zf0 {l p : Lat} (h : p ∈ l.parts) : SizeOf.sizeOf p < SizeOf.sizeOf l := by
 cases l with
 | mk k lo hi ns ps rs =>
   have := List.sizeOf_lt_of_mem h
   simp only [Lat.parts] at this
   simp only [Lat.mk.sizeOf_spec]
   omega
def Jp (b : Bool) (e : Int) : Int := if b then e else 0
def mostN (k : Int) : Nat := if k = 6 then 8 else if k = 10 then 12 else 32
def Zm5 (l : Lat) : Bool := decide (mostN l.kind < l.names.length ∨ 32 < l.rules.length)
def Zs3 (l : Lat) : Bool := decide (l.hi < l.lo ∨ l.lo < -1000000000 ∨ 1000000000 < l.lo ∨ l.hi < -1000000000 ∨ 1000000000 < l.hi)
def Zg7 (l : Lat) : Bool := decide (l.kind = 7) && !(match l.parts with
 | p :: _ => J9 p
 | [] => true)
def U3 (k : Int) (n : Nat) : Option (Nat × Bool × Bool × Bool) :=
 if k = 1 ∨ k = 9 then some (0, false, false, false) else if k = 2 ∨ k = 3 then some (0, false, false, true)
 else if k = 4 ∨ k = 8 then some (0, true, false, false) else if k = 5 then some (1, true, false, false)
 else if k = 7 then some (2, false, false, false) else if k = 6 then some (n, true, false, false)
 else if k = 10 then some (0, true, true, false) else none
def Zh8 (k lo hi : Int) (nn np nr : Nat) : Bool := match U3 k nn with
 | none => true
 | some (p, named, ruled, ranged) => decide (np ≠ p) || (!named && decide (0 < nn)) || (!ruled && decide (0 < nr)) || (!ranged && decide (lo ≠ 0 ∨ hi ≠ 0)) || (decide (k = 6 ∨ k = 10) && decide (nn = 0))
def Zb7 (l : Lat) : Bool := Zh8 l.kind l.lo l.hi l.names.length l.parts.length l.rules.length
theorem shape_kinds (k : Int) (n : Nat) : (U3 k n = some (0, false, false, false) ∧ (k = 1 ∨ k = 9)) ∨ (U3 k n = some (0, false, false, true) ∧ (k = 2 ∨ k = 3)) ∨
 (U3 k n = some (0, true, false, false) ∧ (k = 4 ∨ k = 8)) ∨ (U3 k n = some (1, true, false, false) ∧ k = 5) ∨ (U3 k n = some (2, false, false, false) ∧ k = 7) ∨
 (U3 k n = some (n, true, false, false) ∧ k = 6) ∨ (U3 k n = some (0, true, true, false) ∧ k = 10) ∨ (U3 k n = none ∧ ¬ (1 ≤ k ∧ k ≤ 10)) := by
 by_cases h1 : k = 1
 · subst h1; simp [U3]
 by_cases h2 : k = 2
 · subst h2; simp [U3]
 by_cases h3 : k = 3
 · subst h3; simp [U3]
 by_cases h4 : k = 4
 · subst h4; simp [U3]
 by_cases h5 : k = 5
 · subst h5; simp [U3]
 by_cases h6 : k = 6
 · subst h6; simp [U3]
 by_cases h7 : k = 7
 · subst h7; simp [U3]
 by_cases h8 : k = 8
 · subst h8; simp [U3]
 by_cases h9 : k = 9
 · subst h9; simp [U3]
 by_cases h10 : k = 10
 · subst h10; simp [U3]
 · simp [U3, h1, h2, h3, h4, h5, h6, h7, h8, h9, h10]; omega
def nmGo (p : Bool) (full : List ByteArray) : Nat → List ByteArray → Bool
 | _, [] => true
 | k, s :: t => Js s && !(p && hasS (full.take k) s) && nmGo p full (k + 1) t
def ruleB (ns : List ByteArray) (r : Rl) : Bool := decide (r.cond.length ≠ 0) && Vi r.cond && Jb r.cond ns && hasS ns r.concl
def Zi0 (ns : List ByteArray) (rs : List Rl) : Bool := rs.all (ruleB ns)
def spellB (l : Lat) : Bool := !(nmGo (l.kind == 6) l.names 0 l.names && (l.kind == 6 || Vi l.names) && Zi0 l.names l.rules)
theorem nmGo_step (p : Bool) (full : List ByteArray) (k : Nat) (h : k < full.length) : nmGo p full k (full.drop k) = (Js full[k] && !(p && hasS (full.take k) full[k]) && nmGo p full (k + 1) (full.drop (k + 1))) := by
 rw [U7 full k h, nmGo]
theorem rulesB_step (ns : List ByteArray) (rs : List Rl) (k : Nat) (h : k < rs.length) : Zi0 ns (rs.drop k) = (ruleB ns rs[k] && Zi0 ns (rs.drop (k + 1))) := by
 rw [U7 rs k h]; unfold Zi0; rw [Zo]
def latE (l : Lat) : Int := orI [Jp (Zm5 l) 6, Jp (spellB l) 3, Jp (Zs3 l) 5, Jp (Zg7 l) 4]
def goL (g : Lat → Nat → Int × Nat) : List Lat → Nat → Int × Nat
 | [], n => (0, n)
 | p :: t, n => if (g p n).1 ≠ 0 then g p n else goL g t (g p n).2
def U4 : Nat → Lat → Nat → Int × Nat
 | 0, _, n => (6, n)
 | f + 1, l, n => if 64 ≤ n then (6, n) else if Zb7 l then (1, n + 1) else if latE l ≠ 0 then (latE l, n + 1) else goL (U4 f) l.parts (n + 1)
theorem goL_step (g : Lat → Nat → Int × Nat) (ps : List Lat) (k n : Nat) (h : k < ps.length) : goL g (ps.drop k) n = if (g ps[k] n).1 ≠ 0 then g ps[k] n else goL g (ps.drop (k + 1)) (g ps[k] n).2 := by
 rw [U7 ps k h, goL]
theorem shapeB_lex (l : Lat) (h : Zb7 l = false) (h7 : l.kind = 7) : l.parts.length = 2 := by
 unfold Zb7 Zh8 at h
 rw [h7] at h
 simp [U3] at h
 exact h.1.1.1
def chkE (l : Lat) : Int := (U4 6 l 0).1
def Jc (l : List ByteArray) : Bool := l.all Js && Vi l
def Xj (l : List ByteArray) (k : Nat) : Bool := (l.drop k).all Js && (match k with
 | 0 => Vi l
 | j + 1 => match l[j]? with
   | some p => Xz p (l.drop (j + 1))
   | none => true)
theorem Zf2 (l : List ByteArray) : Xj l 0 = Jc l := rfl
theorem rising_step0 (l : List ByteArray) (h : 0 < l.length) : Xj l 0 = (Js l[0] && Xj l 1) := by
 cases l with
 | nil => simp at h
 | cons x t => simp [Xj, Vi, Bool.and_assoc]
theorem rising_step (l : List ByteArray) (j : Nat) (h : j + 1 < l.length) : Xj l (j + 1) = (Js l[j + 1] && (Yf7 (l[j]'(by omega)) l[j + 1] && Xj l (j + 2))) := by
  unfold Xj
  simp only [Zc h, Zc (show j < l.length by omega)]
  rw [U7 l (j + 1) h, Zo, Xz, Zj]
  simp only [Bool.and_eq_true]
  constructor
  · rintro ⟨⟨a, b⟩, c, d⟩; exact ⟨a, c, b, d⟩
  · rintro ⟨a, c, b, d⟩; exact ⟨⟨a, b⟩, c, d⟩
theorem rising_end (l : List ByteArray) (k : Nat) (h : l.length ≤ k) : Xj l k = true := by
 unfold Xj
 rw [Zd h]
 cases k with
 | zero =>
   have : l = [] := List.length_eq_zero_iff.1 (by omega)
   subst this; rfl
 | succ j =>
   show (true && _) = true
   rw [Zg]
   cases hj : l[j]? with
   | none => simp only [hj]
   | some p => simp only [hj]; rw [Zd h]; rfl
theorem kindI_ranged {k : Int} {n : Nat} (h2 : k ≠ 2) (h3 : k ≠ 3) : U3 k n = none ∨ ∃ p a b, U3 k n = some (p, a, b, false) := by
 unfold U3
 repeat' split
 all_goals first | exact .inl rfl | exact .inr ⟨_, _, _, rfl⟩ | omega
theorem kindI_ruled {k : Int} {n : Nat} (h10 : k ≠ 10) : U3 k n = none ∨ ∃ p a b, U3 k n = some (p, a, false, b) := by
 unfold U3
 repeat' split
 all_goals first | exact .inl rfl | exact .inr ⟨_, _, _, rfl⟩ | omega
theorem Yk3 {k lo hi : Int} {nn np nr : Nat} (h2 : k ≠ 2) (h3 : k ≠ 3) (h : lo ≠ 0 ∨ hi ≠ 0) : Zh8 k lo hi nn np nr = true := by
 unfold Zh8
 rcases kindI_ranged (n := nn) h2 h3 with e | ⟨p, a, b, e⟩
 · rw [e]
 · rw [e]; simp [h]
theorem shapeC_ruled {k lo hi : Int} {nn np nr : Nat} (h10 : k ≠ 10) (h : nr ≠ 0) : Zh8 k lo hi nn np nr = true := by
 unfold Zh8
 rcases kindI_ruled (n := nn) h10 with e | ⟨p, a, b, e⟩
 · rw [e]
 · rw [e]; simp [show 0 < nr by omega]
theorem shapeC_none {k lo hi : Int} {nn np nr : Nat} (h : ¬ (1 ≤ k ∧ k ≤ 10)) : Zh8 k lo hi nn np nr = true := by
 have hk : U3 k nn = none := by unfold U3; rw [if_neg (by omega), if_neg (by omega), if_neg (by omega), if_neg (by omega), if_neg (by omega), if_neg (by omega), if_neg (by omega)]
 unfold Zh8
 rw [hk]
def ruleR (ns : List ByteArray) (r : Rl) : Bool := decide (r.cond.length ≠ 0) && (Jc r.cond && (hasS ns r.concl && r.cond.all (hasS ns)))
def namedR (k : Int) (ns : List ByteArray) (rs : List Rl) : Bool := if k = 6 then nmGo true ns 0 ns else Jc ns && rs.all (ruleR ns)
def nodeR (l : Lat) (d : Int) (n : Nat) : Int := if 6 < d ∨ 64 ≤ n then 6 else if Zb7 l then 1 else if Zm5 l then 6 else if namedR l.kind l.names l.rules = false then 3 else if l.hi < l.lo ∨ l.lo < -1000000000 ∨ 1000000000 < l.hi then 5 else if Zg7 l then 4 else 0
theorem visit_le (f : Nat) : ∀ (l : Lat) (n : Nat), n ≤ 64 → (U4 f l n).2 ≤ 64 := by
 induction f with
 | zero => intro l n h; exact h
 | succ f ih =>
   intro l n h
   have hv : U4 (f + 1) l n = if 64 ≤ n then (6, n) else if Zb7 l then (1, n + 1) else if latE l ≠ 0 then (latE l, n + 1) else goL (U4 f) l.parts (n + 1) := rfl
   have hg : ∀ (ps : List Lat) (n : Nat), n ≤ 64 → (goL (U4 f) ps n).2 ≤ 64 := by
    intro ps
    induction ps with
    | nil => intro n h; exact h
    | cons p t ht =>
      intro n h
      rw [goL]
      split
      · exact ih p n h
      · exact ht _ (ih p n h)
   rw [hv]
   split
   · exact h
   · split
     · show n + 1 ≤ 64; omega
     · split
       · show n + 1 ≤ 64; omega
       · exact hg _ _ (by omega)
inductive WfL : Lat → Prop
 | mk (l : Lat) (h1 : Zb7 l = false) (h2 : latE l = 0) (h3 : ∀ p ∈ l.parts, WfL p) : WfL l
theorem WfL.shape {l : Lat} (h : WfL l) : Zb7 l = false := by cases h; assumption
theorem WfL.check {l : Lat} (h : WfL l) : latE l = 0 := by cases h; assumption
theorem WfL.part {l p : Lat} (h : WfL l) (hp : p ∈ l.parts) : WfL p := by cases h; rename_i h; exact h p hp
theorem goL_zero (g : Lat → Nat → Int × Nat) : ∀ (ps : List Lat) (n : Nat), (goL g ps n).1 = 0 → ∀ p ∈ ps, ∃ m, (g p m).1 = 0
 | [], _, _, p, hp => by simp at hp
 | q :: t, n, h, p, hp => by
   unfold goL at h
   by_cases h0 : (g q n).1 = 0
   · rw [if_neg (fun h => h h0)] at h
     rcases List.mem_cons.1 hp with rfl | hp
     · exact ⟨n, h0⟩
     · exact goL_zero g t _ h p hp
   · rw [if_pos h0] at h; exact absurd h h0
theorem visit_wf : ∀ (f : Nat) (l : Lat) (n : Nat), (U4 f l n).1 = 0 → WfL l
 | 0, l, n, h => by unfold U4 at h; exact absurd (show (6 : Int) = 0 from h) (by decide)
 | f + 1, l, n, h => by
   have e : U4 (f + 1) l n = if 64 ≤ n then (6, n) else if Zb7 l then (1, n + 1) else if latE l ≠ 0 then (latE l, n + 1) else goL (U4 f) l.parts (n + 1) := by cases l; rfl
   rw [e] at h
   by_cases h1 : 64 ≤ n
   · rw [if_pos h1] at h; exact absurd (show (6 : Int) = 0 from h) (by decide)
   rw [if_neg h1] at h
   cases h2 : Zb7 l
   · rw [if_neg (by rw [h2]; exact Bool.false_ne_true)] at h
     by_cases h3 : latE l = 0
     · rw [if_neg (fun h => h h3)] at h
       exact .mk l h2 h3 fun p hp => by
         obtain ⟨m, hm⟩ := goL_zero _ _ _ h p hp
         exact visit_wf f p m hm
     · rw [if_pos h3] at h; exact absurd h h3
   · rw [if_pos h2] at h; exact absurd (show (1 : Int) = 0 from h) (by decide)
theorem chkE_wf {l : Lat} (h : chkE l = 0) : WfL l := visit_wf 6 l 0 h
theorem orI4_zero {a b c d : Int} (h : orI [a, b, c, d] = 0) : a = 0 ∧ b = 0 ∧ c = 0 ∧ d = 0 := by
 unfold orI at h
 by_cases ha : a = 0
 · rw [if_pos ha] at h; unfold orI at h
   by_cases hb : b = 0
   · rw [if_pos hb] at h; unfold orI at h
     by_cases hc : c = 0
     · rw [if_pos hc] at h; unfold orI at h
       by_cases hd : d = 0
       · exact ⟨ha, hb, hc, hd⟩
       · rw [if_neg hd] at h; exact absurd h hd
     · rw [if_neg hc] at h; exact absurd h hc
   · rw [if_neg hb] at h; exact absurd h hb
 · rw [if_neg ha] at h; exact absurd h ha
theorem Yg4 {b : Bool} {e : Int} (he : e ≠ 0) (h : Jp b e = 0) : b = false := by
 cases b
 · rfl
 · exact absurd h he
theorem WfL.limits {l : Lat} (h : WfL l) : Zm5 l = false := Yg4 (by decide) (orI4_zero h.check).1
theorem WfL.ranges {l : Lat} (h : WfL l) : Zs3 l = false := Yg4 (by decide) (orI4_zero h.check).2.2.1
theorem WfL.kinds {l : Lat} (h : WfL l) : (1 ≤ l.kind ∧ l.kind ≤ 10) ∧ (l.kind = 5 → l.parts.length = 1) ∧ (l.kind = 7 → l.parts.length = 2) ∧ (l.kind = 6 → l.parts.length = l.names.length ∧ 1 ≤ l.names.length ∧ l.names.length ≤ 8) ∧
 (l.kind ≠ 5 → l.kind ≠ 6 → l.kind ≠ 7 → l.parts.length = 0) ∧ (l.kind ≠ 2 → l.kind ≠ 3 → l.lo = 0 ∧ l.hi = 0) ∧ (l.kind ≠ 10 → l.rules.length = 0) ∧ l.names.length ≤ 32 ∧ l.rules.length ≤ 32 ∧ (l.kind = 10 → 1 ≤ l.names.length ∧ l.names.length ≤ 12) ∧
 (l.kind = 1 ∨ l.kind = 2 ∨ l.kind = 3 ∨ l.kind = 7 ∨ l.kind = 9 → l.names.length = 0) := by
 have h1 := h.shape
 have h2 : ¬ (mostN l.kind < l.names.length ∨ 32 < l.rules.length) := of_decide_eq_false h.limits
 have hA : l.kind = 6 → l.names.length ≤ 8 := fun e => by unfold mostN at h2; rw [if_pos e] at h2; omega
 have hB : l.kind = 10 → l.names.length ≤ 12 := fun e => by unfold mostN at h2; rw [if_neg (by omega), if_pos e] at h2; omega
 have hC : l.names.length ≤ 32 := by
  unfold mostN at h2
  by_cases e : l.kind = 6
  · have := hA e; omega
  · by_cases e' : l.kind = 10
    · have := hB e'; omega
    · rw [if_neg e, if_neg e'] at h2; omega
 have hD : l.rules.length ≤ 32 := by omega
 unfold Zb7 Zh8 at h1
 rcases shape_kinds l.kind l.names.length with ⟨hk, hx⟩ | ⟨hk, hx⟩ | ⟨hk, hx⟩ | ⟨hk, hx⟩ | ⟨hk, hx⟩ | ⟨hk, hx⟩ | ⟨hk, hx⟩ | ⟨hk, hx⟩
 all_goals
  rw [hk] at h1
  simp only [Bool.or_eq_false_iff, Bool.and_eq_false_iff, decide_eq_false_iff_not, Zh, Ze, Zg, Zm, reduceCtorEq, false_or, true_or, Decidable.not_not, Bool.true_eq_false, and_true, true_and] at h1
 all_goals omega
end
section
def strX (s : ByteArray) : List D := [.v (.string s)]
def Zz6 (r : Rl) : List D := [.sl 1 (r.cond.map strX), .v (.string r.concl)]
def tkX (t : Tk) : List D := [.v (.int .i64 t.process), .v (.int .i64 t.n)]
def enX (e : En) : List D := [.sl 2 (e.clock.map tkX), .v (.string e.name)]
mutual
def latX : Lat → List D
 | .mk k lo hi ns ps rs => [.v (.int .i64 k), .v (.int .i64 lo), .v (.int .i64 hi), .sl 1 (ns.map strX), .sl 6 (latXs ps), .sl 2 (rs.map Zz6)]
def latXs : List Lat → List (List D)
 | [] => []
 | p :: t => latX p :: latXs t
end
mutual
def vaX : Val → List D
 | .mk m ns ps es => [.v (.int .i64 m), .sl 1 (ns.map strX), .sl 4 (vaXs ps), .sl 2 (es.map enX)]
def vaXs : List Val → List (List D)
 | [] => []
 | p :: t => vaX p :: vaXs t
end
theorem latXs_map : ∀ l : List Lat, latXs l = l.map latX
 | [] => by rw [latXs]; rfl
 | p :: t => by rw [latXs, latXs_map t]; rfl
theorem vaXs_map : ∀ l : List Val, vaXs l = l.map vaX
 | [] => by rw [vaXs]; rfl
 | p :: t => by rw [vaXs, vaXs_map t]; rfl
theorem Y4 (l : Lat) : latX l = [.v (.int .i64 l.kind), .v (.int .i64 l.lo), .v (.int .i64 l.hi), .sl 1 (l.names.map strX), .sl 6 (l.parts.map latX), .sl 2 (l.rules.map Zz6)] := by
 cases l; rw [latX, latXs_map]; rfl
theorem Yg (v : Val) : vaX v = [.v (.int .i64 v.n), .sl 1 (v.names.map strX), .sl 4 (v.parts.map vaX), .sl 2 (v.entries.map enX)] := by
 cases v; rw [vaX, vaXs_map]; rfl
theorem Zk7 (l : Lat) : (latX l).length = 6 := by rw [Y4]; rfl
theorem Yi (l : Val) : (vaX l).length = 4 := by rw [Yg]; rfl
theorem Yb9 (l : Lat) : (latX l).take 6 = latX l := List.take_of_length_le (by rw [Zk7]; omega)
theorem Ye (l : Val) : (vaX l).take 4 = vaX l := List.take_of_length_le (by rw [Yi]; omega)
/-! What is read names no memory of a call's own. -/
section
variable (m : Nat)
theorem Uy {α : Type} {f : α → List D} {k : Nat} (l : List α) (q : ∀ x ∈ l, lowL m (f x)) : low m (.sl k (l.map f)) := by
 rw [low, Zg2]
 intro row hr
 obtain ⟨b, hb, rfl⟩ := List.mem_map.1 hr
 exact q b hb
theorem Zc5 (l : List ByteArray) : low m (.sl 1 (l.map strX)) := Uy m l fun _ _ => by simp [strX, lowL, low]
theorem low_rules (l : List Rl) : low m (.sl 2 (l.map Zz6)) := Uy m l fun r _ => by rw [Zz6, lowL, lowL, lowL, low]; exact ⟨Zc5 m _, trivial, trivial⟩
theorem low_ens (l : List En) : low m (.sl 2 (l.map enX)) := Uy m l fun r _ => by
 rw [enX, lowL, lowL, lowL, low]
 exact ⟨Uy m _ fun t _ => by simp [tkX, lowL, low], trivial, trivial⟩
mutual
theorem Zm4 : ∀ l : Lat, lowL m (latX l)
 | .mk k lo hi ns ps rs => by
  rw [latX]; simp only [lowL]
  exact ⟨by rw [low]; trivial, by rw [low]; trivial, by rw [low]; trivial, Zc5 m ns, by rw [low]; exact low_lats ps, low_rules m rs, trivial⟩
theorem low_lats : ∀ l : List Lat, lowR m (latXs l)
 | [] => by rw [latXs, lowR]; trivial
 | p :: t => by rw [latXs, lowR]; exact ⟨Zm4 p, low_lats t⟩
end
mutual
theorem Uk : ∀ l : Val, lowL m (vaX l)
 | .mk n ns ps es => by
  rw [vaX]; simp only [lowL]
  exact ⟨by rw [low]; trivial, Zc5 m ns, by rw [low]; exact low_vals ps, low_ens m es, trivial⟩
theorem low_vals : ∀ l : List Val, lowR m (vaXs l)
 | [] => by rw [vaXs, lowR]; trivial
 | p :: t => by rw [vaXs, lowR]; exact ⟨Uk p, low_vals t⟩
end
end
theorem Zx0 {P : Program} {t : TypeId} {κ : IntKind} {K : D → Prop} {s : ByteArray} {k : Nat} {m : Int} {b : UInt8} (h1 : strT P t = true) (hb : s.data[k]? = some b) (hm : m = (k : Int)) (q : K (.v (.int .u8 b.toNat))) : indA P t (.v (.string s)) (.v (.int κ m)) K := by
 have hk : k < s.size := (Array.getElem?_eq_some_iff.1 hb).1
 subst hm
 refine ind_str h1 (by omega) (by omega) fun c hc => ?_
 rw [Zb, hb] at hc
 cases hc
 exact q
end
section
attribute [local irreducible] on aOp
attribute [local go_sem] decide_true decide_false Zh Ze
attribute [local simp] byD_len
theorem U2 (s : ByteArray) : strX s = [.v (.string s)] := rfl
theorem get_byte {s : ByteArray} {k : Nat} {b : UInt8} (h : s.data[k]? = some b) : s.data.toList.drop k = b :: s.data.toList.drop (k + 1) := by
 have h2 : s.data.toList[k]? = some b := by rw [Array.getElem?_toList]; exact h
 obtain ⟨hl, rfl⟩ := List.getElem?_eq_some_iff.1 h2
 exact Zi hl
theorem get_first {s : ByteArray} {b : UInt8} (h : s.data[0]? = some b) : s.data.toList.getD 0 0 = b := by
 have h2 : s.data.toList[0]? = some b := by rw [Array.getElem?_toList]; exact h
 rw [List.getD_eq_getElem?_getD, h2]; rfl
def nameR (s : ByteArray) : Prop := (1 ≤ s.size ∧ s.size ≤ 16) ∧ 97 ≤ (s.data.toList.getD 0 0).toNat ∧ (s.data.toList.getD 0 0).toNat ≤ 122
theorem nameB_no {s : ByteArray} (h : ¬ nameR s) : Js s = false := by
 unfold nameR at h; unfold Js
 by_cases h1 : 1 ≤ s.size ∧ s.size ≤ 16
 · rw [decide_eq_false (p := (97 : Int) ≤ _ ∧ _) (by omega)]; simp
 · rw [decide_eq_false h1]; rfl
theorem nameB_yes {s : ByteArray} (h : nameR s) : Js s = s.data.toList.all fun c => wordB c.toNat := by
 unfold nameR at h; unfold Js
 rw [decide_eq_true h.1, decide_eq_true (p := (97 : Int) ≤ _ ∧ _) (by omega)]; rfl
variable (G : Nat → D) (hG : ∀ g, low 0 (G g))
include hG
end
section
attribute [local irreducible] on aOp
attribute [local go_sem] decide_true decide_false Zh Ze
attribute [local simp] byD_len
inductive Sm : Lat → Prop
 | mk (l : Lat) (h1 : l.names.length ≤ 9223372036854775807) (h2 : l.parts.length ≤ 9223372036854775807) (h3 : l.rules.length ≤ 9223372036854775807) (h4 : ∀ s ∈ l.names, s.size ≤ 9223372036854775807) (h5 : ∀ r ∈ l.rules, r.cond.length ≤ 9223372036854775807 ∧ ∀ s ∈ r.cond, s.size ≤ 9223372036854775807) (h6 : ∀ p ∈ l.parts, Sm p) : Sm l
theorem Sm.names {l : Lat} (h : Sm l) : l.names.length ≤ 9223372036854775807 := by cases h; assumption
theorem Sm.parts {l : Lat} (h : Sm l) : l.parts.length ≤ 9223372036854775807 := by cases h; assumption
theorem Sm.rules {l : Lat} (h : Sm l) : l.rules.length ≤ 9223372036854775807 := by cases h; assumption
theorem Sm.texts {l : Lat} (h : Sm l) : ∀ s ∈ l.names, s.size ≤ 9223372036854775807 := by cases h; assumption
theorem Sm.conds {l : Lat} (h : Sm l) : ∀ r ∈ l.rules, r.cond.length ≤ 9223372036854775807 ∧ ∀ s ∈ r.cond, s.size ≤ 9223372036854775807 := by cases h; assumption
theorem Sm.part {l : Lat} (h : Sm l) : ∀ p ∈ l.parts, Sm p := by cases h; assumption
theorem Jt (m : Nat) (l : Lat) : lowL m [.agg (latX l)] := by rw [lowL, lowL, low]; exact ⟨Zm4 m l, trivial⟩
theorem chain_no {l : Lat} (h : ¬ (l.kind = 1 ∨ l.kind = 2 ∨ l.kind = 3)) (h7 : l.kind ≠ 7 ∨ l.parts.length ≠ 2) : J9 l = false := by
 rw [Ye7, decide_eq_false h]
 rcases h7 with h7 | h7
 · rw [decide_eq_false h7]; rfl
 · rw [decide_eq_false h7, Bool.and_false]; rfl
theorem chain_two {l a b : Lat} (h : ¬ (l.kind = 1 ∨ l.kind = 2 ∨ l.kind = 3)) (h7 : l.kind = 7) (hp : l.parts = [a, b]) : J9 l = (J9 a && J9 b) := by
 rw [Ye7, decide_eq_false h, decide_eq_true h7, hp]; simp
variable (G : Nat → D) (hG : ∀ g, low 0 (G g))
include hG
end
section
attribute [local irreducible] on aOp
attribute [local go_sem] decide_true decide_false Zh Ze
attribute [local simp] byD_len
theorem Wt (r : Rl) : Zz6 r = [.sl 1 (r.cond.map strX), .v (.string r.concl)] := rfl
def gM (A : Ob) (T : List Ob) : List Ob := A :: T
section
variable {A y y' : Ob} {T l : List Ob}
theorem gM_0 : (gM A T)[0]? = some A := rfl
theorem Wo : (gM A T).length = T.length + 1 := rfl
theorem Wp : gM A T ++ l = gM A (T ++ l) := rfl
theorem gM_l : (gM A (T ++ [y]))[T.length + 1]? = some y := by simp [gM]
theorem Um : (gM A (T ++ [y])).set (T.length + 1) y' = gM A (T ++ [y']) := by simp [gM]
end
variable (G : Nat → D) (hG : ∀ g, low 0 (G g))
include hG
end
section
attribute [local irreducible] on aOp
attribute [local go_sem] decide_true decide_false Zh Ze
attribute [local simp] byD_len
variable (G : Nat → D) (hG : ∀ g, low 0 (G g))
include hG
end
section
attribute [local irreducible] on aOp
attribute [local go_sem] decide_true decide_false Zh Ze
attribute [local simp] byD_len
def walkG (g : Lat → Nat → Nat × Int) : List Lat → Nat → Nat × Int
 | [], n => (n, 0)
 | p :: t, n => if (g p n).2 ≠ 0 then (n, (g p n).2) else walkG g t (g p n).1
def walkF : Nat → Lat → Nat → Nat × Int
 | 0, l, n => (n, nodeR l 7 n)
 | f + 1, l, n => if nodeR l (6 - f) n ≠ 0 then (n, nodeR l (6 - f) n) else walkG (walkF f) l.parts (n + 1)
variable (G : Nat → D) (hG : ∀ g, low 0 (G g))
include hG
end
section
attribute [local irreducible] on aOp
attribute [local go_sem] decide_true decide_false Zh Ze
attribute [local simp] byD_len
def idxS (a : ByteArray) : List ByteArray → Nat → Int
 | [], _ => -1
 | x :: t, k => if a = x then k else idxS a t (k + 1)
theorem idxS_ge (a : ByteArray) : ∀ (l : List ByteArray) (k : Nat), decide (0 ≤ idxS a l k) = hasS l a
 | [], k => by simp [idxS, hasS]
 | x :: t, k => by
  have ih := idxS_ge a t (k + 1)
  by_cases h : a = x
  · simp [idxS, hasS, h]
  · rw [idxS, if_neg h, ih, hasS, decide_eq_false (fun q => h q.symm), Bool.false_or]
theorem sorted_short : ∀ l : List ByteArray, l.length ≤ 1 → Vi l = true
 | [], _ => rfl
 | [_], _ => rfl
 | _ :: _ :: _, h => by simp at h
variable (G : Nat → D) (hG : ∀ g, low 0 (G g))
include hG
theorem wordByte_d (c : Int) (h : List Ob) : Does Zf G 76 h [.v (.int .u8 c)] (fun h' r => h' = h ∧ r = .v (.bool (wordB c))) := by
 unfold wordB
 refine Y7 Tryz.func76 rfl (Za rfl) hG fun hl0 _ => ?_
 simp only [Tryz.ntmps76]
 repeat' first
  | (with_reducible first | refine sA rfl ?_ | refine sT rfl ?_)
  | (with_reducible refine Y9 ?_; first | refine Y5 ?_ | (refine ao1 rfl rfl fun K HK => ?_; (first | refine Y6 rfl ?_ | skip); simp only [go_sem, ↓reduceIte, Z0, Z2, Z1, Z3, Z4, Z6, Z7, Z8, Z5]; (first | refine Y8 (fun hq => ?_) (fun hq => ?_) | skip) <;> (refine HK _ _ ?_; clear HK K)) | refine ao0 rfl rfl ?_)
  | (exfalso; omega)
 all_goals first | (exfalso; omega) | refine ⟨.inr rfl, endV hl0 rfl rfl ⟨rfl, congrArg (fun b => D.v (.bool b)) ?_⟩⟩
 all_goals (clear hl0; rw [Zj]; simp; omega)
theorem Zg0 (s : ByteArray) (hs : s.size ≤ 9223372036854775807) (h : List Ob) : Does Zf G 38 h [.v (.string s)] (fun h' r => h' = h ∧ r = .v (.bool (Js s))) := by
 refine Y7 Tryz.func38 rfl (Za rfl) hG fun hl0 _ => ?_
 simp only [Tryz.ntmps38]
 by_cases hsz : 1 ≤ s.size ∧ s.size ≤ 16
 rotate_left
 · have e1 := nameB_no (s := s) (fun h => hsz h.1)
   repeat' first
    | (with_reducible first | refine sA rfl ?_ | refine sI rfl rfl ?_ | refine sT rfl ?_)
    | (with_reducible refine Y9 ?_; first | refine Y5 ?_ | (refine ao1 rfl rfl fun K HK => ?_; (first | refine Y6 rfl ?_ | skip); simp only [go_sem, ↓reduceIte, Z0, Z2, Z1, Z3, Z4, Z6, Z7, Z8]; (first | refine Y8 (fun hq => ?_) (fun hq => ?_) | skip) <;> (refine HK _ _ ?_; clear HK K)) | refine ao0 rfl rfl ?_)
    | (exfalso; omega)
   all_goals first | (exfalso; omega) | exact ⟨.inr rfl, endD (r := .v (.bool false)) hl0 rfl (by simp) (by simp) rfl (by rw [low]; trivial) ⟨rfl, by rw [e1]⟩⟩
 obtain ⟨b0, hb0⟩ : ∃ b, s.data[0]? = some b := ⟨s.data[0]'(by show 0 < s.size; omega), Zk _⟩
 have g0 := get_first hb0
 by_cases hb : 97 ≤ b0.toNat ∧ b0.toNat ≤ 122
 rotate_left
 · have e1 := nameB_no (s := s) (fun h => hb (by rw [← g0]; exact h.2))
   repeat' first
    | (with_reducible first | refine sA rfl ?_ | refine sI rfl rfl ?_ | refine sT rfl ?_)
    | (with_reducible refine Y9 ?_; first | (refine ao1 rfl rfl fun K HK => ?_; simp only [go_sem, ↓reduceIte, Z0, Z2, Z1, Z3, Z4, Z6, Z7, Z8]; refine Zx0 (by simp only [go_sem]) hb0 (by first | rfl | omega) ?_; refine HK _ _ ?_; clear HK K) | refine Y5 ?_ | (refine ao1 rfl rfl fun K HK => ?_; (first | refine Y6 rfl ?_ | skip); simp only [go_sem, ↓reduceIte, Z0, Z2, Z1, Z3, Z4, Z6, Z7, Z8]; (first | refine Y8 (fun hq => ?_) (fun hq => ?_) | skip) <;> (refine HK _ _ ?_; clear HK K)) | refine ao0 rfl rfl ?_)
    | (exfalso; omega)
   all_goals first | (exfalso; omega) | exact ⟨.inr rfl, endD (r := .v (.bool false)) hl0 rfl (by simp) (by simp) rfl (by rw [low]; trivial) ⟨rfl, by rw [e1]⟩⟩
 have e1 := nameB_yes (s := s) ⟨hsz, by rw [g0]; exact hb⟩
 repeat' first
  | (with_reducible first | refine sA rfl ?_ | refine sI rfl rfl ?_ | refine sT rfl ?_)
  | (with_reducible refine Y9 ?_; first | (refine ao1 rfl rfl fun K HK => ?_; simp only [go_sem, ↓reduceIte, Z0, Z2, Z1, Z3, Z4, Z6, Z7, Z8]; refine Zx0 (by simp only [go_sem]) hb0 (by first | rfl | omega) ?_; refine HK _ _ ?_; clear HK K) | refine Y5 ?_ | (refine ao1 rfl rfl fun K HK => ?_; (first | refine Y6 rfl ?_ | skip); simp only [go_sem, ↓reduceIte, Z0, Z2, Z1, Z3, Z4, Z6, Z7, Z8]; (first | refine Y8 (fun hq => ?_) (fun hq => ?_) | skip) <;> (refine HK _ _ ?_; clear HK K)) | refine ao0 rfl rfl ?_)
  | (exfalso; omega)
 all_goals try (exfalso; omega)
 refine Yp (fun m e h' => ∃ k : Nat, k ≤ s.size ∧ m = s.size - k ∧ Js s = (s.data.toList.drop k).all (fun c => wordB c.toNat) ∧ h' = h ∧ e 0 = .v (.string s) ∧ e 23 = .v (.int .i64 s.size) ∧ e 24 = .v (.int .i64 k)) s.size ⟨0, Zl _, rfl, e1, rfl, rfl, rfl, rfl⟩ ?_
 rintro m e h' ⟨k, hk, rfl, ho, rfl, e0, e23, e24⟩
 by_cases hlt : k < s.size
 · obtain ⟨c, hc⟩ : ∃ b, s.data[k]? = some b := ⟨s.data[k]'hlt, Zk _⟩
   have wk : IntKind.i64.wrap ((k : Int) + 1) = (k : Int) + 1 := IntWalk.i64_in _ (by omega)
   rw [get_byte hc, Zo] at ho
   have hw := wordByte_d G hG (c.toNat : Int)
   cases hwb : wordB c.toNat <;> rw [hwb] at hw ho
   · skip
     repeat' first
      | (with_reducible first | refine sA rfl ?_ | refine sI rfl rfl ?_ | refine sT rfl ?_ | refine sB rfl ?_)
      | (with_reducible refine Y9 ?_; first | (refine ao1 rfl rfl fun K HK => ?_; simp only [go_sem, ↓reduceIte, Z0, Z2, Z1, Z3, Z4, Z6, Z7, Z8, e0, e23, e24, wk, Z5]; refine Zx0 (by simp only [go_sem]) hc (by first | rfl | omega) ?_; refine HK _ _ ?_; clear HK K) | refine Y5 ?_ | (refine ao1 rfl rfl fun K HK => ?_; simp only [go_sem, ↓reduceIte, Z0, Z2, Z1, Z3, Z4, Z6, Z7, Z8, e0, e23, e24, wk, Z5]; (first | refine Y8 (fun hq => ?_) (fun hq => ?_) | skip) <;> (refine HK _ _ ?_; clear HK K)) | (refine ao2 rfl rfl rfl ent_76 (hw _) ?_; rintro _ _ ⟨rfl, rfl⟩))
      | (exfalso; omega)
     exact ⟨.inr rfl, endD (r := .v (.bool false)) hl0 rfl (by simp) (by simp) rfl (by rw [low]; trivial) ⟨rfl, by rw [ho]; rfl⟩⟩
   · skip
     repeat' first
      | (with_reducible first | refine sA rfl ?_ | refine sI rfl rfl ?_ | refine sT rfl ?_ | refine sB rfl ?_)
      | (with_reducible refine Y9 ?_; first | (refine ao1 rfl rfl fun K HK => ?_; simp only [go_sem, ↓reduceIte, Z0, Z2, Z1, Z3, Z4, Z6, Z7, Z8, e0, e23, e24, wk, Z5]; refine Zx0 (by simp only [go_sem]) hc (by first | rfl | omega) ?_; refine HK _ _ ?_; clear HK K) | refine Y5 ?_ | (refine ao1 rfl rfl fun K HK => ?_; simp only [go_sem, ↓reduceIte, Z0, Z2, Z1, Z3, Z4, Z6, Z7, Z8, e0, e23, e24, wk, Z5]; (first | refine Y8 (fun hq => ?_) (fun hq => ?_) | skip) <;> (refine HK _ _ ?_; clear HK K)) | (refine ao2 rfl rfl rfl ent_76 (hw _) ?_; rintro _ _ ⟨rfl, rfl⟩))
      | (exfalso; omega)
     exact ⟨rfl, s.size - (k + 1), by omega, k + 1, hlt, rfl, by rw [ho]; rfl, rfl, e0, e23, rfl⟩
 · skip
   repeat' first
    | (with_reducible first | refine sA rfl ?_ | refine sI rfl rfl ?_ | refine sT rfl ?_ | refine sB rfl ?_)
    | (with_reducible refine Y9 ?_; first | refine Y5 ?_ | (refine ao1 rfl rfl fun K HK => ?_; simp only [go_sem, ↓reduceIte, Z0, Z2, Z1, Z3, Z4, Z6, Z7, Z8, e0, e23, e24]; (first | refine Y8 (fun hq => ?_) (fun hq => ?_) | skip) <;> (refine HK _ _ ?_; clear HK K)))
    | (exfalso; omega)
   exact ⟨.inr rfl, endD (r := .v (.bool true)) hl0 rfl (by simp) (by simp) rfl (by rw [low]; trivial) ⟨rfl, by rw [ho, Zd (by show s.data.toList.length ≤ k; rw [Array.length_toList]; show s.size ≤ k; omega)]; rfl⟩⟩
theorem idxS_d (l : List ByteArray) (a : ByteArray) (hl : l.length ≤ 9223372036854775807) (h : List Ob) : Does Zf G 150 h [.sl 1 (l.map strX), .v (.string a)] (fun h' r => h' = h ∧ r = .v (.int .i64 (idxS a l 0))) := by
 refine Y7 Tryz.func150 rfl (Za rfl) hG fun hl0 _ => ?_
 simp only [Tryz.ntmps150]
 repeat' first
  | (with_reducible first | refine sA rfl ?_ | refine sT rfl ?_)
  | (with_reducible refine Y9 ?_; first | refine Y5 ?_ | (refine ao1 rfl rfl fun K HK => ?_; simp only [go_sem, ↓reduceIte, Z0, Z2, Z1, Z3, Z4, Z6, Z7, Z8, Z9] <;> (refine HK _ _ ?_; clear HK K)))
 refine Yp (fun m e h' => ∃ k : Nat, k ≤ l.length ∧ m = l.length - k ∧ idxS a l 0 = idxS a (l.drop k) k ∧ h' = h ∧ e 0 = .sl 1 (l.map strX) ∧ e 1 = .v (.string a) ∧ e 7 = .v (.int .i64 l.length) ∧ e 8 = .v (.int .i64 k)) l.length ⟨0, Zl _, rfl, rfl, rfl, rfl, rfl, rfl, rfl⟩ ?_
 rintro m e h' ⟨k, hk, rfl, ho, rfl, e0, e1, e7, e8⟩
 by_cases hlt : k < l.length
 · have hx : l[k]? = some l[k] := Zc hlt
   have hd : l.drop k = l[k] :: l.drop (k + 1) := Zi hlt
   generalize l[k] = x at hx hd
   have wk : IntKind.i64.wrap ((k : Int) + 1) = (k : Int) + 1 := IntWalk.i64_in _ (by omega)
   rw [hd, idxS] at ho
   repeat' first
    | (with_reducible first | refine sA rfl ?_ | refine sI rfl rfl ?_ | refine sT rfl ?_ | refine sB rfl ?_)
    | (with_reducible refine Y9 ?_; first | refine Y5 ?_ | (refine ao1 rfl rfl fun K HK => ?_; simp only [go_sem, ↓reduceIte, Z0, Z2, Z1, Z3, Z4, Z6, Z7, Z8, e0, e1, e7, e8, Z9, U2, Zb, wk]; (first | refine Y8 (fun hq => ?_) (fun hq => ?_) | (refine ⟨by omega, by omega, ?_⟩; refine Ya (by assumption) ?_) | skip) <;> (refine HK _ _ ?_; clear HK K)))
    | (exfalso; omega)
   · exact ⟨.inr rfl, endV hl0 rfl rfl ⟨rfl, by rw [ho, if_pos hq]⟩⟩
   · exact ⟨rfl, l.length - (k + 1), by omega, k + 1, hlt, rfl, by rw [ho, if_neg hq], rfl, e0, e1, e7, rfl⟩
 · skip
   repeat' first
    | (with_reducible first | refine sA rfl ?_ | refine sI rfl rfl ?_ | refine sT rfl ?_ | refine sB rfl ?_)
    | (with_reducible refine Y9 ?_; first | refine Y5 ?_ | (refine ao1 rfl rfl fun K HK => ?_; simp only [go_sem, ↓reduceIte, Z0, Z2, Z1, Z3, Z4, Z6, Z7, Z8, e0, e1, e7, e8]; (first | refine Y8 (fun hq => ?_) (fun hq => ?_) | (refine ⟨by omega, by omega, ?_⟩; intro row hrow; obtain ⟨x, hx, rfl⟩ := Ym hrow; clear hrow) | skip) <;> (refine HK _ _ ?_; clear HK K)))
    | (exfalso; omega)
   exact ⟨by simp, endV hl0 rfl rfl ⟨rfl, by rw [ho, Zd (by omega)]; rfl⟩⟩
theorem contS_d (l : List ByteArray) (a : ByteArray) (hl : l.length ≤ 9223372036854775807) (h : List Ob) : Does Zf G 125 h [.sl 1 (l.map strX), .v (.string a)] (fun h' r => h' = h ∧ r = .v (.bool (hasS l a))) := by
 rw [← idxS_ge a l 0]
 have hi := idxS_d G hG l a hl
 generalize idxS a l 0 = i at *
 refine Y7 Tryz.func125 rfl (Za rfl) hG fun hl0 _ => ?_
 simp only [Tryz.ntmps125]
 repeat' first
  | (with_reducible first | refine sA rfl ?_ | refine sT rfl ?_)
  | (with_reducible refine Y9 ?_; first | refine Y5 ?_ | (refine ao1 rfl rfl fun K HK => ?_; simp only [go_sem, ↓reduceIte, Z0, Z2, Z1, Z3, Z4, Z6, Z7, Z8]; (first | refine Y8 (fun hq => ?_) (fun hq => ?_) | skip) <;> (refine HK _ _ ?_; clear HK K)) | (refine ao2 rfl rfl rfl ent_150 (hi _) ?_; rintro _ _ ⟨rfl, rfl⟩))
 all_goals exact ⟨.inr rfl, endV hl0 rfl rfl ⟨rfl, by first | rw [decide_eq_true hq] | rw [decide_eq_false hq]⟩⟩
theorem hasS_d (l : List ByteArray) (a : ByteArray) (hl : l.length ≤ 9223372036854775807) (h : List Ob) : Does Zf G 128 h [.sl 1 (l.map strX), .v (.string a)] (fun h' r => h' = h ∧ r = .v (.bool (hasS l a))) := by
 refine Y7 Tryz.func128 rfl (Za rfl) hG fun hl0 _ => ?_
 simp only [Tryz.ntmps128]
 repeat' first
  | (with_reducible first | refine sA rfl ?_ | refine sT rfl ?_)
  | (with_reducible refine Y9 ?_; first | refine Y5 ?_ | (refine ao1 rfl rfl fun K HK => ?_; simp only [go_sem, ↓reduceIte, Z0, Z2, Z1, Z3, Z4, Z6, Z7, Z8] <;> (refine HK _ _ ?_; clear HK K)) | (refine ao2 rfl rfl rfl ent_125 (contS_d G hG l a hl _) ?_; rintro _ _ ⟨rfl, rfl⟩))
 exact ⟨.inr rfl, endV hl0 rfl rfl ⟨rfl, rfl⟩⟩
theorem Zy5 (l : List ByteArray) (hl : l.length ≤ 9223372036854775807) (h : List Ob) : Does Zf G 126 h [.sl 1 (l.map strX)] (fun h' r => h' = h ∧ r = .v (.bool (Vi l))) := by
 by_cases hsh : l.length ≤ 1
 · rw [sorted_short l hsh]
   refine Y7 Tryz.func126 rfl (Za rfl) hG fun hl0 _ => ?_
   simp only [Tryz.ntmps126]
   repeat' first
    | (with_reducible first | refine sA rfl ?_ | refine sT rfl ?_)
    | (with_reducible refine Y9 ?_; first | refine Y5 ?_ | (refine ao1 rfl rfl fun K HK => ?_; simp only [go_sem, ↓reduceIte, Z0, Z2, Z1, Z3, Z4, Z6, Z7, Z8] <;> (refine HK _ _ ?_; clear HK K)))
   refine Yp (fun m e h' => h' = h ∧ e 0 = .sl 1 (l.map strX) ∧ e 3 = .v (.int .i64 1)) l.length ⟨rfl, rfl, rfl⟩ ?_
   rintro m e h' ⟨rfl, e0, e3⟩
   repeat' first
    | (with_reducible first | refine sA rfl ?_ | refine sI rfl rfl ?_ | refine sT rfl ?_ | refine sB rfl ?_)
    | (with_reducible refine W2 ?_; first | refine Yf mixd (by kernel_rfl) ?_)
    | (with_reducible refine Y9 ?_; first | refine Y5 ?_ | (refine ao1 rfl rfl fun K HK => ?_; simp only [go_sem, ↓reduceIte, Z0, Z2, Z1, Z3, Z4, Z6, Z7, Z8, e0, e3, Z9]; (first | refine Y8 (fun hq => ?_) (fun hq => ?_) | (refine ⟨by omega, by omega, ?_⟩; intro row hrow; obtain ⟨x, hx, rfl⟩ := Ym hrow; clear hrow) | skip) <;> (refine HK _ _ ?_; clear HK K)))
    | (with_reducible refine Vn ?_; first | (refine aq1 rfl rfl fun K HK => ?_; simp only [go_sem, ↓reduceIte, Z0, Z2, Z1, Z3, Z4, Z6, Z7, Z8, e0, e3, Z9]; (first | refine Y8 (fun hq => ?_) (fun hq => ?_) | (refine ⟨by omega, by omega, ?_⟩; intro row hrow; obtain ⟨x, hx, rfl⟩ := Ym hrow; clear hrow) | skip) <;> (refine HK _ _ rfl ?_; clear HK K)))
    | (exfalso; omega)
   all_goals first | (exfalso; omega) | exact ⟨.inr rfl, endV hl0 rfl rfl ⟨rfl, rfl⟩⟩
 obtain ⟨x0, t, rfl⟩ : ∃ x t, l = x :: t := by
  cases l with
  | nil => simp at hsh
  | cons x t => exact ⟨x, t, rfl⟩
 generalize hll : x0 :: t = l at *
 have h0 : Vi l = Xz (l[0]'(by omega)) (l.drop 1) := by subst hll; rfl
 refine Y7 Tryz.func126 rfl (Za rfl) hG fun hl0 _ => ?_
 simp only [Tryz.ntmps126]
 repeat' first
  | (with_reducible first | refine sA rfl ?_ | refine sT rfl ?_)
  | (with_reducible refine Y9 ?_; first | refine Y5 ?_ | (refine ao1 rfl rfl fun K HK => ?_; simp only [go_sem, ↓reduceIte, Z0, Z2, Z1, Z3, Z4, Z6, Z7, Z8] <;> (refine HK _ _ ?_; clear HK K)))
 refine Yp (fun m e h' => ∃ (k : Nat) (hk : k < l.length), m = l.length - k ∧ Vi l = Xz l[k] (l.drop (k + 1)) ∧ h' = h ∧ e 0 = .sl 1 (l.map strX) ∧ e 3 = .v (.int .i64 ((k : Int) + 1))) l.length ⟨0, by omega, rfl, h0, rfl, rfl, rfl⟩ ?_
 rintro m e h' ⟨k, hk, rfl, ho, rfl, e0, e3⟩
 by_cases hlt : k + 1 < l.length
 · have hx : l[k]? = some l[k] := Zc (by omega)
   have hy : l[k + 1]? = some l[k + 1] := Zc hlt
   rw [sorted_step l k hlt] at ho
   have wk : IntKind.i64.wrap ((k : Int) + 1 + 1) = (k : Int) + 1 + 1 := IntWalk.i64_in _ (by omega)
   have wm : IntKind.i64.wrap ((k : Int) + 1 - 1) = (k : Int) := by rw [show (k : Int) + 1 - 1 = (k : Int) by omega]; exact IntWalk.i64_in _ (by omega)
   have tk : ((k : Int) + 1).toNat = k + 1 := by omega
   unfold Yf7 at ho
   cases hlt2 : Op.bytesLess l[k].toList l[k + 1].toList
   · generalize l[k] = x at *
     generalize l[k + 1] = y at *
     repeat' first
      | (with_reducible first | refine sA rfl ?_ | refine sI rfl rfl ?_ | refine sT rfl ?_ | refine sB rfl ?_)
      | (with_reducible refine W2 ?_; first | refine Yf mixd (by kernel_rfl) ?_)
      | (with_reducible refine Y9 ?_; first | refine Y5 ?_ | (refine ao1 rfl rfl fun K HK => ?_; simp only [go_sem, ↓reduceIte, Z0, Z2, Z1, Z3, Z4, Z6, Z7, Z8, e0, e3, Z9, U2, Zb, wk, wm, tk, hlt2, Z5]; (first | refine Y8 (fun hq => ?_) (fun hq => ?_) | (refine ⟨by omega, by omega, ?_⟩; refine Ya (by assumption) ?_) | skip) <;> (refine HK _ _ ?_; clear HK K)))
      | (with_reducible refine Vn ?_; first | (refine aq1 rfl rfl fun K HK => ?_; simp only [go_sem, ↓reduceIte, Z0, Z2, Z1, Z3, Z4, Z6, Z7, Z8, e0, e3, Z9, U2, Zb, wk, wm, tk, hlt2, Z5]; (first | refine Y8 (fun hq => ?_) (fun hq => ?_) | (refine ⟨by omega, by omega, ?_⟩; refine Ya (by assumption) ?_) | skip) <;> (refine HK _ _ rfl ?_; clear HK K)) | refine Yv ?_)
      | (exfalso; omega)
     exact ⟨by simp, endV hl0 rfl rfl ⟨rfl, by rw [ho, hlt2]; rfl⟩⟩
   · rw [hlt2, Zg] at ho
     generalize l[k] = x at *
     have hy' := hy
     generalize hyl : l[k + 1] = y at hy hlt2
     repeat' first
      | (with_reducible first | refine sA rfl ?_ | refine sI rfl rfl ?_ | refine sT rfl ?_ | refine sB rfl ?_)
      | (with_reducible refine W2 ?_; first | refine Yf mixd (by kernel_rfl) ?_)
      | (with_reducible refine Y9 ?_; first | refine Y5 ?_ | (refine ao1 rfl rfl fun K HK => ?_; simp only [go_sem, ↓reduceIte, Z0, Z2, Z1, Z3, Z4, Z6, Z7, Z8, e0, e3, Z9, U2, Zb, wk, wm, tk, hlt2, Z5]; (first | refine Y8 (fun hq => ?_) (fun hq => ?_) | (refine ⟨by omega, by omega, ?_⟩; refine Ya (by assumption) ?_) | skip) <;> (refine HK _ _ ?_; clear HK K)))
      | (with_reducible refine Vn ?_; first | (refine aq1 rfl rfl fun K HK => ?_; simp only [go_sem, ↓reduceIte, Z0, Z2, Z1, Z3, Z4, Z6, Z7, Z8, e0, e3, Z9, U2, Zb, wk, wm, tk, hlt2, Z5]; (first | refine Y8 (fun hq => ?_) (fun hq => ?_) | (refine ⟨by omega, by omega, ?_⟩; refine Ya (by assumption) ?_) | skip) <;> (refine HK _ _ rfl ?_; clear HK K)) | refine Yv ?_)
      | (exfalso; omega)
     exact ⟨rfl, l.length - (k + 1), by omega, k + 1, hlt, rfl, ho, rfl, e0, rfl⟩
 · skip
   repeat' first
    | (with_reducible first | refine sA rfl ?_ | refine sI rfl rfl ?_ | refine sT rfl ?_ | refine sB rfl ?_)
    | (with_reducible refine W2 ?_; first | refine Yf mixd (by kernel_rfl) ?_)
    | (with_reducible refine Y9 ?_; first | refine Y5 ?_ | (refine ao1 rfl rfl fun K HK => ?_; simp only [go_sem, ↓reduceIte, Z0, Z2, Z1, Z3, Z4, Z6, Z7, Z8, e0, e3, Z9]; (first | refine Y8 (fun hq => ?_) (fun hq => ?_) | (refine ⟨by omega, by omega, ?_⟩; intro row hrow; obtain ⟨x, hx, rfl⟩ := Ym hrow; clear hrow) | skip) <;> (refine HK _ _ ?_; clear HK K)))
    | (with_reducible refine Vn ?_; first | (refine aq1 rfl rfl fun K HK => ?_; simp only [go_sem, ↓reduceIte, Z0, Z2, Z1, Z3, Z4, Z6, Z7, Z8, e0, e3, Z9]; (first | refine Y8 (fun hq => ?_) (fun hq => ?_) | (refine ⟨by omega, by omega, ?_⟩; intro row hrow; obtain ⟨x, hx, rfl⟩ := Ym hrow; clear hrow) | skip) <;> (refine HK _ _ rfl ?_; clear HK K)))
    | (exfalso; omega)
   exact ⟨by simp, endV hl0 rfl rfl ⟨rfl, by rw [ho, Zd (by omega)]; rfl⟩⟩
theorem subsetS_d (a b : List ByteArray) (ha : a.length ≤ 9223372036854775807) (hb : b.length ≤ 9223372036854775807) (h : List Ob) : Does Zf G 127 h [.sl 1 (a.map strX), .sl 1 (b.map strX)] (fun h' r => h' = h ∧ r = .v (.bool (Jb a b))) := by
 refine Y7 Tryz.func127 rfl (Za rfl) hG fun hl0 _ => ?_
 simp only [Tryz.ntmps127]
 repeat' first
  | (with_reducible first | refine sA rfl ?_ | refine sT rfl ?_)
  | (with_reducible refine Y9 ?_; first | refine Y5 ?_ | (refine ao1 rfl rfl fun K HK => ?_; simp only [go_sem, ↓reduceIte, Z0, Z2, Z1, Z3, Z4, Z6, Z7, Z8, Z9] <;> (refine HK _ _ ?_; clear HK K)))
 refine Yp (fun m e h' => ∃ k : Nat, k ≤ a.length ∧ m = a.length - k ∧ Jb a b = Jb (a.drop k) b ∧ h' = h ∧ e 1 = .sl 1 (b.map strX) ∧ e 7 = .sl 1 (a.map strX) ∧ e 8 = .v (.int .i64 a.length) ∧ e 9 = .v (.int .i64 k)) a.length ⟨0, Zl _, rfl, rfl, rfl, rfl, rfl, rfl, rfl⟩ ?_
 rintro m e h' ⟨k, hk, rfl, ho, rfl, e1, e7, e8, e9⟩
 by_cases hlt : k < a.length
 · have hx : a[k]? = some a[k] := Zc hlt
   have hd : a.drop k = a[k] :: a.drop (k + 1) := Zi hlt
   generalize a[k] = x at hx hd
   have wk : IntKind.i64.wrap ((k : Int) + 1) = (k : Int) + 1 := IntWalk.i64_in _ (by omega)
   have hh := hasS_d G hG b x hb
   have ho : Jb a b = (hasS b x && Jb (a.drop (k + 1)) b) := by rw [ho, hd]; rfl
   cases hxb : hasS b x <;> rw [hxb] at hh ho
   · skip
     repeat' first
      | (with_reducible first | refine sA rfl ?_ | refine sI rfl rfl ?_ | refine sT rfl ?_ | refine sB rfl ?_)
      | (with_reducible refine Y9 ?_; first | refine Y5 ?_ | (refine ao1 rfl rfl fun K HK => ?_; simp only [go_sem, ↓reduceIte, Z0, Z2, Z1, Z3, Z4, Z6, Z7, Z8, e1, e7, e8, e9, Z9, U2, Zb, wk, Z5]; (first | refine Y8 (fun hq => ?_) (fun hq => ?_) | (refine ⟨by omega, by omega, ?_⟩; refine Ya (by assumption) ?_) | skip) <;> (refine HK _ _ ?_; clear HK K)) | (refine ao2 rfl rfl rfl Zj3 (hh _) ?_; rintro _ _ ⟨rfl, rfl⟩))
      | (exfalso; omega)
     exact ⟨.inr rfl, endV hl0 rfl rfl ⟨rfl, by rw [ho]; rfl⟩⟩
   · skip
     repeat' first
      | (with_reducible first | refine sA rfl ?_ | refine sI rfl rfl ?_ | refine sT rfl ?_ | refine sB rfl ?_)
      | (with_reducible refine Y9 ?_; first | refine Y5 ?_ | (refine ao1 rfl rfl fun K HK => ?_; simp only [go_sem, ↓reduceIte, Z0, Z2, Z1, Z3, Z4, Z6, Z7, Z8, e1, e7, e8, e9, Z9, U2, Zb, wk, Z5]; (first | refine Y8 (fun hq => ?_) (fun hq => ?_) | (refine ⟨by omega, by omega, ?_⟩; refine Ya (by assumption) ?_) | skip) <;> (refine HK _ _ ?_; clear HK K)) | (refine ao2 rfl rfl rfl Zj3 (hh _) ?_; rintro _ _ ⟨rfl, rfl⟩))
      | (exfalso; omega)
     exact ⟨rfl, a.length - (k + 1), by omega, k + 1, hlt, rfl, by rw [ho]; rfl, rfl, e1, e7, e8, rfl⟩
 · skip
   repeat' first
    | (with_reducible first | refine sA rfl ?_ | refine sI rfl rfl ?_ | refine sT rfl ?_ | refine sB rfl ?_)
    | (with_reducible refine Y9 ?_; first | refine Y5 ?_ | (refine ao1 rfl rfl fun K HK => ?_; simp only [go_sem, ↓reduceIte, Z0, Z2, Z1, Z3, Z4, Z6, Z7, Z8, e1, e7, e8, e9]; (first | refine Y8 (fun hq => ?_) (fun hq => ?_) | (refine ⟨by omega, by omega, ?_⟩; intro row hrow; obtain ⟨x, hx, rfl⟩ := Ym hrow; clear hrow) | skip) <;> (refine HK _ _ ?_; clear HK K)))
    | (exfalso; omega)
   exact ⟨by simp, endV hl0 rfl rfl ⟨rfl, by rw [ho, Zd (by omega)]; rfl⟩⟩
end
section
attribute [local irreducible] on aOp
attribute [local go_sem] decide_true decide_false Zh Ze
attribute [local simp] byD_len
variable (G : Nat → D) (hG : ∀ g, low 0 (G g))
include hG
theorem when_d (b : Bool) (e : Int) (h : List Ob) : Does Zf G 124 h [.v (.bool b), .v (.int .i64 e)] (fun h' r => h' = h ∧ r = .v (.int .i64 (Jp b e))) := by
 refine Y7 Tryz.func124 rfl (Za rfl) hG fun hl0 _ => ?_
 simp only [Tryz.ntmps124]
 cases b
 all_goals
  skip
  repeat' first
   | (with_reducible first | refine sA rfl ?_ | refine sI rfl rfl ?_ | refine sT rfl ?_)
   | (with_reducible refine Y9 ?_; first | refine Y5 ?_ | (refine ao1 rfl rfl fun K HK => ?_; simp only [go_sem, ↓reduceIte, Z0, Z2, Z1, Z3, Z4, Z6, Z7, Z8, Z5] <;> (refine HK _ _ ?_; clear HK K)))
  exact ⟨.inr rfl, endV hl0 rfl rfl ⟨rfl, rfl⟩⟩
theorem chain_d (n : Nat) : ∀ (l : Lat), SizeOf.sizeOf l ≤ n → Sm l → ∀ (h : List Ob), Does Zf G 129 h [.agg (latX l)] (fun h' r => h' = h ∧ r = .v (.bool (J9 l))) := by
 induction n with
 | zero => intro l hn; cases l; simp at hn
 | succ n ih =>
 intro l hn hsm h
 refine Yh G hG (Jt _ l) (by rw [low]; trivial) ?_ h
 clear h
 have hpl := hsm.parts
 have hpp : ∀ p ∈ l.parts, ∀ (b : Bool), J9 p = b → ∀ (h : List Ob), Does Zf G 129 h [.agg (latX p)] (fun h' r => h' = h ∧ r = .v (.bool b)) := fun p hp b hb h => hb ▸ ih p (by have := Zf0 hp; omega) (hsm.part p hp) h
 generalize hkk : l.kind = k
 by_cases h123 : k = 1 ∨ k = 2 ∨ k = 3
 · have e1 : J9 l = true := by rw [Ye7, hkk, decide_eq_true h123]; rfl
   rw [e1]
   refine Y7 Tryz.func129 rfl (Za rfl) hG fun hl0 _ => ?_
   simp only [Tryz.ntmps129]
   repeat' first
    | (with_reducible first | refine sA rfl ?_ | refine sI rfl rfl ?_ | refine sT rfl ?_ | refine sB rfl ?_)
    | (with_reducible refine Y9 ?_; first | refine Y5 ?_ | (refine ao1 rfl rfl fun K HK => ?_; (first | refine Y6 rfl ?_ | skip); simp only [go_sem, ↓reduceIte, Z0, Z2, Z1, Z3, Z4, Z6, Z7, Z8, Y4, hkk]; (first | refine Y8 (fun hq => ?_) (fun hq => ?_) | skip) <;> (refine HK _ _ ?_; clear HK K)) | refine ao0 rfl rfl ?_)
    | (exfalso; omega)
   all_goals first | (exfalso; omega) | exact ⟨.inr rfl, endD (r := .v (.bool true)) hl0 rfl (by simp) (by simp) rfl (by rw [low]; trivial) ⟨rfl, rfl⟩⟩
 by_cases h7 : k = 7 ∧ l.parts.length = 2
 rotate_left
 · have e1 : J9 l = false := chain_no (by rw [hkk]; exact h123) (by rw [hkk]; omega)
   rw [e1]
   refine Y7 Tryz.func129 rfl (Za rfl) hG fun hl0 _ => ?_
   simp only [Tryz.ntmps129]
   repeat' first
    | (with_reducible first | refine sA rfl ?_ | refine sI rfl rfl ?_ | refine sT rfl ?_ | refine sB rfl ?_)
    | (with_reducible refine Y9 ?_; first | refine Y5 ?_ | (refine ao1 rfl rfl fun K HK => ?_; (first | refine Y6 rfl ?_ | skip); simp only [go_sem, ↓reduceIte, Z0, Z2, Z1, Z3, Z4, Z6, Z7, Z8, Y4, hkk, Z9, Z5]; (first | refine Y8 (fun hq => ?_) (fun hq => ?_) | skip) <;> (refine HK _ _ ?_; clear HK K)) | refine ao0 rfl rfl ?_)
    | (exfalso; omega)
   all_goals first | (exfalso; omega) | exact ⟨.inr rfl, endD (r := .v (.bool false)) hl0 rfl (by simp) (by simp) rfl (by rw [low]; trivial) ⟨rfl, rfl⟩⟩
 obtain ⟨rfl, h2⟩ := h7
 obtain ⟨a, b, hab⟩ : ∃ a b, l.parts = [a, b] := by
  match hm : l.parts, h2 with
  | [a, b], _ => exact ⟨a, b, rfl⟩
 rw [chain_two (by rw [hkk]; exact h123) hkk hab]
 have ha := hpp a (by rw [hab]; simp)
 have hb := hpp b (by rw [hab]; simp)
 have hx0 : l.parts[0]? = some a := by rw [hab]; rfl
 have hx1 : l.parts[1]? = some b := by rw [hab]; rfl
 clear hab
 refine Y7 Tryz.func129 rfl (Za rfl) hG fun hl0 _ => ?_
 simp only [Tryz.ntmps129]
 cases hca : J9 a
 · skip
   repeat' first
    | (with_reducible first | refine sA rfl ?_ | refine sI rfl rfl ?_ | refine sT rfl ?_ | refine sB rfl ?_)
    | (with_reducible refine Y9 ?_; first | refine Y5 ?_ | (refine ao1 rfl rfl fun K HK => ?_; (first | refine Y6 rfl ?_ | skip); simp only [go_sem, ↓reduceIte, Z0, Z2, Z1, Z3, Z4, Z6, Z7, Z8, Y4 l, Zk7, Yb9, hkk, h2, Z9, Zn, Int.toNat_one, Z5]; (first | refine Y8 (fun hq => ?_) (fun hq => ?_) | (refine ⟨by omega, ?_⟩; refine Ya (by assumption) ?_) | skip) <;> (refine HK _ _ ?_; clear HK K)) | refine ao0 rfl rfl ?_ | (refine ao2 rfl rfl rfl Yo3 (ha _ hca _) ?_; rintro _ _ ⟨rfl, rfl⟩))
    | (exfalso; omega)
   all_goals first | (exfalso; omega) | exact ⟨.inr rfl, endD (r := .v (.bool false)) hl0 rfl (by simp) (by simp) rfl (by rw [low]; trivial) ⟨rfl, by rfl⟩⟩
 · cases hcb : J9 b
   all_goals
    skip
    repeat' first
     | (with_reducible first | refine sA rfl ?_ | refine sI rfl rfl ?_ | refine sT rfl ?_ | refine sB rfl ?_)
     | (with_reducible refine Y9 ?_; first | refine Y5 ?_ | (refine ao1 rfl rfl fun K HK => ?_; (first | refine Y6 rfl ?_ | skip); simp only [go_sem, ↓reduceIte, Z0, Z2, Z1, Z3, Z4, Z6, Z7, Z8, Y4 l, Zk7, Yb9, hkk, h2, Z9, Zn, Int.toNat_one, Z5]; (first | refine Y8 (fun hq => ?_) (fun hq => ?_) | (refine ⟨by omega, ?_⟩; refine Ya (by assumption) ?_) | skip) <;> (refine HK _ _ ?_; clear HK K)) | refine ao0 rfl rfl ?_ | (refine ao2 rfl rfl rfl Yo3 (ha _ hca _) ?_; rintro _ _ ⟨rfl, rfl⟩) | (refine ao2 rfl rfl rfl Yo3 (hb _ hcb _) ?_; rintro _ _ ⟨rfl, rfl⟩))
     | (exfalso; omega)
   all_goals first | (exfalso; omega) | exact ⟨.inr rfl, endV hl0 rfl rfl ⟨rfl, by rfl⟩⟩
theorem shape_d (l : Lat) (hsm : Sm l) (h : List Ob) : Does Zf G 103 h [.agg (latX l)] (fun h' r => h' = h ∧ r = .v (.int .i64 (Jp (Zb7 l) 1))) := by
 refine Yh G hG (Jt _ l) (by rw [low]; trivial) ?_ h
 clear h
 unfold Zb7
 have hpl := hsm.parts
 have hnl := hsm.names
 have hrl := hsm.rules
 generalize hkk : l.kind = k
 generalize hlo : l.lo = lo
 generalize hhi : l.hi = hi
 generalize hnn : l.names.length = nn at *
 generalize hnp : l.parts.length = np at *
 generalize hnr : l.rules.length = nr at *
 refine Y7 Tryz.func103 rfl (Za rfl) hG fun hl0 _ => ?_
 simp only [Tryz.ntmps103]
 repeat' first
  | (with_reducible first | refine sA rfl ?_ | refine sI rfl rfl ?_ | refine sT rfl ?_ | refine sB rfl ?_)
  | (with_reducible refine W2 ?_; first | refine Yf mixd (by kernel_rfl) ?_)
  | (with_reducible refine Y9 ?_; first | refine Y5 ?_ | (refine ao1 rfl rfl fun K HK => ?_; (first | refine Y6 rfl ?_ | skip); simp only [go_sem, ↓reduceIte, Z0, Z2, Z1, Z3, Z4, Z6, Z7, Z8, Y4, Z9, hkk, hlo, hhi, hnn, hnp, hnr, Z5]; (first | refine Y8 (fun hq => ?_) (fun hq => ?_) | refine V5 (fun hq => ?_) (fun hq => ?_) | skip) <;> (refine HK _ _ ?_; clear HK K)) | refine ao0 rfl rfl ?_ | (refine ao2 rfl rfl rfl Yd6 (when_d G hG _ _ _) ?_; rintro _ _ ⟨rfl, rfl⟩))
  | (with_reducible refine Vn ?_; first | (refine aq1 rfl rfl fun K HK => ?_; (first | refine Y6 rfl ?_ | skip); simp only [go_sem, ↓reduceIte, Z0, Z2, Z1, Z3, Z4, Z6, Z7, Z8, Y4, Z9, hkk, hlo, hhi, hnn, hnp, hnr, Z5]; (first | refine Y8 (fun hq => ?_) (fun hq => ?_) | refine V5 (fun hq => ?_) (fun hq => ?_) | skip) <;> (refine HK _ _ rfl ?_; clear HK K)) | refine Yv ?_)
  | (exfalso; omega)
 all_goals first | (exfalso; omega) | refine ⟨.inr rfl, endV hl0 rfl rfl ⟨rfl, congrArg (fun b => D.v (.int .i64 b)) ?_⟩⟩
 all_goals
  clear hl0
  try unfold Jp
  first
  | (rw [Yk3 (by omega) (by omega) (by omega)]; simp; done)
  | (rw [shapeC_ruled (by omega) (by omega)]; simp; done)
  | (rw [shapeC_none (by omega)]; simp; done)
  | (simp_all [Zh8, U3]; done)
  | (simp_all [Zh8, U3]; omega)
theorem limits_d (l : Lat) (hsm : Sm l) (h : List Ob) : Does Zf G 104 h [.agg (latX l)] (fun h' r => h' = h ∧ r = .v (.int .i64 (Jp (Zm5 l) 6))) := by
 refine Yh G hG (Jt _ l) (by rw [low]; trivial) ?_ h
 clear h
 unfold Zm5
 have hnl := hsm.names
 have hrl := hsm.rules
 generalize hkk : l.kind = k
 generalize hnn : l.names.length = nn at *
 generalize hnr : l.rules.length = nr at *
 refine Y7 Tryz.func104 rfl (Za rfl) hG fun hl0 _ => ?_
 simp only [Tryz.ntmps104]
 repeat' first
  | (with_reducible first | refine sA rfl ?_ | refine sI rfl rfl ?_ | refine sT rfl ?_ | refine sB rfl ?_)
  | (with_reducible refine Y9 ?_; first | refine Y5 ?_ | (refine ao1 rfl rfl fun K HK => ?_; (first | refine Y6 rfl ?_ | skip); simp only [go_sem, ↓reduceIte, Z0, Z2, Z1, Z3, Z4, Z6, Z7, Z8, Y4, Z9, hkk, hnn, hnr, Z5]; (first | refine Y8 (fun hq => ?_) (fun hq => ?_) | skip) <;> (refine HK _ _ ?_; clear HK K)) | refine ao0 rfl rfl ?_ | (refine ao2 rfl rfl rfl Yd6 (when_d G hG _ _ _) ?_; rintro _ _ ⟨rfl, rfl⟩))
 all_goals first | (exfalso; omega) | refine ⟨.inr rfl, endV hl0 rfl rfl ⟨rfl, congrArg (fun b => D.v (.int .i64 (Jp b 6))) ?_⟩⟩
 all_goals
  clear hl0
  rw [Zj]
  first
  | (simp_all [mostN]; done)
  | (simp_all [mostN]; omega)
theorem ranges_d (l : Lat) (h : List Ob) : Does Zf G 106 h [.agg (latX l)] (fun h' r => h' = h ∧ r = .v (.int .i64 (Jp (Zs3 l) 5))) := by
 refine Yh G hG (Jt _ l) (by rw [low]; trivial) ?_ h
 clear h
 unfold Zs3
 generalize hlo : l.lo = lo
 generalize hhi : l.hi = hi
 refine Y7 Tryz.func106 rfl (Za rfl) hG fun hl0 _ => ?_
 simp only [Tryz.ntmps106]
 repeat' first
  | (with_reducible first | refine sA rfl ?_ | refine sT rfl ?_)
  | (with_reducible refine Y9 ?_; first | refine Y5 ?_ | (refine ao1 rfl rfl fun K HK => ?_; (first | refine Y6 rfl ?_ | skip); simp only [go_sem, ↓reduceIte, Z0, Z2, Z1, Z3, Z4, Z6, Z7, Z8, Y4, hlo, hhi, Z5]; (first | refine Y8 (fun hq => ?_) (fun hq => ?_) | skip) <;> (refine HK _ _ ?_; clear HK K)) | refine ao0 rfl rfl ?_ | (refine ao2 rfl rfl rfl Yd6 (when_d G hG _ _ _) ?_; rintro _ _ ⟨rfl, rfl⟩))
  | (exfalso; omega)
 all_goals first | (exfalso; omega) | refine ⟨.inr rfl, endV hl0 rfl rfl ⟨rfl, congrArg (fun b => D.v (.int .i64 (Jp b 5))) ?_⟩⟩
 all_goals
  clear hl0
  first
  | (rw [decide_eq_true (by omega)]; done)
  | (rw [decide_eq_false (by omega)]; done)
theorem chains_d (l : Lat) (hsm : Sm l) (h7 : l.kind = 7 → l.parts.length = 2) (h : List Ob) : Does Zf G 107 h [.agg (latX l)] (fun h' r => h' = h ∧ r = .v (.int .i64 (Jp (Zg7 l) 4))) := by
 refine Yh G hG (Jt _ l) (by rw [low]; trivial) ?_ h
 clear h
 by_cases hk : l.kind = 7
 · have h2 := h7 hk
   obtain ⟨p, hp, hc, hpm⟩ : ∃ p, l.parts[0]? = some p ∧ Zg7 l = !J9 p ∧ p ∈ l.parts := by
    match hm : l.parts, h2 with
    | [a, b], _ => exact ⟨a, rfl, by unfold Zg7; rw [hk, hm]; rfl, by simp⟩
   rw [hc]
   have hch := chain_d G hG _ p (Nat.le_refl _) (hsm.part p hpm)
   generalize J9 p = b at *
   refine Y7 Tryz.func107 rfl (Za rfl) hG fun hl0 _ => ?_
   simp only [Tryz.ntmps107]
   cases b
   all_goals
    skip
    repeat' first
     | (with_reducible first | refine sA rfl ?_ | refine sT rfl ?_)
     | (with_reducible refine Y9 ?_; first | refine Y5 ?_ | (refine ao1 rfl rfl fun K HK => ?_; (first | refine Y6 rfl ?_ | skip); simp only [go_sem, ↓reduceIte, Z0, Z2, Z1, Z3, Z4, Z6, Z7, Z8, Y4 l, Zk7, Yb9, hk, h2, Z9, Zn, Z5]; (first | (refine ⟨by omega, ?_⟩; refine Ya (by assumption) ?_) | skip) <;> (refine HK _ _ ?_; clear HK K)) | (refine ao2 rfl rfl rfl Yd6 (when_d G hG _ _ _) ?_; rintro _ _ ⟨rfl, rfl⟩) | (refine ao2 rfl rfl rfl Yo3 (hch _) ?_; rintro _ _ ⟨rfl, rfl⟩))
    exact ⟨.inr rfl, endV hl0 rfl rfl ⟨rfl, rfl⟩⟩
 · have hc : Zg7 l = false := by unfold Zg7; rw [decide_eq_false hk, Zm]
   rw [hc]
   refine Y7 Tryz.func107 rfl (Za rfl) hG fun hl0 _ => ?_
   simp only [Tryz.ntmps107]
   repeat' first
    | (with_reducible first | refine sA rfl ?_ | refine sT rfl ?_)
    | (with_reducible refine Y9 ?_; first | refine Y5 ?_ | (refine ao1 rfl rfl fun K HK => ?_; (first | refine Y6 rfl ?_ | skip); simp only [go_sem, ↓reduceIte, Z0, Z2, Z1, Z3, Z4, Z6, Z7, Z8, Y4 l, hk, Z5] <;> (refine HK _ _ ?_; clear HK K)) | refine ao0 rfl rfl ?_ | (refine ao2 rfl rfl rfl Yd6 (when_d G hG _ _ _) ?_; rintro _ _ ⟨rfl, rfl⟩))
   exact ⟨.inr rfl, endV hl0 rfl rfl ⟨rfl, rfl⟩⟩
end
section
attribute [local irreducible] on aOp
attribute [local go_sem] decide_true decide_false Zh Ze
attribute [local simp] byD_len
variable (G : Nat → D) (hG : ∀ g, low 0 (G g))
include hG
theorem spelling_d (l : Lat) (hsm : Sm l) (h : List Ob) : Does Zf G 105 h [.agg (latX l)] (fun h' r => h' = h ∧ r = .v (.int .i64 (Jp (spellB l) 3))) := by
 refine Yh G hG (Jt _ l) (by rw [low]; trivial) ?_ h
 clear h
 have hnl := hsm.names
 have hrl := hsm.rules
 have htx := hsm.texts
 have hcd := hsm.conds
 have hso := Zy5 G hG l.names hnl
 obtain ⟨six, hsix⟩ : ∃ b : Bool, (l.kind == 6) = b := ⟨_, rfl⟩
 have hkd : decide (l.kind = 6) = six := by rw [← hsix]; rfl
 unfold spellB
 rw [hsix]
 refine Y7 Tryz.func105 rfl (Za rfl) hG fun hl0 _ => ?_
 simp only [Tryz.ntmps105]
 repeat' first
  | (with_reducible first | refine sA rfl ?_ | refine sT rfl ?_)
  | (with_reducible refine Y9 ?_; first | refine Y5 ?_ | (refine ao1 rfl rfl fun K HK => ?_; simp only [go_sem, ↓reduceIte, Z0, Z2, Z1, Z3, Z4, Z6, Z7, Z8, Y4 l, Z9] <;> (refine HK _ _ ?_; clear HK K)))
 refine Yp (fun m e h' => ∃ k : Nat, k ≤ l.names.length ∧ m = l.names.length - k ∧ nmGo six l.names 0 l.names = nmGo six l.names k (l.names.drop k) ∧ h' = [.cells (latX l)] ∧ e 1 = .ptr 0 0 ∧ e 8 = .sl 1 (l.names.map strX) ∧ e 9 = .v (.int .i64 l.names.length) ∧ e 10 = .v (.int .i64 k)) l.names.length ⟨0, Zl _, rfl, rfl, (by rw [Y4 l]), rfl, rfl, rfl, rfl⟩ ?_
 rintro m e h' ⟨k, hk, rfl, ho, rfl, e1, e8, e9, e10⟩
 by_cases hlt : k < l.names.length
 · have hx : l.names[k]? = some l.names[k] := Zc hlt
   have wk : IntKind.i64.wrap ((k : Int) + 1) = (k : Int) + 1 := IntWalk.i64_in _ (by omega)
   rw [nmGo_step six l.names k hlt] at ho
   have hn := Zg0 G hG l.names[k] (htx _ (List.getElem_mem hlt))
   generalize l.names[k] = x at hx hn ho
   have hin := contS_d G hG (l.names.take k) x (by rw [List.length_take]; omega)
   have hin2 : ∀ (b : Bool), hasS (l.names.take k) x = b → ∀ h, Does Zf G 125 h [.sl 1 (List.drop (Int.toNat 0) (List.take (Int.toNat (k : Int)) (l.names.map strX))), .v (.string x)] (fun h' r => h' = h ∧ r = .v (.bool b)) := fun b hb h => by
    have := hin h
    rw [hb, List.map_take] at this
    exact this
   clear hin
   cases hnb : Js x <;> rw [hnb] at hn ho
   · have e0 : (nmGo six l.names 0 l.names) = false := by rw [ho]; rfl
     rw [e0]
     repeat' first
      | (with_reducible first | refine sA rfl ?_ | refine sI rfl rfl ?_ | refine sT rfl ?_ | refine sB rfl ?_)
      | (with_reducible refine Y9 ?_; first | refine Y5 ?_ | (refine ao1 rfl rfl fun K HK => ?_; (first | refine Y6 rfl ?_ | skip); simp only [go_sem, ↓reduceIte, Z0, Z2, Z1, Z3, Z4, Z6, Z7, Z8, Y4 l, e1, e8, e9, e10, Z9, U2, Zb, wk, Z5]; (first | refine Y8 (fun hq => ?_) (fun hq => ?_) | refine V5 (fun hq => ?_) (fun hq => ?_) | (refine ⟨by omega, by omega, ?_⟩; refine Ya (by assumption) ?_) | skip) <;> (refine HK _ _ ?_; clear HK K)) | refine ao0 rfl rfl ?_ | (refine ao2 rfl rfl rfl J7 (hn _) ?_; rintro _ _ ⟨rfl, rfl⟩))
      | (exfalso; omega)
     exact ⟨.inr rfl, endD (r := .v (.int .i64 3)) hl0 rfl (by simp) (by simp) rfl (by rw [low]; trivial) ⟨rfl, rfl⟩⟩
   · cases six
     · rw [Zm, Ze] at ho
       repeat' first
        | (with_reducible first | refine sA rfl ?_ | refine sI rfl rfl ?_ | refine sT rfl ?_ | refine sB rfl ?_)
        | (with_reducible refine Y9 ?_; first | refine Y5 ?_ | (refine ao1 rfl rfl fun K HK => ?_; (first | refine Y6 rfl ?_ | skip); simp only [go_sem, ↓reduceIte, Z0, Z2, Z1, Z3, Z4, Z6, Z7, Z8, Y4 l, e1, e8, e9, e10, hkd, Z9, U2, Zb, wk, Z5]; (first | refine Y8 (fun hq => ?_) (fun hq => ?_) | (refine ⟨by omega, by omega, ?_⟩; refine Ya (by assumption) ?_) | skip) <;> (refine HK _ _ ?_; clear HK K)) | refine ao0 rfl rfl ?_ | (refine ao2 rfl rfl rfl J7 (hn _) ?_; rintro _ _ ⟨rfl, rfl⟩))
        | (exfalso; omega)
       exact ⟨rfl, l.names.length - (k + 1), by omega, k + 1, hlt, rfl, by rw [ho]; rfl, by rw [Y4 l], e1, e8, e9, rfl⟩
     · cases hib : hasS (l.names.take k) x <;> rw [hib] at ho
       · skip
         repeat' first
          | (with_reducible first | refine sA rfl ?_ | refine sI rfl rfl ?_ | refine sT rfl ?_ | refine sB rfl ?_)
          | (with_reducible refine Y9 ?_; first | refine Y5 ?_ | (refine ao1 rfl rfl fun K HK => ?_; (first | refine Y6 rfl ?_ | skip); simp only [go_sem, ↓reduceIte, Z0, Z2, Z1, Z3, Z4, Z6, Z7, Z8, Y4 l, e1, e8, e9, e10, hkd, Z9, U2, Zb, wk, Z5]; (first | refine Y8 (fun hq => ?_) (fun hq => ?_) | (refine W5 (by simp only [go_sem]) rfl rfl (by first | omega | simp) (by first | omega | simp) (by simp only [go_sem]; omega) ?_) | (refine ⟨by omega, by omega, ?_⟩; refine Ya (by assumption) ?_) | skip) <;> (refine HK _ _ ?_; clear HK K)) | refine ao0 rfl rfl ?_ | (refine ao2 rfl rfl rfl J7 (hn _) ?_; rintro _ _ ⟨rfl, rfl⟩) | (refine ao2 rfl rfl rfl ent_125 (hin2 _ hib _) ?_; rintro _ _ ⟨rfl, rfl⟩))
          | (exfalso; omega)
         exact ⟨rfl, l.names.length - (k + 1), by omega, k + 1, hlt, rfl, by rw [ho]; rfl, by rw [Y4 l], e1, e8, e9, rfl⟩
       · have e0 : (nmGo true l.names 0 l.names) = false := by rw [ho]; rfl
         rw [e0]
         repeat' first
          | (with_reducible first | refine sA rfl ?_ | refine sI rfl rfl ?_ | refine sT rfl ?_ | refine sB rfl ?_)
          | (with_reducible refine Y9 ?_; first | refine Y5 ?_ | (refine ao1 rfl rfl fun K HK => ?_; (first | refine Y6 rfl ?_ | skip); simp only [go_sem, ↓reduceIte, Z0, Z2, Z1, Z3, Z4, Z6, Z7, Z8, Y4 l, e1, e8, e9, e10, hkd, Z9, U2, Zb, wk, Z5]; (first | refine Y8 (fun hq => ?_) (fun hq => ?_) | (refine W5 (by simp only [go_sem]) rfl rfl (by first | omega | simp) (by first | omega | simp) (by simp only [go_sem]; omega) ?_) | (refine ⟨by omega, by omega, ?_⟩; refine Ya (by assumption) ?_) | skip) <;> (refine HK _ _ ?_; clear HK K)) | refine ao0 rfl rfl ?_ | (refine ao2 rfl rfl rfl J7 (hn _) ?_; rintro _ _ ⟨rfl, rfl⟩) | (refine ao2 rfl rfl rfl ent_125 (hin2 _ hib _) ?_; rintro _ _ ⟨rfl, rfl⟩))
          | (exfalso; omega)
         exact ⟨.inr rfl, endD (r := .v (.int .i64 3)) hl0 rfl (by simp) (by simp) rfl (by rw [low]; trivial) ⟨rfl, rfl⟩⟩
 have e0 : (nmGo six l.names 0 l.names) = true := by rw [ho, Zd (by omega)]; rfl
 rw [e0, Zg]
 clear ho e0
 by_cases hbad : six = false ∧ Vi l.names = false
 · obtain ⟨rfl, hsb⟩ := hbad
   rw [hsb] at hso ⊢
   repeat' first
    | (with_reducible first | refine sA rfl ?_ | refine sI rfl rfl ?_ | refine sT rfl ?_ | refine sB rfl ?_)
    | (with_reducible refine Y9 ?_; first | refine Y5 ?_ | (refine ao1 rfl rfl fun K HK => ?_; (first | refine Y6 rfl ?_ | skip); simp only [go_sem, ↓reduceIte, Z0, Z2, Z1, Z3, Z4, Z6, Z7, Z8, Y4 l, e1, e8, e9, e10, hkd, Z9, Z5]; (first | refine Y8 (fun hq => ?_) (fun hq => ?_) | (refine ⟨by omega, by omega, ?_⟩; intro row hrow; obtain ⟨x, hx, rfl⟩ := Ym hrow; clear hrow) | skip) <;> (refine HK _ _ ?_; clear HK K)) | (refine ao2 rfl rfl rfl Zj4 (hso _) ?_; rintro _ _ ⟨rfl, rfl⟩))
    | (exfalso; omega)
   exact ⟨.inr rfl, endD (r := .v (.int .i64 3)) hl0 rfl (by simp) (by simp) rfl (by rw [low]; trivial) ⟨rfl, rfl⟩⟩
 have e0 : (six || Vi l.names) = true := by
  cases six
  · cases hsb : Vi l.names
    · exact absurd ⟨rfl, hsb⟩ hbad
    · rfl
  · rfl
 rw [e0, Zg]
 have hso2 : six = false → ∀ h, Does Zf G 126 h [.sl 1 (l.names.map strX)] (fun h' r => h' = h ∧ r = .v (.bool true)) := fun q h => by
  subst q
  have := hso h
  rw [Bool.false_or] at e0
  rwa [e0] at this
 have step : ∃ u : Unit, True := ⟨(), trivial⟩
 clear step hso e0
 cases six
 all_goals
  skip
  repeat' first
   | (with_reducible first | refine sA rfl ?_ | refine sI rfl rfl ?_ | refine sT rfl ?_ | refine sB rfl ?_)
   | (with_reducible refine Y9 ?_; first | refine Y5 ?_ | (refine ao1 rfl rfl fun K HK => ?_; (first | refine Y6 rfl ?_ | skip); simp only [go_sem, ↓reduceIte, Z0, Z2, Z1, Z3, Z4, Z6, Z7, Z8, Y4 l, e1, e8, e9, e10, hkd, Z9, Z5]; (first | refine Y8 (fun hq => ?_) (fun hq => ?_) | (refine ⟨by omega, by omega, ?_⟩; intro row hrow; obtain ⟨x, hx, rfl⟩ := Ym hrow; clear hrow) | skip) <;> (refine HK _ _ ?_; clear HK K)) | refine ao0 rfl rfl ?_ | (refine ao2 rfl rfl rfl Zj4 (hso2 rfl _) ?_; rintro _ _ ⟨rfl, rfl⟩))
   | (exfalso; omega)
  refine Yp (fun m e h' => ∃ (k : Nat) (T : List Ob), k ≤ l.rules.length ∧ m = l.rules.length - k ∧ Zi0 l.names l.rules = Zi0 l.names (l.rules.drop k) ∧ h' = gM (.cells (latX l)) T ∧ e 1 = .ptr 0 0 ∧ e 42 = .sl 2 (l.rules.map Zz6) ∧ e 43 = .v (.int .i64 l.rules.length) ∧ e 44 = .v (.int .i64 k)) l.rules.length ⟨0, [], Zl _, rfl, rfl, (by rw [Y4 l]; rfl), e1, rfl, rfl, rfl⟩ ?_
  clear e1 e8 e9 e10
  rintro m e h' ⟨k, T, hk, rfl, ho, rfl, e1, e42, e43, e44⟩
  by_cases hlt : k < l.rules.length
  rotate_left
  · have e0 : Zi0 l.names l.rules = true := by rw [ho, Zd (by omega)]; rfl
    rw [e0]
    repeat' first
     | (with_reducible first | refine sA rfl ?_ | refine sI rfl rfl ?_ | refine sT rfl ?_ | refine sB rfl ?_)
     | (with_reducible refine Y9 ?_; first | refine Y5 ?_ | (refine ao1 rfl rfl fun K HK => ?_; simp only [go_sem, ↓reduceIte, Z0, Z2, Z1, Z3, Z4, Z6, Z7, Z8, Y4 l, e1, e42, e43, e44, Z9, gM_0]; (first | refine Y8 (fun hq => ?_) (fun hq => ?_) | (refine ⟨by omega, by omega, ?_⟩; intro row hrow; obtain ⟨x, hx, rfl⟩ := Ym hrow; clear hrow) | skip) <;> (refine HK _ _ ?_; clear HK K)))
     | (exfalso; omega)
    exact ⟨.inr rfl, endD (r := .v (.int .i64 0)) hl0 rfl (by simp) (by simp) rfl (by rw [low]; trivial) ⟨rfl, rfl⟩⟩
  have hx : l.rules[k]? = some l.rules[k] := Zc hlt
  have wk : IntKind.i64.wrap ((k : Int) + 1) = (k : Int) + 1 := IntWalk.i64_in _ (by omega)
  rw [rulesB_step _ _ k hlt] at ho
  obtain ⟨hcl, hcs⟩ := hcd _ (List.getElem_mem hlt)
  generalize l.rules[k] = x at hx ho hcl hcs
  have hsx := Zy5 G hG x.cond hcl
  have hsu := subsetS_d G hG x.cond l.names hcl hnl
  have hha := hasS_d G hG l.names x.concl hnl
  have er : ruleB l.names x = (decide (x.cond.length ≠ 0) && Vi x.cond && Jb x.cond l.names && hasS l.names x.concl) := rfl
  by_cases hz : x.cond.length = 0
  · have e0 : Zi0 l.names l.rules = false := by rw [ho, er, decide_eq_false (by omega)]; rfl
    rw [e0]
    repeat' first
     | (with_reducible first | refine sA rfl ?_ | refine sI rfl rfl ?_ | refine sT rfl ?_ | refine sB rfl ?_)
     | (with_reducible refine Y9 ?_; first | refine Y5 ?_ | (refine ao1 rfl rfl fun K HK => ?_; (first | refine Y6 rfl ?_ | skip); simp only [go_sem, ↓reduceIte, Z0, Z2, Z1, Z3, Z4, Z6, Z7, Z8, Y4 l, e1, e42, e43, e44, Z9, Wt, Zb, wk, gM_0, Wo, Wp, gM_l, Um, hz, Z5]; (first | refine Y8 (fun hq => ?_) (fun hq => ?_) | (refine ⟨by omega, by omega, ?_⟩; refine Ya (by assumption) ?_) | skip) <;> (refine HK _ _ ?_; clear HK K)) | refine ao0 rfl rfl ?_ | (refine ao1' rfl fun K HK => ?_; simp only [go_sem, ↓reduceIte, Z0, Z2, Z1, Z3, Z4, Z6, Z7, Z8, Y4 l, e1, e42, e43, e44, Z9, Wt, Zb, wk, gM_0, Wo, Wp, gM_l, Um, hz, Z5]; refine HK _ _ ?_; clear HK K))
     | (exfalso; omega)
    all_goals first | (exfalso; omega) | exact ⟨.inr rfl, endD (r := .v (.int .i64 3)) hl0 rfl (by simp) (by simp) rfl (by rw [low]; trivial) ⟨rfl, rfl⟩⟩
  rw [decide_eq_true (by omega), Zg] at er
  cases hb1 : Vi x.cond <;> rw [hb1] at hsx er
  · have e0 : Zi0 l.names l.rules = false := by rw [ho, er]; rfl
    rw [e0]
    repeat' first
     | (with_reducible first | refine sA rfl ?_ | refine sI rfl rfl ?_ | refine sT rfl ?_ | refine sB rfl ?_)
     | (with_reducible refine Y9 ?_; first | refine Y5 ?_ | (refine ao1 rfl rfl fun K HK => ?_; (first | refine Y6 rfl ?_ | skip); simp only [go_sem, ↓reduceIte, Z0, Z2, Z1, Z3, Z4, Z6, Z7, Z8, Y4 l, e1, e42, e43, e44, Z9, Wt, Zb, wk, gM_0, Wo, Wp, gM_l, Um, Z5]; (first | refine Y8 (fun hq => ?_) (fun hq => ?_) | (refine ⟨by omega, by omega, ?_⟩; refine Ya (by assumption) ?_) | skip) <;> (refine HK _ _ ?_; clear HK K)) | refine ao0 rfl rfl ?_ | (refine ao2 rfl rfl rfl Zj4 (hsx _) ?_; rintro _ _ ⟨rfl, rfl⟩) | (refine ao1' rfl fun K HK => ?_; simp only [go_sem, ↓reduceIte, Z0, Z2, Z1, Z3, Z4, Z6, Z7, Z8, Y4 l, e1, e42, e43, e44, Z9, Wt, Zb, wk, gM_0, Wo, Wp, gM_l, Um, Z5]; refine HK _ _ ?_; clear HK K))
     | (exfalso; omega)
    all_goals first | (exfalso; omega) | exact ⟨.inr rfl, endD (r := .v (.int .i64 3)) hl0 rfl (by simp) (by simp) rfl (by rw [low]; trivial) ⟨rfl, rfl⟩⟩
  cases hb2 : Jb x.cond l.names <;> rw [hb2] at hsu er
  · have e0 : Zi0 l.names l.rules = false := by rw [ho, er]; rfl
    rw [e0]
    repeat' first
     | (with_reducible first | refine sA rfl ?_ | refine sI rfl rfl ?_ | refine sT rfl ?_ | refine sB rfl ?_)
     | (with_reducible refine Y9 ?_; first | refine Y5 ?_ | (refine ao1 rfl rfl fun K HK => ?_; (first | refine Y6 rfl ?_ | skip); simp only [go_sem, ↓reduceIte, Z0, Z2, Z1, Z3, Z4, Z6, Z7, Z8, Y4 l, e1, e42, e43, e44, Z9, Wt, Zb, wk, gM_0, Wo, Wp, gM_l, Um, Z5]; (first | refine Y8 (fun hq => ?_) (fun hq => ?_) | (refine ⟨by omega, by omega, ?_⟩; refine Ya (by assumption) ?_) | skip) <;> (refine HK _ _ ?_; clear HK K)) | refine ao0 rfl rfl ?_ | (refine ao2 rfl rfl rfl Zj4 (hsx _) ?_; rintro _ _ ⟨rfl, rfl⟩) | (refine ao2 rfl rfl rfl Zt2 (hsu _) ?_; rintro _ _ ⟨rfl, rfl⟩) | (refine ao1' rfl fun K HK => ?_; simp only [go_sem, ↓reduceIte, Z0, Z2, Z1, Z3, Z4, Z6, Z7, Z8, Y4 l, e1, e42, e43, e44, Z9, Wt, Zb, wk, gM_0, Wo, Wp, gM_l, Um, Z5]; refine HK _ _ ?_; clear HK K))
     | (exfalso; omega)
    all_goals first | (exfalso; omega) | exact ⟨.inr rfl, endD (r := .v (.int .i64 3)) hl0 rfl (by simp) (by simp) rfl (by rw [low]; trivial) ⟨rfl, rfl⟩⟩
  cases hb3 : hasS l.names x.concl <;> rw [hb3] at hha er
  · have e0 : Zi0 l.names l.rules = false := by rw [ho, er]; rfl
    rw [e0]
    repeat' first
     | (with_reducible first | refine sA rfl ?_ | refine sI rfl rfl ?_ | refine sT rfl ?_ | refine sB rfl ?_)
     | (with_reducible refine Y9 ?_; first | refine Y5 ?_ | (refine ao1 rfl rfl fun K HK => ?_; (first | refine Y6 rfl ?_ | skip); simp only [go_sem, ↓reduceIte, Z0, Z2, Z1, Z3, Z4, Z6, Z7, Z8, Y4 l, e1, e42, e43, e44, Z9, Wt, Zb, wk, gM_0, Wo, Wp, gM_l, Um, Z5]; (first | refine Y8 (fun hq => ?_) (fun hq => ?_) | (refine ⟨by omega, by omega, ?_⟩; refine Ya (by assumption) ?_) | skip) <;> (refine HK _ _ ?_; clear HK K)) | refine ao0 rfl rfl ?_ | (refine ao2 rfl rfl rfl Zj4 (hsx _) ?_; rintro _ _ ⟨rfl, rfl⟩) | (refine ao2 rfl rfl rfl Zt2 (hsu _) ?_; rintro _ _ ⟨rfl, rfl⟩) | (refine ao2 rfl rfl rfl Zj3 (hha _) ?_; rintro _ _ ⟨rfl, rfl⟩) | (refine ao1' rfl fun K HK => ?_; simp only [go_sem, ↓reduceIte, Z0, Z2, Z1, Z3, Z4, Z6, Z7, Z8, Y4 l, e1, e42, e43, e44, Z9, Wt, Zb, wk, gM_0, Wo, Wp, gM_l, Um, Z5]; refine HK _ _ ?_; clear HK K))
     | (exfalso; omega)
    all_goals first | (exfalso; omega) | exact ⟨.inr rfl, endD (r := .v (.int .i64 3)) hl0 rfl (by simp) (by simp) rfl (by rw [low]; trivial) ⟨rfl, rfl⟩⟩
  · rw [er, Zg, Zg, Zg] at ho
    repeat' first
     | (with_reducible first | refine sA rfl ?_ | refine sI rfl rfl ?_ | refine sT rfl ?_ | refine sB rfl ?_)
     | (with_reducible refine Y9 ?_; first | refine Y5 ?_ | (refine ao1 rfl rfl fun K HK => ?_; (first | refine Y6 rfl ?_ | skip); simp only [go_sem, ↓reduceIte, Z0, Z2, Z1, Z3, Z4, Z6, Z7, Z8, Y4 l, e1, e42, e43, e44, Z9, Wt, Zb, wk, gM_0, Wo, Wp, gM_l, Um, Z5]; (first | refine Y8 (fun hq => ?_) (fun hq => ?_) | (refine ⟨by omega, by omega, ?_⟩; refine Ya (by assumption) ?_) | skip) <;> (refine HK _ _ ?_; clear HK K)) | refine ao0 rfl rfl ?_ | (refine ao2 rfl rfl rfl Zj4 (hsx _) ?_; rintro _ _ ⟨rfl, rfl⟩) | (refine ao2 rfl rfl rfl Zt2 (hsu _) ?_; rintro _ _ ⟨rfl, rfl⟩) | (refine ao2 rfl rfl rfl Zj3 (hha _) ?_; rintro _ _ ⟨rfl, rfl⟩) | (refine ao1' rfl fun K HK => ?_; simp only [go_sem, ↓reduceIte, Z0, Z2, Z1, Z3, Z4, Z6, Z7, Z8, Y4 l, e1, e42, e43, e44, Z9, Wt, Zb, wk, gM_0, Wo, Wp, gM_l, Um, Z5]; refine HK _ _ ?_; clear HK K))
     | (exfalso; omega)
    all_goals first | (exfalso; omega) | exact ⟨rfl, l.rules.length - (k + 1), by omega, k + 1, _, hlt, rfl, ho, by rw [Y4 l], e1, e42, e43, rfl⟩
end
end Go.Proofs.YtgkjcmglcnhpaaaGreatDoor
