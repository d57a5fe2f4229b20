/-
  What the statements of the chapter share, part 15: PL1, LX, GO, LA1, LA2, RSpec, PRd, PL2, PL3, PL4, PO2.
-/
import Derived.Test.YtbhkcbidcfofiaaGreatY01
import Derived.Test.YtbhkcbidcfofiaaGreatY11
import Derived.Test.YtbhkcbidcfofiaaGreatY12
import Derived.Test.YtbhkcbidcfofiaaGreatY14
import Derived.Lib.Strings
set_option linter.unusedVariables false
set_option linter.unusedSimpArgs false
set_option maxRecDepth 100000
set_option maxHeartbeats 8000000
namespace Go.Proofs.YtbhkcbidcfofiaaGreat
open _root_.Array renaming getElem?_eq_getElem → Zk
open _root_.Bool renaming and_eq_true → Z0, false_eq_true → Z2, false_ne_true → Zc, not_false → Zi, true_and → Zo, not_true → Zp
open _root_.Int renaming reduceEq → Zd, reduceLT → Ze, reduceLE → Zf
open _root_.List renaming drop_eq_nil_of_le → Z4, getElem?_eq_getElem → Z6, drop_eq_getElem_cons → Z8, all_cons → Z9, sizeOf_lt_of_mem → Zg, all_eq_true → Zh, lt_irrefl → Zj, append_assoc → Zl
open _root_.Nat renaming reduceEqDiff → Z1, reduceAdd → Z3, le_of_ble_eq_true → Z5, reduceLeDiff → Z7, reduceBEq → Za, reduceMul → Zb, zero_le → Zm
open _root_.Go.Proofs.Tryz renaming prog → Zn
open Go.RowKit
section
def Zk9 (c : Int) : Bool := decide ((97 ≤ c ∧ c ≤ 122) ∨ (48 ≤ c ∧ c ≤ 57) ∨ c = 45)
def strEq (a b : ByteArray) : Bool := decide (a = b)
def hasS : List ByteArray → ByteArray → Bool
 | [], _ => false
 | x :: s, c => decide (x = c) || hasS s c
theorem Yu : ∀ (l : List ByteArray) (c : ByteArray), hasS l c = true ↔ c ∈ l
 | [], c => by simp [hasS]
 | x :: s, c => by rw [hasS, Bool.or_eq_true, decide_eq_true_eq, Yu, List.mem_cons, eq_comm]
theorem W9 {α : Type} (xs : List α) (k : Nat) (h : k < xs.length) : xs.drop k = xs[k] :: xs.drop (k + 1) := Z8 h
def X8 (a b : List ByteArray) : Bool := a.all fun s => hasS b s
def Ue (a b : ByteArray) : Bool := Op.bytesLess a.toList b.toList
def X5 : ByteArray → List ByteArray → Bool
 | _, [] => true
 | p, x :: t => Ue p x && X5 x t
def Xk : List ByteArray → Bool
 | [] => true
 | x :: t => X5 x t
theorem Zv3 (l : List ByteArray) (k : Nat) (h : k + 1 < l.length) : X5 (l[k]'(by omega)) (l.drop (k + 1)) = (Ue (l[k]'(by omega)) l[k + 1] && X5 l[k + 1] (l.drop (k + 2))) := by
  rw [W9 l (k + 1) h, X5]
def Xz (s : ByteArray) : Bool := decide (1 ≤ s.size ∧ s.size ≤ 16) && (decide ((97 : Int) ≤ ((s.data.toList.getD 0 0).toNat : Int) ∧ ((s.data.toList.getD 0 0).toNat : Int) ≤ 122) && s.data.toList.all fun c => Zk9 c.toNat)
theorem all_attach {α : Type} (l : List α) (f : α → Bool) : (l.attach.all fun p => f p.1) = l.all f := by
  rw [Bool.eq_iff_iff]
  simp [Zh]
def Xh : Lat → Bool
 | .mk k _ _ _ ps _ => decide (k = 1 ∨ k = 2 ∨ k = 3) || (decide (k = 7) && decide (ps.length = 2) && ps.attach.all fun p => Xh p.1)
 termination_by l => SizeOf.sizeOf l
 decreasing_by
  have := Zg p.2
  simp only [Lat.mk.sizeOf_spec]
  omega
theorem Vo (l : Lat) : Xh l = (decide (l.kind = 1 ∨ l.kind = 2 ∨ l.kind = 3) || (decide (l.kind = 7) && decide (l.parts.length = 2) && l.parts.all Xh)) := by
 cases l with
 | mk k lo hi ns ps rs => rw [Xh, all_attach]; rfl
theorem Yb {l p : Lat} (h : p ∈ l.parts) : SizeOf.sizeOf p < SizeOf.sizeOf l := by
 cases l with
 | mk k lo hi ns ps rs =>
   have := Zg h
   simp only [Lat.parts] at this
   simp only [Lat.mk.sizeOf_spec]
   omega
def U8 (b : Bool) (e : Int) : Int := if b then e else 0
def Zx1 (k : Int) : Nat := if k = 6 then 8 else if k = 10 then 12 else 32
def Jj (l : Lat) : Bool := decide (Zx1 l.kind < l.names.length ∨ 32 < l.rules.length)
def Zd9 (l : Lat) : Bool := decide (l.hi < l.lo ∨ l.lo < -1000000000 ∨ 1000000000 < l.lo ∨ l.hi < -1000000000 ∨ 1000000000 < l.hi)
def Wp (l : Lat) : Bool := decide (l.kind = 7) && !(match l.parts with
 | p :: _ => Xh p
 | [] => true)
def V1 (k : Int) (n : Nat) : Option (Nat × Bool × Bool × Bool) :=
 if k = 1 ∨ k = 9 then some (0, false, false, false) else if k = 2 ∨ k = 3 then some (0, false, false, true)
 else if k = 4 ∨ k = 8 then some (0, true, false, false) else if k = 5 then some (1, true, false, false)
 else if k = 7 then some (2, false, false, false) else if k = 6 then some (n, true, false, false)
 else if k = 10 then some (0, true, true, false) else none
def Jo (k lo hi : Int) (nn np nr : Nat) : Bool := match V1 k nn with
 | none => true
 | some (p, named, ruled, ranged) => decide (np ≠ p) || (!named && decide (0 < nn)) || (!ruled && decide (0 < nr)) || (!ranged && decide (lo ≠ 0 ∨ hi ≠ 0)) || (decide (k = 6 ∨ k = 10) && decide (nn = 0))
def W4 (l : Lat) : Bool := Jo l.kind l.lo l.hi l.names.length l.parts.length l.rules.length
theorem shape_kinds (k : Int) (n : Nat) : (V1 k n = some (0, false, false, false) ∧ (k = 1 ∨ k = 9)) ∨ (V1 k n = some (0, false, false, true) ∧ (k = 2 ∨ k = 3)) ∨
 (V1 k n = some (0, true, false, false) ∧ (k = 4 ∨ k = 8)) ∨ (V1 k n = some (1, true, false, false) ∧ k = 5) ∨ (V1 k n = some (2, false, false, false) ∧ k = 7) ∨
 (V1 k n = some (n, true, false, false) ∧ k = 6) ∨ (V1 k n = some (0, true, true, false) ∧ k = 10) ∨ (V1 k n = none ∧ ¬ (1 ≤ k ∧ k ≤ 10)) := by
 by_cases h1 : k = 1
 · subst h1; simp [V1]
 by_cases h2 : k = 2
 · subst h2; simp [V1]
 by_cases h3 : k = 3
 · subst h3; simp [V1]
 by_cases h4 : k = 4
 · subst h4; simp [V1]
 by_cases h5 : k = 5
 · subst h5; simp [V1]
 by_cases h6 : k = 6
 · subst h6; simp [V1]
 by_cases h7 : k = 7
 · subst h7; simp [V1]
 by_cases h8 : k = 8
 · subst h8; simp [V1]
 by_cases h9 : k = 9
 · subst h9; simp [V1]
 by_cases h10 : k = 10
 · subst h10; simp [V1]
 · simp [V1, h1, h2, h3, h4, h5, h6, h7, h8, h9, h10]; omega
def nmGo (p : Bool) (full : List ByteArray) : Nat → List ByteArray → Bool
 | _, [] => true
 | k, s :: t => Xz s && !(p && hasS (full.take k) s) && nmGo p full (k + 1) t
def Yh1 (ns : List ByteArray) (r : Rl) : Bool := decide (r.cond.length ≠ 0) && Xk r.cond && X8 r.cond ns && hasS ns r.concl
def J6 (ns : List ByteArray) (rs : List Rl) : Bool := rs.all (Yh1 ns)
def Zd5 (l : Lat) : Bool := !(nmGo (l.kind == 6) l.names 0 l.names && (l.kind == 6 || Xk l.names) && J6 l.names l.rules)
theorem nmGo_step (p : Bool) (full : List ByteArray) (k : Nat) (h : k < full.length) : nmGo p full k (full.drop k) = (Xz full[k] && !(p && hasS (full.take k) full[k]) && nmGo p full (k + 1) (full.drop (k + 1))) := by
 rw [W9 full k h, nmGo]
theorem rulesB_step (ns : List ByteArray) (rs : List Rl) (k : Nat) (h : k < rs.length) : J6 ns (rs.drop k) = (Yh1 ns rs[k] && J6 ns (rs.drop (k + 1))) := by
 rw [W9 rs k h]; unfold J6; rw [Z9]
def latE (l : Lat) : Int := orI [U8 (Jj l) 6, U8 (Zd5 l) 3, U8 (Zd9 l) 5, U8 (Wp l) 4]
def goL (g : Lat → Nat → Int × Nat) : List Lat → Nat → Int × Nat
 | [], n => (0, n)
 | p :: t, n => if (g p n).1 ≠ 0 then g p n else goL g t (g p n).2
def Yt : Nat → Lat → Nat → Int × Nat
 | 0, _, n => (6, n)
 | f + 1, l, n => if 64 ≤ n then (6, n) else if W4 l then (1, n + 1) else if latE l ≠ 0 then (latE l, n + 1) else goL (Yt f) l.parts (n + 1)
theorem goL_step (g : Lat → Nat → Int × Nat) (ps : List Lat) (k n : Nat) (h : k < ps.length) : goL g (ps.drop k) n = if (g ps[k] n).1 ≠ 0 then g ps[k] n else goL g (ps.drop (k + 1)) (g ps[k] n).2 := by
 rw [W9 ps k h, goL]
theorem Yc9 (l : Lat) (h : W4 l = false) (h7 : l.kind = 7) : l.parts.length = 2 := by
 unfold W4 Jo at h
 rw [h7] at h
 simp [V1] at h
 exact h.1.1.1
def chkE (l : Lat) : Int := (Yt 6 l 0).1
def Za9 (l : List ByteArray) : Bool := l.all Xz && Xk l
def Xy (l : List ByteArray) (k : Nat) : Bool := (l.drop k).all Xz && (match k with
 | 0 => Xk l
 | j + 1 => match l[j]? with
   | some p => X5 p (l.drop (j + 1))
   | none => true)
theorem rising_zero (l : List ByteArray) : Xy l 0 = Za9 l := rfl
theorem rising_step0 (l : List ByteArray) (h : 0 < l.length) : Xy l 0 = (Xz l[0] && Xy l 1) := by
 cases l with
 | nil => simp at h
 | cons x t => simp [Xy, Xk, Bool.and_assoc]
theorem rising_step (l : List ByteArray) (j : Nat) (h : j + 1 < l.length) : Xy l (j + 1) = (Xz l[j + 1] && (Ue (l[j]'(by omega)) l[j + 1] && Xy l (j + 2))) := by
  unfold Xy
  simp only [Z6 h, Z6 (show j < l.length by omega)]
  rw [W9 l (j + 1) h, Z9, X5, Bool.eq_iff_iff]
  simp only [Z0]
  constructor
  · rintro ⟨⟨a, b⟩, c, d⟩; exact ⟨a, c, b, d⟩
  · rintro ⟨a, c, b, d⟩; exact ⟨⟨a, b⟩, c, d⟩
theorem rising_end (l : List ByteArray) (k : Nat) (h : l.length ≤ k) : Xy l k = true := by
 unfold Xy
 rw [Z4 h]
 cases k with
 | zero =>
   have : l = [] := List.length_eq_zero_iff.1 (by omega)
   subst this; rfl
 | succ j =>
   show (true && _) = true
   rw [Zo]
   cases hj : l[j]? with
   | none => simp only [hj]
   | some p => simp only [hj]; rw [Z4 h]; rfl
theorem kindI_ranged {k : Int} {n : Nat} (h2 : k ≠ 2) (h3 : k ≠ 3) : V1 k n = none ∨ ∃ p a b, V1 k n = some (p, a, b, false) := by
 unfold V1
 repeat' split
 all_goals first | exact .inl rfl | exact .inr ⟨_, _, _, rfl⟩ | omega
theorem kindI_ruled {k : Int} {n : Nat} (h10 : k ≠ 10) : V1 k n = none ∨ ∃ p a b, V1 k n = some (p, a, false, b) := by
 unfold V1
 repeat' split
 all_goals first | exact .inl rfl | exact .inr ⟨_, _, _, rfl⟩ | omega
theorem Zl7 {k lo hi : Int} {nn np nr : Nat} (h2 : k ≠ 2) (h3 : k ≠ 3) (h : lo ≠ 0 ∨ hi ≠ 0) : Jo k lo hi nn np nr = true := by
 unfold Jo
 rcases kindI_ranged (n := nn) h2 h3 with e | ⟨p, a, b, e⟩
 · rw [e]
 · rw [e]; simp [h]
theorem Zd6 {k lo hi : Int} {nn np nr : Nat} (h10 : k ≠ 10) (h : nr ≠ 0) : Jo k lo hi nn np nr = true := by
 unfold Jo
 rcases kindI_ruled (n := nn) h10 with e | ⟨p, a, b, e⟩
 · rw [e]
 · rw [e]; simp [show 0 < nr by omega]
theorem Zv8 {k lo hi : Int} {nn np nr : Nat} (h : ¬ (1 ≤ k ∧ k ≤ 10)) : Jo k lo hi nn np nr = true := by
 have hk : V1 k nn = none := by unfold V1; rw [if_neg (by omega), if_neg (by omega), if_neg (by omega), if_neg (by omega), if_neg (by omega), if_neg (by omega), if_neg (by omega)]
 unfold Jo
 rw [hk]
def Zd2 (ns : List ByteArray) (r : Rl) : Bool := decide (r.cond.length ≠ 0) && (Za9 r.cond && (hasS ns r.concl && r.cond.all (hasS ns)))
def Ze3 (k : Int) (ns : List ByteArray) (rs : List Rl) : Bool := if k = 6 then nmGo true ns 0 ns else Za9 ns && rs.all (Zd2 ns)
theorem rules_step (ns : List ByteArray) (rs : List Rl) (k : Nat) (h : k < rs.length) : (rs.drop k).all (Zd2 ns) = (Zd2 ns rs[k] && (rs.drop (k + 1)).all (Zd2 ns)) := by
 rw [W9 rs k h, Z9]
theorem conds_step (ns : List ByteArray) (cs : List ByteArray) (k : Nat) (h : k < cs.length) : (cs.drop k).all (hasS ns) = (hasS ns cs[k] && (cs.drop (k + 1)).all (hasS ns)) := by
 rw [W9 cs k h, Z9]
theorem hasS_name {ns : List ByteArray} (h : ns.all Xz = true) {c : ByteArray} (hc : hasS ns c = true) : Xz c = true :=
 Zh.1 h c ((Yu _ _).1 hc)
theorem Zt5 (full : List ByteArray) : ∀ (k : Nat) (l : List ByteArray), nmGo false full k l = l.all Xz
 | _, [] => rfl
 | k, s :: t => by rw [nmGo, Zt5 full (k + 1) t, Z9, Bool.false_and, Zi, Bool.and_true]
theorem rule_eq {ns : List ByteArray} (h : ns.all Xz = true) (r : Rl) : Zd2 ns r = Yh1 ns r := by
 unfold Zd2 Yh1 Za9
 have hq : X8 r.cond ns = r.cond.all (hasS ns) := rfl
 rw [hq]
 cases hs : r.cond.all (hasS ns)
 · simp
 · have : r.cond.all Xz = true := by
    rw [Zh] at hs ⊢
    intro c hc
    exact hasS_name h (hs c hc)
   rw [this]
   cases decide (r.cond.length ≠ 0) <;> cases Xk r.cond <;> cases hasS ns r.concl <;> rfl
theorem shapeB_rules {l : Lat} (h : W4 l = false) (h6 : l.kind = 6) : l.rules = [] := by
 refine List.eq_nil_of_length_eq_zero ?_
 by_cases h0 : l.rules.length = 0
 · exact h0
 · have := Zd6 (lo := l.lo) (hi := l.hi) (nn := l.names.length) (np := l.parts.length) (nr := l.rules.length) (k := l.kind) (by omega) h0
   exact absurd (h.symm.trans this) Zc
theorem spell_named {l : Lat} (h : W4 l = false) : Zd5 l = !(Ze3 l.kind l.names l.rules) := by
 unfold Zd5 Ze3
 by_cases h6 : l.kind = 6
 · rw [if_pos h6, shapeB_rules h h6, h6]
   have : J6 l.names [] = true := rfl
   rw [this]
   simp
 · rw [if_neg h6]
   have hk : (l.kind == 6) = false := by rw [beq_eq_false_iff_ne]; exact h6
   rw [hk, Zt5, Bool.false_or]
   unfold Za9
   cases hn : l.names.all Xz
   · simp
   · have hr : J6 l.names l.rules = l.rules.all (Zd2 l.names) := by
      unfold J6
      congr 1
      funext r
      exact (rule_eq hn r).symm
     rw [hr, Zo]
def Zj3 (l : Lat) (d : Int) (n : Nat) : Int := if 6 < d ∨ 64 ≤ n then 6 else if W4 l then 1 else if Jj l then 6 else if Ze3 l.kind l.names l.rules = false then 3 else if l.hi < l.lo ∨ l.lo < -1000000000 ∨ 1000000000 < l.hi then 5 else if Wp l then 4 else 0
theorem ranges_iff (l : Lat) : Zd9 l = decide (l.hi < l.lo ∨ l.lo < -1000000000 ∨ 1000000000 < l.hi) := by
 unfold Zd9
 rw [decide_eq_decide]
 omega
theorem Ye0 (f : Nat) (l : Lat) (n : Nat) (d : Int) (hd : d = 7 - f) (hf : f ≤ 6) : Zj3 l d n ≠ 0 ∧ (Yt f l n).1 = Zj3 l d n ∨ Zj3 l d n = 0 ∧ ∃ g, f = g + 1 ∧ Yt f l n = goL (Yt g) l.parts (n + 1) := by
 unfold Zj3
 cases f with
 | zero =>
   left
   rw [if_pos (by omega)]
   exact ⟨by decide, rfl⟩
 | succ f =>
   have hv : Yt (f + 1) l n = if 64 ≤ n then (6, n) else if W4 l then (1, n + 1) else if latE l ≠ 0 then (latE l, n + 1) else goL (Yt f) l.parts (n + 1) := rfl
   by_cases h64 : 64 ≤ n
   · left
     rw [if_pos (.inr h64), hv, if_pos h64]
     exact ⟨by decide, rfl⟩
   · rw [if_neg (by omega), hv, if_neg h64]
     cases hs : W4 l
     · rw [if_neg Zc, if_neg Zc]
       have hc : latE l = if Jj l then 6 else if Ze3 l.kind l.names l.rules = false then 3 else if l.hi < l.lo ∨ l.lo < -1000000000 ∨ 1000000000 < l.hi then 5 else if Wp l then 4 else 0 := by
        unfold latE
        rw [spell_named hs, ranges_iff]
        cases Jj l <;> cases Ze3 l.kind l.names l.rules <;> by_cases hr : (l.hi < l.lo ∨ l.lo < -1000000000 ∨ 1000000000 < l.hi) <;> cases Wp l <;> simp [hr, U8, orI]
       rw [← hc]
       by_cases h0 : latE l = 0
       · right
         rw [if_neg (fun h => h h0)]
         exact ⟨h0, f, rfl, rfl⟩
       · left
         rw [if_pos h0]
         exact ⟨h0, rfl⟩
     · left
       rw [if_pos rfl, if_pos rfl]
       exact ⟨by decide, rfl⟩
theorem visit_le (f : Nat) : ∀ (l : Lat) (n : Nat), n ≤ 64 → (Yt f l n).2 ≤ 64 := by
 induction f with
 | zero => intro l n h; exact h
 | succ f ih =>
   intro l n h
   have hv : Yt (f + 1) l n = if 64 ≤ n then (6, n) else if W4 l then (1, n + 1) else if latE l ≠ 0 then (latE l, n + 1) else goL (Yt f) l.parts (n + 1) := rfl
   have hg : ∀ (ps : List Lat) (n : Nat), n ≤ 64 → (goL (Yt f) ps n).2 ≤ 64 := by
    intro ps
    induction ps with
    | nil => intro n h; exact h
    | cons p t ht =>
      intro n h
      rw [goL]
      split
      · exact ih p n h
      · exact ht _ (ih p n h)
   rw [hv]
   split
   · exact h
   · split
     · show n + 1 ≤ 64; omega
     · split
       · show n + 1 ≤ 64; omega
       · exact hg _ _ (by omega)
inductive WfL : Lat → Prop
 | mk (l : Lat) (h1 : W4 l = false) (h2 : latE l = 0) (h3 : ∀ p ∈ l.parts, WfL p) : WfL l
theorem WfL.shape {l : Lat} (h : WfL l) : W4 l = false := by cases h; assumption
theorem WfL.check {l : Lat} (h : WfL l) : latE l = 0 := by cases h; assumption
theorem WfL.part {l p : Lat} (h : WfL l) (hp : p ∈ l.parts) : WfL p := by cases h; rename_i h; exact h p hp
theorem Yk3 (g : Lat → Nat → Int × Nat) : ∀ (ps : List Lat) (n : Nat), (goL g ps n).1 = 0 → ∀ p ∈ ps, ∃ m, (g p m).1 = 0
 | [], _, _, p, hp => by simp at hp
 | q :: t, n, h, p, hp => by
   unfold goL at h
   by_cases h0 : (g q n).1 = 0
   · rw [if_neg (fun h => h h0)] at h
     rcases List.mem_cons.1 hp with rfl | hp
     · exact ⟨n, h0⟩
     · exact Yk3 g t _ h p hp
   · rw [if_pos h0] at h; exact absurd h h0
theorem Yg3 : ∀ (f : Nat) (l : Lat) (n : Nat), (Yt f l n).1 = 0 → WfL l
 | 0, l, n, h => by unfold Yt at h; exact absurd (show (6 : Int) = 0 from h) (by decide)
 | f + 1, l, n, h => by
   have e : Yt (f + 1) l n = if 64 ≤ n then (6, n) else if W4 l then (1, n + 1) else if latE l ≠ 0 then (latE l, n + 1) else goL (Yt f) l.parts (n + 1) := by cases l; rfl
   rw [e] at h
   by_cases h1 : 64 ≤ n
   · rw [if_pos h1] at h; exact absurd (show (6 : Int) = 0 from h) (by decide)
   rw [if_neg h1] at h
   cases h2 : W4 l
   · rw [if_neg (by rw [h2]; exact Zc)] at h
     by_cases h3 : latE l = 0
     · rw [if_neg (fun h => h h3)] at h
       exact .mk l h2 h3 fun p hp => by
         obtain ⟨m, hm⟩ := Yk3 _ _ _ h p hp
         exact Yg3 f p m hm
     · rw [if_pos h3] at h; exact absurd h h3
   · rw [if_pos h2] at h; exact absurd (show (1 : Int) = 0 from h) (by decide)
theorem Zf4 {l : Lat} (h : chkE l = 0) : WfL l := Yg3 6 l 0 h
theorem Zm9 {a b c d : Int} (h : orI [a, b, c, d] = 0) : a = 0 ∧ b = 0 ∧ c = 0 ∧ d = 0 := by
 unfold orI at h
 by_cases ha : a = 0
 · rw [if_pos ha] at h; unfold orI at h
   by_cases hb : b = 0
   · rw [if_pos hb] at h; unfold orI at h
     by_cases hc : c = 0
     · rw [if_pos hc] at h; unfold orI at h
       by_cases hd : d = 0
       · exact ⟨ha, hb, hc, hd⟩
       · rw [if_neg hd] at h; exact absurd h hd
     · rw [if_neg hc] at h; exact absurd h hc
   · rw [if_neg hb] at h; exact absurd h hb
 · rw [if_neg ha] at h; exact absurd h ha
theorem Zf8 {b : Bool} {e : Int} (he : e ≠ 0) (h : U8 b e = 0) : b = false := by
 cases b
 · rfl
 · exact absurd h he
theorem WfL.limits {l : Lat} (h : WfL l) : Jj l = false := Zf8 (by decide) (Zm9 h.check).1
theorem WfL.spell {l : Lat} (h : WfL l) : Zd5 l = false := Zf8 (by decide) (Zm9 h.check).2.1
theorem WfL.ranges {l : Lat} (h : WfL l) : Zd9 l = false := Zf8 (by decide) (Zm9 h.check).2.2.1
theorem WfL.kinds {l : Lat} (h : WfL l) : (1 ≤ l.kind ∧ l.kind ≤ 10) ∧ (l.kind = 5 → l.parts.length = 1) ∧ (l.kind = 7 → l.parts.length = 2) ∧ (l.kind = 6 → l.parts.length = l.names.length ∧ 1 ≤ l.names.length ∧ l.names.length ≤ 8) ∧
 (l.kind ≠ 5 → l.kind ≠ 6 → l.kind ≠ 7 → l.parts.length = 0) ∧ (l.kind ≠ 2 → l.kind ≠ 3 → l.lo = 0 ∧ l.hi = 0) ∧ (l.kind ≠ 10 → l.rules.length = 0) ∧ l.names.length ≤ 32 ∧ l.rules.length ≤ 32 ∧ (l.kind = 10 → 1 ≤ l.names.length ∧ l.names.length ≤ 12) ∧
 (l.kind = 1 ∨ l.kind = 2 ∨ l.kind = 3 ∨ l.kind = 7 ∨ l.kind = 9 → l.names.length = 0) := by
 have h1 := h.shape
 have h2 : ¬ (Zx1 l.kind < l.names.length ∨ 32 < l.rules.length) := of_decide_eq_false h.limits
 have hA : l.kind = 6 → l.names.length ≤ 8 := fun e => by unfold Zx1 at h2; rw [if_pos e] at h2; omega
 have hB : l.kind = 10 → l.names.length ≤ 12 := fun e => by unfold Zx1 at h2; rw [if_neg (by omega), if_pos e] at h2; omega
 have hC : l.names.length ≤ 32 := by
  unfold Zx1 at h2
  by_cases e : l.kind = 6
  · have := hA e; omega
  · by_cases e' : l.kind = 10
    · have := hB e'; omega
    · rw [if_neg e, if_neg e'] at h2; omega
 have hD : l.rules.length ≤ 32 := by omega
 unfold W4 Jo at h1
 rcases shape_kinds l.kind l.names.length with ⟨hk, hx⟩ | ⟨hk, hx⟩ | ⟨hk, hx⟩ | ⟨hk, hx⟩ | ⟨hk, hx⟩ | ⟨hk, hx⟩ | ⟨hk, hx⟩ | ⟨hk, hx⟩
 all_goals
  rw [hk] at h1
  simp only [Bool.or_eq_false_iff, Bool.and_eq_false_iff, decide_eq_false_iff_not, Zp, Zi, Zo, Bool.false_and, reduceCtorEq, false_or, true_or, Decidable.not_not, Bool.true_eq_false, and_true, true_and] at h1
 all_goals omega
end
section
def strX (s : ByteArray) : List D := [.v (.string s)]
def Zp4 (r : Rl) : List D := [.sl 1 (r.cond.map strX), .v (.string r.concl)]
def tkX (t : Tk) : List D := [.v (.int .i64 t.process), .v (.int .i64 t.n)]
def enX (e : En) : List D := [.sl 2 (e.clock.map tkX), .v (.string e.name)]
mutual
def latX : Lat → List D
 | .mk k lo hi ns ps rs => [.v (.int .i64 k), .v (.int .i64 lo), .v (.int .i64 hi), .sl 1 (ns.map strX), .sl 6 (latXs ps), .sl 2 (rs.map Zp4)]
def latXs : List Lat → List (List D)
 | [] => []
 | p :: t => latX p :: latXs t
end
mutual
def vaX : Val → List D
 | .mk m ns ps es => [.v (.int .i64 m), .sl 1 (ns.map strX), .sl 4 (vaXs ps), .sl 2 (es.map enX)]
def vaXs : List Val → List (List D)
 | [] => []
 | p :: t => vaX p :: vaXs t
end
theorem latXs_map : ∀ l : List Lat, latXs l = l.map latX
 | [] => by rw [latXs]; rfl
 | p :: t => by rw [latXs, latXs_map t]; rfl
theorem vaXs_map : ∀ l : List Val, vaXs l = l.map vaX
 | [] => by rw [vaXs]; rfl
 | p :: t => by rw [vaXs, vaXs_map t]; rfl
theorem Y4 (l : Lat) : latX l = [.v (.int .i64 l.kind), .v (.int .i64 l.lo), .v (.int .i64 l.hi), .sl 1 (l.names.map strX), .sl 6 (l.parts.map latX), .sl 2 (l.rules.map Zp4)] := by
 cases l; rw [latX, latXs_map]; rfl
theorem Y6 (v : Val) : vaX v = [.v (.int .i64 v.n), .sl 1 (v.names.map strX), .sl 4 (v.parts.map vaX), .sl 2 (v.entries.map enX)] := by
 cases v; rw [vaX, vaXs_map]; rfl
theorem Zo0 (l : Lat) : (latX l).length = 6 := by rw [Y4]; rfl
theorem Wa (l : Val) : (vaX l).length = 4 := by rw [Y6]; rfl
theorem Zx6 (l : Lat) : (latX l).take 6 = latX l := List.take_of_length_le (by rw [Zo0]; omega)
theorem J2 (l : Val) : (vaX l).take 4 = vaX l := List.take_of_length_le (by rw [Wa]; omega)
/-! What is read names no memory of a call's own. -/
section
variable (m : Nat)
theorem Vk {α : Type} {f : α → List D} {k : Nat} (l : List α) (q : ∀ x ∈ l, lowL m (f x)) : low m (.sl k (l.map f)) := by
 rw [low, Zn4]
 intro row hr
 obtain ⟨b, hb, rfl⟩ := List.mem_map.1 hr
 exact q b hb
theorem Xq (l : List ByteArray) : low m (.sl 1 (l.map strX)) := Vk m l fun _ _ => by simp [strX, lowL, low]
theorem Zx5 (l : List Rl) : low m (.sl 2 (l.map Zp4)) := Vk m l fun r _ => by rw [Zp4, lowL, lowL, lowL, low]; exact ⟨Xq m _, trivial, trivial⟩
theorem low_ens (l : List En) : low m (.sl 2 (l.map enX)) := Vk m l fun r _ => by
 rw [enX, lowL, lowL, lowL, low]
 exact ⟨Vk m _ fun t _ => by simp [tkX, lowL, low], trivial, trivial⟩
mutual
theorem Yy : ∀ l : Lat, lowL m (latX l)
 | .mk k lo hi ns ps rs => by
  rw [latX]; simp only [lowL]
  exact ⟨by rw [low]; trivial, by rw [low]; trivial, by rw [low]; trivial, Xq m ns, by rw [low]; exact low_lats ps, Zx5 m rs, trivial⟩
theorem low_lats : ∀ l : List Lat, lowR m (latXs l)
 | [] => by rw [latXs, lowR]; trivial
 | p :: t => by rw [latXs, lowR]; exact ⟨Yy p, low_lats t⟩
end
mutual
theorem Ys : ∀ l : Val, lowL m (vaX l)
 | .mk n ns ps es => by
  rw [vaX]; simp only [lowL]
  exact ⟨by rw [low]; trivial, Xq m ns, by rw [low]; exact low_vals ps, low_ens m es, trivial⟩
theorem low_vals : ∀ l : List Val, lowR m (vaXs l)
 | [] => by rw [vaXs, lowR]; trivial
 | p :: t => by rw [vaXs, lowR]; exact ⟨Ys p, low_vals t⟩
end
end
theorem Vz {P : Program} {t : TypeId} {κ : IntKind} {K : D → Prop} {s : ByteArray} {k : Nat} {m : Int} {b : UInt8} (h1 : strT P t = true) (hb : s.data[k]? = some b) (hm : m = (k : Int)) (q : K (.v (.int .u8 b.toNat))) : indA P t (.v (.string s)) (.v (.int κ m)) K := by
 have hk : k < s.size := (Array.getElem?_eq_some_iff.1 hb).1
 subst hm
 refine ind_str h1 (by omega) (by omega) fun c hc => ?_
 rw [Int.toNat_natCast, hb] at hc
 cases hc
 exact q
end
section
structure Two (q a b : Prop) : Prop where
 y : q → a
 n : ¬ q → b
structure Evry {α : Type} (q p : α → Prop) : Prop where
 y : ∀ a, q a → p a
theorem F : True := trivial
section
variable {K : List Ob → D → Prop} {h : List Ob} {q A B : Prop}
theorem kB [Decidable q] (h1 : A → K h (.v (.bool true))) (h0 : B → K h (.v (.bool false))) (k : Two q A B) : K h (.v (.bool (decide q))) := X1 (fun hq => h1 (k.y hq)) fun hq => h0 (k.n hq)
theorem kN [Decidable q] (h1 : A → K h (.v (.bool false))) (h0 : B → K h (.v (.bool true))) (k : Two q A B) : K h (.v (.bool (!decide q))) := Zh4 (fun hq => h1 (k.y hq)) fun hq => h0 (k.n hq)
theorem kE {α : Type} {f : α → List D} {l : List α} {i : Nat} {K : List D → Prop} {A : α → Prop} (h : ∀ a, A a → K (f a)) (k : Evry (fun a => l[i]? = some a) A) : ∀ row, (l.map f)[i]? = some row → K row := fun row hr => by
 obtain ⟨x, hx, rfl⟩ := Vt hr
 exact h x (k.y x hx)
end
theorem gg {p X : Prop} (k : p) (H : p → X := by
  intro k
  with_reducible first
   | exact sA rfl k
   | exact sI rfl rfl k
   | exact sT rfl k
   | exact sB rfl k
   | (refine Y7 ?_
      first
       | exact Xi k
       | (first | refine ao1 rfl rfl fun K HK => ?_ | refine ao1' rfl fun K HK => ?_
          first | refine Yo rfl ?_ | skip
          simp only [go_sem, ↓reduceIte, Nat.reduceEqDiff, Nat.reduceAdd, Nat.reduceLeDiff, Nat.reduceBEq, Nat.reduceMul, Int.reduceEq, Int.reduceLT, Int.reduceLE, F]
          first
           | exact kB (HK _ _) (HK _ _) k
           | exact kN (HK _ _) (HK _ _) k
           | exact ⟨by omega, by omega, Yn (by assumption) (HK _ _ k)⟩
           | exact ⟨by omega, by omega, kE (fun _ => HK _ _) k⟩
           | exact ⟨by omega, Yn (by assumption) (HK _ _ k)⟩
           | exact Zr3 (by simp only [go_sem, ↓reduceIte, Nat.reduceEqDiff, Nat.reduceAdd, F]) rfl rfl (by first | omega | simp) (by first | omega | simp) (by simp only [go_sem, ↓reduceIte, Nat.reduceEqDiff, Nat.reduceAdd, F]; omega) (HK _ _ k)
           | exact HK _ _ k)
       | exact ao0 rfl rfl k
       | exact ao0' rfl k)
   | (refine Xf ?_
      first
       | exact aq_nil k
       | (refine aq1 rfl rfl fun K HK => ?_
          first | refine Yo rfl ?_ | skip
          simp only [go_sem, ↓reduceIte, Nat.reduceEqDiff, Nat.reduceAdd, Nat.reduceLeDiff, Nat.reduceBEq, Nat.reduceMul, Int.reduceEq, Int.reduceLT, Int.reduceLE, F]
          first
           | exact kB (HK _ _ rfl) (HK _ _ rfl) k
           | exact kN (HK _ _ rfl) (HK _ _ rfl) k
           | exact ⟨by omega, by omega, Yn (by assumption) (HK _ _ rfl k)⟩
           | exact ⟨by omega, by omega, kE (fun _ => HK _ _ rfl) k⟩
           | exact ⟨by omega, Yn (by assumption) (HK _ _ rfl k)⟩
           | exact Zr3 (by simp only [go_sem, ↓reduceIte, Nat.reduceEqDiff, Nat.reduceAdd, F]) rfl rfl (by first | omega | simp) (by first | omega | simp) (by simp only [go_sem, ↓reduceIte, Nat.reduceEqDiff, Nat.reduceAdd, F]; omega) (HK _ _ rfl k)
           | exact HK _ _ rfl k)
       | exact aq0 rfl rfl k)
   | fail) : X := H k
theorem g0 {p X : Prop} (k : p) (H : p → X := by
  intro k
  with_reducible first
   | exact sA rfl k
   | exact sI rfl rfl k
   | exact sT rfl k
   | exact sB rfl k
   | (refine Y7 ?_
      first
       | exact Xi k
       | (first | refine ao1 rfl rfl fun K HK => ?_ | refine ao1' rfl fun K HK => ?_
          first | refine Yo rfl ?_ | skip
          simp only [go_sem, ↓reduceIte, Nat.reduceEqDiff, Nat.reduceAdd, Nat.reduceLeDiff, Nat.reduceBEq, Nat.reduceMul, Int.reduceEq, Int.reduceLT, Int.reduceLE, F]
          first
           | exact ⟨by omega, by omega, Yn (by assumption) (HK _ _ k)⟩
           | exact ⟨by omega, by omega, kE (fun _ => HK _ _) k⟩
           | exact ⟨by omega, Yn (by assumption) (HK _ _ k)⟩
           | exact Zr3 (by simp only [go_sem, ↓reduceIte, Nat.reduceEqDiff, Nat.reduceAdd, F]) rfl rfl (by first | omega | simp) (by first | omega | simp) (by simp only [go_sem, ↓reduceIte, Nat.reduceEqDiff, Nat.reduceAdd, F]; omega) (HK _ _ k)
           | exact HK _ _ k)
       | exact ao0 rfl rfl k
       | exact ao0' rfl k)
   | (refine Xf ?_
      first
       | exact aq_nil k
       | (refine aq1 rfl rfl fun K HK => ?_
          first | refine Yo rfl ?_ | skip
          simp only [go_sem, ↓reduceIte, Nat.reduceEqDiff, Nat.reduceAdd, Nat.reduceLeDiff, Nat.reduceBEq, Nat.reduceMul, Int.reduceEq, Int.reduceLT, Int.reduceLE, F]
          first
           | exact ⟨by omega, by omega, Yn (by assumption) (HK _ _ rfl k)⟩
           | exact ⟨by omega, by omega, kE (fun _ => HK _ _ rfl) k⟩
           | exact ⟨by omega, Yn (by assumption) (HK _ _ rfl k)⟩
           | exact Zr3 (by simp only [go_sem, ↓reduceIte, Nat.reduceEqDiff, Nat.reduceAdd, F]) rfl rfl (by first | omega | simp) (by first | omega | simp) (by simp only [go_sem, ↓reduceIte, Nat.reduceEqDiff, Nat.reduceAdd, F]; omega) (HK _ _ rfl k)
           | exact HK _ _ rfl k)
       | exact aq0 rfl rfl k)
   | fail) : X := H k
section
variable {P : Program} {G : Nat → D} {n : Nat} {e : Nat → D} {h : List Ob} {ops : Array Oper} {rest : List Oper} {Q : S → Prop} {t : Nat} {ty : TypeId} {pos : String} {aft : Array Edge} {gd : Option (Nat × Bool)} {x : Operand} {args : Array Operand} {tys : Array TypeId} {f : FuncId} {cap : List D} {h' : List Ob} {d : D}
theorem gc (hw : Yc ops gd e = some true) (ht : decide (t < n) = true) (hx : ev G e x = .fn f cap) (he : entB P f = true) (hc : Does P G f h (args.toList.map (ev G e) ++ cap) (fun h1 r => h1 = h' ∧ r = d)) (k : ao P G ops rest Q ⟨n, upd e t d, h'⟩) : ao P G ops (⟨some t, .call ⟨.value x, args, tys⟩, ty, pos, aft, gd⟩ :: rest) Q ⟨n, e, h⟩ := ao2 hw ht hx he hc (by rintro _ _ ⟨rfl, rfl⟩; exact k)
end
end
section
attribute [local irreducible] on aOp
attribute [local go_sem] decide_true decide_false Zp Zi
attribute [local simp] byD_len
theorem U9 (s : ByteArray) : strX s = [.v (.string s)] := rfl
theorem Yk4 {s : ByteArray} {k : Nat} {b : UInt8} (h : s.data[k]? = some b) : s.data.toList.drop k = b :: s.data.toList.drop (k + 1) := by
 have h2 : s.data.toList[k]? = some b := by rw [Array.getElem?_toList]; exact h
 obtain ⟨hl, rfl⟩ := List.getElem?_eq_some_iff.1 h2
 exact Z8 hl
theorem Zy5 {s : ByteArray} {b : UInt8} (h : s.data[0]? = some b) : s.data.toList.getD 0 0 = b := by
 have h2 : s.data.toList[0]? = some b := by rw [Array.getElem?_toList]; exact h
 rw [List.getD_eq_getElem?_getD, h2]; rfl
def nameR (s : ByteArray) : Prop := (1 ≤ s.size ∧ s.size ≤ 16) ∧ 97 ≤ (s.data.toList.getD 0 0).toNat ∧ (s.data.toList.getD 0 0).toNat ≤ 122
theorem Zg8 {s : ByteArray} (h : ¬ nameR s) : Xz s = false := by
 unfold nameR at h; unfold Xz
 by_cases h1 : 1 ≤ s.size ∧ s.size ≤ 16
 · rw [decide_eq_false (p := (97 : Int) ≤ _ ∧ _) (by omega)]; simp
 · rw [decide_eq_false h1]; rfl
theorem Zx0 {s : ByteArray} (h : nameR s) : Xz s = s.data.toList.all fun c => Zk9 c.toNat := by
 unfold nameR at h; unfold Xz
 rw [decide_eq_true h.1, decide_eq_true (p := (97 : Int) ≤ _ ∧ _) (by omega)]; rfl
variable (G : Nat → D) (hG : ∀ g, low 0 (G g))
include hG
attribute [local go_sem] Z2 Zd Zf Ze Int.toNat_natCast List.length_map Z3 Za Z1 Z7 Zb U9
attribute [local go_sem ↓] reduceIte
theorem rName_d (s : ByteArray) (hs : s.size ≤ 9223372036854775807) (h : List Ob) : Does Zn G 235 h [.v (.string s)] (fun h' r => h' = h ∧ r = .v (.bool (Xz s))) := by
 refine Y5 Tryz.func235 rfl (Z5 rfl) hG fun hl0 _ => ?_
 simp only [Tryz.ntmps235]
 by_cases hsz : 1 ≤ s.size ∧ s.size ≤ 16
 rotate_left
 · have e1 := Zg8 (s := s) (fun h => hsz h.1)
   repeat' first
    | refine gg ?_
    | refine Two.mk (fun hq => ?_) fun hq => ?_
    | (exfalso; omega)
   all_goals exact ⟨.inr rfl, endD (r := .v (.bool false)) hl0 rfl (by simp) (by simp) rfl (by rw [low]; trivial) ⟨rfl, by rw [e1]⟩⟩
 obtain ⟨b0, hb0⟩ : ∃ b, s.data[0]? = some b := ⟨s.data[0]'(by show 0 < s.size; omega), Zk _⟩
 have g0 := Zy5 hb0
 by_cases hb : 97 ≤ b0.toNat ∧ b0.toNat ≤ 122
 rotate_left
 · have e1 := Zg8 (s := s) (fun h => hb (by rw [← g0]; exact h.2))
   repeat' first
    | (with_reducible refine Y7 ?_; (refine ao1 rfl rfl fun K HK => ?_; simp only [go_sem]; refine Vz (by simp only [go_sem]) hb0 (by first | rfl | omega) ?_; refine HK _ _ ?_; clear HK K))
    | refine gg ?_
    | refine Two.mk (fun hq => ?_) fun hq => ?_
    | (exfalso; omega)
   all_goals first | (exfalso; omega) | exact ⟨.inr rfl, endD (r := .v (.bool false)) hl0 rfl (by simp) (by simp) rfl (by rw [low]; trivial) ⟨rfl, by rw [e1]⟩⟩
 have e1 := Zx0 (s := s) ⟨hsz, by rw [g0]; exact hb⟩
 repeat' first
  | (with_reducible refine Y7 ?_; (refine ao1 rfl rfl fun K HK => ?_; simp only [go_sem]; refine Vz (by simp only [go_sem]) hb0 (by first | rfl | omega) ?_; refine HK _ _ ?_; clear HK K))
  | refine gg ?_
  | refine Two.mk (fun hq => ?_) fun hq => ?_
  | (exfalso; omega)
 all_goals try (exfalso; omega)
 refine Yh (fun m e h' => ∃ k : Nat, k ≤ s.size ∧ m = s.size - k ∧ Xz s = (s.data.toList.drop k).all (fun c => Zk9 c.toNat) ∧ h' = h ∧ e 0 = .v (.string s) ∧ e 3 = .v (.int .i64 k)) s.size ⟨0, Zm _, rfl, e1, rfl, rfl, rfl⟩ ?_
 rintro m e h' ⟨k, hk, rfl, ho, rfl, e0, e3⟩
 by_cases hlt : k < s.size
 · obtain ⟨c, hc⟩ : ∃ b, s.data[k]? = some b := ⟨s.data[k]'hlt, Zk _⟩
   have wk : IntKind.i64.wrap ((k : Int) + 1) = (k : Int) + 1 := IntWalk.i64_in _ (by omega)
   rw [Yk4 hc, Z9] at ho
   have F : _ ∧ _ ∧ _ := ⟨e0, e3, wk⟩
   repeat' first
    | (with_reducible refine Y7 ?_; (refine ao1 rfl rfl fun K HK => ?_; simp only [go_sem, F]; refine Vz (by simp only [go_sem, F]) hc (by first | rfl | omega) ?_; refine HK _ _ ?_; clear HK K))
    | refine gg ?_
    | refine Two.mk (fun hq => ?_) fun hq => ?_
    | (exfalso; omega)
   all_goals first
   | exact ⟨rfl, s.size - (k + 1), by omega, k + 1, hlt, rfl, by rw [ho, show Zk9 c.toNat = true from decide_eq_true (by omega)]; rfl, rfl, e0, rfl⟩
   | exact ⟨.inr rfl, endD (r := .v (.bool false)) hl0 rfl (by simp) (by simp) rfl (by rw [low]; trivial) ⟨rfl, by rw [ho, show Zk9 c.toNat = false from decide_eq_false (by omega)]; rfl⟩⟩
 · skip
   have F : _ ∧ _ := ⟨e0, e3⟩
   repeat' first
    | refine gg ?_
    | refine Two.mk (fun hq => ?_) fun hq => ?_
    | (exfalso; omega)
   exact ⟨.inr rfl, endD (r := .v (.bool true)) hl0 rfl (by simp) (by simp) rfl (by rw [low]; trivial) ⟨rfl, by rw [ho, Z4 (by show s.data.toList.length ≤ k; rw [Array.length_toList]; show s.size ≤ k; omega)]; rfl⟩⟩
theorem rIn_d (l : List ByteArray) (a : ByteArray) (hl : l.length ≤ 9223372036854775807) (h : List Ob) : Does Zn G 236 h [.sl 1 (l.map strX), .v (.string a)] (fun h' r => h' = h ∧ r = .v (.bool (hasS l a))) := by
 refine Y5 Tryz.func236 rfl (Z5 rfl) hG fun hl0 _ => ?_
 simp only [Tryz.ntmps236]
 repeat' first
  | refine g0 ?_
  | fail
 refine Yh (fun m e h' => ∃ k : Nat, k ≤ l.length ∧ m = l.length - k ∧ hasS l a = hasS (l.drop k) a ∧ h' = h ∧ e 0 = .sl 1 (l.map strX) ∧ e 1 = .v (.string a) ∧ e 5 = .v (.int .i64 k)) l.length ⟨0, Zm _, rfl, rfl, rfl, rfl, rfl, rfl⟩ ?_
 rintro m e h' ⟨k, hk, rfl, ho, rfl, e0, e1, e5⟩
 by_cases hlt : k < l.length
 · have hx : l[k]? = some l[k] := Z6 hlt
   have hd : l.drop k = l[k] :: l.drop (k + 1) := Z8 hlt
   generalize l[k] = x at hx hd
   have wk : IntKind.i64.wrap ((k : Int) + 1) = (k : Int) + 1 := IntWalk.i64_in _ (by omega)
   rw [hd, hasS] at ho
   have F : _ ∧ _ ∧ _ ∧ _ := ⟨e0, e1, e5, wk⟩
   repeat' first
    | refine gg ?_
    | refine Two.mk (fun hq => ?_) fun hq => ?_
    | (exfalso; omega)
   · exact ⟨.inr rfl, endV hl0 rfl rfl ⟨rfl, by rw [ho, decide_eq_true hq]; rfl⟩⟩
   · exact ⟨rfl, l.length - (k + 1), by omega, k + 1, hlt, rfl, by rw [ho, decide_eq_false hq]; rfl, rfl, e0, e1, rfl⟩
 · skip
   have F : _ ∧ _ ∧ _ := ⟨e0, e1, e5⟩
   repeat' first
    | refine gg ?_
    | refine Two.mk (fun hq => ?_) fun hq => ?_
    | refine Evry.mk fun x hx => ?_
    | (exfalso; omega)
   exact ⟨by simp, endV hl0 rfl rfl ⟨rfl, by rw [ho, Z4 (by omega)]; rfl⟩⟩
theorem rRising_d (l : List ByteArray) (hl : l.length ≤ 9223372036854775807) (hs : ∀ s ∈ l, s.size ≤ 9223372036854775807) (h : List Ob) : Does Zn G 237 h [.sl 1 (l.map strX)] (fun h' r => h' = h ∧ r = .v (.bool (Za9 l))) := by
 rw [← rising_zero]
 refine Y5 Tryz.func237 rfl (Z5 rfl) hG fun hl0 _ => ?_
 simp only [Tryz.ntmps237]
 repeat' first
  | refine g0 ?_
  | fail
 refine Yh (fun m e h' => ∃ k : Nat, k ≤ l.length ∧ m = l.length - k ∧ Xy l 0 = Xy l k ∧ h' = h ∧ e 0 = .sl 1 (l.map strX) ∧ e 3 = .v (.int .i64 k)) l.length ⟨0, Zm _, rfl, rfl, rfl, rfl, rfl⟩ ?_
 rintro m e h' ⟨k, hk, rfl, ho, rfl, e0, e3⟩
 by_cases hlt : k < l.length
 · have hx : l[k]? = some l[k] := Z6 hlt
   have hn := rName_d G hG l[k] (hs _ (List.getElem_mem hlt))
   have wk : IntKind.i64.wrap ((k : Int) + 1) = (k : Int) + 1 := IntWalk.i64_in _ (by omega)
   generalize hnb : Xz l[k] = nb at hn
   rcases Nat.eq_zero_or_pos k with h0 | h0
   · subst h0
     have ho := rising_step0 l hlt
     rw [hnb] at ho
     generalize l[0] = x at hx hn
     cases nb
     · skip
       have F : _ ∧ _ := ⟨e0, e3⟩
       repeat' first
        | (with_reducible refine Yf ?_; refine Y9 mixd (by kernel_rfl) ?_)
        | refine gg ?_
        | refine Two.mk (fun hq => ?_) fun hq => ?_
        | (with_reducible refine Xf ?_; refine aq2 rfl rfl rfl Ze8 (hn _) ?_)
        | (exfalso; omega)
       exact ⟨.inr rfl, endD (r := .v (.bool false)) hl0 rfl (by simp) (by simp) rfl (by rw [low]; trivial) ⟨rfl, by rw [ho]; rfl⟩⟩
     · skip
       have F : _ ∧ _ := ⟨e0, e3⟩
       repeat' first
        | (with_reducible refine Yf ?_; refine Y9 mixd (by kernel_rfl) ?_)
        | refine gg ?_
        | refine Two.mk (fun hq => ?_) fun hq => ?_
        | refine Evry.mk fun x hx => ?_
        | (with_reducible refine Xf ?_; refine aq2 rfl rfl rfl Ze8 (hn _) ?_)
        | (exfalso; omega)
       exact ⟨rfl, l.length - 1, by omega, 1, hlt, rfl, by rw [ho]; rfl, rfl, e0, rfl⟩
   · obtain ⟨j, rfl⟩ : ∃ j, k = j + 1 := ⟨k - 1, by omega⟩
     have hy : l[j]? = some l[j] := Z6 (by omega)
     rw [rising_step l j hlt, hnb] at ho
     generalize l[j + 1] = x at hx hn ho
     generalize l[j] = y at hy ho
     have wm : IntKind.i64.wrap (((j + 1 : Nat) : Int) - 1) = (j : Int) := by rw [show ((j + 1 : Nat) : Int) - 1 = (j : Int) by omega]; exact IntWalk.i64_in _ (by omega)
     have gp : decide ((0 : Int) < ((j + 1 : Nat) : Int)) = true := decide_eq_true (by omega)
     unfold Ue at ho
     cases nb
     · skip
       have F : _ ∧ _ ∧ _ ∧ _ ∧ _ := ⟨e0, e3, wk, wm, gp⟩
       repeat' first
        | (with_reducible refine Yf ?_; refine Y9 mixd (by kernel_rfl) ?_)
        | refine gg ?_
        | refine Two.mk (fun hq => ?_) fun hq => ?_
        | (with_reducible refine Xf ?_; refine aq2 rfl rfl rfl Ze8 (hn _) ?_)
        | (exfalso; omega)
       exact ⟨.inr rfl, endD (r := .v (.bool false)) hl0 rfl (by simp) (by simp) rfl (by rw [low]; trivial) ⟨rfl, by rw [ho]; rfl⟩⟩
     · cases hlt2 : Op.bytesLess y.toList x.toList
       · skip
         have F : _ ∧ _ ∧ _ ∧ _ ∧ _ ∧ _ := ⟨e0, e3, wk, wm, gp, hlt2⟩
         repeat' first
          | (with_reducible refine Yf ?_; refine Y9 mixd (by kernel_rfl) ?_)
          | refine gg ?_
          | refine Two.mk (fun hq => ?_) fun hq => ?_
          | (with_reducible refine Xf ?_; refine aq2 rfl rfl rfl Ze8 (hn _) ?_)
          | (exfalso; omega)
         exact ⟨.inr rfl, endD (r := .v (.bool false)) hl0 rfl (by simp) (by simp) rfl (by rw [low]; trivial) ⟨rfl, by rw [ho, hlt2]; rfl⟩⟩
       · skip
         have F : _ ∧ _ ∧ _ ∧ _ ∧ _ ∧ _ := ⟨e0, e3, wk, wm, gp, hlt2⟩
         repeat' first
          | (with_reducible refine Yf ?_; refine Y9 mixd (by kernel_rfl) ?_)
          | refine gg ?_
          | refine Two.mk (fun hq => ?_) fun hq => ?_
          | (with_reducible refine Xf ?_; refine aq2 rfl rfl rfl Ze8 (hn _) ?_)
          | (exfalso; omega)
         exact ⟨rfl, l.length - (j + 2), by omega, j + 2, by omega, rfl, by rw [ho, hlt2]; rfl, rfl, e0, rfl⟩
 · skip
   have F : _ ∧ _ := ⟨e0, e3⟩
   repeat' first
    | (with_reducible refine Yf ?_; refine Y9 mixd (by kernel_rfl) ?_)
    | refine gg ?_
    | refine Two.mk (fun hq => ?_) fun hq => ?_
    | refine Evry.mk fun x hx => ?_
    | (exfalso; omega)
   exact ⟨by simp, endV hl0 rfl rfl ⟨rfl, by rw [ho, rising_end l k (by omega)]⟩⟩
end
section
attribute [local irreducible] on aOp
attribute [local go_sem] decide_true decide_false Zp Zi
attribute [local simp] byD_len
inductive Sm : Lat → Prop
 | mk (l : Lat) (h1 : l.names.length ≤ 9223372036854775807) (h2 : l.parts.length ≤ 9223372036854775807) (h3 : l.rules.length ≤ 9223372036854775807) (h4 : ∀ s ∈ l.names, s.size ≤ 9223372036854775807) (h5 : ∀ r ∈ l.rules, r.cond.length ≤ 9223372036854775807 ∧ ∀ s ∈ r.cond, s.size ≤ 9223372036854775807) (h6 : ∀ p ∈ l.parts, Sm p) : Sm l
theorem Sm.names {l : Lat} (h : Sm l) : l.names.length ≤ 9223372036854775807 := by cases h; assumption
theorem Sm.parts {l : Lat} (h : Sm l) : l.parts.length ≤ 9223372036854775807 := by cases h; assumption
theorem Sm.rules {l : Lat} (h : Sm l) : l.rules.length ≤ 9223372036854775807 := by cases h; assumption
theorem Sm.texts {l : Lat} (h : Sm l) : ∀ s ∈ l.names, s.size ≤ 9223372036854775807 := by cases h; assumption
theorem Sm.conds {l : Lat} (h : Sm l) : ∀ r ∈ l.rules, r.cond.length ≤ 9223372036854775807 ∧ ∀ s ∈ r.cond, s.size ≤ 9223372036854775807 := by cases h; assumption
theorem Sm.part {l : Lat} (h : Sm l) : ∀ p ∈ l.parts, Sm p := by cases h; assumption
theorem Wf (m : Nat) (l : Lat) : lowL m [.agg (latX l)] := by rw [lowL, lowL, low]; exact ⟨Yy m l, trivial⟩
theorem chain_no {l : Lat} (h : ¬ (l.kind = 1 ∨ l.kind = 2 ∨ l.kind = 3)) (h7 : l.kind ≠ 7 ∨ l.parts.length ≠ 2) : Xh l = false := by
 rw [Vo, decide_eq_false h]
 rcases h7 with h7 | h7
 · rw [decide_eq_false h7]; rfl
 · rw [decide_eq_false h7, Bool.and_false]; rfl
theorem chain_two {l a b : Lat} (h : ¬ (l.kind = 1 ∨ l.kind = 2 ∨ l.kind = 3)) (h7 : l.kind = 7) (hp : l.parts = [a, b]) : Xh l = (Xh a && Xh b) := by
 rw [Vo, decide_eq_false h, decide_eq_true h7, hp]; simp
variable (G : Nat → D) (hG : ∀ g, low 0 (G g))
include hG
attribute [local go_sem] Z2 Zd Zf Ze Int.toNat_one Int.toNat_zero List.length_map Z3 Za Z1 Z7 Zb Zo0 Zx6
attribute [local go_sem ↓] reduceIte
theorem rChain_d (n : Nat) : ∀ (l : Lat), SizeOf.sizeOf l ≤ n → Sm l → ∀ (h : List Ob), Does Zn G 198 h [.agg (latX l)] (fun h' r => h' = h ∧ r = .v (.bool (Xh l))) := by
 induction n with
 | zero => intro l hn; cases l; simp at hn
 | succ n ih =>
 intro l hn hsm h
 refine Ya G hG (Wf _ l) (by rw [low]; trivial) ?_ h
 clear h
 have hpl := hsm.parts
 have hpp : ∀ p ∈ l.parts, ∀ (b : Bool), Xh p = b → ∀ (h : List Ob), Does Zn G 198 h [.agg (latX p)] (fun h' r => h' = h ∧ r = .v (.bool b)) := fun p hp b hb h => hb ▸ ih p (by have := Yb hp; omega) (hsm.part p hp) h
 generalize hkk : l.kind = k
 by_cases h123 : k = 1 ∨ k = 2 ∨ k = 3
 · have e1 : Xh l = true := by rw [Vo, hkk, decide_eq_true h123]; rfl
   rw [e1]
   refine Y5 Tryz.func198 rfl (Z5 rfl) hG fun hl0 _ => ?_
   simp only [Tryz.ntmps198]
   have F : _ ∧ _ := ⟨Y4, hkk⟩
   repeat' first
    | refine gg ?_
    | refine Two.mk (fun hq => ?_) fun hq => ?_
    | (exfalso; omega)
   all_goals first | (exfalso; omega) | exact ⟨.inr rfl, endD (r := .v (.bool true)) hl0 rfl (by simp) (by simp) rfl (by rw [low]; trivial) ⟨rfl, rfl⟩⟩
 by_cases h7 : k = 7 ∧ l.parts.length = 2
 rotate_left
 · have e1 : Xh l = false := chain_no (by rw [hkk]; exact h123) (by rw [hkk]; omega)
   rw [e1]
   refine Y5 Tryz.func198 rfl (Z5 rfl) hG fun hl0 _ => ?_
   simp only [Tryz.ntmps198]
   have F : _ ∧ _ := ⟨Y4, hkk⟩
   repeat' first
    | refine gg ?_
    | refine Two.mk (fun hq => ?_) fun hq => ?_
    | (exfalso; omega)
   all_goals first | (exfalso; omega) | exact ⟨.inr rfl, endD (r := .v (.bool false)) hl0 rfl (by simp) (by simp) rfl (by rw [low]; trivial) ⟨rfl, rfl⟩⟩
 obtain ⟨rfl, h2⟩ := h7
 obtain ⟨a, b, hab⟩ : ∃ a b, l.parts = [a, b] := by
  match hm : l.parts, h2 with
  | [a, b], _ => exact ⟨a, b, rfl⟩
 rw [chain_two (by rw [hkk]; exact h123) hkk hab]
 have ha := hpp a (by rw [hab]; simp)
 have hb := hpp b (by rw [hab]; simp)
 have hx0 : l.parts[0]? = some a := by rw [hab]; rfl
 have hx1 : l.parts[1]? = some b := by rw [hab]; rfl
 clear hab
 refine Y5 Tryz.func198 rfl (Z5 rfl) hG fun hl0 _ => ?_
 simp only [Tryz.ntmps198]
 cases hca : Xh a
 · skip
   have F : _ ∧ _ ∧ _ := ⟨Y4 l, hkk, h2⟩
   repeat' first
    | refine gg ?_
    | refine Two.mk (fun hq => ?_) fun hq => ?_
    | (with_reducible refine Y7 ?_; refine gc rfl rfl rfl Yl0 (ha _ hca _) ?_)
    | (exfalso; omega)
   all_goals first | (exfalso; omega) | exact ⟨.inr rfl, endD (r := .v (.bool false)) hl0 rfl (by simp) (by simp) rfl (by rw [low]; trivial) ⟨rfl, by rfl⟩⟩
 · cases hcb : Xh b
   all_goals
    skip
    have F : _ ∧ _ ∧ _ := ⟨Y4 l, hkk, h2⟩
    repeat' first
     | refine gg ?_
     | refine Two.mk (fun hq => ?_) fun hq => ?_
     | (with_reducible refine Y7 ?_; first | refine gc rfl rfl rfl Yl0 (ha _ hca _) ?_ | refine gc rfl rfl rfl Yl0 (hb _ hcb _) ?_)
     | (exfalso; omega)
   all_goals first | (exfalso; omega) | exact ⟨.inr rfl, endV hl0 rfl rfl ⟨rfl, by rfl⟩⟩
end
section
structure RS where
 data : List UInt8
 pos : Nat
 item : Nat
 err : Int
def RS.begun (s : RS) : RS := { s with item := s.pos }
def RS.bad (s : RS) : RS := { s with item := s.pos, err := 2 }
def RS.go (s : RS) (c : Nat) : RS := { s with item := s.pos, pos := s.pos + c }
def RS.num (s : RS) : Option (Nat × Nat) := numF 0 (s.data.drop s.pos)
def Zc7 (s : RS) : Nat × RS := if s.err ≠ 0 then (0, s) else match s.num with
 | none => (0, s.bad)
 | some (n, c) => (n, s.go c)
def rdInt (s : RS) : Int × RS := (unzz (Zc7 s).1, (Zc7 s).2)
def rdBool (s : RS) : Bool × RS := if s.err ≠ 0 then (false, s) else match s.data[s.pos]? with
 | none => (false, s.bad)
 | some b => if 1 < b.toNat then (false, s.bad) else (decide (b.toNat = 1), s.go 1)
def rdBytes (s : RS) : List UInt8 × RS := if s.err ≠ 0 then ([], s) else match s.num with
 | none => ([], s.bad)
 | some (n, c) => if s.data.length - (s.pos + c) < n then ([], s.bad) else ((s.data.drop (s.pos + c)).take n, s.go (c + n))
def Wb (s : RS) : Nat × RS := if s.err ≠ 0 then (0, s) else match s.num with
 | none => (0, s.bad)
 | some (n, c) => if s.data.length - (s.pos + c) < n then (0, s.bad) else (n, s.go c)
def RS.fail (s : RS) : RS := if s.err = 0 then { s with err := 2, pos := s.item } else s
def RS.ends (s : RS) : Int := if s.err = 0 ∧ s.pos < s.data.length then 2 else s.err
structure RS.Ok (s : RS) : Prop where
 pos : s.pos ≤ s.data.length
 item : s.item ≤ s.pos
 err : s.err = 0 ∨ s.err = 2
theorem RS.Ok.bad {s : RS} (h : s.Ok) : s.bad.Ok := ⟨h.pos, Nat.le_refl _, .inr rfl⟩
theorem RS.Ok.go {s : RS} (h : s.Ok) {c : Nat} (hc : s.pos + c ≤ s.data.length) : (s.go c).Ok := ⟨hc, Nat.le_add_right _ _, h.err⟩
theorem RS.Ok.fail {s : RS} (h : s.Ok) : s.fail.Ok := by
 unfold RS.fail
 split
 · exact ⟨Nat.le_trans h.item h.pos, Nat.le_refl _, .inr rfl⟩
 · exact h
/-! What was read is what was written. -/
structure Took (s t : RS) (bs : List UInt8) : Prop where
 data : t.data = s.data
 pos : t.pos = s.pos + bs.length
 err : s.err = 0 ∧ t.err = 0
 read : s.data.drop s.pos = bs ++ t.data.drop t.pos
theorem Took.trans {s t u : RS} {a b : List UInt8} (h : Took s t a) (k : Took t u b) : Took s u (a ++ b) :=
 ⟨k.data.trans h.data, by rw [k.pos, h.pos, List.length_append]; omega, ⟨h.err.1, k.err.2⟩, by rw [h.read, k.read, Zl]⟩
theorem Took.refl {s : RS} (h : s.err = 0) : Took s s [] := ⟨rfl, by simp, ⟨h, h⟩, by simp⟩
/-! What was written is read. -/
end
section
def strOf (l : List UInt8) : ByteArray := ⟨l.toArray⟩
def Zm4 (s : RS) : ByteArray × RS := (strOf (rdBytes s).1, (rdBytes s).2)
def Ud {α : Type} (f : RS → α × RS) : Nat → RS → List α × RS
 | 0, s => ([], s)
 | n + 1, s => if s.err = 0 then ((f s).1 :: (Ud f n (f s).2).1, (Ud f n (f s).2).2) else ([], s)
theorem rdLoop_go {α : Type} (f : RS → α × RS) (n : Nat) (s : RS) (h : s.err = 0) : Ud f (n + 1) s = ((f s).1 :: (Ud f n (f s).2).1, (Ud f n (f s).2).2) := by
 conv => lhs; unfold Ud
 rw [if_pos h]
def LoopAt {α : Type} (R : List α × RS) (f : RS → α × RS) (acc : List α) (k : Nat) (s : RS) : Prop := R = (acc ++ (Ud f k s).1, (Ud f k s).2)
theorem LoopAt.start {α : Type} (f : RS → α × RS) (k : Nat) (s : RS) : LoopAt (Ud f k s) f [] k s := rfl
theorem LoopAt.step {α : Type} {R : List α × RS} {f : RS → α × RS} {acc : List α} {k : Nat} {s : RS} (h : LoopAt R f acc (k + 1) s) (he : s.err = 0) : LoopAt R f (acc ++ [(f s).1]) k (f s).2 := by
 unfold LoopAt at h ⊢
 rw [h, rdLoop_go f k s he, Zl]
 rfl
structure Tks {α : Type} (f : RS → α × RS) (enc : α → List UInt8) : Prop where
 ok : ∀ s, s.Ok → (f s).2.Ok ∧ (f s).2.data = s.data
 took : ∀ s, s.Ok → (f s).2.err = 0 → Took s (f s).2 (enc (f s).1)
def rdList {α : Type} (f : RS → α × RS) (s : RS) : List α × RS := Ud f (Wb s).1 (Wb s).2
def Rds {α : Type} (f : RS → α × RS) (x : α) (bs : List UInt8) : Prop := ∀ (s : RS) (r : List UInt8), s.Ok → s.err = 0 → s.data.length < 18446744073709551616 → s.data.drop s.pos = bs ++ r → ∃ s', f s = (x, s') ∧ s'.Ok ∧ Took s s' bs
theorem took_rest {s t : RS} {bs r : List UInt8} (h : Took s t bs) (hr : s.data.drop s.pos = bs ++ r) : t.data.drop t.pos = r := by
 have := h.read
 rw [hr] at this
 exact (List.append_cancel_left this).symm
theorem took_len {s t : RS} {bs : List UInt8} (h : Took s t bs) : t.data.length = s.data.length := congrArg List.length h.data
theorem Rds.bind {α β γ : Type} {f : RS → α × RS} {x : α} {a : List UInt8} (hf : Rds f x a) {g : RS → β × RS} {y : β} {b : List UInt8} (hg : Rds g y b) {h : RS → γ × RS} {z : γ} (hh : ∀ s s' s'', f s = (x, s') → g s' = (y, s'') → h s = (z, s'')) : Rds h z (a ++ b) := fun s r ho he hl hr => by
  rw [Zl] at hr
  obtain ⟨s', h1, h2, h3⟩ := hf s _ ho he hl hr
  obtain ⟨s'', h4, h5, h6⟩ := hg s' r h2 h3.err.2 (by rw [took_len h3]; exact hl) (took_rest h3 hr)
  exact ⟨s'', hh s s' s'' h1 h4, h5, h3.trans h6⟩
end
section
def strC (s t : ByteArray) : Int := if Ue s t then -1 else if s = t then 0 else 1
def lexC {α : Type} (c : α → α → Int) : List α → List α → Int
 | [], [] => 0
 | [], _ :: _ => -1
 | _ :: _, [] => 1
 | x :: s, y :: t => if c x y ≠ 0 then c x y else lexC c s t
theorem Zn6 {α : Type} (c : α → α → Int) (a b : List α) (k : Nat) (ha : k < a.length) (hb : b.length ≤ k) : lexC c (a.drop k) (b.drop k) = 1 := by
 rw [W9 a k ha, Z4 hb]; rfl
theorem Zn7 {α : Type} (c : α → α → Int) (a b : List α) (k : Nat) (ha : a.length ≤ k) : lexC c (a.drop k) (b.drop k) = if k < b.length then -1 else 0 := by
 rw [Z4 ha]
 by_cases h : k < b.length
 · rw [W9 b k h, if_pos h]; rfl
 · rw [Z4 (by omega), if_neg h]; rfl
def Vf (a b : Tk) : Int := orI [cmpI a.process b.process, cmpI a.n b.n]
def entC (a b : En) : Int := orI [strC a.name b.name, lexC Vf a.clock b.clock]
/-! The order. -/
mutual
def valC : Val → Val → Int
 | .mk n ns ps es, b => if cmpI n b.n ≠ 0 then cmpI n b.n else if lexC strC ns b.names ≠ 0 then lexC strC ns b.names
   else if valsC ps b.parts ≠ 0 then valsC ps b.parts else lexC entC es b.entries
def valsC : List Val → List Val → Int
 | [], [] => 0
 | [], _ :: _ => -1
 | _ :: _, [] => 1
 | x :: s, y :: t => if valC x y ≠ 0 then valC x y else valsC s t
end
theorem valsC_eq : ∀ (a b : List Val), valsC a b = lexC valC a b
 | [], [] => by rw [valsC, lexC]
 | [], _ :: _ => by rw [valsC, lexC]
 | _ :: _, [] => by rw [valsC, lexC]
 | x :: s, y :: t => by rw [valsC, lexC, valsC_eq s t]
theorem valC_eq (a b : Val) : valC a b = if cmpI a.n b.n ≠ 0 then cmpI a.n b.n else if lexC strC a.names b.names ≠ 0 then lexC strC a.names b.names
 else if lexC valC a.parts b.parts ≠ 0 then lexC valC a.parts b.parts else lexC entC a.entries b.entries := by
 cases a with
 | mk n ns ps es => rw [valC, valsC_eq]; rfl
/-! The bottom. -/
def Wx : Val := .mk 0 [] [] []
mutual
def botV : Lat → Val
 | .mk k lo hi _ ps _ => if k = 2 then .mk lo [] [] [] else if k = 3 then .mk hi [] [] [] else if k = 6 ∨ k = 7 then .mk 0 [] (botVs ps) [] else Wx
def botVs : List Lat → List Val
 | [] => []
 | p :: t => botV p :: botVs t
end
theorem Zh2 : ∀ l, botVs l = l.map botV
 | [] => by rw [botVs]; rfl
 | p :: t => by rw [botVs, Zh2 t]; rfl
/-! Elements. -/
def Wz (v : Val) (n list parts entries : Bool) : Bool := (n || decide (v.n = 0)) && (list || decide (v.names.length = 0)) && (parts || decide (v.parts.length = 0)) && (entries || decide (v.entries.length = 0))
def memB (only : List ByteArray) (s : ByteArray) : Bool := Xz s && (decide (only.length = 0) || hasS only s)
def Ye (only list : List ByteArray) : Bool := Xk list && list.all (memB only)
def W0 (rs : List Rl) (list : List ByteArray) : Bool := rs.all fun r => !X8 r.cond list || hasS list r.concl
def Yb5 (last : Int) (t : Tk) : Bool := decide (last < t.process ∧ t.process ≤ 63 ∧ 1 ≤ t.n ∧ t.n ≤ 1000000000000000)
def X3 : Int → List Tk → Bool
 | _, [] => true
 | last, t :: r => Yb5 last t && X3 t.process r
def X9 (c : List Tk) : Bool := X3 (-1) c
def Vc (p k : Int) (r : List Tk) : List Tk := if 0 < k then ⟨p, k⟩ :: r else r
def Xb (ch : Int → Int → Int) : List Tk → List Tk → List Tk
 | [], [] => []
 | x :: a, [] => Vc x.process (ch x.n 0) (Xb ch a [])
 | [], y :: b => Vc y.process (ch 0 y.n) (Xb ch [] b)
 | x :: a, y :: b => if x.process < y.process then Vc x.process (ch x.n 0) (Xb ch a (y :: b)) else if y.process < x.process then Vc y.process (ch 0 y.n) (Xb ch (x :: a) b)
   else Vc x.process (ch x.n y.n) (Xb ch a b)
 termination_by a b => a.length + b.length
def Zj6 (m n : Int) : Int := if n < m then m else 0
def Jc (a b : List Tk) : List Tk := Xb Zj6 a b
def Vn (a b : List Tk) : Int := if !X9 a || !X9 b then 3
 else if (Jc a b).length = 0 ∧ (Jc b a).length = 0 then 0 else if (Jc a b).length = 0 then 1 else if (Jc b a).length = 0 then 2 else 3
def Zh7 (list : List En) (k : Nat) (e : En) : Bool :=
 decide (e.clock.length ≠ 0) && X9 e.clock && Xz e.name && (match list[k - 1]? with
  | some p => decide (k = 0 ∨ entC p e < 0)
  | none => true) && (list.take k).all fun f => !(Vn e.clock f.clock == 1 || Vn e.clock f.clock == 2)
def Zw4 (list : List En) : Nat → List En → Bool
 | _, [] => true
 | k, e :: t => Zh7 list k e && Zw4 list (k + 1) t
def regB (list : List En) : Bool := Zw4 list 0 list
mutual
def Y8 : Lat → Val → Bool
 | .mk k lo hi ns ps rs, v =>
   if k = 1 then Wz v true false false false && decide (v.n = 0 ∨ v.n = 1)
   else if k = 2 ∨ k = 3 then Wz v true false false false && decide (lo ≤ v.n ∧ v.n ≤ hi)
   else if k = 4 then Wz v false true false false && Ye ns v.names
   else if k = 10 then Wz v false true false false && Ye ns v.names && W0 rs v.names
   else if k = 8 then (if v.n = 0 ∨ v.n = 2 then Wz v true false false false else if v.n = 1 then Wz v true true false false && decide (v.names.length = 1) && Ye ns v.names else false)
   else if k = 9 then Wz v false false false true && regB v.entries
   else if k = 5 then Wz v false true true false && decide (v.names.length = v.parts.length) && Ye ns v.names && mapB ps v.parts
   else Wz v false false true false && decide (v.parts.length = ps.length) && W2 ps v.parts
def mapB : List Lat → List Val → Bool
 | [], _ => true
 | p :: _, vs => vs.all fun v => Y8 p v && decide (valC v (botV p) ≠ 0)
def W2 : List Lat → List Val → Bool
 | p :: ps, v :: vs => Y8 p v && W2 ps vs
 | [], _ => true
 | _ :: _, [] => true
end
def Yc2 (l : Lat) (v : Val) : Bool := decide (chkE l = 0) && Y8 l v
/-! The size. -/
mutual
def U1 : Val → Nat
 | .mk _ ns ps es => 1 + ns.length + es.length + Yk ps + (es.map fun e => e.clock.length).sum
def Yk : List Val → Nat
 | [] => 0
 | v :: t => U1 v + Yk t
end
/-! The encoding. -/
def ticksE : List Tk → List UInt8
 | [] => []
 | t :: r => Zl2 t.process.toNat ++ (Zl2 t.n.toNat ++ ticksE r)
def entryE (e : En) : List UInt8 := Zl2 e.clock.length ++ (ticksE e.clock ++ textE e.name)
def entriesE : List En → List UInt8
 | [] => []
 | e :: r => entryE e ++ entriesE r
def textsE : List ByteArray → List UInt8
 | [] => []
 | s :: r => textE s ++ textsE r
mutual
def putV : Lat → Val → List UInt8
 | .mk k _ _ _ ps _, v =>
   if k = 1 then boolE (decide (v.n = 1))
   else if k = 2 ∨ k = 3 then intE v.n
   else if k = 4 ∨ k = 10 then Zl2 v.names.length ++ textsE v.names
   else if k = 5 then Zl2 v.names.length ++ putMap ps v.names v.parts
   else if k = 8 then Zl2 v.n.toNat ++ (if v.n = 1 then textE (v.names.headD ByteArray.empty) else [])
   else if k = 9 then Zl2 v.entries.length ++ entriesE v.entries
   else putVs ps v.parts
def putMap : List Lat → List ByteArray → List Val → List UInt8
 | [], _, _ => []
 | p :: _, ns, vs => (ns.zip vs).flatMap fun x => textE x.1 ++ putV p x.2
def putVs : List Lat → List Val → List UInt8
 | p :: ps, v :: vs => putV p v ++ putVs ps vs
 | [], _ => []
 | _ :: _, [] => []
end
def Jh (m : Nat) (s : RS) : Nat × RS := (if m < (Zc7 s).1 then 0 else (Zc7 s).1, if m < (Zc7 s).1 then (Zc7 s).2.fail else (Zc7 s).2)
def rdTick (s : RS) : Tk × RS := (⟨((Jh 63 s).1 : Nat), ((Jh 1000000000000000 (Jh 63 s).2).1 : Nat)⟩, (Jh 1000000000000000 (Jh 63 s).2).2)
def rdClock (s : RS) : List Tk × RS := Ud rdTick (Wb s).1 (Wb s).2
def rdEntry (s : RS) : En × RS := (⟨(rdClock s).1, (Zm4 (rdClock s).2).1⟩, (Zm4 (rdClock s).2).2)
def rdPair (f : RS → Val × RS) (s : RS) : (ByteArray × Val) × RS := (((Zm4 s).1, (f (Zm4 s).2).1), (f (Zm4 s).2).2)
mutual
def Zw5 : Lat → RS → Val × RS
 | .mk k _ _ _ ps _, s =>
   if k = 1 then (.mk (if (rdBool s).1 then 1 else 0) [] [] [], (rdBool s).2)
   else if k = 2 ∨ k = 3 then (.mk (rdInt s).1 [] [] [], (rdInt s).2)
   else if k = 4 ∨ k = 10 then (.mk 0 (Ud Zm4 (Wb s).1 (Wb s).2).1 [] [], (Ud Zm4 (Wb s).1 (Wb s).2).2)
   else if k = 5 then (.mk 0 ((readMap ps (Wb s).1 (Wb s).2).1.map Prod.fst) ((readMap ps (Wb s).1 (Wb s).2).1.map Prod.snd) [], (readMap ps (Wb s).1 (Wb s).2).2)
   else if k = 8 then (if (Jh 2 s).1 = 1 then (.mk 1 [(Zm4 (Jh 2 s).2).1] [] [], (Zm4 (Jh 2 s).2).2) else (.mk ((Jh 2 s).1 : Nat) [] [] [], (Jh 2 s).2))
   else if k = 9 then (.mk 0 [] [] (Ud rdEntry (Wb s).1 (Wb s).2).1, (Ud rdEntry (Wb s).1 (Wb s).2).2)
   else (.mk 0 [] (Zm2 ps s).1 [], (Zm2 ps s).2)
def readMap : List Lat → Nat → RS → List (ByteArray × Val) × RS
 | [], _, s => ([], s)
 | p :: _, n, s => Ud (rdPair (Zw5 p)) n s
def Zm2 : List Lat → RS → List Val × RS
 | [], s => ([], s)
 | p :: ps, s => ((Zw5 p s).1 :: (Zm2 ps (Zw5 p s).2).1, (Zm2 ps (Zw5 p s).2).2)
end
end
section
theorem walk_nn (ch : Int → Int → Int) : Xb ch [] [] = [] := by rw [Xb]
theorem walk_cn (ch : Int → Int → Int) (x : Tk) (a : List Tk) : Xb ch (x :: a) [] = Vc x.process (ch x.n 0) (Xb ch a []) := by rw [Xb]
theorem walk_nc (ch : Int → Int → Int) (y : Tk) (b : List Tk) : Xb ch [] (y :: b) = Vc y.process (ch 0 y.n) (Xb ch [] b) := by rw [Xb]
theorem walk_lt (ch : Int → Int → Int) (x y : Tk) (a b : List Tk) (h : x.process < y.process) : Xb ch (x :: a) (y :: b) = Vc x.process (ch x.n 0) (Xb ch a (y :: b)) := by rw [Xb, if_pos h]
theorem walk_gt (ch : Int → Int → Int) (x y : Tk) (a b : List Tk) (h : y.process < x.process) : Xb ch (x :: a) (y :: b) = Vc y.process (ch 0 y.n) (Xb ch (x :: a) b) := by rw [Xb, if_neg (by omega), if_pos h]
theorem walk_eq (ch : Int → Int → Int) (x y : Tk) (a b : List Tk) (h : y.process = x.process) : Xb ch (x :: a) (y :: b) = Vc x.process (ch x.n y.n) (Xb ch a b) := by rw [Xb, if_neg (by omega), if_neg (by omega)]
theorem Zo6 : ∀ (c : List Tk) (l : Int), -1 ≤ l → X3 l c = true → c.length ≤ (63 - l).toNat
 | [], l, _, _ => Zm _
 | t :: r, l, hl, h => by
   rw [X3, Z0] at h
   have h1 : l < t.process ∧ t.process ≤ 63 ∧ 1 ≤ t.n ∧ t.n ≤ 1000000000000000 := of_decide_eq_true h.1
   have := Zo6 r t.process (by omega) h.2
   simp only [List.length_cons]
   omega
theorem Yf9 {c : List Tk} (h : X9 c = true) : c.length ≤ 64 := Zo6 c (-1) (by omega) h
def pairB (e f : En) : Bool := !((Vn e.clock f.clock == 1) || (Vn e.clock f.clock == 2))
theorem regGo_step (list : List En) (k : Nat) (h : k < list.length) : Zw4 list k (list.drop k) = (Zh7 list k list[k] && Zw4 list (k + 1) (list.drop (k + 1))) := by
 rw [W9 list k h, Zw4]
end
section
theorem Za3 {v : Val} {n list parts entries : Bool} : Wz v n list parts entries = true ↔ (n = true ∨ v.n = 0) ∧ (list = true ∨ v.names = []) ∧ (parts = true ∨ v.parts = []) ∧ (entries = true ∨ v.entries = []) := by
 unfold Wz
 simp only [Z0, Bool.or_eq_true, decide_eq_true_eq, List.length_eq_zero_iff, and_assoc]
section
variable {k lo hi : Int} {ns : List ByteArray} {ps : List Lat} {rs : List Rl} {v : Val}
theorem isE_1 : Y8 (.mk 1 lo hi ns ps rs) v = true ↔ (v.n = 0 ∨ v.n = 1) ∧ v.names = [] ∧ v.parts = [] ∧ v.entries = [] := by
 rw [Y8, if_pos (by rfl), Z0, Za3, decide_eq_true_eq]
 simp only [Z2, false_or, true_or, true_and]
 exact and_comm
theorem Zy1 (e : k = 2 ∨ k = 3) : Y8 (.mk k lo hi ns ps rs) v = true ↔ (lo ≤ v.n ∧ v.n ≤ hi) ∧ v.names = [] ∧ v.parts = [] ∧ v.entries = [] := by
 rw [Y8, if_neg (by omega), if_pos e, Z0, Za3, decide_eq_true_eq]
 simp only [Z2, false_or, true_or, true_and]
 exact and_comm
theorem Zy0 : Y8 (.mk 4 lo hi ns ps rs) v = true ↔ (v.n = 0 ∧ v.parts = [] ∧ v.entries = []) ∧ Ye ns v.names = true := by
 rw [Y8, if_neg (by decide), if_neg (by decide), if_pos (by rfl), Z0, Za3]
 simp only [Z2, false_or, true_or, true_and]
theorem isE_10 : Y8 (.mk 10 lo hi ns ps rs) v = true ↔ (v.n = 0 ∧ v.parts = [] ∧ v.entries = []) ∧ Ye ns v.names = true ∧ W0 rs v.names = true := by
 rw [Y8, if_neg (by decide), if_neg (by decide), if_neg (by decide), if_pos (by rfl), Z0, Z0, Za3]
 simp only [Z2, false_or, true_or, true_and, and_assoc]
theorem isE_8 : Y8 (.mk 8 lo hi ns ps rs) v = true ↔ v.parts = [] ∧ v.entries = [] ∧ ((v.n = 0 ∧ v.names = []) ∨ (v.n = 2 ∧ v.names = []) ∨ (v.n = 1 ∧ v.names.length = 1 ∧ Ye ns v.names = true)) := by
 rw [Y8, if_neg (by decide), if_neg (by decide), if_neg (by decide), if_neg (by decide), if_pos (by rfl)]
 by_cases h02 : v.n = 0 ∨ v.n = 2
 · rw [if_pos h02, Za3]
   simp only [Z2, false_or, true_or, true_and]
   constructor
   · rintro ⟨a, b, c⟩
     refine ⟨b, c, ?_⟩
     rcases h02 with h | h
     · exact .inl ⟨h, a⟩
     · exact .inr (.inl ⟨h, a⟩)
   · rintro ⟨b, c, h | h | h⟩
     · exact ⟨h.2, b, c⟩
     · exact ⟨h.2, b, c⟩
     · omega
 · rw [if_neg h02]
   by_cases h1 : v.n = 1
   · rw [if_pos h1, Z0, Z0, Za3, decide_eq_true_eq]
     simp only [Z2, false_or, true_or, true_and]
     constructor
     · rintro ⟨⟨⟨a, b⟩, c⟩, d⟩
       exact ⟨a, b, .inr (.inr ⟨h1, c, d⟩)⟩
     · rintro ⟨b, c, h | h | h⟩
       · omega
       · omega
       · exact ⟨⟨⟨b, c⟩, h.2.1⟩, h.2.2⟩
   · rw [if_neg h1]
     constructor
     · intro h; cases h
     · rintro ⟨_, _, h | h | h⟩ <;> omega
theorem isE_9 : Y8 (.mk 9 lo hi ns ps rs) v = true ↔ (v.n = 0 ∧ v.names = [] ∧ v.parts = []) ∧ regB v.entries = true := by
 rw [Y8, if_neg (by decide), if_neg (by decide), if_neg (by decide), if_neg (by decide), if_neg (by decide), if_pos (by rfl), Z0, Za3]
 simp only [Z2, false_or, true_or, true_and, and_true]
theorem isE_5 : Y8 (.mk 5 lo hi ns ps rs) v = true ↔ (v.n = 0 ∧ v.entries = []) ∧ v.names.length = v.parts.length ∧ Ye ns v.names = true ∧ mapB ps v.parts = true := by
 rw [Y8, if_neg (by decide), if_neg (by decide), if_neg (by decide), if_neg (by decide), if_neg (by decide), if_neg (by decide), if_pos (by rfl), Z0, Z0, Z0, Za3, decide_eq_true_eq]
 simp only [Z2, false_or, true_or, true_and, and_assoc]
theorem isE_67 (e : k = 6 ∨ k = 7) : Y8 (.mk k lo hi ns ps rs) v = true ↔ (v.n = 0 ∧ v.names = [] ∧ v.entries = []) ∧ v.parts.length = ps.length ∧ W2 ps v.parts = true := by
 rw [Y8, if_neg (by omega), if_neg (by omega), if_neg (by omega), if_neg (by omega), if_neg (by omega), if_neg (by omega), if_neg (by omega), Z0, Z0, Za3, decide_eq_true_eq]
 simp only [Z2, false_or, true_or, true_and, and_assoc]
end
theorem Zt8 (p : Lat) (vs : List Val) : mapB [p] vs = true ↔ ∀ v ∈ vs, Y8 p v = true ∧ valC v (botV p) ≠ 0 := by
 rw [mapB, Zh]
 constructor
 · intro h v hv
   have := h v hv
   rw [Z0, decide_eq_true_eq] at this
   exact this
 · intro h v hv
   rw [Z0, decide_eq_true_eq]
   exact h v hv
theorem Zh1 : ∀ (ps : List Lat) (vs : List Val), vs.length = ps.length → (W2 ps vs = true ↔ ∀ i (h : i < ps.length) (h' : i < vs.length), Y8 ps[i] vs[i] = true)
 | [], [], _ => ⟨fun _ i h => by simp at h, fun _ => by rw [W2]⟩
 | [], _ :: _, h => by simp at h
 | _ :: _, [], h => by simp at h
 | p :: ps, v :: vs, h => by
   rw [W2, Z0, Zh1 ps vs (by simpa using h)]
   constructor
   · rintro ⟨h1, h2⟩ i hi hi'
     cases i with
     | zero => exact h1
     | succ i => exact h2 i (by simpa using hi) (by simpa using hi')
   · intro h
     exact ⟨h 0 (by simp) (by simp), fun i hi hi' => h (i + 1) (by simpa using hi) (by simpa using hi')⟩
/-! What was read. -/
/-! What was written. -/
/-! The decoder. -/
def decodeV (l : Lat) (b : List UInt8) : Val × Int :=
 if chkE l ≠ 0 then (Wx, 1) else if (Zw5 l ⟨b, 0, 0, 0⟩).2.ends ≠ 0 ∨ Y8 l (Zw5 l ⟨b, 0, 0, 0⟩).1 = false then (Wx, 2) else ((Zw5 l ⟨b, 0, 0, 0⟩).1, 0)
end
section
theorem Zq9 (a b : Int) : (cmpI a b = -1 ∧ a < b) ∨ (cmpI a b = 1 ∧ b < a) ∨ (cmpI a b = 0 ∧ a = b) := by
 unfold cmpI
 by_cases h : a < b
 · simp [h]
 · by_cases h' : b < a
   · simp [h, h']
   · simp [h, h']; omega
def Tri (x y z : Int) : Prop := x ≤ 0 → y ≤ 0 → z ≤ 0 ∧ (z = 0 ↔ x = 0 ∧ y = 0)
theorem Tri.or {x1 y1 z1 x2 y2 z2 : Int} (h1 : Tri x1 y1 z1) (h2 : Tri x2 y2 z2) : Tri (if x1 ≠ 0 then x1 else x2) (if y1 ≠ 0 then y1 else y2) (if z1 ≠ 0 then z1 else z2) := by
 intro hx hy
 have a : x1 ≤ 0 := by split at hx <;> omega
 have b : y1 ≤ 0 := by split at hy <;> omega
 obtain ⟨c, d⟩ := h1 a b
 by_cases z0 : z1 = 0
 · obtain ⟨x0, y0⟩ := d.1 z0
   rw [if_neg (fun h => h x0)] at hx
   rw [if_neg (fun h => h y0)] at hy
   rw [if_neg (fun h => h z0), if_neg (fun h => h x0), if_neg (fun h => h y0)]
   exact h2 hx hy
 · rw [if_pos z0]
   refine ⟨c, fun h => absurd h z0, fun ⟨p, q⟩ => absurd (d.2 ⟨?_, ?_⟩) z0⟩
   · split at p <;> omega
   · split at q <;> omega
theorem or_anti {x1 y1 x2 y2 : Int} (h1 : y1 = -x1) (h2 : y2 = -x2) : (if y1 ≠ 0 then y1 else y2) = -(if x1 ≠ 0 then x1 else x2) := by
 subst h1 h2
 by_cases a : x1 = 0
 · simp [a]
 · rw [if_pos a, if_pos (by omega)]
theorem Zq0 {x y : Int} : (if x ≠ 0 then x else y) = 0 ↔ x = 0 ∧ y = 0 := by
 by_cases a : x = 0
 · simp [a]
 · simp [a]
theorem cmpI_anti (a b : Int) : cmpI b a = -cmpI a b := by unfold cmpI; split <;> split <;> omega
theorem cmpI_tri (a b c : Int) : Tri (cmpI a b) (cmpI b c) (cmpI a c) := by
 unfold Tri
 rcases Zq9 a b with ⟨h1, h2⟩ | ⟨h1, h2⟩ | ⟨h1, h2⟩ <;> rcases Zq9 b c with ⟨h3, h4⟩ | ⟨h3, h4⟩ | ⟨h3, h4⟩ <;> rcases Zq9 a c with ⟨h5, h6⟩ | ⟨h5, h6⟩ | ⟨h5, h6⟩ <;> omega
theorem Ya3 (a b : Int) : cmpI a b = 0 ↔ a = b := by unfold cmpI; split <;> (try split) <;> omega
theorem bl_eq : ∀ (x y : List UInt8), Op.bytesLess x y = decide (x < y)
 | [], [] => by simp [Op.bytesLess]
 | _ :: _, [] => by simp [Op.bytesLess]
 | [], _ :: _ => by simp [Op.bytesLess]
 | a :: x, b :: y => by
   rw [Op.bytesLess, bl_eq x y]
   simp only [List.cons_lt_cons_iff]
   by_cases h1 : a < b <;> by_cases h2 : a = b <;> by_cases h3 : x < y <;> simp [h1, h2, h3]
theorem strLt_eq (a b : ByteArray) : Ue a b = decide (a.data.toList < b.data.toList) := by
 unfold Ue
 rw [bl_eq, Lib.toList_data, Lib.toList_data]
theorem Zi2 (a b : ByteArray) : strC a b = if a.data.toList < b.data.toList then -1 else if a.data.toList = b.data.toList then 0 else 1 := by
 have e : (a = b) = (a.data.toList = b.data.toList) := propext ⟨fun h => by rw [h], fun h => by cases a; cases b; simpa [Array.toList_inj] using h⟩
 unfold strC
 rw [strLt_eq]
 simp only [decide_eq_true_eq, e]
theorem strC_zero (a b : ByteArray) : strC a b = 0 ↔ a = b := by
 rw [Zi2]
 constructor
 · intro h
   by_cases h1 : a.data.toList < b.data.toList
   · rw [if_pos h1] at h; omega
   · rw [if_neg h1] at h
     by_cases h2 : a.data.toList = b.data.toList
     · exact ByteArray.ext (Array.toList_inj.1 h2)
     · rw [if_neg h2] at h; omega
 · rintro rfl
   rw [if_neg (Zj _), if_pos rfl]
theorem strC_anti (a b : ByteArray) : strC b a = -strC a b := by
 rw [Zi2, Zi2]
 by_cases h : a.data.toList < b.data.toList
 · rw [if_pos h, if_neg (List.lt_asymm h), if_neg (fun e => Zj _ (e ▸ h))]; rfl
 · rw [if_neg h]
   by_cases h2 : a.data.toList = b.data.toList
   · rw [if_pos h2, if_neg (fun h => Zj _ (h2 ▸ h)), if_pos h2.symm]; rfl
   · have : b.data.toList < a.data.toList := Decidable.byContradiction fun h' => h2 (List.le_antisymm (List.not_lt.1 h') (List.not_lt.1 h))
     rw [if_pos this, if_neg h2]
theorem strC_tri (a b c : ByteArray) : Tri (strC a b) (strC b c) (strC a c) := by
 intro h1 h2
 rw [Zi2] at h1 h2
 have l1 : a.data.toList < b.data.toList ∨ a.data.toList = b.data.toList := by
  by_cases h : a.data.toList < b.data.toList
  · exact .inl h
  · rw [if_neg h] at h1
    by_cases h' : a.data.toList = b.data.toList
    · exact .inr h'
    · rw [if_neg h'] at h1; omega
 have l2 : b.data.toList < c.data.toList ∨ b.data.toList = c.data.toList := by
  by_cases h : b.data.toList < c.data.toList
  · exact .inl h
  · rw [if_neg h] at h2
    by_cases h' : b.data.toList = c.data.toList
    · exact .inr h'
    · rw [if_neg h'] at h2; omega
 rw [Zi2 a c, Zi2 a b, Zi2 b c]
 rcases l1 with l1 | l1 <;> rcases l2 with l2 | l2
 · have := List.lt_trans l1 l2
   rw [if_pos this, if_pos l1, if_pos l2]
   omega
 · rw [← l2, if_pos l1]
   omega
 · rw [l1, if_pos l2]
   omega
 · rw [← l2, ← l1, if_neg (Zj _), if_pos rfl]
   omega
theorem lexC_anti {α : Type} (c : α → α → Int) : ∀ (a b : List α), (∀ x ∈ a, ∀ y, c y x = -c x y) → lexC c b a = -lexC c a b
 | [], [], _ => rfl
 | [], _ :: _, _ => rfl
 | _ :: _, [], _ => rfl
 | x :: s, y :: t, h => by
   rw [lexC, lexC]
   exact or_anti (h x (by simp) y) (lexC_anti c s t fun z hz => h z (by simp [hz]))
theorem lexC_tri {α : Type} (c : α → α → Int) : ∀ (a b d : List α), (∀ x ∈ a, ∀ y z, Tri (c x y) (c y z) (c x z)) → Tri (lexC c a b) (lexC c b d) (lexC c a d)
 | [], [], [], _ => by intro _ _; simp [lexC]
 | [], [], _ :: _, _ => by intro _ _; simp [lexC]
 | [], _ :: _, [], _ => by intro _ h; simp [lexC] at h
 | [], _ :: _, _ :: _, _ => by intro _ _; simp [lexC]
 | _ :: _, [], _, _ => by intro h; simp [lexC] at h
 | _ :: _, _ :: _, [], _ => by intro _ h; simp [lexC] at h
 | x :: s, y :: t, z :: u, h => by
   rw [lexC, lexC, lexC]
   exact (h x (by simp) y z).or (lexC_tri c s t u fun w hw => h w (by simp [hw]))
theorem Ze4 {α : Type} (c : α → α → Int) : ∀ (a b : List α), (∀ x ∈ a, ∀ y, c x y = 0 ↔ x = y) → (lexC c a b = 0 ↔ a = b)
 | [], [], _ => by simp [lexC]
 | [], _ :: _, _ => by simp [lexC]
 | _ :: _, [], _ => by simp [lexC]
 | x :: s, y :: t, h => by
   rw [lexC, Zq0, h x (by simp) y, Ze4 c s t fun z hz => h z (by simp [hz]), List.cons.injEq]
theorem Zc8 (x y : Int) : orI [x, y] = if x ≠ 0 then x else y := by
 unfold orI orI orI
 by_cases h : x = 0
 · simp [h]; intro h; exact h.symm
 · simp [h]
theorem tickC_anti (a b : Tk) : Vf b a = -Vf a b := by
 unfold Vf; rw [Zc8, Zc8]; exact or_anti (cmpI_anti _ _) (cmpI_anti _ _)
theorem tickC_tri (a b c : Tk) : Tri (Vf a b) (Vf b c) (Vf a c) := by
 unfold Vf; rw [Zc8, Zc8, Zc8]; exact (cmpI_tri _ _ _).or (cmpI_tri _ _ _)
theorem tickC_zero (a b : Tk) : Vf a b = 0 ↔ a = b := by
 unfold Vf; rw [Zc8, Zq0, Ya3, Ya3]
 cases a; cases b; simp
theorem entC_anti (a b : En) : entC b a = -entC a b := by
 unfold entC; rw [Zc8, Zc8]; exact or_anti (strC_anti _ _) (lexC_anti _ _ _ fun x _ y => tickC_anti x y)
theorem entC_tri (a b c : En) : Tri (entC a b) (entC b c) (entC a c) := by
 unfold entC; rw [Zc8, Zc8, Zc8]; exact (strC_tri _ _ _).or (lexC_tri _ _ _ _ fun x _ y z => tickC_tri x y z)
theorem Jy (a b : En) : entC a b = 0 ↔ a = b := by
 unfold entC; rw [Zc8, Zq0, strC_zero, Ze4 _ _ _ fun x _ y => tickC_zero x y]
 cases a; cases b; simp [and_comm]
theorem sizeOf_part' {v p : Val} (h : p ∈ v.parts) : SizeOf.sizeOf p < SizeOf.sizeOf v := by
 cases v
 have := Zg h
 simp only [Val.parts] at this
 simp only [Val.mk.sizeOf_spec]
 omega
theorem Yq (a b : Val) : valC a b = 0 ↔ a = b := by
 rw [valC_eq a b, Zq0, Zq0, Zq0, Ya3, Ze4 _ _ _ fun x _ y => strC_zero x y, Ze4 valC a.parts b.parts fun x hx y => by
   have := sizeOf_part' hx
   exact Yq x y, Ze4 _ _ _ fun x _ y => Jy x y]
 cases a; cases b; simp [Val.n, Val.names, Val.parts, Val.entries]
 termination_by SizeOf.sizeOf a
end
end Go.Proofs.YtbhkcbidcfofiaaGreat
