/-
  What the statements of the chapter share, part 14: PL1, LX, GO, LA1, LA2.
-/
import Derived.Test.YtmdjnaobllajmaaGreatDoorY01
import Derived.Test.YtmdjnaobllajmaaGreatDoorY07
import Derived.Test.YtmdjnaobllajmaaGreatDoorY13
import Derived.Lib.Strings
set_option linter.unusedVariables false
set_option linter.unusedSimpArgs false
set_option maxRecDepth 100000
set_option maxHeartbeats 8000000
namespace Go.Proofs.YtmdjnaobllajmaaGreatDoor
open _root_.Array renaming getElem?_eq_getElem → Zf
open _root_.Bool renaming false_ne_true → Za, not_false → Ze, true_and → Zi, not_true → Zj
open _root_.Int renaming reduceEq → Zb, reduceLT → Zc, reduceLE → Zd
open _root_.List renaming getElem?_eq_getElem → Z3, drop_eq_nil_of_le → Z5, drop_eq_getElem_cons → Z6, all_cons → Z7, all_eq_true → Zg
open _root_.Nat renaming reduceEqDiff → Z0, reduceAdd → Z1, le_of_ble_eq_true → Z2, reduceLeDiff → Z4, reduceBEq → Z8, reduceMul → Z9
open _root_.Go.Proofs.Tryz renaming prog → Zh
open Go.RowKit
section
def Zi8 (c : Int) : Bool := decide ((97 ≤ c ∧ c ≤ 122) ∨ (48 ≤ c ∧ c ≤ 57) ∨ c = 45)
def strEq (a b : ByteArray) : Bool := decide (a = b)
def hasS : List ByteArray → ByteArray → Bool
 | [], _ => false
 | x :: s, c => decide (x = c) || hasS s c
theorem Zm4 : ∀ (l : List ByteArray) (c : ByteArray), hasS l c = true ↔ c ∈ l
 | [], c => by simp [hasS]
 | x :: s, c => by rw [hasS, Bool.or_eq_true, decide_eq_true_eq, Zm4, List.mem_cons, eq_comm]
theorem Wx {α : Type} (xs : List α) (k : Nat) (h : k < xs.length) : xs.drop k = xs[k] :: xs.drop (k + 1) := Z6 h
def Wo (a b : List ByteArray) : Bool := a.all fun s => hasS b s
def Jf (a b : ByteArray) : Bool := Op.bytesLess a.toList b.toList
def W1 : ByteArray → List ByteArray → Bool
 | _, [] => true
 | p, x :: t => Jf p x && W1 x t
def W6 : List ByteArray → Bool
 | [] => true
 | x :: t => W1 x t
theorem Zu3 (l : List ByteArray) (k : Nat) (h : k + 1 < l.length) : W1 (l[k]'(by omega)) (l.drop (k + 1)) = (Jf (l[k]'(by omega)) l[k + 1] && W1 l[k + 1] (l.drop (k + 2))) := by
  rw [Wx l (k + 1) h, W1]
def Wg (s : ByteArray) : Bool := decide (1 ≤ s.size ∧ s.size ≤ 16) && (decide ((97 : Int) ≤ ((s.data.toList.getD 0 0).toNat : Int) ∧ ((s.data.toList.getD 0 0).toNat : Int) ≤ 122) && s.data.toList.all fun c => Zi8 c.toNat)
theorem all_attach {α : Type} (l : List α) (f : α → Bool) : (l.attach.all fun p => f p.1) = l.all f := by
  rw [Bool.eq_iff_iff]
  simp [Zg]
def Wm : Lat → Bool
 | .mk k _ _ _ ps _ => decide (k = 1 ∨ k = 2 ∨ k = 3) || (decide (k = 7) && decide (ps.length = 2) && ps.attach.all fun p => Wm p.1)
 termination_by l => SizeOf.sizeOf l
 decreasing_by
  have := List.sizeOf_lt_of_mem p.2
  simp only [Lat.mk.sizeOf_spec]
  omega
theorem Zm8 (l : Lat) : Wm l = (decide (l.kind = 1 ∨ l.kind = 2 ∨ l.kind = 3) || (decide (l.kind = 7) && decide (l.parts.length = 2) && l.parts.all Wm)) := by
 cases l with
 | mk k lo hi ns ps rs => rw [Wm, all_attach]; rfl
theorem V6 {l p : Lat} (h : p ∈ l.parts) : SizeOf.sizeOf p < SizeOf.sizeOf l := by
 cases l with
 | mk k lo hi ns ps rs =>
   have := List.sizeOf_lt_of_mem h
   simp only [Lat.parts] at this
   simp only [Lat.mk.sizeOf_spec]
   omega
def Ug (b : Bool) (e : Int) : Int := if b then e else 0
def Zw9 (k : Int) : Nat := if k = 6 then 8 else if k = 10 then 12 else 32
def Jh (l : Lat) : Bool := decide (Zw9 l.kind < l.names.length ∨ 32 < l.rules.length)
def Zd0 (l : Lat) : Bool := decide (l.hi < l.lo ∨ l.lo < -1000000000 ∨ 1000000000 < l.lo ∨ l.hi < -1000000000 ∨ 1000000000 < l.hi)
def Vi (l : Lat) : Bool := decide (l.kind = 7) && !(match l.parts with
 | p :: _ => Wm p
 | [] => true)
def Vg (k : Int) (n : Nat) : Option (Nat × Bool × Bool × Bool) :=
 if k = 1 ∨ k = 9 then some (0, false, false, false) else if k = 2 ∨ k = 3 then some (0, false, false, true)
 else if k = 4 ∨ k = 8 then some (0, true, false, false) else if k = 5 then some (1, true, false, false)
 else if k = 7 then some (2, false, false, false) else if k = 6 then some (n, true, false, false)
 else if k = 10 then some (0, true, true, false) else none
def Jn (k lo hi : Int) (nn np nr : Nat) : Bool := match Vg k nn with
 | none => true
 | some (p, named, ruled, ranged) => decide (np ≠ p) || (!named && decide (0 < nn)) || (!ruled && decide (0 < nr)) || (!ranged && decide (lo ≠ 0 ∨ hi ≠ 0)) || (decide (k = 6 ∨ k = 10) && decide (nn = 0))
def Ve (l : Lat) : Bool := Jn l.kind l.lo l.hi l.names.length l.parts.length l.rules.length
theorem shape_kinds (k : Int) (n : Nat) : (Vg k n = some (0, false, false, false) ∧ (k = 1 ∨ k = 9)) ∨ (Vg k n = some (0, false, false, true) ∧ (k = 2 ∨ k = 3)) ∨
 (Vg k n = some (0, true, false, false) ∧ (k = 4 ∨ k = 8)) ∨ (Vg k n = some (1, true, false, false) ∧ k = 5) ∨ (Vg k n = some (2, false, false, false) ∧ k = 7) ∨
 (Vg k n = some (n, true, false, false) ∧ k = 6) ∨ (Vg k n = some (0, true, true, false) ∧ k = 10) ∨ (Vg k n = none ∧ ¬ (1 ≤ k ∧ k ≤ 10)) := by
 by_cases h1 : k = 1
 · subst h1; simp [Vg]
 by_cases h2 : k = 2
 · subst h2; simp [Vg]
 by_cases h3 : k = 3
 · subst h3; simp [Vg]
 by_cases h4 : k = 4
 · subst h4; simp [Vg]
 by_cases h5 : k = 5
 · subst h5; simp [Vg]
 by_cases h6 : k = 6
 · subst h6; simp [Vg]
 by_cases h7 : k = 7
 · subst h7; simp [Vg]
 by_cases h8 : k = 8
 · subst h8; simp [Vg]
 by_cases h9 : k = 9
 · subst h9; simp [Vg]
 by_cases h10 : k = 10
 · subst h10; simp [Vg]
 · simp [Vg, h1, h2, h3, h4, h5, h6, h7, h8, h9, h10]; omega
def nmGo (p : Bool) (full : List ByteArray) : Nat → List ByteArray → Bool
 | _, [] => true
 | k, s :: t => Wg s && !(p && hasS (full.take k) s) && nmGo p full (k + 1) t
def ruleB (ns : List ByteArray) (r : Rl) : Bool := decide (r.cond.length ≠ 0) && W6 r.cond && Wo r.cond ns && hasS ns r.concl
def J0 (ns : List ByteArray) (rs : List Rl) : Bool := rs.all (ruleB ns)
def Zj9 (l : Lat) : Bool := !(nmGo (l.kind == 6) l.names 0 l.names && (l.kind == 6 || W6 l.names) && J0 l.names l.rules)
theorem nmGo_step (p : Bool) (full : List ByteArray) (k : Nat) (h : k < full.length) : nmGo p full k (full.drop k) = (Wg full[k] && !(p && hasS (full.take k) full[k]) && nmGo p full (k + 1) (full.drop (k + 1))) := by
 rw [Wx full k h, nmGo]
theorem rulesB_step (ns : List ByteArray) (rs : List Rl) (k : Nat) (h : k < rs.length) : J0 ns (rs.drop k) = (ruleB ns rs[k] && J0 ns (rs.drop (k + 1))) := by
 rw [Wx rs k h]; unfold J0; rw [Z7]
def latE (l : Lat) : Int := orI [Ug (Jh l) 6, Ug (Zj9 l) 3, Ug (Zd0 l) 5, Ug (Vi l) 4]
def goL (g : Lat → Nat → Int × Nat) : List Lat → Nat → Int × Nat
 | [], n => (0, n)
 | p :: t, n => if (g p n).1 ≠ 0 then g p n else goL g t (g p n).2
def W7 : Nat → Lat → Nat → Int × Nat
 | 0, _, n => (6, n)
 | f + 1, l, n => if 64 ≤ n then (6, n) else if Ve l then (1, n + 1) else if latE l ≠ 0 then (latE l, n + 1) else goL (W7 f) l.parts (n + 1)
theorem goL_step (g : Lat → Nat → Int × Nat) (ps : List Lat) (k n : Nat) (h : k < ps.length) : goL g (ps.drop k) n = if (g ps[k] n).1 ≠ 0 then g ps[k] n else goL g (ps.drop (k + 1)) (g ps[k] n).2 := by
 rw [Wx ps k h, goL]
theorem Yb0 (l : Lat) (h : Ve l = false) (h7 : l.kind = 7) : l.parts.length = 2 := by
 unfold Ve Jn at h
 rw [h7] at h
 simp [Vg] at h
 exact h.1.1.1
def chkE (l : Lat) : Int := (W7 6 l 0).1
def Za2 (l : List ByteArray) : Bool := l.all Wg && W6 l
def Wd (l : List ByteArray) (k : Nat) : Bool := (l.drop k).all Wg && (match k with
 | 0 => W6 l
 | j + 1 => match l[j]? with
   | some p => W1 p (l.drop (j + 1))
   | none => true)
theorem rising_zero (l : List ByteArray) : Wd l 0 = Za2 l := rfl
theorem rising_step0 (l : List ByteArray) (h : 0 < l.length) : Wd l 0 = (Wg l[0] && Wd l 1) := by
 cases l with
 | nil => simp at h
 | cons x t => simp [Wd, W6, Bool.and_assoc]
theorem rising_step (l : List ByteArray) (j : Nat) (h : j + 1 < l.length) : Wd l (j + 1) = (Wg l[j + 1] && (Jf (l[j]'(by omega)) l[j + 1] && Wd l (j + 2))) := by
  unfold Wd
  simp only [Z3 h, Z3 (show j < l.length by omega)]
  rw [Wx l (j + 1) h, Z7, W1, Bool.eq_iff_iff]
  simp only [Bool.and_eq_true]
  constructor
  · rintro ⟨⟨a, b⟩, c, d⟩; exact ⟨a, c, b, d⟩
  · rintro ⟨a, c, b, d⟩; exact ⟨⟨a, b⟩, c, d⟩
theorem rising_end (l : List ByteArray) (k : Nat) (h : l.length ≤ k) : Wd l k = true := by
 unfold Wd
 rw [Z5 h]
 cases k with
 | zero =>
   have : l = [] := List.length_eq_zero_iff.1 (by omega)
   subst this; rfl
 | succ j =>
   show (true && _) = true
   rw [Zi]
   cases hj : l[j]? with
   | none => simp only [hj]
   | some p => simp only [hj]; rw [Z5 h]; rfl
theorem kindI_ranged {k : Int} {n : Nat} (h2 : k ≠ 2) (h3 : k ≠ 3) : Vg k n = none ∨ ∃ p a b, Vg k n = some (p, a, b, false) := by
 unfold Vg
 repeat' split
 all_goals first | exact .inl rfl | exact .inr ⟨_, _, _, rfl⟩ | omega
theorem kindI_ruled {k : Int} {n : Nat} (h10 : k ≠ 10) : Vg k n = none ∨ ∃ p a b, Vg k n = some (p, a, false, b) := by
 unfold Vg
 repeat' split
 all_goals first | exact .inl rfl | exact .inr ⟨_, _, _, rfl⟩ | omega
theorem Zk0 {k lo hi : Int} {nn np nr : Nat} (h2 : k ≠ 2) (h3 : k ≠ 3) (h : lo ≠ 0 ∨ hi ≠ 0) : Jn k lo hi nn np nr = true := by
 unfold Jn
 rcases kindI_ranged (n := nn) h2 h3 with e | ⟨p, a, b, e⟩
 · rw [e]
 · rw [e]; simp [h]
theorem Zc6 {k lo hi : Int} {nn np nr : Nat} (h10 : k ≠ 10) (h : nr ≠ 0) : Jn k lo hi nn np nr = true := by
 unfold Jn
 rcases kindI_ruled (n := nn) h10 with e | ⟨p, a, b, e⟩
 · rw [e]
 · rw [e]; simp [show 0 < nr by omega]
theorem Zu6 {k lo hi : Int} {nn np nr : Nat} (h : ¬ (1 ≤ k ∧ k ≤ 10)) : Jn k lo hi nn np nr = true := by
 have hk : Vg k nn = none := by unfold Vg; rw [if_neg (by omega), if_neg (by omega), if_neg (by omega), if_neg (by omega), if_neg (by omega), if_neg (by omega), if_neg (by omega)]
 unfold Jn
 rw [hk]
def Zc1 (ns : List ByteArray) (r : Rl) : Bool := decide (r.cond.length ≠ 0) && (Za2 r.cond && (hasS ns r.concl && r.cond.all (hasS ns)))
def Zd4 (k : Int) (ns : List ByteArray) (rs : List Rl) : Bool := if k = 6 then nmGo true ns 0 ns else Za2 ns && rs.all (Zc1 ns)
theorem rules_step (ns : List ByteArray) (rs : List Rl) (k : Nat) (h : k < rs.length) : (rs.drop k).all (Zc1 ns) = (Zc1 ns rs[k] && (rs.drop (k + 1)).all (Zc1 ns)) := by
 rw [Wx rs k h, Z7]
theorem conds_step (ns : List ByteArray) (cs : List ByteArray) (k : Nat) (h : k < cs.length) : (cs.drop k).all (hasS ns) = (hasS ns cs[k] && (cs.drop (k + 1)).all (hasS ns)) := by
 rw [Wx cs k h, Z7]
theorem hasS_name {ns : List ByteArray} (h : ns.all Wg = true) {c : ByteArray} (hc : hasS ns c = true) : Wg c = true :=
 Zg.1 h c ((Zm4 _ _).1 hc)
theorem nmGo_all (full : List ByteArray) : ∀ (k : Nat) (l : List ByteArray), nmGo false full k l = l.all Wg
 | _, [] => rfl
 | k, s :: t => by rw [nmGo, nmGo_all full (k + 1) t, Z7, Bool.false_and, Ze, Bool.and_true]
theorem rule_eq {ns : List ByteArray} (h : ns.all Wg = true) (r : Rl) : Zc1 ns r = ruleB ns r := by
 unfold Zc1 ruleB Za2
 have hq : Wo r.cond ns = r.cond.all (hasS ns) := rfl
 rw [hq]
 cases hs : r.cond.all (hasS ns)
 · simp
 · have : r.cond.all Wg = true := by
    rw [Zg] at hs ⊢
    intro c hc
    exact hasS_name h (hs c hc)
   rw [this]
   cases decide (r.cond.length ≠ 0) <;> cases W6 r.cond <;> cases hasS ns r.concl <;> rfl
theorem shapeB_rules {l : Lat} (h : Ve l = false) (h6 : l.kind = 6) : l.rules = [] := by
 refine List.eq_nil_of_length_eq_zero ?_
 by_cases h0 : l.rules.length = 0
 · exact h0
 · have := Zc6 (lo := l.lo) (hi := l.hi) (nn := l.names.length) (np := l.parts.length) (nr := l.rules.length) (k := l.kind) (by omega) h0
   exact absurd (h.symm.trans this) Za
theorem spell_named {l : Lat} (h : Ve l = false) : Zj9 l = !(Zd4 l.kind l.names l.rules) := by
 unfold Zj9 Zd4
 by_cases h6 : l.kind = 6
 · rw [if_pos h6, shapeB_rules h h6, h6]
   have : J0 l.names [] = true := rfl
   rw [this]
   simp
 · rw [if_neg h6]
   have hk : (l.kind == 6) = false := by rw [beq_eq_false_iff_ne]; exact h6
   rw [hk, nmGo_all, Bool.false_or]
   unfold Za2
   cases hn : l.names.all Wg
   · simp
   · have hr : J0 l.names l.rules = l.rules.all (Zc1 l.names) := by
      unfold J0
      congr 1
      funext r
      exact (rule_eq hn r).symm
     rw [hr, Zi]
def Zh7 (l : Lat) (d : Int) (n : Nat) : Int := if 6 < d ∨ 64 ≤ n then 6 else if Ve l then 1 else if Jh l then 6 else if Zd4 l.kind l.names l.rules = false then 3 else if l.hi < l.lo ∨ l.lo < -1000000000 ∨ 1000000000 < l.hi then 5 else if Vi l then 4 else 0
theorem ranges_iff (l : Lat) : Zd0 l = decide (l.hi < l.lo ∨ l.lo < -1000000000 ∨ 1000000000 < l.hi) := by
 unfold Zd0
 rw [decide_eq_decide]
 omega
theorem Yc4 (f : Nat) (l : Lat) (n : Nat) (d : Int) (hd : d = 7 - f) (hf : f ≤ 6) : Zh7 l d n ≠ 0 ∧ (W7 f l n).1 = Zh7 l d n ∨ Zh7 l d n = 0 ∧ ∃ g, f = g + 1 ∧ W7 f l n = goL (W7 g) l.parts (n + 1) := by
 unfold Zh7
 cases f with
 | zero =>
   left
   rw [if_pos (by omega)]
   exact ⟨by decide, rfl⟩
 | succ f =>
   have hv : W7 (f + 1) l n = if 64 ≤ n then (6, n) else if Ve l then (1, n + 1) else if latE l ≠ 0 then (latE l, n + 1) else goL (W7 f) l.parts (n + 1) := rfl
   by_cases h64 : 64 ≤ n
   · left
     rw [if_pos (.inr h64), hv, if_pos h64]
     exact ⟨by decide, rfl⟩
   · rw [if_neg (by omega), hv, if_neg h64]
     cases hs : Ve l
     · rw [if_neg Za, if_neg Za]
       have hc : latE l = if Jh l then 6 else if Zd4 l.kind l.names l.rules = false then 3 else if l.hi < l.lo ∨ l.lo < -1000000000 ∨ 1000000000 < l.hi then 5 else if Vi l then 4 else 0 := by
        unfold latE
        rw [spell_named hs, ranges_iff]
        cases Jh l <;> cases Zd4 l.kind l.names l.rules <;> by_cases hr : (l.hi < l.lo ∨ l.lo < -1000000000 ∨ 1000000000 < l.hi) <;> cases Vi l <;> simp [hr, Ug, orI]
       rw [← hc]
       by_cases h0 : latE l = 0
       · right
         rw [if_neg (fun h => h h0)]
         exact ⟨h0, f, rfl, rfl⟩
       · left
         rw [if_pos h0]
         exact ⟨h0, rfl⟩
     · left
       rw [if_pos rfl, if_pos rfl]
       exact ⟨by decide, rfl⟩
theorem visit_le (f : Nat) : ∀ (l : Lat) (n : Nat), n ≤ 64 → (W7 f l n).2 ≤ 64 := by
 induction f with
 | zero => intro l n h; exact h
 | succ f ih =>
   intro l n h
   have hv : W7 (f + 1) l n = if 64 ≤ n then (6, n) else if Ve l then (1, n + 1) else if latE l ≠ 0 then (latE l, n + 1) else goL (W7 f) l.parts (n + 1) := rfl
   have hg : ∀ (ps : List Lat) (n : Nat), n ≤ 64 → (goL (W7 f) ps n).2 ≤ 64 := by
    intro ps
    induction ps with
    | nil => intro n h; exact h
    | cons p t ht =>
      intro n h
      rw [goL]
      split
      · exact ih p n h
      · exact ht _ (ih p n h)
   rw [hv]
   split
   · exact h
   · split
     · show n + 1 ≤ 64; omega
     · split
       · show n + 1 ≤ 64; omega
       · exact hg _ _ (by omega)
inductive WfL : Lat → Prop
 | mk (l : Lat) (h1 : Ve l = false) (h2 : latE l = 0) (h3 : ∀ p ∈ l.parts, WfL p) : WfL l
theorem WfL.shape {l : Lat} (h : WfL l) : Ve l = false := by cases h; assumption
theorem WfL.check {l : Lat} (h : WfL l) : latE l = 0 := by cases h; assumption
theorem WfL.part {l p : Lat} (h : WfL l) (hp : p ∈ l.parts) : WfL p := by cases h; rename_i h; exact h p hp
theorem goL_zero (g : Lat → Nat → Int × Nat) : ∀ (ps : List Lat) (n : Nat), (goL g ps n).1 = 0 → ∀ p ∈ ps, ∃ m, (g p m).1 = 0
 | [], _, _, p, hp => by simp at hp
 | q :: t, n, h, p, hp => by
   unfold goL at h
   by_cases h0 : (g q n).1 = 0
   · rw [if_neg (fun h => h h0)] at h
     rcases List.mem_cons.1 hp with rfl | hp
     · exact ⟨n, h0⟩
     · exact goL_zero g t _ h p hp
   · rw [if_pos h0] at h; exact absurd h h0
theorem visit_wf : ∀ (f : Nat) (l : Lat) (n : Nat), (W7 f l n).1 = 0 → WfL l
 | 0, l, n, h => by unfold W7 at h; exact absurd (show (6 : Int) = 0 from h) (by decide)
 | f + 1, l, n, h => by
   have e : W7 (f + 1) l n = if 64 ≤ n then (6, n) else if Ve l then (1, n + 1) else if latE l ≠ 0 then (latE l, n + 1) else goL (W7 f) l.parts (n + 1) := by cases l; rfl
   rw [e] at h
   by_cases h1 : 64 ≤ n
   · rw [if_pos h1] at h; exact absurd (show (6 : Int) = 0 from h) (by decide)
   rw [if_neg h1] at h
   cases h2 : Ve l
   · rw [if_neg (by rw [h2]; exact Za)] at h
     by_cases h3 : latE l = 0
     · rw [if_neg (fun h => h h3)] at h
       exact .mk l h2 h3 fun p hp => by
         obtain ⟨m, hm⟩ := goL_zero _ _ _ h p hp
         exact visit_wf f p m hm
     · rw [if_pos h3] at h; exact absurd h h3
   · rw [if_pos h2] at h; exact absurd (show (1 : Int) = 0 from h) (by decide)
theorem Ze5 {l : Lat} (h : chkE l = 0) : WfL l := visit_wf 6 l 0 h
theorem Zw6 {a b c d : Int} (h : orI [a, b, c, d] = 0) : a = 0 ∧ b = 0 ∧ c = 0 ∧ d = 0 := by
 unfold orI at h
 by_cases ha : a = 0
 · rw [if_pos ha] at h; unfold orI at h
   by_cases hb : b = 0
   · rw [if_pos hb] at h; unfold orI at h
     by_cases hc : c = 0
     · rw [if_pos hc] at h; unfold orI at h
       by_cases hd : d = 0
       · exact ⟨ha, hb, hc, hd⟩
       · rw [if_neg hd] at h; exact absurd h hd
     · rw [if_neg hc] at h; exact absurd h hc
   · rw [if_neg hb] at h; exact absurd h hb
 · rw [if_neg ha] at h; exact absurd h ha
theorem Zn3 {b : Bool} {e : Int} (he : e ≠ 0) (h : Ug b e = 0) : b = false := by
 cases b
 · rfl
 · exact absurd h he
theorem WfL.limits {l : Lat} (h : WfL l) : Jh l = false := Zn3 (by decide) (Zw6 h.check).1
theorem WfL.spell {l : Lat} (h : WfL l) : Zj9 l = false := Zn3 (by decide) (Zw6 h.check).2.1
theorem WfL.ranges {l : Lat} (h : WfL l) : Zd0 l = false := Zn3 (by decide) (Zw6 h.check).2.2.1
theorem WfL.kinds {l : Lat} (h : WfL l) : (1 ≤ l.kind ∧ l.kind ≤ 10) ∧ (l.kind = 5 → l.parts.length = 1) ∧ (l.kind = 7 → l.parts.length = 2) ∧ (l.kind = 6 → l.parts.length = l.names.length ∧ 1 ≤ l.names.length ∧ l.names.length ≤ 8) ∧
 (l.kind ≠ 5 → l.kind ≠ 6 → l.kind ≠ 7 → l.parts.length = 0) ∧ (l.kind ≠ 2 → l.kind ≠ 3 → l.lo = 0 ∧ l.hi = 0) ∧ (l.kind ≠ 10 → l.rules.length = 0) ∧ l.names.length ≤ 32 ∧ l.rules.length ≤ 32 ∧ (l.kind = 10 → 1 ≤ l.names.length ∧ l.names.length ≤ 12) ∧
 (l.kind = 1 ∨ l.kind = 2 ∨ l.kind = 3 ∨ l.kind = 7 ∨ l.kind = 9 → l.names.length = 0) := by
 have h1 := h.shape
 have h2 : ¬ (Zw9 l.kind < l.names.length ∨ 32 < l.rules.length) := of_decide_eq_false h.limits
 have hA : l.kind = 6 → l.names.length ≤ 8 := fun e => by unfold Zw9 at h2; rw [if_pos e] at h2; omega
 have hB : l.kind = 10 → l.names.length ≤ 12 := fun e => by unfold Zw9 at h2; rw [if_neg (by omega), if_pos e] at h2; omega
 have hC : l.names.length ≤ 32 := by
  unfold Zw9 at h2
  by_cases e : l.kind = 6
  · have := hA e; omega
  · by_cases e' : l.kind = 10
    · have := hB e'; omega
    · rw [if_neg e, if_neg e'] at h2; omega
 have hD : l.rules.length ≤ 32 := by omega
 unfold Ve Jn at h1
 rcases shape_kinds l.kind l.names.length with ⟨hk, hx⟩ | ⟨hk, hx⟩ | ⟨hk, hx⟩ | ⟨hk, hx⟩ | ⟨hk, hx⟩ | ⟨hk, hx⟩ | ⟨hk, hx⟩ | ⟨hk, hx⟩
 all_goals
  rw [hk] at h1
  simp only [Bool.or_eq_false_iff, Bool.and_eq_false_iff, decide_eq_false_iff_not, Zj, Ze, Zi, Bool.false_and, reduceCtorEq, false_or, true_or, Decidable.not_not, Bool.true_eq_false, and_true, true_and] at h1
 all_goals omega
end
section
def strX (s : ByteArray) : List D := [.v (.string s)]
def Zh3 (r : Rl) : List D := [.sl 1 (r.cond.map strX), .v (.string r.concl)]
def tkX (t : Tk) : List D := [.v (.int .i64 t.process), .v (.int .i64 t.n)]
def enX (e : En) : List D := [.sl 2 (e.clock.map tkX), .v (.string e.name)]
mutual
def latX : Lat → List D
 | .mk k lo hi ns ps rs => [.v (.int .i64 k), .v (.int .i64 lo), .v (.int .i64 hi), .sl 1 (ns.map strX), .sl 6 (latXs ps), .sl 2 (rs.map Zh3)]
def latXs : List Lat → List (List D)
 | [] => []
 | p :: t => latX p :: latXs t
end
mutual
def vaX : Val → List D
 | .mk m ns ps es => [.v (.int .i64 m), .sl 1 (ns.map strX), .sl 4 (vaXs ps), .sl 2 (es.map enX)]
def vaXs : List Val → List (List D)
 | [] => []
 | p :: t => vaX p :: vaXs t
end
theorem latXs_map : ∀ l : List Lat, latXs l = l.map latX
 | [] => by rw [latXs]; rfl
 | p :: t => by rw [latXs, latXs_map t]; rfl
theorem Ye2 : ∀ l : List Val, vaXs l = l.map vaX
 | [] => by rw [vaXs]; rfl
 | p :: t => by rw [vaXs, Ye2 t]; rfl
theorem Y4 (l : Lat) : latX l = [.v (.int .i64 l.kind), .v (.int .i64 l.lo), .v (.int .i64 l.hi), .sl 1 (l.names.map strX), .sl 6 (l.parts.map latX), .sl 2 (l.rules.map Zh3)] := by
 cases l; rw [latX, latXs_map]; rfl
theorem Ya (v : Val) : vaX v = [.v (.int .i64 v.n), .sl 1 (v.names.map strX), .sl 4 (v.parts.map vaX), .sl 2 (v.entries.map enX)] := by
 cases v; rw [vaX, Ye2]; rfl
theorem Xz (l : Lat) : (latX l).length = 6 := by rw [Y4]; rfl
theorem X8 (l : Val) : (vaX l).length = 4 := by rw [Ya]; rfl
theorem Wh (l : Lat) : (latX l).take 6 = latX l := List.take_of_length_le (by rw [Xz]; omega)
theorem Vo (l : Val) : (vaX l).take 4 = vaX l := List.take_of_length_le (by rw [X8]; omega)
/-! What is read names no memory of a call's own. -/
section
variable (m : Nat)
theorem U3 {α : Type} {f : α → List D} {k : Nat} (l : List α) (q : ∀ x ∈ l, lowL m (f x)) : low m (.sl k (l.map f)) := by
 rw [low, Zs7]
 intro row hr
 obtain ⟨b, hb, rfl⟩ := List.mem_map.1 hr
 exact q b hb
theorem Yv (l : List ByteArray) : low m (.sl 1 (l.map strX)) := U3 m l fun _ _ => by simp [strX, lowL, low]
theorem Zx0 (l : List Rl) : low m (.sl 2 (l.map Zh3)) := U3 m l fun r _ => by rw [Zh3, lowL, lowL, lowL, low]; exact ⟨Yv m _, trivial, trivial⟩
theorem Wq (l : List En) : low m (.sl 2 (l.map enX)) := U3 m l fun r _ => by
 rw [enX, lowL, lowL, lowL, low]
 exact ⟨U3 m _ fun t _ => by simp [tkX, lowL, low], trivial, trivial⟩
mutual
theorem U4 : ∀ l : Lat, lowL m (latX l)
 | .mk k lo hi ns ps rs => by
  rw [latX]; simp only [lowL]
  exact ⟨by rw [low]; trivial, by rw [low]; trivial, by rw [low]; trivial, Yv m ns, by rw [low]; exact low_lats ps, Zx0 m rs, trivial⟩
theorem low_lats : ∀ l : List Lat, lowR m (latXs l)
 | [] => by rw [latXs, lowR]; trivial
 | p :: t => by rw [latXs, lowR]; exact ⟨U4 p, low_lats t⟩
end
mutual
theorem Xu : ∀ l : Val, lowL m (vaX l)
 | .mk n ns ps es => by
  rw [vaX]; simp only [lowL]
  exact ⟨by rw [low]; trivial, Yv m ns, by rw [low]; exact Yi5 ps, Wq m es, trivial⟩
theorem Yi5 : ∀ l : List Val, lowR m (vaXs l)
 | [] => by rw [vaXs, lowR]; trivial
 | p :: t => by rw [vaXs, lowR]; exact ⟨Xu p, Yi5 t⟩
end
end
theorem U7 {P : Program} {t : TypeId} {κ : IntKind} {K : D → Prop} {s : ByteArray} {k : Nat} {m : Int} {b : UInt8} (h1 : strT P t = true) (hb : s.data[k]? = some b) (hm : m = (k : Int)) (q : K (.v (.int .u8 b.toNat))) : indA P t (.v (.string s)) (.v (.int κ m)) K := by
 have hk : k < s.size := (Array.getElem?_eq_some_iff.1 hb).1
 subst hm
 refine ind_str h1 (by omega) (by omega) fun c hc => ?_
 rw [Int.toNat_natCast, hb] at hc
 cases hc
 exact q
end
section
structure Two (q a b : Prop) : Prop where
 y : q → a
 n : ¬ q → b
structure Evry {α : Type} (q p : α → Prop) : Prop where
 y : ∀ a, q a → p a
theorem F : True := trivial
section
variable {K : List Ob → D → Prop} {h : List Ob} {q A B : Prop}
theorem kB [Decidable q] (h1 : A → K h (.v (.bool true))) (h0 : B → K h (.v (.bool false))) (k : Two q A B) : K h (.v (.bool (decide q))) := X1 (fun hq => h1 (k.y hq)) fun hq => h0 (k.n hq)
theorem kN [Decidable q] (h1 : A → K h (.v (.bool false))) (h0 : B → K h (.v (.bool true))) (k : Two q A B) : K h (.v (.bool (!decide q))) := Zu2 (fun hq => h1 (k.y hq)) fun hq => h0 (k.n hq)
theorem kE {α : Type} {f : α → List D} {l : List α} {i : Nat} {K : List D → Prop} {A : α → Prop} (h : ∀ a, A a → K (f a)) (k : Evry (fun a => l[i]? = some a) A) : ∀ row, (l.map f)[i]? = some row → K row := fun row hr => by
 obtain ⟨x, hx, rfl⟩ := Ui hr
 exact h x (k.y x hx)
end
theorem g {p X : Prop} (k : p) (H : p → X := by
  intro k
  with_reducible first
   | exact sA rfl k
   | exact sI rfl rfl k
   | exact sT rfl k
   | exact sB rfl k
   | (refine Y7 ?_
      first
       | exact Yr k
       | (first | refine ao1 rfl rfl fun K HK => ?_ | refine ao1' rfl fun K HK => ?_
          first | refine Yh rfl ?_ | skip
          simp only [go_sem, ↓reduceIte, Nat.reduceEqDiff, Nat.reduceAdd, Nat.reduceLeDiff, Nat.reduceBEq, Nat.reduceMul, Int.reduceEq, Int.reduceLT, Int.reduceLE, F]
          first
           | exact kB (HK _ _) (HK _ _) k
           | exact kN (HK _ _) (HK _ _) k
           | exact ⟨by omega, by omega, W9 (by assumption) (HK _ _ k)⟩
           | exact ⟨by omega, by omega, kE (fun _ => HK _ _) k⟩
           | exact ⟨by omega, W9 (by assumption) (HK _ _ k)⟩
           | exact Ya8 (by simp only [go_sem, ↓reduceIte, Nat.reduceEqDiff, Nat.reduceAdd, F]) rfl rfl (by first | omega | simp) (by first | omega | simp) (by simp only [go_sem, ↓reduceIte, Nat.reduceEqDiff, Nat.reduceAdd, F]; omega) (HK _ _ k)
           | exact HK _ _ k)
       | exact ao0 rfl rfl k
       | exact ao0' rfl k)
   | (refine W2 ?_
      first
       | exact Jd k
       | (refine aq1 rfl rfl fun K HK => ?_
          first | refine Yh rfl ?_ | skip
          simp only [go_sem, ↓reduceIte, Nat.reduceEqDiff, Nat.reduceAdd, Nat.reduceLeDiff, Nat.reduceBEq, Nat.reduceMul, Int.reduceEq, Int.reduceLT, Int.reduceLE, F]
          first
           | exact kB (HK _ _ rfl) (HK _ _ rfl) k
           | exact kN (HK _ _ rfl) (HK _ _ rfl) k
           | exact ⟨by omega, by omega, W9 (by assumption) (HK _ _ rfl k)⟩
           | exact ⟨by omega, by omega, kE (fun _ => HK _ _ rfl) k⟩
           | exact ⟨by omega, W9 (by assumption) (HK _ _ rfl k)⟩
           | exact Ya8 (by simp only [go_sem, ↓reduceIte, Nat.reduceEqDiff, Nat.reduceAdd, F]) rfl rfl (by first | omega | simp) (by first | omega | simp) (by simp only [go_sem, ↓reduceIte, Nat.reduceEqDiff, Nat.reduceAdd, F]; omega) (HK _ _ rfl k)
           | exact HK _ _ rfl k)
       | exact aq0 rfl rfl k)
   | fail) : X := H k
theorem g0 {p X : Prop} (k : p) (H : p → X := by
  intro k
  with_reducible first
   | exact sA rfl k
   | exact sI rfl rfl k
   | exact sT rfl k
   | exact sB rfl k
   | (refine Y7 ?_
      first
       | exact Yr k
       | (first | refine ao1 rfl rfl fun K HK => ?_ | refine ao1' rfl fun K HK => ?_
          first | refine Yh rfl ?_ | skip
          simp only [go_sem, ↓reduceIte, Nat.reduceEqDiff, Nat.reduceAdd, Nat.reduceLeDiff, Nat.reduceBEq, Nat.reduceMul, Int.reduceEq, Int.reduceLT, Int.reduceLE, F]
          first
           | exact ⟨by omega, by omega, W9 (by assumption) (HK _ _ k)⟩
           | exact ⟨by omega, by omega, kE (fun _ => HK _ _) k⟩
           | exact ⟨by omega, W9 (by assumption) (HK _ _ k)⟩
           | exact Ya8 (by simp only [go_sem, ↓reduceIte, Nat.reduceEqDiff, Nat.reduceAdd, F]) rfl rfl (by first | omega | simp) (by first | omega | simp) (by simp only [go_sem, ↓reduceIte, Nat.reduceEqDiff, Nat.reduceAdd, F]; omega) (HK _ _ k)
           | exact HK _ _ k)
       | exact ao0 rfl rfl k
       | exact ao0' rfl k)
   | (refine W2 ?_
      first
       | exact Jd k
       | (refine aq1 rfl rfl fun K HK => ?_
          first | refine Yh rfl ?_ | skip
          simp only [go_sem, ↓reduceIte, Nat.reduceEqDiff, Nat.reduceAdd, Nat.reduceLeDiff, Nat.reduceBEq, Nat.reduceMul, Int.reduceEq, Int.reduceLT, Int.reduceLE, F]
          first
           | exact ⟨by omega, by omega, W9 (by assumption) (HK _ _ rfl k)⟩
           | exact ⟨by omega, by omega, kE (fun _ => HK _ _ rfl) k⟩
           | exact ⟨by omega, W9 (by assumption) (HK _ _ rfl k)⟩
           | exact Ya8 (by simp only [go_sem, ↓reduceIte, Nat.reduceEqDiff, Nat.reduceAdd, F]) rfl rfl (by first | omega | simp) (by first | omega | simp) (by simp only [go_sem, ↓reduceIte, Nat.reduceEqDiff, Nat.reduceAdd, F]; omega) (HK _ _ rfl k)
           | exact HK _ _ rfl k)
       | exact aq0 rfl rfl k)
   | fail) : X := H k
section
variable {P : Program} {G : Nat → D} {n : Nat} {e : Nat → D} {h : List Ob} {ops : Array Oper} {rest : List Oper} {Q : S → Prop} {t : Nat} {ty : TypeId} {pos : String} {aft : Array Edge} {gd : Option (Nat × Bool)} {x : Operand} {args : Array Operand} {tys : Array TypeId} {f : FuncId} {cap : List D} {h' : List Ob} {d : D}
theorem gc (hw : Yo ops gd e = some true) (ht : decide (t < n) = true) (hx : ev G e x = .fn f cap) (he : entB P f = true) (hc : Does P G f h (args.toList.map (ev G e) ++ cap) (fun h1 r => h1 = h' ∧ r = d)) (k : ao P G ops rest Q ⟨n, upd e t d, h'⟩) : ao P G ops (⟨some t, .call ⟨.value x, args, tys⟩, ty, pos, aft, gd⟩ :: rest) Q ⟨n, e, h⟩ := ao2 hw ht hx he hc (by rintro _ _ ⟨rfl, rfl⟩; exact k)
end
end
section
attribute [local irreducible] on aOp
attribute [local go_sem] decide_true decide_false Zj Ze
attribute [local simp] byD_len
theorem Uh (s : ByteArray) : strX s = [.v (.string s)] := rfl
theorem Yi9 {s : ByteArray} {k : Nat} {b : UInt8} (h : s.data[k]? = some b) : s.data.toList.drop k = b :: s.data.toList.drop (k + 1) := by
 have h2 : s.data.toList[k]? = some b := by rw [Array.getElem?_toList]; exact h
 obtain ⟨hl, rfl⟩ := List.getElem?_eq_some_iff.1 h2
 exact Z6 hl
theorem Zx4 {s : ByteArray} {b : UInt8} (h : s.data[0]? = some b) : s.data.toList.getD 0 0 = b := by
 have h2 : s.data.toList[0]? = some b := by rw [Array.getElem?_toList]; exact h
 rw [List.getD_eq_getElem?_getD, h2]; rfl
def nameR (s : ByteArray) : Prop := (1 ≤ s.size ∧ s.size ≤ 16) ∧ 97 ≤ (s.data.toList.getD 0 0).toNat ∧ (s.data.toList.getD 0 0).toNat ≤ 122
theorem Zf8 {s : ByteArray} (h : ¬ nameR s) : Wg s = false := by
 unfold nameR at h; unfold Wg
 by_cases h1 : 1 ≤ s.size ∧ s.size ≤ 16
 · rw [decide_eq_false (p := (97 : Int) ≤ _ ∧ _) (by omega)]; simp
 · rw [decide_eq_false h1]; rfl
theorem Zw8 {s : ByteArray} (h : nameR s) : Wg s = s.data.toList.all fun c => Zi8 c.toNat := by
 unfold nameR at h; unfold Wg
 rw [decide_eq_true h.1, decide_eq_true (p := (97 : Int) ≤ _ ∧ _) (by omega)]; rfl
variable (G : Nat → D) (hG : ∀ g, low 0 (G g))
include hG
attribute [local go_sem] Bool.false_eq_true Zb Zd Zc Int.toNat_natCast List.length_map Z1 Z8 Z0 Z4 Z9 Uh
attribute [local go_sem ↓] reduceIte
theorem rName_d (s : ByteArray) (hs : s.size ≤ 9223372036854775807) (h : List Ob) : Does Zh G 166 h [.v (.string s)] (fun h' r => h' = h ∧ r = .v (.bool (Wg s))) := by
 refine Y5 Tryz.func166 rfl (Z2 rfl) hG fun hl0 _ => ?_
 simp only [Tryz.ntmps166]
 by_cases hsz : 1 ≤ s.size ∧ s.size ≤ 16
 rotate_left
 · have e1 := Zf8 (s := s) (fun h => hsz h.1)
   repeat' first
    | refine g ?_
    | refine Two.mk (fun hq => ?_) fun hq => ?_
    | (exfalso; omega)
   all_goals exact ⟨.inr rfl, endD (r := .v (.bool false)) hl0 rfl (by simp) (by simp) rfl (by rw [low]; trivial) ⟨rfl, by rw [e1]⟩⟩
 obtain ⟨b0, hb0⟩ : ∃ b, s.data[0]? = some b := ⟨s.data[0]'(by show 0 < s.size; omega), Zf _⟩
 have g0 := Zx4 hb0
 by_cases hb : 97 ≤ b0.toNat ∧ b0.toNat ≤ 122
 rotate_left
 · have e1 := Zf8 (s := s) (fun h => hb (by rw [← g0]; exact h.2))
   repeat' first
    | (with_reducible refine Y7 ?_; (refine ao1 rfl rfl fun K HK => ?_; simp only [go_sem]; refine U7 (by simp only [go_sem]) hb0 (by first | rfl | omega) ?_; refine HK _ _ ?_; clear HK K))
    | refine g ?_
    | refine Two.mk (fun hq => ?_) fun hq => ?_
    | (exfalso; omega)
   all_goals first | (exfalso; omega) | exact ⟨.inr rfl, endD (r := .v (.bool false)) hl0 rfl (by simp) (by simp) rfl (by rw [low]; trivial) ⟨rfl, by rw [e1]⟩⟩
 have e1 := Zw8 (s := s) ⟨hsz, by rw [g0]; exact hb⟩
 repeat' first
  | (with_reducible refine Y7 ?_; (refine ao1 rfl rfl fun K HK => ?_; simp only [go_sem]; refine U7 (by simp only [go_sem]) hb0 (by first | rfl | omega) ?_; refine HK _ _ ?_; clear HK K))
  | refine g ?_
  | refine Two.mk (fun hq => ?_) fun hq => ?_
  | (exfalso; omega)
 all_goals try (exfalso; omega)
 refine Yn (fun m e h' => ∃ k : Nat, k ≤ s.size ∧ m = s.size - k ∧ Wg s = (s.data.toList.drop k).all (fun c => Zi8 c.toNat) ∧ h' = h ∧ e 0 = .v (.string s) ∧ e 3 = .v (.int .i64 k)) s.size ⟨0, Nat.zero_le _, rfl, e1, rfl, rfl, rfl⟩ ?_
 rintro m e h' ⟨k, hk, rfl, ho, rfl, e0, e3⟩
 by_cases hlt : k < s.size
 · obtain ⟨c, hc⟩ : ∃ b, s.data[k]? = some b := ⟨s.data[k]'hlt, Zf _⟩
   have wk : IntKind.i64.wrap ((k : Int) + 1) = (k : Int) + 1 := IntWalk.i64_in _ (by omega)
   rw [Yi9 hc, Z7] at ho
   have F : _ ∧ _ ∧ _ := ⟨e0, e3, wk⟩
   repeat' first
    | (with_reducible refine Y7 ?_; (refine ao1 rfl rfl fun K HK => ?_; simp only [go_sem, F]; refine U7 (by simp only [go_sem, F]) hc (by first | rfl | omega) ?_; refine HK _ _ ?_; clear HK K))
    | refine g ?_
    | refine Two.mk (fun hq => ?_) fun hq => ?_
    | (exfalso; omega)
   all_goals first
   | exact ⟨rfl, s.size - (k + 1), by omega, k + 1, hlt, rfl, by rw [ho, show Zi8 c.toNat = true from decide_eq_true (by omega)]; rfl, rfl, e0, rfl⟩
   | exact ⟨.inr rfl, endD (r := .v (.bool false)) hl0 rfl (by simp) (by simp) rfl (by rw [low]; trivial) ⟨rfl, by rw [ho, show Zi8 c.toNat = false from decide_eq_false (by omega)]; rfl⟩⟩
 · skip
   have F : _ ∧ _ := ⟨e0, e3⟩
   repeat' first
    | refine g ?_
    | refine Two.mk (fun hq => ?_) fun hq => ?_
    | (exfalso; omega)
   exact ⟨.inr rfl, endD (r := .v (.bool true)) hl0 rfl (by simp) (by simp) rfl (by rw [low]; trivial) ⟨rfl, by rw [ho, Z5 (by show s.data.toList.length ≤ k; rw [Array.length_toList]; show s.size ≤ k; omega)]; rfl⟩⟩
theorem rIn_d (l : List ByteArray) (a : ByteArray) (hl : l.length ≤ 9223372036854775807) (h : List Ob) : Does Zh G 167 h [.sl 1 (l.map strX), .v (.string a)] (fun h' r => h' = h ∧ r = .v (.bool (hasS l a))) := by
 refine Y5 Tryz.func167 rfl (Z2 rfl) hG fun hl0 _ => ?_
 simp only [Tryz.ntmps167]
 repeat' first
  | refine g0 ?_
  | fail
 refine Yn (fun m e h' => ∃ k : Nat, k ≤ l.length ∧ m = l.length - k ∧ hasS l a = hasS (l.drop k) a ∧ h' = h ∧ e 0 = .sl 1 (l.map strX) ∧ e 1 = .v (.string a) ∧ e 5 = .v (.int .i64 k)) l.length ⟨0, Nat.zero_le _, rfl, rfl, rfl, rfl, rfl, rfl⟩ ?_
 rintro m e h' ⟨k, hk, rfl, ho, rfl, e0, e1, e5⟩
 by_cases hlt : k < l.length
 · have hx : l[k]? = some l[k] := Z3 hlt
   have hd : l.drop k = l[k] :: l.drop (k + 1) := Z6 hlt
   generalize l[k] = x at hx hd
   have wk : IntKind.i64.wrap ((k : Int) + 1) = (k : Int) + 1 := IntWalk.i64_in _ (by omega)
   rw [hd, hasS] at ho
   have F : _ ∧ _ ∧ _ ∧ _ := ⟨e0, e1, e5, wk⟩
   repeat' first
    | refine g ?_
    | refine Two.mk (fun hq => ?_) fun hq => ?_
    | (exfalso; omega)
   · exact ⟨.inr rfl, endV hl0 rfl rfl ⟨rfl, by rw [ho, decide_eq_true hq]; rfl⟩⟩
   · exact ⟨rfl, l.length - (k + 1), by omega, k + 1, hlt, rfl, by rw [ho, decide_eq_false hq]; rfl, rfl, e0, e1, rfl⟩
 · skip
   have F : _ ∧ _ ∧ _ := ⟨e0, e1, e5⟩
   repeat' first
    | refine g ?_
    | refine Two.mk (fun hq => ?_) fun hq => ?_
    | refine Evry.mk fun x hx => ?_
    | (exfalso; omega)
   exact ⟨by simp, endV hl0 rfl rfl ⟨rfl, by rw [ho, Z5 (by omega)]; rfl⟩⟩
theorem rRising_d (l : List ByteArray) (hl : l.length ≤ 9223372036854775807) (hs : ∀ s ∈ l, s.size ≤ 9223372036854775807) (h : List Ob) : Does Zh G 168 h [.sl 1 (l.map strX)] (fun h' r => h' = h ∧ r = .v (.bool (Za2 l))) := by
 rw [← rising_zero]
 refine Y5 Tryz.func168 rfl (Z2 rfl) hG fun hl0 _ => ?_
 simp only [Tryz.ntmps168]
 repeat' first
  | refine g0 ?_
  | fail
 refine Yn (fun m e h' => ∃ k : Nat, k ≤ l.length ∧ m = l.length - k ∧ Wd l 0 = Wd l k ∧ h' = h ∧ e 0 = .sl 1 (l.map strX) ∧ e 3 = .v (.int .i64 k)) l.length ⟨0, Nat.zero_le _, rfl, rfl, rfl, rfl, rfl⟩ ?_
 rintro m e h' ⟨k, hk, rfl, ho, rfl, e0, e3⟩
 by_cases hlt : k < l.length
 · have hx : l[k]? = some l[k] := Z3 hlt
   have hn := rName_d G hG l[k] (hs _ (List.getElem_mem hlt))
   have wk : IntKind.i64.wrap ((k : Int) + 1) = (k : Int) + 1 := IntWalk.i64_in _ (by omega)
   generalize hnb : Wg l[k] = nb at hn
   rcases Nat.eq_zero_or_pos k with h0 | h0
   · subst h0
     have ho := rising_step0 l hlt
     rw [hnb] at ho
     generalize l[0] = x at hx hn
     cases nb
     · skip
       have F : _ ∧ _ := ⟨e0, e3⟩
       repeat' first
        | (with_reducible refine Yj ?_; refine Yb mixd (by kernel_rfl) ?_)
        | refine g ?_
        | refine Two.mk (fun hq => ?_) fun hq => ?_
        | (with_reducible refine W2 ?_; refine aq2 rfl rfl rfl Zd8 (hn _) ?_)
        | (exfalso; omega)
       exact ⟨.inr rfl, endD (r := .v (.bool false)) hl0 rfl (by simp) (by simp) rfl (by rw [low]; trivial) ⟨rfl, by rw [ho]; rfl⟩⟩
     · skip
       have F : _ ∧ _ := ⟨e0, e3⟩
       repeat' first
        | (with_reducible refine Yj ?_; refine Yb mixd (by kernel_rfl) ?_)
        | refine g ?_
        | refine Two.mk (fun hq => ?_) fun hq => ?_
        | refine Evry.mk fun x hx => ?_
        | (with_reducible refine W2 ?_; refine aq2 rfl rfl rfl Zd8 (hn _) ?_)
        | (exfalso; omega)
       exact ⟨rfl, l.length - 1, by omega, 1, hlt, rfl, by rw [ho]; rfl, rfl, e0, rfl⟩
   · obtain ⟨j, rfl⟩ : ∃ j, k = j + 1 := ⟨k - 1, by omega⟩
     have hy : l[j]? = some l[j] := Z3 (by omega)
     rw [rising_step l j hlt, hnb] at ho
     generalize l[j + 1] = x at hx hn ho
     generalize l[j] = y at hy ho
     have wm : IntKind.i64.wrap (((j + 1 : Nat) : Int) - 1) = (j : Int) := by rw [show ((j + 1 : Nat) : Int) - 1 = (j : Int) by omega]; exact IntWalk.i64_in _ (by omega)
     have gp : decide ((0 : Int) < ((j + 1 : Nat) : Int)) = true := decide_eq_true (by omega)
     unfold Jf at ho
     cases nb
     · skip
       have F : _ ∧ _ ∧ _ ∧ _ ∧ _ := ⟨e0, e3, wk, wm, gp⟩
       repeat' first
        | (with_reducible refine Yj ?_; refine Yb mixd (by kernel_rfl) ?_)
        | refine g ?_
        | refine Two.mk (fun hq => ?_) fun hq => ?_
        | (with_reducible refine W2 ?_; refine aq2 rfl rfl rfl Zd8 (hn _) ?_)
        | (exfalso; omega)
       exact ⟨.inr rfl, endD (r := .v (.bool false)) hl0 rfl (by simp) (by simp) rfl (by rw [low]; trivial) ⟨rfl, by rw [ho]; rfl⟩⟩
     · cases hlt2 : Op.bytesLess y.toList x.toList
       · skip
         have F : _ ∧ _ ∧ _ ∧ _ ∧ _ ∧ _ := ⟨e0, e3, wk, wm, gp, hlt2⟩
         repeat' first
          | (with_reducible refine Yj ?_; refine Yb mixd (by kernel_rfl) ?_)
          | refine g ?_
          | refine Two.mk (fun hq => ?_) fun hq => ?_
          | (with_reducible refine W2 ?_; refine aq2 rfl rfl rfl Zd8 (hn _) ?_)
          | (exfalso; omega)
         exact ⟨.inr rfl, endD (r := .v (.bool false)) hl0 rfl (by simp) (by simp) rfl (by rw [low]; trivial) ⟨rfl, by rw [ho, hlt2]; rfl⟩⟩
       · skip
         have F : _ ∧ _ ∧ _ ∧ _ ∧ _ ∧ _ := ⟨e0, e3, wk, wm, gp, hlt2⟩
         repeat' first
          | (with_reducible refine Yj ?_; refine Yb mixd (by kernel_rfl) ?_)
          | refine g ?_
          | refine Two.mk (fun hq => ?_) fun hq => ?_
          | (with_reducible refine W2 ?_; refine aq2 rfl rfl rfl Zd8 (hn _) ?_)
          | (exfalso; omega)
         exact ⟨rfl, l.length - (j + 2), by omega, j + 2, by omega, rfl, by rw [ho, hlt2]; rfl, rfl, e0, rfl⟩
 · skip
   have F : _ ∧ _ := ⟨e0, e3⟩
   repeat' first
    | (with_reducible refine Yj ?_; refine Yb mixd (by kernel_rfl) ?_)
    | refine g ?_
    | refine Two.mk (fun hq => ?_) fun hq => ?_
    | refine Evry.mk fun x hx => ?_
    | (exfalso; omega)
   exact ⟨by simp, endV hl0 rfl rfl ⟨rfl, by rw [ho, rising_end l k (by omega)]⟩⟩
end
section
attribute [local irreducible] on aOp
attribute [local go_sem] decide_true decide_false Zj Ze
attribute [local simp] byD_len
inductive Sm : Lat → Prop
 | mk (l : Lat) (h1 : l.names.length ≤ 9223372036854775807) (h2 : l.parts.length ≤ 9223372036854775807) (h3 : l.rules.length ≤ 9223372036854775807) (h4 : ∀ s ∈ l.names, s.size ≤ 9223372036854775807) (h5 : ∀ r ∈ l.rules, r.cond.length ≤ 9223372036854775807 ∧ ∀ s ∈ r.cond, s.size ≤ 9223372036854775807) (h6 : ∀ p ∈ l.parts, Sm p) : Sm l
theorem Sm.names {l : Lat} (h : Sm l) : l.names.length ≤ 9223372036854775807 := by cases h; assumption
theorem Sm.parts {l : Lat} (h : Sm l) : l.parts.length ≤ 9223372036854775807 := by cases h; assumption
theorem Sm.rules {l : Lat} (h : Sm l) : l.rules.length ≤ 9223372036854775807 := by cases h; assumption
theorem Sm.texts {l : Lat} (h : Sm l) : ∀ s ∈ l.names, s.size ≤ 9223372036854775807 := by cases h; assumption
theorem Sm.conds {l : Lat} (h : Sm l) : ∀ r ∈ l.rules, r.cond.length ≤ 9223372036854775807 ∧ ∀ s ∈ r.cond, s.size ≤ 9223372036854775807 := by cases h; assumption
theorem Sm.part {l : Lat} (h : Sm l) : ∀ p ∈ l.parts, Sm p := by cases h; assumption
theorem V2 (m : Nat) (l : Lat) : lowL m [.agg (latX l)] := by rw [lowL, lowL, low]; exact ⟨U4 m l, trivial⟩
theorem chain_no {l : Lat} (h : ¬ (l.kind = 1 ∨ l.kind = 2 ∨ l.kind = 3)) (h7 : l.kind ≠ 7 ∨ l.parts.length ≠ 2) : Wm l = false := by
 rw [Zm8, decide_eq_false h]
 rcases h7 with h7 | h7
 · rw [decide_eq_false h7]; rfl
 · rw [decide_eq_false h7, Bool.and_false]; rfl
theorem chain_two {l a b : Lat} (h : ¬ (l.kind = 1 ∨ l.kind = 2 ∨ l.kind = 3)) (h7 : l.kind = 7) (hp : l.parts = [a, b]) : Wm l = (Wm a && Wm b) := by
 rw [Zm8, decide_eq_false h, decide_eq_true h7, hp]; simp
variable (G : Nat → D) (hG : ∀ g, low 0 (G g))
include hG
attribute [local go_sem] Bool.false_eq_true Zb Zd Zc Int.toNat_one Int.toNat_zero List.length_map Z1 Z8 Z0 Z4 Z9 Xz Wh
attribute [local go_sem ↓] reduceIte
theorem rChain_d (n : Nat) : ∀ (l : Lat), SizeOf.sizeOf l ≤ n → Sm l → ∀ (h : List Ob), Does Zh G 148 h [.agg (latX l)] (fun h' r => h' = h ∧ r = .v (.bool (Wm l))) := by
 induction n with
 | zero => intro l hn; cases l; simp at hn
 | succ n ih =>
 intro l hn hsm h
 refine Yk G hG (V2 _ l) (by rw [low]; trivial) ?_ h
 clear h
 have hpl := hsm.parts
 have hpp : ∀ p ∈ l.parts, ∀ (b : Bool), Wm p = b → ∀ (h : List Ob), Does Zh G 148 h [.agg (latX p)] (fun h' r => h' = h ∧ r = .v (.bool b)) := fun p hp b hb h => hb ▸ ih p (by have := V6 hp; omega) (hsm.part p hp) h
 generalize hkk : l.kind = k
 by_cases h123 : k = 1 ∨ k = 2 ∨ k = 3
 · have e1 : Wm l = true := by rw [Zm8, hkk, decide_eq_true h123]; rfl
   rw [e1]
   refine Y5 Tryz.func148 rfl (Z2 rfl) hG fun hl0 _ => ?_
   simp only [Tryz.ntmps148]
   have F : _ ∧ _ := ⟨Y4, hkk⟩
   repeat' first
    | refine g ?_
    | refine Two.mk (fun hq => ?_) fun hq => ?_
    | (exfalso; omega)
   all_goals first | (exfalso; omega) | exact ⟨.inr rfl, endD (r := .v (.bool true)) hl0 rfl (by simp) (by simp) rfl (by rw [low]; trivial) ⟨rfl, rfl⟩⟩
 by_cases h7 : k = 7 ∧ l.parts.length = 2
 rotate_left
 · have e1 : Wm l = false := chain_no (by rw [hkk]; exact h123) (by rw [hkk]; omega)
   rw [e1]
   refine Y5 Tryz.func148 rfl (Z2 rfl) hG fun hl0 _ => ?_
   simp only [Tryz.ntmps148]
   have F : _ ∧ _ := ⟨Y4, hkk⟩
   repeat' first
    | refine g ?_
    | refine Two.mk (fun hq => ?_) fun hq => ?_
    | (exfalso; omega)
   all_goals first | (exfalso; omega) | exact ⟨.inr rfl, endD (r := .v (.bool false)) hl0 rfl (by simp) (by simp) rfl (by rw [low]; trivial) ⟨rfl, rfl⟩⟩
 obtain ⟨rfl, h2⟩ := h7
 obtain ⟨a, b, hab⟩ : ∃ a b, l.parts = [a, b] := by
  match hm : l.parts, h2 with
  | [a, b], _ => exact ⟨a, b, rfl⟩
 rw [chain_two (by rw [hkk]; exact h123) hkk hab]
 have ha := hpp a (by rw [hab]; simp)
 have hb := hpp b (by rw [hab]; simp)
 have hx0 : l.parts[0]? = some a := by rw [hab]; rfl
 have hx1 : l.parts[1]? = some b := by rw [hab]; rfl
 clear hab
 refine Y5 Tryz.func148 rfl (Z2 rfl) hG fun hl0 _ => ?_
 simp only [Tryz.ntmps148]
 cases hca : Wm a
 · skip
   have F : _ ∧ _ ∧ _ := ⟨Y4 l, hkk, h2⟩
   repeat' first
    | refine g ?_
    | refine Two.mk (fun hq => ?_) fun hq => ?_
    | (with_reducible refine Y7 ?_; refine gc rfl rfl rfl Yj3 (ha _ hca _) ?_)
    | (exfalso; omega)
   all_goals first | (exfalso; omega) | exact ⟨.inr rfl, endD (r := .v (.bool false)) hl0 rfl (by simp) (by simp) rfl (by rw [low]; trivial) ⟨rfl, by rfl⟩⟩
 · cases hcb : Wm b
   all_goals
    skip
    have F : _ ∧ _ ∧ _ := ⟨Y4 l, hkk, h2⟩
    repeat' first
     | refine g ?_
     | refine Two.mk (fun hq => ?_) fun hq => ?_
     | (with_reducible refine Y7 ?_; first | refine gc rfl rfl rfl Yj3 (ha _ hca _) ?_ | refine gc rfl rfl rfl Yj3 (hb _ hcb _) ?_)
     | (exfalso; omega)
   all_goals first | (exfalso; omega) | exact ⟨.inr rfl, endV hl0 rfl rfl ⟨rfl, by rfl⟩⟩
end
end Go.Proofs.YtmdjnaobllajmaaGreatDoor
