/-
  What the statements of the chapter share, part 14: PL1, LX, GO, LA1, RSpec, PRd, PL2, PL3, PL4, CY, RB0.
-/
import Derived.Test.YtbhkcbidcfofiaaGreatY01
import Derived.Test.YtbhkcbidcfofiaaGreatY07
import Derived.Test.YtbhkcbidcfofiaaGreatY09
import Derived.Test.YtbhkcbidcfofiaaGreatY10
import Derived.Test.YtbhkcbidcfofiaaGreatY13
import Derived.Lib.Strings
set_option linter.unusedVariables false
set_option linter.unusedSimpArgs false
set_option maxRecDepth 100000
set_option maxHeartbeats 8000000
namespace Go.Proofs.YtbhkcbidcfofiaaGreat
open _root_.Array renaming getElem?_eq_getElem → Zn
open _root_.Bool renaming and_eq_true → Z0, false_eq_true → Z2, false_ne_true → Zc, not_false → Zm, true_and → Zs, not_true → Zt
open _root_.ByteArray renaming empty → Zq
open _root_.Int renaming reduceEq → Zj, reduceLT → Zk, reduceLE → Zl
open _root_.List renaming drop_eq_nil_of_le → Z4, getElem?_eq_getElem → Z5, drop_eq_getElem_cons → Z7, append_assoc → Z8, all_eq_true → Z9, all_cons → Zb, flatMap_cons → Zd, sizeOf_lt_of_mem → Ze, length_cons → Zg, length_drop → Zo, append_nil → Zp
open _root_.Nat renaming reduceEqDiff → Z1, reduceAdd → Z3, zero_le → Z6, reduceLeDiff → Za, le_of_ble_eq_true → Zf, reduceBEq → Zh, reduceMul → Zi, le_refl → Zr
open Go.RowKit
section
def Zn3 (c : Int) : Bool := decide ((97 ≤ c ∧ c ≤ 122) ∨ (48 ≤ c ∧ c ≤ 57) ∨ c = 45)
def strEq (a b : ByteArray) : Bool := decide (a = b)
def hasS : List ByteArray → ByteArray → Bool
 | [], _ => false
 | x :: s, c => decide (x = c) || hasS s c
theorem Xn : ∀ (l : List ByteArray) (c : ByteArray), hasS l c = true ↔ c ∈ l
 | [], c => by simp [hasS]
 | x :: s, c => by rw [hasS, Bool.or_eq_true, decide_eq_true_eq, Xn, List.mem_cons, eq_comm]
theorem V3 {α : Type} (xs : List α) (k : Nat) (h : k < xs.length) : xs.drop k = xs[k] :: xs.drop (k + 1) := Z7 h
def Xm (a b : List ByteArray) : Bool := a.all fun s => hasS b s
def J2 (a b : ByteArray) : Bool := Op.bytesLess a.toList b.toList
def Xj : ByteArray → List ByteArray → Bool
 | _, [] => true
 | p, x :: t => J2 p x && Xj x t
def Wa : List ByteArray → Bool
 | [] => true
 | x :: t => Xj x t
theorem Zy2 (l : List ByteArray) (k : Nat) (h : k + 1 < l.length) : Xj (l[k]'(by omega)) (l.drop (k + 1)) = (J2 (l[k]'(by omega)) l[k + 1] && Xj l[k + 1] (l.drop (k + 2))) := by
  rw [V3 l (k + 1) h, Xj]
def Wm (s : ByteArray) : Bool := decide (1 ≤ s.size ∧ s.size ≤ 16) && (decide ((97 : Int) ≤ ((s.data.toList.getD 0 0).toNat : Int) ∧ ((s.data.toList.getD 0 0).toNat : Int) ≤ 122) && s.data.toList.all fun c => Zn3 c.toNat)
theorem all_attach {α : Type} (l : List α) (f : α → Bool) : (l.attach.all fun p => f p.1) = l.all f := by
  rw [Bool.eq_iff_iff]
  simp [Z9]
def Wc : Lat → Bool
 | .mk k _ _ _ ps _ => decide (k = 1 ∨ k = 2 ∨ k = 3) || (decide (k = 7) && decide (ps.length = 2) && ps.attach.all fun p => Wc p.1)
 termination_by l => SizeOf.sizeOf l
 decreasing_by
  have := Ze p.2
  simp only [Lat.mk.sizeOf_spec]
  omega
theorem Zh7 (l : Lat) : Wc l = (decide (l.kind = 1 ∨ l.kind = 2 ∨ l.kind = 3) || (decide (l.kind = 7) && decide (l.parts.length = 2) && l.parts.all Wc)) := by
 cases l with
 | mk k lo hi ns ps rs => rw [Wc, all_attach]; rfl
theorem Yu {l p : Lat} (h : p ∈ l.parts) : SizeOf.sizeOf p < SizeOf.sizeOf l := by
 cases l with
 | mk k lo hi ns ps rs =>
   have := Ze h
   simp only [Lat.parts] at this
   simp only [Lat.mk.sizeOf_spec]
   omega
def Un (b : Bool) (e : Int) : Int := if b then e else 0
def Ya5 (k : Int) : Nat := if k = 6 then 8 else if k = 10 then 12 else 32
def Za2 (l : Lat) : Bool := decide (Ya5 l.kind < l.names.length ∨ 32 < l.rules.length)
def Zf6 (l : Lat) : Bool := decide (l.hi < l.lo ∨ l.lo < -1000000000 ∨ 1000000000 < l.lo ∨ l.hi < -1000000000 ∨ 1000000000 < l.hi)
def Vd (l : Lat) : Bool := decide (l.kind = 7) && !(match l.parts with
 | p :: _ => Wc p
 | [] => true)
def Vk (k : Int) (n : Nat) : Option (Nat × Bool × Bool × Bool) :=
 if k = 1 ∨ k = 9 then some (0, false, false, false) else if k = 2 ∨ k = 3 then some (0, false, false, true)
 else if k = 4 ∨ k = 8 then some (0, true, false, false) else if k = 5 then some (1, true, false, false)
 else if k = 7 then some (2, false, false, false) else if k = 6 then some (n, true, false, false)
 else if k = 10 then some (0, true, true, false) else none
def Za5 (k lo hi : Int) (nn np nr : Nat) : Bool := match Vk k nn with
 | none => true
 | some (p, named, ruled, ranged) => decide (np ≠ p) || (!named && decide (0 < nn)) || (!ruled && decide (0 < nr)) || (!ranged && decide (lo ≠ 0 ∨ hi ≠ 0)) || (decide (k = 6 ∨ k = 10) && decide (nn = 0))
def Wx (l : Lat) : Bool := Za5 l.kind l.lo l.hi l.names.length l.parts.length l.rules.length
theorem shape_kinds (k : Int) (n : Nat) : (Vk k n = some (0, false, false, false) ∧ (k = 1 ∨ k = 9)) ∨ (Vk k n = some (0, false, false, true) ∧ (k = 2 ∨ k = 3)) ∨
 (Vk k n = some (0, true, false, false) ∧ (k = 4 ∨ k = 8)) ∨ (Vk k n = some (1, true, false, false) ∧ k = 5) ∨ (Vk k n = some (2, false, false, false) ∧ k = 7) ∨
 (Vk k n = some (n, true, false, false) ∧ k = 6) ∨ (Vk k n = some (0, true, true, false) ∧ k = 10) ∨ (Vk k n = none ∧ ¬ (1 ≤ k ∧ k ≤ 10)) := by
 by_cases h1 : k = 1
 · subst h1; simp [Vk]
 by_cases h2 : k = 2
 · subst h2; simp [Vk]
 by_cases h3 : k = 3
 · subst h3; simp [Vk]
 by_cases h4 : k = 4
 · subst h4; simp [Vk]
 by_cases h5 : k = 5
 · subst h5; simp [Vk]
 by_cases h6 : k = 6
 · subst h6; simp [Vk]
 by_cases h7 : k = 7
 · subst h7; simp [Vk]
 by_cases h8 : k = 8
 · subst h8; simp [Vk]
 by_cases h9 : k = 9
 · subst h9; simp [Vk]
 by_cases h10 : k = 10
 · subst h10; simp [Vk]
 · simp [Vk, h1, h2, h3, h4, h5, h6, h7, h8, h9, h10]; omega
def nmGo (p : Bool) (full : List ByteArray) : Nat → List ByteArray → Bool
 | _, [] => true
 | k, s :: t => Wm s && !(p && hasS (full.take k) s) && nmGo p full (k + 1) t
def ruleB (ns : List ByteArray) (r : Rl) : Bool := decide (r.cond.length ≠ 0) && Wa r.cond && Xm r.cond ns && hasS ns r.concl
def Jt (ns : List ByteArray) (rs : List Rl) : Bool := rs.all (ruleB ns)
def Zk0 (l : Lat) : Bool := !(nmGo (l.kind == 6) l.names 0 l.names && (l.kind == 6 || Wa l.names) && Jt l.names l.rules)
theorem nmGo_step (p : Bool) (full : List ByteArray) (k : Nat) (h : k < full.length) : nmGo p full k (full.drop k) = (Wm full[k] && !(p && hasS (full.take k) full[k]) && nmGo p full (k + 1) (full.drop (k + 1))) := by
 rw [V3 full k h, nmGo]
theorem rulesB_step (ns : List ByteArray) (rs : List Rl) (k : Nat) (h : k < rs.length) : Jt ns (rs.drop k) = (ruleB ns rs[k] && Jt ns (rs.drop (k + 1))) := by
 rw [V3 rs k h]; unfold Jt; rw [Zb]
def latE (l : Lat) : Int := orI [Un (Za2 l) 6, Un (Zk0 l) 3, Un (Zf6 l) 5, Un (Vd l) 4]
def goL (g : Lat → Nat → Int × Nat) : List Lat → Nat → Int × Nat
 | [], n => (0, n)
 | p :: t, n => if (g p n).1 ≠ 0 then g p n else goL g t (g p n).2
def X5 : Nat → Lat → Nat → Int × Nat
 | 0, _, n => (6, n)
 | f + 1, l, n => if 64 ≤ n then (6, n) else if Wx l then (1, n + 1) else if latE l ≠ 0 then (latE l, n + 1) else goL (X5 f) l.parts (n + 1)
theorem goL_step (g : Lat → Nat → Int × Nat) (ps : List Lat) (k n : Nat) (h : k < ps.length) : goL g (ps.drop k) n = if (g ps[k] n).1 ≠ 0 then g ps[k] n else goL g (ps.drop (k + 1)) (g ps[k] n).2 := by
 rw [V3 ps k h, goL]
theorem Yf9 (l : Lat) (h : Wx l = false) (h7 : l.kind = 7) : l.parts.length = 2 := by
 unfold Wx Za5 at h
 rw [h7] at h
 simp [Vk] at h
 exact h.1.1.1
def chkE (l : Lat) : Int := (X5 6 l 0).1
def Zb8 (l : List ByteArray) : Bool := l.all Wm && Wa l
def Wq (l : List ByteArray) (k : Nat) : Bool := (l.drop k).all Wm && (match k with
 | 0 => Wa l
 | j + 1 => match l[j]? with
   | some p => Xj p (l.drop (j + 1))
   | none => true)
theorem rising_zero (l : List ByteArray) : Wq l 0 = Zb8 l := rfl
theorem rising_step0 (l : List ByteArray) (h : 0 < l.length) : Wq l 0 = (Wm l[0] && Wq l 1) := by
 cases l with
 | nil => simp at h
 | cons x t => simp [Wq, Wa, Bool.and_assoc]
theorem rising_step (l : List ByteArray) (j : Nat) (h : j + 1 < l.length) : Wq l (j + 1) = (Wm l[j + 1] && (J2 (l[j]'(by omega)) l[j + 1] && Wq l (j + 2))) := by
  unfold Wq
  simp only [Z5 h, Z5 (show j < l.length by omega)]
  rw [V3 l (j + 1) h, Zb, Xj, Bool.eq_iff_iff]
  simp only [Z0]
  constructor
  · rintro ⟨⟨a, b⟩, c, d⟩; exact ⟨a, c, b, d⟩
  · rintro ⟨a, c, b, d⟩; exact ⟨⟨a, b⟩, c, d⟩
theorem rising_end (l : List ByteArray) (k : Nat) (h : l.length ≤ k) : Wq l k = true := by
 unfold Wq
 rw [Z4 h]
 cases k with
 | zero =>
   have : l = [] := List.length_eq_zero_iff.1 (by omega)
   subst this; rfl
 | succ j =>
   show (true && _) = true
   rw [Zs]
   cases hj : l[j]? with
   | none => simp only [hj]
   | some p => simp only [hj]; rw [Z4 h]; rfl
theorem kindI_ranged {k : Int} {n : Nat} (h2 : k ≠ 2) (h3 : k ≠ 3) : Vk k n = none ∨ ∃ p a b, Vk k n = some (p, a, b, false) := by
 unfold Vk
 repeat' split
 all_goals first | exact .inl rfl | exact .inr ⟨_, _, _, rfl⟩ | omega
theorem kindI_ruled {k : Int} {n : Nat} (h10 : k ≠ 10) : Vk k n = none ∨ ∃ p a b, Vk k n = some (p, a, false, b) := by
 unfold Vk
 repeat' split
 all_goals first | exact .inl rfl | exact .inr ⟨_, _, _, rfl⟩ | omega
theorem Zo1 {k lo hi : Int} {nn np nr : Nat} (h2 : k ≠ 2) (h3 : k ≠ 3) (h : lo ≠ 0 ∨ hi ≠ 0) : Za5 k lo hi nn np nr = true := by
 unfold Za5
 rcases kindI_ranged (n := nn) h2 h3 with e | ⟨p, a, b, e⟩
 · rw [e]
 · rw [e]; simp [h]
theorem Ze8 {k lo hi : Int} {nn np nr : Nat} (h10 : k ≠ 10) (h : nr ≠ 0) : Za5 k lo hi nn np nr = true := by
 unfold Za5
 rcases kindI_ruled (n := nn) h10 with e | ⟨p, a, b, e⟩
 · rw [e]
 · rw [e]; simp [show 0 < nr by omega]
theorem Zy7 {k lo hi : Int} {nn np nr : Nat} (h : ¬ (1 ≤ k ∧ k ≤ 10)) : Za5 k lo hi nn np nr = true := by
 have hk : Vk k nn = none := by unfold Vk; rw [if_neg (by omega), if_neg (by omega), if_neg (by omega), if_neg (by omega), if_neg (by omega), if_neg (by omega), if_neg (by omega)]
 unfold Za5
 rw [hk]
def Ze2 (ns : List ByteArray) (r : Rl) : Bool := decide (r.cond.length ≠ 0) && (Zb8 r.cond && (hasS ns r.concl && r.cond.all (hasS ns)))
def Zg2 (k : Int) (ns : List ByteArray) (rs : List Rl) : Bool := if k = 6 then nmGo true ns 0 ns else Zb8 ns && rs.all (Ze2 ns)
theorem rules_step (ns : List ByteArray) (rs : List Rl) (k : Nat) (h : k < rs.length) : (rs.drop k).all (Ze2 ns) = (Ze2 ns rs[k] && (rs.drop (k + 1)).all (Ze2 ns)) := by
 rw [V3 rs k h, Zb]
theorem conds_step (ns : List ByteArray) (cs : List ByteArray) (k : Nat) (h : k < cs.length) : (cs.drop k).all (hasS ns) = (hasS ns cs[k] && (cs.drop (k + 1)).all (hasS ns)) := by
 rw [V3 cs k h, Zb]
theorem hasS_name {ns : List ByteArray} (h : ns.all Wm = true) {c : ByteArray} (hc : hasS ns c = true) : Wm c = true :=
 Z9.1 h c ((Xn _ _).1 hc)
theorem Yn0 (full : List ByteArray) : ∀ (k : Nat) (l : List ByteArray), nmGo false full k l = l.all Wm
 | _, [] => rfl
 | k, s :: t => by rw [nmGo, Yn0 full (k + 1) t, Zb, Bool.false_and, Zm, Bool.and_true]
theorem rule_eq {ns : List ByteArray} (h : ns.all Wm = true) (r : Rl) : Ze2 ns r = ruleB ns r := by
 unfold Ze2 ruleB Zb8
 have hq : Xm r.cond ns = r.cond.all (hasS ns) := rfl
 rw [hq]
 cases hs : r.cond.all (hasS ns)
 · simp
 · have : r.cond.all Wm = true := by
    rw [Z9] at hs ⊢
    intro c hc
    exact hasS_name h (hs c hc)
   rw [this]
   cases decide (r.cond.length ≠ 0) <;> cases Wa r.cond <;> cases hasS ns r.concl <;> rfl
theorem shapeB_rules {l : Lat} (h : Wx l = false) (h6 : l.kind = 6) : l.rules = [] := by
 refine List.eq_nil_of_length_eq_zero ?_
 by_cases h0 : l.rules.length = 0
 · exact h0
 · have := Ze8 (lo := l.lo) (hi := l.hi) (nn := l.names.length) (np := l.parts.length) (nr := l.rules.length) (k := l.kind) (by omega) h0
   exact absurd (h.symm.trans this) Zc
theorem spell_named {l : Lat} (h : Wx l = false) : Zk0 l = !(Zg2 l.kind l.names l.rules) := by
 unfold Zk0 Zg2
 by_cases h6 : l.kind = 6
 · rw [if_pos h6, shapeB_rules h h6, h6]
   have : Jt l.names [] = true := rfl
   rw [this]
   simp
 · rw [if_neg h6]
   have hk : (l.kind == 6) = false := by rw [beq_eq_false_iff_ne]; exact h6
   rw [hk, Yn0, Bool.false_or]
   unfold Zb8
   cases hn : l.names.all Wm
   · simp
   · have hr : Jt l.names l.rules = l.rules.all (Ze2 l.names) := by
      unfold Jt
      congr 1
      funext r
      exact (rule_eq hn r).symm
     rw [hr, Zs]
def Zl9 (l : Lat) (d : Int) (n : Nat) : Int := if 6 < d ∨ 64 ≤ n then 6 else if Wx l then 1 else if Za2 l then 6 else if Zg2 l.kind l.names l.rules = false then 3 else if l.hi < l.lo ∨ l.lo < -1000000000 ∨ 1000000000 < l.hi then 5 else if Vd l then 4 else 0
theorem ranges_iff (l : Lat) : Zf6 l = decide (l.hi < l.lo ∨ l.lo < -1000000000 ∨ 1000000000 < l.hi) := by
 unfold Zf6
 rw [decide_eq_decide]
 omega
theorem Yg8 (f : Nat) (l : Lat) (n : Nat) (d : Int) (hd : d = 7 - f) (hf : f ≤ 6) : Zl9 l d n ≠ 0 ∧ (X5 f l n).1 = Zl9 l d n ∨ Zl9 l d n = 0 ∧ ∃ g, f = g + 1 ∧ X5 f l n = goL (X5 g) l.parts (n + 1) := by
 unfold Zl9
 cases f with
 | zero =>
   left
   rw [if_pos (by omega)]
   exact ⟨by decide, rfl⟩
 | succ f =>
   have hv : X5 (f + 1) l n = if 64 ≤ n then (6, n) else if Wx l then (1, n + 1) else if latE l ≠ 0 then (latE l, n + 1) else goL (X5 f) l.parts (n + 1) := rfl
   by_cases h64 : 64 ≤ n
   · left
     rw [if_pos (.inr h64), hv, if_pos h64]
     exact ⟨by decide, rfl⟩
   · rw [if_neg (by omega), hv, if_neg h64]
     cases hs : Wx l
     · rw [if_neg Zc, if_neg Zc]
       have hc : latE l = if Za2 l then 6 else if Zg2 l.kind l.names l.rules = false then 3 else if l.hi < l.lo ∨ l.lo < -1000000000 ∨ 1000000000 < l.hi then 5 else if Vd l then 4 else 0 := by
        unfold latE
        rw [spell_named hs, ranges_iff]
        cases Za2 l <;> cases Zg2 l.kind l.names l.rules <;> by_cases hr : (l.hi < l.lo ∨ l.lo < -1000000000 ∨ 1000000000 < l.hi) <;> cases Vd l <;> simp [hr, Un, orI]
       rw [← hc]
       by_cases h0 : latE l = 0
       · right
         rw [if_neg (fun h => h h0)]
         exact ⟨h0, f, rfl, rfl⟩
       · left
         rw [if_pos h0]
         exact ⟨h0, rfl⟩
     · left
       rw [if_pos rfl, if_pos rfl]
       exact ⟨by decide, rfl⟩
theorem visit_le (f : Nat) : ∀ (l : Lat) (n : Nat), n ≤ 64 → (X5 f l n).2 ≤ 64 := by
 induction f with
 | zero => intro l n h; exact h
 | succ f ih =>
   intro l n h
   have hv : X5 (f + 1) l n = if 64 ≤ n then (6, n) else if Wx l then (1, n + 1) else if latE l ≠ 0 then (latE l, n + 1) else goL (X5 f) l.parts (n + 1) := rfl
   have hg : ∀ (ps : List Lat) (n : Nat), n ≤ 64 → (goL (X5 f) ps n).2 ≤ 64 := by
    intro ps
    induction ps with
    | nil => intro n h; exact h
    | cons p t ht =>
      intro n h
      rw [goL]
      split
      · exact ih p n h
      · exact ht _ (ih p n h)
   rw [hv]
   split
   · exact h
   · split
     · show n + 1 ≤ 64; omega
     · split
       · show n + 1 ≤ 64; omega
       · exact hg _ _ (by omega)
inductive WfL : Lat → Prop
 | mk (l : Lat) (h1 : Wx l = false) (h2 : latE l = 0) (h3 : ∀ p ∈ l.parts, WfL p) : WfL l
theorem WfL.shape {l : Lat} (h : WfL l) : Wx l = false := by cases h; assumption
theorem WfL.check {l : Lat} (h : WfL l) : latE l = 0 := by cases h; assumption
theorem WfL.part {l p : Lat} (h : WfL l) (hp : p ∈ l.parts) : WfL p := by cases h; rename_i h; exact h p hp
theorem Yo6 (g : Lat → Nat → Int × Nat) : ∀ (ps : List Lat) (n : Nat), (goL g ps n).1 = 0 → ∀ p ∈ ps, ∃ m, (g p m).1 = 0
 | [], _, _, p, hp => by simp at hp
 | q :: t, n, h, p, hp => by
   unfold goL at h
   by_cases h0 : (g q n).1 = 0
   · rw [if_neg (fun h => h h0)] at h
     rcases List.mem_cons.1 hp with rfl | hp
     · exact ⟨n, h0⟩
     · exact Yo6 g t _ h p hp
   · rw [if_pos h0] at h; exact absurd h h0
theorem Yj8 : ∀ (f : Nat) (l : Lat) (n : Nat), (X5 f l n).1 = 0 → WfL l
 | 0, l, n, h => by unfold X5 at h; exact absurd (show (6 : Int) = 0 from h) (by decide)
 | f + 1, l, n, h => by
   have e : X5 (f + 1) l n = if 64 ≤ n then (6, n) else if Wx l then (1, n + 1) else if latE l ≠ 0 then (latE l, n + 1) else goL (X5 f) l.parts (n + 1) := by cases l; rfl
   rw [e] at h
   by_cases h1 : 64 ≤ n
   · rw [if_pos h1] at h; exact absurd (show (6 : Int) = 0 from h) (by decide)
   rw [if_neg h1] at h
   cases h2 : Wx l
   · rw [if_neg (by rw [h2]; exact Zc)] at h
     by_cases h3 : latE l = 0
     · rw [if_neg (fun h => h h3)] at h
       exact .mk l h2 h3 fun p hp => by
         obtain ⟨m, hm⟩ := Yo6 _ _ _ h p hp
         exact Yj8 f p m hm
     · rw [if_pos h3] at h; exact absurd h h3
   · rw [if_pos h2] at h; exact absurd (show (1 : Int) = 0 from h) (by decide)
theorem Ut {l : Lat} (h : chkE l = 0) : WfL l := Yj8 6 l 0 h
theorem Zo9 {a b c d : Int} (h : orI [a, b, c, d] = 0) : a = 0 ∧ b = 0 ∧ c = 0 ∧ d = 0 := by
 unfold orI at h
 by_cases ha : a = 0
 · rw [if_pos ha] at h; unfold orI at h
   by_cases hb : b = 0
   · rw [if_pos hb] at h; unfold orI at h
     by_cases hc : c = 0
     · rw [if_pos hc] at h; unfold orI at h
       by_cases hd : d = 0
       · exact ⟨ha, hb, hc, hd⟩
       · rw [if_neg hd] at h; exact absurd h hd
     · rw [if_neg hc] at h; exact absurd h hc
   · rw [if_neg hb] at h; exact absurd h hb
 · rw [if_neg ha] at h; exact absurd h ha
theorem Zh9 {b : Bool} {e : Int} (he : e ≠ 0) (h : Un b e = 0) : b = false := by
 cases b
 · rfl
 · exact absurd h he
theorem WfL.limits {l : Lat} (h : WfL l) : Za2 l = false := Zh9 (by decide) (Zo9 h.check).1
theorem WfL.spell {l : Lat} (h : WfL l) : Zk0 l = false := Zh9 (by decide) (Zo9 h.check).2.1
theorem WfL.ranges {l : Lat} (h : WfL l) : Zf6 l = false := Zh9 (by decide) (Zo9 h.check).2.2.1
theorem WfL.kinds {l : Lat} (h : WfL l) : (1 ≤ l.kind ∧ l.kind ≤ 10) ∧ (l.kind = 5 → l.parts.length = 1) ∧ (l.kind = 7 → l.parts.length = 2) ∧ (l.kind = 6 → l.parts.length = l.names.length ∧ 1 ≤ l.names.length ∧ l.names.length ≤ 8) ∧
 (l.kind ≠ 5 → l.kind ≠ 6 → l.kind ≠ 7 → l.parts.length = 0) ∧ (l.kind ≠ 2 → l.kind ≠ 3 → l.lo = 0 ∧ l.hi = 0) ∧ (l.kind ≠ 10 → l.rules.length = 0) ∧ l.names.length ≤ 32 ∧ l.rules.length ≤ 32 ∧ (l.kind = 10 → 1 ≤ l.names.length ∧ l.names.length ≤ 12) ∧
 (l.kind = 1 ∨ l.kind = 2 ∨ l.kind = 3 ∨ l.kind = 7 ∨ l.kind = 9 → l.names.length = 0) := by
 have h1 := h.shape
 have h2 : ¬ (Ya5 l.kind < l.names.length ∨ 32 < l.rules.length) := of_decide_eq_false h.limits
 have hA : l.kind = 6 → l.names.length ≤ 8 := fun e => by unfold Ya5 at h2; rw [if_pos e] at h2; omega
 have hB : l.kind = 10 → l.names.length ≤ 12 := fun e => by unfold Ya5 at h2; rw [if_neg (by omega), if_pos e] at h2; omega
 have hC : l.names.length ≤ 32 := by
  unfold Ya5 at h2
  by_cases e : l.kind = 6
  · have := hA e; omega
  · by_cases e' : l.kind = 10
    · have := hB e'; omega
    · rw [if_neg e, if_neg e'] at h2; omega
 have hD : l.rules.length ≤ 32 := by omega
 unfold Wx Za5 at h1
 rcases shape_kinds l.kind l.names.length with ⟨hk, hx⟩ | ⟨hk, hx⟩ | ⟨hk, hx⟩ | ⟨hk, hx⟩ | ⟨hk, hx⟩ | ⟨hk, hx⟩ | ⟨hk, hx⟩ | ⟨hk, hx⟩
 all_goals
  rw [hk] at h1
  simp only [Bool.or_eq_false_iff, Bool.and_eq_false_iff, decide_eq_false_iff_not, Zt, Zm, Zs, Bool.false_and, reduceCtorEq, false_or, true_or, Decidable.not_not, Bool.true_eq_false, and_true, true_and] at h1
 all_goals omega
end
section
def strX (s : ByteArray) : List D := [.v (.string s)]
def Zo3 (r : Rl) : List D := [.sl 1 (r.cond.map strX), .v (.string r.concl)]
def tkX (t : Tk) : List D := [.v (.int .i64 t.process), .v (.int .i64 t.n)]
def enX (e : En) : List D := [.sl 2 (e.clock.map tkX), .v (.string e.name)]
mutual
def latX : Lat → List D
 | .mk k lo hi ns ps rs => [.v (.int .i64 k), .v (.int .i64 lo), .v (.int .i64 hi), .sl 1 (ns.map strX), .sl 6 (latXs ps), .sl 2 (rs.map Zo3)]
def latXs : List Lat → List (List D)
 | [] => []
 | p :: t => latX p :: latXs t
end
mutual
def vaX : Val → List D
 | .mk m ns ps es => [.v (.int .i64 m), .sl 1 (ns.map strX), .sl 4 (vaXs ps), .sl 2 (es.map enX)]
def vaXs : List Val → List (List D)
 | [] => []
 | p :: t => vaX p :: vaXs t
end
theorem latXs_map : ∀ l : List Lat, latXs l = l.map latX
 | [] => by rw [latXs]; rfl
 | p :: t => by rw [latXs, latXs_map t]; rfl
theorem vaXs_map : ∀ l : List Val, vaXs l = l.map vaX
 | [] => by rw [vaXs]; rfl
 | p :: t => by rw [vaXs, vaXs_map t]; rfl
theorem Y4 (l : Lat) : latX l = [.v (.int .i64 l.kind), .v (.int .i64 l.lo), .v (.int .i64 l.hi), .sl 1 (l.names.map strX), .sl 6 (l.parts.map latX), .sl 2 (l.rules.map Zo3)] := by
 cases l; rw [latX, latXs_map]; rfl
theorem Y5 (v : Val) : vaX v = [.v (.int .i64 v.n), .sl 1 (v.names.map strX), .sl 4 (v.parts.map vaX), .sl 2 (v.entries.map enX)] := by
 cases v; rw [vaX, vaXs_map]; rfl
theorem Zq0 (l : Lat) : (latX l).length = 6 := by rw [Y4]; rfl
theorem V9 (l : Val) : (vaX l).length = 4 := by rw [Y5]; rfl
theorem Yb3 (l : Lat) : (latX l).take 6 = latX l := List.take_of_length_le (by rw [Zq0]; omega)
theorem J0 (l : Val) : (vaX l).take 4 = vaX l := List.take_of_length_le (by rw [V9]; omega)
/-! What is read names no memory of a call's own. -/
section
variable (m : Nat)
theorem Vj {α : Type} {f : α → List D} {k : Nat} (l : List α) (q : ∀ x ∈ l, lowL m (f x)) : low m (.sl k (l.map f)) := by
 rw [low, Zp4]
 intro row hr
 obtain ⟨b, hb, rfl⟩ := List.mem_map.1 hr
 exact q b hb
theorem Xw (l : List ByteArray) : low m (.sl 1 (l.map strX)) := Vj m l fun _ _ => by simp [strX, lowL, low]
theorem Ya7 (l : List Rl) : low m (.sl 2 (l.map Zo3)) := Vj m l fun r _ => by rw [Zo3, lowL, lowL, lowL, low]; exact ⟨Xw m _, trivial, trivial⟩
theorem Zm4 (l : List En) : low m (.sl 2 (l.map enX)) := Vj m l fun r _ => by
 rw [enX, lowL, lowL, lowL, low]
 exact ⟨Vj m _ fun t _ => by simp [tkX, lowL, low], trivial, trivial⟩
mutual
theorem Yp : ∀ l : Lat, lowL m (latX l)
 | .mk k lo hi ns ps rs => by
  rw [latX]; simp only [lowL]
  exact ⟨by rw [low]; trivial, by rw [low]; trivial, by rw [low]; trivial, Xw m ns, by rw [low]; exact low_lats ps, Ya7 m rs, trivial⟩
theorem low_lats : ∀ l : List Lat, lowR m (latXs l)
 | [] => by rw [latXs, lowR]; trivial
 | p :: t => by rw [latXs, lowR]; exact ⟨Yp p, low_lats t⟩
end
mutual
theorem Yb : ∀ l : Val, lowL m (vaX l)
 | .mk n ns ps es => by
  rw [vaX]; simp only [lowL]
  exact ⟨by rw [low]; trivial, Xw m ns, by rw [low]; exact low_vals ps, Zm4 m es, trivial⟩
theorem low_vals : ∀ l : List Val, lowR m (vaXs l)
 | [] => by rw [vaXs, lowR]; trivial
 | p :: t => by rw [vaXs, lowR]; exact ⟨Yb p, low_vals t⟩
end
end
theorem Uh {P : Program} {t : TypeId} {κ : IntKind} {K : D → Prop} {s : ByteArray} {k : Nat} {m : Int} {b : UInt8} (h1 : strT P t = true) (hb : s.data[k]? = some b) (hm : m = (k : Int)) (q : K (.v (.int .u8 b.toNat))) : indA P t (.v (.string s)) (.v (.int κ m)) K := by
 have hk : k < s.size := (Array.getElem?_eq_some_iff.1 hb).1
 subst hm
 refine ind_str h1 (by omega) (by omega) fun c hc => ?_
 rw [Int.toNat_natCast, hb] at hc
 cases hc
 exact q
end
section
structure Two (q a b : Prop) : Prop where
 y : q → a
 n : ¬ q → b
structure Evry {α : Type} (q p : α → Prop) : Prop where
 y : ∀ a, q a → p a
theorem F : True := trivial
section
variable {K : List Ob → D → Prop} {h : List Ob} {q A B : Prop}
theorem kB [Decidable q] (h1 : A → K h (.v (.bool true))) (h0 : B → K h (.v (.bool false))) (k : Two q A B) : K h (.v (.bool (decide q))) := Ym (fun hq => h1 (k.y hq)) fun hq => h0 (k.n hq)
theorem kN [Decidable q] (h1 : A → K h (.v (.bool false))) (h0 : B → K h (.v (.bool true))) (k : Two q A B) : K h (.v (.bool (!decide q))) := Ze5 (fun hq => h1 (k.y hq)) fun hq => h0 (k.n hq)
theorem kE {α : Type} {f : α → List D} {l : List α} {i : Nat} {K : List D → Prop} {A : α → Prop} (h : ∀ a, A a → K (f a)) (k : Evry (fun a => l[i]? = some a) A) : ∀ row, (l.map f)[i]? = some row → K row := fun row hr => by
 obtain ⟨x, hx, rfl⟩ := Vr hr
 exact h x (k.y x hx)
end
theorem gg {p X : Prop} (k : p) (H : p → X := by
  intro k
  with_reducible first
   | exact sA rfl k
   | exact sI rfl rfl k
   | exact sT rfl k
   | exact sB rfl k
   | (refine Y7 ?_
      first
       | exact Yn k
       | (first | refine ao1 rfl rfl fun K HK => ?_ | refine ao1' rfl fun K HK => ?_
          first | refine Yi rfl ?_ | skip
          simp only [go_sem, ↓reduceIte, Nat.reduceEqDiff, Nat.reduceAdd, Nat.reduceLeDiff, Nat.reduceBEq, Nat.reduceMul, Int.reduceEq, Int.reduceLT, Int.reduceLE, F]
          first
           | exact kB (HK _ _) (HK _ _) k
           | exact kN (HK _ _) (HK _ _) k
           | exact ⟨by omega, by omega, Yo (by assumption) (HK _ _ k)⟩
           | exact ⟨by omega, by omega, kE (fun _ => HK _ _) k⟩
           | exact ⟨by omega, Yo (by assumption) (HK _ _ k)⟩
           | exact Vt (by simp only [go_sem, ↓reduceIte, Nat.reduceEqDiff, Nat.reduceAdd, F]) rfl rfl (by first | omega | simp) (by first | omega | simp) (by simp only [go_sem, ↓reduceIte, Nat.reduceEqDiff, Nat.reduceAdd, F]; omega) (HK _ _ k)
           | exact HK _ _ k)
       | exact ao0 rfl rfl k
       | exact ao0' rfl k)
   | (refine X6 ?_
      first
       | exact Ye3 k
       | (refine aq1 rfl rfl fun K HK => ?_
          first | refine Yi rfl ?_ | skip
          simp only [go_sem, ↓reduceIte, Nat.reduceEqDiff, Nat.reduceAdd, Nat.reduceLeDiff, Nat.reduceBEq, Nat.reduceMul, Int.reduceEq, Int.reduceLT, Int.reduceLE, F]
          first
           | exact kB (HK _ _ rfl) (HK _ _ rfl) k
           | exact kN (HK _ _ rfl) (HK _ _ rfl) k
           | exact ⟨by omega, by omega, Yo (by assumption) (HK _ _ rfl k)⟩
           | exact ⟨by omega, by omega, kE (fun _ => HK _ _ rfl) k⟩
           | exact ⟨by omega, Yo (by assumption) (HK _ _ rfl k)⟩
           | exact Vt (by simp only [go_sem, ↓reduceIte, Nat.reduceEqDiff, Nat.reduceAdd, F]) rfl rfl (by first | omega | simp) (by first | omega | simp) (by simp only [go_sem, ↓reduceIte, Nat.reduceEqDiff, Nat.reduceAdd, F]; omega) (HK _ _ rfl k)
           | exact HK _ _ rfl k)
       | exact aq0 rfl rfl k)
   | fail) : X := H k
theorem g0 {p X : Prop} (k : p) (H : p → X := by
  intro k
  with_reducible first
   | exact sA rfl k
   | exact sI rfl rfl k
   | exact sT rfl k
   | exact sB rfl k
   | (refine Y7 ?_
      first
       | exact Yn k
       | (first | refine ao1 rfl rfl fun K HK => ?_ | refine ao1' rfl fun K HK => ?_
          first | refine Yi rfl ?_ | skip
          simp only [go_sem, ↓reduceIte, Nat.reduceEqDiff, Nat.reduceAdd, Nat.reduceLeDiff, Nat.reduceBEq, Nat.reduceMul, Int.reduceEq, Int.reduceLT, Int.reduceLE, F]
          first
           | exact ⟨by omega, by omega, Yo (by assumption) (HK _ _ k)⟩
           | exact ⟨by omega, by omega, kE (fun _ => HK _ _) k⟩
           | exact ⟨by omega, Yo (by assumption) (HK _ _ k)⟩
           | exact Vt (by simp only [go_sem, ↓reduceIte, Nat.reduceEqDiff, Nat.reduceAdd, F]) rfl rfl (by first | omega | simp) (by first | omega | simp) (by simp only [go_sem, ↓reduceIte, Nat.reduceEqDiff, Nat.reduceAdd, F]; omega) (HK _ _ k)
           | exact HK _ _ k)
       | exact ao0 rfl rfl k
       | exact ao0' rfl k)
   | (refine X6 ?_
      first
       | exact Ye3 k
       | (refine aq1 rfl rfl fun K HK => ?_
          first | refine Yi rfl ?_ | skip
          simp only [go_sem, ↓reduceIte, Nat.reduceEqDiff, Nat.reduceAdd, Nat.reduceLeDiff, Nat.reduceBEq, Nat.reduceMul, Int.reduceEq, Int.reduceLT, Int.reduceLE, F]
          first
           | exact ⟨by omega, by omega, Yo (by assumption) (HK _ _ rfl k)⟩
           | exact ⟨by omega, by omega, kE (fun _ => HK _ _ rfl) k⟩
           | exact ⟨by omega, Yo (by assumption) (HK _ _ rfl k)⟩
           | exact Vt (by simp only [go_sem, ↓reduceIte, Nat.reduceEqDiff, Nat.reduceAdd, F]) rfl rfl (by first | omega | simp) (by first | omega | simp) (by simp only [go_sem, ↓reduceIte, Nat.reduceEqDiff, Nat.reduceAdd, F]; omega) (HK _ _ rfl k)
           | exact HK _ _ rfl k)
       | exact aq0 rfl rfl k)
   | fail) : X := H k
section
variable {P : Program} {G : Nat → D} {n : Nat} {e : Nat → D} {h : List Ob} {ops : Array Oper} {rest : List Oper} {Q : S → Prop} {t : Nat} {ty : TypeId} {pos : String} {aft : Array Edge} {gd : Option (Nat × Bool)} {x : Operand} {args : Array Operand} {tys : Array TypeId} {f : FuncId} {cap : List D} {h' : List Ob} {d : D}
theorem gc (hw : Yg ops gd e = some true) (ht : decide (t < n) = true) (hx : ev G e x = .fn f cap) (he : entB P f = true) (hc : Does P G f h (args.toList.map (ev G e) ++ cap) (fun h1 r => h1 = h' ∧ r = d)) (k : ao P G ops rest Q ⟨n, upd e t d, h'⟩) : ao P G ops (⟨some t, .call ⟨.value x, args, tys⟩, ty, pos, aft, gd⟩ :: rest) Q ⟨n, e, h⟩ := ao2 hw ht hx he hc (by rintro _ _ ⟨rfl, rfl⟩; exact k)
end
end
section
attribute [local irreducible] on aOp
attribute [local go_sem] decide_true decide_false Zt Zm
attribute [local simp] byD_len
theorem Wi (s : ByteArray) : strX s = [.v (.string s)] := rfl
theorem Yo7 {s : ByteArray} {k : Nat} {b : UInt8} (h : s.data[k]? = some b) : s.data.toList.drop k = b :: s.data.toList.drop (k + 1) := by
 have h2 : s.data.toList[k]? = some b := by rw [Array.getElem?_toList]; exact h
 obtain ⟨hl, rfl⟩ := List.getElem?_eq_some_iff.1 h2
 exact Z7 hl
theorem Yc2 {s : ByteArray} {b : UInt8} (h : s.data[0]? = some b) : s.data.toList.getD 0 0 = b := by
 have h2 : s.data.toList[0]? = some b := by rw [Array.getElem?_toList]; exact h
 rw [List.getD_eq_getElem?_getD, h2]; rfl
def nameR (s : ByteArray) : Prop := (1 ≤ s.size ∧ s.size ≤ 16) ∧ 97 ≤ (s.data.toList.getD 0 0).toNat ∧ (s.data.toList.getD 0 0).toNat ≤ 122
theorem Zi9 {s : ByteArray} (h : ¬ nameR s) : Wm s = false := by
 unfold nameR at h; unfold Wm
 by_cases h1 : 1 ≤ s.size ∧ s.size ≤ 16
 · rw [decide_eq_false (p := (97 : Int) ≤ _ ∧ _) (by omega)]; simp
 · rw [decide_eq_false h1]; rfl
theorem Ya2 {s : ByteArray} (h : nameR s) : Wm s = s.data.toList.all fun c => Zn3 c.toNat := by
 unfold nameR at h; unfold Wm
 rw [decide_eq_true h.1, decide_eq_true (p := (97 : Int) ≤ _ ∧ _) (by omega)]; rfl
variable (G : Nat → D) (hG : ∀ g, low 0 (G g))
include hG
attribute [local go_sem] Z2 Zj Zl Zk Int.toNat_natCast List.length_map Z3 Zh Z1 Za Zi Wi
attribute [local go_sem ↓] reduceIte
theorem rName_d (s : ByteArray) (hs : s.size ≤ 9223372036854775807) (h : List Ob) : Does Tryz.prog G 235 h [.v (.string s)] (fun h' r => h' = h ∧ r = .v (.bool (Wm s))) := by
 refine Y6 Tryz.func235 rfl (Zf rfl) hG fun hl0 _ => ?_
 simp only [Tryz.ntmps235]
 by_cases hsz : 1 ≤ s.size ∧ s.size ≤ 16
 rotate_left
 · have e1 := Zi9 (s := s) (fun h => hsz h.1)
   repeat' first
    | refine gg ?_
    | refine Two.mk (fun hq => ?_) fun hq => ?_
    | (exfalso; omega)
   all_goals exact ⟨.inr rfl, endD (r := .v (.bool false)) hl0 rfl (by simp) (by simp) rfl (by rw [low]; trivial) ⟨rfl, by rw [e1]⟩⟩
 obtain ⟨b0, hb0⟩ : ∃ b, s.data[0]? = some b := ⟨s.data[0]'(by show 0 < s.size; omega), Zn _⟩
 have g0 := Yc2 hb0
 by_cases hb : 97 ≤ b0.toNat ∧ b0.toNat ≤ 122
 rotate_left
 · have e1 := Zi9 (s := s) (fun h => hb (by rw [← g0]; exact h.2))
   repeat' first
    | (with_reducible refine Y7 ?_; (refine ao1 rfl rfl fun K HK => ?_; simp only [go_sem]; refine Uh (by simp only [go_sem]) hb0 (by first | rfl | omega) ?_; refine HK _ _ ?_; clear HK K))
    | refine gg ?_
    | refine Two.mk (fun hq => ?_) fun hq => ?_
    | (exfalso; omega)
   all_goals first | (exfalso; omega) | exact ⟨.inr rfl, endD (r := .v (.bool false)) hl0 rfl (by simp) (by simp) rfl (by rw [low]; trivial) ⟨rfl, by rw [e1]⟩⟩
 have e1 := Ya2 (s := s) ⟨hsz, by rw [g0]; exact hb⟩
 repeat' first
  | (with_reducible refine Y7 ?_; (refine ao1 rfl rfl fun K HK => ?_; simp only [go_sem]; refine Uh (by simp only [go_sem]) hb0 (by first | rfl | omega) ?_; refine HK _ _ ?_; clear HK K))
  | refine gg ?_
  | refine Two.mk (fun hq => ?_) fun hq => ?_
  | (exfalso; omega)
 all_goals try (exfalso; omega)
 refine Yh (fun m e h' => ∃ k : Nat, k ≤ s.size ∧ m = s.size - k ∧ Wm s = (s.data.toList.drop k).all (fun c => Zn3 c.toNat) ∧ h' = h ∧ e 0 = .v (.string s) ∧ e 3 = .v (.int .i64 k)) s.size ⟨0, Z6 _, rfl, e1, rfl, rfl, rfl⟩ ?_
 rintro m e h' ⟨k, hk, rfl, ho, rfl, e0, e3⟩
 by_cases hlt : k < s.size
 · obtain ⟨c, hc⟩ : ∃ b, s.data[k]? = some b := ⟨s.data[k]'hlt, Zn _⟩
   have wk : IntKind.i64.wrap ((k : Int) + 1) = (k : Int) + 1 := IntWalk.i64_in _ (by omega)
   rw [Yo7 hc, Zb] at ho
   have F : _ ∧ _ ∧ _ := ⟨e0, e3, wk⟩
   repeat' first
    | (with_reducible refine Y7 ?_; (refine ao1 rfl rfl fun K HK => ?_; simp only [go_sem, F]; refine Uh (by simp only [go_sem, F]) hc (by first | rfl | omega) ?_; refine HK _ _ ?_; clear HK K))
    | refine gg ?_
    | refine Two.mk (fun hq => ?_) fun hq => ?_
    | (exfalso; omega)
   all_goals first
   | exact ⟨rfl, s.size - (k + 1), by omega, k + 1, hlt, rfl, by rw [ho, show Zn3 c.toNat = true from decide_eq_true (by omega)]; rfl, rfl, e0, rfl⟩
   | exact ⟨.inr rfl, endD (r := .v (.bool false)) hl0 rfl (by simp) (by simp) rfl (by rw [low]; trivial) ⟨rfl, by rw [ho, show Zn3 c.toNat = false from decide_eq_false (by omega)]; rfl⟩⟩
 · skip
   have F : _ ∧ _ := ⟨e0, e3⟩
   repeat' first
    | refine gg ?_
    | refine Two.mk (fun hq => ?_) fun hq => ?_
    | (exfalso; omega)
   exact ⟨.inr rfl, endD (r := .v (.bool true)) hl0 rfl (by simp) (by simp) rfl (by rw [low]; trivial) ⟨rfl, by rw [ho, Z4 (by show s.data.toList.length ≤ k; rw [Array.length_toList]; show s.size ≤ k; omega)]; rfl⟩⟩
theorem rIn_d (l : List ByteArray) (a : ByteArray) (hl : l.length ≤ 9223372036854775807) (h : List Ob) : Does Tryz.prog G 236 h [.sl 1 (l.map strX), .v (.string a)] (fun h' r => h' = h ∧ r = .v (.bool (hasS l a))) := by
 refine Y6 Tryz.func236 rfl (Zf rfl) hG fun hl0 _ => ?_
 simp only [Tryz.ntmps236]
 repeat' first
  | refine g0 ?_
  | fail
 refine Yh (fun m e h' => ∃ k : Nat, k ≤ l.length ∧ m = l.length - k ∧ hasS l a = hasS (l.drop k) a ∧ h' = h ∧ e 0 = .sl 1 (l.map strX) ∧ e 1 = .v (.string a) ∧ e 5 = .v (.int .i64 k)) l.length ⟨0, Z6 _, rfl, rfl, rfl, rfl, rfl, rfl⟩ ?_
 rintro m e h' ⟨k, hk, rfl, ho, rfl, e0, e1, e5⟩
 by_cases hlt : k < l.length
 · have hx : l[k]? = some l[k] := Z5 hlt
   have hd : l.drop k = l[k] :: l.drop (k + 1) := Z7 hlt
   generalize l[k] = x at hx hd
   have wk : IntKind.i64.wrap ((k : Int) + 1) = (k : Int) + 1 := IntWalk.i64_in _ (by omega)
   rw [hd, hasS] at ho
   have F : _ ∧ _ ∧ _ ∧ _ := ⟨e0, e1, e5, wk⟩
   repeat' first
    | refine gg ?_
    | refine Two.mk (fun hq => ?_) fun hq => ?_
    | (exfalso; omega)
   · exact ⟨.inr rfl, endV hl0 rfl rfl ⟨rfl, by rw [ho, decide_eq_true hq]; rfl⟩⟩
   · exact ⟨rfl, l.length - (k + 1), by omega, k + 1, hlt, rfl, by rw [ho, decide_eq_false hq]; rfl, rfl, e0, e1, rfl⟩
 · skip
   have F : _ ∧ _ ∧ _ := ⟨e0, e1, e5⟩
   repeat' first
    | refine gg ?_
    | refine Two.mk (fun hq => ?_) fun hq => ?_
    | refine Evry.mk fun x hx => ?_
    | (exfalso; omega)
   exact ⟨by simp, endV hl0 rfl rfl ⟨rfl, by rw [ho, Z4 (by omega)]; rfl⟩⟩
theorem rRising_d (l : List ByteArray) (hl : l.length ≤ 9223372036854775807) (hs : ∀ s ∈ l, s.size ≤ 9223372036854775807) (h : List Ob) : Does Tryz.prog G 237 h [.sl 1 (l.map strX)] (fun h' r => h' = h ∧ r = .v (.bool (Zb8 l))) := by
 rw [← rising_zero]
 refine Y6 Tryz.func237 rfl (Zf rfl) hG fun hl0 _ => ?_
 simp only [Tryz.ntmps237]
 repeat' first
  | refine g0 ?_
  | fail
 refine Yh (fun m e h' => ∃ k : Nat, k ≤ l.length ∧ m = l.length - k ∧ Wq l 0 = Wq l k ∧ h' = h ∧ e 0 = .sl 1 (l.map strX) ∧ e 3 = .v (.int .i64 k)) l.length ⟨0, Z6 _, rfl, rfl, rfl, rfl, rfl⟩ ?_
 rintro m e h' ⟨k, hk, rfl, ho, rfl, e0, e3⟩
 by_cases hlt : k < l.length
 · have hx : l[k]? = some l[k] := Z5 hlt
   have hn := rName_d G hG l[k] (hs _ (List.getElem_mem hlt))
   have wk : IntKind.i64.wrap ((k : Int) + 1) = (k : Int) + 1 := IntWalk.i64_in _ (by omega)
   generalize hnb : Wm l[k] = nb at hn
   rcases Nat.eq_zero_or_pos k with h0 | h0
   · subst h0
     have ho := rising_step0 l hlt
     rw [hnb] at ho
     generalize l[0] = x at hx hn
     cases nb
     · skip
       have F : _ ∧ _ := ⟨e0, e3⟩
       repeat' first
        | (with_reducible refine Yc ?_; refine Y8 mixd (by kernel_rfl) ?_)
        | refine gg ?_
        | refine Two.mk (fun hq => ?_) fun hq => ?_
        | (with_reducible refine X6 ?_; refine aq2 rfl rfl rfl Zg9 (hn _) ?_)
        | (exfalso; omega)
       exact ⟨.inr rfl, endD (r := .v (.bool false)) hl0 rfl (by simp) (by simp) rfl (by rw [low]; trivial) ⟨rfl, by rw [ho]; rfl⟩⟩
     · skip
       have F : _ ∧ _ := ⟨e0, e3⟩
       repeat' first
        | (with_reducible refine Yc ?_; refine Y8 mixd (by kernel_rfl) ?_)
        | refine gg ?_
        | refine Two.mk (fun hq => ?_) fun hq => ?_
        | refine Evry.mk fun x hx => ?_
        | (with_reducible refine X6 ?_; refine aq2 rfl rfl rfl Zg9 (hn _) ?_)
        | (exfalso; omega)
       exact ⟨rfl, l.length - 1, by omega, 1, hlt, rfl, by rw [ho]; rfl, rfl, e0, rfl⟩
   · obtain ⟨j, rfl⟩ : ∃ j, k = j + 1 := ⟨k - 1, by omega⟩
     have hy : l[j]? = some l[j] := Z5 (by omega)
     rw [rising_step l j hlt, hnb] at ho
     generalize l[j + 1] = x at hx hn ho
     generalize l[j] = y at hy ho
     have wm : IntKind.i64.wrap (((j + 1 : Nat) : Int) - 1) = (j : Int) := by rw [show ((j + 1 : Nat) : Int) - 1 = (j : Int) by omega]; exact IntWalk.i64_in _ (by omega)
     have gp : decide ((0 : Int) < ((j + 1 : Nat) : Int)) = true := decide_eq_true (by omega)
     unfold J2 at ho
     cases nb
     · skip
       have F : _ ∧ _ ∧ _ ∧ _ ∧ _ := ⟨e0, e3, wk, wm, gp⟩
       repeat' first
        | (with_reducible refine Yc ?_; refine Y8 mixd (by kernel_rfl) ?_)
        | refine gg ?_
        | refine Two.mk (fun hq => ?_) fun hq => ?_
        | (with_reducible refine X6 ?_; refine aq2 rfl rfl rfl Zg9 (hn _) ?_)
        | (exfalso; omega)
       exact ⟨.inr rfl, endD (r := .v (.bool false)) hl0 rfl (by simp) (by simp) rfl (by rw [low]; trivial) ⟨rfl, by rw [ho]; rfl⟩⟩
     · cases hlt2 : Op.bytesLess y.toList x.toList
       · skip
         have F : _ ∧ _ ∧ _ ∧ _ ∧ _ ∧ _ := ⟨e0, e3, wk, wm, gp, hlt2⟩
         repeat' first
          | (with_reducible refine Yc ?_; refine Y8 mixd (by kernel_rfl) ?_)
          | refine gg ?_
          | refine Two.mk (fun hq => ?_) fun hq => ?_
          | (with_reducible refine X6 ?_; refine aq2 rfl rfl rfl Zg9 (hn _) ?_)
          | (exfalso; omega)
         exact ⟨.inr rfl, endD (r := .v (.bool false)) hl0 rfl (by simp) (by simp) rfl (by rw [low]; trivial) ⟨rfl, by rw [ho, hlt2]; rfl⟩⟩
       · skip
         have F : _ ∧ _ ∧ _ ∧ _ ∧ _ ∧ _ := ⟨e0, e3, wk, wm, gp, hlt2⟩
         repeat' first
          | (with_reducible refine Yc ?_; refine Y8 mixd (by kernel_rfl) ?_)
          | refine gg ?_
          | refine Two.mk (fun hq => ?_) fun hq => ?_
          | (with_reducible refine X6 ?_; refine aq2 rfl rfl rfl Zg9 (hn _) ?_)
          | (exfalso; omega)
         exact ⟨rfl, l.length - (j + 2), by omega, j + 2, by omega, rfl, by rw [ho, hlt2]; rfl, rfl, e0, rfl⟩
 · skip
   have F : _ ∧ _ := ⟨e0, e3⟩
   repeat' first
    | (with_reducible refine Yc ?_; refine Y8 mixd (by kernel_rfl) ?_)
    | refine gg ?_
    | refine Two.mk (fun hq => ?_) fun hq => ?_
    | refine Evry.mk fun x hx => ?_
    | (exfalso; omega)
   exact ⟨by simp, endV hl0 rfl rfl ⟨rfl, by rw [ho, rising_end l k (by omega)]⟩⟩
end
section
structure RS where
 data : List UInt8
 pos : Nat
 item : Nat
 err : Int
def RS.begun (s : RS) : RS := { s with item := s.pos }
def RS.bad (s : RS) : RS := { s with item := s.pos, err := 2 }
def RS.go (s : RS) (c : Nat) : RS := { s with item := s.pos, pos := s.pos + c }
def RS.num (s : RS) : Option (Nat × Nat) := numF 0 (s.data.drop s.pos)
def Wg (s : RS) : Nat × RS := if s.err ≠ 0 then (0, s) else match s.num with
 | none => (0, s.bad)
 | some (n, c) => (n, s.go c)
def Zo7 (s : RS) : Int × RS := (unzz (Wg s).1, (Wg s).2)
def Jw (s : RS) : Bool × RS := if s.err ≠ 0 then (false, s) else match s.data[s.pos]? with
 | none => (false, s.bad)
 | some b => if 1 < b.toNat then (false, s.bad) else (decide (b.toNat = 1), s.go 1)
def W2 (s : RS) : List UInt8 × RS := if s.err ≠ 0 then ([], s) else match s.num with
 | none => ([], s.bad)
 | some (n, c) => if s.data.length - (s.pos + c) < n then ([], s.bad) else ((s.data.drop (s.pos + c)).take n, s.go (c + n))
def Ye (s : RS) : Nat × RS := if s.err ≠ 0 then (0, s) else match s.num with
 | none => (0, s.bad)
 | some (n, c) => if s.data.length - (s.pos + c) < n then (0, s.bad) else (n, s.go c)
def RS.fail (s : RS) : RS := if s.err = 0 then { s with err := 2, pos := s.item } else s
def RS.ends (s : RS) : Int := if s.err = 0 ∧ s.pos < s.data.length then 2 else s.err
structure RS.Ok (s : RS) : Prop where
 pos : s.pos ≤ s.data.length
 item : s.item ≤ s.pos
 err : s.err = 0 ∨ s.err = 2
theorem RS.num_some {s : RS} {n c : Nat} (h : s.num = some (n, c)) (ho : s.pos ≤ s.data.length) : s.pos + c ≤ s.data.length ∧ 1 ≤ c ∧ c ≤ 10 ∧ n < 18446744073709551616 := by
 obtain ⟨h1, h2, h3, _, h5, _⟩ := Za9 _ _ _ _ h
 rw [Zo] at h1
 exact ⟨by omega, h2, by omega, h5⟩
theorem RS.Ok.bad {s : RS} (h : s.Ok) : s.bad.Ok := ⟨h.pos, Zr _, .inr rfl⟩
theorem RS.Ok.go {s : RS} (h : s.Ok) {c : Nat} (hc : s.pos + c ≤ s.data.length) : (s.go c).Ok := ⟨hc, Nat.le_add_right _ _, h.err⟩
theorem RS.Ok.fail {s : RS} (h : s.Ok) : s.fail.Ok := by
 unfold RS.fail
 split
 · exact ⟨Nat.le_trans h.item h.pos, Zr _, .inr rfl⟩
 · exact h
theorem RS.fail_data (s : RS) : s.fail.data = s.data := by unfold RS.fail; split <;> rfl
theorem Zo6 {s : RS} (h : s.Ok) : (Wg s).2.Ok ∧ (Wg s).2.data = s.data ∧ (Wg s).1 < 18446744073709551616 := by
 unfold Wg
 split
 · exact ⟨h, rfl, by show (0 : Nat) < _; omega⟩
 · split
   · exact ⟨h.bad, rfl, by show (0 : Nat) < _; omega⟩
   · rename_i n c hn
     obtain ⟨h1, _, _, h4⟩ := RS.num_some hn h.pos
     exact ⟨h.go h1, rfl, h4⟩
theorem rdInt_ok {s : RS} (h : s.Ok) : (Zo7 s).2.Ok ∧ (Zo7 s).2.data = s.data ∧ (-9223372036854775808 ≤ (Zo7 s).1 ∧ (Zo7 s).1 ≤ 9223372036854775807) :=
 ⟨(Zo6 h).1, (Zo6 h).2.1, unzz_bd _ (Zo6 h).2.2⟩
theorem rdBool_ok {s : RS} (h : s.Ok) : (Jw s).2.Ok ∧ (Jw s).2.data = s.data := by
 unfold Jw
 split
 · exact ⟨h, rfl⟩
 · split
   · exact ⟨h.bad, rfl⟩
   · rename_i b hb
     split
     · exact ⟨h.bad, rfl⟩
     · have : s.pos < s.data.length := by
        rcases Nat.lt_or_ge s.pos s.data.length with h' | h'
        · exact h'
        · rw [List.getElem?_eq_none h'] at hb; cases hb
       exact ⟨h.go (by omega), rfl⟩
theorem Za8 {s : RS} (h : s.Ok) : (W2 s).2.Ok ∧ (W2 s).2.data = s.data ∧ (W2 s).1.length ≤ s.data.length := by
 unfold W2
 split
 · exact ⟨h, rfl, Z6 _⟩
 · split
   · exact ⟨h.bad, rfl, Z6 _⟩
   · rename_i n c hn
     obtain ⟨h1, _, _, h4⟩ := RS.num_some hn h.pos
     split
     · exact ⟨h.bad, rfl, Z6 _⟩
     · exact ⟨h.go (by omega), rfl, by simp; omega⟩
theorem Zi7 {s : RS} (h : s.Ok) : (Ye s).2.Ok ∧ (Ye s).2.data = s.data ∧ (Ye s).1 ≤ s.data.length := by
 unfold Ye
 split
 · exact ⟨h, rfl, Z6 _⟩
 · split
   · exact ⟨h.bad, rfl, Z6 _⟩
   · rename_i n c hn
     obtain ⟨h1, _, _, h4⟩ := RS.num_some hn h.pos
     split
     · exact ⟨h.bad, rfl, Z6 _⟩
     · exact ⟨h.go h1, rfl, by omega⟩
/-! What was read is what was written. -/
structure Took (s t : RS) (bs : List UInt8) : Prop where
 data : t.data = s.data
 pos : t.pos = s.pos + bs.length
 err : s.err = 0 ∧ t.err = 0
 read : s.data.drop s.pos = bs ++ t.data.drop t.pos
theorem Took.trans {s t u : RS} {a b : List UInt8} (h : Took s t a) (k : Took t u b) : Took s u (a ++ b) :=
 ⟨k.data.trans h.data, by rw [k.pos, h.pos, List.length_append]; omega, ⟨h.err.1, k.err.2⟩, by rw [h.read, k.read, Z8]⟩
theorem Took.refl {s : RS} (h : s.err = 0) : Took s s [] := ⟨rfl, by simp, ⟨h, h⟩, by simp⟩
theorem Yk2 {s : RS} {c : Nat} {bs : List UInt8} (he : s.err = 0) (hc : s.pos + c ≤ s.data.length) (h : (s.data.drop s.pos).take c = bs) : Took s (s.go c) bs := by
 have hl : bs.length = c := by rw [← h, List.length_take, Zo]; omega
 refine ⟨rfl, by rw [hl]; rfl, ⟨he, he⟩, ?_⟩
 rw [← h, show (s.go c).data.drop (s.go c).pos = (s.data.drop s.pos).drop c by rw [List.drop_drop]; rfl, List.take_append_drop]
theorem Zz2 {s : RS} (ho : s.Ok) (h : (Wg s).2.err = 0) : Took s (Wg s).2 (W9 (Wg s).1) := by
 unfold Wg at h ⊢
 by_cases he : s.err = 0
 · rw [if_neg (by simp [he])] at h ⊢
   cases hn : s.num with
   | none => rw [hn] at h; exact absurd h (by simp [RS.bad])
   | some p =>
     obtain ⟨n, c⟩ := p
     obtain ⟨h1, _, _, _⟩ := RS.num_some hn ho.pos
     obtain ⟨_, _, _, _, _, h6⟩ := Za9 _ _ _ _ hn
     exact Yk2 he h1 h6
 · rw [if_pos he] at h; exact absurd h he
theorem rdInt_took {s : RS} (ho : s.Ok) (h : (Zo7 s).2.err = 0) : Took s (Zo7 s).2 (intE (Zo7 s).1) := by
 have := Zz2 ho h
 unfold intE Zo7
 rw [zz_unzz]
 exact this
theorem rdCount_took {s : RS} (ho : s.Ok) (h : (Ye s).2.err = 0) : Took s (Ye s).2 (W9 (Ye s).1) := by
 unfold Ye at h ⊢
 by_cases he : s.err = 0
 · rw [if_neg (by simp [he])] at h ⊢
   cases hn : s.num with
   | none => rw [hn] at h; exact absurd h (by simp [RS.bad])
   | some p =>
     obtain ⟨n, c⟩ := p
     obtain ⟨h1, _, _, _⟩ := RS.num_some hn ho.pos
     obtain ⟨_, _, _, _, _, h6⟩ := Za9 _ _ _ _ hn
     rw [hn] at h
     simp only at h ⊢
     by_cases hb : s.data.length - (s.pos + c) < n
     · rw [if_pos hb] at h; exact absurd h (by simp [RS.bad])
     · rw [if_neg hb] at h ⊢
       exact Yk2 he h1 h6
 · rw [if_pos he] at h; exact absurd h he
theorem rdBytes_took {s : RS} (ho : s.Ok) (h : (W2 s).2.err = 0) : Took s (W2 s).2 (bytesE (W2 s).1) := by
 unfold W2 at h ⊢
 by_cases he : s.err = 0
 · rw [if_neg (by simp [he])] at h ⊢
   cases hn : s.num with
   | none => rw [hn] at h; exact absurd h (by simp [RS.bad])
   | some p =>
     obtain ⟨n, c⟩ := p
     obtain ⟨h1, _, _, _⟩ := RS.num_some hn ho.pos
     obtain ⟨_, _, _, _, _, h6⟩ := Za9 _ _ _ _ hn
     rw [hn] at h
     simp only at h ⊢
     by_cases hb : s.data.length - (s.pos + c) < n
     · rw [if_pos hb] at h; exact absurd h (by simp [RS.bad])
     · rw [if_neg hb] at h ⊢
       refine Yk2 he (by omega) ?_
       have hl : ((s.data.drop (s.pos + c)).take n).length = n := by rw [List.length_take, Zo]; omega
       unfold bytesE
       rw [hl, ← h6, List.take_add, List.drop_drop]
 · rw [if_pos he] at h; exact absurd h he
theorem rdBool_took {s : RS} (_ : s.Ok) (h : (Jw s).2.err = 0) : Took s (Jw s).2 (boolE (Jw s).1) := by
 unfold Jw at h ⊢
 by_cases he : s.err = 0
 · rw [if_neg (by simp [he])] at h ⊢
   cases hn : s.data[s.pos]? with
   | none => rw [hn] at h; exact absurd h (by simp [RS.bad])
   | some b =>
     rw [hn] at h
     simp only at h ⊢
     by_cases hb : 1 < b.toNat
     · rw [if_pos hb] at h; exact absurd h (by simp [RS.bad])
     · rw [if_neg hb] at h ⊢
       have hp : s.pos < s.data.length := by
        rcases Nat.lt_or_ge s.pos s.data.length with h' | h'
        · exact h'
        · rw [List.getElem?_eq_none h'] at hn; cases hn
       refine Yk2 he (by omega) ?_
       have hb1 : s.data[s.pos] = b := by rw [Z5 hp] at hn; exact Option.some.inj hn
       rw [Z7 hp, hb1, List.take_succ_cons, List.take_zero]
       unfold boolE
       congr 1
       rcases Nat.lt_or_ge b.toNat 1 with h0 | h0
       · have : b.toNat = 0 := by omega
         rw [this]
         exact UInt8.toNat_inj.1 (by simp [this])
       · have : b.toNat = 1 := by omega
         rw [this]
         exact UInt8.toNat_inj.1 (by simp [this])
 · rw [if_pos he] at h; exact absurd h he
/-! What was written is read. -/
end
section
def strOf (l : List UInt8) : ByteArray := ⟨l.toArray⟩
theorem strOf_size (l : List UInt8) : (strOf l).size = l.length := rfl
def Wy (s : RS) : ByteArray × RS := (strOf (W2 s).1, (W2 s).2)
def Xk {α : Type} (f : RS → α × RS) : Nat → RS → List α × RS
 | 0, s => ([], s)
 | n + 1, s => if s.err = 0 then ((f s).1 :: (Xk f n (f s).2).1, (Xk f n (f s).2).2) else ([], s)
theorem Zl5 {α : Type} (f : RS → α × RS) (s : RS) : Xk f 0 s = ([], s) := rfl
theorem Za7 {α : Type} (f : RS → α × RS) (n : Nat) (s : RS) (h : s.err ≠ 0) : Xk f n s = ([], s) := by
 cases n with
 | zero => rfl
 | succ n => unfold Xk; rw [if_neg h]
theorem Zf3 {α : Type} (f : RS → α × RS) (n : Nat) (s : RS) (h : s.err = 0) : Xk f (n + 1) s = ((f s).1 :: (Xk f n (f s).2).1, (Xk f n (f s).2).2) := by
 conv => lhs; unfold Xk
 rw [if_pos h]
def LoopAt {α : Type} (R : List α × RS) (f : RS → α × RS) (acc : List α) (k : Nat) (s : RS) : Prop := R = (acc ++ (Xk f k s).1, (Xk f k s).2)
theorem LoopAt.start {α : Type} (f : RS → α × RS) (k : Nat) (s : RS) : LoopAt (Xk f k s) f [] k s := rfl
theorem LoopAt.step {α : Type} {R : List α × RS} {f : RS → α × RS} {acc : List α} {k : Nat} {s : RS} (h : LoopAt R f acc (k + 1) s) (he : s.err = 0) : LoopAt R f (acc ++ [(f s).1]) k (f s).2 := by
 unfold LoopAt at h ⊢
 rw [h, Zf3 f k s he, Z8]
 rfl
theorem LoopAt.end0 {α : Type} {R : List α × RS} {f : RS → α × RS} {acc : List α} {s : RS} (h : LoopAt R f acc 0 s) : R = (acc, s) := by
 unfold LoopAt at h
 rw [h, Zl5, Zp]
theorem LoopAt.endE {α : Type} {R : List α × RS} {f : RS → α × RS} {acc : List α} {k : Nat} {s : RS} (h : LoopAt R f acc k s) (he : s.err ≠ 0) : R = (acc, s) := by
 unfold LoopAt at h
 rw [h, Za7 f k s he, Zp]
structure Tks {α : Type} (f : RS → α × RS) (enc : α → List UInt8) : Prop where
 ok : ∀ s, s.Ok → (f s).2.Ok ∧ (f s).2.data = s.data
 took : ∀ s, s.Ok → (f s).2.err = 0 → Took s (f s).2 (enc (f s).1)
theorem U0 : Tks Wy U8 := ⟨fun _ h => ⟨(Za8 h).1, (Za8 h).2.1⟩, fun s h he => rdBytes_took h he⟩
theorem Zf2 {α : Type} {f : RS → α × RS} {enc : α → List UInt8} (hf : Tks f enc) : ∀ (n : Nat) (s : RS), s.Ok → (Xk f n s).2.Ok ∧ (Xk f n s).2.data = s.data
 | 0, s, h => ⟨h, rfl⟩
 | n + 1, s, h => by
   by_cases he : s.err = 0
   · rw [Zf3 f n s he]
     obtain ⟨h1, h2⟩ := hf.ok s h
     obtain ⟨h3, h4⟩ := Zf2 hf n _ h1
     exact ⟨h3, h4.trans h2⟩
   · rw [Za7 f _ s he]
     exact ⟨h, rfl⟩
theorem Zz4 {α : Type} {f : RS → α × RS} {enc : α → List UInt8} (hf : Tks f enc) : ∀ (n : Nat) (s : RS), s.Ok → (Xk f n s).2.err = 0 → Took s (Xk f n s).2 ((Xk f n s).1.flatMap enc) ∧ (Xk f n s).1.length = n
 | 0, s, _, he => ⟨Took.refl he, rfl⟩
 | n + 1, s, h, he => by
   by_cases h0 : s.err = 0
   · rw [Zf3 f n s h0] at he ⊢
     obtain ⟨h1, h2⟩ := hf.ok s h
     obtain ⟨h3, h4⟩ := Zz4 hf n _ h1 he
     refine ⟨?_, by simp only [Zg, h4]⟩
     rw [Zd]
     exact (hf.took s h h3.err.1).trans h3
   · rw [Za7 f _ s h0] at he
     exact absurd he h0
def Zk4 {α : Type} (f : RS → α × RS) (s : RS) : List α × RS := Xk f (Ye s).1 (Ye s).2
theorem Jr {α : Type} {f : RS → α × RS} {enc : α → List UInt8} (hf : Tks f enc) : Tks (Zk4 f) fun l => W9 l.length ++ l.flatMap enc := ⟨fun s h => by
    obtain ⟨h1, h2, _⟩ := Zi7 h
    obtain ⟨h3, h4⟩ := Zf2 hf (Ye s).1 _ h1
    exact ⟨h3, h4.trans h2⟩, fun s h he => by
    obtain ⟨h1, h2, _⟩ := Zi7 h
    obtain ⟨h3, h4⟩ := Zz4 hf (Ye s).1 _ h1 he
    have t := (rdCount_took h h3.err.1).trans h3
    show Took s _ (W9 (Zk4 f s).1.length ++ _)
    rw [show (Zk4 f s).1.length = (Ye s).1 from h4]
    exact t⟩
def Rds {α : Type} (f : RS → α × RS) (x : α) (bs : List UInt8) : Prop := ∀ (s : RS) (r : List UInt8), s.Ok → s.err = 0 → s.data.length < 18446744073709551616 → s.data.drop s.pos = bs ++ r → ∃ s', f s = (x, s') ∧ s'.Ok ∧ Took s s' bs
theorem took_rest {s t : RS} {bs r : List UInt8} (h : Took s t bs) (hr : s.data.drop s.pos = bs ++ r) : t.data.drop t.pos = r := by
 have := h.read
 rw [hr] at this
 exact (List.append_cancel_left this).symm
theorem took_len {s t : RS} {bs : List UInt8} (h : Took s t bs) : t.data.length = s.data.length := congrArg List.length h.data
theorem Rds.bind {α β γ : Type} {f : RS → α × RS} {x : α} {a : List UInt8} (hf : Rds f x a) {g : RS → β × RS} {y : β} {b : List UInt8} (hg : Rds g y b) {h : RS → γ × RS} {z : γ} (hh : ∀ s s' s'', f s = (x, s') → g s' = (y, s'') → h s = (z, s'')) : Rds h z (a ++ b) := fun s r ho he hl hr => by
  rw [Z8] at hr
  obtain ⟨s', h1, h2, h3⟩ := hf s _ ho he hl hr
  obtain ⟨s'', h4, h5, h6⟩ := hg s' r h2 h3.err.2 (by rw [took_len h3]; exact hl) (took_rest h3 hr)
  exact ⟨s'', hh s s' s'' h1 h4, h5, h3.trans h6⟩
theorem uintE_pos (n : Nat) : 1 ≤ (W9 n).length := by
 by_cases h : n < 128
 · rw [Zn6 h]; exact Zr _
 · rw [Zv7 (by omega), Zg]; omega
end
section
def strC (s t : ByteArray) : Int := if J2 s t then -1 else if s = t then 0 else 1
def lexC {α : Type} (c : α → α → Int) : List α → List α → Int
 | [], [] => 0
 | [], _ :: _ => -1
 | _ :: _, [] => 1
 | x :: s, y :: t => if c x y ≠ 0 then c x y else lexC c s t
theorem Zp7 {α : Type} (c : α → α → Int) (a b : List α) (k : Nat) (ha : k < a.length) (hb : b.length ≤ k) : lexC c (a.drop k) (b.drop k) = 1 := by
 rw [V3 a k ha, Z4 hb]; rfl
theorem Zp8 {α : Type} (c : α → α → Int) (a b : List α) (k : Nat) (ha : a.length ≤ k) : lexC c (a.drop k) (b.drop k) = if k < b.length then -1 else 0 := by
 rw [Z4 ha]
 by_cases h : k < b.length
 · rw [V3 b k h, if_pos h]; rfl
 · rw [Z4 (by omega), if_neg h]; rfl
def U1 (a b : Tk) : Int := orI [cmpI a.process b.process, cmpI a.n b.n]
def entC (a b : En) : Int := orI [strC a.name b.name, lexC U1 a.clock b.clock]
/-! The order. -/
mutual
def valC : Val → Val → Int
 | .mk n ns ps es, b => if cmpI n b.n ≠ 0 then cmpI n b.n else if lexC strC ns b.names ≠ 0 then lexC strC ns b.names
   else if Ye6 ps b.parts ≠ 0 then Ye6 ps b.parts else lexC entC es b.entries
def Ye6 : List Val → List Val → Int
 | [], [] => 0
 | [], _ :: _ => -1
 | _ :: _, [] => 1
 | x :: s, y :: t => if valC x y ≠ 0 then valC x y else Ye6 s t
end
theorem valsC_eq : ∀ (a b : List Val), Ye6 a b = lexC valC a b
 | [], [] => by rw [Ye6, lexC]
 | [], _ :: _ => by rw [Ye6, lexC]
 | _ :: _, [] => by rw [Ye6, lexC]
 | x :: s, y :: t => by rw [Ye6, lexC, valsC_eq s t]
theorem Ze3 (a b : Val) : valC a b = if cmpI a.n b.n ≠ 0 then cmpI a.n b.n else if lexC strC a.names b.names ≠ 0 then lexC strC a.names b.names
 else if lexC valC a.parts b.parts ≠ 0 then lexC valC a.parts b.parts else lexC entC a.entries b.entries := by
 cases a with
 | mk n ns ps es => rw [valC, valsC_eq]; rfl
/-! The bottom. -/
def Ub : Val := .mk 0 [] [] []
mutual
def botV : Lat → Val
 | .mk k lo hi _ ps _ => if k = 2 then .mk lo [] [] [] else if k = 3 then .mk hi [] [] [] else if k = 6 ∨ k = 7 then .mk 0 [] (botVs ps) [] else Ub
def botVs : List Lat → List Val
 | [] => []
 | p :: t => botV p :: botVs t
end
theorem Zr4 : ∀ l, botVs l = l.map botV
 | [] => by rw [botVs]; rfl
 | p :: t => by rw [botVs, Zr4 t]; rfl
/-! Elements. -/
def Vi (v : Val) (n list parts entries : Bool) : Bool := (n || decide (v.n = 0)) && (list || decide (v.names.length = 0)) && (parts || decide (v.parts.length = 0)) && (entries || decide (v.entries.length = 0))
def memB (only : List ByteArray) (s : ByteArray) : Bool := Wm s && (decide (only.length = 0) || hasS only s)
def Yf (only list : List ByteArray) : Bool := Wa list && list.all (memB only)
def V4 (rs : List Rl) (list : List ByteArray) : Bool := rs.all fun r => !Xm r.cond list || hasS list r.concl
def Ye7 (last : Int) (t : Tk) : Bool := decide (last < t.process ∧ t.process ≤ 63 ∧ 1 ≤ t.n ∧ t.n ≤ 1000000000000000)
def Yx : Int → List Tk → Bool
 | _, [] => true
 | last, t :: r => Ye7 last t && Yx t.process r
def X2 (c : List Tk) : Bool := Yx (-1) c
def Vy (p k : Int) (r : List Tk) : List Tk := if 0 < k then ⟨p, k⟩ :: r else r
def Xu (ch : Int → Int → Int) : List Tk → List Tk → List Tk
 | [], [] => []
 | x :: a, [] => Vy x.process (ch x.n 0) (Xu ch a [])
 | [], y :: b => Vy y.process (ch 0 y.n) (Xu ch [] b)
 | x :: a, y :: b => if x.process < y.process then Vy x.process (ch x.n 0) (Xu ch a (y :: b)) else if y.process < x.process then Vy y.process (ch 0 y.n) (Xu ch (x :: a) b)
   else Vy x.process (ch x.n y.n) (Xu ch a b)
 termination_by a b => a.length + b.length
def Zm3 (m n : Int) : Int := if n < m then m else 0
def Vw (a b : List Tk) : List Tk := Xu Zm3 a b
def Xx (a b : List Tk) : Int := if !X2 a || !X2 b then 3
 else if (Vw a b).length = 0 ∧ (Vw b a).length = 0 then 0 else if (Vw a b).length = 0 then 1 else if (Vw b a).length = 0 then 2 else 3
def Zk8 (list : List En) (k : Nat) (e : En) : Bool :=
 decide (e.clock.length ≠ 0) && X2 e.clock && Wm e.name && (match list[k - 1]? with
  | some p => decide (k = 0 ∨ entC p e < 0)
  | none => true) && (list.take k).all fun f => !(Xx e.clock f.clock == 1 || Xx e.clock f.clock == 2)
def Zy9 (list : List En) : Nat → List En → Bool
 | _, [] => true
 | k, e :: t => Zk8 list k e && Zy9 list (k + 1) t
def regB (list : List En) : Bool := Zy9 list 0 list
mutual
def Ya : Lat → Val → Bool
 | .mk k lo hi ns ps rs, v =>
   if k = 1 then Vi v true false false false && decide (v.n = 0 ∨ v.n = 1)
   else if k = 2 ∨ k = 3 then Vi v true false false false && decide (lo ≤ v.n ∧ v.n ≤ hi)
   else if k = 4 then Vi v false true false false && Yf ns v.names
   else if k = 10 then Vi v false true false false && Yf ns v.names && V4 rs v.names
   else if k = 8 then (if v.n = 0 ∨ v.n = 2 then Vi v true false false false else if v.n = 1 then Vi v true true false false && decide (v.names.length = 1) && Yf ns v.names else false)
   else if k = 9 then Vi v false false false true && regB v.entries
   else if k = 5 then Vi v false true true false && decide (v.names.length = v.parts.length) && Yf ns v.names && mapB ps v.parts
   else Vi v false false true false && decide (v.parts.length = ps.length) && Vx ps v.parts
def mapB : List Lat → List Val → Bool
 | [], _ => true
 | p :: _, vs => vs.all fun v => Ya p v && decide (valC v (botV p) ≠ 0)
def Vx : List Lat → List Val → Bool
 | p :: ps, v :: vs => Ya p v && Vx ps vs
 | [], _ => true
 | _ :: _, [] => true
end
def Zt8 (l : Lat) (v : Val) : Bool := decide (chkE l = 0) && Ya l v
/-! The size. -/
mutual
def Vv : Val → Nat
 | .mk _ ns ps es => 1 + ns.length + es.length + Yr ps + (es.map fun e => e.clock.length).sum
def Yr : List Val → Nat
 | [] => 0
 | v :: t => Vv v + Yr t
end
/-! The encoding. -/
def ticksE : List Tk → List UInt8
 | [] => []
 | t :: r => W9 t.process.toNat ++ (W9 t.n.toNat ++ ticksE r)
def entryE (e : En) : List UInt8 := W9 e.clock.length ++ (ticksE e.clock ++ U8 e.name)
def Zw9 : List En → List UInt8
 | [] => []
 | e :: r => entryE e ++ Zw9 r
def textsE : List ByteArray → List UInt8
 | [] => []
 | s :: r => U8 s ++ textsE r
mutual
def putV : Lat → Val → List UInt8
 | .mk k _ _ _ ps _, v =>
   if k = 1 then boolE (decide (v.n = 1))
   else if k = 2 ∨ k = 3 then intE v.n
   else if k = 4 ∨ k = 10 then W9 v.names.length ++ textsE v.names
   else if k = 5 then W9 v.names.length ++ putMap ps v.names v.parts
   else if k = 8 then W9 v.n.toNat ++ (if v.n = 1 then U8 (v.names.headD Zq) else [])
   else if k = 9 then W9 v.entries.length ++ Zw9 v.entries
   else putVs ps v.parts
def putMap : List Lat → List ByteArray → List Val → List UInt8
 | [], _, _ => []
 | p :: _, ns, vs => (ns.zip vs).flatMap fun x => U8 x.1 ++ putV p x.2
def putVs : List Lat → List Val → List UInt8
 | p :: ps, v :: vs => putV p v ++ putVs ps vs
 | [], _ => []
 | _ :: _, [] => []
end
def X9 (m : Nat) (s : RS) : Nat × RS := (if m < (Wg s).1 then 0 else (Wg s).1, if m < (Wg s).1 then (Wg s).2.fail else (Wg s).2)
def rdTick (s : RS) : Tk × RS := (⟨((X9 63 s).1 : Nat), ((X9 1000000000000000 (X9 63 s).2).1 : Nat)⟩, (X9 1000000000000000 (X9 63 s).2).2)
def Yl6 (s : RS) : List Tk × RS := Xk rdTick (Ye s).1 (Ye s).2
def Zf5 (s : RS) : En × RS := (⟨(Yl6 s).1, (Wy (Yl6 s).2).1⟩, (Wy (Yl6 s).2).2)
def Zk3 (f : RS → Val × RS) (s : RS) : (ByteArray × Val) × RS := (((Wy s).1, (f (Wy s).2).1), (f (Wy s).2).2)
mutual
def Xp : Lat → RS → Val × RS
 | .mk k _ _ _ ps _, s =>
   if k = 1 then (.mk (if (Jw s).1 then 1 else 0) [] [] [], (Jw s).2)
   else if k = 2 ∨ k = 3 then (.mk (Zo7 s).1 [] [] [], (Zo7 s).2)
   else if k = 4 ∨ k = 10 then (.mk 0 (Xk Wy (Ye s).1 (Ye s).2).1 [] [], (Xk Wy (Ye s).1 (Ye s).2).2)
   else if k = 5 then (.mk 0 ((Yl1 ps (Ye s).1 (Ye s).2).1.map Prod.fst) ((Yl1 ps (Ye s).1 (Ye s).2).1.map Prod.snd) [], (Yl1 ps (Ye s).1 (Ye s).2).2)
   else if k = 8 then (if (X9 2 s).1 = 1 then (.mk 1 [(Wy (X9 2 s).2).1] [] [], (Wy (X9 2 s).2).2) else (.mk ((X9 2 s).1 : Nat) [] [] [], (X9 2 s).2))
   else if k = 9 then (.mk 0 [] [] (Xk Zf5 (Ye s).1 (Ye s).2).1, (Xk Zf5 (Ye s).1 (Ye s).2).2)
   else (.mk 0 [] (X8 ps s).1 [], (X8 ps s).2)
def Yl1 : List Lat → Nat → RS → List (ByteArray × Val) × RS
 | [], _, s => ([], s)
 | p :: _, n, s => Xk (Zk3 (Xp p)) n s
def X8 : List Lat → RS → List Val × RS
 | [], s => ([], s)
 | p :: ps, s => ((Xp p s).1 :: (X8 ps (Xp p s).2).1, (X8 ps (Xp p s).2).2)
end
end
section
theorem walk_nn (ch : Int → Int → Int) : Xu ch [] [] = [] := by rw [Xu]
theorem walk_cn (ch : Int → Int → Int) (x : Tk) (a : List Tk) : Xu ch (x :: a) [] = Vy x.process (ch x.n 0) (Xu ch a []) := by rw [Xu]
theorem walk_nc (ch : Int → Int → Int) (y : Tk) (b : List Tk) : Xu ch [] (y :: b) = Vy y.process (ch 0 y.n) (Xu ch [] b) := by rw [Xu]
theorem walk_lt (ch : Int → Int → Int) (x y : Tk) (a b : List Tk) (h : x.process < y.process) : Xu ch (x :: a) (y :: b) = Vy x.process (ch x.n 0) (Xu ch a (y :: b)) := by rw [Xu, if_pos h]
theorem walk_gt (ch : Int → Int → Int) (x y : Tk) (a b : List Tk) (h : y.process < x.process) : Xu ch (x :: a) (y :: b) = Vy y.process (ch 0 y.n) (Xu ch (x :: a) b) := by rw [Xu, if_neg (by omega), if_pos h]
theorem walk_eq (ch : Int → Int → Int) (x y : Tk) (a b : List Tk) (h : y.process = x.process) : Xu ch (x :: a) (y :: b) = Vy x.process (ch x.n y.n) (Xu ch a b) := by rw [Xu, if_neg (by omega), if_neg (by omega)]
theorem Zr3 : ∀ (c : List Tk) (l : Int), -1 ≤ l → Yx l c = true → c.length ≤ (63 - l).toNat
 | [], l, _, _ => Z6 _
 | t :: r, l, hl, h => by
   rw [Yx, Z0] at h
   have h1 : l < t.process ∧ t.process ≤ 63 ∧ 1 ≤ t.n ∧ t.n ≤ 1000000000000000 := of_decide_eq_true h.1
   have := Zr3 r t.process (by omega) h.2
   simp only [Zg]
   omega
theorem Yj0 {c : List Tk} (h : X2 c = true) : c.length ≤ 64 := Zr3 c (-1) (by omega) h
def pairB (e f : En) : Bool := !((Xx e.clock f.clock == 1) || (Xx e.clock f.clock == 2))
theorem regGo_step (list : List En) (k : Nat) (h : k < list.length) : Zy9 list k (list.drop k) = (Zk8 list k list[k] && Zy9 list (k + 1) (list.drop (k + 1))) := by
 rw [V3 list k h, Zy9]
end
section
theorem Zb5 {v : Val} {n list parts entries : Bool} : Vi v n list parts entries = true ↔ (n = true ∨ v.n = 0) ∧ (list = true ∨ v.names = []) ∧ (parts = true ∨ v.parts = []) ∧ (entries = true ∨ v.entries = []) := by
 unfold Vi
 simp only [Z0, Bool.or_eq_true, decide_eq_true_eq, List.length_eq_zero_iff, and_assoc]
section
variable {k lo hi : Int} {ns : List ByteArray} {ps : List Lat} {rs : List Rl} {v : Val}
theorem isE_1 : Ya (.mk 1 lo hi ns ps rs) v = true ↔ (v.n = 0 ∨ v.n = 1) ∧ v.names = [] ∧ v.parts = [] ∧ v.entries = [] := by
 rw [Ya, if_pos (by rfl), Z0, Zb5, decide_eq_true_eq]
 simp only [Z2, false_or, true_or, true_and]
 exact and_comm
theorem isE_23 (e : k = 2 ∨ k = 3) : Ya (.mk k lo hi ns ps rs) v = true ↔ (lo ≤ v.n ∧ v.n ≤ hi) ∧ v.names = [] ∧ v.parts = [] ∧ v.entries = [] := by
 rw [Ya, if_neg (by omega), if_pos e, Z0, Zb5, decide_eq_true_eq]
 simp only [Z2, false_or, true_or, true_and]
 exact and_comm
theorem isE_4 : Ya (.mk 4 lo hi ns ps rs) v = true ↔ (v.n = 0 ∧ v.parts = [] ∧ v.entries = []) ∧ Yf ns v.names = true := by
 rw [Ya, if_neg (by decide), if_neg (by decide), if_pos (by rfl), Z0, Zb5]
 simp only [Z2, false_or, true_or, true_and]
theorem isE_10 : Ya (.mk 10 lo hi ns ps rs) v = true ↔ (v.n = 0 ∧ v.parts = [] ∧ v.entries = []) ∧ Yf ns v.names = true ∧ V4 rs v.names = true := by
 rw [Ya, if_neg (by decide), if_neg (by decide), if_neg (by decide), if_pos (by rfl), Z0, Z0, Zb5]
 simp only [Z2, false_or, true_or, true_and, and_assoc]
theorem isE_410 (e : k = 4 ∨ k = 10) (h : Ya (.mk k lo hi ns ps rs) v = true) : (v.n = 0 ∧ v.parts = [] ∧ v.entries = []) ∧ Yf ns v.names = true := by
 rcases e with rfl | rfl
 · exact isE_4.1 h
 · exact ⟨(isE_10.1 h).1, (isE_10.1 h).2.1⟩
theorem isE_8 : Ya (.mk 8 lo hi ns ps rs) v = true ↔ v.parts = [] ∧ v.entries = [] ∧ ((v.n = 0 ∧ v.names = []) ∨ (v.n = 2 ∧ v.names = []) ∨ (v.n = 1 ∧ v.names.length = 1 ∧ Yf ns v.names = true)) := by
 rw [Ya, if_neg (by decide), if_neg (by decide), if_neg (by decide), if_neg (by decide), if_pos (by rfl)]
 by_cases h02 : v.n = 0 ∨ v.n = 2
 · rw [if_pos h02, Zb5]
   simp only [Z2, false_or, true_or, true_and]
   constructor
   · rintro ⟨a, b, c⟩
     refine ⟨b, c, ?_⟩
     rcases h02 with h | h
     · exact .inl ⟨h, a⟩
     · exact .inr (.inl ⟨h, a⟩)
   · rintro ⟨b, c, h | h | h⟩
     · exact ⟨h.2, b, c⟩
     · exact ⟨h.2, b, c⟩
     · omega
 · rw [if_neg h02]
   by_cases h1 : v.n = 1
   · rw [if_pos h1, Z0, Z0, Zb5, decide_eq_true_eq]
     simp only [Z2, false_or, true_or, true_and]
     constructor
     · rintro ⟨⟨⟨a, b⟩, c⟩, d⟩
       exact ⟨a, b, .inr (.inr ⟨h1, c, d⟩)⟩
     · rintro ⟨b, c, h | h | h⟩
       · omega
       · omega
       · exact ⟨⟨⟨b, c⟩, h.2.1⟩, h.2.2⟩
   · rw [if_neg h1]
     constructor
     · intro h; cases h
     · rintro ⟨_, _, h | h | h⟩ <;> omega
theorem Yo2 : Ya (.mk 9 lo hi ns ps rs) v = true ↔ (v.n = 0 ∧ v.names = [] ∧ v.parts = []) ∧ regB v.entries = true := by
 rw [Ya, if_neg (by decide), if_neg (by decide), if_neg (by decide), if_neg (by decide), if_neg (by decide), if_pos (by rfl), Z0, Zb5]
 simp only [Z2, false_or, true_or, true_and, and_true]
theorem isE_5 : Ya (.mk 5 lo hi ns ps rs) v = true ↔ (v.n = 0 ∧ v.entries = []) ∧ v.names.length = v.parts.length ∧ Yf ns v.names = true ∧ mapB ps v.parts = true := by
 rw [Ya, if_neg (by decide), if_neg (by decide), if_neg (by decide), if_neg (by decide), if_neg (by decide), if_neg (by decide), if_pos (by rfl), Z0, Z0, Z0, Zb5, decide_eq_true_eq]
 simp only [Z2, false_or, true_or, true_and, and_assoc]
theorem isE_67 (e : k = 6 ∨ k = 7) : Ya (.mk k lo hi ns ps rs) v = true ↔ (v.n = 0 ∧ v.names = [] ∧ v.entries = []) ∧ v.parts.length = ps.length ∧ Vx ps v.parts = true := by
 rw [Ya, if_neg (by omega), if_neg (by omega), if_neg (by omega), if_neg (by omega), if_neg (by omega), if_neg (by omega), if_neg (by omega), Z0, Z0, Zb5, decide_eq_true_eq]
 simp only [Z2, false_or, true_or, true_and, and_assoc]
end
theorem mapB_one (p : Lat) (vs : List Val) : mapB [p] vs = true ↔ ∀ v ∈ vs, Ya p v = true ∧ valC v (botV p) ≠ 0 := by
 rw [mapB, Z9]
 constructor
 · intro h v hv
   have := h v hv
   rw [Z0, decide_eq_true_eq] at this
   exact this
 · intro h v hv
   rw [Z0, decide_eq_true_eq]
   exact h v hv
theorem Ue : ∀ (ps : List Lat) (vs : List Val), vs.length = ps.length → (Vx ps vs = true ↔ ∀ i (h : i < ps.length) (h' : i < vs.length), Ya ps[i] vs[i] = true)
 | [], [], _ => ⟨fun _ i h => by simp at h, fun _ => by rw [Vx]⟩
 | [], _ :: _, h => by simp at h
 | _ :: _, [], h => by simp at h
 | p :: ps, v :: vs, h => by
   rw [Vx, Z0, Ue ps vs (by simpa using h)]
   constructor
   · rintro ⟨h1, h2⟩ i hi hi'
     cases i with
     | zero => exact h1
     | succ i => exact h2 i (by simpa using hi) (by simpa using hi')
   · intro h
     exact ⟨h 0 (by simp) (by simp), fun i hi hi' => h (i + 1) (by simpa using hi) (by simpa using hi')⟩
theorem Yq9 {only list : List ByteArray} (h : Yf only list = true) : ∀ s ∈ list, Wm s = true := fun s hs => by
  unfold Yf at h
  rw [Z0] at h
  have := Z9.1 h.2 s hs
  unfold memB at this
  rw [Z0] at this
  exact this.1
theorem name_le {s : ByteArray} (h : Wm s = true) : 1 ≤ s.size ∧ s.size ≤ 16 := by
 unfold Wm at h
 rw [Z0] at h
 exact of_decide_eq_true h.1
/-! What was read. -/
theorem Ja (m : Nat) {s : RS} (h : s.Ok) : (X9 m s).2.Ok ∧ (X9 m s).2.data = s.data := by
 unfold X9
 obtain ⟨h1, h2, _⟩ := Zo6 h
 show (if m < (Wg s).1 then (Wg s).2.fail else (Wg s).2).Ok ∧ (if m < (Wg s).1 then (Wg s).2.fail else (Wg s).2).data = s.data
 split
 · exact ⟨h1.fail, (RS.fail_data _).trans h2⟩
 · exact ⟨h1, h2⟩
theorem fail_err (s : RS) : s.fail.err ≠ 0 := by
 unfold RS.fail
 split
 · exact fun h => absurd (show (2 : Int) = 0 from h) (by decide)
 · assumption
theorem Jv (m : Nat) {s : RS} (h : s.Ok) (he : (X9 m s).2.err = 0) : Took s (X9 m s).2 (W9 (X9 m s).1) := by
 by_cases hm : m < (Wg s).1
 · have : (X9 m s).2 = (Wg s).2.fail := if_pos hm
   rw [this] at he
   exact absurd he (fail_err _)
 · have e : X9 m s = Wg s := by
    unfold X9
    rw [if_neg hm, if_neg hm]
   rw [e] at he ⊢
   exact Zz2 h he
theorem Zv8 : Tks rdTick fun t => W9 t.process.toNat ++ W9 t.n.toNat := ⟨fun s h => by
    obtain ⟨h1, h2⟩ := Ja 63 h
    obtain ⟨h3, h4⟩ := Ja 1000000000000000 h1
    exact ⟨h3, h4.trans h2⟩, fun s h he => by
    obtain ⟨h1, h2⟩ := Ja 63 h
    have t2 := Jv 1000000000000000 h1 he
    exact (Jv 63 h t2.err.1).trans t2⟩
theorem ticksE_eq : ∀ l : List Tk, ticksE l = l.flatMap fun t => W9 t.process.toNat ++ W9 t.n.toNat
  | [] => rfl
  | t :: r => by rw [ticksE, Zd, ticksE_eq r, Z8]
theorem Yc5 : ∀ l : List En, Zw9 l = l.flatMap entryE
 | [] => rfl
 | t :: r => by rw [Zw9, Zd, Yc5 r]
theorem textsE_eq : ∀ l : List ByteArray, textsE l = l.flatMap U8
 | [] => rfl
 | t :: r => by rw [textsE, Zd, textsE_eq r]
theorem Zx8 : Tks Zf5 entryE := ⟨fun s h => by
    obtain ⟨h1, h2⟩ := (Jr Zv8).ok s h
    obtain ⟨h3, h4⟩ := U0.ok _ h1
    exact ⟨h3, h4.trans h2⟩, fun s h he => by
    obtain ⟨h1, h2⟩ := (Jr Zv8).ok s h
    have t2 := U0.took _ h1 he
    have t1 := (Jr Zv8).took s h t2.err.1
    have t := t1.trans t2
    unfold entryE
    rw [ticksE_eq, ← Z8]
    exact t⟩
theorem tks_pair {f : RS → Val × RS} {enc : Val → List UInt8} (hf : Tks f enc) : Tks (Zk3 f) fun x => U8 x.1 ++ enc x.2 := ⟨fun s h => by
    obtain ⟨h1, h2⟩ := U0.ok s h
    obtain ⟨h3, h4⟩ := hf.ok _ h1
    exact ⟨h3, h4.trans h2⟩, fun s h he => by
    obtain ⟨h1, h2⟩ := U0.ok s h
    have t2 := hf.took _ h1 he
    exact (U0.took s h t2.err.1).trans t2⟩
theorem Zu2 {l p : Lat} (h : p ∈ l.parts) : SizeOf.sizeOf p < SizeOf.sizeOf l := by
 cases l
 have := Ze h
 simp only [Lat.parts] at this
 simp only [Lat.mk.sizeOf_spec]
 omega
theorem Zf0 : ∀ (ps : List Lat), (∀ p ∈ ps, ∀ s, s.Ok → (Xp p s).2.Ok ∧ (Xp p s).2.data = s.data) → ∀ s : RS, s.Ok → (X8 ps s).2.Ok ∧ (X8 ps s).2.data = s.data
 | [], _, s, h => by rw [X8]; exact ⟨h, rfl⟩
 | p :: t, H, s, h => by
   rw [X8]
   obtain ⟨h1, h2⟩ := H p (by simp) s h
   obtain ⟨h3, h4⟩ := Zf0 t (fun q hq => H q (by simp [hq])) _ h1
   exact ⟨h3, h4.trans h2⟩
theorem Zk2 : ∀ (ps : List Lat), (∀ p ∈ ps, Tks (Xp p) (putV p)) → ∀ s : RS, s.Ok → (X8 ps s).2.err = 0 → Took s (X8 ps s).2 (putVs ps (X8 ps s).1) ∧ (X8 ps s).1.length = ps.length
 | [], _, s, h, he => by rw [X8] at he ⊢; exact ⟨by rw [putVs]; exact Took.refl he, rfl⟩
 | p :: t, H, s, h, he => by
   rw [X8] at he ⊢
   obtain ⟨h1, h2⟩ := (H p (by simp)).ok s h
   obtain ⟨h3, h4⟩ := Zk2 t (fun q hq => H q (by simp [hq])) _ h1 he
   refine ⟨?_, by simp only [Zg, h4]⟩
   rw [putVs]
   exact ((H p (by simp)).took s h h3.err.1).trans h3
theorem readV_1 {lo hi : Int} {ns : List ByteArray} {ps : List Lat} {rs : List Rl} (s : RS) : Xp (.mk 1 lo hi ns ps rs) s = (.mk (if (Jw s).1 then 1 else 0) [] [] [], (Jw s).2) := by rw [Xp]; rfl
theorem Yl0 {k lo hi : Int} {ns : List ByteArray} {ps : List Lat} {rs : List Rl} (hk : k = 2 ∨ k = 3) (s : RS) : Xp (.mk k lo hi ns ps rs) s = (.mk (Zo7 s).1 [] [] [], (Zo7 s).2) := by
 rw [Xp, if_neg (by omega), if_pos hk]
theorem Zz0 {k lo hi : Int} {ns : List ByteArray} {ps : List Lat} {rs : List Rl} (hk : k = 4 ∨ k = 10) (s : RS) : Xp (.mk k lo hi ns ps rs) s = (.mk 0 (Zk4 Wy s).1 [] [], (Zk4 Wy s).2) := by
 rw [Xp, if_neg (by omega), if_neg (by omega), if_pos hk]; rfl
theorem readV_5 {lo hi : Int} {ns : List ByteArray} {p : Lat} {rs : List Rl} (s : RS) : Xp (.mk 5 lo hi ns [p] rs) s = (.mk 0 ((Zk4 (Zk3 (Xp p)) s).1.map Prod.fst) ((Zk4 (Zk3 (Xp p)) s).1.map Prod.snd) [], (Zk4 (Zk3 (Xp p)) s).2) := by
 rw [Xp, if_neg (by decide), if_neg (by decide), if_neg (by decide), if_pos (by rfl)]
 simp only [Yl1]
 rfl
theorem readV_8 {lo hi : Int} {ns : List ByteArray} {ps : List Lat} {rs : List Rl} (s : RS) : Xp (.mk 8 lo hi ns ps rs) s = if (X9 2 s).1 = 1 then (.mk 1 [(Wy (X9 2 s).2).1] [] [], (Wy (X9 2 s).2).2) else (.mk ((X9 2 s).1 : Nat) [] [] [], (X9 2 s).2) := by
 rw [Xp, if_neg (by decide), if_neg (by decide), if_neg (by decide), if_neg (by decide), if_pos (by rfl)]
theorem readV_9 {lo hi : Int} {ns : List ByteArray} {ps : List Lat} {rs : List Rl} (s : RS) : Xp (.mk 9 lo hi ns ps rs) s = (.mk 0 [] [] (Zk4 Zf5 s).1, (Zk4 Zf5 s).2) := by
 rw [Xp, if_neg (by decide), if_neg (by decide), if_neg (by decide), if_neg (by decide), if_neg (by decide), if_pos (by rfl)]; rfl
theorem Yk9 {k lo hi : Int} {ns : List ByteArray} {ps : List Lat} {rs : List Rl} (hk : k = 6 ∨ k = 7) (s : RS) : Xp (.mk k lo hi ns ps rs) s = (.mk 0 [] (X8 ps s).1 [], (X8 ps s).2) := by
 rw [Xp, if_neg (by omega), if_neg (by omega), if_neg (by omega), if_neg (by omega), if_neg (by omega), if_neg (by omega)]
theorem putV_1 {lo hi : Int} {ns : List ByteArray} {ps : List Lat} {rs : List Rl} (v : Val) : putV (.mk 1 lo hi ns ps rs) v = boolE (decide (v.n = 1)) := by rw [putV, if_pos (by rfl)]
theorem putV_23 {k lo hi : Int} {ns : List ByteArray} {ps : List Lat} {rs : List Rl} (hk : k = 2 ∨ k = 3) (v : Val) : putV (.mk k lo hi ns ps rs) v = intE v.n := by
 rw [putV, if_neg (by omega), if_pos hk]
theorem putV_410 {k lo hi : Int} {ns : List ByteArray} {ps : List Lat} {rs : List Rl} (hk : k = 4 ∨ k = 10) (v : Val) : putV (.mk k lo hi ns ps rs) v = W9 v.names.length ++ v.names.flatMap U8 := by
 rw [putV, if_neg (by omega), if_neg (by omega), if_pos hk, textsE_eq]
theorem putV_5 {lo hi : Int} {ns : List ByteArray} {p : Lat} {rs : List Rl} (v : Val) : putV (.mk 5 lo hi ns [p] rs) v = W9 v.names.length ++ (v.names.zip v.parts).flatMap fun x => U8 x.1 ++ putV p x.2 := by
  rw [putV, if_neg (by decide), if_neg (by decide), if_neg (by decide), if_pos (by rfl), putMap]
theorem putV_8 {lo hi : Int} {ns : List ByteArray} {ps : List Lat} {rs : List Rl} (v : Val) : putV (.mk 8 lo hi ns ps rs) v = W9 v.n.toNat ++ (if v.n = 1 then U8 (v.names.headD Zq) else []) := by
 rw [putV, if_neg (by decide), if_neg (by decide), if_neg (by decide), if_neg (by decide), if_pos (by rfl)]
theorem putV_9 {lo hi : Int} {ns : List ByteArray} {ps : List Lat} {rs : List Rl} (v : Val) : putV (.mk 9 lo hi ns ps rs) v = W9 v.entries.length ++ v.entries.flatMap entryE := by
 rw [putV, if_neg (by decide), if_neg (by decide), if_neg (by decide), if_neg (by decide), if_neg (by decide), if_pos (by rfl), Yc5]
theorem putV_67 {k lo hi : Int} {ns : List ByteArray} {ps : List Lat} {rs : List Rl} (hk : k = 6 ∨ k = 7) (v : Val) : putV (.mk k lo hi ns ps rs) v = putVs ps v.parts := by
 rw [putV, if_neg (by omega), if_neg (by omega), if_neg (by omega), if_neg (by omega), if_neg (by omega), if_neg (by omega)]
theorem Yh4 {k : Int} (h : 1 ≤ k ∧ k ≤ 10) : k = 1 ∨ (k = 2 ∨ k = 3) ∨ (k = 4 ∨ k = 10) ∨ k = 5 ∨ (k = 6 ∨ k = 7) ∨ k = 8 ∨ k = 9 := by omega
theorem zip_map {α β : Type} : ∀ l : List (α × β), (l.map Prod.fst).zip (l.map Prod.snd) = l
 | [] => rfl
 | (a, b) :: t => by simp [zip_map t]
theorem tks_read (f : Nat) : ∀ l : Lat, SizeOf.sizeOf l ≤ f → WfL l → Tks (Xp l) (putV l) := by
 induction f with
 | zero => intro l hn; cases l; simp at hn
 | succ f ih =>
   intro l hn hwf
   have hk := hwf.kinds
   have hp : ∀ p ∈ l.parts, Tks (Xp p) (putV p) := fun p hp => ih p (by have := Zu2 hp; omega) (hwf.part hp)
   obtain ⟨k, lo, hi, ns, ps, rs⟩ := l
   simp only [Lat.kind, Lat.lo, Lat.hi, Lat.names, Lat.parts, Lat.rules] at hk hp
   rcases Yh4 hk.1 with rfl | e | e | rfl | e | rfl | rfl
   · refine ⟨fun s h => ?_, fun s h he => ?_⟩
     · rw [readV_1]; exact rdBool_ok h
     · rw [readV_1] at he ⊢
       have := rdBool_took h he
       rw [putV_1]
       simp only [Val.n]
       cases hb : (Jw s).1 <;> rw [hb] at this <;> exact this
   · refine ⟨fun s h => ?_, fun s h he => ?_⟩
     · rw [Yl0 e]; exact ⟨(rdInt_ok h).1, (rdInt_ok h).2.1⟩
     · rw [Yl0 e] at he ⊢
       rw [putV_23 e]
       exact rdInt_took h he
   · refine ⟨fun s h => ?_, fun s h he => ?_⟩
     · rw [Zz0 e]; exact (Jr U0).ok s h
     · rw [Zz0 e] at he ⊢
       rw [putV_410 e]
       exact (Jr U0).took s h he
   · obtain ⟨p, rfl⟩ := List.length_eq_one_iff.1 (hk.2.1 rfl)
     have hq := Jr (tks_pair (hp p (by simp)))
     refine ⟨fun s h => ?_, fun s h he => ?_⟩
     · rw [readV_5]; exact hq.ok s h
     · rw [readV_5] at he ⊢
       rw [putV_5]
       simp only [Val.names, Val.parts, zip_map, List.length_map]
       exact hq.took s h he
   · refine ⟨fun s h => ?_, fun s h he => ?_⟩
     · rw [Yk9 e]; exact Zf0 ps (fun p hpm => (hp p hpm).ok) s h
     · rw [Yk9 e] at he ⊢
       rw [putV_67 e]
       exact (Zk2 ps hp s h he).1
   · refine ⟨fun s h => ?_, fun s h he => ?_⟩
     · rw [readV_8]
       obtain ⟨h1, h2⟩ := Ja 2 h
       split
       · obtain ⟨h3, h4⟩ := U0.ok _ h1
         exact ⟨h3, h4.trans h2⟩
       · exact ⟨h1, h2⟩
     · rw [readV_8] at he ⊢
       obtain ⟨h1, h2⟩ := Ja 2 h
       rw [putV_8]
       by_cases h8 : (X9 2 s).1 = 1
       · rw [if_pos h8] at he ⊢
         simp only [Val.n, Val.names, if_true, List.headD_cons]
         have t2 := U0.took _ h1 he
         have t1 := Jv 2 h t2.err.1
         rw [h8] at t1
         exact t1.trans t2
       · rw [if_neg h8] at he ⊢
         rw [show (if (Val.mk ((X9 2 s).1 : Nat) [] [] []).n = 1 then U8 ((Val.mk ((X9 2 s).1 : Nat) [] [] []).names.headD Zq) else []) = [] from if_neg (by show ¬ (((X9 2 s).1 : Nat) : Int) = 1; omega), Zp]
         exact Jv 2 h he
   · refine ⟨fun s h => ?_, fun s h he => ?_⟩
     · rw [readV_9]; exact (Jr Zx8).ok s h
     · rw [readV_9] at he ⊢
       rw [putV_9]
       exact (Jr Zx8).took s h he
/-! What was written. -/
/-! The decoder. -/
def Zn1 (l : Lat) (b : List UInt8) : Val × Int :=
 if chkE l ≠ 0 then (Ub, 1) else if (Xp l ⟨b, 0, 0, 0⟩).2.ends ≠ 0 ∨ Ya l (Xp l ⟨b, 0, 0, 0⟩).1 = false then (Ub, 2) else ((Xp l ⟨b, 0, 0, 0⟩).1, 0)
theorem new_ok (b : List UInt8) : RS.Ok ⟨b, 0, 0, 0⟩ := ⟨Z6 _, Zr _, .inl rfl⟩
end
section
attribute [local irreducible] on aOp
attribute [local go_sem] decide_true decide_false Zt Zm
attribute [local simp] byD_len
def cmpC (a b : Cmd) : Int := orI [cmpI a.client b.client, cmpI a.seq b.seq, Lib.compareBytes (encC a) (encC b)]
variable (G : Nat → D) (hG : ∀ g, low 0 (G g))
include hG
end
section
variable {P : Program} {G : Nat → D} {h : List Ob} {f : FuncId} {args : List D}
theorem Does.drop {K K' : List Ob → D → Prop} (hG : ∀ g, low 0 (G g)) (q : Does P G f h args K) (k : ∀ h' r, K h' r → ∃ m, h.length ≤ m ∧ m ≤ h'.length ∧ lowH m (h'.take m) ∧ low m (cvD (fun i => decide (m ≤ i)) h' r) ∧ K' (h'.take m) (cvD (fun i => decide (m ≤ i)) h' r)) : Does P G f h args K' := fun w hd p vs o ha => by
 refine (q w hd p vs o ha).mono ?_
 rintro e w' ⟨v, hd', h', r, p', rfl, hK, ok, hr, ev⟩
 obtain ⟨m, h2, h3, h4, h5, h6⟩ := k _ _ hK
 obtain ⟨p2, o2, ev2, cv⟩ := ok.give fun i => decide (m ≤ i)
 have htk : (Zm7 (fun i => decide (m ≤ i)) h').take m = h'.take m := by
  apply List.ext_getElem?
  intro i
  rw [List.getElem?_take, List.getElem?_take]
  split
  · rename_i hi
    unfold Zm7
    rw [List.getElem?_mapIdx]
    cases h'[i]? with
    | none => rfl
    | some ob => simp [show ¬ m ≤ i by omega]
  · rfl
 have hlk : (Zm7 (fun i => decide (m ≤ i)) h').length = h'.length := by simp [Zm7]
 have o3 := o2.take (m := m) (by rw [htk]; exact h4) fun g => Zp3 (Z6 _) _ (hG g)
 have ev3 := (ev.trans ev2).take o h2 (by rw [hlk]; exact h3)
 have q3 := Zf1 (m := m) (by rw [hlk, ok.len]) _ _ h5 (cv _ _ hr)
 rw [htk] at o3 ev3 q3
 exact ⟨v, _, _, _, p2, rfl, h6, o3, q3, ev3⟩
end
end Go.Proofs.YtbhkcbidcfofiaaGreat
