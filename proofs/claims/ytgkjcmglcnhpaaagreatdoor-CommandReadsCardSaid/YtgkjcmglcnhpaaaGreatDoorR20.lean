/-
  What the statements of the chapter share, part 20: PL1, LX, LA1, LA2, LA3, LA4.
-/
import Derived.Test.YtgkjcmglcnhpaaaGreatDoorR01
import Derived.Test.YtgkjcmglcnhpaaaGreatDoorR15
import Derived.Lib.Strings
set_option linter.unusedVariables false
set_option linter.unusedSimpArgs false
set_option maxRecDepth 100000
set_option maxHeartbeats 8000000
namespace Go.Proofs.YtgkjcmglcnhpaaaGreatDoor
open _root_.Array renaming getElem?_eq_getElem → Zl
open _root_.Bool renaming false_eq_true → Z9, not_false → Ze, not_true → Zi, false_ne_true → Zk, true_and → Zm, eq_iff_iff → Zp
open _root_.Int renaming reduceEq → Z6, reduceLT → Z7, reduceLE → Z8, toNat_natCast → Za
open _root_.List renaming length_map → Z5, getElem?_eq_getElem → Zb, drop_eq_nil_of_le → Zd, drop_eq_getElem_cons → Zf, all_cons → Zh, all_eq_true → Zn, getElem_mem → Zo
open _root_.Nat renaming reduceEqDiff → Z0, reduceLeDiff → Z1, reduceAdd → Z2, reduceBEq → Z3, reduceMul → Z4, le_of_ble_eq_true → Zc, zero_le → Zj
open _root_.Go.Proofs.Tryz renaming prog → Zg
open Go.RowKit
section
def wordB (c : Int) : Bool := decide ((97 ≤ c ∧ c ≤ 122) ∨ (48 ≤ c ∧ c ≤ 57) ∨ c = 45)
def strEq (a b : ByteArray) : Bool := decide (a = b)
def hasS : List ByteArray → ByteArray → Bool
 | [], _ => false
 | x :: s, c => decide (x = c) || hasS s c
theorem hasS_iff : ∀ (l : List ByteArray) (c : ByteArray), hasS l c = true ↔ c ∈ l
 | [], c => by simp [hasS]
 | x :: s, c => by rw [hasS, Bool.or_eq_true, decide_eq_true_eq, hasS_iff, List.mem_cons, eq_comm]
theorem Zc0 {α : Type} (xs : List α) (k : Nat) (h : k < xs.length) : xs.drop k = xs[k] :: xs.drop (k + 1) := Zf h
def subsetS (a b : List ByteArray) : Bool := a.all fun s => hasS b s
def strLt (a b : ByteArray) : Bool := Op.bytesLess a.toList b.toList
def Wu : ByteArray → List ByteArray → Bool
 | _, [] => true
 | p, x :: t => strLt p x && Wu x t
def Jy : List ByteArray → Bool
 | [] => true
 | x :: t => Wu x t
def Vc (s : ByteArray) : Bool := decide (1 ≤ s.size ∧ s.size ≤ 16) && (decide ((97 : Int) ≤ ((s.data.toList.getD 0 0).toNat : Int) ∧ ((s.data.toList.getD 0 0).toNat : Int) ≤ 122) && s.data.toList.all fun c => wordB c.toNat)
theorem all_attach {α : Type} (l : List α) (f : α → Bool) : (l.attach.all fun p => f p.1) = l.all f := by
  rw [Zp]
  simp [Zn]
def V7 : Lat → Bool
 | .mk k _ _ _ ps _ => decide (k = 1 ∨ k = 2 ∨ k = 3) || (decide (k = 7) && decide (ps.length = 2) && ps.attach.all fun p => V7 p.1)
 termination_by l => SizeOf.sizeOf l
 decreasing_by
  have := List.sizeOf_lt_of_mem p.2
  simp only [Lat.mk.sizeOf_spec]
  omega
theorem Zt2 (l : Lat) : V7 l = (decide (l.kind = 1 ∨ l.kind = 2 ∨ l.kind = 3) || (decide (l.kind = 7) && decide (l.parts.length = 2) && l.parts.all V7)) := by
 cases l with
 | mk k lo hi ns ps rs => rw [V7, all_attach]; rfl
theorem sizeOf_part {l p : Lat} (h : p ∈ l.parts) : SizeOf.sizeOf p < SizeOf.sizeOf l := by
 cases l with
 | mk k lo hi ns ps rs =>
   have := List.sizeOf_lt_of_mem h
   simp only [Lat.parts] at this
   simp only [Lat.mk.sizeOf_spec]
   omega
def whenI (b : Bool) (e : Int) : Int := if b then e else 0
def Ya6 (k : Int) : Nat := if k = 6 then 8 else if k = 10 then 12 else 32
def Zj7 (l : Lat) : Bool := decide (Ya6 l.kind < l.names.length ∨ 32 < l.rules.length)
def Zz7 (l : Lat) : Bool := decide (l.hi < l.lo ∨ l.lo < -1000000000 ∨ 1000000000 < l.lo ∨ l.hi < -1000000000 ∨ 1000000000 < l.hi)
def Jp (l : Lat) : Bool := decide (l.kind = 7) && !(match l.parts with
 | p :: _ => V7 p
 | [] => true)
def Wr (k : Int) (n : Nat) : Option (Nat × Bool × Bool × Bool) :=
 if k = 1 ∨ k = 9 then some (0, false, false, false) else if k = 2 ∨ k = 3 then some (0, false, false, true)
 else if k = 4 ∨ k = 8 then some (0, true, false, false) else if k = 5 then some (1, true, false, false)
 else if k = 7 then some (2, false, false, false) else if k = 6 then some (n, true, false, false)
 else if k = 10 then some (0, true, true, false) else none
def Za0 (k lo hi : Int) (nn np nr : Nat) : Bool := match Wr k nn with
 | none => true
 | some (p, named, ruled, ranged) => decide (np ≠ p) || (!named && decide (0 < nn)) || (!ruled && decide (0 < nr)) || (!ranged && decide (lo ≠ 0 ∨ hi ≠ 0)) || (decide (k = 6 ∨ k = 10) && decide (nn = 0))
def Vl (l : Lat) : Bool := Za0 l.kind l.lo l.hi l.names.length l.parts.length l.rules.length
theorem shape_kinds (k : Int) (n : Nat) : (Wr k n = some (0, false, false, false) ∧ (k = 1 ∨ k = 9)) ∨ (Wr k n = some (0, false, false, true) ∧ (k = 2 ∨ k = 3)) ∨
 (Wr k n = some (0, true, false, false) ∧ (k = 4 ∨ k = 8)) ∨ (Wr k n = some (1, true, false, false) ∧ k = 5) ∨ (Wr k n = some (2, false, false, false) ∧ k = 7) ∨
 (Wr k n = some (n, true, false, false) ∧ k = 6) ∨ (Wr k n = some (0, true, true, false) ∧ k = 10) ∨ (Wr k n = none ∧ ¬ (1 ≤ k ∧ k ≤ 10)) := by
 by_cases h1 : k = 1
 · subst h1; simp [Wr]
 by_cases h2 : k = 2
 · subst h2; simp [Wr]
 by_cases h3 : k = 3
 · subst h3; simp [Wr]
 by_cases h4 : k = 4
 · subst h4; simp [Wr]
 by_cases h5 : k = 5
 · subst h5; simp [Wr]
 by_cases h6 : k = 6
 · subst h6; simp [Wr]
 by_cases h7 : k = 7
 · subst h7; simp [Wr]
 by_cases h8 : k = 8
 · subst h8; simp [Wr]
 by_cases h9 : k = 9
 · subst h9; simp [Wr]
 by_cases h10 : k = 10
 · subst h10; simp [Wr]
 · simp [Wr, h1, h2, h3, h4, h5, h6, h7, h8, h9, h10]; omega
def nmGo (p : Bool) (full : List ByteArray) : Nat → List ByteArray → Bool
 | _, [] => true
 | k, s :: t => Vc s && !(p && hasS (full.take k) s) && nmGo p full (k + 1) t
def ruleB (ns : List ByteArray) (r : Rl) : Bool := decide (r.cond.length ≠ 0) && Jy r.cond && subsetS r.cond ns && hasS ns r.concl
def rulesB (ns : List ByteArray) (rs : List Rl) : Bool := rs.all (ruleB ns)
def spellB (l : Lat) : Bool := !(nmGo (l.kind == 6) l.names 0 l.names && (l.kind == 6 || Jy l.names) && rulesB l.names l.rules)
theorem nmGo_step (p : Bool) (full : List ByteArray) (k : Nat) (h : k < full.length) : nmGo p full k (full.drop k) = (Vc full[k] && !(p && hasS (full.take k) full[k]) && nmGo p full (k + 1) (full.drop (k + 1))) := by
 rw [Zc0 full k h, nmGo]
def latE (l : Lat) : Int := orI [whenI (Zj7 l) 6, whenI (spellB l) 3, whenI (Zz7 l) 5, whenI (Jp l) 4]
def goL (g : Lat → Nat → Int × Nat) : List Lat → Nat → Int × Nat
 | [], n => (0, n)
 | p :: t, n => if (g p n).1 ≠ 0 then g p n else goL g t (g p n).2
def U5 : Nat → Lat → Nat → Int × Nat
 | 0, _, n => (6, n)
 | f + 1, l, n => if 64 ≤ n then (6, n) else if Vl l then (1, n + 1) else if latE l ≠ 0 then (latE l, n + 1) else goL (U5 f) l.parts (n + 1)
theorem shapeB_lex (l : Lat) (h : Vl l = false) (h7 : l.kind = 7) : l.parts.length = 2 := by
 unfold Vl Za0 at h
 rw [h7] at h
 simp [Wr] at h
 exact h.1.1.1
def chkE (l : Lat) : Int := (U5 6 l 0).1
def Xy (l : List ByteArray) : Bool := l.all Vc && Jy l
def Ys (l : List ByteArray) (k : Nat) : Bool := (l.drop k).all Vc && (match k with
 | 0 => Jy l
 | j + 1 => match l[j]? with
   | some p => Wu p (l.drop (j + 1))
   | none => true)
theorem Vx (l : List ByteArray) : Ys l 0 = Xy l := rfl
theorem Zk5 (l : List ByteArray) (h : 0 < l.length) : Ys l 0 = (Vc l[0] && Ys l 1) := by
 cases l with
 | nil => simp at h
 | cons x t => simp [Ys, Jy, Bool.and_assoc]
theorem Zp5 (l : List ByteArray) (j : Nat) (h : j + 1 < l.length) : Ys l (j + 1) = (Vc l[j + 1] && (strLt (l[j]'(by omega)) l[j + 1] && Ys l (j + 2))) := by
  unfold Ys
  simp only [Zb h, Zb (show j < l.length by omega)]
  rw [Zc0 l (j + 1) h, Zh, Wu, Zp]
  simp only [Bool.and_eq_true]
  constructor
  · rintro ⟨⟨a, b⟩, c, d⟩; exact ⟨a, c, b, d⟩
  · rintro ⟨a, c, b, d⟩; exact ⟨⟨a, b⟩, c, d⟩
theorem Zv1 (l : List ByteArray) (k : Nat) (h : l.length ≤ k) : Ys l k = true := by
 unfold Ys
 rw [Zd h]
 cases k with
 | zero =>
   have : l = [] := List.length_eq_zero_iff.1 (by omega)
   subst this; rfl
 | succ j =>
   show (true && _) = true
   rw [Zm]
   cases hj : l[j]? with
   | none => simp only [hj]
   | some p => simp only [hj]; rw [Zd h]; rfl
theorem kindI_ranged {k : Int} {n : Nat} (h2 : k ≠ 2) (h3 : k ≠ 3) : Wr k n = none ∨ ∃ p a b, Wr k n = some (p, a, b, false) := by
 unfold Wr
 repeat' split
 all_goals first | exact .inl rfl | exact .inr ⟨_, _, _, rfl⟩ | omega
theorem kindI_ruled {k : Int} {n : Nat} (h10 : k ≠ 10) : Wr k n = none ∨ ∃ p a b, Wr k n = some (p, a, false, b) := by
 unfold Wr
 repeat' split
 all_goals first | exact .inl rfl | exact .inr ⟨_, _, _, rfl⟩ | omega
theorem Zy3 {k lo hi : Int} {nn np nr : Nat} (h2 : k ≠ 2) (h3 : k ≠ 3) (h : lo ≠ 0 ∨ hi ≠ 0) : Za0 k lo hi nn np nr = true := by
 unfold Za0
 rcases kindI_ranged (n := nn) h2 h3 with e | ⟨p, a, b, e⟩
 · rw [e]
 · rw [e]; simp [h]
theorem Zk2 {k lo hi : Int} {nn np nr : Nat} (h10 : k ≠ 10) (h : nr ≠ 0) : Za0 k lo hi nn np nr = true := by
 unfold Za0
 rcases kindI_ruled (n := nn) h10 with e | ⟨p, a, b, e⟩
 · rw [e]
 · rw [e]; simp [show 0 < nr by omega]
theorem shapeC_none {k lo hi : Int} {nn np nr : Nat} (h : ¬ (1 ≤ k ∧ k ≤ 10)) : Za0 k lo hi nn np nr = true := by
 have hk : Wr k nn = none := by unfold Wr; rw [if_neg (by omega), if_neg (by omega), if_neg (by omega), if_neg (by omega), if_neg (by omega), if_neg (by omega), if_neg (by omega)]
 unfold Za0
 rw [hk]
def Jx (ns : List ByteArray) (r : Rl) : Bool := decide (r.cond.length ≠ 0) && (Xy r.cond && (hasS ns r.concl && r.cond.all (hasS ns)))
def Za5 (k : Int) (ns : List ByteArray) (rs : List Rl) : Bool := if k = 6 then nmGo true ns 0 ns else Xy ns && rs.all (Jx ns)
theorem rules_step (ns : List ByteArray) (rs : List Rl) (k : Nat) (h : k < rs.length) : (rs.drop k).all (Jx ns) = (Jx ns rs[k] && (rs.drop (k + 1)).all (Jx ns)) := by
 rw [Zc0 rs k h, Zh]
theorem conds_step (ns : List ByteArray) (cs : List ByteArray) (k : Nat) (h : k < cs.length) : (cs.drop k).all (hasS ns) = (hasS ns cs[k] && (cs.drop (k + 1)).all (hasS ns)) := by
 rw [Zc0 cs k h, Zh]
theorem hasS_name {ns : List ByteArray} (h : ns.all Vc = true) {c : ByteArray} (hc : hasS ns c = true) : Vc c = true :=
 Zn.1 h c ((hasS_iff _ _).1 hc)
theorem nmGo_all (full : List ByteArray) : ∀ (k : Nat) (l : List ByteArray), nmGo false full k l = l.all Vc
 | _, [] => rfl
 | k, s :: t => by rw [nmGo, nmGo_all full (k + 1) t, Zh, Bool.false_and, Ze, Bool.and_true]
theorem rule_eq {ns : List ByteArray} (h : ns.all Vc = true) (r : Rl) : Jx ns r = ruleB ns r := by
 unfold Jx ruleB Xy
 have hq : subsetS r.cond ns = r.cond.all (hasS ns) := rfl
 rw [hq]
 cases hs : r.cond.all (hasS ns)
 · simp
 · have : r.cond.all Vc = true := by
    rw [Zn] at hs ⊢
    intro c hc
    exact hasS_name h (hs c hc)
   rw [this]
   cases decide (r.cond.length ≠ 0) <;> cases Jy r.cond <;> cases hasS ns r.concl <;> rfl
theorem shapeB_rules {l : Lat} (h : Vl l = false) (h6 : l.kind = 6) : l.rules = [] := by
 refine List.eq_nil_of_length_eq_zero ?_
 by_cases h0 : l.rules.length = 0
 · exact h0
 · have := Zk2 (lo := l.lo) (hi := l.hi) (nn := l.names.length) (np := l.parts.length) (nr := l.rules.length) (k := l.kind) (by omega) h0
   exact absurd (h.symm.trans this) Zk
theorem spell_named {l : Lat} (h : Vl l = false) : spellB l = !(Za5 l.kind l.names l.rules) := by
 unfold spellB Za5
 by_cases h6 : l.kind = 6
 · rw [if_pos h6, shapeB_rules h h6, h6]
   have : rulesB l.names [] = true := rfl
   rw [this]
   simp
 · rw [if_neg h6]
   have hk : (l.kind == 6) = false := by rw [beq_eq_false_iff_ne]; exact h6
   rw [hk, nmGo_all, Bool.false_or]
   unfold Xy
   cases hn : l.names.all Vc
   · simp
   · have hr : rulesB l.names l.rules = l.rules.all (Jx l.names) := by
      unfold rulesB
      congr 1
      funext r
      exact (rule_eq hn r).symm
     rw [hr, Zm]
def Zd7 (l : Lat) (d : Int) (n : Nat) : Int := if 6 < d ∨ 64 ≤ n then 6 else if Vl l then 1 else if Zj7 l then 6 else if Za5 l.kind l.names l.rules = false then 3 else if l.hi < l.lo ∨ l.lo < -1000000000 ∨ 1000000000 < l.hi then 5 else if Jp l then 4 else 0
theorem ranges_iff (l : Lat) : Zz7 l = decide (l.hi < l.lo ∨ l.lo < -1000000000 ∨ 1000000000 < l.hi) := by
 unfold Zz7
 rw [decide_eq_decide]
 omega
theorem Zw4 (f : Nat) (l : Lat) (n : Nat) (d : Int) (hd : d = 7 - f) (hf : f ≤ 6) : Zd7 l d n ≠ 0 ∧ (U5 f l n).1 = Zd7 l d n ∨ Zd7 l d n = 0 ∧ ∃ g, f = g + 1 ∧ U5 f l n = goL (U5 g) l.parts (n + 1) := by
 unfold Zd7
 cases f with
 | zero =>
   left
   rw [if_pos (by omega)]
   exact ⟨by decide, rfl⟩
 | succ f =>
   have hv : U5 (f + 1) l n = if 64 ≤ n then (6, n) else if Vl l then (1, n + 1) else if latE l ≠ 0 then (latE l, n + 1) else goL (U5 f) l.parts (n + 1) := rfl
   by_cases h64 : 64 ≤ n
   · left
     rw [if_pos (.inr h64), hv, if_pos h64]
     exact ⟨by decide, rfl⟩
   · rw [if_neg (by omega), hv, if_neg h64]
     cases hs : Vl l
     · rw [if_neg Zk, if_neg Zk]
       have hc : latE l = if Zj7 l then 6 else if Za5 l.kind l.names l.rules = false then 3 else if l.hi < l.lo ∨ l.lo < -1000000000 ∨ 1000000000 < l.hi then 5 else if Jp l then 4 else 0 := by
        unfold latE
        rw [spell_named hs, ranges_iff]
        cases Zj7 l <;> cases Za5 l.kind l.names l.rules <;> by_cases hr : (l.hi < l.lo ∨ l.lo < -1000000000 ∨ 1000000000 < l.hi) <;> cases Jp l <;> simp [hr, whenI, orI]
       rw [← hc]
       by_cases h0 : latE l = 0
       · right
         rw [if_neg (fun h => h h0)]
         exact ⟨h0, f, rfl, rfl⟩
       · left
         rw [if_pos h0]
         exact ⟨h0, rfl⟩
     · left
       rw [if_pos rfl, if_pos rfl]
       exact ⟨by decide, rfl⟩
theorem visit_le (f : Nat) : ∀ (l : Lat) (n : Nat), n ≤ 64 → (U5 f l n).2 ≤ 64 := by
 induction f with
 | zero => intro l n h; exact h
 | succ f ih =>
   intro l n h
   have hv : U5 (f + 1) l n = if 64 ≤ n then (6, n) else if Vl l then (1, n + 1) else if latE l ≠ 0 then (latE l, n + 1) else goL (U5 f) l.parts (n + 1) := rfl
   have hg : ∀ (ps : List Lat) (n : Nat), n ≤ 64 → (goL (U5 f) ps n).2 ≤ 64 := by
    intro ps
    induction ps with
    | nil => intro n h; exact h
    | cons p t ht =>
      intro n h
      rw [goL]
      split
      · exact ih p n h
      · exact ht _ (ih p n h)
   rw [hv]
   split
   · exact h
   · split
     · show n + 1 ≤ 64; omega
     · split
       · show n + 1 ≤ 64; omega
       · exact hg _ _ (by omega)
inductive WfL : Lat → Prop
 | mk (l : Lat) (h1 : Vl l = false) (h2 : latE l = 0) (h3 : ∀ p ∈ l.parts, WfL p) : WfL l
theorem WfL.shape {l : Lat} (h : WfL l) : Vl l = false := by cases h; assumption
theorem WfL.check {l : Lat} (h : WfL l) : latE l = 0 := by cases h; assumption
theorem WfL.part {l p : Lat} (h : WfL l) (hp : p ∈ l.parts) : WfL p := by cases h; rename_i h; exact h p hp
theorem orI4_zero {a b c d : Int} (h : orI [a, b, c, d] = 0) : a = 0 ∧ b = 0 ∧ c = 0 ∧ d = 0 := by
 unfold orI at h
 by_cases ha : a = 0
 · rw [if_pos ha] at h; unfold orI at h
   by_cases hb : b = 0
   · rw [if_pos hb] at h; unfold orI at h
     by_cases hc : c = 0
     · rw [if_pos hc] at h; unfold orI at h
       by_cases hd : d = 0
       · exact ⟨ha, hb, hc, hd⟩
       · rw [if_neg hd] at h; exact absurd h hd
     · rw [if_neg hc] at h; exact absurd h hc
   · rw [if_neg hb] at h; exact absurd h hb
 · rw [if_neg ha] at h; exact absurd h ha
theorem Zu7 {b : Bool} {e : Int} (he : e ≠ 0) (h : whenI b e = 0) : b = false := by
 cases b
 · rfl
 · exact absurd h he
theorem WfL.limits {l : Lat} (h : WfL l) : Zj7 l = false := Zu7 (by decide) (orI4_zero h.check).1
theorem WfL.ranges {l : Lat} (h : WfL l) : Zz7 l = false := Zu7 (by decide) (orI4_zero h.check).2.2.1
theorem WfL.kinds {l : Lat} (h : WfL l) : (1 ≤ l.kind ∧ l.kind ≤ 10) ∧ (l.kind = 5 → l.parts.length = 1) ∧ (l.kind = 7 → l.parts.length = 2) ∧ (l.kind = 6 → l.parts.length = l.names.length ∧ 1 ≤ l.names.length ∧ l.names.length ≤ 8) ∧
 (l.kind ≠ 5 → l.kind ≠ 6 → l.kind ≠ 7 → l.parts.length = 0) ∧ (l.kind ≠ 2 → l.kind ≠ 3 → l.lo = 0 ∧ l.hi = 0) ∧ (l.kind ≠ 10 → l.rules.length = 0) ∧ l.names.length ≤ 32 ∧ l.rules.length ≤ 32 ∧ (l.kind = 10 → 1 ≤ l.names.length ∧ l.names.length ≤ 12) ∧
 (l.kind = 1 ∨ l.kind = 2 ∨ l.kind = 3 ∨ l.kind = 7 ∨ l.kind = 9 → l.names.length = 0) := by
 have h1 := h.shape
 have h2 : ¬ (Ya6 l.kind < l.names.length ∨ 32 < l.rules.length) := of_decide_eq_false h.limits
 have hA : l.kind = 6 → l.names.length ≤ 8 := fun e => by unfold Ya6 at h2; rw [if_pos e] at h2; omega
 have hB : l.kind = 10 → l.names.length ≤ 12 := fun e => by unfold Ya6 at h2; rw [if_neg (by omega), if_pos e] at h2; omega
 have hC : l.names.length ≤ 32 := by
  unfold Ya6 at h2
  by_cases e : l.kind = 6
  · have := hA e; omega
  · by_cases e' : l.kind = 10
    · have := hB e'; omega
    · rw [if_neg e, if_neg e'] at h2; omega
 have hD : l.rules.length ≤ 32 := by omega
 unfold Vl Za0 at h1
 rcases shape_kinds l.kind l.names.length with ⟨hk, hx⟩ | ⟨hk, hx⟩ | ⟨hk, hx⟩ | ⟨hk, hx⟩ | ⟨hk, hx⟩ | ⟨hk, hx⟩ | ⟨hk, hx⟩ | ⟨hk, hx⟩
 all_goals
  rw [hk] at h1
  simp only [Bool.or_eq_false_iff, Bool.and_eq_false_iff, decide_eq_false_iff_not, Zi, Ze, Zm, Bool.false_and, reduceCtorEq, false_or, true_or, Decidable.not_not, Bool.true_eq_false, and_true, true_and] at h1
 all_goals omega
end
section
def strX (s : ByteArray) : List D := [.v (.string s)]
def Zy6 (r : Rl) : List D := [.sl 1 (r.cond.map strX), .v (.string r.concl)]
def tkX (t : Tk) : List D := [.v (.int .i64 t.process), .v (.int .i64 t.n)]
def enX (e : En) : List D := [.sl 2 (e.clock.map tkX), .v (.string e.name)]
mutual
def latX : Lat → List D
 | .mk k lo hi ns ps rs => [.v (.int .i64 k), .v (.int .i64 lo), .v (.int .i64 hi), .sl 1 (ns.map strX), .sl 6 (latXs ps), .sl 2 (rs.map Zy6)]
def latXs : List Lat → List (List D)
 | [] => []
 | p :: t => latX p :: latXs t
end
mutual
def vaX : Val → List D
 | .mk m ns ps es => [.v (.int .i64 m), .sl 1 (ns.map strX), .sl 4 (vaXs ps), .sl 2 (es.map enX)]
def vaXs : List Val → List (List D)
 | [] => []
 | p :: t => vaX p :: vaXs t
end
theorem latXs_map : ∀ l : List Lat, latXs l = l.map latX
 | [] => by rw [latXs]; rfl
 | p :: t => by rw [latXs, latXs_map t]; rfl
theorem Y9 (l : Lat) : latX l = [.v (.int .i64 l.kind), .v (.int .i64 l.lo), .v (.int .i64 l.hi), .sl 1 (l.names.map strX), .sl 6 (l.parts.map latX), .sl 2 (l.rules.map Zy6)] := by
 cases l; rw [latX, latXs_map]; rfl
theorem Uf (l : Lat) : (latX l).length = 6 := by rw [Y9]; rfl
theorem Za7 (l : Lat) : (latX l).take 6 = latX l := List.take_of_length_le (by rw [Uf]; omega)
/-! What is read names no memory of a call's own. -/
section
variable (m : Nat)
theorem Zj6 {α : Type} {f : α → List D} {k : Nat} (l : List α) (q : ∀ x ∈ l, lowL m (f x)) : low m (.sl k (l.map f)) := by
 rw [low, Ji]
 intro row hr
 obtain ⟨b, hb, rfl⟩ := List.mem_map.1 hr
 exact q b hb
theorem Yb0 (l : List ByteArray) : low m (.sl 1 (l.map strX)) := Zj6 m l fun _ _ => by simp [strX, lowL, low]
theorem low_rules (l : List Rl) : low m (.sl 2 (l.map Zy6)) := Zj6 m l fun r _ => by rw [Zy6, lowL, lowL, lowL, low]; exact ⟨Yb0 m _, trivial, trivial⟩
theorem low_ens (l : List En) : low m (.sl 2 (l.map enX)) := Zj6 m l fun r _ => by
 rw [enX, lowL, lowL, lowL, low]
 exact ⟨Zj6 m _ fun t _ => by simp [tkX, lowL, low], trivial, trivial⟩
mutual
theorem Zd8 : ∀ l : Lat, lowL m (latX l)
 | .mk k lo hi ns ps rs => by
  rw [latX]; simp only [lowL]
  exact ⟨by rw [low]; trivial, by rw [low]; trivial, by rw [low]; trivial, Yb0 m ns, by rw [low]; exact low_lats ps, low_rules m rs, trivial⟩
theorem low_lats : ∀ l : List Lat, lowR m (latXs l)
 | [] => by rw [latXs, lowR]; trivial
 | p :: t => by rw [latXs, lowR]; exact ⟨Zd8 p, low_lats t⟩
end
mutual
theorem low_val : ∀ l : Val, lowL m (vaX l)
 | .mk n ns ps es => by
  rw [vaX]; simp only [lowL]
  exact ⟨by rw [low]; trivial, Yb0 m ns, by rw [low]; exact low_vals ps, low_ens m es, trivial⟩
theorem low_vals : ∀ l : List Val, lowR m (vaXs l)
 | [] => by rw [vaXs, lowR]; trivial
 | p :: t => by rw [vaXs, lowR]; exact ⟨low_val p, low_vals t⟩
end
end
theorem Yb2 {P : Program} {t : TypeId} {κ : IntKind} {K : D → Prop} {s : ByteArray} {k : Nat} {m : Int} {b : UInt8} (h1 : strT P t = true) (hb : s.data[k]? = some b) (hm : m = (k : Int)) (q : K (.v (.int .u8 b.toNat))) : indA P t (.v (.string s)) (.v (.int κ m)) K := by
 have hk : k < s.size := (Array.getElem?_eq_some_iff.1 hb).1
 subst hm
 refine ind_str h1 (by omega) (by omega) fun c hc => ?_
 rw [Za, hb] at hc
 cases hc
 exact q
end
section
attribute [local irreducible] on aOp
attribute [local go_sem] decide_true decide_false Zi Ze
attribute [local simp] byD_len
theorem Xl (s : ByteArray) : strX s = [.v (.string s)] := rfl
theorem get_byte {s : ByteArray} {k : Nat} {b : UInt8} (h : s.data[k]? = some b) : s.data.toList.drop k = b :: s.data.toList.drop (k + 1) := by
 have h2 : s.data.toList[k]? = some b := by rw [Array.getElem?_toList]; exact h
 obtain ⟨hl, rfl⟩ := List.getElem?_eq_some_iff.1 h2
 exact Zf hl
theorem get_first {s : ByteArray} {b : UInt8} (h : s.data[0]? = some b) : s.data.toList.getD 0 0 = b := by
 have h2 : s.data.toList[0]? = some b := by rw [Array.getElem?_toList]; exact h
 rw [List.getD_eq_getElem?_getD, h2]; rfl
def nameR (s : ByteArray) : Prop := (1 ≤ s.size ∧ s.size ≤ 16) ∧ 97 ≤ (s.data.toList.getD 0 0).toNat ∧ (s.data.toList.getD 0 0).toNat ≤ 122
theorem nameB_no {s : ByteArray} (h : ¬ nameR s) : Vc s = false := by
 unfold nameR at h; unfold Vc
 by_cases h1 : 1 ≤ s.size ∧ s.size ≤ 16
 · rw [decide_eq_false (p := (97 : Int) ≤ _ ∧ _) (by omega)]; simp
 · rw [decide_eq_false h1]; rfl
theorem nameB_yes {s : ByteArray} (h : nameR s) : Vc s = s.data.toList.all fun c => wordB c.toNat := by
 unfold nameR at h; unfold Vc
 rw [decide_eq_true h.1, decide_eq_true (p := (97 : Int) ≤ _ ∧ _) (by omega)]; rfl
variable (G : Nat → D) (hG : ∀ g, low 0 (G g))
include hG
theorem rName_d (s : ByteArray) (hs : s.size ≤ 9223372036854775807) (h : List Ob) : Does Zg G 41 h [.v (.string s)] (fun h' r => h' = h ∧ r = .v (.bool (Vc s))) := by
 refine Y5 Tryz.func41 rfl (Zc rfl) hG fun hl0 _ => ?_
 simp only [Tryz.ntmps41]
 by_cases hsz : 1 ≤ s.size ∧ s.size ≤ 16
 rotate_left
 · have e1 := nameB_no (s := s) (fun h => hsz h.1)
   repeat' first
    | (with_reducible first | refine sA rfl ?_ | refine sI rfl rfl ?_ | refine sT rfl ?_)
    | (with_reducible refine Y8 ?_; first | refine Y4 ?_ | (refine ao1 rfl rfl fun K HK => ?_; (first | refine Y7 rfl ?_ | skip); simp only [go_sem, ↓reduceIte, Z0, Z2, Z1, Z3, Z4, Z6, Z7, Z8]; (first | refine Y6 (fun hq => ?_) (fun hq => ?_) | skip) <;> (refine HK _ _ ?_; clear HK K)) | refine ao0 rfl rfl ?_)
    | (exfalso; omega)
   all_goals exact ⟨.inr rfl, endD (r := .v (.bool false)) hl0 rfl (by simp) (by simp) rfl (by rw [low]; trivial) ⟨rfl, by rw [e1]⟩⟩
 obtain ⟨b0, hb0⟩ : ∃ b, s.data[0]? = some b := ⟨s.data[0]'(by show 0 < s.size; omega), Zl _⟩
 have g0 := get_first hb0
 by_cases hb : 97 ≤ b0.toNat ∧ b0.toNat ≤ 122
 rotate_left
 · have e1 := nameB_no (s := s) (fun h => hb (by rw [← g0]; exact h.2))
   repeat' first
    | (with_reducible first | refine sA rfl ?_ | refine sI rfl rfl ?_ | refine sT rfl ?_)
    | (with_reducible refine Y8 ?_; first | (refine ao1 rfl rfl fun K HK => ?_; simp only [go_sem, ↓reduceIte, Z0, Z2, Z1, Z3, Z4, Z6, Z7, Z8]; refine Yb2 (by simp only [go_sem]) hb0 (by first | rfl | omega) ?_; refine HK _ _ ?_; clear HK K) | refine Y4 ?_ | (refine ao1 rfl rfl fun K HK => ?_; (first | refine Y7 rfl ?_ | skip); simp only [go_sem, ↓reduceIte, Z0, Z2, Z1, Z3, Z4, Z6, Z7, Z8]; (first | refine Y6 (fun hq => ?_) (fun hq => ?_) | skip) <;> (refine HK _ _ ?_; clear HK K)) | refine ao0 rfl rfl ?_)
    | (exfalso; omega)
   all_goals first | (exfalso; omega) | exact ⟨.inr rfl, endD (r := .v (.bool false)) hl0 rfl (by simp) (by simp) rfl (by rw [low]; trivial) ⟨rfl, by rw [e1]⟩⟩
 have e1 := nameB_yes (s := s) ⟨hsz, by rw [g0]; exact hb⟩
 repeat' first
  | (with_reducible first | refine sA rfl ?_ | refine sI rfl rfl ?_ | refine sT rfl ?_)
  | (with_reducible refine Y8 ?_; first | (refine ao1 rfl rfl fun K HK => ?_; simp only [go_sem, ↓reduceIte, Z0, Z2, Z1, Z3, Z4, Z6, Z7, Z8]; refine Yb2 (by simp only [go_sem]) hb0 (by first | rfl | omega) ?_; refine HK _ _ ?_; clear HK K) | refine Y4 ?_ | (refine ao1 rfl rfl fun K HK => ?_; (first | refine Y7 rfl ?_ | skip); simp only [go_sem, ↓reduceIte, Z0, Z2, Z1, Z3, Z4, Z6, Z7, Z8]; (first | refine Y6 (fun hq => ?_) (fun hq => ?_) | skip) <;> (refine HK _ _ ?_; clear HK K)) | refine ao0 rfl rfl ?_)
  | (exfalso; omega)
 all_goals try (exfalso; omega)
 refine Yr (fun m e h' => ∃ k : Nat, k ≤ s.size ∧ m = s.size - k ∧ Vc s = (s.data.toList.drop k).all (fun c => wordB c.toNat) ∧ h' = h ∧ e 0 = .v (.string s) ∧ e 3 = .v (.int .i64 k)) s.size ⟨0, Zj _, rfl, e1, rfl, rfl, rfl⟩ ?_
 rintro m e h' ⟨k, hk, rfl, ho, rfl, e0, e3⟩
 by_cases hlt : k < s.size
 · obtain ⟨c, hc⟩ : ∃ b, s.data[k]? = some b := ⟨s.data[k]'hlt, Zl _⟩
   have wk : IntKind.i64.wrap ((k : Int) + 1) = (k : Int) + 1 := IntWalk.i64_in _ (by omega)
   rw [get_byte hc, Zh] at ho
   repeat' first
    | (with_reducible first | refine sA rfl ?_ | refine sI rfl rfl ?_ | refine sT rfl ?_ | refine sB rfl ?_)
    | (with_reducible refine Y8 ?_; first | (refine ao1 rfl rfl fun K HK => ?_; simp only [go_sem, ↓reduceIte, Z0, Z2, Z1, Z3, Z4, Z6, Z7, Z8, e0, e3, Za, wk]; refine Yb2 (by simp only [go_sem]) hc (by first | rfl | omega) ?_; refine HK _ _ ?_; clear HK K) | refine Y4 ?_ | (refine ao1 rfl rfl fun K HK => ?_; (first | refine Y7 rfl ?_ | skip); simp only [go_sem, ↓reduceIte, Z0, Z2, Z1, Z3, Z4, Z6, Z7, Z8, e0, e3, Za, wk]; (first | refine Y6 (fun hq => ?_) (fun hq => ?_) | refine W7 (fun hq => ?_) (fun hq => ?_) | skip) <;> (refine HK _ _ ?_; clear HK K)) | refine ao0 rfl rfl ?_)
    | (exfalso; omega)
   all_goals first
   | exact ⟨rfl, s.size - (k + 1), by omega, k + 1, hlt, rfl, by rw [ho, show wordB c.toNat = true from decide_eq_true (by omega)]; rfl, rfl, e0, rfl⟩
   | exact ⟨.inr rfl, endD (r := .v (.bool false)) hl0 rfl (by simp) (by simp) rfl (by rw [low]; trivial) ⟨rfl, by rw [ho, show wordB c.toNat = false from decide_eq_false (by omega)]; rfl⟩⟩
 · skip
   repeat' first
    | (with_reducible first | refine sA rfl ?_ | refine sI rfl rfl ?_ | refine sT rfl ?_ | refine sB rfl ?_)
    | (with_reducible refine Y8 ?_; first | refine Y4 ?_ | (refine ao1 rfl rfl fun K HK => ?_; simp only [go_sem, ↓reduceIte, Z0, Z2, Z1, Z3, Z4, Z6, Z7, Z8, e0, e3]; (first | refine Y6 (fun hq => ?_) (fun hq => ?_) | skip) <;> (refine HK _ _ ?_; clear HK K)))
    | (exfalso; omega)
   exact ⟨.inr rfl, endD (r := .v (.bool true)) hl0 rfl (by simp) (by simp) rfl (by rw [low]; trivial) ⟨rfl, by rw [ho, Zd (by show s.data.toList.length ≤ k; rw [Array.length_toList]; show s.size ≤ k; omega)]; rfl⟩⟩
theorem rIn_d (l : List ByteArray) (a : ByteArray) (hl : l.length ≤ 9223372036854775807) (h : List Ob) : Does Zg G 151 h [.sl 1 (l.map strX), .v (.string a)] (fun h' r => h' = h ∧ r = .v (.bool (hasS l a))) := by
 refine Y5 Tryz.func151 rfl (Zc rfl) hG fun hl0 _ => ?_
 simp only [Tryz.ntmps151]
 repeat' first
  | (with_reducible first | refine sA rfl ?_ | refine sT rfl ?_)
  | (with_reducible refine Y8 ?_; first | refine Y4 ?_ | (refine ao1 rfl rfl fun K HK => ?_; simp only [go_sem, ↓reduceIte, Z0, Z2, Z1, Z3, Z4, Z6, Z7, Z8, Z5] <;> (refine HK _ _ ?_; clear HK K)))
 refine Yr (fun m e h' => ∃ k : Nat, k ≤ l.length ∧ m = l.length - k ∧ hasS l a = hasS (l.drop k) a ∧ h' = h ∧ e 0 = .sl 1 (l.map strX) ∧ e 1 = .v (.string a) ∧ e 5 = .v (.int .i64 k)) l.length ⟨0, Zj _, rfl, rfl, rfl, rfl, rfl, rfl⟩ ?_
 rintro m e h' ⟨k, hk, rfl, ho, rfl, e0, e1, e5⟩
 by_cases hlt : k < l.length
 · have hx : l[k]? = some l[k] := Zb hlt
   have hd : l.drop k = l[k] :: l.drop (k + 1) := Zf hlt
   generalize l[k] = x at hx hd
   have wk : IntKind.i64.wrap ((k : Int) + 1) = (k : Int) + 1 := IntWalk.i64_in _ (by omega)
   rw [hd, hasS] at ho
   repeat' first
    | (with_reducible first | refine sA rfl ?_ | refine sI rfl rfl ?_ | refine sT rfl ?_ | refine sB rfl ?_)
    | (with_reducible refine Y8 ?_; first | refine Y4 ?_ | (refine ao1 rfl rfl fun K HK => ?_; simp only [go_sem, ↓reduceIte, Z0, Z2, Z1, Z3, Z4, Z6, Z7, Z8, e0, e1, e5, Z5, Xl, Za, wk]; (first | refine Y6 (fun hq => ?_) (fun hq => ?_) | (refine ⟨by omega, by omega, ?_⟩; refine Yg (by assumption) ?_) | skip) <;> (refine HK _ _ ?_; clear HK K)))
    | (exfalso; omega)
   · exact ⟨.inr rfl, endV hl0 rfl rfl ⟨rfl, by rw [ho, decide_eq_true hq]; rfl⟩⟩
   · exact ⟨rfl, l.length - (k + 1), by omega, k + 1, hlt, rfl, by rw [ho, decide_eq_false hq]; rfl, rfl, e0, e1, rfl⟩
 · skip
   repeat' first
    | (with_reducible first | refine sA rfl ?_ | refine sI rfl rfl ?_ | refine sT rfl ?_ | refine sB rfl ?_)
    | (with_reducible refine Y8 ?_; first | refine Y4 ?_ | (refine ao1 rfl rfl fun K HK => ?_; simp only [go_sem, ↓reduceIte, Z0, Z2, Z1, Z3, Z4, Z6, Z7, Z8, e0, e1, e5, Z5]; (first | refine Y6 (fun hq => ?_) (fun hq => ?_) | (refine ⟨by omega, by omega, ?_⟩; intro row hrow; obtain ⟨x, hx, rfl⟩ := Yn hrow; clear hrow) | skip) <;> (refine HK _ _ ?_; clear HK K)))
    | (exfalso; omega)
   exact ⟨by simp, endV hl0 rfl rfl ⟨rfl, by rw [ho, Zd (by omega)]; rfl⟩⟩
theorem rRising_d (l : List ByteArray) (hl : l.length ≤ 9223372036854775807) (hs : ∀ s ∈ l, s.size ≤ 9223372036854775807) (h : List Ob) : Does Zg G 152 h [.sl 1 (l.map strX)] (fun h' r => h' = h ∧ r = .v (.bool (Xy l))) := by
 rw [← Vx]
 refine Y5 Tryz.func152 rfl (Zc rfl) hG fun hl0 _ => ?_
 simp only [Tryz.ntmps152]
 repeat' first
  | (with_reducible first | refine sA rfl ?_ | refine sT rfl ?_)
  | (with_reducible refine Y8 ?_; first | refine Y4 ?_ | (refine ao1 rfl rfl fun K HK => ?_; simp only [go_sem, ↓reduceIte, Z0, Z2, Z1, Z3, Z4, Z6, Z7, Z8, Z5] <;> (refine HK _ _ ?_; clear HK K)))
 refine Yr (fun m e h' => ∃ k : Nat, k ≤ l.length ∧ m = l.length - k ∧ Ys l 0 = Ys l k ∧ h' = h ∧ e 0 = .sl 1 (l.map strX) ∧ e 3 = .v (.int .i64 k)) l.length ⟨0, Zj _, rfl, rfl, rfl, rfl, rfl⟩ ?_
 rintro m e h' ⟨k, hk, rfl, ho, rfl, e0, e3⟩
 by_cases hlt : k < l.length
 · have hx : l[k]? = some l[k] := Zb hlt
   have hn := rName_d G hG l[k] (hs _ (Zo hlt))
   have wk : IntKind.i64.wrap ((k : Int) + 1) = (k : Int) + 1 := IntWalk.i64_in _ (by omega)
   generalize hnb : Vc l[k] = nb at hn
   rcases Nat.eq_zero_or_pos k with h0 | h0
   · subst h0
     have ho := Zk5 l hlt
     rw [hnb] at ho
     generalize l[0] = x at hx hn
     cases nb
     · skip
       repeat' first
        | (with_reducible first | refine sA rfl ?_ | refine sI rfl rfl ?_ | refine sT rfl ?_ | refine sB rfl ?_)
        | (with_reducible refine Xe ?_; first | refine Ya mixd (by kernel_rfl) ?_)
        | (with_reducible refine Y8 ?_; first | refine Y4 ?_ | (refine ao1 rfl rfl fun K HK => ?_; (first | refine Y7 rfl ?_ | skip); simp only [go_sem, ↓reduceIte, Z0, Z2, Z1, Z3, Z4, Z6, Z7, Z8, e0, e3, Z5, Xl, Za, Z9]; (first | refine Y6 (fun hq => ?_) (fun hq => ?_) | (refine ⟨by omega, by omega, ?_⟩; refine Yg (by assumption) ?_) | skip) <;> (refine HK _ _ ?_; clear HK K)))
        | (with_reducible refine Ws ?_; first | (refine aq1 rfl rfl fun K HK => ?_; (first | refine Y7 rfl ?_ | skip); simp only [go_sem, ↓reduceIte, Z0, Z2, Z1, Z3, Z4, Z6, Z7, Z8, e0, e3, Z5, Xl, Za, Z9]; (first | refine Y6 (fun hq => ?_) (fun hq => ?_) | (refine ⟨by omega, by omega, ?_⟩; refine Yg (by assumption) ?_) | skip) <;> (refine HK _ _ rfl ?_; clear HK K)) | refine aq0 rfl rfl ?_ | refine X2 ?_ | refine aq2 rfl rfl rfl Uu (hn _) ?_)
        | (exfalso; omega)
       exact ⟨.inr rfl, endD (r := .v (.bool false)) hl0 rfl (by simp) (by simp) rfl (by rw [low]; trivial) ⟨rfl, by rw [ho]; rfl⟩⟩
     · skip
       repeat' first
        | (with_reducible first | refine sA rfl ?_ | refine sI rfl rfl ?_ | refine sT rfl ?_ | refine sB rfl ?_)
        | (with_reducible refine Xe ?_; first | refine Ya mixd (by kernel_rfl) ?_)
        | (with_reducible refine Y8 ?_; first | refine Y4 ?_ | (refine ao1 rfl rfl fun K HK => ?_; (first | refine Y7 rfl ?_ | skip); simp only [go_sem, ↓reduceIte, Z0, Z2, Z1, Z3, Z4, Z6, Z7, Z8, e0, e3, Z5, Xl, Za, Z9]; (first | refine Y6 (fun hq => ?_) (fun hq => ?_) | (refine ⟨by omega, by omega, ?_⟩; refine Yg (by assumption) ?_) | (refine ⟨by omega, by omega, ?_⟩; intro row hrow; obtain ⟨x, hx, rfl⟩ := Yn hrow; clear hrow) | skip) <;> (refine HK _ _ ?_; clear HK K)))
        | (with_reducible refine Ws ?_; first | (refine aq1 rfl rfl fun K HK => ?_; (first | refine Y7 rfl ?_ | skip); simp only [go_sem, ↓reduceIte, Z0, Z2, Z1, Z3, Z4, Z6, Z7, Z8, e0, e3, Z5, Xl, Za, Z9]; (first | refine Y6 (fun hq => ?_) (fun hq => ?_) | (refine ⟨by omega, by omega, ?_⟩; refine Yg (by assumption) ?_) | (refine ⟨by omega, by omega, ?_⟩; intro row hrow; obtain ⟨x, hx, rfl⟩ := Yn hrow; clear hrow) | skip) <;> (refine HK _ _ rfl ?_; clear HK K)) | refine aq0 rfl rfl ?_ | refine X2 ?_ | refine aq2 rfl rfl rfl Uu (hn _) ?_)
        | (exfalso; omega)
       exact ⟨rfl, l.length - 1, by omega, 1, hlt, rfl, by rw [ho]; rfl, rfl, e0, rfl⟩
   · obtain ⟨j, rfl⟩ : ∃ j, k = j + 1 := ⟨k - 1, by omega⟩
     have hy : l[j]? = some l[j] := Zb (by omega)
     rw [Zp5 l j hlt, hnb] at ho
     generalize l[j + 1] = x at hx hn ho
     generalize l[j] = y at hy ho
     have wm : IntKind.i64.wrap (((j + 1 : Nat) : Int) - 1) = (j : Int) := by rw [show ((j + 1 : Nat) : Int) - 1 = (j : Int) by omega]; exact IntWalk.i64_in _ (by omega)
     have gp : decide ((0 : Int) < ((j + 1 : Nat) : Int)) = true := decide_eq_true (by omega)
     unfold strLt at ho
     cases nb
     · skip
       repeat' first
        | (with_reducible first | refine sA rfl ?_ | refine sI rfl rfl ?_ | refine sT rfl ?_ | refine sB rfl ?_)
        | (with_reducible refine Xe ?_; first | refine Ya mixd (by kernel_rfl) ?_)
        | (with_reducible refine Y8 ?_; first | refine Y4 ?_ | (refine ao1 rfl rfl fun K HK => ?_; (first | refine Y7 rfl ?_ | skip); simp only [go_sem, ↓reduceIte, Z0, Z2, Z1, Z3, Z4, Z6, Z7, Z8, e0, e3, Z5, Xl, Za, wk, wm, gp, Z9]; (first | refine Y6 (fun hq => ?_) (fun hq => ?_) | (refine ⟨by omega, by omega, ?_⟩; refine Yg (by assumption) ?_) | skip) <;> (refine HK _ _ ?_; clear HK K)))
        | (with_reducible refine Ws ?_; first | (refine aq1 rfl rfl fun K HK => ?_; (first | refine Y7 rfl ?_ | skip); simp only [go_sem, ↓reduceIte, Z0, Z2, Z1, Z3, Z4, Z6, Z7, Z8, e0, e3, Z5, Xl, Za, wk, wm, gp, Z9]; (first | refine Y6 (fun hq => ?_) (fun hq => ?_) | (refine ⟨by omega, by omega, ?_⟩; refine Yg (by assumption) ?_) | skip) <;> (refine HK _ _ rfl ?_; clear HK K)) | refine aq0 rfl rfl ?_ | refine X2 ?_ | refine aq2 rfl rfl rfl Uu (hn _) ?_)
        | (exfalso; omega)
       exact ⟨.inr rfl, endD (r := .v (.bool false)) hl0 rfl (by simp) (by simp) rfl (by rw [low]; trivial) ⟨rfl, by rw [ho]; rfl⟩⟩
     · cases hlt2 : Op.bytesLess y.toList x.toList
       · skip
         repeat' first
          | (with_reducible first | refine sA rfl ?_ | refine sI rfl rfl ?_ | refine sT rfl ?_ | refine sB rfl ?_)
          | (with_reducible refine Xe ?_; first | refine Ya mixd (by kernel_rfl) ?_)
          | (with_reducible refine Y8 ?_; first | refine Y4 ?_ | (refine ao1 rfl rfl fun K HK => ?_; (first | refine Y7 rfl ?_ | skip); simp only [go_sem, ↓reduceIte, Z0, Z2, Z1, Z3, Z4, Z6, Z7, Z8, e0, e3, Z5, Xl, Za, wk, wm, gp, hlt2, Z9]; (first | refine Y6 (fun hq => ?_) (fun hq => ?_) | (refine ⟨by omega, by omega, ?_⟩; refine Yg (by assumption) ?_) | skip) <;> (refine HK _ _ ?_; clear HK K)))
          | (with_reducible refine Ws ?_; first | (refine aq1 rfl rfl fun K HK => ?_; (first | refine Y7 rfl ?_ | skip); simp only [go_sem, ↓reduceIte, Z0, Z2, Z1, Z3, Z4, Z6, Z7, Z8, e0, e3, Z5, Xl, Za, wk, wm, gp, hlt2, Z9]; (first | refine Y6 (fun hq => ?_) (fun hq => ?_) | (refine ⟨by omega, by omega, ?_⟩; refine Yg (by assumption) ?_) | skip) <;> (refine HK _ _ rfl ?_; clear HK K)) | refine X2 ?_ | refine aq2 rfl rfl rfl Uu (hn _) ?_)
          | (exfalso; omega)
         exact ⟨.inr rfl, endD (r := .v (.bool false)) hl0 rfl (by simp) (by simp) rfl (by rw [low]; trivial) ⟨rfl, by rw [ho, hlt2]; rfl⟩⟩
       · skip
         repeat' first
          | (with_reducible first | refine sA rfl ?_ | refine sI rfl rfl ?_ | refine sT rfl ?_ | refine sB rfl ?_)
          | (with_reducible refine Xe ?_; first | refine Ya mixd (by kernel_rfl) ?_)
          | (with_reducible refine Y8 ?_; first | refine Y4 ?_ | (refine ao1 rfl rfl fun K HK => ?_; (first | refine Y7 rfl ?_ | skip); simp only [go_sem, ↓reduceIte, Z0, Z2, Z1, Z3, Z4, Z6, Z7, Z8, e0, e3, Z5, Xl, Za, wk, wm, gp, hlt2, Z9]; (first | refine Y6 (fun hq => ?_) (fun hq => ?_) | (refine ⟨by omega, by omega, ?_⟩; refine Yg (by assumption) ?_) | skip) <;> (refine HK _ _ ?_; clear HK K)))
          | (with_reducible refine Ws ?_; first | (refine aq1 rfl rfl fun K HK => ?_; (first | refine Y7 rfl ?_ | skip); simp only [go_sem, ↓reduceIte, Z0, Z2, Z1, Z3, Z4, Z6, Z7, Z8, e0, e3, Z5, Xl, Za, wk, wm, gp, hlt2, Z9]; (first | refine Y6 (fun hq => ?_) (fun hq => ?_) | (refine ⟨by omega, by omega, ?_⟩; refine Yg (by assumption) ?_) | skip) <;> (refine HK _ _ rfl ?_; clear HK K)) | refine X2 ?_ | refine aq2 rfl rfl rfl Uu (hn _) ?_)
          | (exfalso; omega)
         exact ⟨rfl, l.length - (j + 2), by omega, j + 2, by omega, rfl, by rw [ho, hlt2]; rfl, rfl, e0, rfl⟩
 · skip
   repeat' first
    | (with_reducible first | refine sA rfl ?_ | refine sI rfl rfl ?_ | refine sT rfl ?_ | refine sB rfl ?_)
    | (with_reducible refine Xe ?_; first | refine Ya mixd (by kernel_rfl) ?_)
    | (with_reducible refine Y8 ?_; first | refine Y4 ?_ | (refine ao1 rfl rfl fun K HK => ?_; simp only [go_sem, ↓reduceIte, Z0, Z2, Z1, Z3, Z4, Z6, Z7, Z8, e0, e3, Z5]; (first | refine Y6 (fun hq => ?_) (fun hq => ?_) | (refine ⟨by omega, by omega, ?_⟩; intro row hrow; obtain ⟨x, hx, rfl⟩ := Yn hrow; clear hrow) | skip) <;> (refine HK _ _ ?_; clear HK K)))
    | (with_reducible refine Ws ?_; first | (refine aq1 rfl rfl fun K HK => ?_; simp only [go_sem, ↓reduceIte, Z0, Z2, Z1, Z3, Z4, Z6, Z7, Z8, e0, e3, Z5]; (first | refine Y6 (fun hq => ?_) (fun hq => ?_) | (refine ⟨by omega, by omega, ?_⟩; intro row hrow; obtain ⟨x, hx, rfl⟩ := Yn hrow; clear hrow) | skip) <;> (refine HK _ _ rfl ?_; clear HK K)))
    | (exfalso; omega)
   exact ⟨by simp, endV hl0 rfl rfl ⟨rfl, by rw [ho, Zv1 l k (by omega)]⟩⟩
end
section
attribute [local irreducible] on aOp
attribute [local go_sem] decide_true decide_false Zi Ze
attribute [local simp] byD_len
inductive Sm : Lat → Prop
 | mk (l : Lat) (h1 : l.names.length ≤ 9223372036854775807) (h2 : l.parts.length ≤ 9223372036854775807) (h3 : l.rules.length ≤ 9223372036854775807) (h4 : ∀ s ∈ l.names, s.size ≤ 9223372036854775807) (h5 : ∀ r ∈ l.rules, r.cond.length ≤ 9223372036854775807 ∧ ∀ s ∈ r.cond, s.size ≤ 9223372036854775807) (h6 : ∀ p ∈ l.parts, Sm p) : Sm l
theorem Sm.names {l : Lat} (h : Sm l) : l.names.length ≤ 9223372036854775807 := by cases h; assumption
theorem Sm.parts {l : Lat} (h : Sm l) : l.parts.length ≤ 9223372036854775807 := by cases h; assumption
theorem Sm.rules {l : Lat} (h : Sm l) : l.rules.length ≤ 9223372036854775807 := by cases h; assumption
theorem Sm.texts {l : Lat} (h : Sm l) : ∀ s ∈ l.names, s.size ≤ 9223372036854775807 := by cases h; assumption
theorem Sm.conds {l : Lat} (h : Sm l) : ∀ r ∈ l.rules, r.cond.length ≤ 9223372036854775807 ∧ ∀ s ∈ r.cond, s.size ≤ 9223372036854775807 := by cases h; assumption
theorem Sm.part {l : Lat} (h : Sm l) : ∀ p ∈ l.parts, Sm p := by cases h; assumption
theorem Zg4 (m : Nat) (l : Lat) : lowL m [.agg (latX l)] := by rw [lowL, lowL, low]; exact ⟨Zd8 m l, trivial⟩
theorem chain_no {l : Lat} (h : ¬ (l.kind = 1 ∨ l.kind = 2 ∨ l.kind = 3)) (h7 : l.kind ≠ 7 ∨ l.parts.length ≠ 2) : V7 l = false := by
 rw [Zt2, decide_eq_false h]
 rcases h7 with h7 | h7
 · rw [decide_eq_false h7]; rfl
 · rw [decide_eq_false h7, Bool.and_false]; rfl
theorem chain_two {l a b : Lat} (h : ¬ (l.kind = 1 ∨ l.kind = 2 ∨ l.kind = 3)) (h7 : l.kind = 7) (hp : l.parts = [a, b]) : V7 l = (V7 a && V7 b) := by
 rw [Zt2, decide_eq_false h, decide_eq_true h7, hp]; simp
variable (G : Nat → D) (hG : ∀ g, low 0 (G g))
include hG
theorem rChain_d (n : Nat) : ∀ (l : Lat), SizeOf.sizeOf l ≤ n → Sm l → ∀ (h : List Ob), Does Zg G 132 h [.agg (latX l)] (fun h' r => h' = h ∧ r = .v (.bool (V7 l))) := by
 induction n with
 | zero => intro l hn; cases l; simp at hn
 | succ n ih =>
 intro l hn hsm h
 refine Yf G hG (Zg4 _ l) (by rw [low]; trivial) ?_ h
 clear h
 have hpl := hsm.parts
 have hpp : ∀ p ∈ l.parts, ∀ (b : Bool), V7 p = b → ∀ (h : List Ob), Does Zg G 132 h [.agg (latX p)] (fun h' r => h' = h ∧ r = .v (.bool b)) := fun p hp b hb h => hb ▸ ih p (by have := sizeOf_part hp; omega) (hsm.part p hp) h
 generalize hkk : l.kind = k
 by_cases h123 : k = 1 ∨ k = 2 ∨ k = 3
 · have e1 : V7 l = true := by rw [Zt2, hkk, decide_eq_true h123]; rfl
   rw [e1]
   refine Y5 Tryz.func132 rfl (Zc rfl) hG fun hl0 _ => ?_
   simp only [Tryz.ntmps132]
   repeat' first
    | (with_reducible first | refine sA rfl ?_ | refine sI rfl rfl ?_ | refine sT rfl ?_ | refine sB rfl ?_)
    | (with_reducible refine Y8 ?_; first | refine Y4 ?_ | (refine ao1 rfl rfl fun K HK => ?_; (first | refine Y7 rfl ?_ | skip); simp only [go_sem, ↓reduceIte, Z0, Z2, Z1, Z3, Z4, Z6, Z7, Z8, Y9, hkk]; (first | refine Y6 (fun hq => ?_) (fun hq => ?_) | skip) <;> (refine HK _ _ ?_; clear HK K)) | refine ao0 rfl rfl ?_)
    | (exfalso; omega)
   all_goals first | (exfalso; omega) | exact ⟨.inr rfl, endD (r := .v (.bool true)) hl0 rfl (by simp) (by simp) rfl (by rw [low]; trivial) ⟨rfl, rfl⟩⟩
 by_cases h7 : k = 7 ∧ l.parts.length = 2
 rotate_left
 · have e1 : V7 l = false := chain_no (by rw [hkk]; exact h123) (by rw [hkk]; omega)
   rw [e1]
   refine Y5 Tryz.func132 rfl (Zc rfl) hG fun hl0 _ => ?_
   simp only [Tryz.ntmps132]
   repeat' first
    | (with_reducible first | refine sA rfl ?_ | refine sI rfl rfl ?_ | refine sT rfl ?_ | refine sB rfl ?_)
    | (with_reducible refine Y8 ?_; first | refine Y4 ?_ | (refine ao1 rfl rfl fun K HK => ?_; (first | refine Y7 rfl ?_ | skip); simp only [go_sem, ↓reduceIte, Z0, Z2, Z1, Z3, Z4, Z6, Z7, Z8, Y9, hkk, Z5, Z9]; (first | refine Y6 (fun hq => ?_) (fun hq => ?_) | skip) <;> (refine HK _ _ ?_; clear HK K)) | refine ao0 rfl rfl ?_)
    | (exfalso; omega)
   all_goals first | (exfalso; omega) | exact ⟨.inr rfl, endD (r := .v (.bool false)) hl0 rfl (by simp) (by simp) rfl (by rw [low]; trivial) ⟨rfl, rfl⟩⟩
 obtain ⟨rfl, h2⟩ := h7
 obtain ⟨a, b, hab⟩ : ∃ a b, l.parts = [a, b] := by
  match hm : l.parts, h2 with
  | [a, b], _ => exact ⟨a, b, rfl⟩
 rw [chain_two (by rw [hkk]; exact h123) hkk hab]
 have ha := hpp a (by rw [hab]; simp)
 have hb := hpp b (by rw [hab]; simp)
 have hx0 : l.parts[0]? = some a := by rw [hab]; rfl
 have hx1 : l.parts[1]? = some b := by rw [hab]; rfl
 clear hab
 refine Y5 Tryz.func132 rfl (Zc rfl) hG fun hl0 _ => ?_
 simp only [Tryz.ntmps132]
 cases hca : V7 a
 · skip
   repeat' first
    | (with_reducible first | refine sA rfl ?_ | refine sI rfl rfl ?_ | refine sT rfl ?_ | refine sB rfl ?_)
    | (with_reducible refine Y8 ?_; first | refine Y4 ?_ | (refine ao1 rfl rfl fun K HK => ?_; (first | refine Y7 rfl ?_ | skip); simp only [go_sem, ↓reduceIte, Z0, Z2, Z1, Z3, Z4, Z6, Z7, Z8, Y9 l, Uf, Za7, hkk, h2, Z5, Int.toNat_zero, Int.toNat_one, Z9]; (first | refine Y6 (fun hq => ?_) (fun hq => ?_) | (refine ⟨by omega, ?_⟩; refine Yg (by assumption) ?_) | skip) <;> (refine HK _ _ ?_; clear HK K)) | refine ao0 rfl rfl ?_ | (refine ao2 rfl rfl rfl Yb7 (ha _ hca _) ?_; rintro _ _ ⟨rfl, rfl⟩))
    | (exfalso; omega)
   all_goals first | (exfalso; omega) | exact ⟨.inr rfl, endD (r := .v (.bool false)) hl0 rfl (by simp) (by simp) rfl (by rw [low]; trivial) ⟨rfl, by rfl⟩⟩
 · cases hcb : V7 b
   all_goals
    skip
    repeat' first
     | (with_reducible first | refine sA rfl ?_ | refine sI rfl rfl ?_ | refine sT rfl ?_ | refine sB rfl ?_)
     | (with_reducible refine Y8 ?_; first | refine Y4 ?_ | (refine ao1 rfl rfl fun K HK => ?_; (first | refine Y7 rfl ?_ | skip); simp only [go_sem, ↓reduceIte, Z0, Z2, Z1, Z3, Z4, Z6, Z7, Z8, Y9 l, Uf, Za7, hkk, h2, Z5, Int.toNat_zero, Int.toNat_one, Z9]; (first | refine Y6 (fun hq => ?_) (fun hq => ?_) | (refine ⟨by omega, ?_⟩; refine Yg (by assumption) ?_) | skip) <;> (refine HK _ _ ?_; clear HK K)) | refine ao0 rfl rfl ?_ | (refine ao2 rfl rfl rfl Yb7 (ha _ hca _) ?_; rintro _ _ ⟨rfl, rfl⟩) | (refine ao2 rfl rfl rfl Yb7 (hb _ hcb _) ?_; rintro _ _ ⟨rfl, rfl⟩))
     | (exfalso; omega)
   all_goals first | (exfalso; omega) | exact ⟨.inr rfl, endV hl0 rfl rfl ⟨rfl, by rfl⟩⟩
end
section
attribute [local irreducible] on aOp
attribute [local go_sem] decide_true decide_false Zi Ze
attribute [local simp] byD_len
theorem Xo (r : Rl) : Zy6 r = [.sl 1 (r.cond.map strX), .v (.string r.concl)] := rfl
def gM (A : Ob) (T : List Ob) : List Ob := A :: T
section
variable {A y y' : Ob} {T l : List Ob}
theorem gM_0 : (gM A T)[0]? = some A := rfl
theorem Ug : (gM A T).length = T.length + 1 := rfl
theorem Uh : gM A T ++ l = gM A (T ++ l) := rfl
theorem gM_l : (gM A (T ++ [y]))[T.length + 1]? = some y := by simp [gM]
theorem Zg9 : (gM A (T ++ [y])).set (T.length + 1) y' = gM A (T ++ [y']) := by simp [gM]
end
variable (G : Nat → D) (hG : ∀ g, low 0 (G g))
include hG
theorem rShape_d (l : Lat) (hsm : Sm l) (h : List Ob) : Does Zg G 130 h [.agg (latX l)] (fun h' r => h' = h ∧ r = .v (.bool (!Vl l))) := by
 refine Yf G hG (Zg4 _ l) (by rw [low]; trivial) ?_ h
 clear h
 unfold Vl
 have hpl := hsm.parts
 have hnl := hsm.names
 have hrl := hsm.rules
 generalize hkk : l.kind = k
 generalize hlo : l.lo = lo
 generalize hhi : l.hi = hi
 generalize hnn : l.names.length = nn at *
 generalize hnp : l.parts.length = np at *
 generalize hnr : l.rules.length = nr at *
 refine Y5 Tryz.func130 rfl (Zc rfl) hG fun hl0 _ => ?_
 simp only [Tryz.ntmps130]
 repeat' first
  | (with_reducible first | refine sA rfl ?_ | refine sI rfl rfl ?_ | refine sT rfl ?_ | refine sB rfl ?_)
  | (with_reducible refine Y8 ?_; first | refine Y4 ?_ | (refine ao1 rfl rfl fun K HK => ?_; (first | refine Y7 rfl ?_ | skip); simp only [go_sem, ↓reduceIte, Z0, Z2, Z1, Z3, Z4, Z6, Z7, Z8, Y9, Z5, hkk, hlo, hhi, hnn, hnp, hnr, Z9]; (first | refine Y6 (fun hq => ?_) (fun hq => ?_) | refine W7 (fun hq => ?_) (fun hq => ?_) | skip) <;> (refine HK _ _ ?_; clear HK K)) | refine ao0 rfl rfl ?_)
  | (exfalso; omega)
 all_goals first | (exfalso; omega) | refine ⟨.inr rfl, endV hl0 rfl rfl ⟨rfl, congrArg (fun b => D.v (.bool b)) ?_⟩⟩
 all_goals
  clear hl0
  rw [Zp]
  first
  | (rw [Zy3 (by omega) (by omega) (by omega)]; simp; done)
  | (rw [Zk2 (by omega) (by omega)]; simp; done)
  | (rw [shapeC_none (by omega)]; simp; done)
  | (simp_all [Za0, Wr]; done)
  | (simp_all [Za0, Wr]; omega)
end
section
attribute [local irreducible] on aOp
attribute [local go_sem] decide_true decide_false Zi Ze
attribute [local simp] byD_len
variable (G : Nat → D) (hG : ∀ g, low 0 (G g))
include hG
theorem rNamed_d (l : Lat) (hsm : Sm l) (h : List Ob) : Does Zg G 131 h [.agg (latX l)] (fun h' r => h' = h ∧ r = .v (.bool (Za5 l.kind l.names l.rules))) := by
 refine Yf G hG (Zg4 _ l) (by rw [low]; trivial) ?_ h
 clear h
 have hpl := hsm.parts
 have hnl := hsm.names
 have hrl := hsm.rules
 have htx := hsm.texts
 have hcd := hsm.conds
 have hri := rRising_d G hG l.names hnl htx
 refine Y5 Tryz.func131 rfl (Zc rfl) hG fun hl0 _ => ?_
 simp only [Tryz.ntmps131]
 by_cases h6 : l.kind = 6
 · have e0 : Za5 l.kind l.names l.rules = nmGo true l.names 0 l.names := by unfold Za5; rw [if_pos h6]
   rw [e0]
   repeat' first
    | (with_reducible first | refine sA rfl ?_ | refine sI rfl rfl ?_ | refine sT rfl ?_)
    | (with_reducible refine Y8 ?_; first | refine Y4 ?_ | (refine ao1 rfl rfl fun K HK => ?_; simp only [go_sem, ↓reduceIte, Z0, Z2, Z1, Z3, Z4, Z6, Z7, Z8, Y9, h6] <;> (refine HK _ _ ?_; clear HK K)))
   refine Yr (fun m e h' => ∃ k : Nat, k ≤ l.names.length ∧ m = l.names.length - k ∧ nmGo true l.names 0 l.names = nmGo true l.names k (l.names.drop k) ∧ h' = [.cells (latX l)] ∧ e 1 = .ptr 0 0 ∧ e 3 = .v (.int .i64 k)) l.names.length ⟨0, Zj _, rfl, rfl, (by rw [Y9, h6]), rfl, rfl⟩ ?_
   rintro m e h' ⟨k, hk, rfl, ho, rfl, e1, e3⟩
   by_cases hlt : k < l.names.length
   · have hx : l.names[k]? = some l.names[k] := Zb hlt
     have wk : IntKind.i64.wrap ((k : Int) + 1) = (k : Int) + 1 := IntWalk.i64_in _ (by omega)
     rw [nmGo_step true l.names k hlt] at ho
     have hn := rName_d G hG l.names[k] (htx _ (Zo hlt))
     generalize l.names[k] = x at hx hn ho
     have hin := rIn_d G hG (l.names.take k) x (by rw [List.length_take]; omega)
     have hin2 : ∀ (b : Bool), hasS (l.names.take k) x = b → ∀ h, Does Zg G 151 h [.sl 1 (List.drop (Int.toNat 0) (List.take (Int.toNat (k : Int)) (l.names.map strX))), .v (.string x)] (fun h' r => h' = h ∧ r = .v (.bool b)) := fun b hb h => by
      have := hin h
      rw [hb, List.map_take] at this
      exact this
     clear hin
     cases hnb : Vc x <;> rw [hnb] at hn ho
     · skip
       repeat' first
        | (with_reducible first | refine sA rfl ?_ | refine sI rfl rfl ?_ | refine sT rfl ?_ | refine sB rfl ?_)
        | (with_reducible refine Xe ?_; first | refine Ya mixd (by kernel_rfl) ?_)
        | (with_reducible refine Y8 ?_; first | refine Y4 ?_ | (refine ao1 rfl rfl fun K HK => ?_; (first | refine Y7 rfl ?_ | skip); simp only [go_sem, ↓reduceIte, Z0, Z2, Z1, Z3, Z4, Z6, Z7, Z8, Y9 l, e1, e3, Z5, Xl, Za, wk, Z9]; (first | refine Y6 (fun hq => ?_) (fun hq => ?_) | (refine ⟨by omega, by omega, ?_⟩; refine Yg (by assumption) ?_) | skip) <;> (refine HK _ _ ?_; clear HK K)))
        | (with_reducible refine Ws ?_; first | (refine aq1 rfl rfl fun K HK => ?_; (first | refine Y7 rfl ?_ | skip); simp only [go_sem, ↓reduceIte, Z0, Z2, Z1, Z3, Z4, Z6, Z7, Z8, Y9 l, e1, e3, Z5, Xl, Za, wk, Z9]; (first | refine Y6 (fun hq => ?_) (fun hq => ?_) | (refine ⟨by omega, by omega, ?_⟩; refine Yg (by assumption) ?_) | skip) <;> (refine HK _ _ rfl ?_; clear HK K)) | refine aq0 rfl rfl ?_ | refine X2 ?_ | refine aq2 rfl rfl rfl Uu (hn _) ?_)
        | (exfalso; omega)
       exact ⟨.inr rfl, endD (r := .v (.bool false)) hl0 rfl (by simp) (by simp) rfl (by rw [low]; trivial) ⟨rfl, by rw [ho]; rfl⟩⟩
     · cases hib : hasS (l.names.take k) x <;> rw [hib] at ho
       · skip
         repeat' first
          | (with_reducible first | refine sA rfl ?_ | refine sI rfl rfl ?_ | refine sT rfl ?_ | refine sB rfl ?_)
          | (with_reducible refine Xe ?_; first | refine Ya mixd (by kernel_rfl) ?_)
          | (with_reducible refine Y8 ?_; first | refine Y4 ?_ | (refine ao1 rfl rfl fun K HK => ?_; (first | refine Y7 rfl ?_ | skip); simp only [go_sem, ↓reduceIte, Z0, Z2, Z1, Z3, Z4, Z6, Z7, Z8, Y9 l, e1, e3, Z5, Xl, Za, wk, Z9]; (first | refine Y6 (fun hq => ?_) (fun hq => ?_) | (refine Zc4 (by simp only [go_sem]) rfl rfl (by first | omega | simp) (by first | omega | simp) (by simp only [go_sem]; omega) ?_) | (refine ⟨by omega, by omega, ?_⟩; refine Yg (by assumption) ?_) | skip) <;> (refine HK _ _ ?_; clear HK K)))
          | (with_reducible refine Ws ?_; first | (refine aq1 rfl rfl fun K HK => ?_; (first | refine Y7 rfl ?_ | skip); simp only [go_sem, ↓reduceIte, Z0, Z2, Z1, Z3, Z4, Z6, Z7, Z8, Y9 l, e1, e3, Z5, Xl, Za, wk, Z9]; (first | refine Y6 (fun hq => ?_) (fun hq => ?_) | (refine Zc4 (by simp only [go_sem]) rfl rfl (by first | omega | simp) (by first | omega | simp) (by simp only [go_sem]; omega) ?_) | (refine ⟨by omega, by omega, ?_⟩; refine Yg (by assumption) ?_) | skip) <;> (refine HK _ _ rfl ?_; clear HK K)) | refine X2 ?_ | refine aq2 rfl rfl rfl Uu (hn _) ?_ | refine aq2 rfl rfl rfl Zj9 (hin2 _ hib _) ?_)
          | (exfalso; omega)
         exact ⟨rfl, l.names.length - (k + 1), by omega, k + 1, hlt, rfl, by rw [ho]; rfl, by rw [Y9], e1, rfl⟩
       · skip
         repeat' first
          | (with_reducible first | refine sA rfl ?_ | refine sI rfl rfl ?_ | refine sT rfl ?_ | refine sB rfl ?_)
          | (with_reducible refine Xe ?_; first | refine Ya mixd (by kernel_rfl) ?_)
          | (with_reducible refine Y8 ?_; first | refine Y4 ?_ | (refine ao1 rfl rfl fun K HK => ?_; (first | refine Y7 rfl ?_ | skip); simp only [go_sem, ↓reduceIte, Z0, Z2, Z1, Z3, Z4, Z6, Z7, Z8, Y9 l, e1, e3, Z5, Xl, Za, wk, Z9]; (first | refine Y6 (fun hq => ?_) (fun hq => ?_) | (refine Zc4 (by simp only [go_sem]) rfl rfl (by first | omega | simp) (by first | omega | simp) (by simp only [go_sem]; omega) ?_) | (refine ⟨by omega, by omega, ?_⟩; refine Yg (by assumption) ?_) | skip) <;> (refine HK _ _ ?_; clear HK K)))
          | (with_reducible refine Ws ?_; first | (refine aq1 rfl rfl fun K HK => ?_; (first | refine Y7 rfl ?_ | skip); simp only [go_sem, ↓reduceIte, Z0, Z2, Z1, Z3, Z4, Z6, Z7, Z8, Y9 l, e1, e3, Z5, Xl, Za, wk, Z9]; (first | refine Y6 (fun hq => ?_) (fun hq => ?_) | (refine Zc4 (by simp only [go_sem]) rfl rfl (by first | omega | simp) (by first | omega | simp) (by simp only [go_sem]; omega) ?_) | (refine ⟨by omega, by omega, ?_⟩; refine Yg (by assumption) ?_) | skip) <;> (refine HK _ _ rfl ?_; clear HK K)) | refine X2 ?_ | refine aq2 rfl rfl rfl Uu (hn _) ?_ | refine aq2 rfl rfl rfl Zj9 (hin2 _ hib _) ?_)
          | (exfalso; omega)
         exact ⟨.inr rfl, endD (r := .v (.bool false)) hl0 rfl (by simp) (by simp) rfl (by rw [low]; trivial) ⟨rfl, by rw [ho]; rfl⟩⟩
   · skip
     repeat' first
      | (with_reducible first | refine sA rfl ?_ | refine sI rfl rfl ?_ | refine sT rfl ?_ | refine sB rfl ?_)
      | (with_reducible refine Xe ?_; first | refine Ya mixd (by kernel_rfl) ?_)
      | (with_reducible refine Y8 ?_; first | refine Y4 ?_ | (refine ao1 rfl rfl fun K HK => ?_; simp only [go_sem, ↓reduceIte, Z0, Z2, Z1, Z3, Z4, Z6, Z7, Z8, Y9 l, e1, e3, Z5]; (first | refine Y6 (fun hq => ?_) (fun hq => ?_) | (refine ⟨by omega, by omega, ?_⟩; intro row hrow; obtain ⟨x, hx, rfl⟩ := Yn hrow; clear hrow) | skip) <;> (refine HK _ _ ?_; clear HK K)))
      | (with_reducible refine Ws ?_; first | (refine aq1 rfl rfl fun K HK => ?_; simp only [go_sem, ↓reduceIte, Z0, Z2, Z1, Z3, Z4, Z6, Z7, Z8, Y9 l, e1, e3, Z5]; (first | refine Y6 (fun hq => ?_) (fun hq => ?_) | (refine ⟨by omega, by omega, ?_⟩; intro row hrow; obtain ⟨x, hx, rfl⟩ := Yn hrow; clear hrow) | skip) <;> (refine HK _ _ rfl ?_; clear HK K)))
      | (exfalso; omega)
     exact ⟨.inr rfl, endD (r := .v (.bool true)) hl0 rfl (by simp) (by simp) rfl (by rw [low]; trivial) ⟨rfl, by rw [ho, Zd (by omega)]; rfl⟩⟩
 have en : Za5 l.kind l.names l.rules = (Xy l.names && l.rules.all (Jx l.names)) := by unfold Za5; rw [if_neg h6]
 rw [en]
 cases hrb : Xy l.names <;> rw [hrb] at hri
 · skip
   repeat' first
    | (with_reducible first | refine sA rfl ?_ | refine sI rfl rfl ?_ | refine sT rfl ?_)
    | (with_reducible refine Y8 ?_; first | refine Y4 ?_ | (refine ao1 rfl rfl fun K HK => ?_; simp only [go_sem, ↓reduceIte, Z0, Z2, Z1, Z3, Z4, Z6, Z7, Z8, Y9 l, h6, Z9] <;> (refine HK _ _ ?_; clear HK K)) | (refine ao2 rfl rfl rfl Zs4 (hri _) ?_; rintro _ _ ⟨rfl, rfl⟩))
   exact ⟨.inr rfl, endD (r := .v (.bool false)) hl0 rfl (by simp) (by simp) rfl (by rw [low]; trivial) ⟨rfl, rfl⟩⟩
 rw [Zm]
 repeat' first
  | (with_reducible first | refine sA rfl ?_ | refine sI rfl rfl ?_ | refine sT rfl ?_)
  | (with_reducible refine Y8 ?_; first | refine Y4 ?_ | (refine ao1 rfl rfl fun K HK => ?_; simp only [go_sem, ↓reduceIte, Z0, Z2, Z1, Z3, Z4, Z6, Z7, Z8, Y9 l, h6, Z9] <;> (refine HK _ _ ?_; clear HK K)) | (refine ao2 rfl rfl rfl Zs4 (hri _) ?_; rintro _ _ ⟨rfl, rfl⟩))
 refine Yr (fun m e h' => ∃ (k : Nat) (T : List Ob), k ≤ l.rules.length ∧ m = l.rules.length - k ∧ l.rules.all (Jx l.names) = (l.rules.drop k).all (Jx l.names) ∧ h' = gM (.cells (latX l)) T ∧ e 1 = .ptr 0 0 ∧ e 4 = .v (.int .i64 k)) l.rules.length ⟨0, [], Zj _, rfl, rfl, (by rw [Y9]; rfl), rfl, rfl⟩ ?_
 rintro m e h' ⟨k, T, hk, rfl, ho, rfl, e1, e4⟩
 by_cases hlt : k < l.rules.length
 rotate_left
 · skip
   repeat' first
    | (with_reducible first | refine sA rfl ?_ | refine sI rfl rfl ?_ | refine sT rfl ?_ | refine sB rfl ?_)
    | (with_reducible refine Y8 ?_; first | refine Y4 ?_ | (refine ao1 rfl rfl fun K HK => ?_; simp only [go_sem, ↓reduceIte, Z0, Z2, Z1, Z3, Z4, Z6, Z7, Z8, Y9 l, e1, e4, Z5, gM_0]; (first | refine Y6 (fun hq => ?_) (fun hq => ?_) | (refine ⟨by omega, by omega, ?_⟩; intro row hrow; obtain ⟨x, hx, rfl⟩ := Yn hrow; clear hrow) | skip) <;> (refine HK _ _ ?_; clear HK K)))
    | (exfalso; omega)
   exact ⟨.inr rfl, endD (r := .v (.bool true)) hl0 rfl (by simp) (by simp) rfl (by rw [low]; trivial) ⟨rfl, by rw [ho, Zd (by omega)]; rfl⟩⟩
 have hx : l.rules[k]? = some l.rules[k] := Zb hlt
 have wk : IntKind.i64.wrap ((k : Int) + 1) = (k : Int) + 1 := IntWalk.i64_in _ (by omega)
 rw [rules_step _ _ k hlt] at ho
 obtain ⟨hcl, hcs⟩ := hcd _ (Zo hlt)
 generalize l.rules[k] = x at hx ho hcl hcs
 have hrx := rRising_d G hG x.cond hcl hcs
 have hin := rIn_d G hG l.names x.concl hnl
 by_cases hz : x.cond.length = 0
 · have er : Jx l.names x = false := by unfold Jx; rw [decide_eq_false (by omega)]; rfl
   repeat' first
    | (with_reducible first | refine sA rfl ?_ | refine sI rfl rfl ?_ | refine sT rfl ?_ | refine sB rfl ?_)
    | (with_reducible refine Y8 ?_; first | refine Y4 ?_ | (refine ao1 rfl rfl fun K HK => ?_; (first | refine Y7 rfl ?_ | skip); simp only [go_sem, ↓reduceIte, Z0, Z2, Z1, Z3, Z4, Z6, Z7, Z8, Y9 l, e1, e4, Z5, Xo, Za, wk, gM_0, Ug, Uh, gM_l, Zg9, hz, Z9]; (first | refine Y6 (fun hq => ?_) (fun hq => ?_) | (refine ⟨by omega, by omega, ?_⟩; refine Yg (by assumption) ?_) | skip) <;> (refine HK _ _ ?_; clear HK K)) | refine ao0 rfl rfl ?_ | (refine ao1' rfl fun K HK => ?_; simp only [go_sem, ↓reduceIte, Z0, Z2, Z1, Z3, Z4, Z6, Z7, Z8, Y9 l, e1, e4, Z5, Xo, Za, wk, gM_0, Ug, Uh, gM_l, Zg9, hz, Z9]; refine HK _ _ ?_; clear HK K))
    | (exfalso; omega)
   all_goals first | (exfalso; omega) | exact ⟨.inr rfl, endD (r := .v (.bool false)) hl0 rfl (by simp) (by simp) rfl (by rw [low]; trivial) ⟨rfl, by rw [ho, er]; rfl⟩⟩
 cases hxb : Xy x.cond <;> rw [hxb] at hrx
 · have er : Jx l.names x = false := by unfold Jx; rw [hxb]; simp
   repeat' first
    | (with_reducible first | refine sA rfl ?_ | refine sI rfl rfl ?_ | refine sT rfl ?_ | refine sB rfl ?_)
    | (with_reducible refine Y8 ?_; first | refine Y4 ?_ | (refine ao1 rfl rfl fun K HK => ?_; (first | refine Y7 rfl ?_ | skip); simp only [go_sem, ↓reduceIte, Z0, Z2, Z1, Z3, Z4, Z6, Z7, Z8, Y9 l, e1, e4, Z5, Xo, Za, wk, gM_0, Ug, Uh, gM_l, Zg9, Z9]; (first | refine Y6 (fun hq => ?_) (fun hq => ?_) | (refine ⟨by omega, by omega, ?_⟩; refine Yg (by assumption) ?_) | skip) <;> (refine HK _ _ ?_; clear HK K)) | refine ao0 rfl rfl ?_ | (refine ao2 rfl rfl rfl Zs4 (hrx _) ?_; rintro _ _ ⟨rfl, rfl⟩) | (refine ao1' rfl fun K HK => ?_; simp only [go_sem, ↓reduceIte, Z0, Z2, Z1, Z3, Z4, Z6, Z7, Z8, Y9 l, e1, e4, Z5, Xo, Za, wk, gM_0, Ug, Uh, gM_l, Zg9, Z9]; refine HK _ _ ?_; clear HK K))
    | (exfalso; omega)
   all_goals first | (exfalso; omega) | exact ⟨.inr rfl, endD (r := .v (.bool false)) hl0 rfl (by simp) (by simp) rfl (by rw [low]; trivial) ⟨rfl, by rw [ho, er]; rfl⟩⟩
 cases hib : hasS l.names x.concl <;> rw [hib] at hin
 · have er : Jx l.names x = false := by unfold Jx; rw [hib]; simp
   repeat' first
    | (with_reducible first | refine sA rfl ?_ | refine sI rfl rfl ?_ | refine sT rfl ?_ | refine sB rfl ?_)
    | (with_reducible refine Y8 ?_; first | refine Y4 ?_ | (refine ao1 rfl rfl fun K HK => ?_; (first | refine Y7 rfl ?_ | skip); simp only [go_sem, ↓reduceIte, Z0, Z2, Z1, Z3, Z4, Z6, Z7, Z8, Y9 l, e1, e4, Z5, Xo, Za, wk, gM_0, Ug, Uh, gM_l, Zg9, Z9]; (first | refine Y6 (fun hq => ?_) (fun hq => ?_) | (refine ⟨by omega, by omega, ?_⟩; refine Yg (by assumption) ?_) | skip) <;> (refine HK _ _ ?_; clear HK K)) | refine ao0 rfl rfl ?_ | (refine ao2 rfl rfl rfl Zs4 (hrx _) ?_; rintro _ _ ⟨rfl, rfl⟩) | (refine ao2 rfl rfl rfl Zj9 (hin _) ?_; rintro _ _ ⟨rfl, rfl⟩) | (refine ao1' rfl fun K HK => ?_; simp only [go_sem, ↓reduceIte, Z0, Z2, Z1, Z3, Z4, Z6, Z7, Z8, Y9 l, e1, e4, Z5, Xo, Za, wk, gM_0, Ug, Uh, gM_l, Zg9, Z9]; refine HK _ _ ?_; clear HK K))
    | (exfalso; omega)
   all_goals first | (exfalso; omega) | exact ⟨.inr rfl, endD (r := .v (.bool false)) hl0 rfl (by simp) (by simp) rfl (by rw [low]; trivial) ⟨rfl, by rw [ho, er]; rfl⟩⟩
 have er : Jx l.names x = x.cond.all (hasS l.names) := by unfold Jx; rw [hxb, hib, decide_eq_true hz]; simp
 rw [er] at ho
 repeat' first
  | (with_reducible first | refine sA rfl ?_ | refine sI rfl rfl ?_ | refine sT rfl ?_ | refine sB rfl ?_)
  | (with_reducible refine Y8 ?_; first | refine Y4 ?_ | (refine ao1 rfl rfl fun K HK => ?_; (first | refine Y7 rfl ?_ | skip); simp only [go_sem, ↓reduceIte, Z0, Z2, Z1, Z3, Z4, Z6, Z7, Z8, Y9 l, e1, e4, Z5, Xo, Za, wk, gM_0, Ug, Uh, gM_l, Zg9, Z9]; (first | refine Y6 (fun hq => ?_) (fun hq => ?_) | (refine ⟨by omega, by omega, ?_⟩; refine Yg (by assumption) ?_) | skip) <;> (refine HK _ _ ?_; clear HK K)) | refine ao0 rfl rfl ?_ | (refine ao2 rfl rfl rfl Zs4 (hrx _) ?_; rintro _ _ ⟨rfl, rfl⟩) | (refine ao2 rfl rfl rfl Zj9 (hin _) ?_; rintro _ _ ⟨rfl, rfl⟩) | (refine ao1' rfl fun K HK => ?_; simp only [go_sem, ↓reduceIte, Z0, Z2, Z1, Z3, Z4, Z6, Z7, Z8, Y9 l, e1, e4, Z5, Xo, Za, wk, gM_0, Ug, Uh, gM_l, Zg9, Z9]; refine HK _ _ ?_; clear HK K))
  | (exfalso; omega)
 all_goals try (exfalso; omega)
 refine Yr (fun m e h' => ∃ j : Nat, j ≤ x.cond.length ∧ m = x.cond.length - j ∧ x.cond.all (hasS l.names) = (x.cond.drop j).all (hasS l.names) ∧ h' = gM (.cells (latX l)) (T ++ [.cells (Zy6 x)]) ∧ e 1 = .ptr 0 0 ∧ e 4 = .v (.int .i64 k) ∧ e 5 = .ptr (T.length + 1) 0 ∧ e 6 = .v (.int .i64 j)) x.cond.length ⟨0, Zj _, rfl, rfl, (by rw [Y9, Xo]), e1, e4, rfl, rfl⟩ ?_
 clear e1 e4
 rintro m e h' ⟨j, hj, rfl, hoj, rfl, e1, e4, e5, e6⟩
 by_cases hjl : j < x.cond.length
 rotate_left
 · skip
   repeat' first
    | (with_reducible first | refine sA rfl ?_ | refine sI rfl rfl ?_ | refine sT rfl ?_ | refine sB rfl ?_)
    | (with_reducible refine Xe ?_; first | refine Ya mixd (by kernel_rfl) ?_)
    | (with_reducible refine Y8 ?_; first | refine Y4 ?_ | (refine ao1 rfl rfl fun K HK => ?_; simp only [go_sem, ↓reduceIte, Z0, Z2, Z1, Z3, Z4, Z6, Z7, Z8, Y9 l, e1, e4, e5, e6, Z5, Xo, Za, wk, gM_0, Ug, Uh, gM_l, Zg9]; (first | refine Y6 (fun hq => ?_) (fun hq => ?_) | (refine ⟨by omega, by omega, ?_⟩; intro row hrow; obtain ⟨x, hx, rfl⟩ := Yn hrow; clear hrow) | skip) <;> (refine HK _ _ ?_; clear HK K)))
    | (with_reducible refine Ws ?_; first | (refine aq1 rfl rfl fun K HK => ?_; simp only [go_sem, ↓reduceIte, Z0, Z2, Z1, Z3, Z4, Z6, Z7, Z8, Y9 l, e1, e4, e5, e6, Z5, Xo, Za, wk, gM_0, Ug, Uh, gM_l, Zg9]; (first | refine Y6 (fun hq => ?_) (fun hq => ?_) | (refine ⟨by omega, by omega, ?_⟩; intro row hrow; obtain ⟨x, hx, rfl⟩ := Yn hrow; clear hrow) | skip) <;> (refine HK _ _ rfl ?_; clear HK K)))
    | (exfalso; omega)
   exact ⟨rfl, l.rules.length - (k + 1), by omega, k + 1, _, hlt, rfl, by rw [ho, hoj, Zd (by omega)]; rfl, by rw [Y9], e1, rfl⟩
 have hy : x.cond[j]? = some x.cond[j] := Zb hjl
 have wj : IntKind.i64.wrap ((j : Int) + 1) = (j : Int) + 1 := IntWalk.i64_in _ (by omega)
 rw [conds_step _ _ j hjl] at hoj
 generalize x.cond[j] = y at hy hoj
 have hiy := rIn_d G hG l.names y hnl
 cases hyb : hasS l.names y <;> rw [hyb] at hiy hoj
 · skip
   repeat' first
    | (with_reducible first | refine sA rfl ?_ | refine sI rfl rfl ?_ | refine sT rfl ?_ | refine sB rfl ?_)
    | (with_reducible refine Xe ?_; first | refine Ya mixd (by kernel_rfl) ?_)
    | (with_reducible refine Y8 ?_; first | refine Y4 ?_ | (refine ao1 rfl rfl fun K HK => ?_; simp only [go_sem, ↓reduceIte, Z0, Z2, Z1, Z3, Z4, Z6, Z7, Z8, Y9 l, e1, e4, e5, e6, Z5, Xo, Xl, Za, wj, gM_0, Ug, Uh, gM_l, Zg9, Z9]; (first | refine Y6 (fun hq => ?_) (fun hq => ?_) | (refine ⟨by omega, by omega, ?_⟩; refine Yg (by assumption) ?_) | skip) <;> (refine HK _ _ ?_; clear HK K)))
    | (with_reducible refine Ws ?_; first | (refine aq1 rfl rfl fun K HK => ?_; simp only [go_sem, ↓reduceIte, Z0, Z2, Z1, Z3, Z4, Z6, Z7, Z8, Y9 l, e1, e4, e5, e6, Z5, Xo, Xl, Za, wj, gM_0, Ug, Uh, gM_l, Zg9, Z9]; (first | refine Y6 (fun hq => ?_) (fun hq => ?_) | (refine ⟨by omega, by omega, ?_⟩; refine Yg (by assumption) ?_) | skip) <;> (refine HK _ _ rfl ?_; clear HK K)) | refine X2 ?_ | refine aq2 rfl rfl rfl Zj9 (hiy _) ?_)
    | (exfalso; omega)
   exact ⟨.inr rfl, endD (r := .v (.bool false)) hl0 rfl (by simp) (by simp) rfl (by rw [low]; trivial) ⟨rfl, by rw [ho, hoj]; rfl⟩⟩
 · skip
   repeat' first
    | (with_reducible first | refine sA rfl ?_ | refine sI rfl rfl ?_ | refine sT rfl ?_ | refine sB rfl ?_)
    | (with_reducible refine Xe ?_; first | refine Ya mixd (by kernel_rfl) ?_)
    | (with_reducible refine Y8 ?_; first | refine Y4 ?_ | (refine ao1 rfl rfl fun K HK => ?_; simp only [go_sem, ↓reduceIte, Z0, Z2, Z1, Z3, Z4, Z6, Z7, Z8, Y9 l, e1, e4, e5, e6, Z5, Xo, Xl, Za, wj, gM_0, Ug, Uh, gM_l, Zg9, Z9]; (first | refine Y6 (fun hq => ?_) (fun hq => ?_) | (refine ⟨by omega, by omega, ?_⟩; refine Yg (by assumption) ?_) | skip) <;> (refine HK _ _ ?_; clear HK K)))
    | (with_reducible refine Ws ?_; first | (refine aq1 rfl rfl fun K HK => ?_; simp only [go_sem, ↓reduceIte, Z0, Z2, Z1, Z3, Z4, Z6, Z7, Z8, Y9 l, e1, e4, e5, e6, Z5, Xo, Xl, Za, wj, gM_0, Ug, Uh, gM_l, Zg9, Z9]; (first | refine Y6 (fun hq => ?_) (fun hq => ?_) | (refine ⟨by omega, by omega, ?_⟩; refine Yg (by assumption) ?_) | skip) <;> (refine HK _ _ rfl ?_; clear HK K)) | refine X2 ?_ | refine aq2 rfl rfl rfl Zj9 (hiy _) ?_)
    | (exfalso; omega)
   exact ⟨rfl, x.cond.length - (j + 1), by omega, j + 1, hjl, rfl, by rw [hoj]; rfl, by rw [Y9, Xo], e1, e4, e5, rfl⟩
end
end Go.Proofs.YtgkjcmglcnhpaaaGreatDoor
