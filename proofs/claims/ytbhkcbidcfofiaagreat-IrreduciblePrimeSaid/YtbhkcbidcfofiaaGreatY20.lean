/-
  What the statements of the chapter share, part 20: LB2.
-/
import Derived.Test.YtbhkcbidcfofiaaGreatY14
import Derived.Test.YtbhkcbidcfofiaaGreatY15
import Derived.Test.YtbhkcbidcfofiaaGreatY16
set_option linter.unusedVariables false
set_option linter.unusedSimpArgs false
set_option maxRecDepth 100000
set_option maxHeartbeats 8000000
namespace Go.Proofs.YtbhkcbidcfofiaaGreat
open _root_.Nat renaming le_of_ble_eq_true → Z0
open _root_.Go.Proofs.Tryz renaming prog → Z1
open Go.RowKit
section
attribute [local irreducible] on aOp
attribute [local go_sem] decide_true decide_false Bool.not_true Bool.not_false
attribute [local simp] byD_len
variable (G : Nat → D) (hG : ∀ g, low 0 (G g))
include hG
attribute [local go_sem] Bool.false_eq_true Int.reduceEq Int.reduceLE Int.reduceLT Int.toNat_one Int.toNat_zero List.length_map Nat.reduceAdd Nat.reduceBEq Nat.reduceEqDiff Nat.reduceLeDiff Nat.reduceMul Zq0 Yb3
attribute [local go_sem ↓] reduceIte
theorem when_d (b : Bool) (e : Int) (h : List Ob) : Does Z1 G 239 h [.v (.bool b), .v (.int .i64 e)] (fun h' r => h' = h ∧ r = .v (.int .i64 (Un b e))) := by
 refine Y6 Tryz.func239 rfl (Z0 rfl) hG fun hl0 _ => ?_
 simp only [Tryz.ntmps239]
 cases b
 all_goals
  skip
  repeat' first
   | refine g0 ?_
   | fail
  exact ⟨.inr rfl, endV hl0 rfl rfl ⟨rfl, rfl⟩⟩
theorem chain_d (n : Nat) : ∀ (l : Lat), SizeOf.sizeOf l ≤ n → Sm l → ∀ (h : List Ob), Does Z1 G 240 h [.agg (latX l)] (fun h' r => h' = h ∧ r = .v (.bool (Wc l))) := by
 induction n with
 | zero => intro l hn; cases l; simp at hn
 | succ n ih =>
 intro l hn hsm h
 refine Y9 G hG (Wu _ l) (by rw [low]; trivial) ?_ h
 clear h
 have hpl := hsm.parts
 have hpp : ∀ p ∈ l.parts, ∀ (b : Bool), Wc p = b → ∀ (h : List Ob), Does Z1 G 240 h [.agg (latX p)] (fun h' r => h' = h ∧ r = .v (.bool b)) := fun p hp b hb h => hb ▸ ih p (by have := Yu hp; omega) (hsm.part p hp) h
 generalize hkk : l.kind = k
 by_cases h123 : k = 1 ∨ k = 2 ∨ k = 3
 · have e1 : Wc l = true := by rw [Zh7, hkk, decide_eq_true h123]; rfl
   rw [e1]
   refine Y6 Tryz.func240 rfl (Z0 rfl) hG fun hl0 _ => ?_
   simp only [Tryz.ntmps240]
   have F : _ ∧ _ := ⟨Y4, hkk⟩
   repeat' first
    | refine gg ?_
    | refine Two.mk (fun hq => ?_) fun hq => ?_
    | (exfalso; omega)
   all_goals first | (exfalso; omega) | exact ⟨.inr rfl, endD (r := .v (.bool true)) hl0 rfl (by simp) (by simp) rfl (by rw [low]; trivial) ⟨rfl, rfl⟩⟩
 by_cases h7 : k = 7 ∧ l.parts.length = 2
 rotate_left
 · have e1 : Wc l = false := chain_no (by rw [hkk]; exact h123) (by rw [hkk]; omega)
   rw [e1]
   refine Y6 Tryz.func240 rfl (Z0 rfl) hG fun hl0 _ => ?_
   simp only [Tryz.ntmps240]
   have F : _ ∧ _ := ⟨Y4, hkk⟩
   repeat' first
    | refine gg ?_
    | refine Two.mk (fun hq => ?_) fun hq => ?_
    | (exfalso; omega)
   all_goals first | (exfalso; omega) | exact ⟨.inr rfl, endD (r := .v (.bool false)) hl0 rfl (by simp) (by simp) rfl (by rw [low]; trivial) ⟨rfl, rfl⟩⟩
 obtain ⟨rfl, h2⟩ := h7
 obtain ⟨a, b, hab⟩ : ∃ a b, l.parts = [a, b] := by
  match hm : l.parts, h2 with
  | [a, b], _ => exact ⟨a, b, rfl⟩
 rw [chain_two (by rw [hkk]; exact h123) hkk hab]
 have ha := hpp a (by rw [hab]; simp)
 have hb := hpp b (by rw [hab]; simp)
 have hx0 : l.parts[0]? = some a := by rw [hab]; rfl
 have hx1 : l.parts[1]? = some b := by rw [hab]; rfl
 clear hab
 refine Y6 Tryz.func240 rfl (Z0 rfl) hG fun hl0 _ => ?_
 simp only [Tryz.ntmps240]
 cases hca : Wc a
 · skip
   have F : _ ∧ _ ∧ _ := ⟨Y4 l, hkk, h2⟩
   repeat' first
    | refine gg ?_
    | refine Two.mk (fun hq => ?_) fun hq => ?_
    | (with_reducible refine Y7 ?_; refine gc rfl rfl rfl Yp0 (ha _ hca _) ?_)
    | (exfalso; omega)
   all_goals first | (exfalso; omega) | exact ⟨.inr rfl, endD (r := .v (.bool false)) hl0 rfl (by simp) (by simp) rfl (by rw [low]; trivial) ⟨rfl, by rfl⟩⟩
 · cases hcb : Wc b
   all_goals
    skip
    have F : _ ∧ _ ∧ _ := ⟨Y4 l, hkk, h2⟩
    repeat' first
     | refine gg ?_
     | refine Two.mk (fun hq => ?_) fun hq => ?_
     | (with_reducible refine Y7 ?_; first | refine gc rfl rfl rfl Yp0 (ha _ hca _) ?_ | refine gc rfl rfl rfl Yp0 (hb _ hcb _) ?_)
     | (exfalso; omega)
   all_goals first | (exfalso; omega) | exact ⟨.inr rfl, endV hl0 rfl rfl ⟨rfl, by rfl⟩⟩
theorem shape_d (l : Lat) (hsm : Sm l) (h : List Ob) : Does Z1 G 202 h [.agg (latX l)] (fun h' r => h' = h ∧ r = .v (.int .i64 (Un (Wx l) 1))) := by
 refine Y9 G hG (Wu _ l) (by rw [low]; trivial) ?_ h
 clear h
 unfold Wx
 have hpl := hsm.parts
 have hnl := hsm.names
 have hrl := hsm.rules
 generalize hkk : l.kind = k
 generalize hlo : l.lo = lo
 generalize hhi : l.hi = hi
 generalize hnn : l.names.length = nn at *
 generalize hnp : l.parts.length = np at *
 generalize hnr : l.rules.length = nr at *
 refine Y6 Tryz.func202 rfl (Z0 rfl) hG fun hl0 _ => ?_
 simp only [Tryz.ntmps202]
 have F : _ ∧ _ ∧ _ ∧ _ ∧ _ ∧ _ ∧ _ := ⟨Y4, hkk, hlo, hhi, hnn, hnp, hnr⟩
 repeat' first
  | (with_reducible refine Yc ?_; refine Y8 mixd (by kernel_rfl) ?_)
  | refine gg ?_
  | refine Two.mk (fun hq => ?_) fun hq => ?_
  | (with_reducible refine Y7 ?_; refine gc rfl rfl rfl Yc8 (when_d G hG _ _ _) ?_)
  | (exfalso; omega)
 all_goals first | (exfalso; omega) | refine ⟨.inr rfl, endV hl0 rfl rfl ⟨rfl, congrArg (fun b => D.v (.int .i64 b)) ?_⟩⟩
 all_goals
  clear hl0
  try unfold Un
  first
  | (rw [Zo1 (by omega) (by omega) (by omega)]; simp; done)
  | (rw [Ze8 (by omega) (by omega)]; simp; done)
  | (rw [Zy7 (by omega)]; simp; done)
  | (simp_all [Za5, Vk]; done)
  | (simp_all [Za5, Vk]; omega)
theorem limits_d (l : Lat) (hsm : Sm l) (h : List Ob) : Does Z1 G 204 h [.agg (latX l)] (fun h' r => h' = h ∧ r = .v (.int .i64 (Un (Za2 l) 6))) := by
 refine Y9 G hG (Wu _ l) (by rw [low]; trivial) ?_ h
 clear h
 unfold Za2
 have hnl := hsm.names
 have hrl := hsm.rules
 generalize hkk : l.kind = k
 generalize hnn : l.names.length = nn at *
 generalize hnr : l.rules.length = nr at *
 refine Y6 Tryz.func204 rfl (Z0 rfl) hG fun hl0 _ => ?_
 simp only [Tryz.ntmps204]
 have F : _ ∧ _ ∧ _ ∧ _ := ⟨Y4, hkk, hnn, hnr⟩
 repeat' first
  | refine gg ?_
  | refine Two.mk (fun hq => ?_) fun hq => ?_
  | (with_reducible refine Y7 ?_; refine gc rfl rfl rfl Yc8 (when_d G hG _ _ _) ?_)
 all_goals first | (exfalso; omega) | refine ⟨.inr rfl, endV hl0 rfl rfl ⟨rfl, congrArg (fun b => D.v (.int .i64 (Un b 6))) ?_⟩⟩
 all_goals
  clear hl0
  rw [Bool.eq_iff_iff]
  first
  | (simp_all [Ya5]; done)
  | (simp_all [Ya5]; omega)
theorem ranges_d (l : Lat) (h : List Ob) : Does Z1 G 206 h [.agg (latX l)] (fun h' r => h' = h ∧ r = .v (.int .i64 (Un (Zf6 l) 5))) := by
 refine Y9 G hG (Wu _ l) (by rw [low]; trivial) ?_ h
 clear h
 unfold Zf6
 generalize hlo : l.lo = lo
 generalize hhi : l.hi = hi
 refine Y6 Tryz.func206 rfl (Z0 rfl) hG fun hl0 _ => ?_
 simp only [Tryz.ntmps206]
 have F : _ ∧ _ ∧ _ := ⟨Y4, hlo, hhi⟩
 repeat' first
  | refine gg ?_
  | refine Two.mk (fun hq => ?_) fun hq => ?_
  | (with_reducible refine Y7 ?_; refine gc rfl rfl rfl Yc8 (when_d G hG _ _ _) ?_)
  | (exfalso; omega)
 all_goals first | (exfalso; omega) | refine ⟨.inr rfl, endV hl0 rfl rfl ⟨rfl, congrArg (fun b => D.v (.int .i64 (Un b 5))) ?_⟩⟩
 all_goals
  clear hl0
  first
  | (rw [decide_eq_true (by omega)]; done)
  | (rw [decide_eq_false (by omega)]; done)
theorem chains_d (l : Lat) (hsm : Sm l) (h7 : l.kind = 7 → l.parts.length = 2) (h : List Ob) : Does Z1 G 207 h [.agg (latX l)] (fun h' r => h' = h ∧ r = .v (.int .i64 (Un (Vd l) 4))) := by
 refine Y9 G hG (Wu _ l) (by rw [low]; trivial) ?_ h
 clear h
 by_cases hk : l.kind = 7
 · have h2 := h7 hk
   obtain ⟨p, hp, hc, hpm⟩ : ∃ p, l.parts[0]? = some p ∧ Vd l = !Wc p ∧ p ∈ l.parts := by
    match hm : l.parts, h2 with
    | [a, b], _ => exact ⟨a, rfl, by unfold Vd; rw [hk, hm]; rfl, by simp⟩
   rw [hc]
   have hch := chain_d G hG _ p (Nat.le_refl _) (hsm.part p hpm)
   generalize Wc p = b at *
   refine Y6 Tryz.func207 rfl (Z0 rfl) hG fun hl0 _ => ?_
   simp only [Tryz.ntmps207]
   cases b
   all_goals
    skip
    have F : _ ∧ _ ∧ _ := ⟨Y4 l, hk, h2⟩
    repeat' first
     | refine g0 ?_
     | (with_reducible refine Y7 ?_; first | refine gc rfl rfl rfl Yc8 (when_d G hG _ _ _) ?_ | refine gc rfl rfl rfl Yp0 (hch _) ?_)
    exact ⟨.inr rfl, endV hl0 rfl rfl ⟨rfl, rfl⟩⟩
 · have hc : Vd l = false := by unfold Vd; rw [decide_eq_false hk, Bool.false_and]
   rw [hc]
   refine Y6 Tryz.func207 rfl (Z0 rfl) hG fun hl0 _ => ?_
   simp only [Tryz.ntmps207]
   have F : _ ∧ _ := ⟨Y4 l, hk⟩
   repeat' first
    | refine g0 ?_
    | (with_reducible refine Y7 ?_; refine gc rfl rfl rfl Yc8 (when_d G hG _ _ _) ?_)
   exact ⟨.inr rfl, endV hl0 rfl rfl ⟨rfl, rfl⟩⟩
end
end Go.Proofs.YtbhkcbidcfofiaaGreat
