/-
  What the statements of the chapter share, part 26: RV7, RV8.
-/
import Derived.Test.YtbhkcbidcfofiaaGreatY15
import Derived.Test.YtbhkcbidcfofiaaGreatY21
import Derived.Test.YtbhkcbidcfofiaaGreatY25
set_option linter.unusedVariables false
set_option linter.unusedSimpArgs false
set_option maxRecDepth 100000
set_option maxHeartbeats 8000000
namespace Go.Proofs.YtbhkcbidcfofiaaGreat
open _root_.Int renaming toNat_natCast → Z8
open _root_.List renaming getElem?_eq_getElem → Z0, getElem_mem → Z4, drop_eq_getElem_cons → Z5, length_map → Z6, drop_eq_nil_of_le → Z7, cons_append → Z9, length_cons → Za, length_nil → Zb, nil_append → Zc
open _root_.Nat renaming reduceEqDiff → Z1, reduceLeDiff → Z2, reduceAdd → Z3, zero_le → Zd
open Go.RowKit
attribute [local irreducible] on aOp
attribute [local simp] byD_len
attribute [local go_sem] decide_true decide_false Bool.not_true Bool.not_false
attribute [local go_sem ↓] reduceIte
section
set_option maxHeartbeats 16000000
theorem rent_go {list : List En} {k : Nat} {x : En} (h : list[k]? = some x) : Zm1 list k (list.drop k) = (Jg list k x && Zm1 list (k + 1) (list.drop (k + 1))) := by
 obtain ⟨hl, rfl⟩ := List.getElem?_eq_some_iff.1 h
 rw [Z5 hl, Zm1]
theorem rent_0 {list : List En} {x : En} (h1 : ¬ x.clock.length = 0) (h2 : X9 x.clock = true) (h3 : Xz x.name = true) : Jg list 0 x = list.all fun f => !Wg x.clock f.clock := by
 unfold Jg; rw [h2, h3, decide_eq_true h1]; rfl
theorem rent_s {list : List En} {j : Nat} {x y : En} (hy : list[j]? = some y) (h1 : ¬ x.clock.length = 0) (h2 : X9 x.clock = true) (h3 : Xz x.name = true) : Jg list (j + 1) x = (decide (entC y x < 0) && list.all fun f => !Wg x.clock f.clock) := by
 unfold Jg; simp only [hy]; rw [h2, h3, decide_eq_true h1]; rfl
variable (G : Nat → D) (hG : ∀ g, low 0 (G g))
include hG
attribute [local go_sem] Bool.false_eq_true Int.reduceEq Int.reduceLE Int.reduceLT Z8 Z6 Z3 Nat.reduceBEq Z1 Z2 Nat.reduceMul Zd0
theorem rents_d (list : List En) (hl : list.length ≤ 9223372036854775807) (hs : ∀ e ∈ list, e.clock.length ≤ 9223372036854775807 ∧ e.name.size ≤ 9223372036854775807) (h : List Ob) : Does Tryz.prog G 136 h [.sl 2 (list.map enX)] (fun h' r => h' = h ∧ r = .v (.bool (regB list))) := by
 rw [← rents_reg]
 unfold rentsB
 refine Ya G hG (by rw [lowL, lowL]; exact ⟨low_ens _ list, trivial⟩) (by rw [low]; trivial) ?_ h
 clear h
 refine Y5 Tryz.func136 rfl (Nat.le_of_ble_eq_true rfl) hG fun hl0 _ => ?_
 simp only [Tryz.ntmps136]
 repeat' first
  | refine g0 ?_
  | fail
 refine Yh (fun m e h' => ∃ k : Nat, k ≤ list.length ∧ m = list.length - k ∧ Zm1 list 0 list = Zm1 list k (list.drop k) ∧ h' = [] ∧ e 0 = .sl 2 (list.map enX) ∧ e 3 = .v (.int .i64 k)) list.length ⟨0, Zd _, rfl, rfl, rfl, rfl, rfl⟩ ?_
 rintro m e h' ⟨k, hk, rfl, ho, rfl, e0, e3⟩
 by_cases hlt : k < list.length
 rotate_left
 · rw [Z7 (by omega)] at ho
   have F : _ ∧ _ := ⟨e0, e3⟩
   repeat' first
    | refine gg ?_
    | refine Two.mk (fun hq => ?_) fun hq => ?_
    | refine Evry.mk fun x hx => ?_
    | (exfalso; omega)
   exact ⟨.inr rfl, endD (r := .v (.bool true)) hl0 rfl (by simp) (by simp) rfl (by rw [low]; trivial) ⟨rfl, by rw [ho]; rfl⟩⟩
 have hx : list[k]? = some list[k] := Z0 hlt
 obtain ⟨hxc, hxn⟩ := hs _ (Z4 hlt)
 generalize list[k] = x at hx hxc hxn
 rw [rent_go hx] at ho
 have wk : IntKind.i64.wrap ((k : Int) + 1) = ((k + 1 : Nat) : Int) := IntWalk.i64_in _ (by omega)
 have hv := Zu2 G hG x.clock hxc
 have hn := sValid_d G hG x.name hxn
 by_cases hz : x.clock.length = 0
 · have hr : Jg list k x = false := by unfold Jg; rw [decide_eq_false (by omega)]; rfl
   rw [hr] at ho
   have hzi : (x.clock.length : Int) = 0 := by omega
   have F : _ ∧ _ ∧ _ ∧ _ := ⟨e0, e3, wk, hzi⟩
   repeat' first
    | refine gg ?_
    | refine Two.mk (fun hq => ?_) fun hq => ?_
    | (exfalso; omega)
   all_goals first | (exfalso; omega) | exact ⟨.inr rfl, endD (r := .v (.bool false)) hl0 rfl (by simp) (by simp) rfl (by rw [low]; trivial) ⟨rfl, by rw [ho]; rfl⟩⟩
 have hzi : ¬ (x.clock.length : Int) = 0 := by omega
 cases hcb : X9 x.clock <;> rw [hcb] at hv
 · have hr : Jg list k x = false := by unfold Jg; rw [hcb]; simp
   rw [hr] at ho
   have F : _ ∧ _ ∧ _ ∧ _ := ⟨e0, e3, wk, hzi⟩
   repeat' first
    | refine gg ?_
    | refine Two.mk (fun hq => ?_) fun hq => ?_
    | (with_reducible refine Y7 ?_; refine gc rfl rfl rfl Zb8 (hv _) ?_)
    | (exfalso; omega)
   all_goals first | (exfalso; omega) | exact ⟨.inr rfl, endD (r := .v (.bool false)) hl0 rfl (by simp) (by simp) rfl (by rw [low]; trivial) ⟨rfl, by rw [ho]; rfl⟩⟩
 cases hnb : Xz x.name <;> rw [hnb] at hn
 · have hr : Jg list k x = false := by unfold Jg; rw [hnb]; simp
   rw [hr] at ho
   have F : _ ∧ _ ∧ _ ∧ _ := ⟨e0, e3, wk, hzi⟩
   repeat' first
    | refine gg ?_
    | refine Two.mk (fun hq => ?_) fun hq => ?_
    | (with_reducible refine Y7 ?_; first | refine gc rfl rfl rfl Zb8 (hv _) ?_ | refine gc rfl rfl rfl Zf0 (hn _) ?_)
    | (exfalso; omega)
   all_goals first | (exfalso; omega) | exact ⟨.inr rfl, endD (r := .v (.bool false)) hl0 rfl (by simp) (by simp) rfl (by rw [low]; trivial) ⟨rfl, by rw [ho]; rfl⟩⟩
 have hbel : ∀ f ∈ list, ∀ h, Does Tryz.prog G 174 h [.sl 2 (x.clock.map tkX), .sl 2 (f.clock.map tkX)] (fun h' r => h' = h ∧ r = .v (.bool (Wg x.clock f.clock))) := fun f hf => cBelow_d G hG x.clock f.clock hxc (hs f hf).1
 rcases Nat.eq_zero_or_pos k with h0 | h0
 · subst h0
   have hr0 := rent_0 (list := list) hz hcb hnb
   have F : _ ∧ _ ∧ _ ∧ _ := ⟨e0, e3, wk, hzi⟩
   repeat' first
    | (with_reducible refine Yf ?_; refine Y9 mixd (by kernel_rfl) ?_)
    | refine gg ?_
    | refine Two.mk (fun hq => ?_) fun hq => ?_
    | refine Evry.mk fun x hx => ?_
    | (with_reducible refine Y7 ?_; first | refine gc rfl rfl rfl Zb8 (hv _) ?_ | refine gc rfl rfl rfl Zf0 (hn _) ?_)
    | (exfalso; omega)
   all_goals try (exfalso; omega)
   refine Yh (fun m e h' => ∃ i : Nat, i ≤ list.length ∧ m = list.length - i ∧ Jg list (0) x = ((list.drop i).all fun f => !Wg x.clock f.clock) ∧ h' = [] ∧ e 0 = .sl 2 (list.map enX) ∧ e 3 = .v (.int .i64 ((0 : Nat) : Int)) ∧ e 4 = .v (.int .i64 i)) list.length ⟨0, Zd _, rfl, hr0, rfl, e0, e3, rfl⟩ ?_
   (try clear F); clear e0 e3 e
   rintro m e h' ⟨i, hi, rfl, hall, rfl, e0, e3, e4⟩
   by_cases hli : i < list.length
   · have hz2 : list[i]? = some list[i] := Z0 hli
     have hbf := hbel _ (Z4 hli)
     rw [Z5 hli, List.all_cons] at hall
     generalize list[i] = f at hz2 hbf hall
     have wi : IntKind.i64.wrap ((i : Int) + 1) = ((i + 1 : Nat) : Int) := IntWalk.i64_in _ (by omega)
     cases hbv : Wg x.clock f.clock <;> rw [hbv] at hbf hall
     · skip
       have F : _ ∧ _ ∧ _ ∧ _ := ⟨e0, e3, e4, wi⟩
       repeat' first
        | (with_reducible refine Yf ?_; refine Y9 mixd (by kernel_rfl) ?_)
        | refine gg ?_
        | refine Two.mk (fun hq => ?_) fun hq => ?_
        | (with_reducible refine Xf ?_; refine aq2 rfl rfl rfl Yl4 (hbf _) ?_)
        | (exfalso; omega)
       exact ⟨rfl, list.length - (i + 1), by omega, i + 1, hli, rfl, hall, rfl, e0, e3, rfl⟩
     · rw [hall] at ho
       have F : _ ∧ _ ∧ _ ∧ _ := ⟨e0, e3, e4, wi⟩
       repeat' first
        | (with_reducible refine Yf ?_; refine Y9 mixd (by kernel_rfl) ?_)
        | refine gg ?_
        | refine Two.mk (fun hq => ?_) fun hq => ?_
        | (with_reducible refine Xf ?_; refine aq2 rfl rfl rfl Yl4 (hbf _) ?_)
        | (exfalso; omega)
       exact ⟨.inr rfl, endD (r := .v (.bool false)) hl0 rfl (by simp) (by simp) rfl (by rw [low]; trivial) ⟨rfl, by rw [ho]; rfl⟩⟩
   · rw [Z7 (by omega)] at hall
     rw [hall] at ho
     have F : _ ∧ _ ∧ _ ∧ _ := ⟨e0, e3, e4, wk⟩
     repeat' first
      | (with_reducible refine Yf ?_; refine Y9 mixd (by kernel_rfl) ?_)
      | refine gg ?_
      | refine Two.mk (fun hq => ?_) fun hq => ?_
      | refine Evry.mk fun x hx => ?_
      | (exfalso; omega)
     exact ⟨rfl, list.length - (1), by omega, 1, by omega, rfl, ho, rfl, e0, rfl⟩
 · obtain ⟨j, rfl⟩ : ∃ j, k = j + 1 := ⟨k - 1, by omega⟩
   have hy : list[j]? = some list[j] := Z0 (by omega)
   have hyc := (hs _ (Z4 (show j < list.length by omega))).1
   generalize list[j] = y at hy hyc
   have hr0 := rent_s hy hz hcb hnb
   have wm : IntKind.i64.wrap (((j + 1 : Nat) : Int) - 1) = (j : Int) := by rw [show ((j + 1 : Nat) : Int) - 1 = (j : Int) by omega]; exact IntWalk.i64_in _ (by omega)
   have gp : decide ((0 : Int) < ((j + 1 : Nat) : Int)) = true := decide_eq_true (by omega)
   have hec := ents_d G hG y x hyc hxc
   simp only [Zd0] at hec
   generalize entC y x = c at hec hr0
   by_cases hc : c < 0
   rotate_left
   · rw [decide_eq_false hc, Bool.false_and] at hr0
     rw [hr0] at ho
     have F : _ ∧ _ ∧ _ ∧ _ ∧ _ ∧ _ := ⟨e0, e3, wk, wm, gp, hzi⟩
     repeat' first
      | (with_reducible refine Yf ?_; refine Y9 mixd (by kernel_rfl) ?_)
      | refine gg ?_
      | refine Two.mk (fun hq => ?_) fun hq => ?_
      | (with_reducible refine Y7 ?_; first | refine gc rfl rfl rfl Zb8 (hv _) ?_ | refine gc rfl rfl rfl Zf0 (hn _) ?_)
      | (with_reducible refine Xf ?_; refine aq2 rfl rfl rfl ent_97 (hec _) ?_)
      | (exfalso; omega)
     all_goals first | (exfalso; omega) | exact ⟨.inr rfl, endD (r := .v (.bool false)) hl0 rfl (by simp) (by simp) rfl (by rw [low]; trivial) ⟨rfl, by rw [ho]; rfl⟩⟩
   rw [decide_eq_true hc, Bool.true_and] at hr0
   have F : _ ∧ _ ∧ _ ∧ _ ∧ _ ∧ _ := ⟨e0, e3, wk, wm, gp, hzi⟩
   repeat' first
    | (with_reducible refine Yf ?_; refine Y9 mixd (by kernel_rfl) ?_)
    | refine gg ?_
    | refine Two.mk (fun hq => ?_) fun hq => ?_
    | (with_reducible refine Y7 ?_; first | refine gc rfl rfl rfl Zb8 (hv _) ?_ | refine gc rfl rfl rfl Zf0 (hn _) ?_)
    | (with_reducible refine Xf ?_; refine aq2 rfl rfl rfl ent_97 (hec _) ?_)
    | (exfalso; omega)
   all_goals try (exfalso; omega)
   refine Yh (fun m e h' => ∃ i : Nat, i ≤ list.length ∧ m = list.length - i ∧ Jg list (j + 1) x = ((list.drop i).all fun f => !Wg x.clock f.clock) ∧ h' = [] ∧ e 0 = .sl 2 (list.map enX) ∧ e 3 = .v (.int .i64 ((j + 1 : Nat) : Int)) ∧ e 4 = .v (.int .i64 i)) list.length ⟨0, Zd _, rfl, hr0, rfl, e0, e3, rfl⟩ ?_
   (try clear F); clear e0 e3 e
   rintro m e h' ⟨i, hi, rfl, hall, rfl, e0, e3, e4⟩
   by_cases hli : i < list.length
   · have hz2 : list[i]? = some list[i] := Z0 hli
     have hbf := hbel _ (Z4 hli)
     rw [Z5 hli, List.all_cons] at hall
     generalize list[i] = f at hz2 hbf hall
     have wi : IntKind.i64.wrap ((i : Int) + 1) = ((i + 1 : Nat) : Int) := IntWalk.i64_in _ (by omega)
     cases hbv : Wg x.clock f.clock <;> rw [hbv] at hbf hall
     · skip
       have F : _ ∧ _ ∧ _ ∧ _ := ⟨e0, e3, e4, wi⟩
       repeat' first
        | (with_reducible refine Yf ?_; refine Y9 mixd (by kernel_rfl) ?_)
        | refine gg ?_
        | refine Two.mk (fun hq => ?_) fun hq => ?_
        | (with_reducible refine Xf ?_; refine aq2 rfl rfl rfl Yl4 (hbf _) ?_)
        | (exfalso; omega)
       exact ⟨rfl, list.length - (i + 1), by omega, i + 1, hli, rfl, hall, rfl, e0, e3, rfl⟩
     · rw [hall] at ho
       have F : _ ∧ _ ∧ _ ∧ _ := ⟨e0, e3, e4, wi⟩
       repeat' first
        | (with_reducible refine Yf ?_; refine Y9 mixd (by kernel_rfl) ?_)
        | refine gg ?_
        | refine Two.mk (fun hq => ?_) fun hq => ?_
        | (with_reducible refine Xf ?_; refine aq2 rfl rfl rfl Yl4 (hbf _) ?_)
        | (exfalso; omega)
       exact ⟨.inr rfl, endD (r := .v (.bool false)) hl0 rfl (by simp) (by simp) rfl (by rw [low]; trivial) ⟨rfl, by rw [ho]; rfl⟩⟩
   · rw [Z7 (by omega)] at hall
     rw [hall] at ho
     have F : _ ∧ _ ∧ _ ∧ _ := ⟨e0, e3, e4, wk⟩
     repeat' first
      | (with_reducible refine Yf ?_; refine Y9 mixd (by kernel_rfl) ?_)
      | refine gg ?_
      | refine Two.mk (fun hq => ?_) fun hq => ?_
      | refine Evry.mk fun x hx => ?_
      | (exfalso; omega)
     exact ⟨rfl, list.length - (j + 1 + 1), by omega, j + 1 + 1, by omega, rfl, ho, rfl, e0, rfl⟩
end
section
variable (G : Nat → D) (hG : ∀ g, low 0 (G g))
include hG
attribute [local go_sem] Int.reduceEq Int.reduceLE Int.reduceLT Z8 List.append_assoc Z9 List.length_append Za Z6 Zb Zc Z3 Nat.reduceBEq Z1 Z2 Nat.reduceMul kM_0 kM_1 kM_2 kM_3 Ye8 kM_l kM_l2 kM_l3 Zr9 kM_s1 kM_s2 kM_s3 kM_sl Wa J2
theorem least_d (f : Nat) : ∀ l : Lat, SizeOf.sizeOf l ≤ f → WfL l → ∀ h : List Ob, Does Tryz.prog G 68 h [.agg (latX l)] (fun h' r => h' = h ∧ r = .agg (vaX (botV l))) := by
 induction f with
 | zero => intro l hn; cases l; simp at hn
 | succ f ih =>
 intro l hn hwf h
 refine Ya G hG (Wf _ l) (by rw [low]; exact Ys _ _) ?_ h
 clear h
 obtain ⟨hk0, hk5, hk7, hk6, _⟩ := hwf.kinds
 have hpl : l.kind = 6 ∨ l.kind = 7 → l.parts.length ≤ 8 := fun q => by rcases q with q | q; have := hk6 q; omega; have := hk7 q; omega
 have hpp : ∀ p ∈ l.parts, ∀ h, Does Tryz.prog G 68 h [.agg (latX p)] (fun h' r => h' = h ∧ r = .agg (vaX (botV p))) := fun p hp => ih p (by have := Yb hp; omega) (hwf.part hp)
 apply Does.weak
 refine Y5 Tryz.func68 rfl (Nat.le_of_ble_eq_true rfl) hG fun hl0 _ => ?_
 simp only [Tryz.ntmps68]
 by_cases h6 : l.kind = 6 ∨ l.kind = 7
 rotate_left
 · have hb : ∃ n : Int, botV l = .mk n [] [] [] ∧ (l.kind = 2 → n = l.lo) ∧ (l.kind = 3 → n = l.hi) ∧ (l.kind ≠ 2 → l.kind ≠ 3 → n = 0) := by
    by_cases h2 : l.kind = 2
    · exact ⟨_, bot_2 h2, fun _ => rfl, fun q => by omega, fun q => absurd h2 q⟩
    by_cases h3 : l.kind = 3
    · exact ⟨_, bot_3 h3, fun q => by omega, fun _ => rfl, fun _ q => absurd h3 q⟩
    · exact ⟨_, bot_0 h2 h3 (by omega) (by omega), fun q => by omega, fun q => by omega, fun _ _ => rfl⟩
   obtain ⟨n, hb, b2, b3, b0⟩ := hb
   rw [hb, Yb3]
   have h6a : ¬ l.kind = 6 := by omega
   have h7a : ¬ l.kind = 7 := by omega
   by_cases h2 : l.kind = 2
   · obtain rfl := b2 h2
     have F : _ ∧ _ := ⟨Y4 l, h2⟩
     repeat' first
      | refine g0 ?_
      | fail
     all_goals exact ⟨.inr rfl, endD (ds := [.agg [.v (.int .i64 l.lo), .v (.slice none 0 0), .v (.slice none 0 0), .v (.slice none 0 0)]]) (r := .agg [.v (.int .i64 l.lo), .v (.slice none 0 0), .v (.slice none 0 0), .v (.slice none 0 0)]) hl0 (by simp only [resD, Tryz.results68, go_sem, ↓reduceIte, Z1, Z3, Z2]; try rfl) (by simp) (by simp) (by simp [outD, cvD, cv1]) (by simp [low, lowL]) ⟨_, ⟨rfl, rfl⟩, Vr _ _ _ Wu⟩⟩
   by_cases h3 : l.kind = 3
   · obtain rfl := b3 h3
     have F : _ ∧ _ := ⟨Y4 l, h3⟩
     repeat' first
      | refine g0 ?_
      | fail
     all_goals exact ⟨.inr rfl, endD (ds := [.agg [.v (.int .i64 l.hi), .v (.slice none 0 0), .v (.slice none 0 0), .v (.slice none 0 0)]]) (r := .agg [.v (.int .i64 l.hi), .v (.slice none 0 0), .v (.slice none 0 0), .v (.slice none 0 0)]) hl0 (by simp only [resD, Tryz.results68, go_sem, ↓reduceIte, Z1, Z3, Z2]; try rfl) (by simp) (by simp) (by simp [outD, cvD, cv1]) (by simp [low, lowL]) ⟨_, ⟨rfl, rfl⟩, Vr _ _ _ Wu⟩⟩
   · obtain rfl := b0 h2 h3
     have F : _ ∧ _ ∧ _ ∧ _ ∧ _ := ⟨Y4 l, h2, h3, h6a, h7a⟩
     repeat' first
      | refine g0 ?_
      | fail
     all_goals exact ⟨.inr rfl, endD (ds := [.agg nilV]) (r := .agg nilV) hl0 (by simp only [resD, Tryz.results68, go_sem, ↓reduceIte, Z1, Z3, Z2]; rfl) (by simp) (by simp) (by simp [outD, cvD, cv1, nilV]) (by simp [low, lowL, nilV]) ⟨_, ⟨rfl, rfl⟩, Vr _ _ _ Wu⟩⟩
 have hpl := hpl h6
 rw [bot_67 h6, Yb3]
 have h2a : ¬ l.kind = 2 := by omega
 have h3a : ¬ l.kind = 3 := by omega
 rcases h6 with h6 | h6
 all_goals
  skip
  have F : _ ∧ _ := ⟨Y4 l, h6⟩
  repeat' first
   | refine g0 ?_
   | fail
  refine Vv 30 4 2 [.v (.int .i64 0), .v (.slice none 0 0)] [.v (.slice none 0 0)] rfl ?_
  refine Yh (fun m e h' => ∃ (k : Nat) (T : List Ob), k ≤ l.parts.length ∧ m = l.parts.length - k ∧ h' = kM (.cells (latX l)) (.cells nilV) (.cells [.v (.int .i64 0), .v (.slice none 0 0), .buf 3 k, .v (.slice none 0 0)]) (.buf 30 4 (((l.parts.take k).map botV).map vaX)) T ∧ e 1 = .ptr 0 0 ∧ e 2 = .ptr 1 0 ∧ e 3 = .ptr 2 0 ∧ e 4 = .v (.int .i64 k)) l.parts.length ⟨0, [], Zd _, rfl, by rw [Y4 l, h6]; rfl, rfl, rfl, rfl, rfl⟩ ?_
  rintro m e h' ⟨k, T, hk, rfl, rfl, e1, e2, e3, e4⟩
  by_cases hlt : k < l.parts.length
  rotate_left
  · obtain rfl : k = l.parts.length := by omega
    rw [List.take_length]
    repeat' first
     | (with_reducible first | refine sA rfl ?_ | refine sI rfl rfl ?_ | refine sT rfl ?_ | refine sB rfl ?_)
     | (with_reducible refine Yf ?_; first | refine Y9 mixd (by kernel_rfl) ?_)
     | (with_reducible refine Y7 ?_; first | refine Xi ?_ | (refine ao1 rfl rfl fun K HK => ?_; simp only [go_sem, Y4 l, e1, e2, e3, e4, nilV]; (first | refine X1 (fun hq => ?_) (fun hq => ?_) | (refine ⟨by omega, by omega, ?_⟩; intro row hrow; obtain ⟨x, hx, rfl⟩ := Vt hrow; clear hrow) | skip) <;> (refine HK _ _ ?_; clear HK K)) | (refine ao1' rfl fun K HK => ?_; simp only [go_sem, Y4 l, e1, e2, e3, e4, nilV]; refine HK _ _ ?_; clear HK K))
     | (with_reducible refine Xf ?_; first | (refine aq1 rfl rfl fun K HK => ?_; simp only [go_sem, Y4 l, e1, e2, e3, e4, nilV]; (first | refine X1 (fun hq => ?_) (fun hq => ?_) | (refine ⟨by omega, by omega, ?_⟩; intro row hrow; obtain ⟨x, hx, rfl⟩ := Vt hrow; clear hrow) | skip) <;> (refine HK _ _ rfl ?_; clear HK K)))
     | (exfalso; omega)
    exact ⟨.inr rfl, endD (ds := [.agg [.v (.int .i64 0), .v (.slice none 0 0), .buf 3 l.parts.length, .v (.slice none 0 0)]]) (r := .agg [.v (.int .i64 0), .v (.slice none 0 0), .sl 4 ((l.parts.map botV).map vaX), .v (.slice none 0 0)]) hl0 (by simp only [resD, Tryz.results68, go_sem, ↓reduceIte, Z1, Z3, Z2, e2, kM_1]; try rfl) (by simp) (by simp) (by simp [outD, cvD, cv1, kM]) (by rw [low]; simp only [lowL]; exact ⟨by simp [low], by simp [low], Jt _ _, by simp [low], trivial⟩) ⟨_, ⟨rfl, rfl⟩, Vr _ _ _ (Xa _)⟩⟩
  have hx : l.parts[k]? = some l.parts[k] := Z0 hlt
  have wk : IntKind.i64.wrap ((k : Int) + 1) = ((k + 1 : Nat) : Int) := IntWalk.i64_in _ (by omega)
  have htk : (l.parts.take (k + 1)).map botV = (l.parts.take k).map botV ++ [botV l.parts[k]] := by rw [List.take_add_one, hx, List.map_append]; rfl
  have hbp := hpp _ (Z4 hlt)
  generalize l.parts[k] = x at hx hbp htk
  have hlr : (((l.parts.take k).map botV).map vaX).length = k := by rw [Z6, Z6, List.length_take, Nat.min_eq_left hk]
  simp only [Y4 x] at hbp
  generalize botV x = bx at hbp htk
  have hro : Yr 4 [vaX bx] := fun row hr => by simp only [List.mem_singleton] at hr; subst hr; exact ⟨Wa bx, List.all_eq_true.1 (Zf9 bx)⟩
  have F : _ ∧ _ ∧ _ ∧ _ ∧ _ ∧ _ ∧ _ := ⟨Y4 x, Y4 l, e1, e2, e3, e4, wk⟩
  repeat' first
   | (with_reducible refine Yf ?_; refine Xu mixd (by kernel_rfl) ?_)
   | ((with_reducible refine Ze7 ?_); first | (refine aS_appB rfl rfl rfl rfl (by (simp only [go_sem, F]; rfl)) hlr (by simp only [go_sem, F]; rfl) (by (simp only [go_sem, F]; rfl)) (by simp) hro (by first | omega | (simp; omega)) ?_) | (refine aS1 rfl rfl fun K HK => ?_; simp only [go_sem, F]; (first | refine X1 (fun hq => ?_) (fun hq => ?_) | (refine ⟨by omega, by omega, ?_⟩; refine Yn (by assumption) ?_) | skip) <;> (refine HK _ _ rfl ?_; clear HK K)) | refine Xl rfl rfl rfl (by (simp only [go_sem, F]; rfl)) (by rw [getD_one (by simp only [go_sem, F])]; rfl) ?_ | refine Zu4 rfl rfl (by (simp only [go_sem, F]; rfl)) rfl (by simp only [go_sem, F]) (by simp) ?_ | refine Yb2 rfl rfl (by simp only [litD, V0, go_sem, Za, Zb, Option.map_some, Option.bind_some, and_self, ↓reduceIte, Z1, Z3, Z2, Nat.reduceBEq, Nat.reduceMul, Int.reduceEq, Int.reduceLT, Int.reduceLE, Y4 x, Y4 l, e1, e2, e3, e4, Z6, Z8, wk, kM_0, kM_1, kM_2, kM_3, kM_s1, kM_s2, kM_s3, Zr9, Ye8, kM_l, kM_sl, kM_l2, kM_l3, Wa, J2, List.append_assoc, Z9, Zc, List.length_append, Za, Zb]; rfl) ?_ | refine U7 (by simp only [List.reverse_cons, List.reverse_nil, Zc, Z9, Ww, chk1]; repeat' (first | exact trivial | refine And.intro ?_ ?_ | exact .inr X7 | exact .inr Xe | exact .inr Xd | exact .inr (W6 (by omega)) | (refine .inr ?_; simp [compat, Wq, Uz, J0, nop, Zr9, Wa] <;> omega) | exact .inl (by kernel_rfl))) ?_ | refine Yj rfl rfl rfl ent_68 (fun h2 => hbp _) ?_)
   | refine gg ?_
   | refine Two.mk (fun hq => ?_) fun hq => ?_
   | (exfalso; omega)
  exact ⟨rfl, l.parts.length - (k + 1), by omega, k + 1, _, hlt, rfl, (by rw [Y4 l, htk, List.map_append]; rfl), e1, e2, e3, rfl⟩
end
end Go.Proofs.YtbhkcbidcfofiaaGreat
