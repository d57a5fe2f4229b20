/-
  What the statements of the chapter share, part 19: VA4.
-/
import Derived.Test.YtbhkcbidcfofiaaGreatY14
import Derived.Test.YtbhkcbidcfofiaaGreatY18
set_option linter.unusedVariables false
set_option linter.unusedSimpArgs false
set_option maxRecDepth 100000
set_option maxHeartbeats 8000000
namespace Go.Proofs.YtbhkcbidcfofiaaGreat
open _root_.Bool renaming false_and → Z0, true_and → Z2
open _root_.List renaming getElem?_eq_getElem → Z1, length_take → Z3, drop_eq_nil_of_le → Z4, getElem_mem → Z5, drop_eq_getElem_cons → Z6
open Go.RowKit
section
attribute [local irreducible] on aOp
attribute [local go_sem] decide_true decide_false Bool.not_true Bool.not_false
attribute [local simp] byD_len
theorem reg_go {list : List En} {k : Nat} {e : En} (h : list[k]? = some e) : Zy9 list k (list.drop k) = (Zk8 list k e && Zy9 list (k + 1) (list.drop (k + 1))) := by
 obtain ⟨hk, rfl⟩ := List.getElem?_eq_some_iff.1 h
 exact regGo_step list k hk
def befB (list : List En) (k : Nat) (e : En) : Bool := match list[k - 1]? with
 | some p => decide (k = 0 ∨ entC p e < 0)
 | none => true
theorem entryB_and (list : List En) (k : Nat) (e : En) : Zk8 list k e = (decide (e.clock.length ≠ 0) && (X2 e.clock && (Wm e.name && (befB list k e && (list.take k).all (pairB e))))) := by
 unfold Zk8 befB
 have : (list.take k).all (pairB e) = (list.take k).all fun f => !(Xx e.clock f.clock == 1 || Xx e.clock f.clock == 2) := rfl
 rw [this]
 simp only [Bool.and_assoc]
 rfl
theorem bef_0 (list : List En) (e : En) : befB list 0 e = true := by
 unfold befB
 cases list[0 - 1]? <;> simp
theorem bef_s {list : List En} {j : Nat} {p : En} (e : En) (h : list[j]? = some p) : befB list (j + 1) e = decide (entC p e < 0) := by
 unfold befB
 rw [Nat.add_sub_cancel, h]
 simp
theorem pairB_eq (e f : En) : pairB e f = !(decide (Xx e.clock f.clock = 1) || decide (Xx e.clock f.clock = 2)) := rfl
def rM (T : List Ob) (x : Ob) (U : List Ob) : List Ob := T ++ x :: U
section
variable {x y y' : Ob} {T U l : List Ob}
theorem rM_app : rM T x U ++ l = rM T x (U ++ l) := by simp [rM]
theorem rM_len : (rM T x U).length = T.length + (U.length + 1) := by simp [rM]
theorem rM_x : (rM T x U)[T.length]? = some x := by simp [rM]
theorem rM_l : (rM T x (U ++ [y]))[T.length + (U.length + 1)]? = some y := by simp [rM]
theorem rM_sl : (rM T x (U ++ [y])).set (T.length + (U.length + 1)) y' = rM T x (U ++ [y']) := by
 unfold rM; rw [List.set_append_right _ _ (by omega)]; simp
theorem rM_is : rM T x U = tM (T ++ x :: U) := rfl
end
variable (G : Nat → D) (hG : ∀ g, low 0 (G g))
include hG
attribute [local go_sem] Bool.false_eq_true Int.reduceEq Int.reduceLE Int.reduceLT Int.toNat_natCast List.length_map Z3 Nat.reduceAdd Nat.reduceBEq Nat.reduceEqDiff Nat.reduceLeDiff Nat.reduceMul X1 rM_app rM_l rM_len rM_sl rM_x tM_app tM_l tM_len tM_sl
attribute [local go_sem ↓] reduceIte
theorem register_d (list : List En) (hl : list.length ≤ 9223372036854775807) (hs : ∀ e ∈ list, e.clock.length ≤ 9223372036854775807 ∧ e.name.size ≤ 9223372036854775807) (h : List Ob) : Does Tryz.prog G 160 h [.sl 2 (list.map enX)] (fun h' r => h' = h ∧ r = .v (.bool (regB list))) := by
 refine Y9 G hG (by simp only [lowL]; exact ⟨low_ens2 _ list, trivial⟩) (by rw [low]; trivial) ?_ h
 clear h
 unfold regB
 refine Y6 Tryz.func160 rfl (Nat.le_of_ble_eq_true rfl) hG fun hl0 _ => ?_
 simp only [Tryz.ntmps160]
 repeat' first
  | refine g0 ?_
  | fail
 refine Yh (fun m e h' => ∃ (k : Nat) (T : List Ob), k ≤ list.length ∧ m = list.length - k ∧ Zy9 list 0 list = Zy9 list k (list.drop k) ∧ h' = tM T ∧ e 0 = .sl 2 (list.map enX) ∧ e 8 = .sl 2 (list.map enX) ∧ e 9 = .v (.int .i64 list.length) ∧ e 10 = .v (.int .i64 k)) list.length ⟨0, [], Nat.zero_le _, rfl, rfl, rfl, rfl, rfl, rfl, rfl⟩ ?_
 rintro m e h' ⟨k, T, hk, rfl, hh, rfl, e0, e8, e9, e10⟩
 by_cases hlt : k < list.length
 rotate_left
 · rw [Z4 (by omega)] at hh
   rw [hh]
   have F : _ ∧ _ ∧ _ ∧ _ := ⟨e0, e8, e9, e10⟩
   repeat' first
    | refine gg ?_
    | refine Two.mk (fun hq => ?_) fun hq => ?_
    | refine Evry.mk fun x hx => ?_
    | (exfalso; omega)
   exact ⟨.inr rfl, endV hl0 rfl rfl ⟨rfl, rfl⟩⟩
 have hx : list[k]? = some list[k] := Z1 hlt
 have wk : IntKind.i64.wrap ((k : Int) + 1) = ((k + 1 : Nat) : Int) := IntWalk.i64_in _ (by omega)
 obtain ⟨hxc, hxn⟩ := hs _ (Z5 hlt)
 generalize list[k] = x at hx hxc hxn
 rw [reg_go hx, entryB_and] at hh
 have hcv := Ul G hG x.clock hxc
 have hnv := Zm1 G hG x.name hxn
 by_cases hz : x.clock.length = 0
 · rw [decide_eq_false (by omega), Z0, Z0] at hh
   rw [hh]
   have F : _ ∧ _ ∧ _ ∧ _ ∧ _ ∧ _ := ⟨e0, e8, e9, e10, hz, wk⟩
   repeat' first
    | (with_reducible refine Yc ?_; refine Y8 mixd (by kernel_rfl) ?_)
    | refine gg ?_
    | refine Two.mk (fun hq => ?_) fun hq => ?_
    | (exfalso; omega)
   all_goals first | (exfalso; omega) | exact ⟨.inr rfl, endV hl0 rfl rfl ⟨rfl, rfl⟩⟩
 rw [decide_eq_true (by omega), Z2] at hh
 have hzi : ¬ (x.clock.length : Int) = 0 := by omega
 cases hcb : X2 x.clock <;> rw [hcb] at hcv hh
 · rw [Z0, Z0] at hh
   rw [hh]
   have F : _ ∧ _ ∧ _ ∧ _ ∧ _ ∧ _ := ⟨e0, e8, e9, e10, hzi, wk⟩
   repeat' first
    | (with_reducible refine Yc ?_; refine Y8 mixd (by kernel_rfl) ?_)
    | refine gg ?_
    | refine Two.mk (fun hq => ?_) fun hq => ?_
    | (with_reducible refine X6 ?_; refine aq2 rfl rfl rfl Uq (hcv _) ?_)
    | (exfalso; omega)
   all_goals first | (exfalso; omega) | exact ⟨.inr rfl, endV hl0 rfl rfl ⟨rfl, rfl⟩⟩
 rw [Z2] at hh
 cases hnb : Wm x.name <;> rw [hnb] at hnv hh
 · rw [Z0, Z0] at hh
   rw [hh]
   have F : _ ∧ _ ∧ _ ∧ _ ∧ _ ∧ _ := ⟨e0, e8, e9, e10, hzi, wk⟩
   repeat' first
    | (with_reducible refine Yc ?_; refine Y8 mixd (by kernel_rfl) ?_)
    | refine gg ?_
    | refine Two.mk (fun hq => ?_) fun hq => ?_
    | (with_reducible refine X6 ?_; first | refine aq2 rfl rfl rfl Uq (hcv _) ?_ | refine aq2 rfl rfl rfl Ur (hnv _) ?_)
    | (exfalso; omega)
   all_goals first | (exfalso; omega) | exact ⟨.inr rfl, endV hl0 rfl rfl ⟨rfl, rfl⟩⟩
 rw [Z2] at hh
 have hbef : (k = 0 ∧ befB list k x = true) ∨ ∃ j p, k = j + 1 ∧ list[j]? = some p ∧ befB list k x = decide (entC p x < 0) ∧ p ∈ list := by
  rcases Nat.eq_zero_or_pos k with h0 | h0
  · subst h0; exact .inl ⟨rfl, bef_0 _ _⟩
  · obtain ⟨j, rfl⟩ : ∃ j, k = j + 1 := ⟨k - 1, by omega⟩
    have hj : list[j]? = some list[j] := Z1 (by omega)
    exact .inr ⟨j, _, rfl, hj, bef_s x hj, Z5 _⟩
 rcases hbef with ⟨rfl, hb1⟩ | ⟨j, p, rfl, hp, hb1, hpm⟩
 rotate_left
 · have wm : IntKind.i64.wrap (((j + 1 : Nat) : Int) - 1) = (j : Int) := by rw [show ((j + 1 : Nat) : Int) - 1 = (j : Int) by omega]; exact IntWalk.i64_in _ (by omega)
   have gp : decide ((0 : Int) < ((j + 1 : Nat) : Int)) = true := decide_eq_true (by omega)
   have hce := cmpEnts_d G hG p x (hs p hpm).1 hxc
   generalize entC p x = ec at hce hb1
   simp only [X1] at hce
   by_cases hec : ec < 0
   · have hec2 : ¬ 0 ≤ ec := by omega
     rw [decide_eq_true hec] at hb1
     rw [hb1, Z2] at hh
     have F : _ ∧ _ ∧ _ ∧ _ ∧ _ ∧ _ ∧ _ ∧ _ ∧ _ := ⟨e0, e8, e9, e10, hzi, wk, wm, gp, hec2⟩
     repeat' first
      | (with_reducible refine Yc ?_; refine Y8 mixd (by kernel_rfl) ?_)
      | refine gg ?_
      | refine Two.mk (fun hq => ?_) fun hq => ?_
      | (with_reducible refine X6 ?_; first | refine aq2 rfl rfl rfl Uq (hcv _) ?_ | refine aq2 rfl rfl rfl Ur (hnv _) ?_ | refine aq2 rfl rfl rfl ent_93 (hce _) ?_)
      | (exfalso; omega)
     all_goals try (exfalso; omega)
     refine Yh (fun m e h' => ∃ (i : Nat) (T U : List Ob), i ≤ j + 1 ∧ m = j + 1 - i ∧ (list.take (j + 1)).all (pairB x) = ((list.take (j + 1)).drop i).all (pairB x) ∧ h' = rM T (.cells (enX x)) U ∧ e 0 = .sl 2 (list.map enX) ∧ e 4 = .ptr T.length 0 ∧ e 8 = .sl 2 (list.map enX) ∧ e 9 = .v (.int .i64 list.length) ∧ e 10 = .v (.int .i64 (j + 1 : Nat)) ∧ e 47 = .sl 2 ((list.take (j + 1)).map enX) ∧ e 48 = .v (.int .i64 (j + 1 : Nat)) ∧ e 49 = .v (.int .i64 i)) (j + 1) ⟨0, _, [], Nat.zero_le _, rfl, rfl, rfl, e0, rfl, e8, e9, e10, (by show D.sl 2 _ = _; first | rfl | simp [List.map_take]), (by show D.v (.int .i64 _) = _; first | rfl | simp [Nat.min_eq_left hk] | (simp; omega)), rfl⟩ ?_
     clear e0 e8 e9 e10
     rintro m e h' ⟨i, T, U, hi, rfl, hhi, rfl, e0, e4, e8, e9, e10, e47, e48, e49⟩
     by_cases hil : i < j + 1
     rotate_left
     · rw [Z4 (by rw [Z3]; omega)] at hhi
       rw [hhi] at hh
       have wj := wk
       have F : _ ∧ _ ∧ _ ∧ _ ∧ _ ∧ _ ∧ _ ∧ _ ∧ _ ∧ _ := ⟨e0, e4, e8, e9, e10, e47, e48, e49, wk, wj⟩
       repeat' first
        | refine gg ?_
        | refine Two.mk (fun hq => ?_) fun hq => ?_
        | refine Evry.mk fun x hx => ?_
        | (exfalso; omega)
       exact ⟨rfl, list.length - (j + 1 + 1), by omega, j + 1 + 1, _, hlt, rfl, hh, rM_is, e0, e8, e9, rfl⟩
     have hlt2 : i < (list.take (j + 1)).length := by rw [Z3]; omega
     have hy : (list.take (j + 1))[i]? = some (list.take (j + 1))[i] := Z1 hlt2
     have hyl : ((list.take (j + 1))[i]).clock.length ≤ 9223372036854775807 := (hs _ (List.mem_of_mem_take (Z5 hlt2))).1
     have wj : IntKind.i64.wrap ((i : Int) + 1) = ((i + 1 : Nat) : Int) := IntWalk.i64_in _ (by omega)
     rw [Z6 hlt2, List.all_cons] at hhi
     generalize (list.take (j + 1))[i] = y at hy hhi hyl
     have hcc := Zj5 G hG x.clock y.clock hxc hyl
     rw [pairB_eq] at hhi
     generalize Xx x.clock y.clock = cc at hcc hhi
     by_cases hbad : cc = 1 ∨ cc = 2
     · have e2 : (!(decide (cc = 1) || decide (cc = 2))) = false := by rcases hbad with rfl | rfl <;> rfl
       rw [e2, Z0] at hhi
       rw [hhi, Z0] at hh
       rw [hh]
       have F : _ ∧ _ ∧ _ ∧ _ ∧ _ ∧ _ ∧ _ ∧ _ ∧ _ ∧ _ := ⟨e0, e4, e8, e9, e10, e47, e48, e49, wk, wj⟩
       repeat' first
        | refine gg ?_
        | refine Two.mk (fun hq => ?_) fun hq => ?_
        | (with_reducible refine Y7 ?_; refine gc rfl rfl rfl Yp3 (hcc _) ?_)
        | (exfalso; omega)
       all_goals first | (exfalso; omega) | exact ⟨.inr rfl, endV hl0 rfl rfl ⟨rfl, rfl⟩⟩
     · have e2 : (!(decide (cc = 1) || decide (cc = 2))) = true := by rw [decide_eq_false (by omega), decide_eq_false (by omega)]; rfl
       rw [e2, Z2] at hhi
       have F : _ ∧ _ ∧ _ ∧ _ ∧ _ ∧ _ ∧ _ ∧ _ ∧ _ ∧ _ := ⟨e0, e4, e8, e9, e10, e47, e48, e49, wk, wj⟩
       repeat' first
        | refine gg ?_
        | refine Two.mk (fun hq => ?_) fun hq => ?_
        | (with_reducible refine Y7 ?_; refine gc rfl rfl rfl Yp3 (hcc _) ?_)
        | (exfalso; omega)
       all_goals first | (exfalso; omega) | exact ⟨rfl, j + 1 - (i + 1), by omega, i + 1, _, _, hil, rfl, hhi, rfl, e0, e4, e8, e9, e10, e47, e48, rfl⟩
   · have hec2 : 0 ≤ ec := by omega
     rw [decide_eq_false hec] at hb1
     rw [hb1, Z0, Z0] at hh
     rw [hh]
     have F : _ ∧ _ ∧ _ ∧ _ ∧ _ ∧ _ ∧ _ ∧ _ ∧ _ := ⟨e0, e8, e9, e10, hzi, wk, wm, gp, hec2⟩
     repeat' first
      | (with_reducible refine Yc ?_; refine Y8 mixd (by kernel_rfl) ?_)
      | refine gg ?_
      | refine Two.mk (fun hq => ?_) fun hq => ?_
      | (with_reducible refine X6 ?_; first | refine aq2 rfl rfl rfl Uq (hcv _) ?_ | refine aq2 rfl rfl rfl Ur (hnv _) ?_ | refine aq2 rfl rfl rfl ent_93 (hce _) ?_)
      | (exfalso; omega)
     all_goals first | (exfalso; omega) | exact ⟨.inr rfl, endV hl0 rfl rfl ⟨rfl, rfl⟩⟩
 rw [hb1, Z2] at hh
 have F : _ ∧ _ ∧ _ ∧ _ ∧ _ ∧ _ := ⟨e0, e8, e9, e10, hzi, wk⟩
 repeat' first
  | (with_reducible refine Yc ?_; refine Y8 mixd (by kernel_rfl) ?_)
  | refine gg ?_
  | refine Two.mk (fun hq => ?_) fun hq => ?_
  | refine Evry.mk fun x hx => ?_
  | (with_reducible refine X6 ?_; first | refine aq2 rfl rfl rfl Uq (hcv _) ?_ | refine aq2 rfl rfl rfl Ur (hnv _) ?_)
  | (exfalso; omega)
 all_goals try (exfalso; omega)
 refine Yh (fun m e h' => ∃ (i : Nat) (T U : List Ob), i ≤ 0 ∧ m = 0 - i ∧ (list.take (0)).all (pairB x) = ((list.take (0)).drop i).all (pairB x) ∧ h' = rM T (.cells (enX x)) U ∧ e 0 = .sl 2 (list.map enX) ∧ e 4 = .ptr T.length 0 ∧ e 8 = .sl 2 (list.map enX) ∧ e 9 = .v (.int .i64 list.length) ∧ e 10 = .v (.int .i64 (0 : Nat)) ∧ e 47 = .sl 2 ((list.take (0)).map enX) ∧ e 48 = .v (.int .i64 (0 : Nat)) ∧ e 49 = .v (.int .i64 i)) (0) ⟨0, _, [], Nat.zero_le _, rfl, rfl, rfl, e0, rfl, e8, e9, e10, (by show D.sl 2 _ = _; first | rfl | simp [List.map_take]), (by show D.v (.int .i64 _) = _; first | rfl | simp [Nat.min_eq_left hk] | (simp; omega)), rfl⟩ ?_
 clear e0 e8 e9 e10
 rintro m e h' ⟨i, T, U, hi, rfl, hhi, rfl, e0, e4, e8, e9, e10, e47, e48, e49⟩
 by_cases hil : i < 0
 rotate_left
 · rw [Z4 (by rw [Z3]; omega)] at hhi
   rw [hhi] at hh
   have wj := wk
   have F : _ ∧ _ ∧ _ ∧ _ ∧ _ ∧ _ ∧ _ ∧ _ ∧ _ ∧ _ := ⟨e0, e4, e8, e9, e10, e47, e48, e49, wk, wj⟩
   repeat' first
    | (with_reducible refine Y7 ?_; (refine ao1 rfl rfl fun K HK => ?_; simp only [go_sem, F]; (first | refine Ym (fun hq => ?_) (fun hq => ?_) | (refine ⟨by omega, by omega, ?_⟩; intro row hrow) | skip) <;> (refine HK _ _ ?_; clear HK K)))
    | refine gg ?_
    | (exfalso; omega)
   exact ⟨rfl, list.length - (0 + 1), by omega, 0 + 1, _, hlt, rfl, hh, rM_is, e0, e8, e9, rfl⟩
 have hlt2 : i < (list.take (0)).length := by rw [Z3]; omega
 have hy : (list.take (0))[i]? = some (list.take (0))[i] := Z1 hlt2
 have hyl : ((list.take (0))[i]).clock.length ≤ 9223372036854775807 := (hs _ (List.mem_of_mem_take (Z5 hlt2))).1
 have wj : IntKind.i64.wrap ((i : Int) + 1) = ((i + 1 : Nat) : Int) := IntWalk.i64_in _ (by omega)
 rw [Z6 hlt2, List.all_cons] at hhi
 generalize (list.take (0))[i] = y at hy hhi hyl
 have hcc := Zj5 G hG x.clock y.clock hxc hyl
 rw [pairB_eq] at hhi
 generalize Xx x.clock y.clock = cc at hcc hhi
 by_cases hbad : cc = 1 ∨ cc = 2
 · have e2 : (!(decide (cc = 1) || decide (cc = 2))) = false := by rcases hbad with rfl | rfl <;> rfl
   rw [e2, Z0] at hhi
   rw [hhi, Z0] at hh
   rw [hh]
   have F : _ ∧ _ ∧ _ ∧ _ ∧ _ ∧ _ ∧ _ ∧ _ ∧ _ ∧ _ := ⟨e0, e4, e8, e9, e10, e47, e48, e49, wk, wj⟩
   repeat' first
    | (with_reducible refine Y7 ?_; (refine ao1 rfl rfl fun K HK => ?_; simp only [go_sem, F]; (first | refine Ym (fun hq => ?_) (fun hq => ?_) | (refine ⟨by omega, by omega, ?_⟩; intro row hrow) | skip) <;> (refine HK _ _ ?_; clear HK K)))
    | refine gg ?_
    | (exfalso; omega)
   all_goals first | (exfalso; omega) | exact ⟨.inr rfl, endV hl0 rfl rfl ⟨rfl, rfl⟩⟩
 · have e2 : (!(decide (cc = 1) || decide (cc = 2))) = true := by rw [decide_eq_false (by omega), decide_eq_false (by omega)]; rfl
   rw [e2, Z2] at hhi
   have F : _ ∧ _ ∧ _ ∧ _ ∧ _ ∧ _ ∧ _ ∧ _ ∧ _ ∧ _ := ⟨e0, e4, e8, e9, e10, e47, e48, e49, wk, wj⟩
   repeat' first
    | (with_reducible refine Y7 ?_; (refine ao1 rfl rfl fun K HK => ?_; simp only [go_sem, F]; (first | refine Ym (fun hq => ?_) (fun hq => ?_) | (refine ⟨by omega, by omega, ?_⟩; intro row hrow) | skip) <;> (refine HK _ _ ?_; clear HK K)))
    | refine gg ?_
    | (exfalso; omega)
   all_goals first | (exfalso; omega) | exact ⟨rfl, 0 - (i + 1), by omega, i + 1, _, _, hil, rfl, hhi, rfl, e0, e4, e8, e9, e10, e47, e48, rfl⟩
end
end Go.Proofs.YtbhkcbidcfofiaaGreat
