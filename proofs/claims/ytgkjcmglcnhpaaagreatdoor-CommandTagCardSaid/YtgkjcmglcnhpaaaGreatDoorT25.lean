/-
  What the statements of the chapter share, part 25: VA4, WK, VA5, RR6, VA7, VA8.
-/
import Derived.Test.YtgkjcmglcnhpaaaGreatDoorT12
import Derived.Test.YtgkjcmglcnhpaaaGreatDoorT14
import Derived.Test.YtgkjcmglcnhpaaaGreatDoorT21
import Derived.Test.YtgkjcmglcnhpaaaGreatDoorT23
import Derived.Test.YtgkjcmglcnhpaaaGreatDoorT24
set_option linter.unusedVariables false
set_option linter.unusedSimpArgs false
set_option maxRecDepth 100000
set_option maxHeartbeats 8000000
namespace Go.Proofs.YtgkjcmglcnhpaaaGreatDoor
open _root_.Bool renaming false_eq_true → Z5, false_and → Zj, true_and → Zl, not_false → Zn, not_true → Zp
open _root_.Int renaming reduceEq → Z6, reduceLT → Z7, reduceLE → Z8, toNat_natCast → Za
open _root_.List renaming length_map → Z9, length_append → Zb, cons_append → Zc, length_cons → Zd, append_assoc → Ze, nil_append → Zf, length_nil → Zg, length_take → Zh, getElem?_eq_getElem → Zk, getElem_mem → Zm, drop_eq_nil_of_le → Zo, mem_singleton → Zs, getElem?_eq_some_iff → Zt, drop_eq_getElem_cons → Zu, map_append → Zw
open _root_.Nat renaming reduceEqDiff → Z0, reduceLeDiff → Z1, reduceAdd → Z2, reduceBEq → Z3, reduceMul → Z4, le_of_ble_eq_true → Zi, zero_le → Zq, min_eq_left → Zv
open _root_.Go.Proofs.Tryz renaming prog → Zr
open Go.RowKit
section
attribute [local irreducible] on aOp
attribute [local go_sem] decide_true decide_false Zp Zn
attribute [local simp] byD_len
theorem reg_go {list : List En} {k : Nat} {e : En} (h : list[k]? = some e) : Yl0 list k (list.drop k) = (entryB list k e && Yl0 list (k + 1) (list.drop (k + 1))) := by
 obtain ⟨hk, rfl⟩ := Zt.1 h
 exact regGo_step list k hk
def befB (list : List En) (k : Nat) (e : En) : Bool := match list[k - 1]? with
 | some p => decide (k = 0 ∨ entC p e < 0)
 | none => true
theorem entryB_and (list : List En) (k : Nat) (e : En) : entryB list k e = (decide (e.clock.length ≠ 0) && (Zc8 e.clock && (Js e.name && (befB list k e && (list.take k).all (pairB e))))) := by
 unfold entryB befB
 have : (list.take k).all (pairB e) = (list.take k).all fun f => !(Zh4 e.clock f.clock == 1 || Zh4 e.clock f.clock == 2) := rfl
 rw [this]
 simp only [Bool.and_assoc]
 rfl
theorem bef_0 (list : List En) (e : En) : befB list 0 e = true := by
 unfold befB
 cases list[0 - 1]? <;> simp
theorem bef_s {list : List En} {j : Nat} {p : En} (e : En) (h : list[j]? = some p) : befB list (j + 1) e = decide (entC p e < 0) := by
 unfold befB
 rw [Nat.add_sub_cancel, h]
 simp
theorem pairB_eq (e f : En) : pairB e f = !(decide (Zh4 e.clock f.clock = 1) || decide (Zh4 e.clock f.clock = 2)) := rfl
def rM (T : List Ob) (x : Ob) (U : List Ob) : List Ob := T ++ x :: U
section
variable {x y y' : Ob} {T U l : List Ob}
theorem Zo3 : rM T x U ++ l = rM T x (U ++ l) := by simp [rM]
theorem Zo2 : (rM T x U).length = T.length + (U.length + 1) := by simp [rM]
theorem rM_x : (rM T x U)[T.length]? = some x := by simp [rM]
theorem rM_l : (rM T x (U ++ [y]))[T.length + (U.length + 1)]? = some y := by simp [rM]
theorem Ym3 : (rM T x (U ++ [y])).set (T.length + (U.length + 1)) y' = rM T x (U ++ [y']) := by
 unfold rM; rw [List.set_append_right _ _ (by omega)]; simp
theorem rM_is : rM T x U = tM (T ++ x :: U) := rfl
end
variable (G : Nat → D) (hG : ∀ g, low 0 (G g))
include hG
theorem register_d (list : List En) (hl : list.length ≤ 9223372036854775807) (hs : ∀ e ∈ list, e.clock.length ≤ 9223372036854775807 ∧ e.name.size ≤ 9223372036854775807) (h : List Ob) : Does Zr G 139 h [.sl 2 (list.map enX)] (fun h' r => h' = h ∧ r = .v (.bool (regB list))) := by
 refine Yh G hG (by simp only [lowL]; exact ⟨low_ens2 _ list, trivial⟩) (by rw [low]; trivial) ?_ h
 clear h
 unfold regB
 refine Y7 Tryz.func139 rfl (Zi rfl) hG fun hl0 _ => ?_
 simp only [Tryz.ntmps139]
 repeat' first
  | (with_reducible first | refine sA rfl ?_ | refine sT rfl ?_)
  | (with_reducible refine Y9 ?_; first | refine Y5 ?_ | (refine ao1 rfl rfl fun K HK => ?_; simp only [go_sem, ↓reduceIte, Z0, Z2, Z1, Z3, Z4, Z6, Z7, Z8, Z9] <;> (refine HK _ _ ?_; clear HK K)))
 refine Yp (fun m e h' => ∃ (k : Nat) (T : List Ob), k ≤ list.length ∧ m = list.length - k ∧ Yl0 list 0 list = Yl0 list k (list.drop k) ∧ h' = tM T ∧ e 0 = .sl 2 (list.map enX) ∧ e 8 = .sl 2 (list.map enX) ∧ e 9 = .v (.int .i64 list.length) ∧ e 10 = .v (.int .i64 k)) list.length ⟨0, [], Zq _, rfl, rfl, rfl, rfl, rfl, rfl, rfl⟩ ?_
 rintro m e h' ⟨k, T, hk, rfl, hh, rfl, e0, e8, e9, e10⟩
 by_cases hlt : k < list.length
 rotate_left
 · rw [Zo (by omega)] at hh
   rw [hh]
   repeat' first
    | (with_reducible first | refine sA rfl ?_ | refine sI rfl rfl ?_ | refine sT rfl ?_ | refine sB rfl ?_)
    | (with_reducible refine Y9 ?_; first | refine Y5 ?_ | (refine ao1 rfl rfl fun K HK => ?_; simp only [go_sem, ↓reduceIte, Z0, Z2, Z1, Z3, Z4, Z6, Z7, Z8, e0, e8, e9, e10, Z9]; (first | refine Y8 (fun hq => ?_) (fun hq => ?_) | (refine ⟨by omega, by omega, ?_⟩; intro row hrow; obtain ⟨x, hx, rfl⟩ := Ym hrow; clear hrow) | skip) <;> (refine HK _ _ ?_; clear HK K)))
    | (exfalso; omega)
   exact ⟨.inr rfl, endV hl0 rfl rfl ⟨rfl, rfl⟩⟩
 have hx : list[k]? = some list[k] := Zk hlt
 have wk : IntKind.i64.wrap ((k : Int) + 1) = ((k + 1 : Nat) : Int) := IntWalk.i64_in _ (by omega)
 obtain ⟨hxc, hxn⟩ := hs _ (Zm hlt)
 generalize list[k] = x at hx hxc hxn
 rw [reg_go hx, entryB_and] at hh
 have hcv := J8 G hG x.clock hxc
 have hnv := Zg0 G hG x.name hxn
 by_cases hz : x.clock.length = 0
 · rw [decide_eq_false (by omega), Zj, Zj] at hh
   rw [hh]
   repeat' first
    | (with_reducible first | refine sA rfl ?_ | refine sI rfl rfl ?_ | refine sT rfl ?_ | refine sB rfl ?_)
    | (with_reducible refine W2 ?_; first | refine Yf mixd (by kernel_rfl) ?_)
    | (with_reducible refine Y9 ?_; first | refine Y5 ?_ | (refine ao1 rfl rfl fun K HK => ?_; (first | refine Y6 rfl ?_ | skip); simp only [go_sem, ↓reduceIte, Z0, Z2, Z1, Z3, Z4, Z6, Z7, Z8, e0, e8, e9, e10, Z9, X9, hz, Za, wk, Yr, Ys, tM_l, Xo, Z5]; (first | refine Y8 (fun hq => ?_) (fun hq => ?_) | (refine ⟨by omega, by omega, ?_⟩; refine Ya (by assumption) ?_) | skip) <;> (refine HK _ _ ?_; clear HK K)) | (refine ao1' rfl fun K HK => ?_; simp only [go_sem, ↓reduceIte, Z0, Z2, Z1, Z3, Z4, Z6, Z7, Z8, e0, e8, e9, e10, Z9, X9, hz, Za, wk, Yr, Ys, tM_l, Xo, Z5]; refine HK _ _ ?_; clear HK K))
    | (with_reducible refine Vn ?_; first | (refine aq1 rfl rfl fun K HK => ?_; (first | refine Y6 rfl ?_ | skip); simp only [go_sem, ↓reduceIte, Z0, Z2, Z1, Z3, Z4, Z6, Z7, Z8, e0, e8, e9, e10, Z9, X9, hz, Za, wk, Yr, Ys, tM_l, Xo, Z5]; (first | refine Y8 (fun hq => ?_) (fun hq => ?_) | (refine ⟨by omega, by omega, ?_⟩; refine Ya (by assumption) ?_) | skip) <;> (refine HK _ _ rfl ?_; clear HK K)) | refine aq0 rfl rfl ?_ | refine Yv ?_)
    | (exfalso; omega)
   all_goals first | (exfalso; omega) | exact ⟨.inr rfl, endV hl0 rfl rfl ⟨rfl, rfl⟩⟩
 rw [decide_eq_true (by omega), Zl] at hh
 have hzi : ¬ (x.clock.length : Int) = 0 := by omega
 cases hcb : Zc8 x.clock <;> rw [hcb] at hcv hh
 · rw [Zj, Zj] at hh
   rw [hh]
   repeat' first
    | (with_reducible first | refine sA rfl ?_ | refine sI rfl rfl ?_ | refine sT rfl ?_ | refine sB rfl ?_)
    | (with_reducible refine W2 ?_; first | refine Yf mixd (by kernel_rfl) ?_)
    | (with_reducible refine Y9 ?_; first | refine Y5 ?_ | (refine ao1 rfl rfl fun K HK => ?_; (first | refine Y6 rfl ?_ | skip); simp only [go_sem, ↓reduceIte, Z0, Z2, Z1, Z3, Z4, Z6, Z7, Z8, e0, e8, e9, e10, Z9, X9, hzi, Za, wk, Yr, Ys, tM_l, Xo, Z5]; (first | refine Y8 (fun hq => ?_) (fun hq => ?_) | (refine ⟨by omega, by omega, ?_⟩; refine Ya (by assumption) ?_) | skip) <;> (refine HK _ _ ?_; clear HK K)) | (refine ao1' rfl fun K HK => ?_; simp only [go_sem, ↓reduceIte, Z0, Z2, Z1, Z3, Z4, Z6, Z7, Z8, e0, e8, e9, e10, Z9, X9, hzi, Za, wk, Yr, Ys, tM_l, Xo, Z5]; refine HK _ _ ?_; clear HK K))
    | (with_reducible refine Vn ?_; first | (refine aq1 rfl rfl fun K HK => ?_; (first | refine Y6 rfl ?_ | skip); simp only [go_sem, ↓reduceIte, Z0, Z2, Z1, Z3, Z4, Z6, Z7, Z8, e0, e8, e9, e10, Z9, X9, hzi, Za, wk, Yr, Ys, tM_l, Xo, Z5]; (first | refine Y8 (fun hq => ?_) (fun hq => ?_) | (refine ⟨by omega, by omega, ?_⟩; refine Ya (by assumption) ?_) | skip) <;> (refine HK _ _ rfl ?_; clear HK K)) | refine aq0 rfl rfl ?_ | refine Yv ?_ | refine aq2 rfl rfl rfl Jl (hcv _) ?_)
    | (exfalso; omega)
   all_goals first | (exfalso; omega) | exact ⟨.inr rfl, endV hl0 rfl rfl ⟨rfl, rfl⟩⟩
 rw [Zl] at hh
 cases hnb : Js x.name <;> rw [hnb] at hnv hh
 · rw [Zj, Zj] at hh
   rw [hh]
   repeat' first
    | (with_reducible first | refine sA rfl ?_ | refine sI rfl rfl ?_ | refine sT rfl ?_ | refine sB rfl ?_)
    | (with_reducible refine W2 ?_; first | refine Yf mixd (by kernel_rfl) ?_)
    | (with_reducible refine Y9 ?_; first | refine Y5 ?_ | (refine ao1 rfl rfl fun K HK => ?_; (first | refine Y6 rfl ?_ | skip); simp only [go_sem, ↓reduceIte, Z0, Z2, Z1, Z3, Z4, Z6, Z7, Z8, e0, e8, e9, e10, Z9, X9, hzi, Za, wk, Yr, Ys, tM_l, Xo, Z5]; (first | refine Y8 (fun hq => ?_) (fun hq => ?_) | (refine ⟨by omega, by omega, ?_⟩; refine Ya (by assumption) ?_) | skip) <;> (refine HK _ _ ?_; clear HK K)) | (refine ao1' rfl fun K HK => ?_; simp only [go_sem, ↓reduceIte, Z0, Z2, Z1, Z3, Z4, Z6, Z7, Z8, e0, e8, e9, e10, Z9, X9, hzi, Za, wk, Yr, Ys, tM_l, Xo, Z5]; refine HK _ _ ?_; clear HK K))
    | (with_reducible refine Vn ?_; first | (refine aq1 rfl rfl fun K HK => ?_; (first | refine Y6 rfl ?_ | skip); simp only [go_sem, ↓reduceIte, Z0, Z2, Z1, Z3, Z4, Z6, Z7, Z8, e0, e8, e9, e10, Z9, X9, hzi, Za, wk, Yr, Ys, tM_l, Xo, Z5]; (first | refine Y8 (fun hq => ?_) (fun hq => ?_) | (refine ⟨by omega, by omega, ?_⟩; refine Ya (by assumption) ?_) | skip) <;> (refine HK _ _ rfl ?_; clear HK K)) | refine aq0 rfl rfl ?_ | refine Yv ?_ | refine aq2 rfl rfl rfl Jl (hcv _) ?_ | refine aq2 rfl rfl rfl J7 (hnv _) ?_)
    | (exfalso; omega)
   all_goals first | (exfalso; omega) | exact ⟨.inr rfl, endV hl0 rfl rfl ⟨rfl, rfl⟩⟩
 rw [Zl] at hh
 have hbef : (k = 0 ∧ befB list k x = true) ∨ ∃ j p, k = j + 1 ∧ list[j]? = some p ∧ befB list k x = decide (entC p x < 0) ∧ p ∈ list := by
  rcases Nat.eq_zero_or_pos k with h0 | h0
  · subst h0; exact .inl ⟨rfl, bef_0 _ _⟩
  · obtain ⟨j, rfl⟩ : ∃ j, k = j + 1 := ⟨k - 1, by omega⟩
    have hj : list[j]? = some list[j] := Zk (by omega)
    exact .inr ⟨j, _, rfl, hj, bef_s x hj, Zm _⟩
 rcases hbef with ⟨rfl, hb1⟩ | ⟨j, p, rfl, hp, hb1, hpm⟩
 rotate_left
 · have wm : IntKind.i64.wrap (((j + 1 : Nat) : Int) - 1) = (j : Int) := by rw [show ((j + 1 : Nat) : Int) - 1 = (j : Int) by omega]; exact IntWalk.i64_in _ (by omega)
   have gp : decide ((0 : Int) < ((j + 1 : Nat) : Int)) = true := decide_eq_true (by omega)
   have hce := cmpEnts_d G hG p x (hs p hpm).1 hxc
   generalize entC p x = ec at hce hb1
   simp only [X9] at hce
   by_cases hec : ec < 0
   · have hec2 : ¬ 0 ≤ ec := by omega
     rw [decide_eq_true hec] at hb1
     rw [hb1, Zl] at hh
     repeat' first
      | (with_reducible first | refine sA rfl ?_ | refine sI rfl rfl ?_ | refine sT rfl ?_ | refine sB rfl ?_)
      | (with_reducible refine W2 ?_; first | refine Yf mixd (by kernel_rfl) ?_)
      | (with_reducible refine Y9 ?_; first | refine Y5 ?_ | (refine ao1 rfl rfl fun K HK => ?_; (first | refine Y6 rfl ?_ | skip); simp only [go_sem, ↓reduceIte, Z0, Z2, Z1, Z3, Z4, Z6, Z7, Z8, e0, e8, e9, e10, Z9, X9, hzi, Za, wk, Yr, Ys, tM_l, Xo, Z5, wm, gp, hec2]; (first | refine Y8 (fun hq => ?_) (fun hq => ?_) | (refine W5 (by simp only [go_sem]) rfl rfl (by first | omega | simp) (by first | omega | simp) (by simp only [go_sem]; omega) ?_) | (refine ⟨by omega, by omega, ?_⟩; refine Ya (by assumption) ?_) | skip) <;> (refine HK _ _ ?_; clear HK K)) | (refine ao1' rfl fun K HK => ?_; simp only [go_sem, ↓reduceIte, Z0, Z2, Z1, Z3, Z4, Z6, Z7, Z8, e0, e8, e9, e10, Z9, X9, hzi, Za, wk, Yr, Ys, tM_l, Xo, Z5, wm, gp, hec2]; refine HK _ _ ?_; clear HK K))
      | (with_reducible refine Vn ?_; first | (refine aq1 rfl rfl fun K HK => ?_; (first | refine Y6 rfl ?_ | skip); simp only [go_sem, ↓reduceIte, Z0, Z2, Z1, Z3, Z4, Z6, Z7, Z8, e0, e8, e9, e10, Z9, X9, hzi, Za, wk, Yr, Ys, tM_l, Xo, Z5, wm, gp, hec2]; (first | refine Y8 (fun hq => ?_) (fun hq => ?_) | (refine W5 (by simp only [go_sem]) rfl rfl (by first | omega | simp) (by first | omega | simp) (by simp only [go_sem]; omega) ?_) | (refine ⟨by omega, by omega, ?_⟩; refine Ya (by assumption) ?_) | skip) <;> (refine HK _ _ rfl ?_; clear HK K)) | refine Yv ?_ | refine aq2 rfl rfl rfl Jl (hcv _) ?_ | refine aq2 rfl rfl rfl J7 (hnv _) ?_ | refine aq2 rfl rfl rfl Yo1 (hce _) ?_)
      | (exfalso; omega)
     all_goals try (exfalso; omega)
     refine Yp (fun m e h' => ∃ (i : Nat) (T U : List Ob), i ≤ j + 1 ∧ m = j + 1 - i ∧ (list.take (j + 1)).all (pairB x) = ((list.take (j + 1)).drop i).all (pairB x) ∧ h' = rM T (.cells (enX x)) U ∧ e 0 = .sl 2 (list.map enX) ∧ e 4 = .ptr T.length 0 ∧ e 8 = .sl 2 (list.map enX) ∧ e 9 = .v (.int .i64 list.length) ∧ e 10 = .v (.int .i64 (j + 1 : Nat)) ∧ e 47 = .sl 2 ((list.take (j + 1)).map enX) ∧ e 48 = .v (.int .i64 (j + 1 : Nat)) ∧ e 49 = .v (.int .i64 i)) (j + 1) ⟨0, _, [], Zq _, rfl, rfl, rfl, e0, rfl, e8, e9, e10, (by show D.sl 2 _ = _; first | rfl | simp [List.map_take]), (by show D.v (.int .i64 _) = _; first | rfl | simp [Zv hk] | (simp; omega)), rfl⟩ ?_
     clear e0 e8 e9 e10
     rintro m e h' ⟨i, T, U, hi, rfl, hhi, rfl, e0, e4, e8, e9, e10, e47, e48, e49⟩
     by_cases hil : i < j + 1
     rotate_left
     · rw [Zo (by rw [Zh]; omega)] at hhi
       rw [hhi] at hh
       have wj := wk
       repeat' first
        | (with_reducible first | refine sA rfl ?_ | refine sI rfl rfl ?_ | refine sT rfl ?_ | refine sB rfl ?_)
        | (with_reducible refine Y9 ?_; first | refine Y5 ?_ | (refine ao1 rfl rfl fun K HK => ?_; simp only [go_sem, ↓reduceIte, Z0, Z2, Z1, Z3, Z4, Z6, Z7, Z8, e0, e4, e8, e9, e10, e47, e48, e49, Z9, Zh, X9, Za, wk, wj, Yr, Ys, tM_l, Xo, Zo3, Zo2, rM_l, Ym3, rM_x, Z5]; (first | refine Y8 (fun hq => ?_) (fun hq => ?_) | (refine ⟨by omega, by omega, ?_⟩; intro row hrow; obtain ⟨x, hx, rfl⟩ := Ym hrow; clear hrow) | skip) <;> (refine HK _ _ ?_; clear HK K)) | (refine ao1' rfl fun K HK => ?_; simp only [go_sem, ↓reduceIte, Z0, Z2, Z1, Z3, Z4, Z6, Z7, Z8, e0, e4, e8, e9, e10, e47, e48, e49, Z9, Zh, X9, Za, wk, wj, Yr, Ys, tM_l, Xo, Zo3, Zo2, rM_l, Ym3, rM_x, Z5]; refine HK _ _ ?_; clear HK K))
        | (exfalso; omega)
       exact ⟨rfl, list.length - (j + 1 + 1), by omega, j + 1 + 1, _, hlt, rfl, hh, rM_is, e0, e8, e9, rfl⟩
     have hlt2 : i < (list.take (j + 1)).length := by rw [Zh]; omega
     have hy : (list.take (j + 1))[i]? = some (list.take (j + 1))[i] := Zk hlt2
     have hyl : ((list.take (j + 1))[i]).clock.length ≤ 9223372036854775807 := (hs _ (List.mem_of_mem_take (Zm hlt2))).1
     have wj : IntKind.i64.wrap ((i : Int) + 1) = ((i + 1 : Nat) : Int) := IntWalk.i64_in _ (by omega)
     rw [Zu hlt2, List.all_cons] at hhi
     generalize (list.take (j + 1))[i] = y at hy hhi hyl
     have hcc := Yi8 G hG x.clock y.clock hxc hyl
     rw [pairB_eq] at hhi
     generalize Zh4 x.clock y.clock = cc at hcc hhi
     by_cases hbad : cc = 1 ∨ cc = 2
     · have e2 : (!(decide (cc = 1) || decide (cc = 2))) = false := by rcases hbad with rfl | rfl <;> rfl
       rw [e2, Zj] at hhi
       rw [hhi, Zj] at hh
       rw [hh]
       repeat' first
        | (with_reducible first | refine sA rfl ?_ | refine sI rfl rfl ?_ | refine sT rfl ?_ | refine sB rfl ?_)
        | (with_reducible refine Y9 ?_; first | refine Y5 ?_ | (refine ao1 rfl rfl fun K HK => ?_; (first | refine Y6 rfl ?_ | skip); simp only [go_sem, ↓reduceIte, Z0, Z2, Z1, Z3, Z4, Z6, Z7, Z8, e0, e4, e8, e9, e10, e47, e48, e49, Z9, Zh, X9, Za, wk, wj, Yr, Ys, tM_l, Xo, Zo3, Zo2, rM_l, Ym3, rM_x, Z5]; (first | refine Y8 (fun hq => ?_) (fun hq => ?_) | (refine ⟨by omega, by omega, ?_⟩; refine Ya (by assumption) ?_) | skip) <;> (refine HK _ _ ?_; clear HK K)) | refine ao0 rfl rfl ?_ | (refine ao2 rfl rfl rfl ent_156 (hcc _) ?_; rintro _ _ ⟨rfl, rfl⟩) | (refine ao1' rfl fun K HK => ?_; simp only [go_sem, ↓reduceIte, Z0, Z2, Z1, Z3, Z4, Z6, Z7, Z8, e0, e4, e8, e9, e10, e47, e48, e49, Z9, Zh, X9, Za, wk, wj, Yr, Ys, tM_l, Xo, Zo3, Zo2, rM_l, Ym3, rM_x, Z5]; refine HK _ _ ?_; clear HK K))
        | (exfalso; omega)
       all_goals first | (exfalso; omega) | exact ⟨.inr rfl, endV hl0 rfl rfl ⟨rfl, rfl⟩⟩
     · have e2 : (!(decide (cc = 1) || decide (cc = 2))) = true := by rw [decide_eq_false (by omega), decide_eq_false (by omega)]; rfl
       rw [e2, Zl] at hhi
       repeat' first
        | (with_reducible first | refine sA rfl ?_ | refine sI rfl rfl ?_ | refine sT rfl ?_ | refine sB rfl ?_)
        | (with_reducible refine Y9 ?_; first | refine Y5 ?_ | (refine ao1 rfl rfl fun K HK => ?_; (first | refine Y6 rfl ?_ | skip); simp only [go_sem, ↓reduceIte, Z0, Z2, Z1, Z3, Z4, Z6, Z7, Z8, e0, e4, e8, e9, e10, e47, e48, e49, Z9, Zh, X9, Za, wk, wj, Yr, Ys, tM_l, Xo, Zo3, Zo2, rM_l, Ym3, rM_x, Z5]; (first | refine Y8 (fun hq => ?_) (fun hq => ?_) | (refine ⟨by omega, by omega, ?_⟩; refine Ya (by assumption) ?_) | skip) <;> (refine HK _ _ ?_; clear HK K)) | refine ao0 rfl rfl ?_ | (refine ao2 rfl rfl rfl ent_156 (hcc _) ?_; rintro _ _ ⟨rfl, rfl⟩) | (refine ao1' rfl fun K HK => ?_; simp only [go_sem, ↓reduceIte, Z0, Z2, Z1, Z3, Z4, Z6, Z7, Z8, e0, e4, e8, e9, e10, e47, e48, e49, Z9, Zh, X9, Za, wk, wj, Yr, Ys, tM_l, Xo, Zo3, Zo2, rM_l, Ym3, rM_x, Z5]; refine HK _ _ ?_; clear HK K))
        | (exfalso; omega)
       all_goals first | (exfalso; omega) | exact ⟨rfl, j + 1 - (i + 1), by omega, i + 1, _, _, hil, rfl, hhi, rfl, e0, e4, e8, e9, e10, e47, e48, rfl⟩
   · have hec2 : 0 ≤ ec := by omega
     rw [decide_eq_false hec] at hb1
     rw [hb1, Zj, Zj] at hh
     rw [hh]
     repeat' first
      | (with_reducible first | refine sA rfl ?_ | refine sI rfl rfl ?_ | refine sT rfl ?_ | refine sB rfl ?_)
      | (with_reducible refine W2 ?_; first | refine Yf mixd (by kernel_rfl) ?_)
      | (with_reducible refine Y9 ?_; first | refine Y5 ?_ | (refine ao1 rfl rfl fun K HK => ?_; (first | refine Y6 rfl ?_ | skip); simp only [go_sem, ↓reduceIte, Z0, Z2, Z1, Z3, Z4, Z6, Z7, Z8, e0, e8, e9, e10, Z9, X9, hzi, Za, wk, Yr, Ys, tM_l, Xo, Z5, wm, gp, hec2]; (first | refine Y8 (fun hq => ?_) (fun hq => ?_) | (refine ⟨by omega, by omega, ?_⟩; refine Ya (by assumption) ?_) | skip) <;> (refine HK _ _ ?_; clear HK K)) | (refine ao1' rfl fun K HK => ?_; simp only [go_sem, ↓reduceIte, Z0, Z2, Z1, Z3, Z4, Z6, Z7, Z8, e0, e8, e9, e10, Z9, X9, hzi, Za, wk, Yr, Ys, tM_l, Xo, Z5, wm, gp, hec2]; refine HK _ _ ?_; clear HK K))
      | (with_reducible refine Vn ?_; first | (refine aq1 rfl rfl fun K HK => ?_; (first | refine Y6 rfl ?_ | skip); simp only [go_sem, ↓reduceIte, Z0, Z2, Z1, Z3, Z4, Z6, Z7, Z8, e0, e8, e9, e10, Z9, X9, hzi, Za, wk, Yr, Ys, tM_l, Xo, Z5, wm, gp, hec2]; (first | refine Y8 (fun hq => ?_) (fun hq => ?_) | (refine ⟨by omega, by omega, ?_⟩; refine Ya (by assumption) ?_) | skip) <;> (refine HK _ _ rfl ?_; clear HK K)) | refine Yv ?_ | refine aq2 rfl rfl rfl Jl (hcv _) ?_ | refine aq2 rfl rfl rfl J7 (hnv _) ?_ | refine aq2 rfl rfl rfl Yo1 (hce _) ?_)
      | (exfalso; omega)
     all_goals first | (exfalso; omega) | exact ⟨.inr rfl, endV hl0 rfl rfl ⟨rfl, rfl⟩⟩
 rw [hb1, Zl] at hh
 repeat' first
  | (with_reducible first | refine sA rfl ?_ | refine sI rfl rfl ?_ | refine sT rfl ?_ | refine sB rfl ?_)
  | (with_reducible refine W2 ?_; first | refine Yf mixd (by kernel_rfl) ?_)
  | (with_reducible refine Y9 ?_; first | refine Y5 ?_ | (refine ao1 rfl rfl fun K HK => ?_; (first | refine Y6 rfl ?_ | skip); simp only [go_sem, ↓reduceIte, Z0, Z2, Z1, Z3, Z4, Z6, Z7, Z8, e0, e8, e9, e10, Z9, X9, hzi, Za, wk, Yr, Ys, tM_l, Xo, Z5]; (first | refine Y8 (fun hq => ?_) (fun hq => ?_) | (refine W5 (by simp only [go_sem]) rfl rfl (by first | omega | simp) (by first | omega | simp) (by simp only [go_sem]; omega) ?_) | (refine ⟨by omega, by omega, ?_⟩; refine Ya (by assumption) ?_) | (refine ⟨by omega, by omega, ?_⟩; intro row hrow; obtain ⟨x, hx, rfl⟩ := Ym hrow; clear hrow) | skip) <;> (refine HK _ _ ?_; clear HK K)) | (refine ao1' rfl fun K HK => ?_; simp only [go_sem, ↓reduceIte, Z0, Z2, Z1, Z3, Z4, Z6, Z7, Z8, e0, e8, e9, e10, Z9, X9, hzi, Za, wk, Yr, Ys, tM_l, Xo, Z5]; refine HK _ _ ?_; clear HK K))
  | (with_reducible refine Vn ?_; first | (refine aq1 rfl rfl fun K HK => ?_; (first | refine Y6 rfl ?_ | skip); simp only [go_sem, ↓reduceIte, Z0, Z2, Z1, Z3, Z4, Z6, Z7, Z8, e0, e8, e9, e10, Z9, X9, hzi, Za, wk, Yr, Ys, tM_l, Xo, Z5]; (first | refine Y8 (fun hq => ?_) (fun hq => ?_) | (refine W5 (by simp only [go_sem]) rfl rfl (by first | omega | simp) (by first | omega | simp) (by simp only [go_sem]; omega) ?_) | (refine ⟨by omega, by omega, ?_⟩; refine Ya (by assumption) ?_) | (refine ⟨by omega, by omega, ?_⟩; intro row hrow; obtain ⟨x, hx, rfl⟩ := Ym hrow; clear hrow) | skip) <;> (refine HK _ _ rfl ?_; clear HK K)) | refine aq0 rfl rfl ?_ | refine Yv ?_ | refine aq2 rfl rfl rfl Jl (hcv _) ?_ | refine aq2 rfl rfl rfl J7 (hnv _) ?_)
  | (exfalso; omega)
 all_goals try (exfalso; omega)
 refine Yp (fun m e h' => ∃ (i : Nat) (T U : List Ob), i ≤ 0 ∧ m = 0 - i ∧ (list.take (0)).all (pairB x) = ((list.take (0)).drop i).all (pairB x) ∧ h' = rM T (.cells (enX x)) U ∧ e 0 = .sl 2 (list.map enX) ∧ e 4 = .ptr T.length 0 ∧ e 8 = .sl 2 (list.map enX) ∧ e 9 = .v (.int .i64 list.length) ∧ e 10 = .v (.int .i64 (0 : Nat)) ∧ e 47 = .sl 2 ((list.take (0)).map enX) ∧ e 48 = .v (.int .i64 (0 : Nat)) ∧ e 49 = .v (.int .i64 i)) (0) ⟨0, _, [], Zq _, rfl, rfl, rfl, e0, rfl, e8, e9, e10, (by show D.sl 2 _ = _; first | rfl | simp [List.map_take]), (by show D.v (.int .i64 _) = _; first | rfl | simp [Zv hk] | (simp; omega)), rfl⟩ ?_
 clear e0 e8 e9 e10
 rintro m e h' ⟨i, T, U, hi, rfl, hhi, rfl, e0, e4, e8, e9, e10, e47, e48, e49⟩
 by_cases hil : i < 0
 rotate_left
 · rw [Zo (by rw [Zh]; omega)] at hhi
   rw [hhi] at hh
   have wj := wk
   repeat' first
    | (with_reducible first | refine sA rfl ?_ | refine sI rfl rfl ?_ | refine sT rfl ?_ | refine sB rfl ?_)
    | (with_reducible refine Y9 ?_; first | refine Y5 ?_ | (refine ao1 rfl rfl fun K HK => ?_; simp only [go_sem, ↓reduceIte, Z0, Z2, Z1, Z3, Z4, Z6, Z7, Z8, e0, e4, e8, e9, e10, e47, e48, e49, Z9, Zh, X9, Za, wk, wj, Yr, Ys, tM_l, Xo, Zo3, Zo2, rM_l, Ym3, rM_x, Z5]; (first | refine Y8 (fun hq => ?_) (fun hq => ?_) | (refine ⟨by omega, by omega, ?_⟩; intro row hrow) | skip) <;> (refine HK _ _ ?_; clear HK K)))
    | (exfalso; omega)
   exact ⟨rfl, list.length - (0 + 1), by omega, 0 + 1, _, hlt, rfl, hh, rM_is, e0, e8, e9, rfl⟩
 have hlt2 : i < (list.take (0)).length := by rw [Zh]; omega
 have hy : (list.take (0))[i]? = some (list.take (0))[i] := Zk hlt2
 have hyl : ((list.take (0))[i]).clock.length ≤ 9223372036854775807 := (hs _ (List.mem_of_mem_take (Zm hlt2))).1
 have wj : IntKind.i64.wrap ((i : Int) + 1) = ((i + 1 : Nat) : Int) := IntWalk.i64_in _ (by omega)
 rw [Zu hlt2, List.all_cons] at hhi
 generalize (list.take (0))[i] = y at hy hhi hyl
 have hcc := Yi8 G hG x.clock y.clock hxc hyl
 rw [pairB_eq] at hhi
 generalize Zh4 x.clock y.clock = cc at hcc hhi
 by_cases hbad : cc = 1 ∨ cc = 2
 · have e2 : (!(decide (cc = 1) || decide (cc = 2))) = false := by rcases hbad with rfl | rfl <;> rfl
   rw [e2, Zj] at hhi
   rw [hhi, Zj] at hh
   rw [hh]
   repeat' first
    | (with_reducible first | refine sA rfl ?_ | refine sI rfl rfl ?_ | refine sT rfl ?_ | refine sB rfl ?_)
    | (with_reducible refine Y9 ?_; first | refine Y5 ?_ | (refine ao1 rfl rfl fun K HK => ?_; simp only [go_sem, ↓reduceIte, Z0, Z2, Z1, Z3, Z4, Z6, Z7, Z8, e0, e4, e8, e9, e10, e47, e48, e49, Z9, Zh, X9, Za, wk, wj, Yr, Ys, tM_l, Xo, Zo3, Zo2, rM_l, Ym3, rM_x, Z5]; (first | refine Y8 (fun hq => ?_) (fun hq => ?_) | (refine ⟨by omega, by omega, ?_⟩; intro row hrow) | skip) <;> (refine HK _ _ ?_; clear HK K)))
    | (exfalso; omega)
   all_goals first | (exfalso; omega) | exact ⟨.inr rfl, endV hl0 rfl rfl ⟨rfl, rfl⟩⟩
 · have e2 : (!(decide (cc = 1) || decide (cc = 2))) = true := by rw [decide_eq_false (by omega), decide_eq_false (by omega)]; rfl
   rw [e2, Zl] at hhi
   repeat' first
    | (with_reducible first | refine sA rfl ?_ | refine sI rfl rfl ?_ | refine sT rfl ?_ | refine sB rfl ?_)
    | (with_reducible refine Y9 ?_; first | refine Y5 ?_ | (refine ao1 rfl rfl fun K HK => ?_; simp only [go_sem, ↓reduceIte, Z0, Z2, Z1, Z3, Z4, Z6, Z7, Z8, e0, e4, e8, e9, e10, e47, e48, e49, Z9, Zh, X9, Za, wk, wj, Yr, Ys, tM_l, Xo, Zo3, Zo2, rM_l, Ym3, rM_x, Z5]; (first | refine Y8 (fun hq => ?_) (fun hq => ?_) | (refine ⟨by omega, by omega, ?_⟩; intro row hrow) | skip) <;> (refine HK _ _ ?_; clear HK K)))
    | (exfalso; omega)
   all_goals first | (exfalso; omega) | exact ⟨rfl, 0 - (i + 1), by omega, i + 1, _, _, hil, rfl, hhi, rfl, e0, e4, e8, e9, e10, e47, e48, rfl⟩
end
section
def Wk (d d' : D) : Prop := ∀ hd hh W u, rd hd hh W d u → rd hd hh W d' u
def WkL (d d' : List D) : Prop := ∀ hd hh W u, rdL hd hh W d u → rdL hd hh W d' u
theorem U1 (d : D) : Wk d d := fun _ _ _ _ q => q
theorem Xs {k : Nat} : Wk (.v (.slice none 0 0)) (.sl k []) := Yb5
theorem wkL_nil : WkL [] [] := fun _ _ _ _ q => q
theorem Uz {d d' : D} {l l' : List D} (q : Wk d d') (r : WkL l l') : WkL (d :: l) (d' :: l') := fun hd hh W u k => by
 rw [rdL] at k ⊢
 obtain ⟨a, t, h1, h2, h3⟩ := k
 exact ⟨a, t, h1, q _ _ _ _ h2, r _ _ _ _ h3⟩
theorem wk_agg {l l' : List D} (q : WkL l l') : Wk (.agg l) (.agg l') := fun hd hh W u k => by
 rw [rd] at k ⊢
 obtain ⟨cs, h1, h2⟩ := k
 exact ⟨cs, h1, q _ _ _ _ h2⟩
theorem wk_tup {l l' : List D} (q : WkL l l') : Wk (.tup l) (.tup l') := fun hd hh W u k => by
 rw [rd] at k ⊢
 obtain ⟨cs, h1, h2⟩ := k
 exact ⟨cs, h1, q _ _ _ _ h2⟩
end
section
attribute [local irreducible] on aOp
attribute [local go_sem] decide_true decide_false Zp Zn
attribute [local simp] byD_len
def kM (A Z V B : Ob) (T : List Ob) : List Ob := A :: Z :: V :: B :: T
section
variable {A Z V B y y' : Ob} {T l : List Ob}
theorem kM_0 : (kM A Z V B T)[0]? = some A := rfl
theorem kM_1 : (kM A Z V B T)[1]? = some Z := rfl
theorem kM_2 : (kM A Z V B T)[2]? = some V := rfl
theorem kM_3 : (kM A Z V B T)[3]? = some B := rfl
theorem Zt0 : (kM A Z V B T).set 1 y = kM A y V B T := rfl
theorem Zs9 : (kM A Z V B T).set 2 y = kM A Z y B T := rfl
theorem Yc1 : (kM A Z V B T).set 3 y = kM A Z V y T := rfl
theorem Zh2 : (kM A Z V B T).length = T.length + 4 := rfl
theorem Zi8 : kM A Z V B T ++ l = kM A Z V B (T ++ l) := rfl
theorem kM_l : (kM A Z V B (T ++ [y]))[T.length + 4]? = some y := by simp [kM]
theorem Yc0 : (kM A Z V B (T ++ [y])).set (T.length + 4) y' = kM A Z V B (T ++ [y']) := by simp [kM]
theorem Yc3 {z : Ob} : (kM A Z V B (T ++ [y, z]))[T.length + 4]? = some y := by simp [kM]
theorem Yc2 {z : Ob} : (kM A Z V B (T ++ [y, z]))[T.length + 1 + 4]? = some z := by simp [kM]
end
def nilV : List D := [.v (.int .i64 0), .v (.slice none 0 0), .v (.slice none 0 0), .v (.slice none 0 0)]
theorem bot_2 {l : Lat} (h : l.kind = 2) : botV l = .mk l.lo [] [] [] := by cases l; simp only [Lat.kind] at h; subst h; rfl
theorem bot_3 {l : Lat} (h : l.kind = 3) : botV l = .mk l.hi [] [] [] := by cases l; simp only [Lat.kind] at h; subst h; rfl
theorem bot_67 {l : Lat} (h : l.kind = 6 ∨ l.kind = 7) : botV l = .mk 0 [] (l.parts.map botV) [] := by
 cases l; simp only [Lat.kind] at h
 rw [botV, if_neg (by omega), if_neg (by omega), if_pos h, botVs_eq]; rfl
theorem bot_0 {l : Lat} (h2 : l.kind ≠ 2) (h3 : l.kind ≠ 3) (h6 : l.kind ≠ 6) (h7 : l.kind ≠ 7) : botV l = .mk 0 [] [] [] := by
 cases l; simp only [Lat.kind] at h2 h3 h6 h7
 rw [botV, if_neg h2, if_neg h3, if_neg (by omega)]; rfl
theorem wk_val (n : Int) (ps : List (List D)) (d : D) (hd : Wk d (.sl 4 ps)) : Wk (.agg [.v (.int .i64 n), .v (.slice none 0 0), d, .v (.slice none 0 0)]) (.agg [.v (.int .i64 n), .sl 1 [], .sl 4 ps, .sl 2 []]) :=
 wk_agg (Uz (U1 _) (Uz Xs (Uz hd (Uz Xs wkL_nil))))
theorem vaX_all2 (v : Val) : (vaX v).all D.one = true := by rw [Yg]; rfl
theorem va_mk (n : Int) (ps : List Val) : vaX (.mk n [] ps []) = [.v (.int .i64 n), .sl 1 [], .sl 4 (ps.map vaX), .sl 2 []] := by rw [Yg]; rfl
theorem vsm_bot (f : Nat) : ∀ l : Lat, SizeOf.sizeOf l ≤ f → Sm l → VSm (botV l) := by
 induction f with
 | zero => intro l hn; cases l; simp at hn
 | succ f ih =>
  intro l hn hs
  have flat : ∀ n : Int, VSm (.mk n [] [] []) := fun n => .mk _ (by simp [Val.names]) (by simp [Val.parts]) (by simp [Val.entries]) (by simp [Val.names]) (by simp [Val.entries]) (by simp [Val.parts])
  by_cases h2 : l.kind = 2
  · rw [bot_2 h2]; exact flat _
  by_cases h3 : l.kind = 3
  · rw [bot_3 h3]; exact flat _
  by_cases h6 : l.kind = 6 ∨ l.kind = 7
  · rw [bot_67 h6]
    refine .mk _ (by simp [Val.names]) (by simpa [Val.parts] using hs.parts) (by simp [Val.entries]) (by simp [Val.names]) (by simp [Val.entries]) (fun p hp => ?_)
    obtain ⟨q, hq, rfl⟩ := List.mem_map.1 (show p ∈ l.parts.map botV from hp)
    exact ih q (by have := Zf0 hq; omega) (hs.part q hq)
  · rw [bot_0 h2 h3 (by omega) (by omega)]; exact flat _
section
variable {l : Lat} {v : Val}
theorem el_1 (h : l.kind = 1) : Ua l v = (Ue v true false false false && decide (v.n = 0 ∨ v.n = 1)) := by cases l; simp only [Lat.kind] at h; subst h; rw [Ua, if_pos rfl]
theorem el_23 (h : l.kind = 2 ∨ l.kind = 3) : Ua l v = (Ue v true false false false && decide (l.lo ≤ v.n ∧ v.n ≤ l.hi)) := by cases l; simp only [Lat.kind] at h; rw [Ua, if_neg (by omega), if_pos h]; rfl
theorem el_4 (h : l.kind = 4) : Ua l v = (Ue v false true false false && Vg l.names v.names) := by cases l; simp only [Lat.kind] at h; subst h; rw [Ua, if_neg (by decide), if_neg (by decide), if_pos rfl]; rfl
theorem el_10 (h : l.kind = 10) : Ua l v = (Ue v false true false false && Vg l.names v.names && Ye3 l.rules v.names) := by cases l; simp only [Lat.kind] at h; subst h; rw [Ua, if_neg (by decide), if_neg (by decide), if_neg (by decide), if_pos rfl]; rfl
theorem el_8 (h : l.kind = 8) : Ua l v = (if v.n = 0 ∨ v.n = 2 then Ue v true false false false else if v.n = 1 then Ue v true true false false && decide (v.names.length = 1) && Vg l.names v.names else false) := by cases l; simp only [Lat.kind] at h; subst h; rw [Ua, if_neg (by decide), if_neg (by decide), if_neg (by decide), if_neg (by decide), if_pos rfl]; rfl
theorem el_9 (h : l.kind = 9) : Ua l v = (Ue v false false false true && regB v.entries) := by cases l; simp only [Lat.kind] at h; subst h; rw [Ua, if_neg (by decide), if_neg (by decide), if_neg (by decide), if_neg (by decide), if_neg (by decide), if_pos rfl]
theorem el_5 (h : l.kind = 5) : Ua l v = (Ue v false true true false && decide (v.names.length = v.parts.length) && Vg l.names v.names && mapB l.parts v.parts) := by cases l; simp only [Lat.kind] at h; subst h; rw [Ua, if_neg (by decide), if_neg (by decide), if_neg (by decide), if_neg (by decide), if_neg (by decide), if_neg (by decide), if_pos rfl]; rfl
theorem el_67 (h : l.kind = 6 ∨ l.kind = 7) : Ua l v = (Ue v false false true false && decide (v.parts.length = l.parts.length) && Zl5 l.parts v.parts) := by cases l; simp only [Lat.kind] at h; rw [Ua, if_neg (by omega), if_neg (by omega), if_neg (by omega), if_neg (by omega), if_neg (by omega), if_neg (by omega), if_neg (by omega)]; rfl
theorem map_one (p : Lat) (vs : List Val) : mapB [p] vs = vs.all fun v => Ua p v && decide (valC v (botV p) ≠ 0) := by rw [mapB]
theorem els_go {ps : List Lat} {vs : List Val} {k : Nat} {p : Lat} {v : Val} (hp : ps.drop k = p :: ps.drop (k + 1)) (hv : vs.drop k = v :: vs.drop (k + 1)) : Zl5 (ps.drop k) (vs.drop k) = (Ua p v && Zl5 (ps.drop (k + 1)) (vs.drop (k + 1))) := by rw [hp, hv, Zl5]
theorem els_nil (vs : List Val) : Zl5 [] vs = true := by rw [Zl5]
end
variable (G : Nat → D) (hG : ∀ g, low 0 (G g))
include hG
theorem bottom_d (f : Nat) : ∀ l : Lat, SizeOf.sizeOf l ≤ f → WfL l → ∀ h : List Ob, Does Zr G 114 h [.agg (latX l)] (fun h' r => h' = h ∧ r = .agg (vaX (botV l))) := by
 induction f with
 | zero => intro l hn; cases l; simp at hn
 | succ f ih =>
 intro l hn hwf h
 refine Yh G hG (Jt _ l) (by rw [low]; exact Uk _ _) ?_ h
 clear h
 obtain ⟨hk0, hk5, hk7, hk6, _⟩ := hwf.kinds
 have hpl : l.kind = 6 ∨ l.kind = 7 → l.parts.length ≤ 8 := fun q => by rcases q with q | q; have := hk6 q; omega; have := hk7 q; omega
 have hpp : ∀ p ∈ l.parts, ∀ h, Does Zr G 114 h [.agg (latX p)] (fun h' r => h' = h ∧ r = .agg (vaX (botV p))) := fun p hp => ih p (by have := Zf0 hp; omega) (hwf.part hp)
 apply Does.weak
 refine Y7 Tryz.func114 rfl (Zi rfl) hG fun hl0 _ => ?_
 simp only [Tryz.ntmps114]
 by_cases h6 : l.kind = 6 ∨ l.kind = 7
 rotate_left
 · have hb : ∃ n : Int, botV l = .mk n [] [] [] ∧ (l.kind = 2 → n = l.lo) ∧ (l.kind = 3 → n = l.hi) ∧ (l.kind ≠ 2 → l.kind ≠ 3 → n = 0) := by
    by_cases h2 : l.kind = 2
    · exact ⟨_, bot_2 h2, fun _ => rfl, fun q => by omega, fun q => absurd h2 q⟩
    by_cases h3 : l.kind = 3
    · exact ⟨_, bot_3 h3, fun q => by omega, fun _ => rfl, fun _ q => absurd h3 q⟩
    · exact ⟨_, bot_0 h2 h3 (by omega) (by omega), fun q => by omega, fun q => by omega, fun _ _ => rfl⟩
   obtain ⟨n, hb, b2, b3, b0⟩ := hb
   rw [hb, va_mk]
   have h6a : ¬ l.kind = 6 := by omega
   have h7a : ¬ l.kind = 7 := by omega
   by_cases h2 : l.kind = 2
   · obtain rfl := b2 h2
     repeat' first
      | (with_reducible first | refine sA rfl ?_ | refine sI rfl rfl ?_ | refine sT rfl ?_ | refine sB rfl ?_)
      | (with_reducible refine Y9 ?_; first | refine Y5 ?_ | (refine ao1 rfl rfl fun K HK => ?_; simp only [go_sem, ↓reduceIte, Z0, Z2, Z1, Z3, Z4, Z6, Z7, Z8, Y4 l, h2] <;> (refine HK _ _ ?_; clear HK K)) | (refine ao1' rfl fun K HK => ?_; simp only [go_sem, ↓reduceIte, Z0, Z2, Z1, Z3, Z4, Z6, Z7, Z8, Y4 l, h2]; refine HK _ _ ?_; clear HK K))
     all_goals exact ⟨.inr rfl, endD (ds := [.agg [.v (.int .i64 l.lo), .v (.slice none 0 0), .v (.slice none 0 0), .v (.slice none 0 0)]]) (r := .agg [.v (.int .i64 l.lo), .v (.slice none 0 0), .v (.slice none 0 0), .v (.slice none 0 0)]) hl0 (by simp only [resD, Tryz.results114, go_sem, ↓reduceIte, Z0, Z2, Z1]; try rfl) (by simp) (by simp) (by simp [outD, cvD, cv1]) (by simp [low, lowL]) ⟨_, ⟨rfl, rfl⟩, wk_val _ _ _ Xs⟩⟩
   by_cases h3 : l.kind = 3
   · obtain rfl := b3 h3
     repeat' first
      | (with_reducible first | refine sA rfl ?_ | refine sI rfl rfl ?_ | refine sT rfl ?_ | refine sB rfl ?_)
      | (with_reducible refine Y9 ?_; first | refine Y5 ?_ | (refine ao1 rfl rfl fun K HK => ?_; simp only [go_sem, ↓reduceIte, Z0, Z2, Z1, Z3, Z4, Z6, Z7, Z8, Y4 l, h3] <;> (refine HK _ _ ?_; clear HK K)) | (refine ao1' rfl fun K HK => ?_; simp only [go_sem, ↓reduceIte, Z0, Z2, Z1, Z3, Z4, Z6, Z7, Z8, Y4 l, h3]; refine HK _ _ ?_; clear HK K))
     all_goals exact ⟨.inr rfl, endD (ds := [.agg [.v (.int .i64 l.hi), .v (.slice none 0 0), .v (.slice none 0 0), .v (.slice none 0 0)]]) (r := .agg [.v (.int .i64 l.hi), .v (.slice none 0 0), .v (.slice none 0 0), .v (.slice none 0 0)]) hl0 (by simp only [resD, Tryz.results114, go_sem, ↓reduceIte, Z0, Z2, Z1]; try rfl) (by simp) (by simp) (by simp [outD, cvD, cv1]) (by simp [low, lowL]) ⟨_, ⟨rfl, rfl⟩, wk_val _ _ _ Xs⟩⟩
   · obtain rfl := b0 h2 h3
     repeat' first
      | (with_reducible first | refine sA rfl ?_ | refine sI rfl rfl ?_ | refine sT rfl ?_ | refine sB rfl ?_)
      | (with_reducible refine Y9 ?_; first | refine Y5 ?_ | (refine ao1 rfl rfl fun K HK => ?_; simp only [go_sem, ↓reduceIte, Z0, Z2, Z1, Z3, Z4, Z6, Z7, Z8, Y4 l, h2, h3, h6a, h7a] <;> (refine HK _ _ ?_; clear HK K)) | (refine ao1' rfl fun K HK => ?_; simp only [go_sem, ↓reduceIte, Z0, Z2, Z1, Z3, Z4, Z6, Z7, Z8, Y4 l, h2, h3, h6a, h7a]; refine HK _ _ ?_; clear HK K))
     all_goals exact ⟨.inr rfl, endD (ds := [.agg nilV]) (r := .agg nilV) hl0 (by simp only [resD, Tryz.results114, go_sem, ↓reduceIte, Z0, Z2, Z1]; rfl) (by simp) (by simp) (by simp [outD, cvD, cv1, nilV]) (by simp [low, lowL, nilV]) ⟨_, ⟨rfl, rfl⟩, wk_val _ _ _ Xs⟩⟩
 have hpl := hpl h6
 rw [bot_67 h6, va_mk]
 have h2a : ¬ l.kind = 2 := by omega
 have h3a : ¬ l.kind = 3 := by omega
 rcases h6 with h6 | h6
 all_goals
  skip
  repeat' first
   | (with_reducible first | refine sA rfl ?_ | refine sI rfl rfl ?_ | refine sT rfl ?_)
   | (with_reducible refine Y9 ?_; first | refine Y5 ?_ | (refine ao1 rfl rfl fun K HK => ?_; simp only [go_sem, ↓reduceIte, Z0, Z2, Z1, Z3, Z4, Z6, Z7, Z8, Y4 l, h6, Z9] <;> (refine HK _ _ ?_; clear HK K)))
  refine U9 133 4 2 [.v (.int .i64 0), .v (.slice none 0 0)] [.v (.slice none 0 0)] rfl ?_
  refine Yp (fun m e h' => ∃ (k : Nat) (T : List Ob), k ≤ l.parts.length ∧ m = l.parts.length - k ∧ h' = kM (.cells (latX l)) (.cells nilV) (.cells [.v (.int .i64 0), .v (.slice none 0 0), .buf 3 k, .v (.slice none 0 0)]) (.buf 133 4 (((l.parts.take k).map botV).map vaX)) T ∧ e 1 = .ptr 0 0 ∧ e 2 = .ptr 1 0 ∧ e 3 = .ptr 2 0 ∧ e 22 = .sl 6 (l.parts.map latX) ∧ e 23 = .v (.int .i64 l.parts.length) ∧ e 24 = .v (.int .i64 k)) l.parts.length ⟨0, [], Zq _, rfl, by rw [Y4 l, h6]; rfl, rfl, rfl, rfl, rfl, rfl, rfl⟩ ?_
  rintro m e h' ⟨k, T, hk, rfl, rfl, e1, e2, e3, e22, e23, e24⟩
  by_cases hlt : k < l.parts.length
  rotate_left
  · obtain rfl : k = l.parts.length := by omega
    rw [List.take_length]
    repeat' first
     | (with_reducible first | refine sA rfl ?_ | refine sI rfl rfl ?_ | refine sT rfl ?_ | refine sB rfl ?_)
     | (with_reducible refine Y9 ?_; first | refine Y5 ?_ | (refine ao1 rfl rfl fun K HK => ?_; simp only [go_sem, ↓reduceIte, Z0, Z2, Z1, Z3, Z4, Z6, Z7, Z8, Y4 l, e1, e2, e3, e22, e23, e24, kM_0, kM_1, kM_2, kM_3, Zt0, Zs9, nilV]; (first | refine Y8 (fun hq => ?_) (fun hq => ?_) | (refine ⟨by omega, by omega, ?_⟩; intro row hrow; obtain ⟨x, hx, rfl⟩ := Ym hrow; clear hrow) | skip) <;> (refine HK _ _ ?_; clear HK K)) | (refine ao1' rfl fun K HK => ?_; simp only [go_sem, ↓reduceIte, Z0, Z2, Z1, Z3, Z4, Z6, Z7, Z8, Y4 l, e1, e2, e3, e22, e23, e24, kM_0, kM_1, kM_2, kM_3, Zt0, Zs9, nilV]; refine HK _ _ ?_; clear HK K))
     | (exfalso; omega)
    exact ⟨.inr rfl, endD (ds := [.agg [.v (.int .i64 0), .v (.slice none 0 0), .buf 3 l.parts.length, .v (.slice none 0 0)]]) (r := .agg [.v (.int .i64 0), .v (.slice none 0 0), .sl 4 ((l.parts.map botV).map vaX), .v (.slice none 0 0)]) hl0 (by simp only [resD, Tryz.results114, go_sem, ↓reduceIte, Z0, Z2, Z1, e2, kM_1]; try rfl) (by simp) (by simp) (by simp [outD, cvD, cv1, kM]) (by rw [low]; simp only [lowL]; exact ⟨by simp [low], by simp [low], Yb7 _ _, by simp [low], trivial⟩) ⟨_, ⟨rfl, rfl⟩, wk_val _ _ _ (U1 _)⟩⟩
  have hx : l.parts[k]? = some l.parts[k] := Zk hlt
  have wk : IntKind.i64.wrap ((k : Int) + 1) = ((k + 1 : Nat) : Int) := IntWalk.i64_in _ (by omega)
  have htk : (l.parts.take (k + 1)).map botV = (l.parts.take k).map botV ++ [botV l.parts[k]] := by rw [List.take_add_one, hx, Zw]; rfl
  have hbp := hpp _ (Zm hlt)
  generalize l.parts[k] = x at hx hbp htk
  have hlr : (((l.parts.take k).map botV).map vaX).length = k := by rw [Z9, Z9, Zh, Zv hk]
  simp only [Y4 x] at hbp
  generalize botV x = bx at hbp htk
  have hro : Xd 4 [vaX bx] := fun row hr => by simp only [Zs] at hr; subst hr; exact ⟨Yi bx, List.all_eq_true.1 (vaX_all2 bx)⟩
  repeat' first
   | (with_reducible first | refine sA rfl ?_ | refine sI rfl rfl ?_ | refine sT rfl ?_ | refine sB rfl ?_)
   | (with_reducible refine W2 ?_; first | refine W3 mixd (by kernel_rfl) ?_)
   | (with_reducible refine Y9 ?_; first | refine Y5 ?_ | (refine ao1 rfl rfl fun K HK => ?_; simp only [go_sem, ↓reduceIte, Z0, Z2, Z1, Z3, Z4, Z6, Z7, Z8, Y4 x, Y4 l, e1, e2, e3, e22, e23, e24, Z9, Za, wk, kM_0, kM_1, kM_2, kM_3, Zt0, Zs9, Yc1, Zh2, Zi8, kM_l, Yc0, Yc3, Yc2, Yi, Ye, Ze, Zc, Zf, Zb, Zd, Zg]; (first | refine Y8 (fun hq => ?_) (fun hq => ?_) | (refine ⟨by omega, by omega, ?_⟩; refine Ya (by assumption) ?_) | skip) <;> (refine HK _ _ ?_; clear HK K)) | (refine ao1' rfl fun K HK => ?_; simp only [go_sem, ↓reduceIte, Z0, Z2, Z1, Z3, Z4, Z6, Z7, Z8, Y4 x, Y4 l, e1, e2, e3, e22, e23, e24, Z9, Za, wk, kM_0, kM_1, kM_2, kM_3, Zt0, Zs9, Yc1, Zh2, Zi8, kM_l, Yc0, Yc3, Yc2, Yi, Ye, Ze, Zc, Zf, Zb, Zd, Zg]; refine HK _ _ ?_; clear HK K))
   | ((with_reducible refine Yc7 ?_); first | (refine Zt7 rfl rfl rfl rfl (by (simp only [go_sem, ↓reduceIte, Z0, Z2, Z1, Z3, Z4, Z6, Z7, Z8, Y4 x, Y4 l, e1, e2, e3, e22, e23, e24, Z9, Za, wk, kM_0, kM_1, kM_2, kM_3, Zt0, Zs9, Yc1, Zh2, Zi8, kM_l, Yc0, Yc3, Yc2, Yi, Ye, Ze, Zc, Zf, Zb, Zd, Zg]; rfl)) hlr (by simp only [go_sem]; rfl) (by (simp only [go_sem, ↓reduceIte, Z0, Z2, Z1, Z3, Z4, Z6, Z7, Z8, Y4 x, Y4 l, e1, e2, e3, e22, e23, e24, Z9, Za, wk, kM_0, kM_1, kM_2, kM_3, Zt0, Zs9, Yc1, Zh2, Zi8, kM_l, Yc0, Yc3, Yc2, Yi, Ye, Ze, Zc, Zf, Zb, Zd, Zg]; rfl)) (by simp) hro (by first | omega | (simp; omega)) ?_) | (refine Ws rfl rfl rfl (by (simp only [go_sem, ↓reduceIte, Z0, Z2, Z1, Z3, Z4, Z6, Z7, Z8, Y4 x, Y4 l, e1, e2, e3, e22, e23, e24, Z9, Za, wk, kM_0, kM_1, kM_2, kM_3, Zt0, Zs9, Yc1, Zh2, Zi8, kM_l, Yc0, Yc3, Yc2, Yi, Ye, Ze, Zc, Zf, Zb, Zd, Zg]; rfl)) (by rw [getD_agg' aggT_31, szT_31]; rfl) ?_) | (refine aS1 rfl rfl fun K HK => ?_; simp only [go_sem, ↓reduceIte, Z0, Z2, Z1, Z3, Z4, Z6, Z7, Z8, Y4 x, Y4 l, e1, e2, e3, e22, e23, e24, Z9, Za, wk, kM_0, kM_1, kM_2, kM_3, Zt0, Zs9, Yc1, Zh2, Zi8, kM_l, Yc0, Yc3, Yc2, Yi, Ye, Ze, Zc, Zf, Zb, Zd, Zg]; (first | refine Y8 (fun hq => ?_) (fun hq => ?_) | (refine ⟨by omega, by omega, ?_⟩; refine Ya (by assumption) ?_) | skip) <;> (refine HK _ _ rfl ?_; clear HK K)) | refine Ws rfl rfl rfl (by (simp only [go_sem, ↓reduceIte, Z0, Z2, Z1, Z3, Z4, Z6, Z7, Z8, Y4 x, Y4 l, e1, e2, e3, e22, e23, e24, Z9, Za, wk, kM_0, kM_1, kM_2, kM_3, Zt0, Zs9, Yc1, Zh2, Zi8, kM_l, Yc0, Yc3, Yc2, Yi, Ye, Ze, Zc, Zf, Zb, Zd, Zg]; rfl)) (by rw [getD_one (by simp only [go_sem, ↓reduceIte, Z0, Z2, Z1, Z3, Z4, Z6, Z7, Z8, Y4 x, Y4 l, e1, e2, e3, e22, e23, e24, Z9, Za, wk, kM_0, kM_1, kM_2, kM_3, Zt0, Zs9, Yc1, Zh2, Zi8, kM_l, Yc0, Yc3, Yc2, Yi, Ye, Ze, Zc, Zf, Zb, Zd, Zg])]; rfl) ?_ | refine J2 rfl rfl (by (simp only [go_sem, ↓reduceIte, Z0, Z2, Z1, Z3, Z4, Z6, Z7, Z8, Y4 x, Y4 l, e1, e2, e3, e22, e23, e24, Z9, Za, wk, kM_0, kM_1, kM_2, kM_3, Zt0, Zs9, Yc1, Zh2, Zi8, kM_l, Yc0, Yc3, Yc2, Yi, Ye, Ze, Zc, Zf, Zb, Zd, Zg]; rfl)) rfl (by simp only [go_sem, ↓reduceIte, Z0, Z2, Z1, Z3, Z4, Z6, Z7, Z8, Y4 x, Y4 l, e1, e2, e3, e22, e23, e24, Z9, Za, wk, kM_0, kM_1, kM_2, kM_3, Zt0, Zs9, Yc1, Zh2, Zi8, kM_l, Yc0, Yc3, Yc2, Yi, Ye, Ze, Zc, Zf, Zb, Zd, Zg]) (by simp) ?_ | refine Ze4 rfl rfl (by simp only [litD, Wv, go_sem, Zd, Zg, Option.map_some, Option.bind_some, and_self, ↓reduceIte, Z0, Z2, Z1, Z3, Z4, Z6, Z7, Z8, Y4 x, Y4 l, e1, e2, e3, e22, e23, e24, Z9, Za, wk, kM_0, kM_1, kM_2, kM_3, Zt0, Zs9, Yc1, Zh2, Zi8, kM_l, Yc0, Yc3, Yc2, Yi, Ye, Ze, Zc, Zf, Zb, Zd, Zg]; rfl) ?_ | refine Us (by simp only [List.reverse_cons, List.reverse_nil, Zf, Zc, Vo, chk1]; repeat' (first | exact trivial | refine And.intro ?_ ?_ | exact .inr Xg | exact .inr Xr | exact .inr Ww | exact .inr (Va (by omega)) | (refine .inr ?_; simp [compat, J3, Vt, Up, nop, Zh2, Yi] <;> omega) | exact .inl (by kernel_rfl))) ?_ | refine Xn rfl rfl rfl Yo5 (fun h2 => hbp _) ?_)
   | (exfalso; omega)
  exact ⟨rfl, l.parts.length - (k + 1), by omega, k + 1, _, hlt, rfl, (by rw [Y4 l, htk, Zw]; rfl), e1, e2, e3, e22, e23, rfl⟩
end
section
attribute [local irreducible] on aOp
attribute [local go_sem] decide_true decide_false Zp Zn
attribute [local simp] byD_len
variable (G : Nat → D) (hG : ∀ g, low 0 (G g))
def rdSm (m : Nat) (s : RS) : Nat × RS := (if m < (Yu s).1 then 0 else (Yu s).1, if m < (Yu s).1 then (Yu s).2.fail else (Yu s).2)
include hG
theorem small_d (i m : Nat) (s : RS) (h : List Ob) (hm : m ≤ 9223372036854775807) (hi : h[i]? = some (Yc s)) (ho : s.Ok) (hl : s.data.length ≤ 1000000000) :
 Does Zr G 135 h [.ptr i 0, .v (.int .u64 m)] (fun h' r => h' = h.set i (Yc (rdSm m s).2) ∧ r = .v (.int .i64 ((rdSm m s).1 : Nat))) := by
 have hil := (Zt.1 hi).1
 have hc := rUint_d G hG i s h hi ho hl
 have hR : rdSm m s = (if m < (Yu s).1 then 0 else (Yu s).1, if m < (Yu s).1 then (Yu s).2.fail else (Yu s).2) := rfl
 rw [hR]
 generalize Yu s = ru at hc ⊢
 obtain ⟨n, t⟩ := ru
 simp only at hc ⊢
 obtain ⟨h1, hh⟩ : ∃ h1, h.set i (Yc t) = h1 := ⟨_, rfl⟩
 have hB : h1[i]? = some (Yc t) := by rw [← hh]; exact List.getElem?_set_self hil
 have hF := rFail_d G hG i t h1 hB
 have hS : h1.set i (Yc t.fail) = h.set i (Yc t.fail) := by rw [← hh, List.set_set]
 rw [hh] at hc
 rw [hS] at hF
 refine Y7 Tryz.func135 rfl (Zi rfl) hG fun hl0 _ => ?_
 simp only [Tryz.ntmps135]
 by_cases hq0 : m < n
 · rw [if_pos hq0, if_pos hq0]
   have w1 : ((n : Nat) : Int) > ((m : Nat) : Int) := by omega
   have w2 : decide (((m : Nat) : Int) < ((n : Nat) : Int)) = true := decide_eq_true (by omega)
   repeat' first
    | (with_reducible first | refine sA rfl ?_ | refine sI rfl rfl ?_ | refine sT rfl ?_)
    | (with_reducible refine Y9 ?_; first | refine Y5 ?_ | (refine ao1 rfl rfl fun K HK => ?_; simp only [go_sem, ↓reduceIte, Z0, Z2, Z1, Z3, Z4, Z6, Z7, Z8, w2] <;> (refine HK _ _ ?_; clear HK K)) | (refine ao2 rfl rfl rfl ent_81 (hc) ?_; rintro _ _ ⟨rfl, rfl⟩) | (refine ao2 rfl rfl rfl ent_153 (hF) ?_; rintro _ _ ⟨rfl, rfl⟩))
   exact ⟨by simp, endS (i := i) (ob := Yc t.fail) (r := .v (.int .i64 (0 : Int))) hl0 (Xk _ _) rfl (by simp [Uh]) (by simp) rfl (by rw [low]; trivial) ⟨rfl, rfl⟩⟩
 · rw [if_neg hq0, if_neg hq0]
   have w2 : decide (((m : Nat) : Int) < ((n : Nat) : Int)) = false := decide_eq_false (by omega)
   have w3 : IntKind.i64.wrap (n : Int) = (n : Int) := IntWalk.i64_in _ (by omega)
   repeat' first
    | (with_reducible first | refine sA rfl ?_ | refine sI rfl rfl ?_ | refine sT rfl ?_)
    | (with_reducible refine Y9 ?_; first | refine Y5 ?_ | (refine ao1 rfl rfl fun K HK => ?_; simp only [go_sem, ↓reduceIte, Z0, Z2, Z1, Z3, Z4, Z6, Z7, Z8, w2, w3] <;> (refine HK _ _ ?_; clear HK K)) | (refine ao2 rfl rfl rfl ent_81 (hc) ?_; rintro _ _ ⟨rfl, rfl⟩))
   exact ⟨by simp, endS (i := i) (ob := Yc t) (r := .v (.int .i64 (n : Int))) hl0 (Xk _ _) rfl (by simp [← hh, Uh]) (by simp [← hh]) rfl (by rw [low]; trivial) ⟨rfl, rfl⟩⟩
end
section
attribute [local irreducible] on aOp
attribute [local go_sem] decide_true decide_false Zp Zn
attribute [local simp] byD_len
def q4 (R A Z V : Ob) (T : List Ob) : List Ob := R :: A :: Z :: V :: T
section
variable {R A Z V y y' z z' : Ob} {T l : List Ob}
end
def q5 (R A Z V B : Ob) (T : List Ob) : List Ob := R :: A :: Z :: V :: B :: T
section
variable {R A Z V B y y' z z' : Ob} {T l : List Ob}
theorem q5_0 : (q5 R A Z V B T)[0]? = some R := rfl
theorem Wl : (q5 R A Z V B T).set 0 y = q5 y A Z V B T := rfl
theorem q5_1 : (q5 R A Z V B T)[1]? = some A := rfl
theorem Wj : (q5 R A Z V B T).set 1 y = q5 R y Z V B T := rfl
theorem q5_2 : (q5 R A Z V B T)[2]? = some Z := rfl
theorem Xw : (q5 R A Z V B T).set 2 y = q5 R A y V B T := rfl
theorem q5_3 : (q5 R A Z V B T)[3]? = some V := rfl
theorem Wi : (q5 R A Z V B T).set 3 y = q5 R A Z y B T := rfl
theorem q5_4 : (q5 R A Z V B T)[4]? = some B := rfl
theorem Wh : (q5 R A Z V B T).set 4 y = q5 R A Z V y T := rfl
theorem X2 : (q5 R A Z V B T).length = T.length + 5 := rfl
theorem X8 : q5 R A Z V B T ++ l = q5 R A Z V B (T ++ l) := rfl
theorem q5_l : (q5 R A Z V B (T ++ [y]))[T.length + 5]? = some y := by simp [q5]
theorem Wg : (q5 R A Z V B (T ++ [y])).set (T.length + 5) y' = q5 R A Z V B (T ++ [y']) := by simp [q5]
theorem Wn : (q5 R A Z V B (T ++ [y, z]))[T.length + 5]? = some y := by simp [q5]
theorem X7 : (q5 R A Z V B (T ++ [y, z])).set (T.length + 5) y' = q5 R A Z V B (T ++ [y', z]) := by simp [q5]
theorem Wm : (q5 R A Z V B (T ++ [y, z]))[T.length + 1 + 5]? = some z := by simp [q5]
theorem X6 : (q5 R A Z V B (T ++ [y, z])).set (T.length + 1 + 5) z' = q5 R A Z V B (T ++ [y, z']) := by simp [q5]
end
def q6 (R A Z V B C : Ob) (T : List Ob) : List Ob := R :: A :: Z :: V :: B :: C :: T
section
variable {R A Z V B C y y' z z' : Ob} {T l : List Ob}
theorem q6_0 : (q6 R A Z V B C T)[0]? = some R := rfl
theorem Ji : (q6 R A Z V B C T).set 0 y = q6 y A Z V B C T := rfl
theorem q6_1 : (q6 R A Z V B C T)[1]? = some A := rfl
theorem Jh : (q6 R A Z V B C T).set 1 y = q6 R y Z V B C T := rfl
theorem q6_2 : (q6 R A Z V B C T)[2]? = some Z := rfl
theorem Uw : (q6 R A Z V B C T).set 2 y = q6 R A y V B C T := rfl
theorem q6_3 : (q6 R A Z V B C T)[3]? = some V := rfl
theorem Jg : (q6 R A Z V B C T).set 3 y = q6 R A Z y B C T := rfl
theorem q6_4 : (q6 R A Z V B C T)[4]? = some B := rfl
theorem Jf : (q6 R A Z V B C T).set 4 y = q6 R A Z V y C T := rfl
theorem q6_5 : (q6 R A Z V B C T)[5]? = some C := rfl
theorem Je : (q6 R A Z V B C T).set 5 y = q6 R A Z V B y T := rfl
theorem V0 : (q6 R A Z V B C T).length = T.length + 6 := rfl
theorem V9 : q6 R A Z V B C T ++ l = q6 R A Z V B C (T ++ l) := rfl
theorem q6_l : (q6 R A Z V B C (T ++ [y]))[T.length + 6]? = some y := by simp [q6]
theorem Jd : (q6 R A Z V B C (T ++ [y])).set (T.length + 6) y' = q6 R A Z V B C (T ++ [y']) := by simp [q6]
theorem Jk : (q6 R A Z V B C (T ++ [y, z]))[T.length + 6]? = some y := by simp [q6]
theorem V8 : (q6 R A Z V B C (T ++ [y, z])).set (T.length + 6) y' = q6 R A Z V B C (T ++ [y', z]) := by simp [q6]
theorem Jj : (q6 R A Z V B C (T ++ [y, z]))[T.length + 1 + 6]? = some z := by simp [q6]
theorem V7 : (q6 R A Z V B C (T ++ [y, z])).set (T.length + 1 + 6) z' = q6 R A Z V B C (T ++ [y, z']) := by simp [q6]
end
theorem rdSm_eq (m : Nat) (s : RS) : rdSm m s = Yo m s := rfl
theorem Zq8 {n : Int} {d1 d2 d3 : D} {a b c : List (List D)} (h1 : Wk d1 (.sl 1 a)) (h2 : Wk d2 (.sl 4 b)) (h3 : Wk d3 (.sl 2 c)) : Wk (.agg [.v (.int .i64 n), d1, d2, d3]) (.agg [.v (.int .i64 n), .sl 1 a, .sl 4 b, .sl 2 c]) :=
 wk_agg (Uz (U1 _) (Uz h1 (Uz h2 (Uz h3 wkL_nil))))
theorem rdrOb_ren (π : Nat → Nat) (s : RS) : V6 π (Yc s) = Yc s := by
 rw [Uj]; simp only [V6, renL, ren, Yk9]
theorem rdr_at {P : Program} {G : Nat → D} (hG : ∀ g, low 0 (G g)) {f : FuncId} {s s' : RS} {xs : List D} {r0 : D} (lx : lowL 0 xs) (lr : low 0 r0) (q : Does P G f [Yc s] (.ptr 0 0 :: xs) (fun h' r => h' = [Yc s'] ∧ r = r0)) {h : List Ob} {i : Nat} (hi : h[i]? = some (Yc s)) : Does P G f h (.ptr i 0 :: xs) (fun h' r => h' = h.set i (Yc s') ∧ r = r0) := by
 have L : Lies (fun _ => i) [Yc s] h := by
  refine ⟨fun k ob' hk => ?_, fun a b ha hb _ => ?_, ?_⟩
  · rcases k with _ | k
    · cases hk; rw [rdrOb_ren]; exact hi
    · simp at hk
  · simp at ha hb; omega
  · intro x hx
    simp at hx; subst hx; exact Xk _ s
 have F := Does.frame hG L (args := .ptr 0 0 :: xs) (by rw [lowL, low]; exact ⟨Nat.zero_lt_succ _, Ul (Zq _) _ lx⟩) (K1 := fun h' r => h' = [Yc s'] ∧ r = r0) (by
  rintro _ _ ⟨rfl, _⟩
  refine ⟨fun a b ha hb _ => ?_, fun k h1 h2 => ?_⟩
  · simp at ha hb; omega
  · have h1 : 1 ≤ k := h1
    have h2 : k < 1 := h2
    omega) q
 rw [renL, ren, Xb _ _ lx] at F
 refine F.mono ?_
 rintro _ _ ⟨_, _, ⟨rfl, rfl⟩, rfl, rfl⟩
 refine ⟨?_, Zb9 _ _ lr⟩
 simp only [List.map_cons, List.map_nil, plc, rdrOb_ren]
def ReadD (G : Nat → D) (l : Lat) : Prop := ∀ s : RS, s.Ok → s.data.length ≤ 1000000 → Does Zr G 111 [Yc s] [.ptr 0 0, .agg (latX l)] (fun h' r => h' = [Yc (X3 l s).2] ∧ r = .agg (vaX (X3 l s).1))
theorem ReadD.at {G : Nat → D} (hG : ∀ g, low 0 (G g)) {l : Lat} (q : ReadD G l) {s : RS} (ho : s.Ok) (hl : s.data.length ≤ 1000000) {h : List Ob} {i : Nat} (hi : h[i]? = some (Yc s)) : Does Zr G 111 h [.ptr i 0, .agg (latX l)] (fun h' r => h' = h.set i (Yc (X3 l s).2) ∧ r = .agg (vaX (X3 l s).1)) :=
 rdr_at hG (Jt _ l) (by rw [low]; exact Uk _ _) (q s ho hl) hi
theorem endR {P : Program} {res : Array ResultVar} {K : List Ob → D → Prop} {s : S} {s' : RS} {ds : List D} {r : D} {T : List Ob} (h1 : resD P s res.toList = some ds) (h2 : s.h = Yc s' :: T) (lr : low 0 r) (hr : cvD (fun i => decide (1 ≤ i)) (Yc s' :: T) (outD ds) = r) (hK : K [Yc s'] r) : EndD P res 1 K s :=
 endX ds [Yc s'] T r h1 h2 (Nat.le_refl _) (fun x hx => by simp at hx; subst hx; exact Xk _ s') (Zp3 (Zq _) _ lr) hr hK
section
variable {l : Lat}
theorem rd_1 (h : l.kind = 1) (s : RS) : X3 l s = (.mk (if (Wz s).1 then 1 else 0) [] [] [], (Wz s).2) := by cases l; simp only [Lat.kind] at h; subst h; exact readV_1 s
theorem rd_23 (h : l.kind = 2 ∨ l.kind = 3) (s : RS) : X3 l s = (.mk (Yt s).1 [] [] [], (Yt s).2) := by cases l; exact Yl3 h s
theorem rd_410 (h : l.kind = 4 ∨ l.kind = 10) (s : RS) : X3 l s = (.mk 0 (Yy Yx (Yb s).1 (Yb s).2).1 [] [], (Yy Yx (Yb s).1 (Yb s).2).2) := by cases l; exact Zz8 h s
theorem rd_8 (h : l.kind = 8) (s : RS) : X3 l s = if (Yo 2 s).1 = 1 then (.mk 1 [(Yx (Yo 2 s).2).1] [] [], (Yx (Yo 2 s).2).2) else (.mk ((Yo 2 s).1 : Nat) [] [] [], (Yo 2 s).2) := by cases l; simp only [Lat.kind] at h; subst h; exact readV_8 s
end
theorem Zt8 (n : Int) (ns : List ByteArray) (ps : List Val) (es : List En) : vaX (.mk n ns ps es) = [.v (.int .i64 n), .sl 1 (ns.map strX), .sl 4 (ps.map vaX), .sl 2 (es.map enX)] := by rw [Yg]; rfl
variable (G : Nat → D) (hG : ∀ g, low 0 (G g))
include hG
theorem rErr_d (i : Nat) (s : RS) (h : List Ob) (hi : h[i]? = some (Yc s)) : Does Zr G 134 h [.ptr i 0] (fun h' r => h' = h ∧ r = .v (.int .i64 s.err)) := by
 rw [Uj] at hi
 refine Y7 Tryz.func134 rfl (Zi rfl) hG fun hl0 _ => ?_
 simp only [Tryz.ntmps134]
 repeat' first
  | (with_reducible first | refine sA rfl ?_ | refine sT rfl ?_)
  | (with_reducible refine Y9 ?_; first | refine Y5 ?_ | (refine ao1 rfl rfl fun K HK => ?_; simp only [go_sem, ↓reduceIte, Z0, Z2, Z1, Z3, Z4, Z6, Z7, Z8, hi] <;> (refine HK _ _ ?_; clear HK K)))
 exact ⟨.inr rfl, endV hl0 rfl rfl ⟨rfl, rfl⟩⟩
theorem read_1 (l : Lat) (hk : l.kind = 1) : ReadD G l := fun s ho hl => by
 rw [rd_1 hk, Zt8]
 have hb := fun (h : List Ob) (k : h[0]? = some (Yc s)) => rBool_d G hG 0 s h k ho (by omega)
 generalize Wz s = b at *
 obtain ⟨b, s'⟩ := b
 apply Does.weak
 refine Y7 Tryz.func111 rfl (Zi rfl) hG fun hl0 _ => ?_
 simp only [Tryz.ntmps111]
 cases b
 all_goals
  skip
  repeat' first
   | (with_reducible first | refine sA rfl ?_ | refine sI rfl rfl ?_ | refine sT rfl ?_ | refine sB rfl ?_)
   | (with_reducible refine Y9 ?_; first | refine Y5 ?_ | (refine ao1 rfl rfl fun K HK => ?_; simp only [go_sem, ↓reduceIte, Z0, Z2, Z1, Z3, Z4, Z6, Z7, Z8, Y4 l, hk, Z5] <;> (refine HK _ _ ?_; clear HK K)) | (refine ao2 rfl rfl rfl ent_133 (hb _ (by first | rfl | simp)) ?_; rintro _ _ ⟨rfl, rfl⟩) | (refine ao1' rfl fun K HK => ?_; simp only [go_sem, ↓reduceIte, Z0, Z2, Z1, Z3, Z4, Z6, Z7, Z8, Y4 l, hk, Z5]; refine HK _ _ ?_; clear HK K))
 · exact ⟨.inr rfl, endR (s' := s') (ds := [.agg nilV]) (r := .agg nilV) (T := _) (by simp only [resD, Tryz.results111, go_sem, ↓reduceIte, Z0, Z2, Z1, nilV]; try rfl) rfl (by simp [low, lowL, nilV]) (by simp [outD, cvD, cv1, nilV]) ⟨_, ⟨rfl, rfl⟩, Zq8 Xs Xs Xs⟩⟩
 · exact ⟨.inr rfl, endR (s' := s') (ds := [.agg [.v (.int .i64 1), .v (.slice none 0 0), .v (.slice none 0 0), .v (.slice none 0 0)]]) (r := .agg [.v (.int .i64 1), .v (.slice none 0 0), .v (.slice none 0 0), .v (.slice none 0 0)]) (T := _) (by simp only [resD, Tryz.results111, go_sem, ↓reduceIte, Z0, Z2, Z1, nilV]; try rfl) rfl (by simp [low, lowL]) (by simp [outD, cvD, cv1]) ⟨_, ⟨rfl, rfl⟩, Zq8 Xs Xs Xs⟩⟩
theorem read_23 (l : Lat) (hk : l.kind = 2 ∨ l.kind = 3) : ReadD G l := fun s ho hl => by
 rw [rd_23 hk, Zt8]
 have hb := fun (h : List Ob) (k : h[0]? = some (Yc s)) => rInt_d G hG 0 s h k ho (by omega)
 generalize Yt s = b at *
 obtain ⟨b, s'⟩ := b
 apply Does.weak
 refine Y7 Tryz.func111 rfl (Zi rfl) hG fun hl0 _ => ?_
 simp only [Tryz.ntmps111]
 rcases hk with hk | hk
 all_goals
  skip
  repeat' first
   | (with_reducible first | refine sA rfl ?_ | refine sI rfl rfl ?_ | refine sT rfl ?_ | refine sB rfl ?_)
   | (with_reducible refine Y9 ?_; first | refine Y5 ?_ | (refine ao1 rfl rfl fun K HK => ?_; simp only [go_sem, ↓reduceIte, Z0, Z2, Z1, Z3, Z4, Z6, Z7, Z8, Y4 l, hk, Z5] <;> (refine HK _ _ ?_; clear HK K)) | (refine ao2 rfl rfl rfl ent_48 (hb _ (by first | rfl | simp)) ?_; rintro _ _ ⟨rfl, rfl⟩) | (refine ao1' rfl fun K HK => ?_; simp only [go_sem, ↓reduceIte, Z0, Z2, Z1, Z3, Z4, Z6, Z7, Z8, Y4 l, hk, Z5]; refine HK _ _ ?_; clear HK K))
  exact ⟨.inr rfl, endR (s' := s') (ds := [.agg [.v (.int .i64 b), .v (.slice none 0 0), .v (.slice none 0 0), .v (.slice none 0 0)]]) (r := .agg [.v (.int .i64 b), .v (.slice none 0 0), .v (.slice none 0 0), .v (.slice none 0 0)]) (T := _) (by simp only [resD, Tryz.results111, go_sem, ↓reduceIte, Z0, Z2, Z1, nilV]; try rfl) rfl (by simp [low, lowL]) (by simp [outD, cvD, cv1]) ⟨_, ⟨rfl, rfl⟩, Zq8 Xs Xs Xs⟩⟩
theorem read_8 (l : Lat) (hk : l.kind = 8) : ReadD G l := fun s ho hl => by
 rw [rd_8 hk]
 have hb := fun (h : List Ob) (k : h[0]? = some (Yc s)) => small_d G hG 0 2 s h (by omega) k ho (by omega)
 simp only [rdSm_eq] at hb
 obtain ⟨ho2, hd2⟩ := Vp 2 ho
 generalize Yo 2 s = b at *
 obtain ⟨b, s1⟩ := b
 simp only at hb ho2 hd2 ⊢
 have ht := fun (h : List Ob) (k : h[0]? = some (Yc s1)) => Yb0 G hG 0 s1 h k ho2 (by rw [hd2]; omega)
 apply Does.weak
 refine Y7 Tryz.func111 rfl (Zi rfl) hG fun hl0 _ => ?_
 simp only [Tryz.ntmps111]
 by_cases hb1 : b = 1
 · subst hb1
   rw [if_pos rfl, Zt8]
   repeat' first
    | (with_reducible first | refine sA rfl ?_ | refine sI rfl rfl ?_ | refine sT rfl ?_ | refine sB rfl ?_)
    | (with_reducible refine Y9 ?_; first | refine Y5 ?_ | (refine ao1 rfl rfl fun K HK => ?_; simp only [go_sem, ↓reduceIte, Z0, Z2, Z1, Z3, Z4, Z6, Z7, Z8, Y4 l, hk, Z5]; (first | refine Y8 (fun hq => ?_) (fun hq => ?_) | skip) <;> (refine HK _ _ ?_; clear HK K)) | (refine ao2 rfl rfl rfl Yo2 (hb _ (by first | rfl | simp)) ?_; rintro _ _ ⟨rfl, rfl⟩) | (refine ao2 rfl rfl rfl Yi6 (ht _ (by first | rfl | simp)) ?_; rintro _ _ ⟨rfl, rfl⟩) | (refine ao1' rfl fun K HK => ?_; simp only [go_sem, ↓reduceIte, Z0, Z2, Z1, Z3, Z4, Z6, Z7, Z8, Y4 l, hk, Z5]; refine HK _ _ ?_; clear HK K))
    | (exfalso; omega)
   exact ⟨.inr rfl, endR (s' := (Yx s1).2) (ds := [.agg [.v (.int .i64 1), .buf 4 1, .v (.slice none 0 0), .v (.slice none 0 0)]]) (r := .agg [.v (.int .i64 1), .sl 1 [strX (Yx s1).1], .v (.slice none 0 0), .v (.slice none 0 0)]) (T := _) (by simp only [resD, Tryz.results111, go_sem, ↓reduceIte, Z0, Z2, Z1, nilV]; try rfl) rfl (by simp [low, lowL, lowR, strX]) (by simp [outD, cvD, cv1]; rfl) ⟨_, ⟨rfl, rfl⟩, Zq8 (U1 _) Xs Xs⟩⟩
 · rw [if_neg hb1, Zt8]
   have hb2 : ¬ (b : Int) = 1 := by omega
   repeat' first
    | (with_reducible first | refine sA rfl ?_ | refine sI rfl rfl ?_ | refine sT rfl ?_ | refine sB rfl ?_)
    | (with_reducible refine Y9 ?_; first | refine Y5 ?_ | (refine ao1 rfl rfl fun K HK => ?_; simp only [go_sem, ↓reduceIte, Z0, Z2, Z1, Z3, Z4, Z6, Z7, Z8, Y4 l, hk, hb2, Z5] <;> (refine HK _ _ ?_; clear HK K)) | (refine ao2 rfl rfl rfl Yo2 (hb _ (by first | rfl | simp)) ?_; rintro _ _ ⟨rfl, rfl⟩) | (refine ao1' rfl fun K HK => ?_; simp only [go_sem, ↓reduceIte, Z0, Z2, Z1, Z3, Z4, Z6, Z7, Z8, Y4 l, hk, hb2, Z5]; refine HK _ _ ?_; clear HK K))
   exact ⟨.inr rfl, endR (s' := s1) (ds := [.agg [.v (.int .i64 b), .v (.slice none 0 0), .v (.slice none 0 0), .v (.slice none 0 0)]]) (r := .agg [.v (.int .i64 b), .v (.slice none 0 0), .v (.slice none 0 0), .v (.slice none 0 0)]) (T := _) (by simp only [resD, Tryz.results111, go_sem, ↓reduceIte, Z0, Z2, Z1, nilV]; try rfl) rfl (by simp [low, lowL]) (by simp [outD, cvD, cv1]) ⟨_, ⟨rfl, rfl⟩, Zq8 Xs Xs Xs⟩⟩
end
section
attribute [local irreducible] on aOp
attribute [local go_sem] decide_true decide_false Zp Zn
attribute [local simp] byD_len
theorem LoopAt.next2 {α : Type} {R : List α × RS} {f : RS → α × RS} {acc : List α} {k : Nat} {s : RS} (h : LoopAt R f acc k s) (hk : 0 < k) (he : s.err = 0) : LoopAt R f (acc ++ [(f s).1]) (k - 1) (f s).2 := by
 obtain ⟨j, rfl⟩ : ∃ j, k = j + 1 := ⟨k - 1, by omega⟩
 exact h.step he
theorem LoopAt.stop2 {α : Type} {R : List α × RS} {f : RS → α × RS} {acc : List α} {k : Nat} {s : RS} (h : LoopAt R f acc k s) (hk : ¬ (0 < k ∧ s.err = 0)) : R = (acc, s) := by
 by_cases h0 : k = 0
 · subst h0; exact h.end0
 · exact h.endE (fun q => hk ⟨by omega, q⟩)
theorem Yg9 (s : ByteArray) : Xd 1 [strX s] := fun row hr => by
 simp only [Zs] at hr; subst hr
 exact ⟨rfl, fun d hd => by simp only [strX, Zs] at hd; subst hd; rfl⟩
theorem low_vaR (n : Int) (ns : List ByteArray) : low 0 (.agg [.v (.int .i64 n), .sl 1 (ns.map strX), .v (.slice none 0 0), .v (.slice none 0 0)]) := by
 rw [low]; simp only [lowL]; exact ⟨by simp [low], Zc5 _ ns, by simp [low], by simp [low], trivial⟩
variable (G : Nat → D) (hG : ∀ g, low 0 (G g))
include hG
theorem read_410 (l : Lat) (hk : l.kind = 4 ∨ l.kind = 10) : ReadD G l := fun s ho hl => by
 rw [rd_410 hk, Zt8]
 have hb := fun (h : List Ob) (k : h[0]? = some (Yc s)) => Zo4 G hG 0 s h k ho (by omega)
 obtain ⟨ho2, hd2, hc2⟩ := U5 ho
 generalize Yb s = b at *
 obtain ⟨N, s1⟩ := b
 simp only at hb ho2 hd2 hc2 ⊢
 generalize hR : Yy Yx N s1 = R
 have h5 : ¬ l.kind = 5 := by omega
 have h5d : decide (l.kind = 5) = false := decide_eq_false h5
 have hgo : ∀ (H : l.kind = 4 ∨ l.kind = 10), True := fun _ => trivial
 clear hgo
 apply Does.weak
 refine Y7 Tryz.func111 rfl (Zi rfl) hG fun hl0 _ => ?_
 simp only [Tryz.ntmps111]
 have hk' := hk
 rcases hk with hk | hk
 all_goals
  skip
  repeat' first
   | (with_reducible first | refine sA rfl ?_ | refine sI rfl rfl ?_ | refine sT rfl ?_)
   | (with_reducible refine Y9 ?_; first | refine Y5 ?_ | (refine ao1 rfl rfl fun K HK => ?_; simp only [go_sem, ↓reduceIte, Z0, Z2, Z1, Z3, Z4, Z6, Z7, Z8, Y4 l, hk, Z5] <;> (refine HK _ _ ?_; clear HK K)) | (refine ao2 rfl rfl rfl ent_49 (hb _ (by first | rfl | simp)) ?_; rintro _ _ ⟨rfl, rfl⟩))
  refine U9 9 1 3 [.v (.int .i64 0)] [.v (.slice none 0 0), .v (.slice none 0 0)] rfl ?_
  refine Yp (fun m e h' => ∃ (k : Nat) (acc : List ByteArray) (s2 : RS) (T : List Ob), m = k ∧ LoopAt R Yx acc k s2 ∧ s2.Ok ∧ s2.data.length = s.data.length ∧ acc.length + k ≤ 1000000 ∧ h' = q5 (Yc s2) (.cells (latX l)) (.cells nilV) (.cells [.v (.int .i64 0), .buf 4 acc.length, .v (.slice none 0 0), .v (.slice none 0 0)]) (.buf 9 1 (acc.map strX)) T ∧ e 0 = .ptr 0 0 ∧ e 3 = .ptr 1 0 ∧ e 4 = .ptr 2 0 ∧ e 5 = .ptr 3 0 ∧ e 6 = .v (.int .i64 k)) N ⟨N, [], s1, [], rfl, hR ▸ LoopAt.start Yx N s1, ho2, by rw [hd2], by simp; omega, by rw [Y4 l, hk]; rfl, rfl, rfl, rfl, rfl, rfl⟩ ?_
  rintro m e h' ⟨k, acc, s2, T, rfl, hLp, hoA, hdA, hlen, rfl, e0, e3, e4, e5, e6⟩
  have hEr := fun (h : List Ob) (q : h[0]? = some (Yc s2)) => rErr_d G hG 0 s2 h q
  have hlA : s2.data.length ≤ 1000000 := by omega
  have ht := fun (h : List Ob) (q : h[0]? = some (Yc s2)) => Yb0 G hG 0 s2 h q hoA (by omega)
  by_cases hgo : 0 < m ∧ s2.err = 0
  · obtain ⟨hm0, he0⟩ := hgo
    have he0d : decide (s2.err = 0) = true := decide_eq_true he0
    have hm0d : decide ((0 : Int) < (m : Int)) = true := decide_eq_true (by omega)
    have wk : IntKind.i64.wrap ((m : Int) - 1) = ((m - 1 : Nat) : Int) := by rw [show (m : Int) - 1 = ((m - 1 : Nat) : Int) by omega]; exact IntWalk.i64_in _ (by omega)
    have hlr : (acc.map strX).length = acc.length := Z9 _
    have hok := (Vc hoA).1
    have hdk := (Vc hoA).2.1
    have hN := hLp.next2 hm0 he0
    repeat' first
     | (with_reducible first | refine sA rfl ?_ | refine sI rfl rfl ?_ | refine sT rfl ?_ | refine sB rfl ?_)
     | (with_reducible refine W2 ?_; first | refine W3 mixd (by kernel_rfl) ?_)
     | (with_reducible refine Y9 ?_; first | refine Y5 ?_ | (refine ao1 rfl rfl fun K HK => ?_; (first | refine Y6 rfl ?_ | skip); simp only [go_sem, ↓reduceIte, Z0, Z2, Z1, Z3, Z4, Z6, Z7, Z8, Y4 l, hk, h5d, e0, e3, e4, e5, e6, he0d, hm0d, wk, q5_0, q5_1, q5_2, q5_3, q5_4, Wl, Wj, Xw, Wi, Wh, X2, X8, q5_l, Wg, Wn, X7, Wm, X6, Ze, Zc, Zf, Zb, Zd, Zg, Z5] <;> (refine HK _ _ ?_; clear HK K)))
     | ((with_reducible refine Yc7 ?_); first | (refine Zt7 rfl rfl rfl rfl (by (first | (simp only [go_sem, ↓reduceIte, Z0, Z2, Z1, Z3, Z4, Z6, Z7, Z8, Y4 l, hk, h5d, e0, e3, e4, e5, e6, he0d, hm0d, wk, q5_0, q5_1, q5_2, q5_3, q5_4, Wl, Wj, Xw, Wi, Wh, X2, X8, q5_l, Wg, Wn, X7, Wm, X6, Ze, Zc, Zf, Zb, Zd, Zg, Z5]; rfl) | (simp only [go_sem, ↓reduceIte, Z0, Z2, Z1, Z3, Z4, Z6, Z7, Z8, Y4 l, hk, h5d, e0, e3, e4, e5, e6, he0d, hm0d, wk, q5_0, q5_1, q5_2, q5_3, q5_4, Wl, Wj, Xw, Wi, Wh, X2, X8, q5_l, Wg, Wn, X7, Wm, X6, Ze, Zc, Zf, Zb, Zd, Zg, Z5]; done))) hlr (by simp only [go_sem]; rfl) (by (first | (simp only [go_sem, ↓reduceIte, Z0, Z2, Z1, Z3, Z4, Z6, Z7, Z8, Y4 l, hk, h5d, e0, e3, e4, e5, e6, he0d, hm0d, wk, q5_0, q5_1, q5_2, q5_3, q5_4, Wl, Wj, Xw, Wi, Wh, X2, X8, q5_l, Wg, Wn, X7, Wm, X6, Ze, Zc, Zf, Zb, Zd, Zg, Z5]; rfl) | (simp only [go_sem, ↓reduceIte, Z0, Z2, Z1, Z3, Z4, Z6, Z7, Z8, Y4 l, hk, h5d, e0, e3, e4, e5, e6, he0d, hm0d, wk, q5_0, q5_1, q5_2, q5_3, q5_4, Wl, Wj, Xw, Wi, Wh, X2, X8, q5_l, Wg, Wn, X7, Wm, X6, Ze, Zc, Zf, Zb, Zd, Zg, Z5]; done))) (by simp) (Yg9 _) (by simp; omega) ?_) | (refine aS1 rfl rfl fun K HK => ?_; (first | refine Y6 rfl ?_ | skip); simp only [go_sem, ↓reduceIte, Z0, Z2, Z1, Z3, Z4, Z6, Z7, Z8, Y4 l, hk, h5d, e0, e3, e4, e5, e6, he0d, hm0d, wk, q5_0, q5_1, q5_2, q5_3, q5_4, Wl, Wj, Xw, Wi, Wh, X2, X8, q5_l, Wg, Wn, X7, Wm, X6, Ze, Zc, Zf, Zb, Zd, Zg, Z5] <;> (refine HK _ _ rfl ?_; clear HK K)) | refine Ws rfl rfl rfl (by (first | (simp only [go_sem, ↓reduceIte, Z0, Z2, Z1, Z3, Z4, Z6, Z7, Z8, Y4 l, hk, h5d, e0, e3, e4, e5, e6, he0d, hm0d, wk, q5_0, q5_1, q5_2, q5_3, q5_4, Wl, Wj, Xw, Wi, Wh, X2, X8, q5_l, Wg, Wn, X7, Wm, X6, Ze, Zc, Zf, Zb, Zd, Zg, Z5]; rfl) | (simp only [go_sem, ↓reduceIte, Z0, Z2, Z1, Z3, Z4, Z6, Z7, Z8, Y4 l, hk, h5d, e0, e3, e4, e5, e6, he0d, hm0d, wk, q5_0, q5_1, q5_2, q5_3, q5_4, Wl, Wj, Xw, Wi, Wh, X2, X8, q5_l, Wg, Wn, X7, Wm, X6, Ze, Zc, Zf, Zb, Zd, Zg, Z5]; done))) (by rw [getD_one (by simp only [go_sem, ↓reduceIte, Z0, Z2, Z1, Z3, Z4, Z6, Z7, Z8, Y4 l, hk, h5d, e0, e3, e4, e5, e6, he0d, hm0d, wk, q5_0, q5_1, q5_2, q5_3, q5_4, Wl, Wj, Xw, Wi, Wh, X2, X8, q5_l, Wg, Wn, X7, Wm, X6, Ze, Zc, Zf, Zb, Zd, Zg, Z5])]; rfl) ?_ | refine J2 rfl rfl (by (first | (simp only [go_sem, ↓reduceIte, Z0, Z2, Z1, Z3, Z4, Z6, Z7, Z8, Y4 l, hk, h5d, e0, e3, e4, e5, e6, he0d, hm0d, wk, q5_0, q5_1, q5_2, q5_3, q5_4, Wl, Wj, Xw, Wi, Wh, X2, X8, q5_l, Wg, Wn, X7, Wm, X6, Ze, Zc, Zf, Zb, Zd, Zg, Z5]; rfl) | (simp only [go_sem, ↓reduceIte, Z0, Z2, Z1, Z3, Z4, Z6, Z7, Z8, Y4 l, hk, h5d, e0, e3, e4, e5, e6, he0d, hm0d, wk, q5_0, q5_1, q5_2, q5_3, q5_4, Wl, Wj, Xw, Wi, Wh, X2, X8, q5_l, Wg, Wn, X7, Wm, X6, Ze, Zc, Zf, Zb, Zd, Zg, Z5]; done))) rfl (by simp only [go_sem, ↓reduceIte, Z0, Z2, Z1, Z3, Z4, Z6, Z7, Z8, Y4 l, hk, h5d, e0, e3, e4, e5, e6, he0d, hm0d, wk, q5_0, q5_1, q5_2, q5_3, q5_4, Wl, Wj, Xw, Wi, Wh, X2, X8, q5_l, Wg, Wn, X7, Wm, X6, Ze, Zc, Zf, Zb, Zd, Zg, Z5]) (by simp) ?_ | refine Ze4 rfl rfl (by simp only [litD, Wv, go_sem, Zd, Zg, Option.map_some, Option.bind_some, and_self, ↓reduceIte, Z0, Z2, Z1, Z3, Z4, Z6, Z7, Z8, Y4 l, hk, h5d, e0, e3, e4, e5, e6, he0d, hm0d, wk, q5_0, q5_1, q5_2, q5_3, q5_4, Wl, Wj, Xw, Wi, Wh, X2, X8, q5_l, Wg, Wn, X7, Wm, X6, Ze, Zc, Zf, Zb, Zd, Zg, Z5]; rfl) ?_ | refine Us (by simp only [List.reverse_cons, List.reverse_nil, Zf, Zc, Vo, chk1]; repeat' (first | exact trivial | refine And.intro ?_ ?_ | exact .inr Xg | exact .inr Xr | exact .inr (Va (by omega)) | exact .inr (Zq2 (by omega)) | (refine .inr ?_; simp [compat, J3, Vt, Up, nop, X2] <;> omega) | exact .inl (by kernel_rfl))) ?_ | refine U0 rfl rfl rfl Yi6 (by (first | (simp only [go_sem, ↓reduceIte, Z0, Z2, Z1, Z3, Z4, Z6, Z7, Z8, Y4 l, hk, h5d, e0, e3, e4, e5, e6, he0d, hm0d, wk, q5_0, q5_1, q5_2, q5_3, q5_4, Wl, Wj, Xw, Wi, Wh, X2, X8, q5_l, Wg, Wn, X7, Wm, X6, Ze, Zc, Zf, Zb, Zd, Zg, Z5]; rfl) | (simp only [go_sem, ↓reduceIte, Z0, Z2, Z1, Z3, Z4, Z6, Z7, Z8, Y4 l, hk, h5d, e0, e3, e4, e5, e6, he0d, hm0d, wk, q5_0, q5_1, q5_2, q5_3, q5_4, Wl, Wj, Xw, Wi, Wh, X2, X8, q5_l, Wg, Wn, X7, Wm, X6, Ze, Zc, Zf, Zb, Zd, Zg, Z5]; done))) (fun h2 k2 => ht h2 k2) ?_)
     | ((with_reducible refine Y9 ?_); first | (refine ao2 rfl rfl rfl Zj2 (hEr _ (by first | rfl | simp)) ?_; rintro _ _ ⟨rfl, rfl⟩))
    exact ⟨rfl, m - 1, by omega, m - 1, acc ++ [(Yx s2).1], (Yx s2).2, _, rfl, hN, hok, by rw [← hdA]; exact congrArg List.length hdk, by simp; omega, by rw [Y4 l, Zw, Zb, hk]; rfl, e0, e3, e4, e5, rfl⟩
  · have hst := hLp.stop2 hgo
    rw [hst]
    have hgo2 : ¬ (0 < (m : Int)) ∨ (0 < (m : Int) ∧ ¬ s2.err = 0) := by omega
    rcases hgo2 with hm0 | ⟨hm0, he0⟩
    · skip
      repeat' first
       | (with_reducible first | refine sA rfl ?_ | refine sI rfl rfl ?_ | refine sT rfl ?_ | refine sB rfl ?_)
       | (with_reducible refine Y9 ?_; first | refine Y5 ?_ | (refine ao1 rfl rfl fun K HK => ?_; (first | refine Y6 rfl ?_ | skip); simp only [go_sem, ↓reduceIte, Z0, Z2, Z1, Z3, Z4, Z6, Z7, Z8, e0, e3, e4, e5, e6, hm0, q5_0, q5_1, q5_2, q5_3, q5_4, Wl, Wj, Xw, Wi, Wh, X2, X8, q5_l, Wg, Wn, X7, Wm, X6, nilV, Z5] <;> (refine HK _ _ ?_; clear HK K)) | refine ao0 rfl rfl ?_ | (refine ao1' rfl fun K HK => ?_; simp only [go_sem, ↓reduceIte, Z0, Z2, Z1, Z3, Z4, Z6, Z7, Z8, e0, e3, e4, e5, e6, hm0, q5_0, q5_1, q5_2, q5_3, q5_4, Wl, Wj, Xw, Wi, Wh, X2, X8, q5_l, Wg, Wn, X7, Wm, X6, nilV, Z5]; refine HK _ _ ?_; clear HK K))
      exact ⟨.inr rfl, endR (s' := s2) (ds := [.agg [.v (.int .i64 0), .buf 4 acc.length, .v (.slice none 0 0), .v (.slice none 0 0)]]) (r := .agg [.v (.int .i64 0), .sl 1 (acc.map strX), .v (.slice none 0 0), .v (.slice none 0 0)]) (T := _) (by simp only [resD, Tryz.results111, go_sem, ↓reduceIte, Z0, Z2, Z1, e4, nilV, q5_2, Xw]; try rfl) rfl (low_vaR _ _) (by simp [outD, cvD, cv1]) ⟨_, ⟨rfl, rfl⟩, Zq8 (U1 _) Xs Xs⟩⟩
    · skip
      repeat' first
       | (with_reducible first | refine sA rfl ?_ | refine sI rfl rfl ?_ | refine sT rfl ?_ | refine sB rfl ?_)
       | (with_reducible refine Y9 ?_; first | refine Y5 ?_ | (refine ao1 rfl rfl fun K HK => ?_; (first | refine Y6 rfl ?_ | skip); simp only [go_sem, ↓reduceIte, Z0, Z2, Z1, Z3, Z4, Z6, Z7, Z8, e0, e3, e4, e5, e6, hm0, he0, q5_0, q5_1, q5_2, q5_3, q5_4, Wl, Wj, Xw, Wi, Wh, X2, X8, q5_l, Wg, Wn, X7, Wm, X6, nilV, Z5] <;> (refine HK _ _ ?_; clear HK K)) | (refine ao1' rfl fun K HK => ?_; simp only [go_sem, ↓reduceIte, Z0, Z2, Z1, Z3, Z4, Z6, Z7, Z8, e0, e3, e4, e5, e6, hm0, he0, q5_0, q5_1, q5_2, q5_3, q5_4, Wl, Wj, Xw, Wi, Wh, X2, X8, q5_l, Wg, Wn, X7, Wm, X6, nilV, Z5]; refine HK _ _ ?_; clear HK K))
       | ((with_reducible refine Y9 ?_); first | (refine ao2 rfl rfl rfl Zj2 (hEr _ (by first | rfl | simp)) ?_; rintro _ _ ⟨rfl, rfl⟩))
      exact ⟨.inr rfl, endR (s' := s2) (ds := [.agg [.v (.int .i64 0), .buf 4 acc.length, .v (.slice none 0 0), .v (.slice none 0 0)]]) (r := .agg [.v (.int .i64 0), .sl 1 (acc.map strX), .v (.slice none 0 0), .v (.slice none 0 0)]) (T := _) (by simp only [resD, Tryz.results111, go_sem, ↓reduceIte, Z0, Z2, Z1, e4, nilV, q5_2, Xw]; try rfl) rfl (low_vaR _ _) (by simp [outD, cvD, cv1]) ⟨_, ⟨rfl, rfl⟩, Zq8 (U1 _) Xs Xs⟩⟩
end
end Go.Proofs.YtgkjcmglcnhpaaaGreatDoor
