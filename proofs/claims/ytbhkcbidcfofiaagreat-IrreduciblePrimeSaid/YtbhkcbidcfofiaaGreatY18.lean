/-
  What the statements of the chapter share, part 18: VA3.
-/
import Derived.Test.YtbhkcbidcfofiaaGreatY14
import Derived.Test.YtbhkcbidcfofiaaGreatY15
import Derived.Test.YtbhkcbidcfofiaaGreatY16
set_option linter.unusedVariables false
set_option linter.unusedSimpArgs false
set_option maxRecDepth 100000
set_option maxHeartbeats 8000000
namespace Go.Proofs.YtbhkcbidcfofiaaGreat
open _root_.List renaming length_drop → Z0, length_append → Z1, append_assoc → Z2, eq_nil_of_length_eq_zero → Z3, length_nil → Z4, length_cons → Z5, map_append → Z6, length_map → Z8
open _root_.Nat renaming le_of_ble_eq_true → Z7
open _root_.Go.Proofs.Tryz renaming prog → Z9
open Go.RowKit
section
attribute [local irreducible] on aOp
attribute [local go_sem] decide_true decide_false Bool.not_true Bool.not_false
attribute [local simp] byD_len
theorem Zr9 (A : List Tk) : D.sl 2 (List.drop (Int.toNat 1) (List.take (Int.toNat ((A.map tkX).length : Int)) (A.map tkX))) = .sl 2 ((A.drop 1).map tkX) := by rw [Int.toNat_natCast, List.take_length, List.map_drop]; rfl
theorem Zv2 (A : List Tk) : D.sl 2 (List.drop (Int.toNat 1) (List.take (Int.toNat (A.length : Int)) (A.map tkX))) = .sl 2 ((A.drop 1).map tkX) := by
 rw [show A.length = (A.map tkX).length by simp]; exact Zr9 A
theorem head_of {A : List Tk} (h : A.length ≠ 0) : ∃ x, A[0]? = some x ∧ A = x :: A.drop 1 := by
 cases A with
 | nil => exact absurd rfl h
 | cons x t => exact ⟨x, rfl, rfl⟩
variable (G : Nat → D) (hG : ∀ g, low 0 (G g))
include hG
attribute [local go_sem] Bool.false_eq_true Int.reduceEq Int.reduceLE Int.reduceLT Int.toNat_zero Z2 List.cons_append Z8 Z4 List.map_nil List.nil_append Nat.reduceAdd Nat.reduceBEq Nat.reduceEqDiff Nat.reduceLeDiff Nat.reduceMul bM_0 bM_app bM_l bM_len bM_s0 bM_sl Zx9
attribute [local go_sem ↓] reduceIte
theorem walk0 (f : FuncId) (ch : Int → Int → Int) (he : entB Z9 f = true) (hf : ∀ (m n : Int) (h : List Ob), Does Z9 G f h [.v (.int .i64 m), .v (.int .i64 n)] (fun h' r => h' = h ∧ r = .v (.int .i64 (ch m n))))
 (a b : List Tk) (va : X2 a = true) (vb : X2 b = true) : Does Z9 G 256 [] [.sl 2 (a.map tkX), .sl 2 (b.map tkX), .fn f []] (fun h' r => h' = [.buf 84 2 ((Xu ch a b).map tkX)] ∧ r = .buf 0 (Xu ch a b).length) := by
 have la := Yj0 va
 have lb := Yj0 vb
 have ha := Ul G hG a (by omega)
 have hb := Ul G hG b (by omega)
 rw [va] at ha
 rw [vb] at hb
 refine Does.only0 hG (Jj _ _) (K := fun h' r => ∃ i, h'[i]? = some (.buf 84 2 ((Xu ch a b).map tkX)) ∧ r = .buf i (Xu ch a b).length) ?_ (fun _ _ h => h)
 refine Vo Tryz.func256 rfl (Z7 rfl) ?_
 simp only [Tryz.ntmps256]
 repeat' first
  | refine g0 ?_
  | (with_reducible refine Y7 ?_; first | refine gc rfl rfl rfl Uq (ha _) ?_ | refine gc rfl rfl rfl Uq (hb _) ?_)
 refine Zh8 84 2 7 rfl ?_
 refine Yh (fun m e h' => ∃ (A B acc : List Tk) (T : List Ob), m = A.length + B.length ∧ Xu ch a b = acc ++ Xu ch A B ∧ acc.length + A.length + B.length ≤ 128 ∧ h' = bM (.buf 84 2 (acc.map tkX)) T ∧ e 0 = .sl 2 (A.map tkX) ∧ e 1 = .sl 2 (B.map tkX) ∧ e 2 = .fn f [] ∧ e 7 = .buf 0 acc.length) (a.length + b.length) ⟨a, b, [], [], rfl, rfl, by simp; omega, rfl, rfl, rfl, rfl, rfl⟩ ?_
 rintro m e h' ⟨A, B, acc, T, rfl, ho, hl, rfl, e0, e1, e2, e7⟩
 have hAl : (A.map tkX).length = A.length := Z8 _
 have hBl : (B.map tkX).length = B.length := Z8 _
 by_cases hA : A.length = 0
 · obtain rfl : A = [] := Z3 hA
   by_cases hB : B.length = 0
   · obtain rfl : B = [] := Z3 hB
     rw [walk_nn, List.append_nil] at ho
     rw [ho]
     have F : _ ∧ _ ∧ _ ∧ _ := ⟨e0, e1, e2, e7⟩
     repeat' first
      | (with_reducible refine Yc ?_; refine Y8 mixd (by kernel_rfl) ?_)
      | refine gg ?_
      | refine Two.mk (fun hq => ?_) fun hq => ?_
      | (exfalso; omega)
     exact ⟨.inr rfl, _, rfl, 0, bM_0, rfl⟩
   · obtain ⟨y, hy, hyc⟩ := head_of hB
     have ho2 : Xu ch a b = acc ++ Vy y.process (ch 0 y.n) (Xu ch [] (B.drop 1)) := by rw [ho, show Xu ch [] B = _ by conv => lhs; rw [hyc, walk_nc]]
     generalize hkk : ch 0 y.n = kk at ho2
     by_cases hk : 0 < kk
     · rw [Vy, if_pos hk] at ho2
       have F : _ ∧ _ ∧ _ ∧ _ ∧ _ := ⟨e0, e1, e2, e7, hkk⟩
       repeat' first
        | (with_reducible refine Yc ?_; refine Y8 mixd (by kernel_rfl) ?_)
        | (with_reducible refine Y7 ?_; (refine Xy rfl rfl rfl rfl bM_0 (by simp) (by simp only [go_sem]; rfl) bM_l (by simp) (by simp [Yz, D.one, Value.oneCell']) (by simp; omega) ?_))
        | refine gg ?_
        | refine Two.mk (fun hq => ?_) fun hq => ?_
        | (with_reducible refine Y7 ?_; (refine ao2 rfl rfl rfl he (hf _ _ _) ?_; rintro _ _ ⟨rfl, rfl⟩))
        | (exfalso; omega)
       all_goals try (exfalso; omega)
       exact ⟨rfl, (B.drop 1).length, by simp only [Z0]; omega, [], (B.drop 1), acc ++ [⟨y.process, kk⟩], _, by simp, by rw [ho2, Z2]; rfl, by simp only [Z0, Z1, Z5, Z4]; omega, by rw [Z6]; rfl, e0, by first | exact Zr9 B | exact Zv2 B, e2, by rw [Z1]; rfl⟩
     · rw [Vy, if_neg hk] at ho2
       have F : _ ∧ _ ∧ _ ∧ _ ∧ _ := ⟨e0, e1, e2, e7, hkk⟩
       repeat' first
        | (with_reducible refine Yc ?_; refine Y8 mixd (by kernel_rfl) ?_)
        | (with_reducible refine Y7 ?_; refine Xy rfl rfl rfl rfl (by (simp only [go_sem, F]; rfl)) (by simp) (by simp only [go_sem, F]; rfl) (by (simp only [go_sem, F]; rfl)) (by simp) (by (simp [Yz, D.one, Value.oneCell']; done)) (by omega) ?_)
        | refine gg ?_
        | refine Two.mk (fun hq => ?_) fun hq => ?_
        | (with_reducible refine Y7 ?_; (refine ao2 rfl rfl rfl he (hf _ _ _) ?_; rintro _ _ ⟨rfl, rfl⟩))
        | (exfalso; omega)
       all_goals try (exfalso; omega)
       exact ⟨rfl, (B.drop 1).length, by simp only [Z0]; omega, [], (B.drop 1), acc, _, by simp, ho2, by simp only [Z0]; omega, rfl, e0, by first | exact Zr9 B | exact Zv2 B, e2, e7⟩
 · obtain ⟨x, hx, hxc⟩ := head_of hA
   by_cases hB : B.length = 0
   · obtain rfl : B = [] := Z3 hB
     have ho2 : Xu ch a b = acc ++ Vy x.process (ch x.n 0) (Xu ch (A.drop 1) []) := by rw [ho, show Xu ch A [] = _ by conv => lhs; rw [hxc, walk_cn]]
     generalize hkk : ch x.n 0 = kk at ho2
     by_cases hk : 0 < kk
     · rw [Vy, if_pos hk] at ho2
       have F : _ ∧ _ ∧ _ ∧ _ ∧ _ := ⟨e0, e1, e2, e7, hkk⟩
       repeat' first
        | (with_reducible refine Yc ?_; refine Y8 mixd (by kernel_rfl) ?_)
        | (with_reducible refine Y7 ?_; (refine Xy rfl rfl rfl rfl bM_0 (by simp) (by simp only [go_sem]; rfl) bM_l (by simp) (by simp [Yz, D.one, Value.oneCell']) (by simp; omega) ?_))
        | refine gg ?_
        | refine Two.mk (fun hq => ?_) fun hq => ?_
        | (with_reducible refine Y7 ?_; (refine ao2 rfl rfl rfl he (hf _ _ _) ?_; rintro _ _ ⟨rfl, rfl⟩))
        | (exfalso; omega)
       all_goals try (exfalso; omega)
       exact ⟨rfl, (A.drop 1).length, by simp only [Z0]; omega, (A.drop 1), [], acc ++ [⟨x.process, kk⟩], _, by simp, by rw [ho2, Z2]; rfl, by simp only [Z0, Z1, Z5, Z4]; omega, by rw [Z6]; rfl, by first | exact Zr9 A | exact Zv2 A, e1, e2, by rw [Z1]; rfl⟩
     · rw [Vy, if_neg hk] at ho2
       have F : _ ∧ _ ∧ _ ∧ _ ∧ _ := ⟨e0, e1, e2, e7, hkk⟩
       repeat' first
        | (with_reducible refine Yc ?_; refine Y8 mixd (by kernel_rfl) ?_)
        | (with_reducible refine Y7 ?_; refine Xy rfl rfl rfl rfl (by (simp only [go_sem, F]; rfl)) (by simp) (by simp only [go_sem, F]; rfl) (by (simp only [go_sem, F]; rfl)) (by simp) (by (simp [Yz, D.one, Value.oneCell']; done)) (by omega) ?_)
        | refine gg ?_
        | refine Two.mk (fun hq => ?_) fun hq => ?_
        | (with_reducible refine Y7 ?_; (refine ao2 rfl rfl rfl he (hf _ _ _) ?_; rintro _ _ ⟨rfl, rfl⟩))
        | (exfalso; omega)
       all_goals try (exfalso; omega)
       exact ⟨rfl, (A.drop 1).length, by simp only [Z0]; omega, (A.drop 1), [], acc, _, by simp, ho2, by simp only [Z0]; omega, rfl, by first | exact Zr9 A | exact Zv2 A, e1, e2, e7⟩
   · obtain ⟨y, hy, hyc⟩ := head_of hB
     by_cases hlt : x.process < y.process
     · have eq1 : Xu ch A B = Vy x.process (ch x.n 0) (Xu ch (A.drop 1) B) := by rw [hxc, hyc, walk_lt _ _ _ _ _ hlt]; rfl
       have ho2 : Xu ch a b = acc ++ Vy x.process (ch x.n 0) (Xu ch (A.drop 1) B) := by rw [ho, eq1]
       generalize hkk : ch x.n 0 = kk at ho2
       by_cases hk : 0 < kk
       · rw [Vy, if_pos hk] at ho2
         have F : _ ∧ _ ∧ _ ∧ _ ∧ _ ∧ _ := ⟨e0, e1, e2, e7, hlt, hkk⟩
         repeat' first
          | (with_reducible refine Yc ?_; refine Y8 mixd (by kernel_rfl) ?_)
          | (with_reducible refine Y7 ?_; (refine Xy rfl rfl rfl rfl bM_0 (by simp) (by simp only [go_sem]; rfl) bM_l (by simp) (by simp [Yz, D.one, Value.oneCell']) (by simp; omega) ?_))
          | refine gg ?_
          | refine Two.mk (fun hq => ?_) fun hq => ?_
          | (with_reducible refine Y7 ?_; (refine ao2 rfl rfl rfl he (hf _ _ _) ?_; rintro _ _ ⟨rfl, rfl⟩))
          | (exfalso; omega)
         all_goals try (exfalso; omega)
         exact ⟨rfl, (A.drop 1).length + B.length, by simp only [Z0]; omega, (A.drop 1), B, acc ++ [⟨x.process, kk⟩], _, by simp, by rw [ho2, Z2]; rfl, by simp only [Z0, Z1, Z5, Z4]; omega, by rw [Z6]; rfl, by first | exact Zr9 A | exact Zv2 A, e1, e2, by rw [Z1]; rfl⟩
       · rw [Vy, if_neg hk] at ho2
         have F : _ ∧ _ ∧ _ ∧ _ ∧ _ ∧ _ := ⟨e0, e1, e2, e7, hlt, hkk⟩
         repeat' first
          | (with_reducible refine Yc ?_; refine Y8 mixd (by kernel_rfl) ?_)
          | (with_reducible refine Y7 ?_; refine Xy rfl rfl rfl rfl (by (simp only [go_sem, F]; rfl)) (by simp) (by simp only [go_sem, F]; rfl) (by (simp only [go_sem, F]; rfl)) (by simp) (by (simp [Yz, D.one, Value.oneCell']; done)) (by omega) ?_)
          | refine gg ?_
          | refine Two.mk (fun hq => ?_) fun hq => ?_
          | (with_reducible refine Y7 ?_; (refine ao2 rfl rfl rfl he (hf _ _ _) ?_; rintro _ _ ⟨rfl, rfl⟩))
          | (exfalso; omega)
         all_goals try (exfalso; omega)
         exact ⟨rfl, (A.drop 1).length + B.length, by simp only [Z0]; omega, (A.drop 1), B, acc, _, by simp, ho2, by simp only [Z0]; omega, rfl, by first | exact Zr9 A | exact Zv2 A, e1, e2, e7⟩
     by_cases hgt : y.process < x.process
     · have eq1 : Xu ch A B = Vy y.process (ch 0 y.n) (Xu ch A (B.drop 1)) := by rw [hxc, hyc, walk_gt _ _ _ _ _ hgt]; rfl
       have ho2 : Xu ch a b = acc ++ Vy y.process (ch 0 y.n) (Xu ch A (B.drop 1)) := by rw [ho, eq1]
       generalize hkk : ch 0 y.n = kk at ho2
       by_cases hk : 0 < kk
       · rw [Vy, if_pos hk] at ho2
         have F : _ ∧ _ ∧ _ ∧ _ ∧ _ ∧ _ ∧ _ := ⟨e0, e1, e2, e7, hlt, hgt, hkk⟩
         repeat' first
          | (with_reducible refine Yc ?_; refine Y8 mixd (by kernel_rfl) ?_)
          | (with_reducible refine Y7 ?_; (refine Xy rfl rfl rfl rfl bM_0 (by simp) (by simp only [go_sem]; rfl) bM_l (by simp) (by simp [Yz, D.one, Value.oneCell']) (by simp; omega) ?_))
          | refine gg ?_
          | refine Two.mk (fun hq => ?_) fun hq => ?_
          | (with_reducible refine Y7 ?_; (refine ao2 rfl rfl rfl he (hf _ _ _) ?_; rintro _ _ ⟨rfl, rfl⟩))
          | (exfalso; omega)
         all_goals try (exfalso; omega)
         exact ⟨rfl, A.length + (B.drop 1).length, by simp only [Z0]; omega, A, (B.drop 1), acc ++ [⟨y.process, kk⟩], _, by simp, by rw [ho2, Z2]; rfl, by simp only [Z0, Z1, Z5, Z4]; omega, by rw [Z6]; rfl, e0, by first | exact Zr9 B | exact Zv2 B, e2, by rw [Z1]; rfl⟩
       · rw [Vy, if_neg hk] at ho2
         have F : _ ∧ _ ∧ _ ∧ _ ∧ _ ∧ _ ∧ _ := ⟨e0, e1, e2, e7, hlt, hgt, hkk⟩
         repeat' first
          | (with_reducible refine Yc ?_; refine Y8 mixd (by kernel_rfl) ?_)
          | (with_reducible refine Y7 ?_; refine Xy rfl rfl rfl rfl (by (simp only [go_sem, F]; rfl)) (by simp) (by simp only [go_sem, F]; rfl) (by (simp only [go_sem, F]; rfl)) (by simp) (by (simp [Yz, D.one, Value.oneCell']; done)) (by omega) ?_)
          | refine gg ?_
          | refine Two.mk (fun hq => ?_) fun hq => ?_
          | (with_reducible refine Y7 ?_; (refine ao2 rfl rfl rfl he (hf _ _ _) ?_; rintro _ _ ⟨rfl, rfl⟩))
          | (exfalso; omega)
         all_goals try (exfalso; omega)
         exact ⟨rfl, A.length + (B.drop 1).length, by simp only [Z0]; omega, A, (B.drop 1), acc, _, by simp, ho2, by simp only [Z0]; omega, rfl, e0, by first | exact Zr9 B | exact Zv2 B, e2, e7⟩
     · have hpe : y.process = x.process := by omega
       have eq1 : Xu ch A B = Vy x.process (ch x.n y.n) (Xu ch (A.drop 1) (B.drop 1)) := by rw [hxc, hyc, walk_eq _ _ _ _ _ hpe]; rfl
       have ho2 : Xu ch a b = acc ++ Vy x.process (ch x.n y.n) (Xu ch (A.drop 1) (B.drop 1)) := by rw [ho, eq1]
       generalize hkk : ch x.n y.n = kk at ho2
       by_cases hk : 0 < kk
       · rw [Vy, if_pos hk] at ho2
         have F : _ ∧ _ ∧ _ ∧ _ ∧ _ ∧ _ ∧ _ := ⟨e0, e1, e2, e7, hlt, hgt, hkk⟩
         repeat' first
          | (with_reducible refine Yc ?_; refine Y8 mixd (by kernel_rfl) ?_)
          | (with_reducible refine Y7 ?_; (refine Xy rfl rfl rfl rfl bM_0 (by simp) (by simp only [go_sem]; rfl) bM_l (by simp) (by simp [Yz, D.one, Value.oneCell']) (by simp; omega) ?_))
          | refine gg ?_
          | refine Two.mk (fun hq => ?_) fun hq => ?_
          | (with_reducible refine Y7 ?_; (refine ao2 rfl rfl rfl he (hf _ _ _) ?_; rintro _ _ ⟨rfl, rfl⟩))
          | (exfalso; omega)
         all_goals try (exfalso; omega)
         exact ⟨rfl, (A.drop 1).length + (B.drop 1).length, by simp only [Z0]; omega, (A.drop 1), (B.drop 1), acc ++ [⟨x.process, kk⟩], _, by simp, by rw [ho2, Z2]; rfl, by simp only [Z0, Z1, Z5, Z4]; omega, by rw [Z6]; rfl, by first | exact Zr9 A | exact Zv2 A, by first | exact Zr9 B | exact Zv2 B, e2, by rw [Z1]; rfl⟩
       · rw [Vy, if_neg hk] at ho2
         have F : _ ∧ _ ∧ _ ∧ _ ∧ _ ∧ _ ∧ _ := ⟨e0, e1, e2, e7, hlt, hgt, hkk⟩
         repeat' first
          | (with_reducible refine Yc ?_; refine Y8 mixd (by kernel_rfl) ?_)
          | (with_reducible refine Y7 ?_; refine Xy rfl rfl rfl rfl (by (simp only [go_sem, F]; rfl)) (by simp) (by simp only [go_sem, F]; rfl) (by (simp only [go_sem, F]; rfl)) (by simp) (by (simp [Yz, D.one, Value.oneCell']; done)) (by omega) ?_)
          | refine gg ?_
          | refine Two.mk (fun hq => ?_) fun hq => ?_
          | (with_reducible refine Y7 ?_; (refine ao2 rfl rfl rfl he (hf _ _ _) ?_; rintro _ _ ⟨rfl, rfl⟩))
          | (exfalso; omega)
         all_goals try (exfalso; omega)
         exact ⟨rfl, (A.drop 1).length + (B.drop 1).length, by simp only [Z0]; omega, (A.drop 1), (B.drop 1), acc, _, by simp, ho2, by simp only [Z0]; omega, rfl, by first | exact Zr9 A | exact Zv2 A, by first | exact Zr9 B | exact Zv2 B, e2, e7⟩
theorem minus_d (a b : List Tk) (va : X2 a = true) (vb : X2 b = true) (h : List Ob) : Does Z9 G 233 h [.sl 2 (a.map tkX), .sl 2 (b.map tkX)] (fun h' r => h' = h ∧ r = .sl 2 ((Vw a b).map tkX)) := by
 refine Y9 G hG (by simp only [lowL]; exact ⟨Jj _ a, Jj _ b, trivial⟩) (Jj _ _) ?_ h
 clear h
 have hw := Does.gave0 hG (Jj _ _) (by simp only [lowL]; exact ⟨Jj _ a, Jj _ b, by simp [low, lowL], trivial⟩) (Z8 _) (walk0 G hG 257 Zm3 ent_257 (fun m n h => minusCh_d G hG m n h) a b va vb)
 unfold Vw
 refine Y6 Tryz.func233 rfl (Z7 rfl) hG fun hl0 _ => ?_
 simp only [Tryz.ntmps233]
 repeat' first
  | refine g0 ?_
  | (with_reducible refine Y7 ?_; refine gc rfl rfl rfl ent_256 (hw _) ?_)
 exact ⟨.inr rfl, endD (r := .sl 2 _) hl0 rfl (by simp) (by simp) rfl (Jj _ _) ⟨rfl, rfl⟩⟩
theorem Zj5 (a b : List Tk) (la : a.length ≤ 9223372036854775807) (lb : b.length ≤ 9223372036854775807) (h : List Ob) : Does Z9 G 193 h [.sl 2 (a.map tkX), .sl 2 (b.map tkX)] (fun h' r => h' = h ∧ r = .v (.int .i64 (Xx a b))) := by
 refine Y9 G hG (by simp only [lowL]; exact ⟨Jj _ a, Jj _ b, trivial⟩) (by rw [low]; trivial) ?_ h
 clear h
 have ha := Ul G hG a la
 have hb := Ul G hG b lb
 have hm := minus_d G hG a b
 have hn := minus_d G hG b a
 unfold Xx
 generalize X2 a = ca at *
 generalize X2 b = cb at *
 refine Y6 Tryz.func193 rfl (Z7 rfl) hG fun hl0 _ => ?_
 simp only [Tryz.ntmps193]
 cases ca
 · skip
   repeat' first
    | refine g0 ?_
    | (with_reducible refine Y7 ?_; refine gc rfl rfl rfl Uq (ha _) ?_)
   exact ⟨.inr rfl, endV hl0 rfl rfl ⟨rfl, rfl⟩⟩
 cases cb
 · skip
   repeat' first
    | refine g0 ?_
    | (with_reducible refine Y7 ?_; first | refine gc rfl rfl rfl Uq (ha _) ?_ | refine gc rfl rfl rfl Uq (hb _) ?_)
   exact ⟨.inr rfl, endV hl0 rfl rfl ⟨rfl, rfl⟩⟩
 have hm := hm rfl rfl
 have hn := hn rfl rfl
 generalize Vw a b = x at *
 generalize Vw b a = y at *
 repeat' first
  | refine gg ?_
  | refine Two.mk (fun hq => ?_) fun hq => ?_
  | (with_reducible refine Y7 ?_; first | refine gc rfl rfl rfl Uq (ha _) ?_ | refine gc rfl rfl rfl Uq (hb _) ?_ | refine gc rfl rfl rfl ent_233 (hm _) ?_ | refine gc rfl rfl rfl ent_233 (hn _) ?_)
 all_goals first | (exfalso; omega) | refine ⟨.inr rfl, endV hl0 rfl rfl ⟨rfl, congrArg (fun b => D.v (.int .i64 b)) ?_⟩⟩
 all_goals
  clear hl0
  by_cases hxl : x.length = 0 <;> by_cases hyl : y.length = 0 <;> simp [hxl, hyl] <;> omega
end
end Go.Proofs.YtbhkcbidcfofiaaGreat
