/-
  What the statements of the chapter share, part 25: VA11, VA12, PO2, PVS, VN2, LA4, LA5, SS0, JT1.
-/
import Derived.Test.YtbhkcbidcfofiaaGreatY14
import Derived.Test.YtbhkcbidcfofiaaGreatY15
import Derived.Test.YtbhkcbidcfofiaaGreatY16
import Derived.Test.YtbhkcbidcfofiaaGreatY21
import Derived.Test.YtbhkcbidcfofiaaGreatY22
import Derived.Test.YtbhkcbidcfofiaaGreatY23
import Derived.Test.YtbhkcbidcfofiaaGreatY24
import Derived.Lib.Strings
set_option linter.unusedVariables false
set_option linter.unusedSimpArgs false
set_option maxRecDepth 100000
set_option maxHeartbeats 8000000
namespace Go.Proofs.YtbhkcbidcfofiaaGreat
open _root_.Bool renaming false_eq_true → Z3, not_eq_true' → Z8, and_eq_true → Za, not_eq_true → Zb, not_false → Zm, not_true → Zt, false_and → Y2
open _root_.Int renaming reduceEq → Zn, reduceLE → Zo, reduceLT → Zp
open _root_.List renaming pairwise_cons → Z4, mem_cons → Z5, length_cons → Z9, getElem?_eq_getElem → Zc, length_append → Zd, length_eq_one_iff → Ze, drop_eq_nil_of_le → Zf, length_map → Zg, mem_append → Zk, mem_singleton → Zl, lt_irrefl → Zq, all_eq_true → Zr, filter_cons → Zs, eq_nil_of_length_eq_zero → Zu, nil_append → Zv, mem_filter → Zw, getElem?_append_right → Zx, cons_append → Zy, getElem_mem → Zz, length_nil → Y0, map_append → Y1
open _root_.Nat renaming le_of_ble_eq_true → Z0, reduceEqDiff → Z1, reduceLeDiff → Z2, reduceAdd → Z6, le_refl → Z7, reduceBEq → Zi, reduceMul → Zj, zero_le → Y3
open _root_.Go.Proofs.Tryz renaming prog → Zh
open Go.RowKit
section
attribute [local irreducible] on aOp
attribute [local go_sem] decide_true decide_false Zt Zm
attribute [local simp] byD_len
def w5 (R A Z V B : Ob) (T : List Ob) (X C : Ob) (U : List Ob) : List Ob := R :: A :: Z :: V :: B :: (T ++ X :: C :: U)
section
variable {R A Z V B X C y y' : Ob} {T U l : List Ob}
theorem w5_0 : (w5 R A Z V B T X C U)[0]? = some R := rfl
theorem w5_1 : (w5 R A Z V B T X C U)[1]? = some A := rfl
theorem w5_2 : (w5 R A Z V B T X C U)[2]? = some Z := rfl
theorem w5_3 : (w5 R A Z V B T X C U)[3]? = some V := rfl
theorem w5_4 : (w5 R A Z V B T X C U)[4]? = some B := rfl
theorem w5_s0 : (w5 R A Z V B T X C U).set 0 y = w5 y A Z V B T X C U := rfl
theorem w5_s3 : (w5 R A Z V B T X C U).set 3 y = w5 R A Z y B T X C U := rfl
theorem w5_s4 : (w5 R A Z V B T X C U).set 4 y = w5 R A Z V y T X C U := rfl
theorem w5_x : (w5 R A Z V B T X C U)[T.length + 5]? = some X := by simp [w5]
theorem w5_c : (w5 R A Z V B T X C U)[T.length + 6]? = some C := by simp [w5, Zx]
theorem w5_sx : (w5 R A Z V B T X C U).set (T.length + 5) y = w5 R A Z V B T y C U := by simp [w5]
theorem w5_sc : (w5 R A Z V B T X C U).set (T.length + 6) y = w5 R A Z V B T X y U := by
 simp only [w5, List.set_cons_succ]
 rw [List.set_append_right _ _ (by omega)]; simp
theorem w5_len : (w5 R A Z V B T X C U).length = T.length + (U.length + 7) := by simp [w5]; omega
theorem w5_app : w5 R A Z V B T X C U ++ l = w5 R A Z V B T X C (U ++ l) := by simp [w5]
theorem w5_l : (w5 R A Z V B T X C (U ++ [y]))[T.length + (U.length + 7)]? = some y := by
 simp only [w5]
 rw [show T.length + (U.length + 7) = T.length + (U.length + 2) + 1 + 1 + 1 + 1 + 1 by omega]
 simp only [List.getElem?_cons_succ]
 rw [Zx (by omega), show T.length + (U.length + 2) - T.length = U.length + 1 + 1 by omega]
 simp
theorem w5_sl : (w5 R A Z V B T X C (U ++ [y])).set (T.length + (U.length + 7)) y' = w5 R A Z V B T X C (U ++ [y']) := by
 simp only [w5]
 rw [show T.length + (U.length + 7) = T.length + (U.length + 2) + 1 + 1 + 1 + 1 + 1 by omega]
 simp only [List.set_cons_succ]
 rw [List.set_append_right _ _ (by omega), show T.length + (U.length + 2) - T.length = U.length + 1 + 1 by omega]
 simp
end
theorem rd_9 {l : Lat} (h : l.kind = 9) (s : RS) : X8 l s = (.mk 0 [] [] (Xc J9 (Yc s).1 (Yc s).2).1, (Xc J9 (Yc s).1 (Yc s).2).2) := by
 cases l; simp only [Lat.kind] at h; subst h; exact readV_9 s
theorem low_vaE (n : Int) (es : List En) : low 0 (.agg [.v (.int .i64 n), .v (.slice none 0 0), .v (.slice none 0 0), .sl 2 (es.map enX)]) := by
 rw [low]; simp only [lowL]; exact ⟨by simp [low], by simp [low], by simp [low], low_ens2 _ es, trivial⟩
theorem rowsOk_tk (t : Tk) : X3 2 [tkX t] := fun row hr => by
 simp only [Zl] at hr; subst hr
 exact ⟨rfl, fun d hd => by simp only [tkX, Z5, List.mem_nil_iff, or_false] at hd; rcases hd with rfl | rfl <;> rfl⟩
variable (G : Nat → D) (hG : ∀ g, low 0 (G g))
include hG
attribute [local go_sem] Z3 Zn Zo Zp List.append_assoc Zy Zd Z9 Y0 Zv Z6 Zi Z1 Z2 Zj q5_0 q5_1 q5_2 q5_3 q5_4 q5_app q5_l q5_l2 q5_l3 Yb9 q5_s0 q5_s1 Yg7 q5_s3 q5_s4 q5_sl q5_sl2 q5_sl3 w5_0 w5_1 w5_2 w5_3 w5_4 w5_app w5_c w5_l w5_len w5_s0 w5_s3 w5_s4 w5_sc w5_sl w5_sx w5_x
attribute [local go_sem ↓] reduceIte
theorem read_9 (l : Lat) (hk : l.kind = 9) : ReadD G l := fun s ho hl => by
 rw [rd_9 hk, Zu9]
 have hb := fun (h : List Ob) (k : h[0]? = some (Yh s)) => Zx8 G hG 0 s h k ho (by omega)
 obtain ⟨ho2, hd2, hc2⟩ := Ud ho
 generalize Yc s = b at *
 obtain ⟨N, s1⟩ := b
 simp only at hb ho2 hd2 hc2 ⊢
 generalize hR : Xc J9 N s1 = R
 apply Does.weak
 refine Y6 Tryz.func106 rfl (Z0 rfl) hG fun hl0 _ => ?_
 simp only [Tryz.ntmps106]
 have F : _ ∧ _ := ⟨Y4 l, hk⟩
 repeat' first
  | refine g0 ?_
  | (with_reducible refine Y7 ?_; refine gc rfl rfl rfl Yq7 (hb _ (by first | rfl | simp)) ?_)
 refine Vl 69 2 3 [.v (.int .i64 0), .v (.slice none 0 0), .v (.slice none 0 0)] [] rfl ?_
 refine Yf (fun m e h' => ∃ (k : Nat) (acc : List En) (s2 : RS) (T : List Ob), m = k ∧ LoopAt R J9 acc k s2 ∧ s2.Ok ∧ s2.data.length = s.data.length ∧ acc.length + k ≤ 1000000 ∧ h' = q5 (Yh s2) (.cells (latX l)) (.cells nilV) (.cells [.v (.int .i64 0), .v (.slice none 0 0), .v (.slice none 0 0), .buf 4 acc.length]) (.buf 69 2 (acc.map enX)) T ∧ e 0 = .ptr 0 0 ∧ e 3 = .ptr 1 0 ∧ e 4 = .ptr 2 0 ∧ e 5 = .ptr 3 0 ∧ e 7 = .v (.int .i64 k)) N ⟨N, [], s1, [], rfl, hR ▸ LoopAt.start _ N s1, ho2, by rw [hd2], by simp; omega, by rw [Y4 l, hk]; rfl, rfl, rfl, rfl, rfl, rfl⟩ ?_
 rintro m e h' ⟨k, acc, s2, T, rfl, hLp, hoA, hdA, hlen, rfl, e0, e3, e4, e5, e7⟩
 have hEr := fun (h : List Ob) (q : h[0]? = some (Yh s2)) => rErr_d G hG 0 s2 h q
 have hlA : s2.data.length ≤ 1000000 := by omega
 by_cases hgo : 0 < m ∧ s2.err = 0
 rotate_left
 · have hst := hLp.stop2 hgo
   rw [hst]
   have hgo2 : ¬ (0 < (m : Int)) ∨ (0 < (m : Int) ∧ ¬ s2.err = 0) := by omega
   rcases hgo2 with hm0 | ⟨hm0, he0⟩
   · skip
     repeat' first
      | (with_reducible first | refine sA rfl ?_ | refine sI rfl rfl ?_ | refine sT rfl ?_ | refine sB rfl ?_)
      | (with_reducible refine Y7 ?_; first | refine Yp ?_ | (refine ao1 rfl rfl fun K HK => ?_; (first | refine Ym rfl ?_ | skip); simp only [go_sem, e0, e3, e4, e5, e7, hm0, nilV] <;> (refine HK _ _ ?_; clear HK K)) | refine ao0 rfl rfl ?_ | (refine ao1' rfl fun K HK => ?_; simp only [go_sem, e0, e3, e4, e5, e7, hm0, nilV]; refine HK _ _ ?_; clear HK K))
     exact ⟨.inr rfl, endR (s' := s2) (ds := [.agg [.v (.int .i64 0), .v (.slice none 0 0), .v (.slice none 0 0), .buf 4 acc.length]]) (r := .agg [.v (.int .i64 0), .v (.slice none 0 0), .v (.slice none 0 0), .sl 2 (acc.map enX)]) (T := _) (by simp only [resD, Tryz.results106, go_sem, ↓reduceIte, Z1, Z6, Z2, e4, nilV, q5_2, Yg7]; try rfl) rfl (low_vaE _ _) (by simp [outD, cvD, cv1]) ⟨_, ⟨rfl, rfl⟩, Us Yn Yn (X6 _)⟩⟩
   · skip
     repeat' first
      | (with_reducible first | refine sA rfl ?_ | refine sI rfl rfl ?_ | refine sT rfl ?_ | refine sB rfl ?_)
      | (with_reducible refine Y7 ?_; first | refine Yp ?_ | (refine ao1 rfl rfl fun K HK => ?_; (first | refine Ym rfl ?_ | skip); simp only [go_sem, e0, e3, e4, e5, e7, hm0, he0, nilV] <;> (refine HK _ _ ?_; clear HK K)) | (refine ao2 rfl rfl rfl Zh9 (hEr _ (by first | exact q5_0 | exact w5_0 | rfl)) ?_; rintro _ _ ⟨rfl, rfl⟩) | (refine ao1' rfl fun K HK => ?_; simp only [go_sem, e0, e3, e4, e5, e7, hm0, he0, nilV]; refine HK _ _ ?_; clear HK K))
     exact ⟨.inr rfl, endR (s' := s2) (ds := [.agg [.v (.int .i64 0), .v (.slice none 0 0), .v (.slice none 0 0), .buf 4 acc.length]]) (r := .agg [.v (.int .i64 0), .v (.slice none 0 0), .v (.slice none 0 0), .sl 2 (acc.map enX)]) (T := _) (by simp only [resD, Tryz.results106, go_sem, ↓reduceIte, Z1, Z6, Z2, e4, nilV, q5_2, Yg7]; try rfl) rfl (low_vaE _ _) (by simp [outD, cvD, cv1]) ⟨_, ⟨rfl, rfl⟩, Us Yn Yn (X6 _)⟩⟩
 obtain ⟨hm0, he0⟩ := hgo
 have he0d : decide (s2.err = 0) = true := decide_eq_true he0
 have hm0d : decide ((0 : Int) < (m : Int)) = true := decide_eq_true (by omega)
 have wm : IntKind.i64.wrap ((m : Int) - 1) = ((m - 1 : Nat) : Int) := by rw [show (m : Int) - 1 = ((m - 1 : Nat) : Int) by omega]; exact IntWalk.i64_in _ (by omega)
 have hN := hLp.next2 hm0 he0
 have hent : J9 s2 = (⟨(Xc Zf2 (Yc s2).1 (Yc s2).2).1, (Xg (Xc Zf2 (Yc s2).1 (Yc s2).2).2).1⟩, (Xg (Xc Zf2 (Yc s2).1 (Yc s2).2).2).2) := rfl
 rw [hent] at hN
 have hct := fun (h : List Ob) (q : h[0]? = some (Yh s2)) => Zx8 G hG 0 s2 h q hoA (by omega)
 obtain ⟨ho3, hd3, hc3⟩ := Ud hoA
 clear hent
 generalize Yc s2 = b at *
 obtain ⟨N2, s3⟩ := b
 simp only at hN hct ho3 hd3 hc3
 generalize hR2 : Xc Zf2 N2 s3 = R2 at hN
 have F : _ ∧ _ ∧ _ ∧ _ ∧ _ ∧ _ ∧ _ ∧ _ ∧ _ := ⟨Y4 l, hk, e0, e3, e4, e5, e7, he0d, hm0d⟩
 repeat' first
  | refine g0 ?_
  | (with_reducible refine Y7 ?_; first | refine gc rfl rfl rfl Zh9 (hEr _ (by first | exact q5_0 | exact w5_0 | rfl)) ?_ | refine gc rfl rfl rfl Yq7 (hct _ (by first | exact q5_0 | rfl)) ?_)
 refine Vl 84 2 (T.length + 5) [] [.v (.string ⟨#[]⟩)] (by first | exact q5_l | (simp [q5]; done)) ?_
 refine Yf (fun m2 e h' => ∃ (k : Nat) (tks : List Tk) (s4 : RS) (U : List Ob), m2 = k ∧ LoopAt R2 Zf2 tks k s4 ∧ s4.Ok ∧ s4.data.length = s.data.length ∧ tks.length + k ≤ 1000000 ∧ h' = w5 (Yh s4) (.cells (latX l)) (.cells nilV) (.cells [.v (.int .i64 0), .v (.slice none 0 0), .v (.slice none 0 0), .buf 4 acc.length]) (.buf 69 2 (acc.map enX)) T (.cells [.buf (T.length + 6) tks.length, .v (.string ⟨#[]⟩)]) (.buf 84 2 (tks.map tkX)) U ∧ e 0 = .ptr 0 0 ∧ e 3 = .ptr 1 0 ∧ e 4 = .ptr 2 0 ∧ e 5 = .ptr 3 0 ∧ e 7 = .v (.int .i64 m) ∧ e 8 = .ptr (T.length + 5) 0 ∧ e 9 = .v (.int .i64 k)) N2 ⟨N2, [], s3, [], rfl, hR2 ▸ LoopAt.start _ N2 s3, ho3, by rw [hd3, hdA], by simp; omega, by rw [Y4 l, hk]; simp [q5, w5], e0, e3, e4, e5, e7, rfl, rfl⟩ ?_
 clear e0 e3 e4 e5 e7
 rintro m2 e h' ⟨k2, tks, s4, U, rfl, hLp2, hoB, hdB, hlen2, rfl, e0, e3, e4, e5, e7, e8, e9⟩
 have hEr2 := fun (h : List Ob) (q : h[0]? = some (Yh s4)) => rErr_d G hG 0 s4 h q
 have hlB : s4.data.length ≤ 1000000 := by omega
 by_cases hgo : 0 < m2 ∧ s4.err = 0
 · obtain ⟨hm20, he20⟩ := hgo
   have he2d : decide (s4.err = 0) = true := decide_eq_true he20
   have hm2d : decide ((0 : Int) < (m2 : Int)) = true := decide_eq_true (by omega)
   have wm2 : IntKind.i64.wrap ((m2 : Int) - 1) = ((m2 - 1 : Nat) : Int) := by rw [show (m2 : Int) - 1 = ((m2 - 1 : Nat) : Int) by omega]; exact IntWalk.i64_in _ (by omega)
   have hN2 := hLp2.next2 hm20 he20
   have htick : Zf2 s4 = (⟨((Yr 63 s4).1 : Nat), ((Yr 1000000000000000 (Yr 63 s4).2).1 : Nat)⟩, (Yr 1000000000000000 (Yr 63 s4).2).2) := rfl
   rw [htick] at hN2
   have hs1 := fun (h : List Ob) (q : h[0]? = some (Yh s4)) => small_d G hG 0 63 s4 h (by omega) q hoB (by omega)
   simp only [rdSm_eq] at hs1
   obtain ⟨ho5, hd5⟩ := Vh 63 hoB
   clear htick
   generalize Yr 63 s4 = b at *
   obtain ⟨p, s5⟩ := b
   simp only at hN2 hs1 ho5 hd5
   have hs2 := fun (h : List Ob) (q : h[0]? = some (Yh s5)) => small_d G hG 0 1000000000000000 s5 h (by omega) q ho5 (by rw [hd5]; omega)
   simp only [rdSm_eq] at hs2
   obtain ⟨ho6, hd6⟩ := Vh 1000000000000000 ho5
   generalize Yr 1000000000000000 s5 = b at *
   obtain ⟨q, s6⟩ := b
   simp only at hN2 hs2 ho6 hd6
   have hlr : (tks.map tkX).length = tks.length := Zg _
   have F : _ ∧ _ ∧ _ ∧ _ ∧ _ ∧ _ ∧ _ ∧ _ ∧ _ ∧ _ := ⟨e0, e3, e4, e5, e7, e8, e9, he2d, hm2d, wm2⟩
   repeat' first
    | (with_reducible refine Ya ?_; refine X7 mixd (by kernel_rfl) ?_)
    | ((with_reducible refine Uf ?_); first | (refine Jz rfl rfl rfl rfl (by (first | (simp only [go_sem, F]; rfl) | (simp only [go_sem, F]; done))) hlr (by simp only [go_sem, F]; rfl) (by (first | (simp only [go_sem, F]; rfl) | (simp only [go_sem, F]; done))) (by simp) (rowsOk_tk ⟨p, q⟩) (by simp; omega) ?_) | (refine aS1 rfl rfl fun K HK => ?_; (first | refine Ym rfl ?_ | skip); simp only [go_sem, F] <;> (refine HK _ _ rfl ?_; clear HK K)) | refine Xq rfl rfl rfl (by (first | (simp only [go_sem, F]; rfl) | (simp only [go_sem, F]; done))) (by rw [getD_one (by simp only [go_sem, F])]; rfl) ?_ | refine Zd9 rfl rfl (by (first | (simp only [go_sem, F]; rfl) | (simp only [go_sem, F]; done))) rfl (by simp only [go_sem, F]) (by simp) ?_ | refine Jj rfl rfl (by simp only [litD, X1, go_sem, Z9, Y0, Option.map_some, Option.bind_some, and_self, ↓reduceIte, Z1, Z6, Z2, Zi, Zj, Zn, Zp, Zo, e0, e3, e4, e5, e7, e8, e9, he2d, hm2d, wm2, w5_0, w5_1, w5_2, w5_3, w5_4, w5_s0, w5_s3, w5_s4, w5_x, w5_c, w5_sx, w5_sc, w5_len, w5_app, w5_l, w5_sl, List.append_assoc, Zy, Zv, Zd, Z9, Y0, Z3]; rfl) ?_ | refine Wv (by simp only [List.reverse_cons, List.reverse_nil, Zv, Zy, Wc, chk1]; repeat' (first | exact trivial | refine And.intro ?_ ?_ | exact .inr Yq | exact .inr Yx | exact .inr (Vd (by omega)) | exact .inr (Zr2 (by omega)) | (refine .inr ?_; simp [compat, We, Wg, Va, nop, w5_len] <;> omega) | exact .inl (by kernel_rfl))) ?_ | refine Um rfl rfl rfl Yq6 (by (first | (simp only [go_sem, F]; rfl) | (simp only [go_sem, F]; done))) (fun h2 k2 => hs2 h2 k2) ?_)
    | refine g0 ?_
    | (with_reducible refine Y7 ?_; first | refine gc rfl rfl rfl Zh9 (hEr2 _ (by first | exact q5_0 | exact w5_0 | rfl)) ?_ | refine gc rfl rfl rfl Yq6 (hs1 _ (by first | exact w5_0 | rfl)) ?_)
   exact ⟨rfl, m2 - 1, by omega, m2 - 1, tks ++ [⟨p, q⟩], s6, _, rfl, hN2, ho6, by rw [hd6, hd5, hdB], by simp; omega, by rw [Y1, Zd]; rfl, e0, e3, e4, e5, e7, e8, rfl⟩
 have hst2 := hLp2.stop2 hgo
 subst hst2
 simp only at hN
 have ht := fun (h : List Ob) (q : h[0]? = some (Yh s4)) => Yo0 G hG 0 s4 h q hoB (by omega)
 have ht' : ∀ (h : List Ob), h[0]? = some (Yh s4) → Does Zh G 171 h [.ptr 0 0] (fun h' r => h' = h.set 0 (Yh (Xg s4).2) ∧ r = .v (.string (Xg s4).1)) := ht
 obtain ⟨ho7, hd7, _⟩ := Ue hoB
 have ho7' : (Xg s4).2.Ok := ho7
 have hd7' : (Xg s4).2.data = s4.data := hd7
 clear ht ho7 hd7
 generalize Xg s4 = tx at *
 obtain ⟨tx, s7⟩ := tx
 simp only at hN ho7' hd7' ht'
 have hlr : (acc.map enX).length = acc.length := Zg _
 have hgo2 : ¬ (0 < (m2 : Int)) ∨ (0 < (m2 : Int) ∧ ¬ s4.err = 0) := by omega
 rcases hgo2 with hm20 | ⟨hm20, he20⟩
 · skip
   have F : _ ∧ _ ∧ _ ∧ _ ∧ _ ∧ _ ∧ _ ∧ _ ∧ _ := ⟨e0, e3, e4, e5, e7, e8, e9, wm, hm20⟩
   repeat' first
    | (with_reducible refine Y7 ?_; first | (refine Yf9 (j := T.length + 6) (d' := .agg [.sl 2 (tks.map tkX), .v (.string tx)]) (by with_unfolding_all rfl) (by with_unfolding_all rfl) (by with_unfolding_all exact e8) w5_x (by with_unfolding_all (rw [getD_agg' aggT_69, szT_69]; rfl)) (by simp [cvD, cv1, w5_c]) ?_; simp only [w5_sc]) | refine W1 rfl rfl rfl rfl (by (simp only [go_sem, F]; rfl)) (by simp) (by simp only [go_sem, F]; rfl) (by (simp only [go_sem, F]; rfl)) (by simp) (by (simp [X3, D.one, Value.oneCell']; done)) (by (simp; omega)) ?_)
    | refine g0 ?_
    | (with_reducible refine Y7 ?_; refine gc rfl rfl rfl Ye3 (ht' _ (by first | exact w5_0 | rfl)) ?_)
   exact ⟨rfl, m - 1, by omega, m - 1, acc ++ [⟨tks, tx⟩], s7, _, rfl, hN, ho7', by rw [hd7', hdB], by simp; omega, by rw [Y1, Zd]; rfl, e0, e3, e4, e5, rfl⟩
 · skip
   have F : _ ∧ _ ∧ _ ∧ _ ∧ _ ∧ _ ∧ _ ∧ _ ∧ _ ∧ _ := ⟨e0, e3, e4, e5, e7, e8, e9, wm, hm20, he20⟩
   repeat' first
    | (with_reducible refine Y7 ?_; first | (refine Yf9 (j := T.length + 6) (d' := .agg [.sl 2 (tks.map tkX), .v (.string tx)]) (by with_unfolding_all rfl) (by with_unfolding_all rfl) (by with_unfolding_all exact e8) w5_x (by with_unfolding_all (rw [getD_agg' aggT_69, szT_69]; rfl)) (by simp [cvD, cv1, w5_c]) ?_; simp only [w5_sc]) | refine W1 rfl rfl rfl rfl (by (simp only [go_sem, F]; rfl)) (by simp) (by simp only [go_sem, F]; rfl) (by (simp only [go_sem, F]; rfl)) (by simp) (by (simp [X3, D.one, Value.oneCell']; done)) (by (simp; omega)) ?_)
    | refine g0 ?_
    | (with_reducible refine Y7 ?_; first | refine gc rfl rfl rfl Zh9 (hEr2 _ (by first | exact q5_0 | exact w5_0 | rfl)) ?_ | refine gc rfl rfl rfl Ye3 (ht' _ (by first | exact w5_0 | rfl)) ?_)
   exact ⟨rfl, m - 1, by omega, m - 1, acc ++ [⟨tks, tx⟩], s7, _, rfl, hN, ho7', by rw [hd7', hdB], by simp; omega, by rw [Y1, Zd]; rfl, e0, e3, e4, e5, rfl⟩
end
section
attribute [local irreducible] on aOp
attribute [local go_sem] decide_true decide_false Zt Zm
attribute [local simp] byD_len
def Zq6 (l : Lat) (v : Val) : Bool := decide (chkE l = 0) && decide (valC v (botV l) = 0)
theorem Zc3 {α : Type} {f : RS → α × RS} {enc : α → List UInt8} {p : α → Prop} (hk : Tks f enc) (hf : ∀ s : RS, s.Ok → s.data.length ≤ 1000000 → p (f s).1) : ∀ (n : Nat) (s : RS), s.Ok → s.data.length ≤ 1000000 → ∀ x ∈ (Xc f n s).1, p x
 | 0, s, _, _, x, hx => by simp [Zm2] at hx
 | n + 1, s, h, hl, x, hx => by
   by_cases h0 : s.err = 0
   · rw [Zf4 f n s h0] at hx
     obtain ⟨h1, h2⟩ := hk.ok s h
     rcases Z5.1 hx with rfl | hx
     · exact hf s h hl
     · exact Zc3 hk hf n _ h1 (by rw [h2]; exact hl) x hx
   · rw [Za3 f _ s h0] at hx; simp at hx
theorem J8 {α : Type} (f : RS → α × RS) : ∀ (n : Nat) (s : RS), (Xc f n s).1.length ≤ n
 | 0, s => by simp [Zm2]
 | n + 1, s => by
   by_cases h0 : s.err = 0
   · rw [Zf4 f n s h0]; have := J8 f n (f s).2; simp; omega
   · rw [Za3 f _ s h0]; simp
theorem Zi9 {s : RS} (h : s.Ok) (hl : s.data.length ≤ 1000000) : (Xg s).1.size ≤ 9223372036854775807 := by
 have := (Ue h).2.2
 show (strOf (W7 s).1).size ≤ _
 rw [strOf_size]; omega
theorem Yh4 {n : Int} {ns : List ByteArray} {ps : List Val} {es : List En} (h1 : ns.length ≤ 9223372036854775807) (h2 : ps.length ≤ 9223372036854775807) (h3 : es.length ≤ 9223372036854775807) (h4 : ∀ s ∈ ns, s.size ≤ 9223372036854775807) (h5 : ∀ e ∈ es, e.clock.length ≤ 9223372036854775807 ∧ e.name.size ≤ 9223372036854775807) (h6 : ∀ p ∈ ps, VSm p) : VSm (.mk n ns ps es) := .mk _ h1 h2 h3 h4 h5 h6
theorem Yl6 (n : Int) : VSm (.mk n [] [] []) := Yh4 (by simp) (by simp) (by simp) (by simp) (by simp) (by simp)
theorem Zp2 : ∀ (ps : List Lat), (∀ p ∈ ps, Tks (X8 p) (putV p)) → (∀ p ∈ ps, ∀ s : RS, s.Ok → s.data.length ≤ 1000000 → VSm (X8 p s).1) → ∀ s : RS, s.Ok → s.data.length ≤ 1000000 → (Yu ps s).1.length = ps.length ∧ ∀ x ∈ (Yu ps s).1, VSm x
 | [], _, _, s, _, _ => by simp [Yu]
 | p :: ps, ht, hv, s, ho, hl => by
  obtain ⟨o2, d2⟩ := (ht p (by simp)).ok s ho
  obtain ⟨h1, h2⟩ := Zp2 ps (fun q hq => ht q (by simp [hq])) (fun q hq => hv q (by simp [hq])) (X8 p s).2 o2 (by rw [d2]; exact hl)
  rw [Yu]
  refine ⟨by simp [h1], fun x hx => ?_⟩
  rcases Z5.1 hx with rfl | hx
  · exact hv p (by simp) s ho hl
  · exact h2 x hx
theorem count_okV {s : RS} (h : s.Ok) (hl : s.data.length ≤ 1000000) : (Yc s).2.Ok ∧ (Yc s).2.data.length ≤ 1000000 ∧ (Yc s).1 ≤ 1000000 := by
 obtain ⟨h1, h2, h3⟩ := Ud h
 exact ⟨h1, by rw [h2]; exact hl, by omega⟩
theorem read_smV (f : Nat) : ∀ l : Lat, SizeOf.sizeOf l ≤ f → WfL l → ∀ s : RS, s.Ok → s.data.length ≤ 1000000 → VSm (X8 l s).1 := by
 induction f with
 | zero => intro l hn; cases l; simp at hn
 | succ f ih =>
  intro l hn hwf s ho hl
  have hk := hwf.kinds
  have ip : ∀ p ∈ l.parts, ∀ s : RS, s.Ok → s.data.length ≤ 1000000 → VSm (X8 p s).1 := fun p hp => ih p (by have := Ze6 hp; omega) (hwf.part hp)
  have tp : ∀ p ∈ l.parts, Tks (X8 p) (putV p) := fun p hp => Ym1 _ p (Z7 _) (hwf.part hp)
  obtain ⟨co, cl, cn⟩ := count_okV ho hl
  rcases Zk0 hk.1 with e | e | e | e | e | e | e
  · rw [rd_1 e]; exact Yl6 _
  · rw [rd_23 e]; exact Yl6 _
  · rw [rd_410 e]
    have := J8 Xg (Yc s).1 (Yc s).2
    exact Yh4 (by omega) (by simp) (by simp) (fun x hx => Zc3 Vy (p := fun x => x.size ≤ 9223372036854775807) (fun s h hl => Zi9 h hl) _ _ co cl x hx) (by simp) (by simp)
  · obtain ⟨p, hb⟩ := Ze.1 (hk.2.1 e)
    rw [rd_5 e hb]
    have hpm : p ∈ l.parts := by rw [hb]; simp
    have := J8 (Za2 (X8 p)) (Yc s).1 (Yc s).2
    have hall : ∀ x ∈ (Xc (Za2 (X8 p)) (Yc s).1 (Yc s).2).1, x.1.size ≤ 9223372036854775807 ∧ VSm x.2 := fun x hx => Zc3 (tks_pair (tp p hpm)) (p := fun x => x.1.size ≤ 9223372036854775807 ∧ VSm x.2) (fun s h hl => by
     obtain ⟨o2, d2⟩ := Vy.ok s h
     exact ⟨Zi9 h hl, ip p hpm _ o2 (by rw [d2]; exact hl)⟩) _ _ co cl x hx
    refine Yh4 (by rw [Zg]; omega) (by rw [Zg]; omega) (by simp) (fun x hx => ?_) (by simp) (fun x hx => ?_)
    · obtain ⟨y, hy, rfl⟩ := List.mem_map.1 hx; exact (hall y hy).1
    · obtain ⟨y, hy, rfl⟩ := List.mem_map.1 hx; exact (hall y hy).2
  · rw [rd_67 e]
    obtain ⟨h1, h2⟩ := Zp2 l.parts tp ip s ho hl
    have h67 : l.parts.length ≤ 8 := by rcases e with e | e; have := hk.2.2.2.1 e; omega; have := hk.2.2.1 e; omega
    exact Yh4 (by simp) (by omega) (by simp) (by simp) (by simp) h2
  · rw [rd_8 e]
    obtain ⟨o2, d2⟩ := Vh 2 ho
    split
    · exact Yh4 (by simp) (by simp) (by simp) (fun x hx => by simp only [Zl] at hx; subst hx; exact Zi9 o2 (by rw [d2]; exact hl)) (by simp) (by simp)
    · exact Yl6 _
  · rw [rd_9 e]
    have := J8 J9 (Yc s).1 (Yc s).2
    refine Yh4 (by simp) (by simp) (by omega) (by simp) (fun x hx => ?_) (by simp)
    exact Zc3 Zz9 (p := fun x : En => x.clock.length ≤ 9223372036854775807 ∧ x.name.size ≤ 9223372036854775807) (fun s h hl => by
     obtain ⟨o2, l2, n2⟩ := count_okV h hl
     have hlen := J8 Zf2 (Yc s).1 (Yc s).2
     obtain ⟨o3, d3⟩ := Zf3 Zx5 (Yc s).1 (Yc s).2 o2
     exact ⟨show (Xc Zf2 (Yc s).1 (Yc s).2).1.length ≤ _ by omega, Zi9 (s := (Yn5 s).2) o3 (by show (Xc Zf2 (Yc s).1 (Yc s).2).2.data.length ≤ _; rw [d3]; exact l2)⟩) _ _ co cl x hx
theorem Yl4 (e : Int) : Wk (.tup [.agg nilV, .v (.int .i64 e)]) (.tup [.agg (vaX Uy), .v (.int .i64 e)]) := by
 rw [show vaX Uy = [.v (.int .i64 0), .sl 1 [], .sl 4 [], .sl 2 []] by rw [Y5]; rfl]
 exact wk_tup (Wq (Us Yn Yn Yn) (Wq (X6 _) Yl5))
variable (G : Nat → D) (hG : ∀ g, low 0 (G g))
include hG
theorem read_any (f : Nat) : ∀ l : Lat, SizeOf.sizeOf l ≤ f → WfL l → ReadD G l := by
 induction f with
 | zero => intro l hn; cases l; simp at hn
 | succ f ih =>
  intro l hn hwf
  have hk := hwf.kinds
  have hp : ∀ p ∈ l.parts, ReadD G p := fun p hp => ih p (by have := Ze6 hp; omega) (hwf.part hp)
  have ht : ∀ p ∈ l.parts, ∀ s : RS, s.Ok → (X8 p s).2.Ok ∧ (X8 p s).2.data = s.data := fun p hp => (Ym1 _ p (Z7 _) (hwf.part hp)).ok
  rcases Zk0 hk.1 with e | e | e | e | e | e | e
  · exact read_1 G hG l e
  · exact read_23 G hG l e
  · exact read_410 G hG l e
  · obtain ⟨p, hb⟩ := Ze.1 (hk.2.1 e)
    exact read_5 G hG l e p hb (hp p (by rw [hb]; simp)) (ht p (by rw [hb]; simp))
  · exact read_67 G hG l e (by rcases e with e | e; have := hk.2.2.2.1 e; omega; have := hk.2.2.1 e; omega) hp ht
  · exact read_8 G hG l e
  · exact read_9 G hG l e
attribute [local go_sem] Z3 Zn Zo Zp Z6 Zi Z1 Z2 Zj
attribute [local go_sem ↓] reduceIte
theorem decode_v (l : Lat) (hsm : Sm l) (b : List UInt8) (hb : b.length ≤ 1000000) (h : List Ob) : Does Zh G 49 h [.agg (latX l), .sl 1 (byD b)] (fun h' r => h' = h ∧ r = .tup [.agg (vaX (Zn7 l b).1), .v (.int .i64 (Zn7 l b).2)]) := by
 refine Y9 G hG (by simp only [lowL, low]; exact ⟨Yy _ l, Ze1 _ b, trivial⟩) (by simp only [lowL, low]; exact ⟨Yd _ _, trivial, trivial⟩) ?_ h
 clear h
 have hck := Zi4 G hG l hsm
 simp only [Y4 l] at hck
 apply Does.weak
 refine Y6 Tryz.func49 rfl (Z0 rfl) hG fun hl0 _ => ?_
 simp only [Tryz.ntmps49]
 by_cases hc : chkE l = 0
 rotate_left
 · have hR : Zn7 l b = (Uy, 1) := by unfold Zn7; rw [if_pos hc]
   rw [hR]
   have F : _ ∧ _ := ⟨Y4 l, hc⟩
   repeat' first
    | refine g0 ?_
    | (with_reducible refine Y7 ?_; refine gc rfl rfl rfl Jt (hck _) ?_)
   exact ⟨.inr rfl, endD (ds := [.agg nilV, .v (.int .i64 1)]) (r := .tup [.agg nilV, .v (.int .i64 1)]) hl0 (by simp only [resD, Tryz.results49, go_sem, ↓reduceIte, Z1, Z6, Z2]; try rfl) (by simp) (by simp) (by simp [outD, cvD, cv1, nilV]) (by simp [low, lowL, nilV]) ⟨_, ⟨rfl, rfl⟩, Yl4 1⟩⟩
 rw [hc] at hck
 have hwf := Wt hc
 have hvs := read_smV _ l (Z7 _) hwf ⟨b, 0, 0, 0⟩ (new_ok b) hb
 obtain ⟨hto, htd⟩ := (Ym1 _ l (Z7 _) hwf).ok ⟨b, 0, 0, 0⟩ (new_ok b)
 have hrd := fun (h : List Ob) (q : h[2]? = some (Yh ⟨b, 0, 0, 0⟩)) => (read_any G hG _ l (Z7 _) hwf).at hG (new_ok b) hb q
 have hnw := newReader_d G hG b (by omega)
 have hR : Zn7 l b = if (X8 l ⟨b, 0, 0, 0⟩).2.ends ≠ 0 ∨ Yb l (X8 l ⟨b, 0, 0, 0⟩).1 = false then (Uy, 2) else ((X8 l ⟨b, 0, 0, 0⟩).1, 0) := by unfold Zn7; rw [if_neg (fun h => h hc)]
 generalize X8 l ⟨b, 0, 0, 0⟩ = y at *
 obtain ⟨v, t⟩ := y
 simp only at hvs hto htd hrd hR
 have hen := fun (h : List Ob) (q : h[2]? = some (Yh t)) => rEnd_d G hG 2 t h q hto (by rw [htd]; show b.length ≤ _; omega)
 have hel := Ye7 G hG _ l v (Z7 _) hwf hsm hvs
 simp only [Y4 l, Y5 v] at hrd hel
 generalize t.ends = te at *
 by_cases he : te = 0
 rotate_left
 · rw [if_pos (.inl he)] at hR
   rw [hR]
   have F : _ ∧ _ := ⟨Y4 l, he⟩
   repeat' first
    | refine g0 ?_
    | (with_reducible refine Y7 ?_; first | refine gc rfl rfl rfl Jt (hck _) ?_ | refine gc rfl rfl rfl ent_105 (hnw _) ?_ | refine gc rfl rfl rfl Ye5 (hrd _ (by first | rfl | (simp; done))) ?_ | refine gc rfl rfl rfl ent_107 (hen _ (by first | rfl | (simp; done))) ?_)
   exact ⟨.inr rfl, endD (ds := [.agg nilV, .v (.int .i64 2)]) (r := .tup [.agg nilV, .v (.int .i64 2)]) hl0 (by simp only [resD, Tryz.results49, go_sem, ↓reduceIte, Z1, Z6, Z2]; try rfl) (by simp) (by simp) (by simp [outD, cvD, cv1, nilV]) (by simp [low, lowL, nilV]) ⟨_, ⟨rfl, rfl⟩, Yl4 2⟩⟩
 subst he
 cases hel2 : Yb l v <;> rw [hel2] at hel
 · rw [if_pos (.inr hel2)] at hR
   rw [hR]
   have F := Y4 l
   repeat' first
    | refine g0 ?_
    | (with_reducible refine Y7 ?_; first | refine gc rfl rfl rfl Jt (hck _) ?_ | refine gc rfl rfl rfl ent_105 (hnw _) ?_ | refine gc rfl rfl rfl Ye5 (hrd _ (by first | rfl | (simp; done))) ?_ | refine gc rfl rfl rfl ent_107 (hen _ (by first | rfl | (simp; done))) ?_ | refine gc rfl rfl rfl Zq9 (hel _) ?_)
   exact ⟨.inr rfl, endD (ds := [.agg nilV, .v (.int .i64 2)]) (r := .tup [.agg nilV, .v (.int .i64 2)]) hl0 (by simp only [resD, Tryz.results49, go_sem, ↓reduceIte, Z1, Z6, Z2]; try rfl) (by simp) (by simp) (by simp [outD, cvD, cv1, nilV]) (by simp [low, lowL, nilV]) ⟨_, ⟨rfl, rfl⟩, Yl4 2⟩⟩
 · rw [if_neg (by rw [hel2]; simp)] at hR
   rw [hR]
   have F := Y4 l
   repeat' first
    | refine g0 ?_
    | (with_reducible refine Y7 ?_; first | refine gc rfl rfl rfl Jt (hck _) ?_ | refine gc rfl rfl rfl ent_105 (hnw _) ?_ | refine gc rfl rfl rfl Ye5 (hrd _ (by first | rfl | (simp; done))) ?_ | refine gc rfl rfl rfl ent_107 (hen _ (by first | rfl | (simp; done))) ?_ | refine gc rfl rfl rfl Zq9 (hel _) ?_)
   refine ⟨.inr rfl, endD (ds := [.agg [.v (.int .i64 v.n), .sl 1 (v.names.map strX), .sl 4 (v.parts.map vaX), .sl 2 (v.entries.map enX)], .v (.int .i64 0)]) (r := .tup [.agg (vaX v), .v (.int .i64 0)]) hl0 (by simp only [resD, Tryz.results49, go_sem, ↓reduceIte, Z1, Z6, Z2]; try rfl) (by simp) (by simp) ?_ (by simp only [lowL, low]; exact ⟨Yd _ _, trivial, trivial⟩) ⟨_, ⟨rfl, rfl⟩, X6 _⟩⟩
   rw [Y5 v]; simp [outD, cvD, cv1]
theorem Yj6 (l : Lat) (hsm : Sm l) (v : Val) (hv : VSm v) (h : List Ob) : Does Zh G 84 h [.agg (latX l), .agg (vaX v)] (fun h' r => h' = h ∧ r = .v (.bool (Zq6 l v))) := by
 refine Y9 G hG (by simp only [lowL, low]; exact ⟨Yy _ l, Yd _ v, trivial⟩) (by rw [low]; trivial) ?_ h
 clear h
 have hck := Zi4 G hG l hsm
 simp only [Y4 l] at hck
 unfold Zq6
 refine Y6 Tryz.func84 rfl (Z0 rfl) hG fun hl0 _ => ?_
 simp only [Tryz.ntmps84]
 by_cases hc : chkE l = 0
 rotate_left
 · rw [decide_eq_false hc, Y2]
   have F : _ ∧ _ ∧ _ := ⟨Y4 l, Y5 v, hc⟩
   repeat' first
    | (with_reducible refine Ya ?_; refine Y8 mixd (by kernel_rfl) ?_)
    | refine g0 ?_
    | (with_reducible refine Xv ?_; refine aq2 rfl rfl rfl Jt (hck _) ?_)
   exact ⟨.inr rfl, endV hl0 rfl rfl ⟨rfl, rfl⟩⟩
 rw [hc] at hck
 have hbo := Zy9 G hG _ l (Z7 _) (Wt hc)
 have heq := equal_va G hG v (botV l) hv (Zz3 _ l (Z7 _) hsm)
 simp only [Y4 l] at hbo
 simp only [Y5 v] at heq
 rw [decide_eq_true hc, Bool.true_and]
 generalize decide (valC v (botV l) = 0) = bb at *
 have F : _ ∧ _ := ⟨Y4 l, Y5 v⟩
 repeat' first
  | (with_reducible refine Ya ?_; refine Y8 mixd (by kernel_rfl) ?_)
  | refine g0 ?_
  | (with_reducible refine Xv ?_; first | refine aq2 rfl rfl rfl Jt (hck _) ?_ | refine aq2 rfl rfl rfl Zn3 (hbo _) ?_ | refine aq2 rfl rfl rfl ent_104 (heq _) ?_)
 exact ⟨.inr rfl, endV hl0 rfl rfl ⟨rfl, rfl⟩⟩
end
section
theorem Zu3 (a b : Int) : (cmpI a b = -1 ∧ a < b) ∨ (cmpI a b = 1 ∧ b < a) ∨ (cmpI a b = 0 ∧ a = b) := by
 unfold cmpI
 by_cases h : a < b
 · simp [h]
 · by_cases h' : b < a
   · simp [h, h']
   · simp [h, h']; omega
def Tri (x y z : Int) : Prop := x ≤ 0 → y ≤ 0 → z ≤ 0 ∧ (z = 0 ↔ x = 0 ∧ y = 0)
theorem Tri.or {x1 y1 z1 x2 y2 z2 : Int} (h1 : Tri x1 y1 z1) (h2 : Tri x2 y2 z2) : Tri (if x1 ≠ 0 then x1 else x2) (if y1 ≠ 0 then y1 else y2) (if z1 ≠ 0 then z1 else z2) := by
 intro hx hy
 have a : x1 ≤ 0 := by split at hx <;> omega
 have b : y1 ≤ 0 := by split at hy <;> omega
 obtain ⟨c, d⟩ := h1 a b
 by_cases z0 : z1 = 0
 · obtain ⟨x0, y0⟩ := d.1 z0
   rw [if_neg (fun h => h x0)] at hx
   rw [if_neg (fun h => h y0)] at hy
   rw [if_neg (fun h => h z0), if_neg (fun h => h x0), if_neg (fun h => h y0)]
   exact h2 hx hy
 · rw [if_pos z0]
   refine ⟨c, fun h => absurd h z0, fun ⟨p, q⟩ => absurd (d.2 ⟨?_, ?_⟩) z0⟩
   · split at p <;> omega
   · split at q <;> omega
theorem Zt2 {x1 y1 x2 y2 : Int} (h1 : y1 = -x1) (h2 : y2 = -x2) : (if y1 ≠ 0 then y1 else y2) = -(if x1 ≠ 0 then x1 else x2) := by
 subst h1 h2
 by_cases a : x1 = 0
 · simp [a]
 · rw [if_pos a, if_pos (by omega)]
theorem Zt1 {x y : Int} : (if x ≠ 0 then x else y) = 0 ↔ x = 0 ∧ y = 0 := by
 by_cases a : x = 0
 · simp [a]
 · simp [a]
theorem Yf1 (a b : Int) : cmpI b a = -cmpI a b := by unfold cmpI; split <;> split <;> omega
theorem Yr3 (a b c : Int) : Tri (cmpI a b) (cmpI b c) (cmpI a c) := by
 unfold Tri
 rcases Zu3 a b with ⟨h1, h2⟩ | ⟨h1, h2⟩ | ⟨h1, h2⟩ <;> rcases Zu3 b c with ⟨h3, h4⟩ | ⟨h3, h4⟩ | ⟨h3, h4⟩ <;> rcases Zu3 a c with ⟨h5, h6⟩ | ⟨h5, h6⟩ | ⟨h5, h6⟩ <;> omega
theorem Yf0 (a b : Int) : cmpI a b = 0 ↔ a = b := by unfold cmpI; split <;> (try split) <;> omega
theorem bl_eq : ∀ (x y : List UInt8), Op.bytesLess x y = decide (x < y)
 | [], [] => by simp [Op.bytesLess]
 | _ :: _, [] => by simp [Op.bytesLess]
 | [], _ :: _ => by simp [Op.bytesLess]
 | a :: x, b :: y => by
   rw [Op.bytesLess, bl_eq x y]
   simp only [List.cons_lt_cons_iff]
   by_cases h1 : a < b <;> by_cases h2 : a = b <;> by_cases h3 : x < y <;> simp [h1, h2, h3]
theorem strLt_eq (a b : ByteArray) : J0 a b = decide (a.data.toList < b.data.toList) := by
 unfold J0
 rw [bl_eq, Lib.toList_data, Lib.toList_data]
theorem Zl8 (a b : ByteArray) : strC a b = if a.data.toList < b.data.toList then -1 else if a.data.toList = b.data.toList then 0 else 1 := by
 have e : (a = b) = (a.data.toList = b.data.toList) := propext ⟨fun h => by rw [h], fun h => by cases a; cases b; simpa [Array.toList_inj] using h⟩
 unfold strC
 rw [strLt_eq]
 simp only [decide_eq_true_eq, e]
theorem strC_zero (a b : ByteArray) : strC a b = 0 ↔ a = b := by
 rw [Zl8]
 constructor
 · intro h
   by_cases h1 : a.data.toList < b.data.toList
   · rw [if_pos h1] at h; omega
   · rw [if_neg h1] at h
     by_cases h2 : a.data.toList = b.data.toList
     · exact ByteArray.ext (Array.toList_inj.1 h2)
     · rw [if_neg h2] at h; omega
 · rintro rfl
   rw [if_neg (Zq _), if_pos rfl]
theorem strC_anti (a b : ByteArray) : strC b a = -strC a b := by
 rw [Zl8, Zl8]
 by_cases h : a.data.toList < b.data.toList
 · rw [if_pos h, if_neg (List.lt_asymm h), if_neg (fun e => Zq _ (e ▸ h))]; rfl
 · rw [if_neg h]
   by_cases h2 : a.data.toList = b.data.toList
   · rw [if_pos h2, if_neg (fun h => Zq _ (h2 ▸ h)), if_pos h2.symm]; rfl
   · have : b.data.toList < a.data.toList := Decidable.byContradiction fun h' => h2 (List.le_antisymm (List.not_lt.1 h') (List.not_lt.1 h))
     rw [if_pos this, if_neg h2]
theorem strC_tri (a b c : ByteArray) : Tri (strC a b) (strC b c) (strC a c) := by
 intro h1 h2
 rw [Zl8] at h1 h2
 have l1 : a.data.toList < b.data.toList ∨ a.data.toList = b.data.toList := by
  by_cases h : a.data.toList < b.data.toList
  · exact .inl h
  · rw [if_neg h] at h1
    by_cases h' : a.data.toList = b.data.toList
    · exact .inr h'
    · rw [if_neg h'] at h1; omega
 have l2 : b.data.toList < c.data.toList ∨ b.data.toList = c.data.toList := by
  by_cases h : b.data.toList < c.data.toList
  · exact .inl h
  · rw [if_neg h] at h2
    by_cases h' : b.data.toList = c.data.toList
    · exact .inr h'
    · rw [if_neg h'] at h2; omega
 rw [Zl8 a c, Zl8 a b, Zl8 b c]
 rcases l1 with l1 | l1 <;> rcases l2 with l2 | l2
 · have := List.lt_trans l1 l2
   rw [if_pos this, if_pos l1, if_pos l2]
   omega
 · rw [← l2, if_pos l1]
   omega
 · rw [l1, if_pos l2]
   omega
 · rw [← l2, ← l1, if_neg (Zq _), if_pos rfl]
   omega
theorem Zg5 {α : Type} (c : α → α → Int) : ∀ (a b : List α), (∀ x ∈ a, ∀ y, c y x = -c x y) → lexC c b a = -lexC c a b
 | [], [], _ => rfl
 | [], _ :: _, _ => rfl
 | _ :: _, [], _ => rfl
 | x :: s, y :: t, h => by
   rw [lexC, lexC]
   exact Zt2 (h x (by simp) y) (Zg5 c s t fun z hz => h z (by simp [hz]))
theorem Zq0 {α : Type} (c : α → α → Int) : ∀ (a b d : List α), (∀ x ∈ a, ∀ y z, Tri (c x y) (c y z) (c x z)) → Tri (lexC c a b) (lexC c b d) (lexC c a d)
 | [], [], [], _ => by intro _ _; simp [lexC]
 | [], [], _ :: _, _ => by intro _ _; simp [lexC]
 | [], _ :: _, [], _ => by intro _ h; simp [lexC] at h
 | [], _ :: _, _ :: _, _ => by intro _ _; simp [lexC]
 | _ :: _, [], _, _ => by intro h; simp [lexC] at h
 | _ :: _, _ :: _, [], _ => by intro _ h; simp [lexC] at h
 | x :: s, y :: t, z :: u, h => by
   rw [lexC, lexC, lexC]
   exact (h x (by simp) y z).or (Zq0 c s t u fun w hw => h w (by simp [hw]))
theorem Zg4 {α : Type} (c : α → α → Int) : ∀ (a b : List α), (∀ x ∈ a, ∀ y, c x y = 0 ↔ x = y) → (lexC c a b = 0 ↔ a = b)
 | [], [], _ => by simp [lexC]
 | [], _ :: _, _ => by simp [lexC]
 | _ :: _, [], _ => by simp [lexC]
 | x :: s, y :: t, h => by
   rw [lexC, Zt1, h x (by simp) y, Zg4 c s t fun z hz => h z (by simp [hz]), List.cons.injEq]
theorem Ze0 (x y : Int) : orI [x, y] = if x ≠ 0 then x else y := by
 unfold orI orI orI
 by_cases h : x = 0
 · simp [h]; intro h; exact h.symm
 · simp [h]
theorem tickC_anti (a b : Tk) : Vz b a = -Vz a b := by
 unfold Vz; rw [Ze0, Ze0]; exact Zt2 (Yf1 _ _) (Yf1 _ _)
theorem tickC_tri (a b c : Tk) : Tri (Vz a b) (Vz b c) (Vz a c) := by
 unfold Vz; rw [Ze0, Ze0, Ze0]; exact (Yr3 _ _ _).or (Yr3 _ _ _)
theorem tickC_zero (a b : Tk) : Vz a b = 0 ↔ a = b := by
 unfold Vz; rw [Ze0, Zt1, Yf0, Yf0]
 cases a; cases b; simp
theorem entC_anti (a b : En) : entC b a = -entC a b := by
 unfold entC; rw [Ze0, Ze0]; exact Zt2 (strC_anti _ _) (Zg5 _ _ _ fun x _ y => tickC_anti x y)
theorem entC_tri (a b c : En) : Tri (entC a b) (entC b c) (entC a c) := by
 unfold entC; rw [Ze0, Ze0, Ze0]; exact (strC_tri _ _ _).or (Zq0 _ _ _ _ fun x _ y z => tickC_tri x y z)
theorem Za9 (a b : En) : entC a b = 0 ↔ a = b := by
 unfold entC; rw [Ze0, Zt1, strC_zero, Zg4 _ _ _ fun x _ y => tickC_zero x y]
 cases a; cases b; simp [and_comm]
theorem Ze5 {v p : Val} (h : p ∈ v.parts) : SizeOf.sizeOf p < SizeOf.sizeOf v := by
 cases v
 have := List.sizeOf_lt_of_mem h
 simp only [Val.parts] at this
 simp only [Val.mk.sizeOf_spec]
 omega
theorem Vq (a b : Val) : valC b a = -valC a b := by
 rw [Ze4 a b, Ze4 b a]
 refine Zt2 (Yf1 _ _) (Zt2 (Zg5 _ _ _ fun x _ y => strC_anti x y) (Zt2 (Zg5 _ _ _ fun x hx y => ?_) (Zg5 _ _ _ fun x _ y => entC_anti x y)))
 have := Ze5 hx
 exact Vq x y
 termination_by SizeOf.sizeOf a
theorem Zx3 (a b c : Val) : Tri (valC a b) (valC b c) (valC a c) := by
 rw [Ze4 a b, Ze4 b c, Ze4 a c]
 refine (Yr3 _ _ _).or ((Zq0 _ _ _ _ fun x _ y z => strC_tri x y z).or ((Zq0 _ _ _ _ fun x hx y z => ?_).or (Zq0 _ _ _ _ fun x _ y z => entC_tri x y z)))
 have := Ze5 hx
 exact Zx3 x y z
 termination_by SizeOf.sizeOf a
theorem Yo (a b : Val) : valC a b = 0 ↔ a = b := by
 rw [Ze4 a b, Zt1, Zt1, Zt1, Yf0, Zg4 _ _ _ fun x _ y => strC_zero x y, Zg4 valC a.parts b.parts fun x hx y => by
   have := Ze5 hx
   exact Yo x y, Zg4 _ _ _ fun x _ y => Za9 x y]
 cases a; cases b; simp [Val.n, Val.names, Val.parts, Val.entries]
 termination_by SizeOf.sizeOf a
theorem Zz6 (a : Val) : valC a a = 0 := (Yo a a).2 rfl
end
section

end
section
attribute [local irreducible] on aOp
attribute [local go_sem] decide_true decide_false Zt Zm
attribute [local simp] byD_len
theorem Zy1 {only list : List ByteArray} (h : Yi only list = true) : ∀ s ∈ list, s.size ≤ 16 := fun s hs => (name_le (Ys4 h s hs)).2
variable (G : Nat → D) (hG : ∀ g, low 0 (G g))
include hG
theorem write_v (f : Nat) : ∀ (l : Lat) (v : Val), SizeOf.sizeOf l ≤ f → WfL l → Yb l v = true → Zi7 G l v := by
 induction f with
 | zero => intro l v hn; cases l; simp at hn
 | succ f ih =>
 intro l v hn hwf he
 have hk := hwf.kinds
 have ip : ∀ p ∈ l.parts, ∀ x, Yb p x = true → Zi7 G p x := fun p hp x hx => ih p x (by have := Yz hp; omega) (hwf.part hp) hx
 rcases Zk0 hk.1 with e | e | e | e | e | e | e
 · exact write_1 G hG l v e
 · have h1 := (Jf e).1 he
   have h2 := of_decide_eq_false hwf.ranges
   exact write_23 G hG l v e (by unfold I64; omega)
 · refine write_names G hG l v e ?_
   rcases e with e | e
   · exact Zy1 ((Zu0 e).1 he).2.2.2
   · exact Zy1 ((Jg e).1 he).2.2.2.1
 · obtain ⟨p, hb⟩ := Ze.1 (hk.2.1 e)
   rw [Yk3 e hb] at he
   simp only [Za, decide_eq_true_eq] at he
   obtain ⟨_, _, hlen, hal, hall⟩ := he
   exact write_5 G hG l v p e hb (Zy1 hal) hlen fun x hx => ip p (by rw [hb]; simp) x (by have := Zr.1 hall x hx; rw [Za] at this; exact this.1)
 · rw [Ye8 e] at he
   simp only [Za, decide_eq_true_eq] at he
   obtain ⟨_, _, _, hlen, hels⟩ := he
   refine write_67 G hG l v e hlen (by have := hk.2.2.1; have := hk.2.2.2.1; omega) fun p hp x hx hz => ip p hp x ?_
   obtain ⟨i, hi, hiz⟩ := List.getElem_of_mem hz
   rw [List.length_zip] at hi
   rw [List.getElem_zip, Prod.mk.injEq] at hiz
   rw [← hiz.1, ← hiz.2]
   exact (Zb0 l.parts v.parts hlen).1 hels i (by omega) (by omega)
 · have h1 := (Zt9 e).1 he
   refine write_8 G hG l v e ?_
   obtain ⟨_, _, h | h⟩ := h1
   · rcases h.1 with q | q
     · exact .inl ⟨q, Zu h.2⟩
     · exact .inr (.inl ⟨q, Zu h.2⟩)
   · obtain ⟨s, hs⟩ := Ze.1 h.2.1
     exact .inr (.inr ⟨h.1, s, hs, Zy1 h.2.2 s (by rw [hs]; simp)⟩)
 · have h1 := (Zt8 e).1 he
   exact write_9 G hG l v e fun x hx => by
    have := regGo_mem v.entries 0 v.entries h1.2.2.2 x hx
    exact ⟨this.1, (name_le this.2).2⟩
attribute [local go_sem] Z3 Zn Zo Zp Z6 Zi Z1 Z2 Zj
attribute [local go_sem ↓] reduceIte
theorem encode_v (l : Lat) (hsm : Sm l) (v : Val) (hv : VSm v) (hc : chkE l = 0) (he : Yb l v = true) (hb : (putV l v).length ≤ 1000000) (h : List Ob) : Does Zh G 47 h [.agg (latX l), .agg (vaX v)] (fun h' r => h' = h ∧ r = .tup [.sl 1 (byD (putV l v)), .v (.int .i64 0)]) := by
 refine Y9 G hG (by simp only [lowL, low]; exact ⟨Yy _ l, Yd _ v, trivial⟩) (by rw [low, lowL, lowL, lowL, low]; exact ⟨Ze1 _ _, trivial, trivial⟩) ?_ h
 clear h
 have hck := Zi4 G hG l hsm
 rw [hc] at hck
 have hel := Ye7 G hG _ l v (Z7 _) (Wt hc) hsm hv
 rw [he] at hel
 have hw := write_v G hG _ l v (Z7 _) (Wt hc) he [] (by simpa using hb)
 rw [Zv] at hw
 have hlp : low 0 (.agg (latX l)) := by rw [low]; exact Yy _ l
 have hlx : low 0 (.agg (vaX v)) := by rw [low]; exact Yd _ v
 have hwd := wData_d G hG (putV l v) (by omega)
 generalize putV l v = X at *
 simp only [Y4 l, Y5 v] at hck hel hw hlp hlx
 refine Y6 Tryz.func47 rfl (Z0 rfl) hG fun hl0 _ => ?_
 simp only [Tryz.ntmps47]
 have F : _ ∧ _ := ⟨Y4 l, Y5 v⟩
 repeat' first
  | (with_reducible refine Y7 ?_; (refine ao_nilcell 5 1 2 [] [] rfl ?_))
  | refine g0 ?_
  | (with_reducible refine Y7 ?_; first | refine gc rfl rfl rfl Jt (hck _) ?_ | refine gc rfl rfl rfl Zq9 (hel _) ?_ | refine gc rfl rfl rfl ent_99 (w_at G hG (by rw [lowL, lowL, lowL]; exact ⟨hlp, hlx, trivial⟩) (by simp [low, lowL]) hw (i := 2) (j := 3) rfl rfl) ?_ | refine gc rfl rfl rfl ent_100 (w_at G hG (by rw [lowL]; trivial) (Ze1 _ _) hwd (i := 2) (j := 3) rfl rfl) ?_)
 exact ⟨.inr rfl, endD (ds := [.sl 1 (byD X), .v (.int .i64 0)]) (r := .tup [.sl 1 (byD X), .v (.int .i64 0)]) hl0 rfl (by simp) (by simp) rfl (by rw [low, lowL, lowL, lowL, low]; exact ⟨Ze1 _ _, trivial, trivial⟩) ⟨rfl, rfl⟩⟩
theorem valid_v (l : Lat) (hsm : Sm l) (v : Val) (hv : VSm v) (h : List Ob) : Does Zh G 80 h [.agg (latX l), .agg (vaX v)] (fun h' r => h' = h ∧ r = .v (.bool (Zz5 l v))) := by
 refine Y9 G hG (by simp only [lowL, low]; exact ⟨Yy _ l, Yd _ v, trivial⟩) (by rw [low]; trivial) ?_ h
 clear h
 have hck := Zi4 G hG l hsm
 simp only [Y4 l] at hck
 unfold Zz5
 refine Y6 Tryz.func80 rfl (Z0 rfl) hG fun hl0 _ => ?_
 simp only [Tryz.ntmps80]
 by_cases hc : chkE l = 0
 rotate_left
 · rw [decide_eq_false hc, Y2]
   have F : _ ∧ _ ∧ _ := ⟨Y4 l, Y5 v, hc⟩
   repeat' first
    | refine g0 ?_
    | (with_reducible refine Y7 ?_; refine gc rfl rfl rfl Jt (hck _) ?_)
   exact ⟨.inr rfl, endV hl0 rfl rfl ⟨rfl, rfl⟩⟩
 rw [hc] at hck
 have hel := Ye7 G hG _ l v (Z7 _) (Wt hc) hsm hv
 simp only [Y4 l, Y5 v] at hel
 rw [decide_eq_true hc, Bool.true_and]
 generalize Yb l v = bb at *
 have F : _ ∧ _ := ⟨Y4 l, Y5 v⟩
 repeat' first
  | refine g0 ?_
  | (with_reducible refine Y7 ?_; first | refine gc rfl rfl rfl Jt (hck _) ?_ | refine gc rfl rfl rfl Zq9 (hel _) ?_)
 exact ⟨.inr rfl, endV hl0 rfl rfl ⟨rfl, rfl⟩⟩
end
section
attribute [local irreducible] on aOp
attribute [local go_sem] decide_true decide_false Zt Zm
attribute [local simp] byD_len
variable (G : Nat → D) (hG : ∀ g, low 0 (G g))
include hG
attribute [local go_sem] Z3 Zn Zo Zp Int.toNat_natCast Zg Z6 Zi Z1 Z2 Zj gM_0 gM_app gM_l gM_len gM_sl Zj2 Xt
attribute [local go_sem ↓] reduceIte
theorem rNamed_d (l : Lat) (hsm : Sm l) (h : List Ob) : Does Zh G 197 h [.agg (latX l)] (fun h' r => h' = h ∧ r = .v (.bool (Zg2 l.kind l.names l.rules))) := by
 refine Y9 G hG (Xy _ l) (by rw [low]; trivial) ?_ h
 clear h
 have hpl := hsm.parts
 have hnl := hsm.names
 have hrl := hsm.rules
 have htx := hsm.texts
 have hcd := hsm.conds
 have hri := rRising_d G hG l.names hnl htx
 refine Y6 Tryz.func197 rfl (Z0 rfl) hG fun hl0 _ => ?_
 simp only [Tryz.ntmps197]
 by_cases h6 : l.kind = 6
 · have e0 : Zg2 l.kind l.names l.rules = nmGo true l.names 0 l.names := by unfold Zg2; rw [if_pos h6]
   rw [e0]
   have F : _ ∧ _ := ⟨Y4, h6⟩
   repeat' first
    | refine g0 ?_
    | fail
   refine Yf (fun m e h' => ∃ k : Nat, k ≤ l.names.length ∧ m = l.names.length - k ∧ nmGo true l.names 0 l.names = nmGo true l.names k (l.names.drop k) ∧ h' = [.cells (latX l)] ∧ e 1 = .ptr 0 0 ∧ e 3 = .v (.int .i64 k)) l.names.length ⟨0, Y3 _, rfl, rfl, (by rw [Y4, h6]), rfl, rfl⟩ ?_
   rintro m e h' ⟨k, hk, rfl, ho, rfl, e1, e3⟩
   by_cases hlt : k < l.names.length
   · have hx : l.names[k]? = some l.names[k] := Zc hlt
     have wk : IntKind.i64.wrap ((k : Int) + 1) = (k : Int) + 1 := IntWalk.i64_in _ (by omega)
     rw [nmGo_step true l.names k hlt] at ho
     have hn := rName_d G hG l.names[k] (htx _ (Zz hlt))
     generalize l.names[k] = x at hx hn ho
     have hin := rIn_d G hG (l.names.take k) x (by rw [List.length_take]; omega)
     have hin2 : ∀ (b : Bool), hasS (l.names.take k) x = b → ∀ h, Does Zh G 236 h [.sl 1 (List.drop (Int.toNat 0) (List.take (Int.toNat (k : Int)) (l.names.map strX))), .v (.string x)] (fun h' r => h' = h ∧ r = .v (.bool b)) := fun b hb h => by
      have := hin h
      rw [hb, List.map_take] at this
      exact this
     clear hin
     cases hnb : Wo x <;> rw [hnb] at hn ho
     · skip
       have F : _ ∧ _ ∧ _ ∧ _ := ⟨Y4 l, e1, e3, wk⟩
       repeat' first
        | (with_reducible refine Ya ?_; refine Y8 mixd (by kernel_rfl) ?_)
        | refine gg ?_
        | refine Two.mk (fun hq => ?_) fun hq => ?_
        | (with_reducible refine Xv ?_; refine aq2 rfl rfl rfl Zh4 (hn _) ?_)
        | (exfalso; omega)
       exact ⟨.inr rfl, endD (r := .v (.bool false)) hl0 rfl (by simp) (by simp) rfl (by rw [low]; trivial) ⟨rfl, by rw [ho]; rfl⟩⟩
     · cases hib : hasS (l.names.take k) x <;> rw [hib] at ho
       · skip
         have F : _ ∧ _ ∧ _ ∧ _ := ⟨Y4 l, e1, e3, wk⟩
         repeat' first
          | (with_reducible refine Ya ?_; refine Y8 mixd (by kernel_rfl) ?_)
          | refine gg ?_
          | refine Two.mk (fun hq => ?_) fun hq => ?_
          | (with_reducible refine Xv ?_; first | refine aq2 rfl rfl rfl Zh4 (hn _) ?_ | refine aq2 rfl rfl rfl Zt7 (hin2 _ hib _) ?_)
          | (exfalso; omega)
         exact ⟨rfl, l.names.length - (k + 1), by omega, k + 1, hlt, rfl, by rw [ho]; rfl, by rw [Y4], e1, rfl⟩
       · skip
         have F : _ ∧ _ ∧ _ ∧ _ := ⟨Y4 l, e1, e3, wk⟩
         repeat' first
          | (with_reducible refine Ya ?_; refine Y8 mixd (by kernel_rfl) ?_)
          | refine gg ?_
          | refine Two.mk (fun hq => ?_) fun hq => ?_
          | (with_reducible refine Xv ?_; first | refine aq2 rfl rfl rfl Zh4 (hn _) ?_ | refine aq2 rfl rfl rfl Zt7 (hin2 _ hib _) ?_)
          | (exfalso; omega)
         exact ⟨.inr rfl, endD (r := .v (.bool false)) hl0 rfl (by simp) (by simp) rfl (by rw [low]; trivial) ⟨rfl, by rw [ho]; rfl⟩⟩
   · skip
     have F : _ ∧ _ ∧ _ := ⟨Y4 l, e1, e3⟩
     repeat' first
      | (with_reducible refine Ya ?_; refine Y8 mixd (by kernel_rfl) ?_)
      | refine gg ?_
      | refine Two.mk (fun hq => ?_) fun hq => ?_
      | refine Evry.mk fun x hx => ?_
      | (exfalso; omega)
     exact ⟨.inr rfl, endD (r := .v (.bool true)) hl0 rfl (by simp) (by simp) rfl (by rw [low]; trivial) ⟨rfl, by rw [ho, Zf (by omega)]; rfl⟩⟩
 have en : Zg2 l.kind l.names l.rules = (Zc2 l.names && l.rules.all (Ze2 l.names)) := by unfold Zg2; rw [if_neg h6]
 rw [en]
 cases hrb : Zc2 l.names <;> rw [hrb] at hri
 · skip
   have F : _ ∧ _ := ⟨Y4 l, h6⟩
   repeat' first
    | refine g0 ?_
    | (with_reducible refine Y7 ?_; refine gc rfl rfl rfl Ye2 (hri _) ?_)
   exact ⟨.inr rfl, endD (r := .v (.bool false)) hl0 rfl (by simp) (by simp) rfl (by rw [low]; trivial) ⟨rfl, rfl⟩⟩
 rw [Bool.true_and]
 have F : _ ∧ _ := ⟨Y4 l, h6⟩
 repeat' first
  | refine g0 ?_
  | (with_reducible refine Y7 ?_; refine gc rfl rfl rfl Ye2 (hri _) ?_)
 refine Yf (fun m e h' => ∃ (k : Nat) (T : List Ob), k ≤ l.rules.length ∧ m = l.rules.length - k ∧ l.rules.all (Ze2 l.names) = (l.rules.drop k).all (Ze2 l.names) ∧ h' = gM (.cells (latX l)) T ∧ e 1 = .ptr 0 0 ∧ e 4 = .v (.int .i64 k)) l.rules.length ⟨0, [], Y3 _, rfl, rfl, (by rw [Y4]; rfl), rfl, rfl⟩ ?_
 rintro m e h' ⟨k, T, hk, rfl, ho, rfl, e1, e4⟩
 by_cases hlt : k < l.rules.length
 rotate_left
 · skip
   have F : _ ∧ _ ∧ _ := ⟨Y4 l, e1, e4⟩
   repeat' first
    | refine gg ?_
    | refine Two.mk (fun hq => ?_) fun hq => ?_
    | refine Evry.mk fun x hx => ?_
    | (exfalso; omega)
   exact ⟨.inr rfl, endD (r := .v (.bool true)) hl0 rfl (by simp) (by simp) rfl (by rw [low]; trivial) ⟨rfl, by rw [ho, Zf (by omega)]; rfl⟩⟩
 have hx : l.rules[k]? = some l.rules[k] := Zc hlt
 have wk : IntKind.i64.wrap ((k : Int) + 1) = (k : Int) + 1 := IntWalk.i64_in _ (by omega)
 rw [rules_step _ _ k hlt] at ho
 obtain ⟨hcl, hcs⟩ := hcd _ (Zz hlt)
 generalize l.rules[k] = x at hx ho hcl hcs
 have hrx := rRising_d G hG x.cond hcl hcs
 have hin := rIn_d G hG l.names x.concl hnl
 by_cases hz : x.cond.length = 0
 · have er : Ze2 l.names x = false := by unfold Ze2; rw [decide_eq_false (by omega)]; rfl
   have F : _ ∧ _ ∧ _ ∧ _ ∧ _ := ⟨Y4 l, e1, e4, wk, hz⟩
   repeat' first
    | refine gg ?_
    | refine Two.mk (fun hq => ?_) fun hq => ?_
    | (exfalso; omega)
   all_goals first | (exfalso; omega) | exact ⟨.inr rfl, endD (r := .v (.bool false)) hl0 rfl (by simp) (by simp) rfl (by rw [low]; trivial) ⟨rfl, by rw [ho, er]; rfl⟩⟩
 cases hxb : Zc2 x.cond <;> rw [hxb] at hrx
 · have er : Ze2 l.names x = false := by unfold Ze2; rw [hxb]; simp
   have F : _ ∧ _ ∧ _ ∧ _ := ⟨Y4 l, e1, e4, wk⟩
   repeat' first
    | refine gg ?_
    | refine Two.mk (fun hq => ?_) fun hq => ?_
    | (with_reducible refine Y7 ?_; refine gc rfl rfl rfl Ye2 (hrx _) ?_)
    | (exfalso; omega)
   all_goals first | (exfalso; omega) | exact ⟨.inr rfl, endD (r := .v (.bool false)) hl0 rfl (by simp) (by simp) rfl (by rw [low]; trivial) ⟨rfl, by rw [ho, er]; rfl⟩⟩
 cases hib : hasS l.names x.concl <;> rw [hib] at hin
 · have er : Ze2 l.names x = false := by unfold Ze2; rw [hib]; simp
   have F : _ ∧ _ ∧ _ ∧ _ := ⟨Y4 l, e1, e4, wk⟩
   repeat' first
    | refine gg ?_
    | refine Two.mk (fun hq => ?_) fun hq => ?_
    | (with_reducible refine Y7 ?_; first | refine gc rfl rfl rfl Ye2 (hrx _) ?_ | refine gc rfl rfl rfl Zt7 (hin _) ?_)
    | (exfalso; omega)
   all_goals first | (exfalso; omega) | exact ⟨.inr rfl, endD (r := .v (.bool false)) hl0 rfl (by simp) (by simp) rfl (by rw [low]; trivial) ⟨rfl, by rw [ho, er]; rfl⟩⟩
 have er : Ze2 l.names x = x.cond.all (hasS l.names) := by unfold Ze2; rw [hxb, hib, decide_eq_true hz]; simp
 rw [er] at ho
 have F : _ ∧ _ ∧ _ ∧ _ := ⟨Y4 l, e1, e4, wk⟩
 repeat' first
  | refine gg ?_
  | refine Two.mk (fun hq => ?_) fun hq => ?_
  | (with_reducible refine Y7 ?_; first | refine gc rfl rfl rfl Ye2 (hrx _) ?_ | refine gc rfl rfl rfl Zt7 (hin _) ?_)
  | (exfalso; omega)
 all_goals try (exfalso; omega)
 refine Yf (fun m e h' => ∃ j : Nat, j ≤ x.cond.length ∧ m = x.cond.length - j ∧ x.cond.all (hasS l.names) = (x.cond.drop j).all (hasS l.names) ∧ h' = gM (.cells (latX l)) (T ++ [.cells (Zk4 x)]) ∧ e 1 = .ptr 0 0 ∧ e 4 = .v (.int .i64 k) ∧ e 5 = .ptr (T.length + 1) 0 ∧ e 6 = .v (.int .i64 j)) x.cond.length ⟨0, Y3 _, rfl, rfl, (by rw [Y4, Zj2]), e1, e4, rfl, rfl⟩ ?_
 clear e1 e4
 rintro m e h' ⟨j, hj, rfl, hoj, rfl, e1, e4, e5, e6⟩
 by_cases hjl : j < x.cond.length
 rotate_left
 · skip
   have F : _ ∧ _ ∧ _ ∧ _ ∧ _ ∧ _ := ⟨Y4 l, e1, e4, e5, e6, wk⟩
   repeat' first
    | (with_reducible refine Ya ?_; refine Y8 mixd (by kernel_rfl) ?_)
    | refine gg ?_
    | refine Two.mk (fun hq => ?_) fun hq => ?_
    | refine Evry.mk fun x hx => ?_
    | (exfalso; omega)
   exact ⟨rfl, l.rules.length - (k + 1), by omega, k + 1, _, hlt, rfl, by rw [ho, hoj, Zf (by omega)]; rfl, by rw [Y4], e1, rfl⟩
 have hy : x.cond[j]? = some x.cond[j] := Zc hjl
 have wj : IntKind.i64.wrap ((j : Int) + 1) = (j : Int) + 1 := IntWalk.i64_in _ (by omega)
 rw [conds_step _ _ j hjl] at hoj
 generalize x.cond[j] = y at hy hoj
 have hiy := rIn_d G hG l.names y hnl
 cases hyb : hasS l.names y <;> rw [hyb] at hiy hoj
 · skip
   have F : _ ∧ _ ∧ _ ∧ _ ∧ _ ∧ _ := ⟨Y4 l, e1, e4, e5, e6, wj⟩
   repeat' first
    | (with_reducible refine Ya ?_; refine Y8 mixd (by kernel_rfl) ?_)
    | refine gg ?_
    | refine Two.mk (fun hq => ?_) fun hq => ?_
    | (with_reducible refine Xv ?_; refine aq2 rfl rfl rfl Zt7 (hiy _) ?_)
    | (exfalso; omega)
   exact ⟨.inr rfl, endD (r := .v (.bool false)) hl0 rfl (by simp) (by simp) rfl (by rw [low]; trivial) ⟨rfl, by rw [ho, hoj]; rfl⟩⟩
 · skip
   have F : _ ∧ _ ∧ _ ∧ _ ∧ _ ∧ _ := ⟨Y4 l, e1, e4, e5, e6, wj⟩
   repeat' first
    | (with_reducible refine Ya ?_; refine Y8 mixd (by kernel_rfl) ?_)
    | refine gg ?_
    | refine Two.mk (fun hq => ?_) fun hq => ?_
    | (with_reducible refine Xv ?_; refine aq2 rfl rfl rfl Zt7 (hiy _) ?_)
    | (exfalso; omega)
   exact ⟨rfl, x.cond.length - (j + 1), by omega, j + 1, hjl, rfl, by rw [hoj]; rfl, by rw [Y4, Zj2], e1, e4, e5, rfl⟩
end
section
attribute [local irreducible] on aOp
attribute [local go_sem] decide_true decide_false Zt Zm
attribute [local simp] byD_len
def walkG (g : Lat → Nat → Nat × Int) : List Lat → Nat → Nat × Int
 | [], n => (n, 0)
 | p :: t, n => if (g p n).2 ≠ 0 then (n, (g p n).2) else walkG g t (g p n).1
def Zl6 : Nat → Lat → Nat → Nat × Int
 | 0, l, n => (n, Zm6 l 7 n)
 | f + 1, l, n => if Zm6 l (6 - f) n ≠ 0 then (n, Zm6 l (6 - f) n) else walkG (Zl6 f) l.parts (n + 1)
theorem walkG_go {g : Lat → Nat → Nat × Int} {v : Lat → Nat → Int × Nat} : ∀ (ps : List Lat) (n : Nat), (∀ p ∈ ps, ∀ n, (g p n).2 = (v p n).1 ∧ ((v p n).1 = 0 → (g p n).1 = (v p n).2)) → (walkG g ps n).2 = (goL v ps n).1 ∧ ((goL v ps n).1 = 0 → (walkG g ps n).1 = (goL v ps n).2)
 | [], n, _ => ⟨rfl, fun _ => rfl⟩
 | p :: t, n, h => by
  obtain ⟨h1, h2⟩ := h p (by simp) n
  rw [walkG, goL, h1]
  by_cases h0 : (v p n).1 = 0
  · rw [if_neg (fun q => q h0), if_neg (fun q => q h0), h2 h0]
    exact walkG_go t _ fun q hq => h q (by simp [hq])
  · rw [if_pos h0, if_pos h0]
    exact ⟨rfl, fun q => absurd q h0⟩
theorem Zl5 : ∀ (f : Nat) (l : Lat) (n : Nat), f ≤ 6 → (Zl6 f l n).2 = (X4 f l n).1 ∧ ((X4 f l n).1 = 0 → (Zl6 f l n).1 = (X4 f l n).2)
 | 0, l, n, _ => by
  rcases Yj0 0 l n 7 (by omega) (by omega) with ⟨h1, h2⟩ | ⟨_, g, hg, _⟩
  · exact ⟨h2.symm, fun q => absurd (h2 ▸ q) h1⟩
  · omega
 | f + 1, l, n, hf => by
  rw [Zl6]
  rcases Yj0 (f + 1) l n (6 - f) (by omega) hf with ⟨h1, h2⟩ | ⟨h1, g, hg, h2⟩
  · rw [if_pos h1]; exact ⟨h2.symm, fun q => absurd (h2 ▸ q) h1⟩
  · obtain rfl : f = g := by omega
    rw [if_neg (fun q => q h1), h2]
    exact walkG_go l.parts (n + 1) fun p _ m => Zl5 f p m (by omega)
theorem walkF_le {f : Nat} {l : Lat} {n : Nat} (hf : f ≤ 6) (hn : n ≤ 64) (h : (Zl6 f l n).2 = 0) : (Zl6 f l n).1 ≤ 64 := by
 obtain ⟨h1, h2⟩ := Zl5 f l n hf
 rw [h2 (h1 ▸ h)]
 exact visit_le f l n hn
theorem walkF_chk (l : Lat) : (Zl6 6 l 0).2 = chkE l := (Zl5 6 l 0 (Z7 _)).1
theorem nodeR_lt {l : Lat} {d : Int} {n : Nat} (h : Zm6 l d n = 0) : n < 64 := by
 unfold Zm6 at h
 by_cases h1 : 6 < d ∨ 64 ≤ n
 · rw [if_pos h1] at h; exact absurd h (by decide)
 · omega
variable (G : Nat → D) (hG : ∀ g, low 0 (G g))
include hG
attribute [local go_sem] Z3 Zn Zo Zp Int.toNat_natCast Zg Z6 Zi Z1 Z2 Zj Zq3 Yd0
attribute [local go_sem ↓] reduceIte
theorem rNode_d (l : Lat) (hsm : Sm l) (d : Int) (n : Nat) (hd : 0 ≤ d ∧ d ≤ 7) (hn : n ≤ 64) (h : List Ob) : Does Zh G 134 h [.agg (latX l), .v (.int .i64 d), .v (.int .i64 n)] (fun h' r => h' = h ∧ r = .v (.int .i64 (Zm6 l d n))) := by
 refine Y9 G hG (by rw [lowL, lowL, lowL, lowL, low]; exact ⟨Yy _ l, by simp [low], by simp [low], trivial⟩) (by rw [low]; trivial) ?_ h
 clear h
 have hpl := hsm.parts
 have hnl := hsm.names
 have hrl := hsm.rules
 have hsh := rShape_d G hG l hsm
 have hnm := rNamed_d G hG l hsm
 have hp0 : l.kind = 7 → V0 l = false → ∃ p, l.parts[0]? = some p ∧ l.parts.length = 2 ∧ Ve l = !Wh p ∧ ∀ (b : Bool), Wh p = b → ∀ (h : List Ob), Does Zh G 198 h [.agg (latX p)] (fun h' r => h' = h ∧ r = .v (.bool b)) := fun h7 hs => by
  have h2 := Yh9 l hs h7
  match hm : l.parts, h2 with
  | [a, b], _ => exact ⟨a, rfl, rfl, by unfold Ve; rw [h7, hm]; rfl, fun c hc h => hc ▸ rChain_d G hG _ a (Z7 _) (hsm.part a (by rw [hm]; simp)) h⟩
 have hnc : l.kind ≠ 7 → Ve l = false := fun h7 => by unfold Ve; rw [decide_eq_false h7, Y2]
 simp only [Y4 l] at hsh hnm
 unfold Zm6 Jx
 generalize hsb : V0 l = sb at *
 generalize hnb : Zg2 l.kind l.names l.rules = nb at *
 generalize hcb : Ve l = cb at *
 generalize hkk : l.kind = k at *
 generalize hlo : l.lo = lo at *
 generalize hhi : l.hi = hi at *
 generalize hnn : l.names.length = nn at *
 generalize hnr : l.rules.length = nr at *
 refine Y6 Tryz.func134 rfl (Z0 rfl) hG fun hl0 _ => ?_
 simp only [Tryz.ntmps134]
 by_cases h7 : k = 7
 · subst h7
   cases sb
   · obtain ⟨p, hp, hp2, hpc, hpd⟩ := hp0 rfl rfl
     cases hcp : Wh p <;> rw [hcp] at hpc
     all_goals
      cases nb
     all_goals
      skip
      repeat' first
       | (with_reducible first | refine sA rfl ?_ | refine sI rfl rfl ?_ | refine sT rfl ?_ | refine sB rfl ?_)
       | (with_reducible refine Y7 ?_; first | refine Yp ?_ | (refine ao1 rfl rfl fun K HK => ?_; (first | refine Ym rfl ?_ | skip); simp only [go_sem, Y4 l, hkk, hlo, hhi, hnn, hnr, hp2, Int.toNat_zero]; (first | refine Yt (fun hq => ?_) (fun hq => ?_) | (refine ⟨by omega, ?_⟩; refine Xf (by assumption) ?_) | skip) <;> (refine HK _ _ ?_; clear HK K)) | refine ao0 rfl rfl ?_ | (refine ao2 rfl rfl rfl Yq4 (hsh _) ?_; rintro _ _ ⟨rfl, rfl⟩) | (refine ao2 rfl rfl rfl ent_197 (hnm _) ?_; rintro _ _ ⟨rfl, rfl⟩) | (refine ao2 rfl rfl rfl Yq3 (hpd _ hcp _) ?_; rintro _ _ ⟨rfl, rfl⟩))
      all_goals first | (exfalso; omega) | refine ⟨.inr rfl, endV hl0 rfl rfl ⟨rfl, congrArg (fun b => D.v (.int .i64 b)) ?_⟩⟩
      all_goals (clear hl0; simp [Yc5]; repeat' split) <;> first | rfl | omega | (simp_all; done) | (simp_all; omega) | (simp_all; intros; omega)
   · skip
     have F : _ ∧ _ ∧ _ ∧ _ ∧ _ ∧ _ := ⟨Y4 l, hkk, hlo, hhi, hnn, hnr⟩
     repeat' first
      | refine gg ?_
      | refine Two.mk (fun hq => ?_) fun hq => ?_
      | (with_reducible refine Y7 ?_; refine gc rfl rfl rfl Yq4 (hsh _) ?_)
     all_goals first | (exfalso; omega) | refine ⟨.inr rfl, endV hl0 rfl rfl ⟨rfl, congrArg (fun b => D.v (.int .i64 b)) ?_⟩⟩
     all_goals (clear hl0; simp [Yc5]; repeat' split) <;> first | rfl | omega | (simp_all; done) | (simp_all; omega) | (simp_all; intros; omega)
 · obtain rfl := hnc h7
   cases sb
   · cases nb
     all_goals
      skip
      have F : _ ∧ _ ∧ _ ∧ _ ∧ _ ∧ _ ∧ _ := ⟨Y4 l, hkk, hlo, hhi, hnn, hnr, h7⟩
      repeat' first
       | refine gg ?_
       | refine Two.mk (fun hq => ?_) fun hq => ?_
       | (with_reducible refine Y7 ?_; first | refine gc rfl rfl rfl Yq4 (hsh _) ?_ | refine gc rfl rfl rfl ent_197 (hnm _) ?_)
       | (exfalso; omega)
      all_goals first | (exfalso; omega) | refine ⟨.inr rfl, endV hl0 rfl rfl ⟨rfl, congrArg (fun b => D.v (.int .i64 b)) ?_⟩⟩
      all_goals (clear hl0; simp [Yc5]; repeat' split) <;> first | rfl | omega | (simp_all; done) | (simp_all; omega) | (simp_all; intros; omega)
   · skip
     have F : _ ∧ _ ∧ _ ∧ _ ∧ _ ∧ _ ∧ _ := ⟨Y4 l, hkk, hlo, hhi, hnn, hnr, h7⟩
     repeat' first
      | refine gg ?_
      | refine Two.mk (fun hq => ?_) fun hq => ?_
      | (with_reducible refine Y7 ?_; refine gc rfl rfl rfl Yq4 (hsh _) ?_)
      | (exfalso; omega)
     all_goals first | (exfalso; omega) | refine ⟨.inr rfl, endV hl0 rfl rfl ⟨rfl, congrArg (fun b => D.v (.int .i64 b)) ?_⟩⟩
     all_goals (clear hl0; simp [Yc5]; repeat' split) <;> first | rfl | omega | (simp_all; done) | (simp_all; omega) | (simp_all; intros; omega)
theorem rWalk_d : ∀ (f : Nat) (l : Lat) (n : Nat) (d : Int), f ≤ 6 → d = 7 - f → Sm l → n ≤ 64 → ∀ (h : List Ob), Does Zh G 77 h [.agg (latX l), .v (.int .i64 d), .v (.int .i64 n)] (fun h' r => h' = h ∧ r = .tup [.v (.int .i64 (Zl6 f l n).1), .v (.int .i64 (Zl6 f l n).2)]) := by
 intro f
 induction f with
 | zero =>
   intro l n d hf hd hsm hn h
   refine Y9 G hG (by rw [lowL, lowL, lowL, lowL, low]; exact ⟨Yy _ l, by simp [low], by simp [low], trivial⟩) (by simp [low, lowL]) ?_ h
   clear h
   obtain rfl : d = 7 := by omega
   have hnd := rNode_d G hG l hsm 7 n (by omega) hn
   simp only [Y4 l] at hnd
   have hne : Zm6 l 7 n ≠ 0 := by unfold Zm6; rw [if_pos (.inl (by omega))]; decide
   rw [Zl6]
   generalize Zm6 l 7 n = e at *
   refine Y6 Tryz.func77 rfl (Z0 rfl) hG fun hl0 _ => ?_
   simp only [Tryz.ntmps77]
   have F : _ ∧ _ := ⟨Y4 l, hne⟩
   repeat' first
    | refine g0 ?_
    | (with_reducible refine Y7 ?_; refine gc rfl rfl rfl ent_134 (hnd _) ?_)
   exact ⟨.inr rfl, endD (r := .tup [.v _, .v _]) hl0 rfl (by simp) (by simp) rfl (by simp [low, lowL]) ⟨rfl, rfl⟩⟩
 | succ f ih =>
   intro l n d hf hd hsm hn h
   refine Y9 G hG (by rw [lowL, lowL, lowL, lowL, low]; exact ⟨Yy _ l, by simp [low], by simp [low], trivial⟩) (by simp [low, lowL]) ?_ h
   clear h
   obtain rfl : d = 6 - f := by omega
   have hnd := rNode_d G hG l hsm (6 - f) n (by omega) hn
   simp only [Y4 l] at hnd
   have hpl := hsm.parts
   rw [Zl6]
   have hlt64 := nodeR_lt (l := l) (d := 6 - f) (n := n)
   generalize Zm6 l (6 - f) n = e at *
   refine Y6 Tryz.func77 rfl (Z0 rfl) hG fun hl0 _ => ?_
   simp only [Tryz.ntmps77]
   by_cases he : e = 0
   rotate_left
   · rw [if_pos he]
     have F : _ ∧ _ := ⟨Y4 l, he⟩
     repeat' first
      | refine g0 ?_
      | (with_reducible refine Y7 ?_; refine gc rfl rfl rfl ent_134 (hnd _) ?_)
     exact ⟨.inr rfl, endD (r := .tup [.v _, .v _]) hl0 rfl (by simp) (by simp) rfl (by simp [low, lowL]) ⟨rfl, rfl⟩⟩
   rw [if_neg (fun q => q he)]
   have hn64 := hlt64 he
   subst he
   have wn : IntKind.i64.wrap ((n : Int) + 1) = ((n + 1 : Nat) : Int) := IntWalk.i64_in _ (by omega)
   have wd : IntKind.i64.wrap (6 - (f : Int) + 1) = 6 - (f : Int) + 1 := IntWalk.i64_in _ (by omega)
   have F : _ ∧ _ := ⟨Y4 l, wn⟩
   repeat' first
    | refine g0 ?_
    | (with_reducible refine Y7 ?_; refine gc rfl rfl rfl ent_134 (hnd _) ?_)
   refine Yf (fun m e h' => ∃ k c : Nat, k ≤ l.parts.length ∧ m = l.parts.length - k ∧ c ≤ 64 ∧ walkG (Zl6 f) l.parts (n + 1) = walkG (Zl6 f) (l.parts.drop k) c ∧ h' = [.cells (latX l)] ∧ e 1 = .v (.int .i64 (6 - f)) ∧ e 3 = .ptr 0 0 ∧ e 9 = .v (.int .i64 c) ∧ e 10 = .v (.int .i64 k)) l.parts.length ⟨0, n + 1, Y3 _, rfl, by omega, rfl, (by rw [Y4]), rfl, rfl, rfl, rfl⟩ ?_
   clear hnd
   rintro m e h' ⟨k, c, hk, rfl, hc, ho, rfl, e1, e3, e9, e10⟩
   by_cases hlt : k < l.parts.length
   rotate_left
   · skip
     have F : _ ∧ _ ∧ _ ∧ _ ∧ _ := ⟨Y4 l, e1, e3, e9, e10⟩
     repeat' first
      | refine gg ?_
      | refine Two.mk (fun hq => ?_) fun hq => ?_
      | refine Evry.mk fun x hx => ?_
      | (exfalso; omega)
     exact ⟨.inr rfl, endD (r := .tup [.v _, .v _]) hl0 rfl (by simp) (by simp) rfl (by simp [low, lowL]) ⟨rfl, by rw [ho, Zf (by omega)]; rfl⟩⟩
   have hx : l.parts[k]? = some l.parts[k] := Zc hlt
   have wk : IntKind.i64.wrap ((k : Int) + 1) = (k : Int) + 1 := IntWalk.i64_in _ (by omega)
   rw [List.drop_eq_getElem_cons hlt, walkG] at ho
   have hr := ih l.parts[k] c (6 - (f : Int) + 1) (by omega) (by omega) (hsm.part _ (Zz hlt)) hc
   have hle := walkF_le (f := f) (l := l.parts[k]) (by omega) hc
   generalize l.parts[k] = x at hx ho hr hle
   generalize Zl6 f x c = y at *
   obtain ⟨y1, y2⟩ := y
   simp only at ho hr hle
   by_cases hy : y2 = 0
   · rw [if_neg (fun q => q hy)] at ho
     have hle := hle hy
     have F : _ ∧ _ ∧ _ ∧ _ ∧ _ ∧ _ ∧ _ ∧ _ := ⟨Y4 l, e1, e3, e9, e10, wk, wd, hy⟩
     repeat' first
      | refine gg ?_
      | refine Two.mk (fun hq => ?_) fun hq => ?_
      | (with_reducible refine Y7 ?_; refine gc rfl rfl rfl ent_77 (hr _) ?_)
      | (exfalso; omega)
     exact ⟨rfl, l.parts.length - (k + 1), by omega, k + 1, y1, hlt, rfl, hle, ho, by rw [Y4 l], e1, e3, rfl, rfl⟩
   · rw [if_pos hy] at ho
     have F : _ ∧ _ ∧ _ ∧ _ ∧ _ ∧ _ ∧ _ ∧ _ := ⟨Y4 l, e1, e3, e9, e10, wk, wd, hy⟩
     repeat' first
      | refine gg ?_
      | refine Two.mk (fun hq => ?_) fun hq => ?_
      | (with_reducible refine Y7 ?_; refine gc rfl rfl rfl ent_77 (hr _) ?_)
      | (exfalso; omega)
     exact ⟨.inr rfl, endD (r := .tup [.v _, .v _]) hl0 rfl (by simp) (by simp) rfl (by simp [low, lowL]) ⟨rfl, by rw [ho]⟩⟩
theorem Yo1 (l : Lat) (hsm : Sm l) (h : List Ob) : Does Zh G 38 h [.agg (latX l)] (fun h' r => h' = h ∧ r = .v (.int .i64 (chkE l))) := by
 refine Y9 G hG (Xy _ l) (by rw [low]; trivial) ?_ h
 clear h
 have hr := rWalk_d G hG 6 l 0 1 (by omega) (by omega) hsm (by omega)
 simp only [Y4 l] at hr
 rw [← walkF_chk]
 generalize Zl6 6 l 0 = y at *
 obtain ⟨y1, y2⟩ := y
 refine Y6 Tryz.func38 rfl (Z0 rfl) hG fun hl0 _ => ?_
 simp only [Tryz.ntmps38]
 have F := Y4 l
 repeat' first
  | refine g0 ?_
  | (with_reducible refine Y7 ?_; refine gc rfl rfl rfl ent_77 (hr _) ?_)
 exact ⟨.inr rfl, endV hl0 rfl rfl ⟨rfl, rfl⟩⟩
end
section
/-! Texts in the order of their bytes. -/
def ltS (a b : ByteArray) : Prop := a.data.toList < b.data.toList
instance : DecidableRel ltS := fun a b => inferInstanceAs (Decidable (a.data.toList < b.data.toList))
theorem Vj (a : ByteArray) : ¬ ltS a a := Zq _
theorem Yc6 {a b c : ByteArray} (h : ltS a b) (k : ltS b c) : ltS a c := List.lt_trans h k
theorem ba_ext {a b : ByteArray} (h : a.data.toList = b.data.toList) : a = b := ByteArray.ext (Array.ext' h)
theorem ltS_tri (a b : ByteArray) : ltS a b ∨ a = b ∨ ltS b a := by
 by_cases h : ltS a b
 · exact .inl h
 by_cases k : a = b
 · exact .inr (.inl k)
 · have h1 : b.data.toList ≤ a.data.toList := List.not_lt.1 h
   rcases List.le_iff_lt_or_eq.1 h1 with h2 | h2
   · exact .inr (.inr h2)
   · exact absurd (ba_ext h2).symm k
theorem bl_ltS (a b : ByteArray) : Op.bytesLess a.toList b.toList = decide (ltS a b) := by rw [Zr6, Zr6, bl_eq]; rfl
def insS (c : ByteArray) : List ByteArray → List ByteArray
 | [] => [c]
 | y :: t => if ltS c y then c :: y :: t else if c = y then y :: t else y :: insS c t
def ofS (l : List ByteArray) : List ByteArray := l.foldr insS []
theorem Yp7 : ∀ (c : ByteArray) (l : List ByteArray) (d : ByteArray), d ∈ insS c l ↔ d = c ∨ d ∈ l
 | c, [], d => by simp [insS]
 | c, y :: t, d => by
  rw [insS]
  split
  · simp
  split
  · rename_i h; subst h; simp
  · rw [Z5, Yp7 c t d, Z5]
    constructor
    · rintro (h | h | h) <;> simp [h]
    · rintro (h | h | h) <;> simp [h]
theorem Yd4 : ∀ (c : ByteArray) (l : List ByteArray), l.Pairwise ltS → (insS c l).Pairwise ltS
 | c, [], _ => by simp [insS]
 | c, y :: t, h => by
  obtain ⟨h1, h2⟩ := Z4.1 h
  rw [insS]
  split
  · rename_i hlt
    refine Z4.2 ⟨fun d hd => ?_, h⟩
    rcases Z5.1 hd with rfl | hd
    · exact hlt
    · exact Yc6 hlt (h1 d hd)
  split
  · exact h
  · rename_i hlt hz
    have hy : ltS y c := (ltS_tri c y).elim (fun a => absurd a hlt) (fun a => a.elim (fun a => absurd a hz) id)
    refine Z4.2 ⟨fun d hd => ?_, Yd4 c t h2⟩
    rcases (Yp7 c t d).1 hd with rfl | hd
    · exact hy
    · exact h1 d hd
theorem Yi8 : ∀ l : List ByteArray, (ofS l).Pairwise ltS
 | [] => .nil
 | c :: t => Yd4 c _ (Yi8 t)
theorem mem_ofS : ∀ {l : List ByteArray} {c : ByteArray}, c ∈ ofS l ↔ c ∈ l
 | [], _ => Iff.rfl
 | x :: t, c => by
  show c ∈ insS x (ofS t) ↔ _
  rw [Yp7, mem_ofS, Z5]
theorem Zb7 : ∀ {a b : List ByteArray}, a.Pairwise ltS → b.Pairwise ltS → (∀ c, c ∈ a ↔ c ∈ b) → a = b
 | [], [], _, _, _ => rfl
 | [], y :: t, _, _, h => by simpa using (h y).2 (by simp)
 | x :: s, [], _, _, h => by simpa using (h x).1 (by simp)
 | x :: s, y :: t, ha, hb, h => by
  obtain ⟨a1, a2⟩ := Z4.1 ha
  obtain ⟨b1, b2⟩ := Z4.1 hb
  have hxy : x = y := by
   rcases Z5.1 ((h x).1 (by simp)) with e | hx
   · exact e
   rcases Z5.1 ((h y).2 (by simp)) with e | hy
   · exact e.symm
   exact absurd (Yc6 (a1 y hy) (b1 x hx)) (Vj x)
  subst hxy
  rw [Zb7 a2 b2 fun c => ⟨fun hc => ?_, fun hc => ?_⟩]
  · rcases Z5.1 ((h c).1 (by simp [hc])) with rfl | q
    · exact absurd (a1 c hc) (Vj c)
    · exact q
  · rcases Z5.1 ((h c).2 (by simp [hc])) with rfl | q
    · exact absurd (b1 c hc) (Vj c)
    · exact q
/-! Leaving out equal neighbours. -/
def cptS : ByteArray → List ByteArray → List ByteArray
 | _, [] => []
 | p, y :: t => if y = p then cptS y t else y :: cptS y t
def compactS : List ByteArray → List ByteArray
 | [] => []
 | x :: t => x :: cptS x t
def sX (s : ByteArray) : List D := [.v (.string s)]
end
section
theorem strLt_ltS (a b : ByteArray) : J0 a b = decide (ltS a b) := bl_ltS a b
theorem Zk7 : ∀ (p : ByteArray) (l : List ByteArray), Xk p l = true ↔ (p :: l).Pairwise ltS
 | p, [] => by simp [Xk]
 | p, x :: t => by
   rw [Xk, Za, Zk7 x t, strLt_ltS, decide_eq_true_eq]
   constructor
   · rintro ⟨h, hp⟩
     refine Z4.2 ⟨fun y hy => ?_, hp⟩
     rcases Z5.1 hy with rfl | hy
     · exact h
     · exact Yc6 h ((Z4.1 hp).1 y hy)
   · intro h
     exact ⟨(Z4.1 h).1 x (by simp), (Z4.1 h).2⟩
theorem Ya7 : ∀ l : List ByteArray, Wd l = true ↔ l.Pairwise ltS
 | [] => by simp [Wd]
 | x :: t => Zk7 x t
theorem Yj {a b : List ByteArray} : Xo a b = true ↔ ∀ x ∈ a, x ∈ b := by
 unfold Xo
 rw [Zr]
 exact ⟨fun h x hx => (Xs _ _).1 (h x hx), fun h x hx => (Xs _ _).2 (h x hx)⟩
theorem Xb {only s : List ByteArray} : Yi only s = true ↔ s.Pairwise ltS ∧ ∀ x ∈ s, Wo x = true ∧ (only = [] ∨ x ∈ only) := by
 unfold Yi memB
 rw [Za, Ya7, Zr]
 simp only [Za, Bool.or_eq_true, decide_eq_true_eq, Xs, List.length_eq_zero_iff]
theorem Zb1 {rs : List Rl} {s : List ByteArray} : V3 rs s = true ↔ ∀ r ∈ rs, (∀ x ∈ r.cond, x ∈ s) → r.concl ∈ s := by
 unfold V3
 rw [Zr]
 refine forall_congr' fun r => forall_congr' fun _ => ?_
 rw [Bool.or_eq_true, Xs, Z8, ← Zb, Yj]
 exact ⟨fun h a => h.elim (fun h => absurd a h) id, fun h => Classical.byContradiction fun hn => hn (.inr (h (Classical.byContradiction fun h' => hn (.inl h'))))⟩
def Uo (a b : List ByteArray) : List ByteArray := ofS (a ++ b)
theorem Wj {a b : List ByteArray} {x : ByteArray} : x ∈ Uo a b ↔ x ∈ a ∨ x ∈ b := by unfold Uo; rw [mem_ofS, Zk]
theorem Zv0 (a b : List ByteArray) : (Uo a b).Pairwise ltS := Yi8 _
theorem Zr7 {only a b : List ByteArray} (ha : Yi only a = true) (hb : Yi only b = true) : Yi only (Uo a b) = true := by
 rw [Xb] at *
 exact ⟨Zv0 a b, fun x hx => (Wj.1 hx).elim (ha.2 x) (hb.2 x)⟩
theorem Yh3 {only a : List ByteArray} (f : ByteArray → Bool) (ha : Yi only a = true) : Yi only (a.filter f) = true := by
 rw [Xb] at *
 exact ⟨ha.1.filter f, fun x hx => ha.2 x (Zw.1 hx).1⟩
def minS (a b : List ByteArray) : List ByteArray := a.filter fun s => !hasS b s
def interS (a b : List ByteArray) : List ByteArray := a.filter fun s => hasS b s
theorem Zp6 {a b : List ByteArray} {x : ByteArray} : x ∈ minS a b ↔ x ∈ a ∧ x ∉ b := by unfold minS; rw [Zw, Z8, ← Zb, Xs]
/-! Closure. -/
def fireS (rs : List Rl) (s : List ByteArray) : Option Rl := rs.find? fun r => Xo r.cond s && !hasS s r.concl
def Zi5 : Nat → List Rl → List ByteArray → List ByteArray
 | 0, _, s => s
 | f + 1, rs, s => match fireS rs s with
   | none => s
   | some r => Zi5 f rs (s ++ [r.concl])
def Zb2 (ns : List ByteArray) (rs : List Rl) (s : List ByteArray) : List ByteArray := ns.filter (hasS (Zi5 ns.length rs s))
theorem Yd9 {rs : List Rl} {s : List ByteArray} {r : Rl} (h : fireS rs s = some r) : r ∈ rs ∧ (∀ x ∈ r.cond, x ∈ s) ∧ r.concl ∉ s := by
 have h1 := List.find?_some h
 rw [Za, Yj, Z8, ← Zb, Xs] at h1
 exact ⟨List.mem_of_find?_eq_some h, h1.1, h1.2⟩
theorem fire_none {rs : List Rl} {s : List ByteArray} : fireS rs s = none ↔ V3 rs s = true := by
 unfold fireS
 rw [List.find?_eq_none, Zb1]
 refine forall_congr' fun r => forall_congr' fun _ => ?_
 rw [Za, Yj, Z8, ← Zb, Xs]
 exact ⟨fun h a => Classical.byContradiction fun hn => h ⟨a, hn⟩, fun h a => a.2 (h a.1)⟩
theorem chain_sub : ∀ (f : Nat) (rs : List Rl) (s : List ByteArray), ∀ x ∈ s, x ∈ Zi5 f rs s
 | 0, _, _, _, hx => hx
 | f + 1, rs, s, x, hx => by
  rw [Zi5]
  split
  · exact hx
  · exact chain_sub f rs _ x (Zk.2 (.inl hx))
theorem Yf4 : ∀ (f : Nat) (rs : List Rl) (s t : List ByteArray), V3 rs t = true → (∀ x ∈ s, x ∈ t) → ∀ x ∈ Zi5 f rs s, x ∈ t
 | 0, _, _, _, _, h, x, hx => h x hx
 | f + 1, rs, s, t, ht, h, x, hx => by
  rw [Zi5] at hx
  split at hx
  · exact h x hx
  · rename_i r hr
    obtain ⟨h1, h2, h3⟩ := Yd9 hr
    refine Yf4 f rs _ t ht (fun y hy => ?_) x hx
    rcases Zk.1 hy with hy | hy
    · exact h y hy
    · rw [Zl.1 hy]
      exact Zb1.1 ht r h1 fun z hz => h z (h2 z hz)
theorem chain_in : ∀ (f : Nat) (rs : List Rl) (ns s : List ByteArray), (∀ r ∈ rs, r.concl ∈ ns) → (∀ x ∈ s, x ∈ ns) → ∀ x ∈ Zi5 f rs s, x ∈ ns
 | 0, _, _, _, _, h, x, hx => h x hx
 | f + 1, rs, ns, s, hr, h, x, hx => by
  rw [Zi5] at hx
  split at hx
  · exact h x hx
  · rename_i r hr'
    refine chain_in f rs ns _ hr (fun y hy => ?_) x hx
    rcases Zk.1 hy with hy | hy
    · exact h y hy
    · rw [Zl.1 hy]
      exact hr r (Yd9 hr').1
theorem filter_lt {α : Type} {p q : α → Bool} : ∀ {l : List α}, (∀ x, p x = true → q x = true) → (∃ x ∈ l, q x = true ∧ p x = false) → (l.filter p).length < (l.filter q).length
 | [], _, h => by obtain ⟨x, hx, _⟩ := h; cases hx
 | y :: t, hpq, h => by
  have hle : (t.filter p).length ≤ (t.filter q).length := by
   clear h
   induction t with
   | nil => exact Z7 _
   | cons z t ih =>
    rw [Zs, Zs]
    cases hp : p z
    · cases hq : q z
      · exact ih
      · simp only [Z3, ↓reduceIte, Z9]; omega
    · rw [hpq z hp]
      simp only [↓reduceIte, Z9]; omega
  rw [Zs, Zs]
  obtain ⟨x, hx, h1, h2⟩ := h
  rcases Z5.1 hx with rfl | hx
  · rw [h1, h2]
    simp only [Z3, ↓reduceIte, Z9]; omega
  · have ih := filter_lt hpq ⟨x, hx, h1, h2⟩
    cases hp : p y
    · cases hq : q y
      · exact ih
      · simp only [Z3, ↓reduceIte, Z9]; omega
    · rw [hpq y hp]
      simp only [↓reduceIte, Z9]; omega
theorem Zw4 : ∀ (f : Nat) (rs : List Rl) (ns s : List ByteArray), (∀ r ∈ rs, r.concl ∈ ns) → (ns.filter fun x => !hasS s x).length ≤ f → V3 rs (Zi5 f rs s) = true
 | 0, rs, ns, s, hr, hf => by
  have h0 := List.filter_eq_nil_iff.1 (List.length_eq_zero_iff.1 (Nat.le_zero.1 hf))
  refine Zb1.2 fun r h _ => ?_
  have := h0 r.concl (hr r h)
  rw [Z8, Bool.not_eq_false, Xs] at this
  exact this
 | f + 1, rs, ns, s, hr, hf => by
  rw [Zi5]
  split
  · rename_i hn; exact fire_none.1 hn
  · rename_i r hr'
    obtain ⟨h1, h2, h3⟩ := Yd9 hr'
    refine Zw4 f rs ns _ hr ?_
    have := filter_lt (p := fun x => !hasS (s ++ [r.concl]) x) (q := fun x => !hasS s x) (l := ns) (fun x hx => by
      rw [Z8, ← Zb, Xs, Zk] at hx
      rw [Z8, ← Zb, Xs]
      exact fun h => hx (.inl h)) ⟨r.concl, hr r h1, by rw [Z8, ← Zb, Xs]; exact h3, by rw [Bool.not_eq_false', Xs]; simp⟩
    omega
section
variable {ns s : List ByteArray} {rs : List Rl} (hr : ∀ r ∈ rs, r.concl ∈ ns) (hs : ∀ x ∈ s, x ∈ ns)
include hr hs
theorem Zp7 {x : ByteArray} : x ∈ Zb2 ns rs s ↔ x ∈ Zi5 ns.length rs s := by
 unfold Zb2
 rw [Zw, Xs]
 exact ⟨fun h => h.2, fun h => ⟨chain_in _ _ _ _ hr hs x h, h⟩⟩
theorem close_sub : ∀ x ∈ s, x ∈ Zb2 ns rs s := fun x hx => (Zp7 hr hs).2 (chain_sub _ _ _ x hx)
theorem close_closed : V3 rs (Zb2 ns rs s) = true := by
 have h := Zw4 ns.length rs ns s hr (List.length_filter_le _ _)
 rw [Zb1] at h ⊢
 intro r hr' hc
 exact (Zp7 hr hs).2 (h r hr' fun x hx => (Zp7 hr hs).1 (hc x hx))
theorem close_least {t : List ByteArray} (ht : V3 rs t = true) (h : ∀ x ∈ s, x ∈ t) : ∀ x ∈ Zb2 ns rs s, x ∈ t := fun x hx => Yf4 _ _ _ t ht h x ((Zp7 hr hs).1 hx)
end
theorem close_sorted {ns s : List ByteArray} {rs : List Rl} (h : ns.Pairwise ltS) : (Zb2 ns rs s).Pairwise ltS := h.filter _
theorem close_in {ns s : List ByteArray} {rs : List Rl} : ∀ x ∈ Zb2 ns rs s, x ∈ ns := fun _ hx => (Zw.1 hx).1
end
end Go.Proofs.YtbhkcbidcfofiaaGreat
