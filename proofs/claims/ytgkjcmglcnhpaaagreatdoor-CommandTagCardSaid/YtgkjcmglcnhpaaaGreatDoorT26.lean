/-
  What the statements of the chapter share, part 26: VA9, VA10, VA11.
-/
import Derived.Test.YtgkjcmglcnhpaaaGreatDoorT25
set_option linter.unusedVariables false
set_option linter.unusedSimpArgs false
set_option maxRecDepth 100000
set_option maxHeartbeats 8000000
namespace Go.Proofs.YtgkjcmglcnhpaaaGreatDoor
open _root_.Bool renaming false_eq_true → Z0, not_false → Zp, not_true → Zq
open _root_.Int renaming reduceEq → Zc, reduceLT → Zd, reduceLE → Ze, toNat_natCast → Zg, toNat_zero → Zh
open _root_.List renaming length_append → Z3, append_assoc → Z4, cons_append → Z5, length_cons → Z6, nil_append → Z8, length_nil → Z9, length_map → Zf, map_append → Zi, getElem?_append_right → Zk, reverse_cons → Zl, reverse_nil → Zn
open _root_.Nat renaming reduceEqDiff → Z1, reduceLeDiff → Z2, reduceAdd → Z7, reduceBEq → Za, reduceMul → Zb, le_of_ble_eq_true → Zj
open _root_.Option renaming bind_some → Zm, map_some → Zo
open _root_.Prod renaming fst → Zr, snd → Zs
open Go.RowKit
section
attribute [local irreducible] on aOp
attribute [local go_sem] decide_true decide_false Zq Zp
attribute [local simp] byD_len
theorem rd_67 {l : Lat} (h : l.kind = 6 ∨ l.kind = 7) (s : RS) : X3 l s = (.mk 0 [] (Yq l.parts s).1 [], (Yq l.parts s).2) := by cases l; exact Yl2 h s
theorem rowsOk_va (v : Val) : Xd 4 [vaX v] := fun row hr => by simp only [List.mem_singleton] at hr; subst hr; exact ⟨Yi v, List.all_eq_true.1 (vaX_all2 v)⟩
theorem low_vaP (n : Int) (ps : List Val) : low 0 (.agg [.v (.int .i64 n), .v (.slice none 0 0), .sl 4 (ps.map vaX), .v (.slice none 0 0)]) := by
 rw [low]; simp only [lowL]; exact ⟨by simp [low], by simp [low], Yb7 _ ps, by simp [low], trivial⟩
variable (G : Nat → D) (hG : ∀ g, low 0 (G g))
include hG
theorem read_67 (l : Lat) (hk : l.kind = 6 ∨ l.kind = 7) (hpl : l.parts.length ≤ 8) (hrd : ∀ p ∈ l.parts, ReadD G p) (hkp : ∀ p ∈ l.parts, ∀ s : RS, s.Ok → (X3 p s).2.Ok ∧ (X3 p s).2.data = s.data) : ReadD G l := fun s ho hl => by
 rw [rd_67 hk, Zt8]
 generalize hR : Yq l.parts s = R
 apply Does.weak
 refine Y7 Tryz.func111 rfl (Zj rfl) hG fun hl0 _ => ?_
 simp only [Tryz.ntmps111]
 rcases hk with hk | hk
 all_goals
  skip
  repeat' first
   | (with_reducible first | refine sA rfl ?_ | refine sI rfl rfl ?_ | refine sT rfl ?_)
   | (with_reducible refine Y9 ?_; first | refine Y5 ?_ | (refine ao1 rfl rfl fun K HK => ?_; simp only [go_sem, ↓reduceIte, Z1, Z7, Z2, Za, Zb, Zc, Zd, Ze, Y4 l, hk, Zf, Z0] <;> (refine HK _ _ ?_; clear HK K)))
  refine U9 133 4 3 [.v (.int .i64 0), .v (.slice none 0 0)] [.v (.slice none 0 0)] rfl ?_
  refine Yp (fun m e h' => ∃ (k : Nat) (acc : List Val) (s2 : RS) (T : List Ob), k ≤ l.parts.length ∧ m = l.parts.length - k ∧ R = (acc ++ (Yq (l.parts.drop k) s2).1, (Yq (l.parts.drop k) s2).2) ∧ s2.Ok ∧ s2.data = s.data ∧ acc.length = k ∧ h' = q5 (Yc s2) (.cells (latX l)) (.cells nilV) (.cells [.v (.int .i64 0), .v (.slice none 0 0), .buf 4 acc.length, .v (.slice none 0 0)]) (.buf 133 4 (acc.map vaX)) T ∧ e 0 = .ptr 0 0 ∧ e 3 = .ptr 1 0 ∧ e 4 = .ptr 2 0 ∧ e 5 = .ptr 3 0 ∧ e 16 = .sl 6 (l.parts.map latX) ∧ e 17 = .v (.int .i64 l.parts.length) ∧ e 18 = .v (.int .i64 k)) l.parts.length ⟨0, [], s, [], Nat.zero_le _, rfl, hR.symm, ho, rfl, rfl, by rw [Y4 l, hk]; rfl, rfl, rfl, rfl, rfl, rfl, rfl, rfl⟩ ?_
  rintro m e h' ⟨k, acc, s2, T, hkl, rfl, hh, hoA, hdA, hal, rfl, e0, e3, e4, e5, e16, e17, e18⟩
  by_cases hlt : k < l.parts.length
  rotate_left
  · rw [List.drop_eq_nil_of_le (by omega), Yq, List.append_nil] at hh
    rw [hh]
    repeat' first
     | (with_reducible first | refine sA rfl ?_ | refine sI rfl rfl ?_ | refine sT rfl ?_ | refine sB rfl ?_)
     | (with_reducible refine Y9 ?_; first | refine Y5 ?_ | (refine ao1 rfl rfl fun K HK => ?_; simp only [go_sem, ↓reduceIte, Z1, Z7, Z2, Za, Zb, Zc, Zd, Ze, e0, e3, e4, e5, e16, e17, e18, q5_0, q5_1, q5_2, q5_3, q5_4, Wl, Wj, Xw, Wi, Wh, X2, X8, q5_l, Wg, Wn, X7, Wm, X6, nilV, Zf, Z0]; (first | refine Y8 (fun hq => ?_) (fun hq => ?_) | (refine ⟨by omega, by omega, ?_⟩; intro row hrow; obtain ⟨x, hx, rfl⟩ := Ym hrow; clear hrow) | skip) <;> (refine HK _ _ ?_; clear HK K)) | (refine ao1' rfl fun K HK => ?_; simp only [go_sem, ↓reduceIte, Z1, Z7, Z2, Za, Zb, Zc, Zd, Ze, e0, e3, e4, e5, e16, e17, e18, q5_0, q5_1, q5_2, q5_3, q5_4, Wl, Wj, Xw, Wi, Wh, X2, X8, q5_l, Wg, Wn, X7, Wm, X6, nilV, Zf, Z0]; refine HK _ _ ?_; clear HK K))
     | (exfalso; omega)
    exact ⟨.inr rfl, endR (s' := s2) (ds := [.agg [.v (.int .i64 0), .v (.slice none 0 0), .buf 4 acc.length, .v (.slice none 0 0)]]) (r := .agg [.v (.int .i64 0), .v (.slice none 0 0), .sl 4 (acc.map vaX), .v (.slice none 0 0)]) (T := _) (by simp only [resD, Tryz.results111, go_sem, ↓reduceIte, Z1, Z7, Z2, e4, nilV, q5_2, Xw]; try rfl) rfl (low_vaP _ _) (by simp [outD, cvD, cv1]) ⟨_, ⟨rfl, rfl⟩, Zq8 Xs (U1 _) Xs⟩⟩
  have hx : l.parts[k]? = some l.parts[k] := List.getElem?_eq_getElem hlt
  have wk : IntKind.i64.wrap ((k : Int) + 1) = ((k + 1 : Nat) : Int) := IntWalk.i64_in _ (by omega)
  have hrx := fun (h : List Ob) (q : h[0]? = some (Yc s2)) => (hrd _ (List.getElem_mem hlt)).at hG hoA (by rw [hdA]; exact hl) q
  obtain ⟨ho3, hd3⟩ := hkp _ (List.getElem_mem hlt) s2 hoA
  rw [List.drop_eq_getElem_cons hlt, Yq] at hh
  generalize l.parts[k] = x at hx hrx ho3 hd3 hh
  generalize X3 x s2 = y at hrx ho3 hd3 hh
  obtain ⟨y, s3⟩ := y
  simp only at hrx ho3 hd3 hh
  simp only [Y4 x] at hrx
  have hlr : (acc.map vaX).length = acc.length := Zf _
  repeat' first
   | (with_reducible first | refine sA rfl ?_ | refine sI rfl rfl ?_ | refine sT rfl ?_ | refine sB rfl ?_)
   | (with_reducible refine W2 ?_; first | refine W3 mixd (by kernel_rfl) ?_)
   | (with_reducible refine Y9 ?_; first | refine Y5 ?_ | (refine ao1 rfl rfl fun K HK => ?_; simp only [go_sem, ↓reduceIte, Z1, Z7, Z2, Za, Zb, Zc, Zd, Ze, Y4 l, Y4 x, e0, e3, e4, e5, e16, e17, e18, wk, Yi, Ye, q5_0, q5_1, q5_2, q5_3, q5_4, Wl, Wj, Xw, Wi, Wh, X2, X8, q5_l, Wg, Wn, X7, Wm, X6, Zf, Zg, Z4, Z5, Z8, Z3, Z6, Z9, Z0]; (first | refine Y8 (fun hq => ?_) (fun hq => ?_) | (refine ⟨by omega, by omega, ?_⟩; refine Ya (by assumption) ?_) | skip) <;> (refine HK _ _ ?_; clear HK K)) | (refine ao1' rfl fun K HK => ?_; simp only [go_sem, ↓reduceIte, Z1, Z7, Z2, Za, Zb, Zc, Zd, Ze, Y4 l, Y4 x, e0, e3, e4, e5, e16, e17, e18, wk, Yi, Ye, q5_0, q5_1, q5_2, q5_3, q5_4, Wl, Wj, Xw, Wi, Wh, X2, X8, q5_l, Wg, Wn, X7, Wm, X6, Zf, Zg, Z4, Z5, Z8, Z3, Z6, Z9, Z0]; refine HK _ _ ?_; clear HK K))
   | ((with_reducible refine Yc7 ?_); first | (refine Zt7 rfl rfl rfl rfl (by (first | (simp only [go_sem, ↓reduceIte, Z1, Z7, Z2, Za, Zb, Zc, Zd, Ze, Y4 l, Y4 x, e0, e3, e4, e5, e16, e17, e18, wk, Yi, Ye, q5_0, q5_1, q5_2, q5_3, q5_4, Wl, Wj, Xw, Wi, Wh, X2, X8, q5_l, Wg, Wn, X7, Wm, X6, Zf, Zg, Z4, Z5, Z8, Z3, Z6, Z9, Z0]; rfl) | (simp only [go_sem, ↓reduceIte, Z1, Z7, Z2, Za, Zb, Zc, Zd, Ze, Y4 l, Y4 x, e0, e3, e4, e5, e16, e17, e18, wk, Yi, Ye, q5_0, q5_1, q5_2, q5_3, q5_4, Wl, Wj, Xw, Wi, Wh, X2, X8, q5_l, Wg, Wn, X7, Wm, X6, Zf, Zg, Z4, Z5, Z8, Z3, Z6, Z9, Z0]; done))) hlr (by simp only [go_sem]; rfl) (by (first | (simp only [go_sem, ↓reduceIte, Z1, Z7, Z2, Za, Zb, Zc, Zd, Ze, Y4 l, Y4 x, e0, e3, e4, e5, e16, e17, e18, wk, Yi, Ye, q5_0, q5_1, q5_2, q5_3, q5_4, Wl, Wj, Xw, Wi, Wh, X2, X8, q5_l, Wg, Wn, X7, Wm, X6, Zf, Zg, Z4, Z5, Z8, Z3, Z6, Z9, Z0]; rfl) | (simp only [go_sem, ↓reduceIte, Z1, Z7, Z2, Za, Zb, Zc, Zd, Ze, Y4 l, Y4 x, e0, e3, e4, e5, e16, e17, e18, wk, Yi, Ye, q5_0, q5_1, q5_2, q5_3, q5_4, Wl, Wj, Xw, Wi, Wh, X2, X8, q5_l, Wg, Wn, X7, Wm, X6, Zf, Zg, Z4, Z5, Z8, Z3, Z6, Z9, Z0]; done))) (by simp) (rowsOk_va _) (by simp; omega) ?_) | (refine Ws rfl rfl rfl (by (first | (simp only [go_sem, ↓reduceIte, Z1, Z7, Z2, Za, Zb, Zc, Zd, Ze, Y4 l, Y4 x, e0, e3, e4, e5, e16, e17, e18, wk, Yi, Ye, q5_0, q5_1, q5_2, q5_3, q5_4, Wl, Wj, Xw, Wi, Wh, X2, X8, q5_l, Wg, Wn, X7, Wm, X6, Zf, Zg, Z4, Z5, Z8, Z3, Z6, Z9, Z0]; rfl) | (simp only [go_sem, ↓reduceIte, Z1, Z7, Z2, Za, Zb, Zc, Zd, Ze, Y4 l, Y4 x, e0, e3, e4, e5, e16, e17, e18, wk, Yi, Ye, q5_0, q5_1, q5_2, q5_3, q5_4, Wl, Wj, Xw, Wi, Wh, X2, X8, q5_l, Wg, Wn, X7, Wm, X6, Zf, Zg, Z4, Z5, Z8, Z3, Z6, Z9, Z0]; done))) (by rw [getD_agg' aggT_31, szT_31]; rfl) ?_) | (refine aS1 rfl rfl fun K HK => ?_; simp only [go_sem, ↓reduceIte, Z1, Z7, Z2, Za, Zb, Zc, Zd, Ze, Y4 l, Y4 x, e0, e3, e4, e5, e16, e17, e18, wk, Yi, Ye, q5_0, q5_1, q5_2, q5_3, q5_4, Wl, Wj, Xw, Wi, Wh, X2, X8, q5_l, Wg, Wn, X7, Wm, X6, Zf, Zg, Z4, Z5, Z8, Z3, Z6, Z9, Z0]; (first | refine Y8 (fun hq => ?_) (fun hq => ?_) | (refine ⟨by omega, by omega, ?_⟩; refine Ya (by assumption) ?_) | skip) <;> (refine HK _ _ rfl ?_; clear HK K)) | refine Ws rfl rfl rfl (by (first | (simp only [go_sem, ↓reduceIte, Z1, Z7, Z2, Za, Zb, Zc, Zd, Ze, Y4 l, Y4 x, e0, e3, e4, e5, e16, e17, e18, wk, Yi, Ye, q5_0, q5_1, q5_2, q5_3, q5_4, Wl, Wj, Xw, Wi, Wh, X2, X8, q5_l, Wg, Wn, X7, Wm, X6, Zf, Zg, Z4, Z5, Z8, Z3, Z6, Z9, Z0]; rfl) | (simp only [go_sem, ↓reduceIte, Z1, Z7, Z2, Za, Zb, Zc, Zd, Ze, Y4 l, Y4 x, e0, e3, e4, e5, e16, e17, e18, wk, Yi, Ye, q5_0, q5_1, q5_2, q5_3, q5_4, Wl, Wj, Xw, Wi, Wh, X2, X8, q5_l, Wg, Wn, X7, Wm, X6, Zf, Zg, Z4, Z5, Z8, Z3, Z6, Z9, Z0]; done))) (by rw [getD_one (by simp only [go_sem, ↓reduceIte, Z1, Z7, Z2, Za, Zb, Zc, Zd, Ze, Y4 l, Y4 x, e0, e3, e4, e5, e16, e17, e18, wk, Yi, Ye, q5_0, q5_1, q5_2, q5_3, q5_4, Wl, Wj, Xw, Wi, Wh, X2, X8, q5_l, Wg, Wn, X7, Wm, X6, Zf, Zg, Z4, Z5, Z8, Z3, Z6, Z9, Z0])]; rfl) ?_ | refine J2 rfl rfl (by (first | (simp only [go_sem, ↓reduceIte, Z1, Z7, Z2, Za, Zb, Zc, Zd, Ze, Y4 l, Y4 x, e0, e3, e4, e5, e16, e17, e18, wk, Yi, Ye, q5_0, q5_1, q5_2, q5_3, q5_4, Wl, Wj, Xw, Wi, Wh, X2, X8, q5_l, Wg, Wn, X7, Wm, X6, Zf, Zg, Z4, Z5, Z8, Z3, Z6, Z9, Z0]; rfl) | (simp only [go_sem, ↓reduceIte, Z1, Z7, Z2, Za, Zb, Zc, Zd, Ze, Y4 l, Y4 x, e0, e3, e4, e5, e16, e17, e18, wk, Yi, Ye, q5_0, q5_1, q5_2, q5_3, q5_4, Wl, Wj, Xw, Wi, Wh, X2, X8, q5_l, Wg, Wn, X7, Wm, X6, Zf, Zg, Z4, Z5, Z8, Z3, Z6, Z9, Z0]; done))) rfl (by simp only [go_sem, ↓reduceIte, Z1, Z7, Z2, Za, Zb, Zc, Zd, Ze, Y4 l, Y4 x, e0, e3, e4, e5, e16, e17, e18, wk, Yi, Ye, q5_0, q5_1, q5_2, q5_3, q5_4, Wl, Wj, Xw, Wi, Wh, X2, X8, q5_l, Wg, Wn, X7, Wm, X6, Zf, Zg, Z4, Z5, Z8, Z3, Z6, Z9, Z0]) (by simp) ?_ | refine Ze4 rfl rfl (by simp only [litD, Wv, go_sem, Z6, Z9, Zo, Zm, and_self, ↓reduceIte, Z1, Z7, Z2, Za, Zb, Zc, Zd, Ze, Y4 l, Y4 x, e0, e3, e4, e5, e16, e17, e18, wk, Yi, Ye, q5_0, q5_1, q5_2, q5_3, q5_4, Wl, Wj, Xw, Wi, Wh, X2, X8, q5_l, Wg, Wn, X7, Wm, X6, Zf, Zg, Z4, Z5, Z8, Z3, Z6, Z9, Z0]; rfl) ?_ | refine Us (by simp only [Zl, Zn, Z8, Z5, Vo, chk1]; repeat' (first | exact trivial | refine And.intro ?_ ?_ | exact .inr Xg | exact .inr Xr | exact .inr Ww | exact .inr (Va (by omega)) | exact .inr (Zq2 (by omega)) | (refine .inr ?_; simp [compat, J3, Vt, Up, nop, Yi, X2] <;> omega) | exact .inl (by kernel_rfl))) ?_ | refine U0 rfl rfl rfl Yd8 (by (first | (simp only [go_sem, ↓reduceIte, Z1, Z7, Z2, Za, Zb, Zc, Zd, Ze, Y4 l, Y4 x, e0, e3, e4, e5, e16, e17, e18, wk, Yi, Ye, q5_0, q5_1, q5_2, q5_3, q5_4, Wl, Wj, Xw, Wi, Wh, X2, X8, q5_l, Wg, Wn, X7, Wm, X6, Zf, Zg, Z4, Z5, Z8, Z3, Z6, Z9, Z0]; rfl) | (simp only [go_sem, ↓reduceIte, Z1, Z7, Z2, Za, Zb, Zc, Zd, Ze, Y4 l, Y4 x, e0, e3, e4, e5, e16, e17, e18, wk, Yi, Ye, q5_0, q5_1, q5_2, q5_3, q5_4, Wl, Wj, Xw, Wi, Wh, X2, X8, q5_l, Wg, Wn, X7, Wm, X6, Zf, Zg, Z4, Z5, Z8, Z3, Z6, Z9, Z0]; done))) (fun h2 k2 => hrx h2 k2) ?_)
   | (exfalso; omega)
  exact ⟨rfl, l.parts.length - (k + 1), by omega, k + 1, acc ++ [y], s3, _, hlt, rfl, by rw [hh, Z4]; rfl, ho3, hd3.trans hdA, by simp [hal], by rw [Y4 l, Zi, Z3]; rfl, e0, e3, e4, e5, e16, e17, rfl⟩
end
section
attribute [local irreducible] on aOp
attribute [local go_sem] decide_true decide_false Zq Zp
attribute [local simp] byD_len
theorem rd_5 {l : Lat} {p : Lat} (h : l.kind = 5) (hp : l.parts = [p]) (s : RS) : X3 l s = (.mk 0 ((Yy (Zd5 (X3 p)) (Yb s).1 (Yb s).2).1.map Zr) ((Yy (Zd5 (X3 p)) (Yb s).1 (Yb s).2).1.map Zs) [], (Yy (Zd5 (X3 p)) (Yb s).1 (Yb s).2).2) := by
 cases l; simp only [Lat.kind, Lat.parts] at h hp; subst h hp; exact readV_5 s
theorem low_vaM (n : Int) (ns : List ByteArray) (ps : List Val) : low 0 (.agg [.v (.int .i64 n), .sl 1 (ns.map strX), .sl 4 (ps.map vaX), .v (.slice none 0 0)]) := by
 rw [low]; simp only [lowL]; exact ⟨by simp [low], Zc5 _ ns, Yb7 _ ps, by simp [low], trivial⟩
variable (G : Nat → D) (hG : ∀ g, low 0 (G g))
include hG
theorem read_5 (l : Lat) (hk : l.kind = 5) (p : Lat) (hp : l.parts = [p]) (hrd : ReadD G p) (hkp : ∀ s : RS, s.Ok → (X3 p s).2.Ok ∧ (X3 p s).2.data = s.data) : ReadD G l := fun s ho hl => by
 rw [rd_5 hk hp, Zt8]
 have hb := fun (h : List Ob) (k : h[0]? = some (Yc s)) => Zo4 G hG 0 s h k ho (by omega)
 obtain ⟨ho2, hd2, hc2⟩ := U5 ho
 generalize Yb s = b at *
 obtain ⟨N, s1⟩ := b
 simp only at hb ho2 hd2 hc2 ⊢
 generalize hR : Yy (Zd5 (X3 p)) N s1 = R
 have hp0 : l.parts[0]? = some p := by rw [hp]; rfl
 have hpl : l.parts.length = 1 := by rw [hp]; rfl
 clear hp
 apply Does.weak
 refine Y7 Tryz.func111 rfl (Zj rfl) hG fun hl0 _ => ?_
 simp only [Tryz.ntmps111]
 repeat' first
  | (with_reducible first | refine sA rfl ?_ | refine sI rfl rfl ?_ | refine sT rfl ?_)
  | (with_reducible refine Y9 ?_; first | refine Y5 ?_ | (refine ao1 rfl rfl fun K HK => ?_; simp only [go_sem, ↓reduceIte, Z1, Z7, Z2, Za, Zb, Zc, Zd, Ze, Y4 l, hk, Z0] <;> (refine HK _ _ ?_; clear HK K)) | (refine ao2 rfl rfl rfl ent_49 (hb _ (by first | rfl | simp)) ?_; rintro _ _ ⟨rfl, rfl⟩))
 refine U9 9 1 3 [.v (.int .i64 0)] [.v (.slice none 0 0), .v (.slice none 0 0)] rfl ?_
 refine U9 133 4 3 [.v (.int .i64 0), .buf 4 0] [.v (.slice none 0 0)] rfl ?_
 refine Yp (fun m e h' => ∃ (k : Nat) (acc : List (ByteArray × Val)) (s2 : RS) (T : List Ob), m = k ∧ LoopAt R (Zd5 (X3 p)) acc k s2 ∧ s2.Ok ∧ s2.data.length = s.data.length ∧ acc.length + k ≤ 1000000 ∧ h' = q6 (Yc s2) (.cells (latX l)) (.cells nilV) (.cells [.v (.int .i64 0), .buf 4 acc.length, .buf 5 acc.length, .v (.slice none 0 0)]) (.buf 9 1 ((acc.map Zr).map strX)) (.buf 133 4 ((acc.map Zs).map vaX)) T ∧ e 0 = .ptr 0 0 ∧ e 3 = .ptr 1 0 ∧ e 4 = .ptr 2 0 ∧ e 5 = .ptr 3 0 ∧ e 6 = .v (.int .i64 k)) N ⟨N, [], s1, [], rfl, hR ▸ LoopAt.start _ N s1, ho2, by rw [hd2], by simp; omega, by rw [Y4 l, hk]; rfl, rfl, rfl, rfl, rfl, rfl⟩ ?_
 rintro m e h' ⟨k, acc, s2, T, rfl, hLp, hoA, hdA, hlen, rfl, e0, e3, e4, e5, e6⟩
 have hEr := fun (h : List Ob) (q : h[0]? = some (Yc s2)) => rErr_d G hG 0 s2 h q
 have hlA : s2.data.length ≤ 1000000 := by omega
 have ht := fun (h : List Ob) (q : h[0]? = some (Yc s2)) => Yb0 G hG 0 s2 h q hoA (by omega)
 by_cases hgo : 0 < m ∧ s2.err = 0
 · obtain ⟨hm0, he0⟩ := hgo
   have he0d : decide (s2.err = 0) = true := decide_eq_true he0
   have hm0d : decide ((0 : Int) < (m : Int)) = true := decide_eq_true (by omega)
   have wk : IntKind.i64.wrap ((m : Int) - 1) = ((m - 1 : Nat) : Int) := by rw [show (m : Int) - 1 = ((m - 1 : Nat) : Int) by omega]; exact IntWalk.i64_in _ (by omega)
   have hlr : ((acc.map Zr).map strX).length = acc.length := by rw [Zf, Zf]
   have hlr2 : ((acc.map Zs).map vaX).length = acc.length := by rw [Zf, Zf]
   obtain ⟨ho3, hd3, _⟩ := Vc hoA
   have hN := hLp.next2 hm0 he0
   have hpair : Zd5 (X3 p) s2 = (((Yx s2).1, (X3 p (Yx s2).2).1), (X3 p (Yx s2).2).2) := rfl
   rw [hpair] at hN
   have ho3' : (Yx s2).2.Ok := ho3
   have hd3' : (Yx s2).2.data = s2.data := hd3
   have ht' : ∀ (h : List Ob), h[0]? = some (Yc s2) → Does Tryz.prog G 50 h [.ptr 0 0] (fun h' r => h' = h.set 0 (Yc (Yx s2).2) ∧ r = .v (.string (Yx s2).1)) := ht
   clear ht ho3 hd3 hpair
   generalize Yx s2 = tx at *
   obtain ⟨tx, s3⟩ := tx
   simp only at hN ho3' hd3' ht'
   have hrx := fun (h : List Ob) (q : h[0]? = some (Yc s3)) => hrd.at hG ho3' (by rw [hd3']; exact hlA) q
   obtain ⟨ho4, hd4⟩ := hkp s3 ho3'
   generalize X3 p s3 = y at *
   obtain ⟨y, s4⟩ := y
   simp only at hN hrx ho4 hd4
   simp only [Y4 p] at hrx
   repeat' first
    | (with_reducible first | refine sA rfl ?_ | refine sI rfl rfl ?_ | refine sT rfl ?_ | refine sB rfl ?_)
    | (with_reducible refine W2 ?_; first | refine W3 mixd (by kernel_rfl) ?_)
    | (with_reducible refine Y9 ?_; first | refine Y5 ?_ | (refine ao1 rfl rfl fun K HK => ?_; (first | refine Y6 rfl ?_ | skip); simp only [go_sem, ↓reduceIte, Z1, Z7, Z2, Za, Zb, Zc, Zd, Ze, Y4 l, Y4 p, hk, e0, e3, e4, e5, e6, he0d, hm0d, wk, Yi, Ye, q6_0, q6_1, q6_2, q6_3, q6_4, q6_5, Ji, Jh, Uw, Jg, Jf, Je, V0, V9, q6_l, Jd, Jk, V8, Jj, V7, Zf, Zh, Z4, Z5, Z8, Z3, Z6, Z9, Z0]; (first | (refine ⟨by omega, ?_⟩; refine Ya (by assumption) ?_) | skip) <;> (refine HK _ _ ?_; clear HK K)) | (refine ao2 rfl rfl rfl Zj2 (hEr _ (by first | exact q6_0 | rfl | (simp; done))) ?_; rintro _ _ ⟨rfl, rfl⟩))
    | ((with_reducible refine Yc7 ?_); first | (refine Zt7 rfl rfl rfl rfl (by (first | (simp only [go_sem, ↓reduceIte, Z1, Z7, Z2, Za, Zb, Zc, Zd, Ze, Y4 l, Y4 p, hk, e0, e3, e4, e5, e6, he0d, hm0d, wk, Yi, Ye, q6_0, q6_1, q6_2, q6_3, q6_4, q6_5, Ji, Jh, Uw, Jg, Jf, Je, V0, V9, q6_l, Jd, Jk, V8, Jj, V7, Zf, Zh, Z4, Z5, Z8, Z3, Z6, Z9, Z0]; rfl) | (simp only [go_sem, ↓reduceIte, Z1, Z7, Z2, Za, Zb, Zc, Zd, Ze, Y4 l, Y4 p, hk, e0, e3, e4, e5, e6, he0d, hm0d, wk, Yi, Ye, q6_0, q6_1, q6_2, q6_3, q6_4, q6_5, Ji, Jh, Uw, Jg, Jf, Je, V0, V9, q6_l, Jd, Jk, V8, Jj, V7, Zf, Zh, Z4, Z5, Z8, Z3, Z6, Z9, Z0]; done))) hlr (by simp only [go_sem]; rfl) (by (first | (simp only [go_sem, ↓reduceIte, Z1, Z7, Z2, Za, Zb, Zc, Zd, Ze, Y4 l, Y4 p, hk, e0, e3, e4, e5, e6, he0d, hm0d, wk, Yi, Ye, q6_0, q6_1, q6_2, q6_3, q6_4, q6_5, Ji, Jh, Uw, Jg, Jf, Je, V0, V9, q6_l, Jd, Jk, V8, Jj, V7, Zf, Zh, Z4, Z5, Z8, Z3, Z6, Z9, Z0]; rfl) | (simp only [go_sem, ↓reduceIte, Z1, Z7, Z2, Za, Zb, Zc, Zd, Ze, Y4 l, Y4 p, hk, e0, e3, e4, e5, e6, he0d, hm0d, wk, Yi, Ye, q6_0, q6_1, q6_2, q6_3, q6_4, q6_5, Ji, Jh, Uw, Jg, Jf, Je, V0, V9, q6_l, Jd, Jk, V8, Jj, V7, Zf, Zh, Z4, Z5, Z8, Z3, Z6, Z9, Z0]; done))) (by simp) (Yg9 _) (by simp; omega) ?_) | (refine Zt7 rfl rfl rfl rfl (by (first | (simp only [go_sem, ↓reduceIte, Z1, Z7, Z2, Za, Zb, Zc, Zd, Ze, Y4 l, Y4 p, hk, e0, e3, e4, e5, e6, he0d, hm0d, wk, Yi, Ye, q6_0, q6_1, q6_2, q6_3, q6_4, q6_5, Ji, Jh, Uw, Jg, Jf, Je, V0, V9, q6_l, Jd, Jk, V8, Jj, V7, Zf, Zh, Z4, Z5, Z8, Z3, Z6, Z9, Z0]; rfl) | (simp only [go_sem, ↓reduceIte, Z1, Z7, Z2, Za, Zb, Zc, Zd, Ze, Y4 l, Y4 p, hk, e0, e3, e4, e5, e6, he0d, hm0d, wk, Yi, Ye, q6_0, q6_1, q6_2, q6_3, q6_4, q6_5, Ji, Jh, Uw, Jg, Jf, Je, V0, V9, q6_l, Jd, Jk, V8, Jj, V7, Zf, Zh, Z4, Z5, Z8, Z3, Z6, Z9, Z0]; done))) hlr2 (by simp only [go_sem]; rfl) (by (first | (simp only [go_sem, ↓reduceIte, Z1, Z7, Z2, Za, Zb, Zc, Zd, Ze, Y4 l, Y4 p, hk, e0, e3, e4, e5, e6, he0d, hm0d, wk, Yi, Ye, q6_0, q6_1, q6_2, q6_3, q6_4, q6_5, Ji, Jh, Uw, Jg, Jf, Je, V0, V9, q6_l, Jd, Jk, V8, Jj, V7, Zf, Zh, Z4, Z5, Z8, Z3, Z6, Z9, Z0]; rfl) | (simp only [go_sem, ↓reduceIte, Z1, Z7, Z2, Za, Zb, Zc, Zd, Ze, Y4 l, Y4 p, hk, e0, e3, e4, e5, e6, he0d, hm0d, wk, Yi, Ye, q6_0, q6_1, q6_2, q6_3, q6_4, q6_5, Ji, Jh, Uw, Jg, Jf, Je, V0, V9, q6_l, Jd, Jk, V8, Jj, V7, Zf, Zh, Z4, Z5, Z8, Z3, Z6, Z9, Z0]; done))) (by simp) (rowsOk_va _) (by simp; omega) ?_) | (refine aS1 rfl rfl fun K HK => ?_; (first | refine Y6 rfl ?_ | skip); simp only [go_sem, ↓reduceIte, Z1, Z7, Z2, Za, Zb, Zc, Zd, Ze, Y4 l, Y4 p, hk, e0, e3, e4, e5, e6, he0d, hm0d, wk, Yi, Ye, q6_0, q6_1, q6_2, q6_3, q6_4, q6_5, Ji, Jh, Uw, Jg, Jf, Je, V0, V9, q6_l, Jd, Jk, V8, Jj, V7, Zf, Zh, Z4, Z5, Z8, Z3, Z6, Z9, Z0]; (first | (refine ⟨by omega, ?_⟩; refine Ya (by assumption) ?_) | skip) <;> (refine HK _ _ rfl ?_; clear HK K)) | refine Ws rfl rfl rfl (by (first | (simp only [go_sem, ↓reduceIte, Z1, Z7, Z2, Za, Zb, Zc, Zd, Ze, Y4 l, Y4 p, hk, e0, e3, e4, e5, e6, he0d, hm0d, wk, Yi, Ye, q6_0, q6_1, q6_2, q6_3, q6_4, q6_5, Ji, Jh, Uw, Jg, Jf, Je, V0, V9, q6_l, Jd, Jk, V8, Jj, V7, Zf, Zh, Z4, Z5, Z8, Z3, Z6, Z9, Z0]; rfl) | (simp only [go_sem, ↓reduceIte, Z1, Z7, Z2, Za, Zb, Zc, Zd, Ze, Y4 l, Y4 p, hk, e0, e3, e4, e5, e6, he0d, hm0d, wk, Yi, Ye, q6_0, q6_1, q6_2, q6_3, q6_4, q6_5, Ji, Jh, Uw, Jg, Jf, Je, V0, V9, q6_l, Jd, Jk, V8, Jj, V7, Zf, Zh, Z4, Z5, Z8, Z3, Z6, Z9, Z0]; done))) (by rw [getD_one (by simp only [go_sem, ↓reduceIte, Z1, Z7, Z2, Za, Zb, Zc, Zd, Ze, Y4 l, Y4 p, hk, e0, e3, e4, e5, e6, he0d, hm0d, wk, Yi, Ye, q6_0, q6_1, q6_2, q6_3, q6_4, q6_5, Ji, Jh, Uw, Jg, Jf, Je, V0, V9, q6_l, Jd, Jk, V8, Jj, V7, Zf, Zh, Z4, Z5, Z8, Z3, Z6, Z9, Z0])]; rfl) ?_ | refine J2 rfl rfl (by (first | (simp only [go_sem, ↓reduceIte, Z1, Z7, Z2, Za, Zb, Zc, Zd, Ze, Y4 l, Y4 p, hk, e0, e3, e4, e5, e6, he0d, hm0d, wk, Yi, Ye, q6_0, q6_1, q6_2, q6_3, q6_4, q6_5, Ji, Jh, Uw, Jg, Jf, Je, V0, V9, q6_l, Jd, Jk, V8, Jj, V7, Zf, Zh, Z4, Z5, Z8, Z3, Z6, Z9, Z0]; rfl) | (simp only [go_sem, ↓reduceIte, Z1, Z7, Z2, Za, Zb, Zc, Zd, Ze, Y4 l, Y4 p, hk, e0, e3, e4, e5, e6, he0d, hm0d, wk, Yi, Ye, q6_0, q6_1, q6_2, q6_3, q6_4, q6_5, Ji, Jh, Uw, Jg, Jf, Je, V0, V9, q6_l, Jd, Jk, V8, Jj, V7, Zf, Zh, Z4, Z5, Z8, Z3, Z6, Z9, Z0]; done))) rfl (by simp only [go_sem, ↓reduceIte, Z1, Z7, Z2, Za, Zb, Zc, Zd, Ze, Y4 l, Y4 p, hk, e0, e3, e4, e5, e6, he0d, hm0d, wk, Yi, Ye, q6_0, q6_1, q6_2, q6_3, q6_4, q6_5, Ji, Jh, Uw, Jg, Jf, Je, V0, V9, q6_l, Jd, Jk, V8, Jj, V7, Zf, Zh, Z4, Z5, Z8, Z3, Z6, Z9, Z0]) (by simp) ?_ | refine Ze4 rfl rfl (by simp only [litD, Wv, go_sem, Z6, Z9, Zo, Zm, and_self, ↓reduceIte, Z1, Z7, Z2, Za, Zb, Zc, Zd, Ze, Y4 l, Y4 p, hk, e0, e3, e4, e5, e6, he0d, hm0d, wk, Yi, Ye, q6_0, q6_1, q6_2, q6_3, q6_4, q6_5, Ji, Jh, Uw, Jg, Jf, Je, V0, V9, q6_l, Jd, Jk, V8, Jj, V7, Zf, Zh, Z4, Z5, Z8, Z3, Z6, Z9, Z0]; rfl) ?_ | refine Us (by simp only [Zl, Zn, Z8, Z5, Vo, chk1]; repeat' (first | exact trivial | refine And.intro ?_ ?_ | exact .inr Xg | exact .inr Xr | exact .inr Ww | exact .inr (Va (by omega)) | exact .inr (Zq2 (by omega)) | (refine .inr ?_; simp [compat, J3, Vt, Up, nop, Yi, V0] <;> omega) | exact .inl (by kernel_rfl))) ?_ | refine U0 rfl rfl rfl Yi6 (by (first | (simp only [go_sem, ↓reduceIte, Z1, Z7, Z2, Za, Zb, Zc, Zd, Ze, Y4 l, Y4 p, hk, e0, e3, e4, e5, e6, he0d, hm0d, wk, Yi, Ye, q6_0, q6_1, q6_2, q6_3, q6_4, q6_5, Ji, Jh, Uw, Jg, Jf, Je, V0, V9, q6_l, Jd, Jk, V8, Jj, V7, Zf, Zh, Z4, Z5, Z8, Z3, Z6, Z9, Z0]; rfl) | (simp only [go_sem, ↓reduceIte, Z1, Z7, Z2, Za, Zb, Zc, Zd, Ze, Y4 l, Y4 p, hk, e0, e3, e4, e5, e6, he0d, hm0d, wk, Yi, Ye, q6_0, q6_1, q6_2, q6_3, q6_4, q6_5, Ji, Jh, Uw, Jg, Jf, Je, V0, V9, q6_l, Jd, Jk, V8, Jj, V7, Zf, Zh, Z4, Z5, Z8, Z3, Z6, Z9, Z0]; done))) (fun h2 k2 => ht' h2 k2) ?_ | refine U0 rfl rfl rfl Yd8 (by (first | (simp only [go_sem, ↓reduceIte, Z1, Z7, Z2, Za, Zb, Zc, Zd, Ze, Y4 l, Y4 p, hk, e0, e3, e4, e5, e6, he0d, hm0d, wk, Yi, Ye, q6_0, q6_1, q6_2, q6_3, q6_4, q6_5, Ji, Jh, Uw, Jg, Jf, Je, V0, V9, q6_l, Jd, Jk, V8, Jj, V7, Zf, Zh, Z4, Z5, Z8, Z3, Z6, Z9, Z0]; rfl) | (simp only [go_sem, ↓reduceIte, Z1, Z7, Z2, Za, Zb, Zc, Zd, Ze, Y4 l, Y4 p, hk, e0, e3, e4, e5, e6, he0d, hm0d, wk, Yi, Ye, q6_0, q6_1, q6_2, q6_3, q6_4, q6_5, Ji, Jh, Uw, Jg, Jf, Je, V0, V9, q6_l, Jd, Jk, V8, Jj, V7, Zf, Zh, Z4, Z5, Z8, Z3, Z6, Z9, Z0]; done))) (fun h2 k2 => hrx h2 k2) ?_)
   exact ⟨rfl, m - 1, by omega, m - 1, acc ++ [(tx, y)], s4, _, rfl, hN, ho4, by rw [hd4, hd3', hdA], by simp; omega, by rw [Y4 l, Zi, Zi, Zi, Zi, Z3, hk]; rfl, e0, e3, e4, e5, rfl⟩
 · have hst := hLp.stop2 hgo
   rw [hst]
   have hgo2 : ¬ (0 < (m : Int)) ∨ (0 < (m : Int) ∧ ¬ s2.err = 0) := by omega
   rcases hgo2 with hm0 | ⟨hm0, he0⟩
   · skip
     repeat' first
      | (with_reducible first | refine sA rfl ?_ | refine sI rfl rfl ?_ | refine sT rfl ?_ | refine sB rfl ?_)
      | (with_reducible refine Y9 ?_; first | refine Y5 ?_ | (refine ao1 rfl rfl fun K HK => ?_; (first | refine Y6 rfl ?_ | skip); simp only [go_sem, ↓reduceIte, Z1, Z7, Z2, Za, Zb, Zc, Zd, Ze, e0, e3, e4, e5, e6, hm0, q6_0, q6_1, q6_2, q6_3, q6_4, q6_5, Ji, Jh, Uw, Jg, Jf, Je, V0, V9, q6_l, Jd, Jk, V8, Jj, V7, nilV, Z0] <;> (refine HK _ _ ?_; clear HK K)) | refine ao0 rfl rfl ?_ | (refine ao1' rfl fun K HK => ?_; simp only [go_sem, ↓reduceIte, Z1, Z7, Z2, Za, Zb, Zc, Zd, Ze, e0, e3, e4, e5, e6, hm0, q6_0, q6_1, q6_2, q6_3, q6_4, q6_5, Ji, Jh, Uw, Jg, Jf, Je, V0, V9, q6_l, Jd, Jk, V8, Jj, V7, nilV, Z0]; refine HK _ _ ?_; clear HK K))
     exact ⟨.inr rfl, endR (s' := s2) (ds := [.agg [.v (.int .i64 0), .buf 4 acc.length, .buf 5 acc.length, .v (.slice none 0 0)]]) (r := .agg [.v (.int .i64 0), .sl 1 ((acc.map Zr).map strX), .sl 4 ((acc.map Zs).map vaX), .v (.slice none 0 0)]) (T := _) (by simp only [resD, Tryz.results111, go_sem, ↓reduceIte, Z1, Z7, Z2, e4, nilV, q6_2, Uw]; try rfl) rfl (low_vaM _ _ _) (by simp [outD, cvD, cv1]) ⟨_, ⟨rfl, rfl⟩, Zq8 (U1 _) (U1 _) Xs⟩⟩
   · skip
     repeat' first
      | (with_reducible first | refine sA rfl ?_ | refine sI rfl rfl ?_ | refine sT rfl ?_ | refine sB rfl ?_)
      | (with_reducible refine Y9 ?_; first | refine Y5 ?_ | (refine ao1 rfl rfl fun K HK => ?_; (first | refine Y6 rfl ?_ | skip); simp only [go_sem, ↓reduceIte, Z1, Z7, Z2, Za, Zb, Zc, Zd, Ze, e0, e3, e4, e5, e6, hm0, he0, q6_0, q6_1, q6_2, q6_3, q6_4, q6_5, Ji, Jh, Uw, Jg, Jf, Je, V0, V9, q6_l, Jd, Jk, V8, Jj, V7, nilV, Z0] <;> (refine HK _ _ ?_; clear HK K)) | (refine ao2 rfl rfl rfl Zj2 (hEr _ (by first | exact q6_0 | rfl | (simp; done))) ?_; rintro _ _ ⟨rfl, rfl⟩) | (refine ao1' rfl fun K HK => ?_; simp only [go_sem, ↓reduceIte, Z1, Z7, Z2, Za, Zb, Zc, Zd, Ze, e0, e3, e4, e5, e6, hm0, he0, q6_0, q6_1, q6_2, q6_3, q6_4, q6_5, Ji, Jh, Uw, Jg, Jf, Je, V0, V9, q6_l, Jd, Jk, V8, Jj, V7, nilV, Z0]; refine HK _ _ ?_; clear HK K))
     exact ⟨.inr rfl, endR (s' := s2) (ds := [.agg [.v (.int .i64 0), .buf 4 acc.length, .buf 5 acc.length, .v (.slice none 0 0)]]) (r := .agg [.v (.int .i64 0), .sl 1 ((acc.map Zr).map strX), .sl 4 ((acc.map Zs).map vaX), .v (.slice none 0 0)]) (T := _) (by simp only [resD, Tryz.results111, go_sem, ↓reduceIte, Z1, Z7, Z2, e4, nilV, q6_2, Uw]; try rfl) rfl (low_vaM _ _ _) (by simp [outD, cvD, cv1]) ⟨_, ⟨rfl, rfl⟩, Zq8 (U1 _) (U1 _) Xs⟩⟩
end
section
attribute [local irreducible] on aOp
attribute [local go_sem] decide_true decide_false Zq Zp
attribute [local simp] byD_len
def w5 (R A Z V B : Ob) (T : List Ob) (X C : Ob) (U : List Ob) : List Ob := R :: A :: Z :: V :: B :: (T ++ X :: C :: U)
section
variable {R A Z V B X C y y' : Ob} {T U l : List Ob}
theorem w5_0 : (w5 R A Z V B T X C U)[0]? = some R := rfl
theorem w5_1 : (w5 R A Z V B T X C U)[1]? = some A := rfl
theorem w5_2 : (w5 R A Z V B T X C U)[2]? = some Z := rfl
theorem w5_3 : (w5 R A Z V B T X C U)[3]? = some V := rfl
theorem w5_4 : (w5 R A Z V B T X C U)[4]? = some B := rfl
theorem Za2 : (w5 R A Z V B T X C U).set 0 y = w5 y A Z V B T X C U := rfl
theorem Za1 : (w5 R A Z V B T X C U).set 3 y = w5 R A Z y B T X C U := rfl
theorem Za0 : (w5 R A Z V B T X C U).set 4 y = w5 R A Z V y T X C U := rfl
theorem w5_x : (w5 R A Z V B T X C U)[T.length + 5]? = some X := by simp [w5]
theorem w5_c : (w5 R A Z V B T X C U)[T.length + 6]? = some C := by simp [w5, Zk]
theorem Jy : (w5 R A Z V B T X C U).set (T.length + 5) y = w5 R A Z V B T y C U := by simp [w5]
theorem Ja : (w5 R A Z V B T X C U).set (T.length + 6) y = w5 R A Z V B T X y U := by
 simp only [w5, List.set_cons_succ]
 rw [List.set_append_right _ _ (by omega)]; simp
theorem Ve : (w5 R A Z V B T X C U).length = T.length + (U.length + 7) := by simp [w5]; omega
theorem Vh : w5 R A Z V B T X C U ++ l = w5 R A Z V B T X C (U ++ l) := by simp [w5]
theorem w5_l : (w5 R A Z V B T X C (U ++ [y]))[T.length + (U.length + 7)]? = some y := by
 simp only [w5]
 rw [show T.length + (U.length + 7) = T.length + (U.length + 2) + 1 + 1 + 1 + 1 + 1 by omega]
 simp only [List.getElem?_cons_succ]
 rw [Zk (by omega), show T.length + (U.length + 2) - T.length = U.length + 1 + 1 by omega]
 simp
theorem Jz : (w5 R A Z V B T X C (U ++ [y])).set (T.length + (U.length + 7)) y' = w5 R A Z V B T X C (U ++ [y']) := by
 simp only [w5]
 rw [show T.length + (U.length + 7) = T.length + (U.length + 2) + 1 + 1 + 1 + 1 + 1 by omega]
 simp only [List.set_cons_succ]
 rw [List.set_append_right _ _ (by omega), show T.length + (U.length + 2) - T.length = U.length + 1 + 1 by omega]
 simp
end
theorem rd_9 {l : Lat} (h : l.kind = 9) (s : RS) : X3 l s = (.mk 0 [] [] (Yy Za9 (Yb s).1 (Yb s).2).1, (Yy Za9 (Yb s).1 (Yb s).2).2) := by
 cases l; simp only [Lat.kind] at h; subst h; exact readV_9 s
theorem low_vaE (n : Int) (es : List En) : low 0 (.agg [.v (.int .i64 n), .v (.slice none 0 0), .v (.slice none 0 0), .sl 2 (es.map enX)]) := by
 rw [low]; simp only [lowL]; exact ⟨by simp [low], by simp [low], by simp [low], low_ens2 _ es, trivial⟩
theorem rowsOk_tk (t : Tk) : Xd 2 [tkX t] := fun row hr => by
 simp only [List.mem_singleton] at hr; subst hr
 exact ⟨rfl, fun d hd => by simp only [tkX, List.mem_cons, List.mem_nil_iff, or_false] at hd; rcases hd with rfl | rfl <;> rfl⟩
variable (G : Nat → D) (hG : ∀ g, low 0 (G g))
include hG
theorem read_9 (l : Lat) (hk : l.kind = 9) : ReadD G l := fun s ho hl => by
 rw [rd_9 hk, Zt8]
 have hb := fun (h : List Ob) (k : h[0]? = some (Yc s)) => Zo4 G hG 0 s h k ho (by omega)
 obtain ⟨ho2, hd2, hc2⟩ := U5 ho
 generalize Yb s = b at *
 obtain ⟨N, s1⟩ := b
 simp only at hb ho2 hd2 hc2 ⊢
 generalize hR : Yy Za9 N s1 = R
 apply Does.weak
 refine Y7 Tryz.func111 rfl (Zj rfl) hG fun hl0 _ => ?_
 simp only [Tryz.ntmps111]
 repeat' first
  | (with_reducible first | refine sA rfl ?_ | refine sI rfl rfl ?_ | refine sT rfl ?_)
  | (with_reducible refine Y9 ?_; first | refine Y5 ?_ | (refine ao1 rfl rfl fun K HK => ?_; simp only [go_sem, ↓reduceIte, Z1, Z7, Z2, Za, Zb, Zc, Zd, Ze, Y4 l, hk, Z0] <;> (refine HK _ _ ?_; clear HK K)) | (refine ao2 rfl rfl rfl ent_49 (hb _ (by first | rfl | simp)) ?_; rintro _ _ ⟨rfl, rfl⟩))
 refine U9 163 2 3 [.v (.int .i64 0), .v (.slice none 0 0), .v (.slice none 0 0)] [] rfl ?_
 refine Yp (fun m e h' => ∃ (k : Nat) (acc : List En) (s2 : RS) (T : List Ob), m = k ∧ LoopAt R Za9 acc k s2 ∧ s2.Ok ∧ s2.data.length = s.data.length ∧ acc.length + k ≤ 1000000 ∧ h' = q5 (Yc s2) (.cells (latX l)) (.cells nilV) (.cells [.v (.int .i64 0), .v (.slice none 0 0), .v (.slice none 0 0), .buf 4 acc.length]) (.buf 163 2 (acc.map enX)) T ∧ e 0 = .ptr 0 0 ∧ e 3 = .ptr 1 0 ∧ e 4 = .ptr 2 0 ∧ e 5 = .ptr 3 0 ∧ e 7 = .v (.int .i64 k)) N ⟨N, [], s1, [], rfl, hR ▸ LoopAt.start _ N s1, ho2, by rw [hd2], by simp; omega, by rw [Y4 l, hk]; rfl, rfl, rfl, rfl, rfl, rfl⟩ ?_
 rintro m e h' ⟨k, acc, s2, T, rfl, hLp, hoA, hdA, hlen, rfl, e0, e3, e4, e5, e7⟩
 have hEr := fun (h : List Ob) (q : h[0]? = some (Yc s2)) => rErr_d G hG 0 s2 h q
 have hlA : s2.data.length ≤ 1000000 := by omega
 by_cases hgo : 0 < m ∧ s2.err = 0
 rotate_left
 · have hst := hLp.stop2 hgo
   rw [hst]
   have hgo2 : ¬ (0 < (m : Int)) ∨ (0 < (m : Int) ∧ ¬ s2.err = 0) := by omega
   rcases hgo2 with hm0 | ⟨hm0, he0⟩
   · skip
     repeat' first
      | (with_reducible first | refine sA rfl ?_ | refine sI rfl rfl ?_ | refine sT rfl ?_ | refine sB rfl ?_)
      | (with_reducible refine Y9 ?_; first | refine Y5 ?_ | (refine ao1 rfl rfl fun K HK => ?_; (first | refine Y6 rfl ?_ | skip); simp only [go_sem, ↓reduceIte, Z1, Z7, Z2, Za, Zb, Zc, Zd, Ze, e0, e3, e4, e5, e7, hm0, q5_0, q5_1, q5_2, q5_3, q5_4, Wl, Wj, Xw, Wi, Wh, X2, X8, q5_l, Wg, Wn, X7, Wm, X6, nilV, Z0] <;> (refine HK _ _ ?_; clear HK K)) | refine ao0 rfl rfl ?_ | (refine ao1' rfl fun K HK => ?_; simp only [go_sem, ↓reduceIte, Z1, Z7, Z2, Za, Zb, Zc, Zd, Ze, e0, e3, e4, e5, e7, hm0, q5_0, q5_1, q5_2, q5_3, q5_4, Wl, Wj, Xw, Wi, Wh, X2, X8, q5_l, Wg, Wn, X7, Wm, X6, nilV, Z0]; refine HK _ _ ?_; clear HK K))
     exact ⟨.inr rfl, endR (s' := s2) (ds := [.agg [.v (.int .i64 0), .v (.slice none 0 0), .v (.slice none 0 0), .buf 4 acc.length]]) (r := .agg [.v (.int .i64 0), .v (.slice none 0 0), .v (.slice none 0 0), .sl 2 (acc.map enX)]) (T := _) (by simp only [resD, Tryz.results111, go_sem, ↓reduceIte, Z1, Z7, Z2, e4, nilV, q5_2, Xw]; try rfl) rfl (low_vaE _ _) (by simp [outD, cvD, cv1]) ⟨_, ⟨rfl, rfl⟩, Zq8 Xs Xs (U1 _)⟩⟩
   · skip
     repeat' first
      | (with_reducible first | refine sA rfl ?_ | refine sI rfl rfl ?_ | refine sT rfl ?_ | refine sB rfl ?_)
      | (with_reducible refine Y9 ?_; first | refine Y5 ?_ | (refine ao1 rfl rfl fun K HK => ?_; (first | refine Y6 rfl ?_ | skip); simp only [go_sem, ↓reduceIte, Z1, Z7, Z2, Za, Zb, Zc, Zd, Ze, e0, e3, e4, e5, e7, hm0, he0, q5_0, q5_1, q5_2, q5_3, q5_4, Wl, Wj, Xw, Wi, Wh, X2, X8, q5_l, Wg, Wn, X7, Wm, X6, nilV, Z0] <;> (refine HK _ _ ?_; clear HK K)) | (refine ao2 rfl rfl rfl Zj2 (hEr _ (by first | exact q5_0 | exact w5_0 | rfl)) ?_; rintro _ _ ⟨rfl, rfl⟩) | (refine ao1' rfl fun K HK => ?_; simp only [go_sem, ↓reduceIte, Z1, Z7, Z2, Za, Zb, Zc, Zd, Ze, e0, e3, e4, e5, e7, hm0, he0, q5_0, q5_1, q5_2, q5_3, q5_4, Wl, Wj, Xw, Wi, Wh, X2, X8, q5_l, Wg, Wn, X7, Wm, X6, nilV, Z0]; refine HK _ _ ?_; clear HK K))
     exact ⟨.inr rfl, endR (s' := s2) (ds := [.agg [.v (.int .i64 0), .v (.slice none 0 0), .v (.slice none 0 0), .buf 4 acc.length]]) (r := .agg [.v (.int .i64 0), .v (.slice none 0 0), .v (.slice none 0 0), .sl 2 (acc.map enX)]) (T := _) (by simp only [resD, Tryz.results111, go_sem, ↓reduceIte, Z1, Z7, Z2, e4, nilV, q5_2, Xw]; try rfl) rfl (low_vaE _ _) (by simp [outD, cvD, cv1]) ⟨_, ⟨rfl, rfl⟩, Zq8 Xs Xs (U1 _)⟩⟩
 obtain ⟨hm0, he0⟩ := hgo
 have he0d : decide (s2.err = 0) = true := decide_eq_true he0
 have hm0d : decide ((0 : Int) < (m : Int)) = true := decide_eq_true (by omega)
 have wm : IntKind.i64.wrap ((m : Int) - 1) = ((m - 1 : Nat) : Int) := by rw [show (m : Int) - 1 = ((m - 1 : Nat) : Int) by omega]; exact IntWalk.i64_in _ (by omega)
 have hN := hLp.next2 hm0 he0
 have hent : Za9 s2 = (⟨(Yy Zi3 (Yb s2).1 (Yb s2).2).1, (Yx (Yy Zi3 (Yb s2).1 (Yb s2).2).2).1⟩, (Yx (Yy Zi3 (Yb s2).1 (Yb s2).2).2).2) := rfl
 rw [hent] at hN
 have hct := fun (h : List Ob) (q : h[0]? = some (Yc s2)) => Zo4 G hG 0 s2 h q hoA (by omega)
 obtain ⟨ho3, hd3, hc3⟩ := U5 hoA
 clear hent
 generalize Yb s2 = b at *
 obtain ⟨N2, s3⟩ := b
 simp only at hN hct ho3 hd3 hc3
 generalize hR2 : Yy Zi3 N2 s3 = R2 at hN
 repeat' first
  | (with_reducible first | refine sA rfl ?_ | refine sI rfl rfl ?_ | refine sT rfl ?_)
  | (with_reducible refine Y9 ?_; first | refine Y5 ?_ | (refine ao1 rfl rfl fun K HK => ?_; (first | refine Y6 rfl ?_ | skip); simp only [go_sem, ↓reduceIte, Z1, Z7, Z2, Za, Zb, Zc, Zd, Ze, Y4 l, hk, e0, e3, e4, e5, e7, he0d, hm0d, q5_0, q5_1, q5_2, q5_3, q5_4, Wl, Wj, Xw, Wi, Wh, X2, X8, q5_l, Wg, Wn, X7, Wm, X6, Z4, Z5, Z8, Z3, Z6, Z9, Z0] <;> (refine HK _ _ ?_; clear HK K)) | (refine ao2 rfl rfl rfl Zj2 (hEr _ (by first | exact q5_0 | exact w5_0 | rfl)) ?_; rintro _ _ ⟨rfl, rfl⟩) | (refine ao2 rfl rfl rfl ent_49 (hct _ (by first | exact q5_0 | rfl)) ?_; rintro _ _ ⟨rfl, rfl⟩))
 refine U9 165 2 (T.length + 5) [] [.v (.string ⟨#[]⟩)] (by first | exact q5_l | (simp [q5]; done)) ?_
 refine Yp (fun m2 e h' => ∃ (k : Nat) (tks : List Tk) (s4 : RS) (U : List Ob), m2 = k ∧ LoopAt R2 Zi3 tks k s4 ∧ s4.Ok ∧ s4.data.length = s.data.length ∧ tks.length + k ≤ 1000000 ∧ h' = w5 (Yc s4) (.cells (latX l)) (.cells nilV) (.cells [.v (.int .i64 0), .v (.slice none 0 0), .v (.slice none 0 0), .buf 4 acc.length]) (.buf 163 2 (acc.map enX)) T (.cells [.buf (T.length + 6) tks.length, .v (.string ⟨#[]⟩)]) (.buf 165 2 (tks.map tkX)) U ∧ e 0 = .ptr 0 0 ∧ e 3 = .ptr 1 0 ∧ e 4 = .ptr 2 0 ∧ e 5 = .ptr 3 0 ∧ e 7 = .v (.int .i64 m) ∧ e 8 = .ptr (T.length + 5) 0 ∧ e 9 = .v (.int .i64 k)) N2 ⟨N2, [], s3, [], rfl, hR2 ▸ LoopAt.start _ N2 s3, ho3, by rw [hd3, hdA], by simp; omega, by rw [Y4 l, hk]; simp [q5, w5], e0, e3, e4, e5, e7, rfl, rfl⟩ ?_
 clear e0 e3 e4 e5 e7
 rintro m2 e h' ⟨k2, tks, s4, U, rfl, hLp2, hoB, hdB, hlen2, rfl, e0, e3, e4, e5, e7, e8, e9⟩
 have hEr2 := fun (h : List Ob) (q : h[0]? = some (Yc s4)) => rErr_d G hG 0 s4 h q
 have hlB : s4.data.length ≤ 1000000 := by omega
 by_cases hgo : 0 < m2 ∧ s4.err = 0
 · obtain ⟨hm20, he20⟩ := hgo
   have he2d : decide (s4.err = 0) = true := decide_eq_true he20
   have hm2d : decide ((0 : Int) < (m2 : Int)) = true := decide_eq_true (by omega)
   have wm2 : IntKind.i64.wrap ((m2 : Int) - 1) = ((m2 - 1 : Nat) : Int) := by rw [show (m2 : Int) - 1 = ((m2 - 1 : Nat) : Int) by omega]; exact IntWalk.i64_in _ (by omega)
   have hN2 := hLp2.next2 hm20 he20
   have htick : Zi3 s4 = (⟨((Yo 63 s4).1 : Nat), ((Yo 1000000000000000 (Yo 63 s4).2).1 : Nat)⟩, (Yo 1000000000000000 (Yo 63 s4).2).2) := rfl
   rw [htick] at hN2
   have hs1 := fun (h : List Ob) (q : h[0]? = some (Yc s4)) => small_d G hG 0 63 s4 h (by omega) q hoB (by omega)
   simp only [rdSm_eq] at hs1
   obtain ⟨ho5, hd5⟩ := Vp 63 hoB
   clear htick
   generalize Yo 63 s4 = b at *
   obtain ⟨p, s5⟩ := b
   simp only at hN2 hs1 ho5 hd5
   have hs2 := fun (h : List Ob) (q : h[0]? = some (Yc s5)) => small_d G hG 0 1000000000000000 s5 h (by omega) q ho5 (by rw [hd5]; omega)
   simp only [rdSm_eq] at hs2
   obtain ⟨ho6, hd6⟩ := Vp 1000000000000000 ho5
   generalize Yo 1000000000000000 s5 = b at *
   obtain ⟨q, s6⟩ := b
   simp only at hN2 hs2 ho6 hd6
   have hlr : (tks.map tkX).length = tks.length := Zf _
   repeat' first
    | (with_reducible first | refine sA rfl ?_ | refine sI rfl rfl ?_ | refine sT rfl ?_ | refine sB rfl ?_)
    | (with_reducible refine W2 ?_; first | refine W3 mixd (by kernel_rfl) ?_)
    | (with_reducible refine Y9 ?_; first | refine Y5 ?_ | (refine ao1 rfl rfl fun K HK => ?_; (first | refine Y6 rfl ?_ | skip); simp only [go_sem, ↓reduceIte, Z1, Z7, Z2, Za, Zb, Zc, Zd, Ze, e0, e3, e4, e5, e7, e8, e9, he2d, hm2d, wm2, w5_0, w5_1, w5_2, w5_3, w5_4, Za2, Za1, Za0, w5_x, w5_c, Jy, Ja, Ve, Vh, w5_l, Jz, Z4, Z5, Z8, Z3, Z6, Z9, Z0] <;> (refine HK _ _ ?_; clear HK K)) | (refine ao2 rfl rfl rfl Zj2 (hEr2 _ (by first | exact q5_0 | exact w5_0 | rfl)) ?_; rintro _ _ ⟨rfl, rfl⟩) | (refine ao2 rfl rfl rfl Yo2 (hs1 _ (by first | exact w5_0 | rfl)) ?_; rintro _ _ ⟨rfl, rfl⟩))
    | ((with_reducible refine Yc7 ?_); first | (refine Zt7 rfl rfl rfl rfl (by (first | (simp only [go_sem, ↓reduceIte, Z1, Z7, Z2, Za, Zb, Zc, Zd, Ze, e0, e3, e4, e5, e7, e8, e9, he2d, hm2d, wm2, w5_0, w5_1, w5_2, w5_3, w5_4, Za2, Za1, Za0, w5_x, w5_c, Jy, Ja, Ve, Vh, w5_l, Jz, Z4, Z5, Z8, Z3, Z6, Z9, Z0]; rfl) | (simp only [go_sem, ↓reduceIte, Z1, Z7, Z2, Za, Zb, Zc, Zd, Ze, e0, e3, e4, e5, e7, e8, e9, he2d, hm2d, wm2, w5_0, w5_1, w5_2, w5_3, w5_4, Za2, Za1, Za0, w5_x, w5_c, Jy, Ja, Ve, Vh, w5_l, Jz, Z4, Z5, Z8, Z3, Z6, Z9, Z0]; done))) hlr (by simp only [go_sem]; rfl) (by (first | (simp only [go_sem, ↓reduceIte, Z1, Z7, Z2, Za, Zb, Zc, Zd, Ze, e0, e3, e4, e5, e7, e8, e9, he2d, hm2d, wm2, w5_0, w5_1, w5_2, w5_3, w5_4, Za2, Za1, Za0, w5_x, w5_c, Jy, Ja, Ve, Vh, w5_l, Jz, Z4, Z5, Z8, Z3, Z6, Z9, Z0]; rfl) | (simp only [go_sem, ↓reduceIte, Z1, Z7, Z2, Za, Zb, Zc, Zd, Ze, e0, e3, e4, e5, e7, e8, e9, he2d, hm2d, wm2, w5_0, w5_1, w5_2, w5_3, w5_4, Za2, Za1, Za0, w5_x, w5_c, Jy, Ja, Ve, Vh, w5_l, Jz, Z4, Z5, Z8, Z3, Z6, Z9, Z0]; done))) (by simp) (rowsOk_tk ⟨p, q⟩) (by simp; omega) ?_) | (refine aS1 rfl rfl fun K HK => ?_; (first | refine Y6 rfl ?_ | skip); simp only [go_sem, ↓reduceIte, Z1, Z7, Z2, Za, Zb, Zc, Zd, Ze, e0, e3, e4, e5, e7, e8, e9, he2d, hm2d, wm2, w5_0, w5_1, w5_2, w5_3, w5_4, Za2, Za1, Za0, w5_x, w5_c, Jy, Ja, Ve, Vh, w5_l, Jz, Z4, Z5, Z8, Z3, Z6, Z9, Z0] <;> (refine HK _ _ rfl ?_; clear HK K)) | refine Ws rfl rfl rfl (by (first | (simp only [go_sem, ↓reduceIte, Z1, Z7, Z2, Za, Zb, Zc, Zd, Ze, e0, e3, e4, e5, e7, e8, e9, he2d, hm2d, wm2, w5_0, w5_1, w5_2, w5_3, w5_4, Za2, Za1, Za0, w5_x, w5_c, Jy, Ja, Ve, Vh, w5_l, Jz, Z4, Z5, Z8, Z3, Z6, Z9, Z0]; rfl) | (simp only [go_sem, ↓reduceIte, Z1, Z7, Z2, Za, Zb, Zc, Zd, Ze, e0, e3, e4, e5, e7, e8, e9, he2d, hm2d, wm2, w5_0, w5_1, w5_2, w5_3, w5_4, Za2, Za1, Za0, w5_x, w5_c, Jy, Ja, Ve, Vh, w5_l, Jz, Z4, Z5, Z8, Z3, Z6, Z9, Z0]; done))) (by rw [getD_one (by simp only [go_sem, ↓reduceIte, Z1, Z7, Z2, Za, Zb, Zc, Zd, Ze, e0, e3, e4, e5, e7, e8, e9, he2d, hm2d, wm2, w5_0, w5_1, w5_2, w5_3, w5_4, Za2, Za1, Za0, w5_x, w5_c, Jy, Ja, Ve, Vh, w5_l, Jz, Z4, Z5, Z8, Z3, Z6, Z9, Z0])]; rfl) ?_ | refine J2 rfl rfl (by (first | (simp only [go_sem, ↓reduceIte, Z1, Z7, Z2, Za, Zb, Zc, Zd, Ze, e0, e3, e4, e5, e7, e8, e9, he2d, hm2d, wm2, w5_0, w5_1, w5_2, w5_3, w5_4, Za2, Za1, Za0, w5_x, w5_c, Jy, Ja, Ve, Vh, w5_l, Jz, Z4, Z5, Z8, Z3, Z6, Z9, Z0]; rfl) | (simp only [go_sem, ↓reduceIte, Z1, Z7, Z2, Za, Zb, Zc, Zd, Ze, e0, e3, e4, e5, e7, e8, e9, he2d, hm2d, wm2, w5_0, w5_1, w5_2, w5_3, w5_4, Za2, Za1, Za0, w5_x, w5_c, Jy, Ja, Ve, Vh, w5_l, Jz, Z4, Z5, Z8, Z3, Z6, Z9, Z0]; done))) rfl (by simp only [go_sem, ↓reduceIte, Z1, Z7, Z2, Za, Zb, Zc, Zd, Ze, e0, e3, e4, e5, e7, e8, e9, he2d, hm2d, wm2, w5_0, w5_1, w5_2, w5_3, w5_4, Za2, Za1, Za0, w5_x, w5_c, Jy, Ja, Ve, Vh, w5_l, Jz, Z4, Z5, Z8, Z3, Z6, Z9, Z0]) (by simp) ?_ | refine Ze4 rfl rfl (by simp only [litD, Wv, go_sem, Z6, Z9, Zo, Zm, and_self, ↓reduceIte, Z1, Z7, Z2, Za, Zb, Zc, Zd, Ze, e0, e3, e4, e5, e7, e8, e9, he2d, hm2d, wm2, w5_0, w5_1, w5_2, w5_3, w5_4, Za2, Za1, Za0, w5_x, w5_c, Jy, Ja, Ve, Vh, w5_l, Jz, Z4, Z5, Z8, Z3, Z6, Z9, Z0]; rfl) ?_ | refine Us (by simp only [Zl, Zn, Z8, Z5, Vo, chk1]; repeat' (first | exact trivial | refine And.intro ?_ ?_ | exact .inr Xg | exact .inr Xr | exact .inr (Va (by omega)) | exact .inr (Zq2 (by omega)) | (refine .inr ?_; simp [compat, J3, Vt, Up, nop, Ve] <;> omega) | exact .inl (by kernel_rfl))) ?_ | refine U0 rfl rfl rfl Yo2 (by (first | (simp only [go_sem, ↓reduceIte, Z1, Z7, Z2, Za, Zb, Zc, Zd, Ze, e0, e3, e4, e5, e7, e8, e9, he2d, hm2d, wm2, w5_0, w5_1, w5_2, w5_3, w5_4, Za2, Za1, Za0, w5_x, w5_c, Jy, Ja, Ve, Vh, w5_l, Jz, Z4, Z5, Z8, Z3, Z6, Z9, Z0]; rfl) | (simp only [go_sem, ↓reduceIte, Z1, Z7, Z2, Za, Zb, Zc, Zd, Ze, e0, e3, e4, e5, e7, e8, e9, he2d, hm2d, wm2, w5_0, w5_1, w5_2, w5_3, w5_4, Za2, Za1, Za0, w5_x, w5_c, Jy, Ja, Ve, Vh, w5_l, Jz, Z4, Z5, Z8, Z3, Z6, Z9, Z0]; done))) (fun h2 k2 => hs2 h2 k2) ?_)
   exact ⟨rfl, m2 - 1, by omega, m2 - 1, tks ++ [⟨p, q⟩], s6, _, rfl, hN2, ho6, by rw [hd6, hd5, hdB], by simp; omega, by rw [Zi, Z3]; rfl, e0, e3, e4, e5, e7, e8, rfl⟩
 have hst2 := hLp2.stop2 hgo
 subst hst2
 simp only at hN
 have ht := fun (h : List Ob) (q : h[0]? = some (Yc s4)) => Yb0 G hG 0 s4 h q hoB (by omega)
 have ht' : ∀ (h : List Ob), h[0]? = some (Yc s4) → Does Tryz.prog G 50 h [.ptr 0 0] (fun h' r => h' = h.set 0 (Yc (Yx s4).2) ∧ r = .v (.string (Yx s4).1)) := ht
 obtain ⟨ho7, hd7, _⟩ := Vc hoB
 have ho7' : (Yx s4).2.Ok := ho7
 have hd7' : (Yx s4).2.data = s4.data := hd7
 clear ht ho7 hd7
 generalize Yx s4 = tx at *
 obtain ⟨tx, s7⟩ := tx
 simp only at hN ho7' hd7' ht'
 have hlr : (acc.map enX).length = acc.length := Zf _
 have hgo2 : ¬ (0 < (m2 : Int)) ∨ (0 < (m2 : Int) ∧ ¬ s4.err = 0) := by omega
 rcases hgo2 with hm20 | ⟨hm20, he20⟩
 · skip
   repeat' first
    | (with_reducible first | refine sA rfl ?_ | refine sI rfl rfl ?_ | refine sT rfl ?_ | refine sB rfl ?_)
    | (with_reducible refine Y9 ?_; first | (refine Yf2 (j := T.length + 6) (d' := .agg [.sl 2 (tks.map tkX), .v (.string tx)]) (by with_unfolding_all rfl) (by with_unfolding_all rfl) (by with_unfolding_all exact e8) w5_x (by with_unfolding_all (rw [getD_agg' aggT_163, szT_163]; rfl)) (by simp [cvD, cv1, w5_c]) ?_; simp only [Ja]) | refine Y5 ?_ | (refine ao1 rfl rfl fun K HK => ?_; (first | refine Y6 rfl ?_ | skip); simp only [go_sem, ↓reduceIte, Z1, Z7, Z2, Za, Zb, Zc, Zd, Ze, e0, e3, e4, e5, e7, e8, e9, wm, hm20, w5_0, w5_1, w5_2, w5_3, w5_4, Za2, Za1, Za0, w5_x, w5_c, Jy, Ja, Ve, Vh, w5_l, Jz, Z4, Z5, Z8, Z3, Z6, Z9, Z0] <;> (refine HK _ _ ?_; clear HK K)) | refine ao0 rfl rfl ?_ | refine Wx rfl rfl rfl rfl (by (simp only [go_sem, ↓reduceIte, Z1, Z7, Z2, Za, Zb, Zc, Zd, Ze, e0, e3, e4, e5, e7, e8, e9, wm, hm20, w5_0, w5_1, w5_2, w5_3, w5_4, Za2, Za1, Za0, w5_x, w5_c, Jy, Ja, Ve, Vh, w5_l, Jz, Z4, Z5, Z8, Z3, Z6, Z9, Z0]; rfl)) (by simp) (by simp only [go_sem]; rfl) (by (simp only [go_sem, ↓reduceIte, Z1, Z7, Z2, Za, Zb, Zc, Zd, Ze, e0, e3, e4, e5, e7, e8, e9, wm, hm20, w5_0, w5_1, w5_2, w5_3, w5_4, Za2, Za1, Za0, w5_x, w5_c, Jy, Ja, Ve, Vh, w5_l, Jz, Z4, Z5, Z8, Z3, Z6, Z9, Z0]; rfl)) (by simp) (by (simp [Xd, D.one, Value.oneCell']; done)) (by (simp; omega)) ?_ | (refine ao2 rfl rfl rfl Yi6 (ht' _ (by first | exact w5_0 | rfl)) ?_; rintro _ _ ⟨rfl, rfl⟩) | (refine ao1' rfl fun K HK => ?_; simp only [go_sem, ↓reduceIte, Z1, Z7, Z2, Za, Zb, Zc, Zd, Ze, e0, e3, e4, e5, e7, e8, e9, wm, hm20, w5_0, w5_1, w5_2, w5_3, w5_4, Za2, Za1, Za0, w5_x, w5_c, Jy, Ja, Ve, Vh, w5_l, Jz, Z4, Z5, Z8, Z3, Z6, Z9, Z0]; refine HK _ _ ?_; clear HK K))
   exact ⟨rfl, m - 1, by omega, m - 1, acc ++ [⟨tks, tx⟩], s7, _, rfl, hN, ho7', by rw [hd7', hdB], by simp; omega, by rw [Zi, Z3]; rfl, e0, e3, e4, e5, rfl⟩
 · skip
   repeat' first
    | (with_reducible first | refine sA rfl ?_ | refine sI rfl rfl ?_ | refine sT rfl ?_ | refine sB rfl ?_)
    | (with_reducible refine Y9 ?_; first | (refine Yf2 (j := T.length + 6) (d' := .agg [.sl 2 (tks.map tkX), .v (.string tx)]) (by with_unfolding_all rfl) (by with_unfolding_all rfl) (by with_unfolding_all exact e8) w5_x (by with_unfolding_all (rw [getD_agg' aggT_163, szT_163]; rfl)) (by simp [cvD, cv1, w5_c]) ?_; simp only [Ja]) | refine Y5 ?_ | (refine ao1 rfl rfl fun K HK => ?_; (first | refine Y6 rfl ?_ | skip); simp only [go_sem, ↓reduceIte, Z1, Z7, Z2, Za, Zb, Zc, Zd, Ze, e0, e3, e4, e5, e7, e8, e9, wm, hm20, he20, w5_0, w5_1, w5_2, w5_3, w5_4, Za2, Za1, Za0, w5_x, w5_c, Jy, Ja, Ve, Vh, w5_l, Jz, Z4, Z5, Z8, Z3, Z6, Z9, Z0] <;> (refine HK _ _ ?_; clear HK K)) | refine Wx rfl rfl rfl rfl (by (simp only [go_sem, ↓reduceIte, Z1, Z7, Z2, Za, Zb, Zc, Zd, Ze, e0, e3, e4, e5, e7, e8, e9, wm, hm20, he20, w5_0, w5_1, w5_2, w5_3, w5_4, Za2, Za1, Za0, w5_x, w5_c, Jy, Ja, Ve, Vh, w5_l, Jz, Z4, Z5, Z8, Z3, Z6, Z9, Z0]; rfl)) (by simp) (by simp only [go_sem]; rfl) (by (simp only [go_sem, ↓reduceIte, Z1, Z7, Z2, Za, Zb, Zc, Zd, Ze, e0, e3, e4, e5, e7, e8, e9, wm, hm20, he20, w5_0, w5_1, w5_2, w5_3, w5_4, Za2, Za1, Za0, w5_x, w5_c, Jy, Ja, Ve, Vh, w5_l, Jz, Z4, Z5, Z8, Z3, Z6, Z9, Z0]; rfl)) (by simp) (by (simp [Xd, D.one, Value.oneCell']; done)) (by (simp; omega)) ?_ | (refine ao2 rfl rfl rfl Zj2 (hEr2 _ (by first | exact q5_0 | exact w5_0 | rfl)) ?_; rintro _ _ ⟨rfl, rfl⟩) | (refine ao2 rfl rfl rfl Yi6 (ht' _ (by first | exact w5_0 | rfl)) ?_; rintro _ _ ⟨rfl, rfl⟩) | (refine ao1' rfl fun K HK => ?_; simp only [go_sem, ↓reduceIte, Z1, Z7, Z2, Za, Zb, Zc, Zd, Ze, e0, e3, e4, e5, e7, e8, e9, wm, hm20, he20, w5_0, w5_1, w5_2, w5_3, w5_4, Za2, Za1, Za0, w5_x, w5_c, Jy, Ja, Ve, Vh, w5_l, Jz, Z4, Z5, Z8, Z3, Z6, Z9, Z0]; refine HK _ _ ?_; clear HK K))
   exact ⟨rfl, m - 1, by omega, m - 1, acc ++ [⟨tks, tx⟩], s7, _, rfl, hN, ho7', by rw [hd7', hdB], by simp; omega, by rw [Zi, Z3]; rfl, e0, e3, e4, e5, rfl⟩
end
end Go.Proofs.YtgkjcmglcnhpaaaGreatDoor
