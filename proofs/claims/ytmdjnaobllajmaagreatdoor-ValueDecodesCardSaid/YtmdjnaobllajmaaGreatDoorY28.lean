/-
  What the statements of the chapter share, part 28: TK4, TK5, PTake, PTS, LA4.
-/
import Derived.Test.YtmdjnaobllajmaaGreatDoorY07
import Derived.Test.YtmdjnaobllajmaaGreatDoorY14
import Derived.Test.YtmdjnaobllajmaaGreatDoorY15
import Derived.Test.YtmdjnaobllajmaaGreatDoorY18
import Derived.Test.YtmdjnaobllajmaaGreatDoorY26
import Derived.Test.YtmdjnaobllajmaaGreatDoorY27
set_option linter.unusedVariables false
set_option linter.unusedSimpArgs false
set_option maxRecDepth 100000
set_option maxHeartbeats 8000000
namespace Go.Proofs.YtmdjnaobllajmaaGreatDoor
open _root_.And renaming intro → Zt
open _root_.Bool renaming not_false → Y1
open _root_.ByteArray renaming empty → Y0
open _root_.Int renaming reduceEq → Zg, reduceLE → Zh, reduceLT → Zi, toNat_zero → Y3
open _root_.List renaming getElem?_append_left → Z0, getElem?_set_self → Z1, getElem?_eq_some_iff → Z2, length_map → Z3, length_cons → Z6, getElem?_set_ne → Z7, set_append_left → Z9, length_nil → Za, getElem?_append_right → Zb, length_eq_one_iff → Zc, drop_eq_nil_of_le → Zd, cons_append → Zj, getElem?_eq_getElem → Zk, nil_append → Zl, append_nil → Zm, reverse_cons → Zo, append_assoc → Zp, reverse_nil → Zs, length_append → Zw, map_nil → Zy
open _root_.Nat renaming reduceEqDiff → Z4, reduceLeDiff → Z5, reduceAdd → Z8, reduceBEq → Ze, reduceMul → Zf, le_refl → Zn, le_of_ble_eq_true → Zq, zero_le → Zu, sub_self → Zz
open _root_.Option renaming bind_some → Zr, map_some → Zv
open _root_.Prod renaming snd → Zx, fst → Y2
open Go.RowKit
section
attribute [local irreducible] on aOp
attribute [local go_sem] decide_true decide_false Bool.not_true Y1
variable (G : Nat → D) (hG : ∀ g, low 0 (G g))
def MB (m0 : Nat) (T : List Ob) (d1 d2 : D) (acc : List (ByteArray × Val)) : Prop := (acc = [] ∧ d1 = .v (.slice none 0 0) ∧ d2 = .v (.slice none 0 0)) ∨
 ∃ t1 t2, t1 ≠ t2 ∧ T[t1]? = some (.buf 9 1 ((acc.map Y2).map strX)) ∧ T[t2]? = some (.buf 30 4 ((acc.map Zx).map vaX)) ∧ d1 = .buf (m0 + (t1 + 3)) acc.length ∧ d2 = .buf (m0 + (t2 + 3)) acc.length
include hG
attribute [local go_sem] Int.ofNat_lt Zg Zh Zi Y3 List.drop_zero Z6 Z3 Za List.map_append List.map_cons Zy Z8 Ze Z4 Z5 Zf Wz Xz Wh X8
attribute [local go_sem ↓] reduceIte
theorem take_5 (l : Lat) (p : Lat) (hk : l.kind = 5) (hb : l.parts = [p]) (hrec : Zz7 G p) (hok : ∀ s : RS, s.Ok → (Yg p s).2.Ok ∧ (Yg p s).2.data = s.data) : Zz7 G l := fun i s h hi ho hl => by
 have hil := (Z2.1 hi).1
 obtain ⟨g1, g2, g3, g4, g5⟩ := Wf hi
 have hR : Yg l s = (.mk 0 ((Yi (Xn (Yg p)) (Y6 s).1 (Y6 s).2).1.map Y2) ((Yi (Xn (Yg p)) (Y6 s).1 (Y6 s).2).1.map Zx) [], (Yi (Xn (Yg p)) (Y6 s).1 (Y6 s).2).2) := by
  cases l; cases hk; rename_i ps _; have hb : ps = [p] := hb; subst hb; exact takeV_5 s
 obtain ⟨ho2, hd2, hn2⟩ := We ho
 rw [hR, Y4]
 generalize hRe : Yi (Xn (Yg p)) (Y6 s).1 (Y6 s).2 = R at *
 simp only [Ya, Val.n, Val.names, Val.parts, Val.entries, Zy]
 apply Does.weak
 refine Y5 Tryz.func56 rfl (Zq rfl) hG fun hl0 _ => ?_
 simp only [Tryz.ntmps56]
 all_goals
  have F : _ ∧ _ ∧ _ ∧ _ ∧ _ ∧ _ ∧ _ := ⟨hi, g1, g2, g3, g4, g5, hk⟩
  repeat' first
   | refine g0 ?_
   | (with_reducible refine Y7 ?_; refine gc rfl rfl rfl ent_97 (Zm2 G hG _ _ _ (g3 _) ho (by omega)) ?_)
  refine Yn (fun m e h' => ∃ (acc : List (ByteArray × Val)) (s' : RS) (T : List Ob) (d1 d2 : D), acc.length ≤ (Y6 s).1 ∧ m = (Y6 s).1 - acc.length ∧ LoopAt R (Xn (Yg p)) acc ((Y6 s).1 - acc.length) s' ∧ s'.Ok ∧ s'.data = s.data ∧ MB h.length T d1 d2 acc ∧
   h' = h.set i (inOb s') ++ (.cells [.v (.int .i64 l.kind), .v (.int .i64 l.lo), .v (.int .i64 l.hi), .sl 1 (l.names.map strX), .sl 6 (l.parts.map latX), .sl 2 (l.rules.map Zh3)] :: .cells [.v (.int .i64 0), .v (.slice none 0 0), .v (.slice none 0 0), .v (.slice none 0 0)] :: .cells [.v (.int .i64 0), d1, d2, .v (.slice none 0 0)] :: T) ∧
   e 0 = .ptr i 0 ∧ e 3 = .ptr h.length 0 ∧ e 4 = .ptr (h.length + 1) 0 ∧ e 5 = .ptr (h.length + 2) 0 ∧ e 14 = .v (.int .i64 ((Y6 s).1 : Nat)) ∧ e 15 = .v (.int .i64 (acc.length : Nat))) (Y6 s).1
   ⟨[], (Y6 s).2, [], _, _, Zu _, rfl, by rw [← hRe]; exact LoopAt.start _ _ _, ho2, hd2, .inl ⟨rfl, rfl, rfl⟩, by first | rfl | (rw [hk]; done) | (rw [hk]; rfl) | (simp only [g4, hk]; rfl) | (simp only [g4, hk]; done), rfl, rfl, rfl, rfl, rfl, rfl⟩ ?_
  clear hi g1 g2 g3 g4 g5
  rintro m e h' ⟨acc, s', T, d1, d2, ha, rfl, hLp, ho', hd', hMB, rfl, e0, e3, e4, e5, e14, e15⟩
  have g1 : ∀ (x : Ob) (l : List Ob), (h.set i x ++ l)[i]? = some x := fun x l => by rw [Z0 (by simpa using hil)]; exact Z1 hil
  have g2 : ∀ (x y : Ob) (l : List Ob), (h.set i x ++ l).set i y = h.set i y ++ l := fun x y l => by rw [Z9 _ _ (by simpa using hil), List.set_set]
  have hl' : s'.data.length ≤ 1000000 := by rw [hd']; omega
  have wa : IntKind.i64.wrap ((acc.length : Int) + 1) = (acc.length : Int) + 1 := IntWalk.i64_in _ (by omega)
  have hp : l.parts[0]? = some p := by rw [hb]; rfl
  have hpl : l.parts.length = 1 := by rw [hb]; rfl
  have hpo := hok (Y9 s').2 (Xd ho').1
  have hrk : Yz 4 [vaX (Yg p (Y9 s').2).1] := JoR _
  rcases hMB with ⟨hac, rfl, rfl⟩ | ⟨t1, t2, hne, ht1, ht2, rfl, rfl⟩
  · skip
    · skip
      have F : _ ∧ _ ∧ _ ∧ _ ∧ _ ∧ _ ∧ _ ∧ _ ∧ _ := ⟨g1, g2, e0, e3, e4, e5, e14, e15, wa⟩
      repeat' first
       | (with_reducible refine Yj ?_; refine X7 mixd (by kernel_rfl) ?_)
       | ((with_reducible refine Uc ?_); first | (refine aS1 rfl rfl fun K HK => ?_; (first | refine Yh rfl ?_ | skip); simp only [go_sem, F]; (first | refine X1 (fun hq => ?_) (fun hq => ?_) | (refine ⟨by omega, ?_⟩; refine W9 (by assumption) ?_) | skip) <;> (refine HK _ _ rfl ?_; clear HK K)) | refine Xg rfl rfl rfl (by (first | (simp only [go_sem, F]; rfl) | (simp only [go_sem, F]; done))) (by rw [getD_one (by simp only [go_sem, F])]; rfl) ?_ | refine V3 rfl rfl (by (first | (simp only [go_sem, F]; rfl) | (simp only [go_sem, F]; done))) rfl (by simp only [go_sem, F]) (by simp) ?_ | refine Vn rfl rfl (by simp only [litD, Xf, go_sem, Z6, Za, Zv, Zr, and_self, ↓reduceIte, Z4, Z8, Z5, Ze, Zf, Zg, Zi, Zh, g1, g2, e0, e3, e4, e5, e14, e15, wa, Wz, Y3, Xz, Wh, List.drop_zero, X8, Z3, Int.ofNat_lt, Z6, Za]; rfl) ?_ | refine Zt2 rfl rfl rfl rfl (by simp only [go_sem, F]; rfl) (by (first | (simp only [go_sem, F]; rfl) | (simp only [go_sem, F]; done))) (by simp) (by (first | assumption | (simp [Yz, D.one, Value.oneCell']; done))) (by (simp; done)) ?_ | refine V4 (by simp only [Zo, Zs, Zl, Zj, W5, chk1]; repeat' (first | exact trivial | refine Zt ?_ ?_ | exact .inr X2 | exact .inr X4 | exact .inr Xj | exact .inr (Xi (by omega)) | exact .inr (Wu (by omega)) | (refine .inr ?_; simp [compat, Xw, Wa, Ws, nop, Xz, X8] <;> omega) | exact .inl (by kernel_rfl))) ?_ | refine Xt rfl rfl rfl Zy3 (by (first | (simp only [go_sem, F]; rfl) | (simp only [go_sem, F]; done))) (fun h2 k2 => Zb0 G hG i s' h2 k2 ho' (by omega)) ?_ | refine Xt rfl rfl rfl Zy5 (by (first | (simp only [go_sem, F]; rfl) | (simp only [go_sem, F]; done))) (fun h2 k2 => hrec i (Y9 s').2 h2 k2 (Xd ho').1 (by rw [(Xd ho').2]; exact hl')) ?_)
       | refine g ?_
       | refine Two.mk (fun hq => ?_) fun hq => ?_
      rotate_left
      · skip
        refine ⟨rfl, (Y6 s).1 - (acc ++ [((Y9 s').1, (Yg p (Y9 s').2).1)]).length, by simp; omega, acc ++ [((Y9 s').1, (Yg p (Y9 s').2).1)], (Yg p (Y9 s').2).2, T ++ [.buf 9 1 [strX (Y9 s').1], .buf 9 1 [strX (Y9 s').1], .buf 30 4 [vaX (Yg p (Y9 s').2).1], .buf 30 4 [vaX (Yg p (Y9 s').2).1]], .buf (h.length + (T.length + 1 + 3)) 1, .buf (h.length + (T.length + 3 + 3)) 1, by simp; omega, rfl, LoopAt.next (f := Xn (Yg p)) hLp (by omega) (by omega), hpo.1, hpo.2.trans ((Xd ho').2.trans hd'), .inr ⟨T.length + 1, T.length + 3, by omega, by simp [hac, strX], by simp [hac], by simp [hac], by simp [hac]⟩, ?_, by simp only [go_sem, g1, g2, e0, e3, e4, e5, e14, e15, wa], by simp only [go_sem, g1, g2, e0, e3, e4, e5, e14, e15, wa], by simp only [go_sem, g1, g2, e0, e3, e4, e5, e14, e15, wa], by simp only [go_sem, g1, g2, e0, e3, e4, e5, e14, e15, wa], by simp only [go_sem, g1, g2, e0, e3, e4, e5, e14, e15, wa], by simp only [go_sem, g1, g2, e0, e3, e4, e5, e14, e15, wa]; simp⟩
        simp only [go_sem, g1, g2, e0, e3, e4, e5, e14, e15, wa, strX]
        try rfl
      all_goals
        obtain rfl := hLp.stop (by omega)
        subst hac
        exact ⟨by simp, endS (i := i) (ob := inOb s') (ds := [.agg [.v (.int .i64 0), .v (.slice none 0 0), .v (.slice none 0 0), .v (.slice none 0 0)]]) (r := .agg [.v (.int .i64 0), .v (.slice none 0 0), .v (.slice none 0 0), .v (.slice none 0 0)]) hl0 (Xe _ _) (by simp only [resD, Tryz.results56, go_sem, ↓reduceIte, Z4, Z8, Z5, go_sem, Z3, e4]) (by first | exact Yc | exact Yd | (simp only [Yd, Yc, g4]; done)) (by simp; try omega) (by simp [outD, cvD, cv1, go_sem, Z3, e4]) (by rw [low]; repeat' first | exact trivial | exact Yv _ _ | exact Wq _ _ | exact Xr _ _ | (rw [lowL]; refine Zt ?_ ?_) | (rw [lowL]; done) | (simp [low, lowL, lowR, strX]; done)) ⟨_, ⟨rfl, rfl⟩, V5 (Y8 (Ys _) (Y8 Ye (Y8 Ye (Y8 Ye Xl))))⟩⟩
  · skip
    obtain ⟨q1, q2, q3, q4, q5⟩ := Wf ht1
    have hl2 := (Z2.1 ht2).1
    have hl1 := (Z2.1 ht1).1
    have r1 : ∀ (x : Ob) (l : List Ob), (T.set t1 x ++ l)[t2]? = some (.buf 30 4 ((acc.map Zx).map vaX)) := fun x l => by rw [Z0 (by simpa using hl2), Z7 hne]; exact ht2
    have r2 : ∀ (x y : Ob) (l : List Ob), (T.set t1 x ++ l).set t2 y = (T.set t1 x).set t2 y ++ l := fun x y l => Z9 _ _ (by simpa using hl2)
    have r3 : ∀ (x y : Ob) (l : List Ob), ((T.set t1 x).set t2 y ++ l)[t1]? = some x := fun x y l => by rw [Z0 (by simpa using hl1), Z7 (Ne.symm hne)]; exact Z1 hl1
    have r4 : ∀ (x y : Ob) (l : List Ob), ((T.set t1 x).set t2 y ++ l)[t2]? = some y := fun x y l => by rw [Z0 (by simpa using hl2)]; exact Z1 (by simpa using hl2)
    · skip
      have F : _ ∧ _ ∧ _ ∧ _ ∧ _ ∧ _ ∧ _ ∧ _ ∧ _ ∧ _ ∧ _ ∧ _ ∧ _ ∧ _ ∧ _ ∧ _ := ⟨g1, g2, e0, e3, e4, e5, e14, e15, wa, q1, q2, q3, q4, q5, r1, r2⟩
      repeat' first
       | (with_reducible refine Yj ?_; refine X7 mixd (by kernel_rfl) ?_)
       | ((with_reducible refine Uc ?_); first | (refine aS1 rfl rfl fun K HK => ?_; (first | refine Yh rfl ?_ | skip); simp only [go_sem, F]; (first | refine X1 (fun hq => ?_) (fun hq => ?_) | (refine ⟨by omega, ?_⟩; refine W9 (by assumption) ?_) | skip) <;> (refine HK _ _ rfl ?_; clear HK K)) | refine Xg rfl rfl rfl (by (first | assumption | (simp only [go_sem, F]; rfl) | (simp only [go_sem, F]; done))) (by rw [getD_one (by simp only [go_sem, F])]; rfl) ?_ | refine V3 rfl rfl (by (first | assumption | (simp only [go_sem, F]; rfl) | (simp only [go_sem, F]; done))) rfl (by simp only [go_sem, F]) (by simp) ?_ | refine Vn rfl rfl (by simp only [litD, Xf, go_sem, Z6, Za, Zv, Zr, and_self, ↓reduceIte, Z4, Z8, Z5, Ze, Zf, Zg, Zi, Zh, g1, g2, e0, e3, e4, e5, e14, e15, wa, Wz, Y3, Xz, Wh, List.drop_zero, X8, Z3, Int.ofNat_lt, Z6, Za, q1, q2, q3, q4, q5, r1, r2]; rfl) ?_ | refine Ux rfl rfl rfl rfl (by (first | assumption | (simp only [go_sem, F]; rfl) | (simp only [go_sem, F]; done))) (by simp) (by simp only [go_sem, F]; rfl) (by (first | assumption | (simp only [go_sem, F]; rfl) | (simp only [go_sem, F]; done))) (by simp) (by (first | assumption | (simp [Yz, D.one, Value.oneCell']; done))) (by (simp; omega)) ?_ | refine V4 (by simp only [Zo, Zs, Zl, Zj, W5, chk1]; repeat' (first | exact trivial | refine Zt ?_ ?_ | exact .inr X2 | exact .inr X4 | exact .inr Xj | exact .inr (Xi (by omega)) | exact .inr (Wu (by omega)) | (refine .inr ?_; simp [compat, Xw, Wa, Ws, nop, Xz, X8] <;> omega) | exact .inl (by kernel_rfl))) ?_ | refine Xt rfl rfl rfl Zy3 (by (first | assumption | (simp only [go_sem, F]; rfl) | (simp only [go_sem, F]; done))) (fun h2 k2 => Zb0 G hG i s' h2 k2 ho' (by omega)) ?_ | refine Xt rfl rfl rfl Zy5 (by (first | assumption | (simp only [go_sem, F]; rfl) | (simp only [go_sem, F]; done))) (fun h2 k2 => hrec i (Y9 s').2 h2 k2 (Xd ho').1 (by rw [(Xd ho').2]; exact hl')) ?_)
       | refine g ?_
       | refine Two.mk (fun hq => ?_) fun hq => ?_
      rotate_left
      · skip
        refine ⟨rfl, (Y6 s).1 - (acc ++ [((Y9 s').1, (Yg p (Y9 s').2).1)]).length, by simp; omega, acc ++ [((Y9 s').1, (Yg p (Y9 s').2).1)], (Yg p (Y9 s').2).2, (T.set t1 (.buf 9 1 (((acc ++ [((Y9 s').1, (Yg p (Y9 s').2).1)]).map Y2).map strX))).set t2 (.buf 30 4 (((acc ++ [((Y9 s').1, (Yg p (Y9 s').2).1)]).map Zx).map vaX)) ++ [.buf 9 1 [strX (Y9 s').1], .buf 30 4 [vaX (Yg p (Y9 s').2).1]], .buf (h.length + (t1 + 3)) (acc ++ [((Y9 s').1, (Yg p (Y9 s').2).1)]).length, .buf (h.length + (t2 + 3)) (acc ++ [((Y9 s').1, (Yg p (Y9 s').2).1)]).length, by simp; omega, rfl, LoopAt.next (f := Xn (Yg p)) hLp (by omega) (by omega), hpo.1, hpo.2.trans ((Xd ho').2.trans hd'), .inr ⟨t1, t2, hne, r3 _ _ _, r4 _ _ _, rfl, rfl⟩, ?_, by simp only [go_sem, g1, g2, e0, e3, e4, e5, e14, e15, wa], by simp only [go_sem, g1, g2, e0, e3, e4, e5, e14, e15, wa], by simp only [go_sem, g1, g2, e0, e3, e4, e5, e14, e15, wa], by simp only [go_sem, g1, g2, e0, e3, e4, e5, e14, e15, wa], by simp only [go_sem, g1, g2, e0, e3, e4, e5, e14, e15, wa], by simp only [go_sem, g1, g2, e0, e3, e4, e5, e14, e15, wa]; simp⟩
        simp only [go_sem, g1, g2, e0, e3, e4, e5, e14, e15, wa, q1, q2, q3, q4, q5, r1, r2, strX]
        try rfl
      all_goals
        obtain rfl := hLp.stop (by omega)
        exact ⟨by simp, endS (i := i) (ob := inOb s') (ds := [.agg [.v (.int .i64 0), .buf (h.length + (t1 + 3)) acc.length, .buf (h.length + (t2 + 3)) acc.length, .v (.slice none 0 0)]]) (r := .agg [.v (.int .i64 0), .sl 1 ((acc.map Y2).map strX), .sl 4 ((acc.map Zx).map vaX), .v (.slice none 0 0)]) hl0 (Xe _ _) (by simp only [resD, Tryz.results56, go_sem, ↓reduceIte, Z4, Z8, Z5, go_sem, Z3, e4, ht1, ht2]) (by first | exact Yc | exact Yd | (simp only [Yd, Yc, g4]; done)) (by simp; try omega) (by simp [outD, cvD, cv1, go_sem, Z3, e4, ht1, ht2]) (by rw [low]; repeat' first | exact trivial | exact Yv _ _ | exact Wq _ _ | exact Xr _ _ | (rw [lowL]; refine Zt ?_ ?_) | (rw [lowL]; done) | (simp [low, lowL, lowR, strX]; done)) ⟨_, ⟨rfl, rfl⟩, V5 (Y8 (Ys _) (Y8 (Ys _) (Y8 (Ys _) (Y8 Ye Xl))))⟩⟩
end
section
attribute [local irreducible] on aOp
attribute [local go_sem] decide_true decide_false Bool.not_true Y1
section
variable {P : Program} {G : Nat → D} {n : Nat} {e : Nat → D} {h : List Ob}
theorem Sit_wk {B : Base} {a : Act} {w : World} {t : Nat} {d d' : D} (k : Wk d d') (r : Sit G B ⟨n, upd e t d, h⟩ a w) : Sit G B ⟨n, upd e t d', h⟩ a w := by
 obtain ⟨hd, p, r⟩ := r
 refine ⟨hd, p, r.ok, r.evo, fun t' => ?_, r.size, r.defers⟩
 have := r.tmp t'
 show rd _ _ _ (upd e t d' t') _
 replace this : rd hd h (only p w) (upd e t d t') (a.tmps.getD t' undef) := this
 unfold upd at this ⊢
 by_cases ht : t' = t
 · rw [if_pos ht] at this ⊢; exact k _ _ _ _ this
 · rw [if_neg ht] at this ⊢; exact this
theorem ao_gv {ops : Array Oper} {l : List Oper} {Q : S → Prop} {t j m E k : Nat} {xs : List (List D)} {d : Value} (hj : h[j]? = some (.buf E k xs)) (hm : xs.length = m) (q : ao P G ops l Q ⟨n, upd e t (.agg [.sl k xs, .v d]), h.set j .dead⟩) : ao P G ops l Q ⟨n, upd e t (.agg [.buf j m, .v d]), h⟩ := fun B a w r R hR => by
 have r2 := Sit_give j t r
 rw [show cvD (fun i => i == j) h (upd e t (.agg [.buf j m, .v d]) t) = .agg [.sl k xs, .v d] by simp [upd, cvD, cv1, hj, hm]] at r2
 have e1 : upd (upd e t (.agg [.buf j m, .v d])) t (.agg [.sl k xs, .v d]) = upd e t (.agg [.sl k xs, .v d]) := by funext x; unfold upd; split <;> rfl
 rw [e1] at r2
 exact q B a w r2 R hR
theorem ao_gn {ops : Array Oper} {l : List Oper} {Q : S → Prop} {t : Nat} {d : Value} (k : Nat) (q : ao P G ops l Q ⟨n, upd e t (.agg [.sl k [], .v d]), h⟩) : ao P G ops l Q ⟨n, upd e t (.agg [.v (.slice none 0 0), .v d]), h⟩ := fun B a w r R hR =>
 q B a w (Sit_wk (V5 (Y8 Ye (Y8 (Ys _) Xl))) r) R hR
end
variable (G : Nat → D) (hG : ∀ g, low 0 (G g))
def EB (m0 : Nat) (T : List Ob) (d : D) (acc : List En) : Prop := (acc = [] ∧ d = .v (.slice none 0 0)) ∨ ∃ t, T[t]? = some (.buf 43 2 (acc.map enX)) ∧ d = .buf (m0 + (t + 3)) acc.length
def CB (m0 : Nat) (T : List Ob) (d : D) (acc : List Tk) : Prop := (acc = [] ∧ d = .v (.slice none 0 0)) ∨ ∃ t, T[t]? = some (.buf 99 2 (acc.map tkX)) ∧ d = .buf (m0 + (t + 3)) acc.length
theorem get_app {T l : List Ob} {t : Nat} {x : Ob} (h : T[t]? = some x) : (T ++ l)[t]? = some x := by rw [Z0 (Z2.1 h).1]; exact h
theorem get_set {T : List Ob} {t j : Nat} {x y z : Ob} (h : T[t]? = some x) (hj : T[j]? = some z) (hne : x ≠ z) : (T.set j y)[t]? = some x := by
 rw [Z7 (fun e => by subst e; rw [h] at hj; cases hj; exact hne rfl)]; exact h
theorem EB.app {m0 : Nat} {T l : List Ob} {d : D} {acc : List En} (q : EB m0 T d acc) : EB m0 (T ++ l) d acc := by
 rcases q with q | ⟨t, q, r⟩
 · exact .inl q
 · exact .inr ⟨t, get_app q, r⟩
theorem EB.set {m0 : Nat} {T : List Ob} {d : D} {acc : List En} {j : Nat} {y z : Ob} (q : EB m0 T d acc) (hj : T[j]? = some z) (hne : ∀ xs, .buf 43 2 xs ≠ z) : EB m0 (T.set j y) d acc := by
 rcases q with q | ⟨t, q, r⟩
 · exact .inl q
 · exact .inr ⟨t, get_set q hj (hne _), r⟩
theorem Zf0 {s s2 : RS} {acc : List Tk} (h : Yi Jm (Y6 s).1 (Y6 s).2 = (acc, s2)) : Wn s = (⟨acc, (Y9 s2).1⟩, (Y9 s2).2) := by
 unfold Wn Zn4; rw [h]
theorem rdN_ok {s : RS} (h : s.Ok) : (rdN s).2.Ok ∧ (rdN s).2.data = s.data := Xb _ h
theorem rowsOk_tkR (t : Tk) : Yz 2 [tkX t] := fun row hr => by
 rw [List.mem_singleton.1 hr]
 exact ⟨rfl, fun d hd => by simp [tkX] at hd; rcases hd with rfl | rfl <;> rfl⟩
include hG
attribute [local go_sem] Zg Zh Zi Z0 Zb Z7 Z1 Zw Z6 Za List.map_append List.map_cons Zy Z9 Zn Z8 Ze Z4 Z5 Zf Zz Wz ne_eq not_false_eq_true
attribute [local go_sem ↓] reduceIte
theorem take_9 (l : Lat) (hk : l.kind = 9) : Zz7 G l := fun i s h hi ho hl => by
 have hil := (Z2.1 hi).1
 obtain ⟨g1, g2, g3, g4, g5⟩ := Wf hi
 have hR : Yg l s = (.mk 0 [] [] (Yi Wn (Y6 s).1 (Y6 s).2).1, (Yi Wn (Y6 s).1 (Y6 s).2).2) := by cases l; cases hk; exact takeV_9 s
 obtain ⟨ho2, hd2, hn2⟩ := We ho
 rw [hR, Y4]
 generalize hRe : Yi Wn (Y6 s).1 (Y6 s).2 = R at *
 simp only [Ya, Val.n, Val.names, Val.parts, Val.entries, Zy]
 apply Does.weak
 refine Y5 Tryz.func56 rfl (Zq rfl) hG fun hl0 _ => ?_
 simp only [Tryz.ntmps56]
 all_goals
  have F : _ ∧ _ ∧ _ ∧ _ ∧ _ ∧ _ ∧ _ := ⟨hi, g1, g2, g3, g4, g5, hk⟩
  repeat' first
   | refine g0 ?_
   | (with_reducible refine Y7 ?_; refine gc rfl rfl rfl ent_97 (Zm2 G hG _ _ _ (g3 _) ho (by omega)) ?_)
  refine Yn (fun m e h' => ∃ (acc : List En) (s' : RS) (B : Ob) (T : List Ob) (d : D), acc.length ≤ (Y6 s).1 ∧ m = (Y6 s).1 - acc.length ∧ LoopAt R Wn acc ((Y6 s).1 - acc.length) s' ∧ s'.Ok ∧ s'.data = s.data ∧ EB h.length T d acc ∧
   h' = h.set i (inOb s') ++ (B :: .cells [.v (.int .i64 0), .v (.slice none 0 0), .v (.slice none 0 0), .v (.slice none 0 0)] :: .cells [.v (.int .i64 0), .v (.slice none 0 0), .v (.slice none 0 0), d] :: T) ∧
   e 0 = .ptr i 0 ∧ e 4 = .ptr (h.length + 1) 0 ∧ e 5 = .ptr (h.length + 2) 0 ∧ e 8 = .v (.int .i64 ((Y6 s).1 : Nat)) ∧ e 9 = .v (.int .i64 (acc.length : Nat))) (Y6 s).1
   ⟨[], (Y6 s).2, _, [], _, Zu _, rfl, by rw [← hRe]; exact LoopAt.start _ _ _, ho2, hd2, .inl ⟨rfl, rfl⟩, by first | rfl | (simp only [g4]; rfl), rfl, rfl, rfl, rfl, rfl⟩ ?_
  clear hi g1 g2 g3 g4 g5
  rintro m e h' ⟨acc, s', B, T, d, ha, rfl, hLp, ho', hd', hEB, rfl, e0, e4, e5, e8, e9⟩
  have g1 : ∀ (x : Ob) (l : List Ob), (h.set i x ++ l)[i]? = some x := fun x l => by rw [Z0 (by simpa using hil)]; exact Z1 hil
  have g2 : ∀ (x y : Ob) (l : List Ob), (h.set i x ++ l).set i y = h.set i y ++ l := fun x y l => by rw [Z9 _ _ (by simpa using hil), List.set_set]
  have hl' : s'.data.length ≤ 1000000 := by rw [hd']; omega
  have wa : IntKind.i64.wrap ((acc.length : Int) + 1) = (acc.length : Int) + 1 := IntWalk.i64_in _ (by omega)
  obtain ⟨ho3, hd3, hn3⟩ := We ho'
  have F : _ ∧ _ ∧ _ ∧ _ ∧ _ ∧ _ ∧ _ ∧ _ := ⟨g1, g2, e0, e4, e5, e8, e9, wa⟩
  repeat' first
   | refine g ?_
   | refine Two.mk (fun hq => ?_) fun hq => ?_
   | (with_reducible refine Y7 ?_; refine gc rfl rfl rfl ent_97 (Zm2 G hG i s' _ (g1 _ _) ho' (by omega)) ?_)
  rotate_left
  · skip
    refine Yn (fun m e h' => ∃ (acc2 : List Tk) (s2 : RS) (tx : Nat) (T2 : List Ob) (cd nm : D), acc2.length ≤ (Y6 s').1 ∧ m = (Y6 s').1 - acc2.length ∧ LoopAt (Yi Jm (Y6 s').1 (Y6 s').2) Jm acc2 ((Y6 s').1 - acc2.length) s2 ∧ s2.Ok ∧ s2.data = s.data ∧ EB h.length T2 d acc ∧ CB h.length T2 cd acc2 ∧
     T2[tx]? = some (.cells [cd, nm]) ∧
     h' = h.set i (inOb s2) ++ (B :: .cells [.v (.int .i64 0), .v (.slice none 0 0), .v (.slice none 0 0), .v (.slice none 0 0)] :: .cells [.v (.int .i64 0), .v (.slice none 0 0), .v (.slice none 0 0), d] :: T2) ∧
     e 0 = .ptr i 0 ∧ e 4 = .ptr (h.length + 1) 0 ∧ e 5 = .ptr (h.length + 2) 0 ∧ e 8 = .v (.int .i64 ((Y6 s).1 : Nat)) ∧ e 9 = .v (.int .i64 (acc.length : Nat)) ∧ e 10 = .ptr (h.length + (tx + 3)) 0 ∧ e 11 = .v (.int .i64 ((Y6 s').1 : Nat)) ∧ e 12 = .v (.int .i64 (acc2.length : Nat))) (Y6 s').1
     ⟨[], (Y6 s').2, T.length, T ++ [.cells [.v (.slice none 0 0), .v (.string ⟨#[]⟩)]], _, _, Zu _, rfl, LoopAt.start _ _ _, ho3, hd3.trans hd', hEB.app, .inl ⟨rfl, rfl⟩, by rw [Zb (Zn _), Zz]; rfl, by first | rfl | (simp only [g2, Zp, Zj, Zl]; rfl), e0, e4, e5, e8, e9, rfl, rfl, rfl⟩ ?_
    clear e0 e4 e5 e8 e9 hEB
    rintro m e h' ⟨acc2, s2, tx, T2, cd, nm, ha2, rfl, hLp2, hoA, hdA, hEB, hCB, hx, rfl, e0, e4, e5, e8, e9, e10, e11, e12⟩
    have hlA : s2.data.length ≤ 1000000000 := by rw [hdA]; omega
    have hoB := (rdN_ok hoA).1
    have hlB : (rdN s2).2.data.length ≤ 1000000000 := by rw [(rdN_ok hoA).2]; exact hlA
    have hoC := (rdN_ok hoB).1
    have hdC : (rdN (rdN s2).2).2.data = s.data := (rdN_ok hoB).2.trans ((rdN_ok hoA).2.trans hdA)
    have wb : IntKind.i64.wrap ((acc2.length : Int) + 1) = (acc2.length : Int) + 1 := IntWalk.i64_in _ (by omega)
    have hltx := (Z2.1 hx).1
    rcases hCB with ⟨hc2, rfl⟩ | ⟨tc, htc, rfl⟩
    · skip
      have F : _ ∧ _ ∧ _ ∧ _ ∧ _ ∧ _ ∧ _ ∧ _ ∧ _ ∧ _ ∧ _ ∧ _ ∧ _ ∧ _ := ⟨g1, g2, e0, e4, e5, e8, e9, e10, e11, e12, wa, wb, hx, hltx⟩
      repeat' first
       | (with_reducible refine Yj ?_; refine X7 mixd (by kernel_rfl) ?_)
       | (with_reducible refine Y7 ?_; (refine ao_gn (t := 114) 2 ?_))
       | ((with_reducible refine Uc ?_); first | (refine aS1 rfl rfl fun K HK => ?_; (first | refine Yh rfl ?_ | skip); simp only [go_sem, F]; (first | refine X1 (fun hq => ?_) (fun hq => ?_) | skip) <;> (refine HK _ _ rfl ?_; clear HK K)) | refine Xg rfl rfl rfl (by (first | assumption | (simp only [go_sem, F]; rfl) | (simp only [go_sem, F]; done))) (by rw [getD_one (by simp only [go_sem, F])]; rfl) ?_ | refine V3 rfl rfl (by (first | assumption | (simp only [go_sem, F]; rfl) | (simp only [go_sem, F]; done))) rfl (by simp only [go_sem, F]) (by simp) ?_ | refine Vn rfl rfl (by simp only [litD, Xf, go_sem, Z6, Za, Zv, Zr, and_self, ↓reduceIte, Z4, Z8, Z5, Ze, Zf, Zg, Zi, Zh, g1, g2, e0, e4, e5, e8, e9, e10, e11, e12, wa, wb, Wz, hx, hltx, Z0, Zb, Z9, Z7, Z1, Zn, Zz, ne_eq, not_false_eq_true]; rfl) ?_ | refine Zt2 rfl rfl rfl rfl (by simp only [go_sem, F]; rfl) (by (first | assumption | (simp only [go_sem, F]; rfl) | (simp only [go_sem, F]; done))) (by simp) (by (first | exact Yb3 _ | (simp [Yz, D.one, Value.oneCell']; done))) (by (simp; done)) ?_ | refine V4 (by simp only [Zo, Zs, Zl, Zj, W5, chk1]; repeat' (first | exact trivial | refine Zt ?_ ?_ | exact .inr X2 | exact .inr X4 | exact .inr (Xi (by omega)) | exact .inr (Wu (by omega)) | (refine .inr ?_; simp [compat, Xw, Wa, Ws, nop] <;> omega) | exact .inl (by kernel_rfl))) ?_ | refine Xt rfl rfl rfl Yd1 (by (first | assumption | (simp only [go_sem, F]; rfl) | (simp only [go_sem, F]; done))) (fun h2 k2 => Zf7 G hG i (rdN s2).2 h2 k2 hoB hlB) ?_)
       | refine g ?_
       | refine Two.mk (fun hq => ?_) fun hq => ?_
       | (with_reducible refine Y7 ?_; first | refine gc rfl rfl rfl Yd1 (Zf7 G hG i s2 _ (g1 _ _) hoA hlA) ?_ | refine gc rfl rfl rfl Zy3 (Zb0 G hG i s2 _ (g1 _ _) hoA hlA) ?_)
      rotate_left
      · skip
        refine ⟨rfl, (Y6 s').1 - (acc2 ++ [(Tk.mk ((rdN s2).1 : Nat) ((rdN (rdN s2).2).1 : Nat))]).length, by simp; omega, acc2 ++ [(Tk.mk ((rdN s2).1 : Nat) ((rdN (rdN s2).2).1 : Nat))], (rdN (rdN s2).2).2, tx, T2.set tx (.cells [.buf (h.length + (T2.length + 1 + 3)) 1, nm]) ++ [.buf 99 2 [tkX (Tk.mk ((rdN s2).1 : Nat) ((rdN (rdN s2).2).1 : Nat))], .buf 99 2 [tkX (Tk.mk ((rdN s2).1 : Nat) ((rdN (rdN s2).2).1 : Nat))]], (.buf (h.length + (T2.length + 1 + 3)) 1), nm, by simp; omega, rfl, LoopAt.next (f := Jm) hLp2 (by omega) (by omega), hoC, hdC, (hEB.set hx (by simp)).app, .inr ⟨T2.length + 1, by simp [hc2], by simp [hc2]⟩, by rw [Z0 (by simpa using hltx), Z1 hltx], ?_, by simp only [go_sem, g1, g2, e0, e4, e5, e8, e9, e10, e11, e12, wa, wb, hx, hltx], by simp only [go_sem, g1, g2, e0, e4, e5, e8, e9, e10, e11, e12, wa, wb, hx, hltx], by simp only [go_sem, g1, g2, e0, e4, e5, e8, e9, e10, e11, e12, wa, wb, hx, hltx], by simp only [go_sem, g1, g2, e0, e4, e5, e8, e9, e10, e11, e12, wa, wb, hx, hltx], by simp only [go_sem, g1, g2, e0, e4, e5, e8, e9, e10, e11, e12, wa, wb, hx, hltx], by simp only [go_sem, g1, g2, e0, e4, e5, e8, e9, e10, e11, e12, wa, wb, hx, hltx], by simp only [go_sem, g1, g2, e0, e4, e5, e8, e9, e10, e11, e12, wa, wb, hx, hltx], by simp only [go_sem, g1, g2, e0, e4, e5, e8, e9, e10, e11, e12, wa, wb, hx, hltx]; simp⟩
        simp only [go_sem, g1, g2, e0, e4, e5, e8, e9, e10, e11, e12, wa, wb, hx, hltx, tkX]
        try rfl
      all_goals
        have hC := hLp2.stop (by omega)
        rcases hEB with ⟨hac, rfl⟩ | ⟨te, hte, rfl⟩
        · skip
          have F : _ ∧ _ ∧ _ ∧ _ ∧ _ ∧ _ ∧ _ ∧ _ ∧ _ ∧ _ ∧ _ ∧ _ ∧ _ ∧ _ := ⟨g1, g2, e0, e4, e5, e8, e9, e10, e11, e12, wa, wb, hx, hltx⟩
          repeat' first
           | (with_reducible refine Y7 ?_; refine ao_appNB rfl rfl rfl rfl (by simp only [go_sem, F]; rfl) (by (simp only [go_sem, F]; rfl)) (by simp) (by (simp [Yz, D.one, Value.oneCell']; done)) (by (simp; done)) ?_)
           | refine g0 ?_
           | fail
          have hc3 : acc2.map tkX = [] := by simp [hc2]
          refine ⟨rfl, (Y6 s).1 - (acc ++ [(En.mk acc2 (Y9 s2).1)]).length, by simp; omega, acc ++ [(En.mk acc2 (Y9 s2).1)], (Y9 s2).2, B, T2.set tx (.cells [.v (.slice none 0 0), .v (.string (Y9 s2).1)]) ++ [.buf 43 2 [enX (En.mk acc2 (Y9 s2).1)], .buf 43 2 [enX (En.mk acc2 (Y9 s2).1)]], (.buf (h.length + (T2.length + 1 + 3)) 1), by simp; omega, rfl, by have := LoopAt.next hLp (by omega) (by omega); rw [Zf0 hC] at this; exact this, (Xd hoA).1, (Xd hoA).2.trans hdA, .inr ⟨T2.length + 1, by simp [hac], by simp [hac]⟩, ?_, by simp only [go_sem, g1, g2, e0, e4, e5, e8, e9, e10, e11, e12, wa, wb, hx, hltx], by simp only [go_sem, g1, g2, e0, e4, e5, e8, e9, e10, e11, e12, wa, wb, hx, hltx], by simp only [go_sem, g1, g2, e0, e4, e5, e8, e9, e10, e11, e12, wa, wb, hx, hltx], by simp only [go_sem, g1, g2, e0, e4, e5, e8, e9, e10, e11, e12, wa, wb, hx, hltx], by simp only [go_sem, g1, g2, e0, e4, e5, e8, e9, e10, e11, e12, wa, wb, hx, hltx]; simp⟩
          simp only [go_sem, g1, g2, e0, e4, e5, e8, e9, e10, e11, e12, wa, wb, hx, hltx, enX, hc3]
          try rfl
        · skip
          have hlte := (Z2.1 hte).1
          have hne3 : te ≠ tx := fun q => by subst q; rw [hx] at hte; cases hte
          have hne4 : tx ≠ te := Ne.symm hne3
          have F : _ ∧ _ ∧ _ ∧ _ ∧ _ ∧ _ ∧ _ ∧ _ ∧ _ ∧ _ ∧ _ ∧ _ ∧ _ ∧ _ ∧ _ ∧ _ ∧ _ ∧ _ := ⟨g1, g2, e0, e4, e5, e8, e9, e10, e11, e12, wa, wb, hx, hltx, hte, hlte, hne3, hne4⟩
          repeat' first
           | (with_reducible refine Y7 ?_; refine Wi rfl rfl rfl rfl (by (first | assumption | (simp only [go_sem, F]; rfl))) (by simp) (by simp only [go_sem, F]; rfl) (by (first | assumption | (simp only [go_sem, F]; rfl))) (by simp) (by (simp [Yz, D.one, Value.oneCell']; done)) (by (simp; omega)) ?_)
           | refine g0 ?_
           | fail
          have hc3 : acc2.map tkX = [] := by simp [hc2]
          refine ⟨rfl, (Y6 s).1 - (acc ++ [(En.mk acc2 (Y9 s2).1)]).length, by simp; omega, acc ++ [(En.mk acc2 (Y9 s2).1)], (Y9 s2).2, B, (T2.set tx (.cells [.v (.slice none 0 0), .v (.string (Y9 s2).1)])).set te (.buf 43 2 ((acc ++ [(En.mk acc2 (Y9 s2).1)]).map enX)) ++ [.buf 43 2 [enX (En.mk acc2 (Y9 s2).1)]], (.buf (h.length + (te + 3)) (acc ++ [(En.mk acc2 (Y9 s2).1)]).length), by simp; omega, rfl, by have := LoopAt.next hLp (by omega) (by omega); rw [Zf0 hC] at this; exact this, (Xd hoA).1, (Xd hoA).2.trans hdA, .inr ⟨te, by rw [Z0 (by simpa using hlte), Z1 (by simpa using hlte)], rfl⟩, ?_, by simp only [go_sem, g1, g2, e0, e4, e5, e8, e9, e10, e11, e12, wa, wb, hx, hltx], by simp only [go_sem, g1, g2, e0, e4, e5, e8, e9, e10, e11, e12, wa, wb, hx, hltx], by simp only [go_sem, g1, g2, e0, e4, e5, e8, e9, e10, e11, e12, wa, wb, hx, hltx], by simp only [go_sem, g1, g2, e0, e4, e5, e8, e9, e10, e11, e12, wa, wb, hx, hltx], by simp only [go_sem, g1, g2, e0, e4, e5, e8, e9, e10, e11, e12, wa, wb, hx, hltx]; simp⟩
          simp only [go_sem, g1, g2, e0, e4, e5, e8, e9, e10, e11, e12, wa, wb, hx, hltx, hte, hlte, hne3, hne4, enX, hc3]
          try rfl
    · skip
      have hltc := (Z2.1 htc).1
      have hne1 : tc ≠ tx := fun q => by subst q; rw [hx] at htc; cases htc
      have hne2 : tx ≠ tc := Ne.symm hne1
      have F : _ ∧ _ ∧ _ ∧ _ ∧ _ ∧ _ ∧ _ ∧ _ ∧ _ ∧ _ ∧ _ ∧ _ ∧ _ ∧ _ ∧ _ ∧ _ ∧ _ ∧ _ := ⟨g1, g2, e0, e4, e5, e8, e9, e10, e11, e12, wa, wb, hx, hltx, htc, hltc, hne1, hne2⟩
      repeat' first
       | (with_reducible refine Yj ?_; refine X7 mixd (by kernel_rfl) ?_)
       | (with_reducible refine Y7 ?_; (refine ao_gv (t := 114) (by (first | assumption | (simp only [go_sem, F]; rfl) | (simp only [go_sem, F]; done))) (by simp) ?_))
       | ((with_reducible refine Uc ?_); first | (refine aS1 rfl rfl fun K HK => ?_; (first | refine Yh rfl ?_ | skip); simp only [go_sem, F]; (first | refine X1 (fun hq => ?_) (fun hq => ?_) | skip) <;> (refine HK _ _ rfl ?_; clear HK K)) | refine Xg rfl rfl rfl (by (first | assumption | (simp only [go_sem, F]; rfl) | (simp only [go_sem, F]; done))) (by rw [getD_one (by simp only [go_sem, F])]; rfl) ?_ | refine V3 rfl rfl (by (first | assumption | (simp only [go_sem, F]; rfl) | (simp only [go_sem, F]; done))) rfl (by simp only [go_sem, F]) (by simp) ?_ | refine Vn rfl rfl (by simp only [litD, Xf, go_sem, Z6, Za, Zv, Zr, and_self, ↓reduceIte, Z4, Z8, Z5, Ze, Zf, Zg, Zi, Zh, g1, g2, e0, e4, e5, e8, e9, e10, e11, e12, wa, wb, Wz, hx, hltx, Z0, Zb, Z9, Z7, Z1, Zn, Zz, ne_eq, not_false_eq_true, htc, hltc, hne1, hne2]; rfl) ?_ | refine Ux rfl rfl rfl rfl (by (first | assumption | (simp only [go_sem, F]; rfl) | (simp only [go_sem, F]; done))) (by simp) (by simp only [go_sem, F]; rfl) (by (first | assumption | (simp only [go_sem, F]; rfl) | (simp only [go_sem, F]; done))) (by simp) (by (first | exact Yb3 _ | (simp [Yz, D.one, Value.oneCell']; done))) (by (first | (simp; done) | (simp; omega))) ?_ | refine V4 (by simp only [Zo, Zs, Zl, Zj, W5, chk1]; repeat' (first | exact trivial | refine Zt ?_ ?_ | exact .inr X2 | exact .inr X4 | exact .inr (Xi (by omega)) | exact .inr (Wu (by omega)) | (refine .inr ?_; simp [compat, Xw, Wa, Ws, nop] <;> omega) | exact .inl (by kernel_rfl))) ?_ | refine Xt rfl rfl rfl Yd1 (by (first | assumption | (simp only [go_sem, F]; rfl) | (simp only [go_sem, F]; done))) (fun h2 k2 => Zf7 G hG i (rdN s2).2 h2 k2 hoB hlB) ?_)
       | refine g ?_
       | refine Two.mk (fun hq => ?_) fun hq => ?_
       | (with_reducible refine Y7 ?_; first | refine gc rfl rfl rfl Yd1 (Zf7 G hG i s2 _ (g1 _ _) hoA hlA) ?_ | refine gc rfl rfl rfl Zy3 (Zb0 G hG i s2 _ (g1 _ _) hoA hlA) ?_)
      rotate_left
      · skip
        refine ⟨rfl, (Y6 s').1 - (acc2 ++ [(Tk.mk ((rdN s2).1 : Nat) ((rdN (rdN s2).2).1 : Nat))]).length, by simp; omega, acc2 ++ [(Tk.mk ((rdN s2).1 : Nat) ((rdN (rdN s2).2).1 : Nat))], (rdN (rdN s2).2).2, tx, (T2.set tc (.buf 99 2 ((acc2 ++ [(Tk.mk ((rdN s2).1 : Nat) ((rdN (rdN s2).2).1 : Nat))]).map tkX))).set tx (.cells [.buf (h.length + (tc + 3)) (acc2 ++ [(Tk.mk ((rdN s2).1 : Nat) ((rdN (rdN s2).2).1 : Nat))]).length, nm]) ++ [.buf 99 2 [tkX (Tk.mk ((rdN s2).1 : Nat) ((rdN (rdN s2).2).1 : Nat))]], (.buf (h.length + (tc + 3)) (acc2 ++ [(Tk.mk ((rdN s2).1 : Nat) ((rdN (rdN s2).2).1 : Nat))]).length), nm, by simp; omega, rfl, LoopAt.next (f := Jm) hLp2 (by omega) (by omega), hoC, hdC, ((hEB.set htc (by simp)).set (get_set hx htc (by simp)) (by simp)).app, .inr ⟨tc, by rw [Z0 (by simpa using hltc), Z7 hne2, Z1 hltc], rfl⟩, by rw [Z0 (by simpa using hltx), Z1 (by simpa using hltx)], ?_, by simp only [go_sem, g1, g2, e0, e4, e5, e8, e9, e10, e11, e12, wa, wb, hx, hltx], by simp only [go_sem, g1, g2, e0, e4, e5, e8, e9, e10, e11, e12, wa, wb, hx, hltx], by simp only [go_sem, g1, g2, e0, e4, e5, e8, e9, e10, e11, e12, wa, wb, hx, hltx], by simp only [go_sem, g1, g2, e0, e4, e5, e8, e9, e10, e11, e12, wa, wb, hx, hltx], by simp only [go_sem, g1, g2, e0, e4, e5, e8, e9, e10, e11, e12, wa, wb, hx, hltx], by simp only [go_sem, g1, g2, e0, e4, e5, e8, e9, e10, e11, e12, wa, wb, hx, hltx], by simp only [go_sem, g1, g2, e0, e4, e5, e8, e9, e10, e11, e12, wa, wb, hx, hltx], by simp only [go_sem, g1, g2, e0, e4, e5, e8, e9, e10, e11, e12, wa, wb, hx, hltx]; simp⟩
        simp only [go_sem, g1, g2, e0, e4, e5, e8, e9, e10, e11, e12, wa, wb, hx, hltx, htc, hltc, hne1, hne2, tkX]
        try rfl
      all_goals
        have hC := hLp2.stop (by omega)
        rcases hEB with ⟨hac, rfl⟩ | ⟨te, hte, rfl⟩
        · skip
          have F : _ ∧ _ ∧ _ ∧ _ ∧ _ ∧ _ ∧ _ ∧ _ ∧ _ ∧ _ ∧ _ ∧ _ ∧ _ ∧ _ ∧ _ ∧ _ ∧ _ ∧ _ := ⟨g1, g2, e0, e4, e5, e8, e9, e10, e11, e12, wa, wb, hx, hltx, htc, hltc, hne1, hne2⟩
          repeat' first
           | (with_reducible refine Y7 ?_; refine ao_appNB rfl rfl rfl rfl (by simp only [go_sem, F]; rfl) (by (first | assumption | (simp only [go_sem, F]; rfl))) (by simp) (by (simp [Yz, D.one, Value.oneCell']; done)) (by (simp; done)) ?_)
           | refine g0 ?_
           | fail
          refine ⟨rfl, (Y6 s).1 - (acc ++ [(En.mk acc2 (Y9 s2).1)]).length, by simp; omega, acc ++ [(En.mk acc2 (Y9 s2).1)], (Y9 s2).2, B, (T2.set tx (.cells [.buf (h.length + (tc + 3)) acc2.length, .v (.string (Y9 s2).1)])).set tc .dead ++ [.buf 43 2 [enX (En.mk acc2 (Y9 s2).1)], .buf 43 2 [enX (En.mk acc2 (Y9 s2).1)]], (.buf (h.length + (T2.length + 1 + 3)) 1), by simp; omega, rfl, by have := LoopAt.next hLp (by omega) (by omega); rw [Zf0 hC] at this; exact this, (Xd hoA).1, (Xd hoA).2.trans hdA, .inr ⟨T2.length + 1, by simp [hac], by simp [hac]⟩, ?_, by simp only [go_sem, g1, g2, e0, e4, e5, e8, e9, e10, e11, e12, wa, wb, hx, hltx], by simp only [go_sem, g1, g2, e0, e4, e5, e8, e9, e10, e11, e12, wa, wb, hx, hltx], by simp only [go_sem, g1, g2, e0, e4, e5, e8, e9, e10, e11, e12, wa, wb, hx, hltx], by simp only [go_sem, g1, g2, e0, e4, e5, e8, e9, e10, e11, e12, wa, wb, hx, hltx], by simp only [go_sem, g1, g2, e0, e4, e5, e8, e9, e10, e11, e12, wa, wb, hx, hltx]; simp⟩
          simp only [go_sem, g1, g2, e0, e4, e5, e8, e9, e10, e11, e12, wa, wb, hx, hltx, htc, hltc, hne1, hne2, enX]
          try rfl
        · skip
          have hlte := (Z2.1 hte).1
          have hne3 : te ≠ tx := fun q => by subst q; rw [hx] at hte; cases hte
          have hne4 : tx ≠ te := Ne.symm hne3
          have hne5 : te ≠ tc := fun q => by subst q; rw [htc] at hte; cases hte
          have hne6 : tc ≠ te := Ne.symm hne5
          have F : _ ∧ _ ∧ _ ∧ _ ∧ _ ∧ _ ∧ _ ∧ _ ∧ _ ∧ _ ∧ _ ∧ _ ∧ _ ∧ _ ∧ _ ∧ _ ∧ _ ∧ _ ∧ _ ∧ _ ∧ _ ∧ _ ∧ _ ∧ _ := ⟨g1, g2, e0, e4, e5, e8, e9, e10, e11, e12, wa, wb, hx, hltx, htc, hltc, hne1, hne2, hte, hlte, hne3, hne4, hne5, hne6⟩
          repeat' first
           | (with_reducible refine Y7 ?_; refine Wi rfl rfl rfl rfl (by (first | assumption | (simp only [go_sem, F]; rfl))) (by simp) (by simp only [go_sem, F]; rfl) (by (first | assumption | (simp only [go_sem, F]; rfl))) (by simp) (by (simp [Yz, D.one, Value.oneCell']; done)) (by (simp; omega)) ?_)
           | refine g0 ?_
           | fail
          refine ⟨rfl, (Y6 s).1 - (acc ++ [(En.mk acc2 (Y9 s2).1)]).length, by simp; omega, acc ++ [(En.mk acc2 (Y9 s2).1)], (Y9 s2).2, B, ((T2.set tx (.cells [.buf (h.length + (tc + 3)) acc2.length, .v (.string (Y9 s2).1)])).set tc .dead).set te (.buf 43 2 ((acc ++ [(En.mk acc2 (Y9 s2).1)]).map enX)) ++ [.buf 43 2 [enX (En.mk acc2 (Y9 s2).1)]], (.buf (h.length + (te + 3)) (acc ++ [(En.mk acc2 (Y9 s2).1)]).length), by simp; omega, rfl, by have := LoopAt.next hLp (by omega) (by omega); rw [Zf0 hC] at this; exact this, (Xd hoA).1, (Xd hoA).2.trans hdA, .inr ⟨te, by rw [Z0 (by simpa using hlte), Z1 (by simpa using hlte)], rfl⟩, ?_, by simp only [go_sem, g1, g2, e0, e4, e5, e8, e9, e10, e11, e12, wa, wb, hx, hltx], by simp only [go_sem, g1, g2, e0, e4, e5, e8, e9, e10, e11, e12, wa, wb, hx, hltx], by simp only [go_sem, g1, g2, e0, e4, e5, e8, e9, e10, e11, e12, wa, wb, hx, hltx], by simp only [go_sem, g1, g2, e0, e4, e5, e8, e9, e10, e11, e12, wa, wb, hx, hltx], by simp only [go_sem, g1, g2, e0, e4, e5, e8, e9, e10, e11, e12, wa, wb, hx, hltx]; simp⟩
          simp only [go_sem, g1, g2, e0, e4, e5, e8, e9, e10, e11, e12, wa, wb, hx, hltx, htc, hltc, hne1, hne2, hte, hlte, hne3, hne4, hne5, hne6, enX]
          try rfl
  all_goals
    obtain rfl := hLp.stop (by omega)
    rcases hEB with ⟨hac, rfl⟩ | ⟨t, ht, rfl⟩
    · subst hac
      have F : _ ∧ _ ∧ _ ∧ _ ∧ _ ∧ _ ∧ _ ∧ _ := ⟨g1, g2, e0, e4, e5, e8, e9, wa⟩
      repeat' first
       | refine g ?_
       | fail
      exact ⟨by simp, endS (i := i) (ob := inOb s') (ds := [.agg [.v (.int .i64 0), .v (.slice none 0 0), .v (.slice none 0 0), .v (.slice none 0 0)]]) (r := .agg [.v (.int .i64 0), .v (.slice none 0 0), .v (.slice none 0 0), .v (.slice none 0 0)]) hl0 (Xe _ _) (by simp only [resD, Tryz.results56, go_sem, ↓reduceIte, Z4, Z8, Z5, go_sem, Z3, e4]) (by first | exact Yc | exact Yd | (simp only [Yd, Yc, g4]; done)) (by simp; try omega) (by simp [outD, cvD, cv1, go_sem, Z3, e4]) (by rw [low]; repeat' first | exact trivial | exact Yv _ _ | exact Wq _ _ | exact Xr _ _ | (rw [lowL]; refine Zt ?_ ?_) | (rw [lowL]; done) | (simp [low, lowL, lowR, strX]; done)) ⟨_, ⟨rfl, rfl⟩, V5 (Y8 (Ys _) (Y8 Ye (Y8 Ye (Y8 Ye Xl))))⟩⟩
    · skip
      have F : _ ∧ _ ∧ _ ∧ _ ∧ _ ∧ _ ∧ _ ∧ _ := ⟨g1, g2, e0, e4, e5, e8, e9, wa⟩
      repeat' first
       | refine g ?_
       | fail
      exact ⟨by simp, endS (i := i) (ob := inOb s') (ds := [.agg [.v (.int .i64 0), .v (.slice none 0 0), .v (.slice none 0 0), .buf (h.length + (t + 3)) acc.length]]) (r := .agg [.v (.int .i64 0), .v (.slice none 0 0), .v (.slice none 0 0), .sl 2 (acc.map enX)]) hl0 (Xe _ _) (by simp only [resD, Tryz.results56, go_sem, ↓reduceIte, Z4, Z8, Z5, go_sem, Z3, e4, ht]) (by first | exact Yc | exact Yd | (simp only [Yd, Yc, g4]; done)) (by simp; try omega) (by simp [outD, cvD, cv1, go_sem, Z3, e4, ht]) (by rw [low]; repeat' first | exact trivial | exact Yv _ _ | exact Wq _ _ | exact Xr _ _ | (rw [lowL]; refine Zt ?_ ?_) | (rw [lowL]; done) | (simp [low, lowL, lowR, strX]; done)) ⟨_, ⟨rfl, rfl⟩, V5 (Y8 (Ys _) (Y8 Ye (Y8 Ye (Y8 (Ys _) Xl))))⟩⟩
end
section
theorem takeW_1 {lo hi : Int} {ns : List ByteArray} {ps : List Lat} {rs : List Rl} (s : RS) : Yg (.mk 1 lo hi ns ps rs) s = (.mk (if (Yx s).1 then 1 else 0) [] [] [], (Yx s).2) := takeV_1 s
theorem Ye9 {k lo hi : Int} {ns : List ByteArray} {ps : List Lat} {rs : List Rl} (hk : k = 2 ∨ k = 3) (s : RS) : Yg (.mk k lo hi ns ps rs) s = (.mk (Wy s).1 [] [] [], (Wy s).2) := Yf1 hk s
theorem Zt9 {k lo hi : Int} {ns : List ByteArray} {ps : List Lat} {rs : List Rl} (hk : k = 4 ∨ k = 10) (s : RS) : Yg (.mk k lo hi ns ps rs) s = (.mk 0 (Vx Y9 s).1 [] [], (Vx Y9 s).2) := Zu0 hk s
theorem takeW_5 {lo hi : Int} {ns : List ByteArray} {p : Lat} {rs : List Rl} (s : RS) : Yg (.mk 5 lo hi ns [p] rs) s = (.mk 0 ((Vx (Xn (Yg p)) s).1.map Y2) ((Vx (Xn (Yg p)) s).1.map Zx) [], (Vx (Xn (Yg p)) s).2) := takeV_5 s
theorem Zt8 {lo hi : Int} {ns : List ByteArray} {ps : List Lat} {rs : List Rl} (s : RS) : Yg (.mk 8 lo hi ns ps rs) s = if (Yp 9223372036854775807 s).1 = 1 then (.mk 1 [(Y9 (Yp 9223372036854775807 s).2).1] [] [], (Y9 (Yp 9223372036854775807 s).2).2) else (.mk ((Yp 9223372036854775807 s).1 : Nat) [] [] [], (Yp 9223372036854775807 s).2) := takeV_8 s
theorem takeW_9 {lo hi : Int} {ns : List ByteArray} {ps : List Lat} {rs : List Rl} (s : RS) : Yg (.mk 9 lo hi ns ps rs) s = (.mk 0 [] [] (Vx Wn s).1, (Vx Wn s).2) := takeV_9 s
theorem Ye8 {k lo hi : Int} {ns : List ByteArray} {ps : List Lat} {rs : List Rl} (hk : k = 6 ∨ k = 7) (s : RS) : Yg (.mk k lo hi ns ps rs) s = (.mk 0 [] (Ym ps s).1 [], (Ym ps s).2) := Yf0 hk s
theorem Ze9 : Tks Jm fun t => Yy t.process.toNat ++ Yy t.n.toNat := ⟨fun s h => by
    obtain ⟨h1, h2⟩ := Xb 9223372036854775807 h
    obtain ⟨h3, h4⟩ := Xb 9223372036854775807 h1
    exact ⟨h3, h4.trans h2⟩, fun s h he => by
    obtain ⟨h1, h2⟩ := Xb 9223372036854775807 h
    have t2 := Wl 9223372036854775807 h1 he
    exact (Wl 9223372036854775807 h t2.err.1).trans t2⟩
theorem Zh0 : Tks Wn Wt := ⟨fun s h => by
    obtain ⟨h1, h2⟩ := (Wb Ze9).ok s h
    obtain ⟨h3, h4⟩ := Xy.ok _ h1
    exact ⟨h3, h4.trans h2⟩, fun s h he => by
    obtain ⟨h1, h2⟩ := (Wb Ze9).ok s h
    have t2 := Xy.took _ h1 he
    have t1 := (Wb Ze9).took s h t2.err.1
    have t := t1.trans t2
    unfold Wt
    rw [Zc4, ← Zp]
    exact t⟩
theorem Zc5 : ∀ (ps : List Lat), (∀ p ∈ ps, ∀ s, s.Ok → (Yg p s).2.Ok ∧ (Yg p s).2.data = s.data) → ∀ s : RS, s.Ok → (Ym ps s).2.Ok ∧ (Ym ps s).2.data = s.data
 | [], _, s, h => by rw [Ym]; exact ⟨h, rfl⟩
 | p :: t, H, s, h => by
   rw [Ym]
   split
   · obtain ⟨h1, h2⟩ := H p (by simp) s h
     obtain ⟨h3, h4⟩ := Zc5 t (fun q hq => H q (by simp [hq])) _ h1
     exact ⟨h3, h4.trans h2⟩
   · exact ⟨h, rfl⟩
theorem Zg4 : ∀ (ps : List Lat), (∀ p ∈ ps, Tks (Yg p) (putV p)) → ∀ s : RS, s.Ok → (Ym ps s).2.err = 0 → Took s (Ym ps s).2 (Jr ps (Ym ps s).1) ∧ (Ym ps s).1.length = ps.length
 | [], _, s, h, he => by rw [Ym] at he ⊢; exact ⟨by rw [Jr]; exact Took.refl he, rfl⟩
 | p :: t, H, s, h, he => by
   rw [Ym] at he ⊢
   by_cases h0 : s.err = 0
   · rw [if_pos h0] at he ⊢
     obtain ⟨h1, h2⟩ := (H p (by simp)).ok s h
     obtain ⟨h3, h4⟩ := Zg4 t (fun q hq => H q (by simp [hq])) _ h1 he
     refine ⟨?_, by simp only [Z6, h4]⟩
     rw [Jr]
     exact ((H p (by simp)).took s h h3.err.1).trans h3
   · rw [if_neg h0] at he; exact absurd he h0
theorem Zq9 (f : Nat) : ∀ l : Lat, SizeOf.sizeOf l ≤ f → WfL l → Tks (Yg l) (putV l) := by
 induction f with
 | zero => intro l hn; cases l; simp at hn
 | succ f ih =>
   intro l hn hwf
   have hk := hwf.kinds
   have hp : ∀ p ∈ l.parts, Tks (Yg p) (putV p) := fun p hp => ih p (by have := Wj hp; omega) (hwf.part hp)
   obtain ⟨k, lo, hi, ns, ps, rs⟩ := l
   simp only [Lat.kind, Lat.lo, Lat.hi, Lat.names, Lat.parts, Lat.rules] at hk hp
   rcases Vc hk.1 with rfl | e | e | rfl | e | rfl | rfl
   · refine ⟨fun s h => ?_, fun s h he => ?_⟩
     · rw [takeW_1]; exact rdBool_ok h
     · rw [takeW_1] at he ⊢
       have := Zv5 h he
       rw [putV_1]
       simp only [Val.n]
       cases hb : (Yx s).1 <;> rw [hb] at this <;> exact this
   · refine ⟨fun s h => ?_, fun s h he => ?_⟩
     · rw [Ye9 e]; exact ⟨(Zs1 h).1, (Zs1 h).2.1⟩
     · rw [Ye9 e] at he ⊢
       rw [Zw4 e]
       exact Yc0 h he
   · refine ⟨fun s h => ?_, fun s h he => ?_⟩
     · rw [Zt9 e]; exact (Wb Xy).ok s h
     · rw [Zt9 e] at he ⊢
       rw [Zk8 e]
       exact (Wb Xy).took s h he
   · obtain ⟨p, rfl⟩ := Zc.1 (hk.2.1 rfl)
     have hq := Wb (Zr1 (hp p (by simp)))
     refine ⟨fun s h => ?_, fun s h he => ?_⟩
     · rw [takeW_5]; exact hq.ok s h
     · rw [takeW_5] at he ⊢
       rw [putV_5]
       simp only [Val.names, Val.parts, zip_map, Z3]
       exact hq.took s h he
   · refine ⟨fun s h => ?_, fun s h he => ?_⟩
     · rw [Ye8 e]; exact Zc5 ps (fun p hpm => (hp p hpm).ok) s h
     · rw [Ye8 e] at he ⊢
       rw [Zw3 e]
       exact (Zg4 ps hp s h he).1
   · refine ⟨fun s h => ?_, fun s h he => ?_⟩
     · rw [Zt8]
       obtain ⟨h1, h2⟩ := Xb 9223372036854775807 h
       split
       · obtain ⟨h3, h4⟩ := Xy.ok _ h1
         exact ⟨h3, h4.trans h2⟩
       · exact ⟨h1, h2⟩
     · rw [Zt8] at he ⊢
       obtain ⟨h1, h2⟩ := Xb 9223372036854775807 h
       rw [putV_8]
       by_cases h8 : (Yp 9223372036854775807 s).1 = 1
       · rw [if_pos h8] at he ⊢
         simp only [Val.n, Val.names, if_true, List.headD_cons]
         have t2 := Xy.took _ h1 he
         have t1 := Wl 9223372036854775807 h t2.err.1
         rw [h8] at t1
         exact t1.trans t2
       · rw [if_neg h8] at he ⊢
         rw [show (if (Val.mk ((Yp 9223372036854775807 s).1 : Nat) [] [] []).n = 1 then Xq ((Val.mk ((Yp 9223372036854775807 s).1 : Nat) [] [] []).names.headD Y0) else []) = [] from if_neg (by show ¬ (((Yp 9223372036854775807 s).1 : Nat) : Int) = 1; omega), Zm]
         exact Wl 9223372036854775807 h he
   · refine ⟨fun s h => ?_, fun s h he => ?_⟩
     · rw [takeW_9]; exact (Wb Zh0).ok s h
     · rw [takeW_9] at he ⊢
       rw [putV_9]
       exact (Wb Zh0).took s h he
theorem rds_tkTick {t : Tk} (h1 : 0 ≤ t.process ∧ t.process ≤ 63) (h2 : 0 ≤ t.n ∧ t.n ≤ 1000000000000000) : Rds Jm t (Yy t.process.toNat ++ Yy t.n.toNat) :=
 (Vk (m := 9223372036854775807) (n := t.process.toNat) (by omega) (by decide)).bind (Vk (m := 9223372036854775807) (n := t.n.toNat) (by omega) (by decide)) fun s s' s'' e1 e2 => by
   unfold Jm rdN
   rw [e1, e2]
   obtain ⟨p, n⟩ := t
   simp only at h1 h2 ⊢
   rw [Int.toNat_of_nonneg h1.1, Int.toNat_of_nonneg h2.1]
theorem rds_tkEntry {e : En} (h : Xk e.clock = true) : Rds Wn e (Wt e) := by
 unfold Wt
 rw [Zc4, ← Zp]
 refine (J4 (f := Jm) (fun t => by rw [Zw]; have := Jl t.process.toNat; omega) e.clock fun t ht => ?_).bind (J3 e.name) fun s s' s'' e1 e2 => ?_
 · obtain ⟨a, b⟩ := Un (-1) e.clock (by omega) h t ht
   exact rds_tkTick a b
 · unfold Wn
   rw [show Zn4 s = (e.clock, s') from e1, e2]
theorem Zk6 : ∀ (ps : List Lat) (vs : List Val), vs.length = ps.length → Vm ps vs = true → (∀ p ∈ ps, ∀ v, Yt p v = true → Rds (Yg p) v (putV p v)) → Rds (Ym ps) vs (Jr ps vs)
 | [], [], _, _, _ => fun s r ho he hl hr => ⟨s, by rw [Ym], ho, by rw [Jr]; exact Took.refl he⟩
 | [], _ :: _, h, _, _ => by simp at h
 | _ :: _, [], h, _, _ => by simp at h
 | p :: ps, v :: vs, hl, he, H => fun s r ho he0 hl0 hr => by
   rw [Vm, Bool.and_eq_true] at he
   rw [Jr, Zp] at hr
   obtain ⟨s', h1, h2, h3⟩ := H p (by simp) v he.1 s _ ho he0 hl0 hr
   obtain ⟨s'', h4, h5, h6⟩ := Zk6 ps vs (by simpa using hl) he.2 (fun q hq => H q (by simp [hq])) s' r h2 h3.err.2 (by rw [Ye7 h3]; exact hl0) (Zj3 h3 hr)
   exact ⟨s'', by rw [Ym, if_pos he0, h1, h4], h5, by rw [Jr]; exact h3.trans h6⟩
theorem rds_take (f : Nat) : ∀ (l : Lat) (v : Val), SizeOf.sizeOf l ≤ f → WfL l → Yt l v = true → Rds (Yg l) v (putV l v) := by
 induction f with
 | zero => intro l v hn; cases l; simp at hn
 | succ f ih =>
   intro l v hn hwf hel
   have hk := hwf.kinds
   have hrg : ¬ _ := of_decide_eq_false hwf.ranges
   have hp : ∀ p ∈ l.parts, ∀ v, Yt p v = true → Rds (Yg p) v (putV p v) := fun p hp v => ih p v (by have := Wj hp; omega) (hwf.part hp)
   obtain ⟨k, lo, hi, ns, ps, rs⟩ := l
   simp only [Lat.kind, Lat.lo, Lat.hi, Lat.names, Lat.parts, Lat.rules] at hk hp hrg
   rcases Vc hk.1 with rfl | e | e | rfl | e | rfl | rfl
   · have hu := isE_1.1 hel
     obtain ⟨vn, vns, vps, ves⟩ := v
     simp only [Val.n, Val.names, Val.parts, Val.entries] at hu
     obtain ⟨hn, rfl, rfl, rfl⟩ := hu
     rw [putV_1]
     intro s r ho he hl hr
     obtain ⟨s', h1, h2⟩ := rds_bool _ s r ho he hl hr
     refine ⟨s', ?_, h2⟩
     rw [takeW_1, h1]
     rcases hn with rfl | rfl <;> rfl
   · have hu := (isE_23 e).1 hel
     obtain ⟨vn, vns, vps, ves⟩ := v
     simp only [Val.n, Val.names, Val.parts, Val.entries] at hu
     obtain ⟨hn, rfl, rfl, rfl⟩ := hu
     rw [Zw4 e]
     intro s r ho he hl hr
     obtain ⟨s', h1, h2⟩ := rds_int (n := vn) (by omega) s r ho he hl hr
     refine ⟨s', ?_, h2⟩
     rw [Ye9 e, h1]
   · have hu := isE_410 e hel
     obtain ⟨vn, vns, vps, ves⟩ := v
     simp only [Val.n, Val.names, Val.parts, Val.entries] at hu
     obtain ⟨⟨rfl, rfl, rfl⟩, _⟩ := hu
     rw [Zk8 e]
     intro s r ho he hl hr
     obtain ⟨s', h1, h2⟩ := J4 (f := Y9) Zj5 vns (fun x _ => J3 x) s r ho he hl hr
     refine ⟨s', ?_, h2⟩
     rw [Zt9 e, h1]
   · have hu := isE_5.1 hel
     obtain ⟨vn, vns, vps, ves⟩ := v
     simp only [Val.n, Val.names, Val.parts, Val.entries] at hu
     obtain ⟨⟨rfl, rfl⟩, hlen, _, hm⟩ := hu
     obtain ⟨p, rfl⟩ := Zc.1 (hk.2.1 rfl)
     rw [mapB_one] at hm
     rw [putV_5]
     simp only [Val.names, Val.parts]
     have hz : (vns.zip vps).length = vns.length := by rw [List.length_zip]; omega
     intro s r ho he hl hr
     rw [← hz] at hr
     obtain ⟨s', h1, h2⟩ := J4 (f := Xn (Yg p)) (enc := fun x => Xq x.1 ++ putV p x.2) (fun x => by rw [Zw]; have := Zj5 x.1; omega) (vns.zip vps) (fun x hx => by
       obtain ⟨a, b⟩ := x
       have hb := (List.of_mem_zip hx).2
       exact (J3 a).bind (hp p (by simp) b (hm b hb).1) fun s s' s'' e1 e2 => by
         unfold Xn
         rw [e1, e2]) s r ho he hl hr
     rw [hz] at h2
     refine ⟨s', ?_, h2⟩
     rw [takeW_5, h1, List.map_fst_zip (by omega), List.map_snd_zip (by omega)]
   · have hu := (isE_67 e).1 hel
     obtain ⟨vn, vns, vps, ves⟩ := v
     simp only [Val.n, Val.names, Val.parts, Val.entries] at hu
     obtain ⟨⟨rfl, rfl, rfl⟩, hlen, hm⟩ := hu
     rw [Zw3 e]
     intro s r ho he hl hr
     obtain ⟨s', h1, h2⟩ := Zk6 ps vps hlen hm hp s r ho he hl hr
     refine ⟨s', ?_, h2⟩
     rw [Ye8 e, h1]
   · have hu := isE_8.1 hel
     obtain ⟨vn, vns, vps, ves⟩ := v
     simp only [Val.n, Val.names, Val.parts, Val.entries] at hu
     obtain ⟨rfl, rfl, hu⟩ := hu
     rw [putV_8]
     rcases hu with ⟨rfl, rfl⟩ | ⟨rfl, rfl⟩ | ⟨rfl, hlen, _⟩
     · rw [show (if (Val.mk 0 [] [] []).n = 1 then Xq ((Val.mk 0 [] [] []).names.headD Y0) else []) = [] from if_neg (by decide), Zm]
       intro s r ho he hl hr
       obtain ⟨s', h1, h2⟩ := Vk (m := 9223372036854775807) (n := 0) (by decide) (by decide) s r ho he hl hr
       exact ⟨s', by rw [Zt8, h1]; rfl, h2⟩
     · rw [show (if (Val.mk 2 [] [] []).n = 1 then Xq ((Val.mk 2 [] [] []).names.headD Y0) else []) = [] from if_neg (by decide), Zm]
       intro s r ho he hl hr
       obtain ⟨s', h1, h2⟩ := Vk (m := 9223372036854775807) (n := 2) (by decide) (by decide) s r ho he hl hr
       exact ⟨s', by rw [Zt8, h1]; rfl, h2⟩
     · obtain ⟨q, rfl⟩ := Zc.1 hlen
       exact (Vk (m := 9223372036854775807) (n := 1) (by decide) (by decide)).bind (J3 q) fun s s' s'' e1 e2 => by
         rw [Zt8, e1]
         show (if (1 : Nat) = 1 then _ else _) = _
         rw [if_pos rfl, e2]
   · have hu := isE_9.1 hel
     obtain ⟨vn, vns, vps, ves⟩ := v
     simp only [Val.n, Val.names, Val.parts, Val.entries] at hu
     obtain ⟨⟨rfl, rfl, rfl⟩, hreg⟩ := hu
     rw [putV_9]
     intro s r ho he hl hr
     obtain ⟨s', h1, h2⟩ := J4 (f := Wn) Zo5 ves (fun x hx => rds_tkEntry (Zk3 ves 0 ves hreg x hx).1) s r ho he hl hr
     refine ⟨s', ?_, h2⟩
     rw [takeW_9, h1]
def Vh (l : Lat) (b : List UInt8) : Val × Int :=
 if chkE l ≠ 0 then (Zg2, 1) else if (Yg l ⟨b, 0, 0, 0⟩).2.ends ≠ 0 ∨ Yt l (Yg l ⟨b, 0, 0, 0⟩).1 = false then (Zg2, 2) else ((Yg l ⟨b, 0, 0, 0⟩).1, 0)
theorem Zz3 {l : Lat} (hl : chkE l = 0) (b : List UInt8) (v : Val) (hb : b.length < 18446744073709551616) : Vh l b = (v, 0) ↔ Yt l v = true ∧ b = putV l v := by
 have hwf := Ze5 hl
 unfold Vh
 rw [if_neg (fun h => h hl)]
 constructor
 · intro h
   by_cases hc : (Yg l ⟨b, 0, 0, 0⟩).2.ends ≠ 0 ∨ Yt l (Yg l ⟨b, 0, 0, 0⟩).1 = false
   · rw [if_pos hc] at h
     injection h with _ h
     exact absurd h (by decide)
   · rw [if_neg hc] at h
     injection h with h _
     subst h
     have hel : Yt l (Yg l ⟨b, 0, 0, 0⟩).1 = true := by
      cases h : Yt l (Yg l ⟨b, 0, 0, 0⟩).1
      · exact absurd (.inr h) hc
      · rfl
     refine ⟨hel, ?_⟩
     have hends : (Yg l ⟨b, 0, 0, 0⟩).2.ends = 0 := Decidable.byContradiction fun h => hc (.inl h)
     unfold RS.ends at hends
     have hT := Zq9 _ l (Zn _) hwf
     obtain ⟨hok, hd⟩ := hT.ok _ (Ju b)
     by_cases h0 : (Yg l ⟨b, 0, 0, 0⟩).2.err = 0
     · have ht := hT.took _ (Ju b) h0
       have hnot : ¬ (Yg l ⟨b, 0, 0, 0⟩).2.pos < (Yg l ⟨b, 0, 0, 0⟩).2.data.length := fun h => by
         rw [if_pos ⟨h0, h⟩] at hends
         exact absurd hends (by decide)
       have hr := ht.read
       rw [show (Yg l ⟨b, 0, 0, 0⟩).2.data.drop (Yg l ⟨b, 0, 0, 0⟩).2.pos = [] from Zd (by omega), Zm] at hr
       exact hr
     · rw [if_neg (fun h => h0 h.1)] at hends
       exact absurd hends h0
 · rintro ⟨hel, rfl⟩
   obtain ⟨s', h1, h2, h3⟩ := rds_take _ l v (Zn _) hwf hel ⟨putV l v, 0, 0, 0⟩ [] (Ju _) rfl hb (by rw [Zm]; rfl)
   rw [h1]
   have hd := h3.data
   have hp := h3.pos
   simp only at hd hp ⊢
   have he : s'.ends = 0 := by
    unfold RS.ends
    rw [if_neg (by rw [hd, hp]; omega)]
    exact h3.err.2
   rw [if_neg (by rw [he, hel]; simp)]
theorem decodeR_eq (l : Lat) (b : List UInt8) (hb : b.length < 18446744073709551616) : Vh l b = Xv l b := by
 by_cases hc : chkE l = 0
 · have h1 : Vh l b = (Zg2, 2) ∨ ∃ v, Vh l b = (v, 0) := by
    unfold Vh; rw [if_neg (fun h => h hc)]; split
    · exact .inl rfl
    · exact .inr ⟨_, rfl⟩
   have h2 : Xv l b = (Zg2, 2) ∨ ∃ v, Xv l b = (v, 0) := by
    unfold Xv; rw [if_neg (fun h => h hc)]; split
    · exact .inl rfl
    · exact .inr ⟨_, rfl⟩
   rcases h2 with h2 | ⟨v, h2⟩
   · rcases h1 with h1 | ⟨v, h1⟩
     · rw [h1, h2]
     · have := (Zi5 hc b v hb).2 ((Zz3 hc b v hb).1 h1)
       rw [h1, this]
   · have := (Zz3 hc b v hb).2 ((Zi5 hc b v hb).1 h2)
     rw [h2, this]
 · unfold Vh Xv; rw [if_pos hc, if_pos hc]
end
section
theorem Zj6 : ∀ (ps : List Lat), (∀ p ∈ ps, Tks (Yg p) (putV p)) → (∀ p ∈ ps, ∀ s : RS, s.Ok → s.data.length ≤ 1000000 → VSm (Yg p s).1) → ∀ s : RS, s.Ok → s.data.length ≤ 1000000 → (Ym ps s).1.length ≤ ps.length ∧ ∀ x ∈ (Ym ps s).1, VSm x
 | [], _, _, s, _, _ => by simp [Ym]
 | p :: ps, ht, hv, s, ho, hl => by
  rw [Ym]
  by_cases he : s.err = 0
  · obtain ⟨o2, d2⟩ := (ht p (by simp)).ok s ho
    obtain ⟨h1, h2⟩ := Zj6 ps (fun q hq => ht q (by simp [hq])) (fun q hq => hv q (by simp [hq])) (Yg p s).2 o2 (by rw [d2]; exact hl)
    rw [if_pos he]
    refine ⟨by simp [h1], fun x hx => ?_⟩
    rcases List.mem_cons.1 hx with rfl | hx
    · exact hv p (by simp) s ho hl
    · exact h2 x hx
  · rw [if_neg he]; simp
section
variable {l : Lat} {s : RS}
theorem tk_1 (h : l.kind = 1) : Yg l s = (.mk (if (Yx s).1 then 1 else 0) [] [] [], (Yx s).2) := by cases l; simp only [Lat.kind] at h; subst h; exact takeV_1 s
theorem tk_23 (h : l.kind = 2 ∨ l.kind = 3) : Yg l s = (.mk (Wy s).1 [] [] [], (Wy s).2) := by cases l; exact Yf1 h s
theorem tk_410 (h : l.kind = 4 ∨ l.kind = 10) : Yg l s = (.mk 0 (Yi Y9 (Y6 s).1 (Y6 s).2).1 [] [], (Yi Y9 (Y6 s).1 (Y6 s).2).2) := by cases l; exact Zu0 h s
theorem tk_5 {p : Lat} (h : l.kind = 5) (hp : l.parts = [p]) : Yg l s = (.mk 0 ((Yi (Xn (Yg p)) (Y6 s).1 (Y6 s).2).1.map Y2) ((Yi (Xn (Yg p)) (Y6 s).1 (Y6 s).2).1.map Zx) [], (Yi (Xn (Yg p)) (Y6 s).1 (Y6 s).2).2) := by cases l; simp only [Lat.kind, Lat.parts] at h hp; subst h hp; exact takeV_5 s
theorem tk_8 (h : l.kind = 8) : Yg l s = if (rdN s).1 = 1 then (.mk 1 [(Y9 (rdN s).2).1] [] [], (Y9 (rdN s).2).2) else (.mk ((rdN s).1 : Nat) [] [] [], (rdN s).2) := by cases l; simp only [Lat.kind] at h; subst h; exact takeV_8 s
theorem tk_9 (h : l.kind = 9) : Yg l s = (.mk 0 [] [] (Yi Wn (Y6 s).1 (Y6 s).2).1, (Yi Wn (Y6 s).1 (Y6 s).2).2) := by cases l; simp only [Lat.kind] at h; subst h; exact takeV_9 s
theorem tk_67 (h : l.kind = 6 ∨ l.kind = 7) : Yg l s = (.mk 0 [] (Ym l.parts s).1 [], (Ym l.parts s).2) := by cases l; exact Yf0 h s
end
theorem take_smV (f : Nat) : ∀ l : Lat, SizeOf.sizeOf l ≤ f → WfL l → ∀ s : RS, s.Ok → s.data.length ≤ 1000000 → VSm (Yg l s).1 := by
 induction f with
 | zero => intro l hn; cases l; simp at hn
 | succ f ih =>
  intro l hn hwf s ho hl
  have hk := hwf.kinds
  have ip : ∀ p ∈ l.parts, ∀ s : RS, s.Ok → s.data.length ≤ 1000000 → VSm (Yg p s).1 := fun p hp => ih p (by have := Wj hp; omega) (hwf.part hp)
  have tp : ∀ p ∈ l.parts, Tks (Yg p) (putV p) := fun p hp => Zq9 _ p (Zn _) (hwf.part hp)
  obtain ⟨co, cl, cn⟩ := Zm6 ho hl
  rcases Vc hk.1 with e | e | e | e | e | e | e
  · rw [tk_1 e]; exact Uz _
  · rw [tk_23 e]; exact Uz _
  · rw [tk_410 e]
    have := Wp Y9 (Y6 s).1 (Y6 s).2
    exact Zc2 (by omega) (by simp) (by simp) (fun x hx => Vr Xy (p := fun x => x.size ≤ 9223372036854775807) (fun s h hl => Vs h hl) _ _ co cl x hx) (by simp) (by simp)
  · obtain ⟨p, hb⟩ := Zc.1 (hk.2.1 e)
    rw [tk_5 e hb]
    have hpm : p ∈ l.parts := by rw [hb]; simp
    have := Wp (Xn (Yg p)) (Y6 s).1 (Y6 s).2
    have hall : ∀ x ∈ (Yi (Xn (Yg p)) (Y6 s).1 (Y6 s).2).1, x.1.size ≤ 9223372036854775807 ∧ VSm x.2 := fun x hx => Vr (Zr1 (tp p hpm)) (p := fun x => x.1.size ≤ 9223372036854775807 ∧ VSm x.2) (fun s h hl => by
     obtain ⟨o2, d2⟩ := Xy.ok s h
     exact ⟨Vs h hl, ip p hpm _ o2 (by rw [d2]; exact hl)⟩) _ _ co cl x hx
    refine Zc2 (by rw [Z3]; omega) (by rw [Z3]; omega) (by simp) (fun x hx => ?_) (by simp) (fun x hx => ?_)
    · obtain ⟨y, hy, rfl⟩ := List.mem_map.1 hx; exact (hall y hy).1
    · obtain ⟨y, hy, rfl⟩ := List.mem_map.1 hx; exact (hall y hy).2
  · rw [tk_67 e]
    obtain ⟨h1, h2⟩ := Zj6 l.parts tp ip s ho hl
    have h67 : l.parts.length ≤ 8 := by rcases e with e | e; have := hk.2.2.2.1 e; omega; have := hk.2.2.1 e; omega
    exact Zc2 (by simp) (by omega) (by simp) (by simp) (by simp) h2
  · rw [tk_8 e]
    obtain ⟨o2, d2⟩ : (rdN s).2.Ok ∧ (rdN s).2.data = s.data := Xb 9223372036854775807 ho
    split
    · exact Zc2 (by simp) (by simp) (by simp) (fun x hx => by simp only [List.mem_singleton] at hx; subst hx; exact Vs o2 (by rw [d2]; exact hl)) (by simp) (by simp)
    · exact Uz _
  · rw [tk_9 e]
    have := Wp Wn (Y6 s).1 (Y6 s).2
    refine Zc2 (by simp) (by simp) (by omega) (by simp) (fun x hx => ?_) (by simp)
    exact Vr Zh0 (p := fun x : En => x.clock.length ≤ 9223372036854775807 ∧ x.name.size ≤ 9223372036854775807) (fun s h hl => by
     obtain ⟨o2, l2, n2⟩ := Zm6 h hl
     have hlen := Wp Jm (Y6 s).1 (Y6 s).2
     obtain ⟨o3, d3⟩ := J6 Ze9 (Y6 s).1 (Y6 s).2 o2
     exact ⟨show (Yi Jm (Y6 s).1 (Y6 s).2).1.length ≤ _ by omega, Vs (s := (Zn4 s).2) o3 (by show (Yi Jm (Y6 s).1 (Y6 s).2).2.data.length ≤ _; rw [d3]; exact l2)⟩) _ _ co cl x hx
end
section
attribute [local irreducible] on aOp
attribute [local go_sem] decide_true decide_false Bool.not_true Y1
attribute [local simp] byD_len
variable (G : Nat → D) (hG : ∀ g, low 0 (G g))
include hG
attribute [local go_sem] Bool.false_eq_true Zg Zh Zi Int.toNat_natCast Z3 Z8 Ze Z4 Z5 Zf gM_0 gM_app gM_l gM_len gM_sl Zf3 Uh
attribute [local go_sem ↓] reduceIte
theorem rNamed_d (l : Lat) (hsm : Sm l) (h : List Ob) : Does Tryz.prog G 147 h [.agg (latX l)] (fun h' r => h' = h ∧ r = .v (.bool (Zd4 l.kind l.names l.rules))) := by
 refine Yk G hG (V2 _ l) (by rw [low]; trivial) ?_ h
 clear h
 have hpl := hsm.parts
 have hnl := hsm.names
 have hrl := hsm.rules
 have htx := hsm.texts
 have hcd := hsm.conds
 have hri := rRising_d G hG l.names hnl htx
 refine Y5 Tryz.func147 rfl (Zq rfl) hG fun hl0 _ => ?_
 simp only [Tryz.ntmps147]
 by_cases h6 : l.kind = 6
 · have e0 : Zd4 l.kind l.names l.rules = nmGo true l.names 0 l.names := by unfold Zd4; rw [if_pos h6]
   rw [e0]
   have F : _ ∧ _ := ⟨Y4, h6⟩
   repeat' first
    | refine g0 ?_
    | fail
   refine Yn (fun m e h' => ∃ k : Nat, k ≤ l.names.length ∧ m = l.names.length - k ∧ nmGo true l.names 0 l.names = nmGo true l.names k (l.names.drop k) ∧ h' = [.cells (latX l)] ∧ e 1 = .ptr 0 0 ∧ e 3 = .v (.int .i64 k)) l.names.length ⟨0, Zu _, rfl, rfl, (by rw [Y4, h6]), rfl, rfl⟩ ?_
   rintro m e h' ⟨k, hk, rfl, ho, rfl, e1, e3⟩
   by_cases hlt : k < l.names.length
   · have hx : l.names[k]? = some l.names[k] := Zk hlt
     have wk : IntKind.i64.wrap ((k : Int) + 1) = (k : Int) + 1 := IntWalk.i64_in _ (by omega)
     rw [nmGo_step true l.names k hlt] at ho
     have hn := rName_d G hG l.names[k] (htx _ (List.getElem_mem hlt))
     generalize l.names[k] = x at hx hn ho
     have hin := rIn_d G hG (l.names.take k) x (by rw [List.length_take]; omega)
     have hin2 : ∀ (b : Bool), hasS (l.names.take k) x = b → ∀ h, Does Tryz.prog G 167 h [.sl 1 (List.drop (Int.toNat 0) (List.take (Int.toNat (k : Int)) (l.names.map strX))), .v (.string x)] (fun h' r => h' = h ∧ r = .v (.bool b)) := fun b hb h => by
      have := hin h
      rw [hb, List.map_take] at this
      exact this
     clear hin
     cases hnb : Wg x <;> rw [hnb] at hn ho
     · skip
       have F : _ ∧ _ ∧ _ ∧ _ := ⟨Y4 l, e1, e3, wk⟩
       repeat' first
        | (with_reducible refine Yj ?_; refine Yb mixd (by kernel_rfl) ?_)
        | refine g ?_
        | refine Two.mk (fun hq => ?_) fun hq => ?_
        | (with_reducible refine W2 ?_; refine aq2 rfl rfl rfl Zd8 (hn _) ?_)
        | (exfalso; omega)
       exact ⟨.inr rfl, endD (r := .v (.bool false)) hl0 rfl (by simp) (by simp) rfl (by rw [low]; trivial) ⟨rfl, by rw [ho]; rfl⟩⟩
     · cases hib : hasS (l.names.take k) x <;> rw [hib] at ho
       · skip
         have F : _ ∧ _ ∧ _ ∧ _ := ⟨Y4 l, e1, e3, wk⟩
         repeat' first
          | (with_reducible refine Yj ?_; refine Yb mixd (by kernel_rfl) ?_)
          | refine g ?_
          | refine Two.mk (fun hq => ?_) fun hq => ?_
          | (with_reducible refine W2 ?_; first | refine aq2 rfl rfl rfl Zd8 (hn _) ?_ | refine aq2 rfl rfl rfl Zo6 (hin2 _ hib _) ?_)
          | (exfalso; omega)
         exact ⟨rfl, l.names.length - (k + 1), by omega, k + 1, hlt, rfl, by rw [ho]; rfl, by rw [Y4], e1, rfl⟩
       · skip
         have F : _ ∧ _ ∧ _ ∧ _ := ⟨Y4 l, e1, e3, wk⟩
         repeat' first
          | (with_reducible refine Yj ?_; refine Yb mixd (by kernel_rfl) ?_)
          | refine g ?_
          | refine Two.mk (fun hq => ?_) fun hq => ?_
          | (with_reducible refine W2 ?_; first | refine aq2 rfl rfl rfl Zd8 (hn _) ?_ | refine aq2 rfl rfl rfl Zo6 (hin2 _ hib _) ?_)
          | (exfalso; omega)
         exact ⟨.inr rfl, endD (r := .v (.bool false)) hl0 rfl (by simp) (by simp) rfl (by rw [low]; trivial) ⟨rfl, by rw [ho]; rfl⟩⟩
   · skip
     have F : _ ∧ _ ∧ _ := ⟨Y4 l, e1, e3⟩
     repeat' first
      | (with_reducible refine Yj ?_; refine Yb mixd (by kernel_rfl) ?_)
      | refine g ?_
      | refine Two.mk (fun hq => ?_) fun hq => ?_
      | refine Evry.mk fun x hx => ?_
      | (exfalso; omega)
     exact ⟨.inr rfl, endD (r := .v (.bool true)) hl0 rfl (by simp) (by simp) rfl (by rw [low]; trivial) ⟨rfl, by rw [ho, Zd (by omega)]; rfl⟩⟩
 have en : Zd4 l.kind l.names l.rules = (Za2 l.names && l.rules.all (Zc1 l.names)) := by unfold Zd4; rw [if_neg h6]
 rw [en]
 cases hrb : Za2 l.names <;> rw [hrb] at hri
 · skip
   have F : _ ∧ _ := ⟨Y4 l, h6⟩
   repeat' first
    | refine g0 ?_
    | (with_reducible refine Y7 ?_; refine gc rfl rfl rfl Zy8 (hri _) ?_)
   exact ⟨.inr rfl, endD (r := .v (.bool false)) hl0 rfl (by simp) (by simp) rfl (by rw [low]; trivial) ⟨rfl, rfl⟩⟩
 rw [Bool.true_and]
 have F : _ ∧ _ := ⟨Y4 l, h6⟩
 repeat' first
  | refine g0 ?_
  | (with_reducible refine Y7 ?_; refine gc rfl rfl rfl Zy8 (hri _) ?_)
 refine Yn (fun m e h' => ∃ (k : Nat) (T : List Ob), k ≤ l.rules.length ∧ m = l.rules.length - k ∧ l.rules.all (Zc1 l.names) = (l.rules.drop k).all (Zc1 l.names) ∧ h' = gM (.cells (latX l)) T ∧ e 1 = .ptr 0 0 ∧ e 4 = .v (.int .i64 k)) l.rules.length ⟨0, [], Zu _, rfl, rfl, (by rw [Y4]; rfl), rfl, rfl⟩ ?_
 rintro m e h' ⟨k, T, hk, rfl, ho, rfl, e1, e4⟩
 by_cases hlt : k < l.rules.length
 rotate_left
 · skip
   have F : _ ∧ _ ∧ _ := ⟨Y4 l, e1, e4⟩
   repeat' first
    | refine g ?_
    | refine Two.mk (fun hq => ?_) fun hq => ?_
    | refine Evry.mk fun x hx => ?_
    | (exfalso; omega)
   exact ⟨.inr rfl, endD (r := .v (.bool true)) hl0 rfl (by simp) (by simp) rfl (by rw [low]; trivial) ⟨rfl, by rw [ho, Zd (by omega)]; rfl⟩⟩
 have hx : l.rules[k]? = some l.rules[k] := Zk hlt
 have wk : IntKind.i64.wrap ((k : Int) + 1) = (k : Int) + 1 := IntWalk.i64_in _ (by omega)
 rw [rules_step _ _ k hlt] at ho
 obtain ⟨hcl, hcs⟩ := hcd _ (List.getElem_mem hlt)
 generalize l.rules[k] = x at hx ho hcl hcs
 have hrx := rRising_d G hG x.cond hcl hcs
 have hin := rIn_d G hG l.names x.concl hnl
 by_cases hz : x.cond.length = 0
 · have er : Zc1 l.names x = false := by unfold Zc1; rw [decide_eq_false (by omega)]; rfl
   have F : _ ∧ _ ∧ _ ∧ _ ∧ _ := ⟨Y4 l, e1, e4, wk, hz⟩
   repeat' first
    | refine g ?_
    | refine Two.mk (fun hq => ?_) fun hq => ?_
    | (exfalso; omega)
   all_goals first | (exfalso; omega) | exact ⟨.inr rfl, endD (r := .v (.bool false)) hl0 rfl (by simp) (by simp) rfl (by rw [low]; trivial) ⟨rfl, by rw [ho, er]; rfl⟩⟩
 cases hxb : Za2 x.cond <;> rw [hxb] at hrx
 · have er : Zc1 l.names x = false := by unfold Zc1; rw [hxb]; simp
   have F : _ ∧ _ ∧ _ ∧ _ := ⟨Y4 l, e1, e4, wk⟩
   repeat' first
    | refine g ?_
    | refine Two.mk (fun hq => ?_) fun hq => ?_
    | (with_reducible refine Y7 ?_; refine gc rfl rfl rfl Zy8 (hrx _) ?_)
    | (exfalso; omega)
   all_goals first | (exfalso; omega) | exact ⟨.inr rfl, endD (r := .v (.bool false)) hl0 rfl (by simp) (by simp) rfl (by rw [low]; trivial) ⟨rfl, by rw [ho, er]; rfl⟩⟩
 cases hib : hasS l.names x.concl <;> rw [hib] at hin
 · have er : Zc1 l.names x = false := by unfold Zc1; rw [hib]; simp
   have F : _ ∧ _ ∧ _ ∧ _ := ⟨Y4 l, e1, e4, wk⟩
   repeat' first
    | refine g ?_
    | refine Two.mk (fun hq => ?_) fun hq => ?_
    | (with_reducible refine Y7 ?_; first | refine gc rfl rfl rfl Zy8 (hrx _) ?_ | refine gc rfl rfl rfl Zo6 (hin _) ?_)
    | (exfalso; omega)
   all_goals first | (exfalso; omega) | exact ⟨.inr rfl, endD (r := .v (.bool false)) hl0 rfl (by simp) (by simp) rfl (by rw [low]; trivial) ⟨rfl, by rw [ho, er]; rfl⟩⟩
 have er : Zc1 l.names x = x.cond.all (hasS l.names) := by unfold Zc1; rw [hxb, hib, decide_eq_true hz]; simp
 rw [er] at ho
 have F : _ ∧ _ ∧ _ ∧ _ := ⟨Y4 l, e1, e4, wk⟩
 repeat' first
  | refine g ?_
  | refine Two.mk (fun hq => ?_) fun hq => ?_
  | (with_reducible refine Y7 ?_; first | refine gc rfl rfl rfl Zy8 (hrx _) ?_ | refine gc rfl rfl rfl Zo6 (hin _) ?_)
  | (exfalso; omega)
 all_goals try (exfalso; omega)
 refine Yn (fun m e h' => ∃ j : Nat, j ≤ x.cond.length ∧ m = x.cond.length - j ∧ x.cond.all (hasS l.names) = (x.cond.drop j).all (hasS l.names) ∧ h' = gM (.cells (latX l)) (T ++ [.cells (Zh3 x)]) ∧ e 1 = .ptr 0 0 ∧ e 4 = .v (.int .i64 k) ∧ e 5 = .ptr (T.length + 1) 0 ∧ e 6 = .v (.int .i64 j)) x.cond.length ⟨0, Zu _, rfl, rfl, (by rw [Y4, Zf3]), e1, e4, rfl, rfl⟩ ?_
 clear e1 e4
 rintro m e h' ⟨j, hj, rfl, hoj, rfl, e1, e4, e5, e6⟩
 by_cases hjl : j < x.cond.length
 rotate_left
 · skip
   have F : _ ∧ _ ∧ _ ∧ _ ∧ _ ∧ _ := ⟨Y4 l, e1, e4, e5, e6, wk⟩
   repeat' first
    | (with_reducible refine Yj ?_; refine Yb mixd (by kernel_rfl) ?_)
    | refine g ?_
    | refine Two.mk (fun hq => ?_) fun hq => ?_
    | refine Evry.mk fun x hx => ?_
    | (exfalso; omega)
   exact ⟨rfl, l.rules.length - (k + 1), by omega, k + 1, _, hlt, rfl, by rw [ho, hoj, Zd (by omega)]; rfl, by rw [Y4], e1, rfl⟩
 have hy : x.cond[j]? = some x.cond[j] := Zk hjl
 have wj : IntKind.i64.wrap ((j : Int) + 1) = (j : Int) + 1 := IntWalk.i64_in _ (by omega)
 rw [conds_step _ _ j hjl] at hoj
 generalize x.cond[j] = y at hy hoj
 have hiy := rIn_d G hG l.names y hnl
 cases hyb : hasS l.names y <;> rw [hyb] at hiy hoj
 · skip
   have F : _ ∧ _ ∧ _ ∧ _ ∧ _ ∧ _ := ⟨Y4 l, e1, e4, e5, e6, wj⟩
   repeat' first
    | (with_reducible refine Yj ?_; refine Yb mixd (by kernel_rfl) ?_)
    | refine g ?_
    | refine Two.mk (fun hq => ?_) fun hq => ?_
    | (with_reducible refine W2 ?_; refine aq2 rfl rfl rfl Zo6 (hiy _) ?_)
    | (exfalso; omega)
   exact ⟨.inr rfl, endD (r := .v (.bool false)) hl0 rfl (by simp) (by simp) rfl (by rw [low]; trivial) ⟨rfl, by rw [ho, hoj]; rfl⟩⟩
 · skip
   have F : _ ∧ _ ∧ _ ∧ _ ∧ _ ∧ _ := ⟨Y4 l, e1, e4, e5, e6, wj⟩
   repeat' first
    | (with_reducible refine Yj ?_; refine Yb mixd (by kernel_rfl) ?_)
    | refine g ?_
    | refine Two.mk (fun hq => ?_) fun hq => ?_
    | (with_reducible refine W2 ?_; refine aq2 rfl rfl rfl Zo6 (hiy _) ?_)
    | (exfalso; omega)
   exact ⟨rfl, x.cond.length - (j + 1), by omega, j + 1, hjl, rfl, by rw [hoj]; rfl, by rw [Y4, Zf3], e1, e4, e5, rfl⟩
end
end Go.Proofs.YtmdjnaobllajmaaGreatDoor
