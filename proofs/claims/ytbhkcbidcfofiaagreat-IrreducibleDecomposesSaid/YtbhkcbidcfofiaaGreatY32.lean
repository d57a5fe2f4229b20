/-
  What the statements of the chapter share, part 32: QD6.
-/
import Derived.Test.YtbhkcbidcfofiaaGreatY14
import Derived.Test.YtbhkcbidcfofiaaGreatY31
set_option linter.unusedVariables false
set_option linter.unusedSimpArgs false
set_option maxRecDepth 100000
set_option maxHeartbeats 8000000
namespace Go.Proofs.YtbhkcbidcfofiaaGreat
open _root_.And renaming intro → Zm
open _root_.Int renaming toNat_natCast → Zb
open _root_.List renaming length_map → Z0, cons_append → Z1, nil_append → Z2, map_append → Z3, reverse_cons → Z4, length_cons → Z5, reverse_nil → Z8, getElem?_eq_getElem → Z9, length_nil → Za, take_add_one → Zh, getElem?_map → Zi, take_length → Zj, length_take → Zk
open _root_.Nat renaming reduceEqDiff → Z6, reduceLeDiff → Z7, reduceAdd → Zd, reduceBEq → Ze, reduceMul → Zf, min_eq_left → Zl
open _root_.Option renaming bind_some → Zc, map_some → Zg
open Go.RowKit
section
attribute [local irreducible] on aOp
attribute [local go_sem] decide_true decide_false Bool.not_true Bool.not_false
attribute [local simp] byD_len
section
variable {A Z V P B C y z y' w : Ob} {T l : List Ob}
theorem sM6_q1 : (sM6 A Z V P B C (T ++ [y, z, y']))[T.length + 6]? = some y := by simp [sM6]
theorem sM6_q2 : (sM6 A Z V P B C (T ++ [y, z, y']))[T.length + 1 + 6]? = some z := by simp [sM6]
theorem sM6_q3 : (sM6 A Z V P B C (T ++ [y, z, y']))[T.length + 2 + 6]? = some y' := by simp [sM6]
theorem sM6_w2 : (sM6 A Z V P B C (T ++ [y, z, y'])).set (T.length + 1 + 6) w = sM6 A Z V P B C (T ++ [y, w, y']) := by simp [sM6]
theorem sM6_w3 : (sM6 A Z V P B C (T ++ [y, z, y'])).set (T.length + 2 + 6) w = sM6 A Z V P B C (T ++ [y, z, w]) := by simp [sM6]
theorem sM6_sl : (sM6 A Z V P B C (T ++ [y])).set (T.length + 6) w = sM6 A Z V P B C (T ++ [w]) := by simp [sM6]
end
def lexD (a d : Val) : Val := .mk 0 [] [a, d] []
theorem Zs0 (a d : Val) : vaX (lexD a d) = [.v (.int .i64 0), .sl 1 [], .sl 4 [vaX a, vaX d], .sl 2 []] := by
 simp [lexD, Y5 (.mk 0 [] [a, d] []), Val.n, Val.names, Val.parts, Val.entries]
theorem dec_7 {lo hi : Int} {ns : List ByteArray} {p q : Lat} {rs : List Rl} {v a w : Val} (h : v.parts = [a, w]) : decV (.mk 7 lo hi ns [p, q] rs) v = (if (decV q w).isEmpty && !decide (valC a (botV p) = 0) then [botV q] else decV q w).map (lexD a) := by
 rw [decV, if_neg (by decide), if_neg (by decide), if_neg (by decide), if_pos rfl, h, Zl4, Zn8]; rfl
variable (G : Nat → D) (hG : ∀ g, low 0 (G g))
include hG
attribute [local go_sem] Bool.false_eq_true Int.reduceEq Int.reduceLE Int.reduceLT Zb List.append_assoc Z1 List.length_append Z5 Z0 Za Z2 Zd Ze Z6 Z7 Zf holes_2 sM6_0 sM6_1 sM6_2 sM6_3 sM6_4 sM6_5 sM6_app sM6_l Ym3 sM6_q1 sM6_q2 sM6_q3 sM6_s2 sM6_sl sM6_w2 sM6_w3
attribute [local go_sem ↓] reduceIte
theorem dec_lex (l : Lat) (v : Val) (h7 : l.kind = 7) (hsm : Sm l) (hc : chkE l = 0) (hv : VSm v) (he : Yb l v = true) (hno : W6 v ≤ 1000) (ih : ∀ (k : Nat) (p : Lat) (x : Val), l.parts[k]? = some p → v.parts[k]? = some x → DecOk G p x) : DecOk G l v := by
 unfold DecOk
 have hwf := Wt hc
 have hlen : (decV l v).length ≤ 1000 := Nat.le_trans (Ua l v) hno
 obtain ⟨p, q, a, w, hpq, hab, ha, hw, _⟩ := Zg3 hwf h7 he
 have hx0 : l.parts[0]? = some p := by rw [hpq]; rfl
 have hx1 : l.parts[1]? = some q := by rw [hpq]; rfl
 have hl2 : l.parts.length = 2 := by rw [hpq]; rfl
 have hpm : p ∈ l.parts := by rw [hpq]; simp
 have hqm : q ∈ l.parts := by rw [hpq]; simp
 have hy0 : v.parts[0]? = some a := by rw [hab]; rfl
 have hy1 : v.parts[1]? = some w := by rw [hab]; rfl
 have hv2 : v.parts.length = 2 := by rw [hab]; rfl
 have hib := Yj6 G hG p (hsm.part p hpm) a (hv.part a (by rw [hab]; simp))
 have hbo := ibottom_d G hG q (hsm.part q hqm) (Zy7 hc hqm)
 have hz : Zq6 p a = decide (valC a (botV p) = 0) := by unfold Zq6; rw [Zy7 hc hpm]; simp
 have hown := (ih 1 q w hx1 hy1).own G hG
 have hd : decV l v = (if (decV q w).isEmpty && !Zq6 p a then [botV q] else decV q w).map (lexD a) := by
  rw [hz]
  obtain ⟨k, lo, hi, ns, ps, rs⟩ := l
  simp only [Lat.kind, Lat.parts] at h7 hpq
  subst h7 hpq
  exact dec_7 hab
 have hL0 : (decV q w).length ≤ 1000 := by
  have e1 := Ua q w
  have e2 := V1 v
  rw [hab] at e2
  simp only [Ys] at e2
  omega
 have hlow := Za7 3 l v
 unfold dB at hlow ⊢
 unfold dB at hown
 rw [hd, Z0] at *
 have hlz0 : lowL 0 [D.agg (vaX a)] := by rw [lowL, lowL, low]; exact ⟨Yd 0 a, trivial⟩
 clear ih hpq hab
 simp only [Y4 p, Y5 a] at hib
 generalize hbq : botV q = bq at *
 have hrob := Zw9 bq
 simp only [Y4 q, Y5 bq] at hbo
 simp only [Y5 bq] at hrob
 simp only [Y4 q, Y5 w] at hown
 generalize decV q w = L0 at *
 generalize Zq6 p a = zz at *
 refine Y6 Tryz.func42 rfl (Nat.le_of_ble_eq_true rfl) hG fun hl0 _ => ?_
 simp only [Tryz.ntmps42]
 by_cases hcond : (L0.isEmpty && !zz) = true
 · rw [if_pos hcond] at *
   rw [Bool.and_eq_true, Bool.not_eq_true', List.isEmpty_iff] at hcond
   obtain ⟨rfl, rfl⟩ := hcond
   have hn0 : True := trivial
   have hlb : [bq].length = 1 := rfl
   repeat' first
    | (with_reducible first | refine sA rfl ?_ | refine sI rfl rfl ?_ | refine sT rfl ?_)
    | (with_reducible refine Ya ?_; first | (refine Vf 30 4 5 (by with_unfolding_all rfl) ?_) | refine X7 mixd (by kernel_rfl) ?_)
    | (with_reducible refine Y7 ?_; first | refine Yp ?_ | (refine ao1 rfl rfl fun K HK => ?_; (first | refine Ym rfl ?_ | skip); simp only [go_sem, Y4 l, Y4 p, Y4 q, Y5 v, Y5 a, Y5 w, Y5 bq, h7, hl2, hv2, Eff.heap, X2]; (first | refine Yt (fun hq => ?_) (fun hq => ?_) | (refine ⟨by omega, ?_⟩; refine Xf (by assumption) ?_) | skip) <;> (refine HK _ _ ?_; clear HK K)) | refine W1 rfl rfl rfl rfl (by (simp only [go_sem, Y4 l, Y4 p, Y4 q, Y5 v, Y5 a, Y5 w, Y5 bq, h7, hl2, hv2, Eff.heap, X2]; rfl)) (by simp) (by simp only [go_sem]; rfl) (by (simp only [go_sem, Y4 l, Y4 p, Y4 q, Y5 v, Y5 a, Y5 w, Y5 bq, h7, hl2, hv2, Eff.heap, X2]; rfl)) (by simp) (by assumption) (by (simp; done)) ?_ | (refine ao2 rfl rfl rfl ent_83 (hbo _) ?_; rintro _ _ ⟨rfl, rfl⟩))
    | ((with_reducible refine Uf ?_); first | (refine Zu6 (E := ⟨[], [], [.cells [.v (.int .i64 q.kind), .v (.int .i64 q.lo), .v (.int .i64 q.hi), .sl 1 (q.names.map strX), .sl 6 (q.parts.map latX), .sl 2 (q.rules.map Zk4)], .cells [.v (.int .i64 w.n), .sl 1 (w.names.map strX), .sl 4 (w.parts.map vaX), .sl 2 (w.entries.map enX)], .buf 30 4 (([] : List Val).map vaX)], fun m => .buf (m + 2) ([] : List Val).length⟩) rfl rfl rfl Yk2 ⟨by simp, fun hn => by cases hn⟩ (by simp [Eff.ok]) (fun h2 _ => hown h2) ?_) | (refine aS1 rfl rfl fun K HK => ?_; (first | refine Ym rfl ?_ | skip); simp only [go_sem, Y4 l, Y4 p, Y4 q, Y5 v, Y5 a, Y5 w, Y5 bq, h7, hl2, hv2, Eff.heap, X2]; (first | refine Yt (fun hq => ?_) (fun hq => ?_) | (refine ⟨by omega, ?_⟩; refine Xf (by assumption) ?_) | skip) <;> (refine HK _ _ rfl ?_; clear HK K)) | refine aS0 rfl rfl ?_ | refine Xq rfl rfl rfl (by (simp only [go_sem, Y4 l, Y4 p, Y4 q, Y5 v, Y5 a, Y5 w, Y5 bq, h7, hl2, hv2, Eff.heap, X2]; rfl)) (by rw [getD_one (by simp only [go_sem, Y4 l, Y4 p, Y4 q, Y5 v, Y5 a, Y5 w, Y5 bq, h7, hl2, hv2, Eff.heap, X2])]; rfl) ?_ | refine Wv (by simp only [Z4, Z8, Z2, Z1, Wc, chk1]; repeat' (first | exact trivial | refine Zm ?_ ?_ | exact .inr Yq | exact .inr Yx | exact .inr X9 | (refine .inr ?_; simp [compat, We, Wg, Va, nop] <;> omega))) ?_ | refine Xd rfl rfl rfl ent_84 (fun h2 => hib _) ?_)
    | ((with_reducible refine Y7 ?_); first | (refine ao1 rfl rfl fun K HK => ?_; (first | refine Ym rfl ?_ | skip); simp only [go_sem, Y4 l, Y4 p, Y4 q, Y5 v, Y5 a, Y5 w, Y5 bq, h7, hl2, hv2, Eff.heap, X2]; (first | refine Yt (fun hq => ?_) (fun hq => ?_) | (refine ⟨by omega, ?_⟩; refine Xf (by assumption) ?_) | skip) <;> (refine HK _ _ ?_; clear HK K)))
    | (exfalso; omega)
   all_goals first | (exfalso; omega) | skip
   refine Yf (fun m e h' => ∃ (i : Nat) (T : List Ob), i ≤ [bq].length ∧ m = [bq].length - i ∧ h' = sM6 (.cells (latX l)) (.cells (vaX v)) (.buf 30 4 ((([bq].take i).map (lexD a)).map vaX)) (.cells (latX q)) (.cells (vaX w)) (.buf 30 4 ([bq].map vaX)) T ∧ e 3 = .ptr 1 0 ∧ e 5 = .buf 2 i ∧ e 154 = .buf 5 [bq].length ∧ e 155 = .v (.int .i64 [bq].length) ∧ e 156 = .v (.int .i64 i)) [bq].length ⟨0, [.buf 30 4 [vaX bq]], Nat.zero_le _, rfl, by rw [Y4 l, Y5 v, h7, Y4 q, Y5 w, List.map_cons, List.map_nil, Y5 bq]; try rfl, rfl, rfl, (by first | rfl | (with_unfolding_all rfl) | (simp only [hn0]; rfl) | (simp; done)), (by first | rfl | (with_unfolding_all rfl) | (simp only [hn0]; rfl) | (simp; done)), rfl⟩ ?_
   rintro m e h' ⟨i, T, hi, rfl, rfl, e3, e5, e154, e155, e156⟩
   by_cases hli : i < [bq].length
   rotate_left
   · obtain rfl : i = [bq].length := by omega
     rw [Zj] at *
     have F : _ ∧ _ ∧ _ ∧ _ ∧ _ ∧ _ ∧ _ := ⟨Y4 l, Y5 v, e3, e5, e154, e155, e156⟩
     repeat' first
      | refine gg ?_
      | refine Two.mk (fun hq => ?_) fun hq => ?_
      | (exfalso; omega)
     all_goals first | (exfalso; omega) | exact ⟨.inr rfl, endX [.buf 2 [bq].length] [.cells (latX l), .cells (vaX v), .buf 30 4 (([bq].map (lexD a)).map vaX)] ([.cells (latX q), .cells (vaX w), .buf 30 4 ([bq].map vaX)] ++ T) (.buf 2 [bq].length) rfl (by simp only [Y4 l, Y5 v, h7]; rfl) (by simp) hlow (by rw [low]; simp) (by simp [outD, cvD, cv1]) ⟨rfl, rfl⟩⟩
   have hLi : [bq][i]? = some [bq][i] := Z9 hli
   have wi : IntKind.i64.wrap ((i : Int) + 1) = (i : Int) + 1 := IntWalk.i64_in _ (by omega)
   have hti : (([bq].take (i + 1)).map (lexD a)).map vaX = (([bq].take i).map (lexD a)).map vaX ++ [vaX (lexD a [bq][i])] := by
    rw [Zh, hLi, Z3, Z3]; rfl
   generalize hdd : [bq][i] = d at hLi hti
   have hrowd : ([bq].map vaX)[((i : Nat) : Int).toNat]? = some (vaX d) := by rw [Zb, Zi, hLi]; rfl
   have hbm : ([bq].map vaX).length = [bq].length := Z0 _
   rw [Zs0] at hti
   have hlr : ((([bq].take i).map (lexD a)).map vaX).length = i := by rw [Z0, Z0, Zk, Zl hi]
   have hla : lowL 0 [D.agg (vaX a), D.agg (vaX d)] := by rw [lowL, lowL, lowL, low, low]; exact ⟨Yd 0 a, Yd 0 d, trivial⟩
   have hla1 : low 0 (.sl 4 [vaX a, vaX d]) := Xp 0 [a, d] fun x _ => Yd 0 x
   have hlw0 : lowL 0 [D.agg (vaX (lexD a d))] := by rw [lowL, lowL, low]; exact ⟨Yd 0 _, trivial⟩
   have hlw1 : low 0 (.sl 4 [vaX (lexD a d)]) := Xp 0 [lexD a d] fun x _ => Yd 0 x
   have hro := Zw9 (lexD a d)
   rw [Zs0] at hlw0 hlw1 hro
   simp only [Y5 a, Y5 d] at hla hla1 hlw0 hlw1 hro hti hrowd
   have F : _ ∧ _ ∧ _ ∧ _ ∧ _ ∧ _ ∧ _ ∧ _ ∧ _ ∧ _ ∧ _ ∧ _ := ⟨Y4 l, Y5 v, Y5 a, Y5 d, h7, hv2, e3, e5, e154, e155, e156, wi⟩
   repeat' first
    | (with_reducible refine Ya ?_; refine Zk3 2 mixd (by kernel_rfl) ?_)
    | ((with_reducible refine gd_bS ?_); first | (refine Ju (i := T.length + 1 + 6) hG rfl rfl (by simp only [litD, X1, go_sem, Z5, Za, Zg, Zc, and_self, Y5 a, Y5 d, ↓reduceIte, Z6, Zd, Z7, Ze, Zf]; rfl) (by (first | (simp only [go_sem, F]; rfl) | (simp only [go_sem, F]; done))) (by show lowL 0 [ev G _ (.tmp 164), ev G _ (.tmp 165)]; simp only [go_sem, F]; exact hla) (by exact hla1) ?_) | (refine Ys0 rfl rfl rfl (by (first | (simp only [go_sem, F]; rfl) | (simp only [go_sem, F]; done))) (by simp) fun K HK => ?_; simp only [go_sem, F]; refine HK _ _ rfl ⟨_, Us Yn (X6 _) Yn, ?_⟩; clear HK K) | (refine Ju (i := T.length + 2 + 6) hG rfl rfl (by simp only [litD, X1, go_sem, Z5, Za, Zg, Zc, and_self, Y5 a, Y5 d, ↓reduceIte, Z6, Zd, Z7, Ze, Zf]; rfl) (by (first | (simp only [go_sem, F]; rfl) | (simp only [go_sem, F]; done))) (by show lowL 0 [ev G _ (.tmp 167)]; simp only [go_sem, F]; exact hlw0) (by exact hlw1) ?_) | (refine Yf7 rfl rfl rfl rfl (by (first | (simp only [go_sem, F]; rfl) | (simp only [go_sem, F]; done))) hlr (by simp only [go_sem, F]; rfl) (by (first | (simp only [go_sem, F]; rfl) | (simp only [go_sem, F]; done))) (by simp) hro (by first | omega | (simp; omega)) ?_) | (refine Zd4 rfl rfl (by first | rfl | (simp only [go_sem, F]; rfl)) (by (first | (simp only [go_sem, F]; rfl) | (simp only [go_sem, F]; done))) (by rw [getD_agg' aggT_30, szT_30]; rfl) ?_) | (refine bS1 rfl rfl fun K HK => ?_; simp only [go_sem, F]; (first | refine Yt (fun hq => ?_) (fun hq => ?_) | (refine ⟨by omega, ?_⟩; refine Xf (by assumption) ?_) | skip) <;> (refine HK _ _ rfl ?_; clear HK K)) | refine Zd4 rfl rfl rfl (by (first | (simp only [go_sem, F]; rfl) | (simp only [go_sem, F]; done))) (by rw [getD_one (by simp only [go_sem, F])]; rfl) ?_ | refine Yl2 (by simp only [Z4, Z8, Z2, Z1, cpFA, cpF1]; repeat' (first | exact trivial | refine Zm ?_ ?_ | exact .inr Yf3 | exact .inr Yk9 | exact .inr cmF_rr | exact .inr (Yf2 (by omega)) | exact .inr (Yk8 (by omega)) | (refine .inr ?_; simp [compF, reF, wrF, puF, nopF, Ym3] <;> omega) | exact .inl (by kernel_rfl))) ?_)
    | ((with_reducible refine Y7 ?_); first | (refine Ys2 rfl rfl (by first | rfl | (simp only [go_sem, F]; rfl)) (by first | rfl | (simp only [go_sem, F]; rfl)) (by (first | (simp only [go_sem, F]; rfl) | (simp only [go_sem, F]; done))) hbm (by rw [elT_27]; exact szT_30) (by omega) (by omega) ?_) | (refine ao_loadB rfl rfl rfl (by (first | (simp only [go_sem, F]; rfl) | (simp only [go_sem, F]; done))) hbm hrowd (by rw [getD_agg' aggT_30, szT_30]; rfl) ?_))
    | refine gg ?_
    | refine Two.mk (fun hq => ?_) fun hq => ?_
    | (exfalso; omega)
   all_goals first | (exfalso; omega) | exact ⟨rfl, [bq].length - (i + 1), by omega, i + 1, _, hli, rfl, (by rw [Y4 l, Y5 v, hti, h7]; try rfl), e3, rfl, e154, e155, rfl⟩
 · rw [if_neg hcond] at *
   have hne : L0.length ≠ 0 ∨ zz = true := by
    cases zz
    · refine .inl fun h0 => hcond ?_
      rw [List.length_eq_zero_iff.1 h0]; rfl
    · exact .inr rfl
   by_cases hn0 : L0.length = 0
   · obtain rfl := hne.resolve_left (fun h => h hn0)
     have F : _ ∧ _ ∧ _ ∧ _ ∧ _ ∧ _ ∧ _ ∧ _ ∧ _ ∧ _ ∧ _ := ⟨Y4 l, Y4 p, Y4 q, Y5 v, Y5 a, Y5 w, Y5 bq, h7, hl2, hv2, hn0⟩
     repeat' first
      | (with_reducible refine Ya ?_; first | (refine Vf 30 4 5 (by with_unfolding_all rfl) ?_) | refine X7 mixd (by kernel_rfl) ?_)
      | ((with_reducible refine Uf ?_); first | (refine Zu6 (E := ⟨[], [], [.cells [.v (.int .i64 q.kind), .v (.int .i64 q.lo), .v (.int .i64 q.hi), .sl 1 (q.names.map strX), .sl 6 (q.parts.map latX), .sl 2 (q.rules.map Zk4)], .cells [.v (.int .i64 w.n), .sl 1 (w.names.map strX), .sl 4 (w.parts.map vaX), .sl 2 (w.entries.map enX)], .buf 30 4 (L0.map vaX)], fun m => .buf (m + 2) L0.length⟩) rfl rfl rfl Yk2 ⟨by simp, fun hn => by cases hn⟩ (by simp [Eff.ok]) (fun h2 _ => hown h2) ?_) | (refine aS1 rfl rfl fun K HK => ?_; (first | refine Ym rfl ?_ | skip); simp only [go_sem, F]; (first | refine Yt (fun hq => ?_) (fun hq => ?_) | (refine ⟨by omega, ?_⟩; refine Xf (by assumption) ?_) | skip) <;> (refine HK _ _ rfl ?_; clear HK K)) | refine aS0 rfl rfl ?_ | refine Xq rfl rfl rfl (by (simp only [go_sem, F]; rfl)) (by rw [getD_one (by simp only [go_sem, F])]; rfl) ?_ | refine Wv (by simp only [Z4, Z8, Z2, Z1, Wc, chk1]; repeat' (first | exact trivial | refine Zm ?_ ?_ | exact .inr Yq | exact .inr Yx | exact .inr X9 | (refine .inr ?_; simp [compat, We, Wg, Va, nop] <;> omega))) ?_ | refine Xd rfl rfl rfl ent_84 (fun h2 => hib _) ?_)
      | refine gg ?_
      | refine Two.mk (fun hq => ?_) fun hq => ?_
      | (exfalso; omega)
     all_goals first | (exfalso; omega) | skip
     refine Yf (fun m e h' => ∃ (i : Nat) (T : List Ob), i ≤ L0.length ∧ m = L0.length - i ∧ h' = sM6 (.cells (latX l)) (.cells (vaX v)) (.buf 30 4 (((L0.take i).map (lexD a)).map vaX)) (.cells (latX q)) (.cells (vaX w)) (.buf 30 4 (L0.map vaX)) T ∧ e 3 = .ptr 1 0 ∧ e 5 = .buf 2 i ∧ e 154 = .buf 5 L0.length ∧ e 155 = .v (.int .i64 L0.length) ∧ e 156 = .v (.int .i64 i)) L0.length ⟨0, [], Nat.zero_le _, rfl, by rw [Y4 l, Y5 v, h7, Y4 q, Y5 w]; try rfl, rfl, rfl, (by first | rfl | (with_unfolding_all rfl) | (simp only [hn0]; rfl) | (simp; done)), (by first | rfl | (with_unfolding_all rfl) | (simp only [hn0]; rfl) | (simp; done)), rfl⟩ ?_
     rintro m e h' ⟨i, T, hi, rfl, rfl, e3, e5, e154, e155, e156⟩
     by_cases hli : i < L0.length
     rotate_left
     · obtain rfl : i = L0.length := by omega
       rw [Zj] at *
       have F : _ ∧ _ ∧ _ ∧ _ ∧ _ ∧ _ ∧ _ := ⟨Y4 l, Y5 v, e3, e5, e154, e155, e156⟩
       repeat' first
        | refine gg ?_
        | refine Two.mk (fun hq => ?_) fun hq => ?_
        | (exfalso; omega)
       all_goals first | (exfalso; omega) | exact ⟨.inr rfl, endX [.buf 2 L0.length] [.cells (latX l), .cells (vaX v), .buf 30 4 ((L0.map (lexD a)).map vaX)] ([.cells (latX q), .cells (vaX w), .buf 30 4 (L0.map vaX)] ++ T) (.buf 2 L0.length) rfl (by simp only [Y4 l, Y5 v, h7]; rfl) (by simp) hlow (by rw [low]; simp) (by simp [outD, cvD, cv1]) ⟨rfl, rfl⟩⟩
     have hLi : L0[i]? = some L0[i] := Z9 hli
     have wi : IntKind.i64.wrap ((i : Int) + 1) = (i : Int) + 1 := IntWalk.i64_in _ (by omega)
     have hti : ((L0.take (i + 1)).map (lexD a)).map vaX = ((L0.take i).map (lexD a)).map vaX ++ [vaX (lexD a L0[i])] := by
      rw [Zh, hLi, Z3, Z3]; rfl
     generalize hdd : L0[i] = d at hLi hti
     have hrowd : (L0.map vaX)[((i : Nat) : Int).toNat]? = some (vaX d) := by rw [Zb, Zi, hLi]; rfl
     have hbm : (L0.map vaX).length = L0.length := Z0 _
     rw [Zs0] at hti
     have hlr : (((L0.take i).map (lexD a)).map vaX).length = i := by rw [Z0, Z0, Zk, Zl hi]
     have hla : lowL 0 [D.agg (vaX a), D.agg (vaX d)] := by rw [lowL, lowL, lowL, low, low]; exact ⟨Yd 0 a, Yd 0 d, trivial⟩
     have hla1 : low 0 (.sl 4 [vaX a, vaX d]) := Xp 0 [a, d] fun x _ => Yd 0 x
     have hlw0 : lowL 0 [D.agg (vaX (lexD a d))] := by rw [lowL, lowL, low]; exact ⟨Yd 0 _, trivial⟩
     have hlw1 : low 0 (.sl 4 [vaX (lexD a d)]) := Xp 0 [lexD a d] fun x _ => Yd 0 x
     have hro := Zw9 (lexD a d)
     rw [Zs0] at hlw0 hlw1 hro
     simp only [Y5 a, Y5 d] at hla hla1 hlw0 hlw1 hro hti hrowd
     have F : _ ∧ _ ∧ _ ∧ _ ∧ _ ∧ _ ∧ _ ∧ _ ∧ _ ∧ _ ∧ _ ∧ _ := ⟨Y4 l, Y5 v, Y5 a, Y5 d, h7, hv2, e3, e5, e154, e155, e156, wi⟩
     repeat' first
      | refine gg ?_
      | refine Two.mk (fun hq => ?_) fun hq => ?_
      | (exfalso; omega)
     all_goals first | (exfalso; omega) | exact ⟨rfl, L0.length - (i + 1), by omega, i + 1, _, hli, rfl, (by rw [Y4 l, Y5 v, hti, h7]; try rfl), e3, rfl, e154, e155, rfl⟩
   · have hn1 : ((L0.length : Int) == 0) = false := by rw [beq_eq_false_iff_ne]; omega
     have F : _ ∧ _ ∧ _ ∧ _ ∧ _ ∧ _ ∧ _ ∧ _ ∧ _ ∧ _ ∧ _ ∧ _ := ⟨Y4 l, Y4 p, Y4 q, Y5 v, Y5 a, Y5 w, Y5 bq, h7, hl2, hv2, hn0, hn1⟩
     repeat' first
      | (with_reducible refine Ya ?_; first | (refine Vf 30 4 5 (by with_unfolding_all rfl) ?_) | refine X7 mixd (by kernel_rfl) ?_)
      | ((with_reducible refine Uf ?_); first | (refine Zu6 (E := ⟨[], [], [.cells [.v (.int .i64 q.kind), .v (.int .i64 q.lo), .v (.int .i64 q.hi), .sl 1 (q.names.map strX), .sl 6 (q.parts.map latX), .sl 2 (q.rules.map Zk4)], .cells [.v (.int .i64 w.n), .sl 1 (w.names.map strX), .sl 4 (w.parts.map vaX), .sl 2 (w.entries.map enX)], .buf 30 4 (L0.map vaX)], fun m => .buf (m + 2) L0.length⟩) rfl rfl rfl Yk2 ⟨by simp, fun hn => by cases hn⟩ (by simp [Eff.ok]) (fun h2 _ => hown h2) ?_) | (refine aS1 rfl rfl fun K HK => ?_; (first | refine Ym rfl ?_ | skip); simp only [go_sem, F]; (first | refine Yt (fun hq => ?_) (fun hq => ?_) | (refine ⟨by omega, ?_⟩; refine Xf (by assumption) ?_) | skip) <;> (refine HK _ _ rfl ?_; clear HK K)) | refine aS0 rfl rfl ?_ | refine Xq rfl rfl rfl (by (simp only [go_sem, F]; rfl)) (by rw [getD_one (by simp only [go_sem, F])]; rfl) ?_ | refine Wv (by simp only [Z4, Z8, Z2, Z1, Wc, chk1]; repeat' (first | exact trivial | refine Zm ?_ ?_ | exact .inr Yq | exact .inr Yx | exact .inr X9 | (refine .inr ?_; simp [compat, We, Wg, Va, nop] <;> omega))) ?_)
      | refine gg ?_
      | refine Two.mk (fun hq => ?_) fun hq => ?_
      | (exfalso; omega)
     all_goals first | (exfalso; omega) | skip
     refine Yf (fun m e h' => ∃ (i : Nat) (T : List Ob), i ≤ L0.length ∧ m = L0.length - i ∧ h' = sM6 (.cells (latX l)) (.cells (vaX v)) (.buf 30 4 (((L0.take i).map (lexD a)).map vaX)) (.cells (latX q)) (.cells (vaX w)) (.buf 30 4 (L0.map vaX)) T ∧ e 3 = .ptr 1 0 ∧ e 5 = .buf 2 i ∧ e 154 = .buf 5 L0.length ∧ e 155 = .v (.int .i64 L0.length) ∧ e 156 = .v (.int .i64 i)) L0.length ⟨0, [], Nat.zero_le _, rfl, by rw [Y4 l, Y5 v, h7, Y4 q, Y5 w]; try rfl, rfl, rfl, (by first | rfl | (with_unfolding_all rfl) | (simp only [hn0]; rfl) | (simp; done)), (by first | rfl | (with_unfolding_all rfl) | (simp only [hn0]; rfl) | (simp; done)), rfl⟩ ?_
     rintro m e h' ⟨i, T, hi, rfl, rfl, e3, e5, e154, e155, e156⟩
     by_cases hli : i < L0.length
     rotate_left
     · obtain rfl : i = L0.length := by omega
       rw [Zj] at *
       have F : _ ∧ _ ∧ _ ∧ _ ∧ _ ∧ _ ∧ _ := ⟨Y4 l, Y5 v, e3, e5, e154, e155, e156⟩
       repeat' first
        | refine gg ?_
        | refine Two.mk (fun hq => ?_) fun hq => ?_
        | (exfalso; omega)
       all_goals first | (exfalso; omega) | exact ⟨.inr rfl, endX [.buf 2 L0.length] [.cells (latX l), .cells (vaX v), .buf 30 4 ((L0.map (lexD a)).map vaX)] ([.cells (latX q), .cells (vaX w), .buf 30 4 (L0.map vaX)] ++ T) (.buf 2 L0.length) rfl (by simp only [Y4 l, Y5 v, h7]; rfl) (by simp) hlow (by rw [low]; simp) (by simp [outD, cvD, cv1]) ⟨rfl, rfl⟩⟩
     have hLi : L0[i]? = some L0[i] := Z9 hli
     have wi : IntKind.i64.wrap ((i : Int) + 1) = (i : Int) + 1 := IntWalk.i64_in _ (by omega)
     have hti : ((L0.take (i + 1)).map (lexD a)).map vaX = ((L0.take i).map (lexD a)).map vaX ++ [vaX (lexD a L0[i])] := by
      rw [Zh, hLi, Z3, Z3]; rfl
     generalize hdd : L0[i] = d at hLi hti
     have hrowd : (L0.map vaX)[((i : Nat) : Int).toNat]? = some (vaX d) := by rw [Zb, Zi, hLi]; rfl
     have hbm : (L0.map vaX).length = L0.length := Z0 _
     rw [Zs0] at hti
     have hlr : (((L0.take i).map (lexD a)).map vaX).length = i := by rw [Z0, Z0, Zk, Zl hi]
     have hla : lowL 0 [D.agg (vaX a), D.agg (vaX d)] := by rw [lowL, lowL, lowL, low, low]; exact ⟨Yd 0 a, Yd 0 d, trivial⟩
     have hla1 : low 0 (.sl 4 [vaX a, vaX d]) := Xp 0 [a, d] fun x _ => Yd 0 x
     have hlw0 : lowL 0 [D.agg (vaX (lexD a d))] := by rw [lowL, lowL, low]; exact ⟨Yd 0 _, trivial⟩
     have hlw1 : low 0 (.sl 4 [vaX (lexD a d)]) := Xp 0 [lexD a d] fun x _ => Yd 0 x
     have hro := Zw9 (lexD a d)
     rw [Zs0] at hlw0 hlw1 hro
     simp only [Y5 a, Y5 d] at hla hla1 hlw0 hlw1 hro hti hrowd
     have F : _ ∧ _ ∧ _ ∧ _ ∧ _ ∧ _ ∧ _ ∧ _ ∧ _ ∧ _ ∧ _ ∧ _ := ⟨Y4 l, Y5 v, Y5 a, Y5 d, h7, hv2, e3, e5, e154, e155, e156, wi⟩
     repeat' first
      | (with_reducible refine Ya ?_; refine Zk3 2 mixd (by kernel_rfl) ?_)
      | ((with_reducible refine gd_bS ?_); first | (refine Ju (i := T.length + 1 + 6) hG rfl rfl (by simp only [litD, X1, go_sem, Z5, Za, Zg, Zc, and_self, Y5 a, Y5 d, ↓reduceIte, Z6, Zd, Z7, Ze, Zf]; rfl) (by (first | (simp only [go_sem, F]; rfl) | (simp only [go_sem, F]; done))) (by show lowL 0 [ev G _ (.tmp 164), ev G _ (.tmp 165)]; simp only [go_sem, F]; exact hla) (by exact hla1) ?_) | (refine Ys0 rfl rfl rfl (by (first | (simp only [go_sem, F]; rfl) | (simp only [go_sem, F]; done))) (by simp) fun K HK => ?_; simp only [go_sem, F]; refine HK _ _ rfl ⟨_, Us Yn (X6 _) Yn, ?_⟩; clear HK K) | (refine Ju (i := T.length + 2 + 6) hG rfl rfl (by simp only [litD, X1, go_sem, Z5, Za, Zg, Zc, and_self, Y5 a, Y5 d, ↓reduceIte, Z6, Zd, Z7, Ze, Zf]; rfl) (by (first | (simp only [go_sem, F]; rfl) | (simp only [go_sem, F]; done))) (by show lowL 0 [ev G _ (.tmp 167)]; simp only [go_sem, F]; exact hlw0) (by exact hlw1) ?_) | (refine Yf7 rfl rfl rfl rfl (by (first | (simp only [go_sem, F]; rfl) | (simp only [go_sem, F]; done))) hlr (by simp only [go_sem, F]; rfl) (by (first | (simp only [go_sem, F]; rfl) | (simp only [go_sem, F]; done))) (by simp) hro (by first | omega | (simp; omega)) ?_) | (refine Zd4 rfl rfl (by first | rfl | (simp only [go_sem, F]; rfl)) (by (first | (simp only [go_sem, F]; rfl) | (simp only [go_sem, F]; done))) (by rw [getD_agg' aggT_30, szT_30]; rfl) ?_) | (refine bS1 rfl rfl fun K HK => ?_; simp only [go_sem, F]; (first | refine Yt (fun hq => ?_) (fun hq => ?_) | (refine ⟨by omega, ?_⟩; refine Xf (by assumption) ?_) | skip) <;> (refine HK _ _ rfl ?_; clear HK K)) | refine Zd4 rfl rfl rfl (by (first | (simp only [go_sem, F]; rfl) | (simp only [go_sem, F]; done))) (by rw [getD_one (by simp only [go_sem, F])]; rfl) ?_ | refine Yl2 (by simp only [Z4, Z8, Z2, Z1, cpFA, cpF1]; repeat' (first | exact trivial | refine Zm ?_ ?_ | exact .inr Yf3 | exact .inr Yk9 | exact .inr cmF_rr | exact .inr (Yf2 (by omega)) | exact .inr (Yk8 (by omega)) | (refine .inr ?_; simp [compF, reF, wrF, puF, nopF, Ym3] <;> omega) | exact .inl (by kernel_rfl))) ?_)
      | ((with_reducible refine Y7 ?_); first | (refine Ys2 rfl rfl (by first | rfl | (simp only [go_sem, F]; rfl)) (by first | rfl | (simp only [go_sem, F]; rfl)) (by (first | (simp only [go_sem, F]; rfl) | (simp only [go_sem, F]; done))) hbm (by rw [elT_27]; exact szT_30) (by omega) (by omega) ?_) | (refine ao_loadB rfl rfl rfl (by (first | (simp only [go_sem, F]; rfl) | (simp only [go_sem, F]; done))) hbm hrowd (by rw [getD_agg' aggT_30, szT_30]; rfl) ?_))
      | refine gg ?_
      | refine Two.mk (fun hq => ?_) fun hq => ?_
      | (exfalso; omega)
     all_goals first | (exfalso; omega) | exact ⟨rfl, L0.length - (i + 1), by omega, i + 1, _, hli, rfl, (by rw [Y4 l, Y5 v, hti, h7]; try rfl), e3, rfl, e154, e155, rfl⟩
end
end Go.Proofs.YtbhkcbidcfofiaaGreat
