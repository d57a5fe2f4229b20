/-
  What the statements of the chapter share, part 31: QD3, QD4, QB5, QD5, QD12, AWE, AW0, QA9.
-/
import Derived.Test.YtbhkcbidcfofiaaGreatY06
import Derived.Test.YtbhkcbidcfofiaaGreatY13
import Derived.Test.YtbhkcbidcfofiaaGreatY14
import Derived.Test.YtbhkcbidcfofiaaGreatY16
import Derived.Test.YtbhkcbidcfofiaaGreatY17
import Derived.Test.YtbhkcbidcfofiaaGreatY25
import Derived.Test.YtbhkcbidcfofiaaGreatY27
import Derived.Test.YtbhkcbidcfofiaaGreatY28
import Derived.Test.YtbhkcbidcfofiaaGreatY29
import Derived.Test.YtbhkcbidcfofiaaGreatY30
set_option linter.unusedVariables false
set_option linter.unusedSimpArgs false
set_option maxRecDepth 100000
set_option maxHeartbeats 8000000
namespace Go.Proofs.YtbhkcbidcfofiaaGreat
open _root_.And renaming intro → Zz
open _root_.Bool renaming not_false → Zm, not_true → Zo, false_eq_true → Zp
open _root_.Int renaming toNat_natCast → Zi, reduceEq → Zq, reduceLE → Zr, reduceLT → Zs
open _root_.List renaming length_map → Z0, getElem?_eq_getElem → Z4, length_append → Z6, length_nil → Z7, map_append → Z8, length_cons → Z9, cons_append → Zc, nil_append → Ze, range → Zg, append_assoc → Zj, take_add_one → Zk, reverse_cons → Zl, reverse_nil → Zn, take_length → Zt, length_take → Zu, map_nil → Zx, mem_singleton → Zy
open _root_.Nat renaming le_of_ble_eq_true → Z1, reduceEqDiff → Z2, reduceLeDiff → Z3, reduceAdd → Z5, reduceBEq → Za, reduceMul → Zb, zero_le → Zv, min_eq_left → Zw
open _root_.Option renaming bind_some → Zf, map_some → Zh
open _root_.Go.Proofs.Tryz renaming prog → Zd
open Go.RowKit
section
attribute [local irreducible] on aOp
attribute [local go_sem] decide_true decide_false Zo Zm
attribute [local simp] byD_len
section
variable {A B C y y' z w : Ob} {T l : List Ob}
theorem n3_p2 : (n3 A B C (T ++ [y, z]))[T.length + 1 + 3]? = some z := by simp [n3]
theorem n3_p1 : (n3 A B C (T ++ [y, z]))[T.length + 3]? = some y := by simp [n3]
theorem n3_q3 : (n3 A B C (T ++ [y, z, y']))[T.length + 2 + 3]? = some y' := by simp [n3]
theorem n3_q2 : (n3 A B C (T ++ [y, z, y']))[T.length + 1 + 3]? = some z := by simp [n3]
theorem n3_q1 : (n3 A B C (T ++ [y, z, y']))[T.length + 3]? = some y := by simp [n3]
theorem n3_w2 : (n3 A B C (T ++ [y, z, y'])).set (T.length + 1 + 3) w = n3 A B C (T ++ [y, w, y']) := by simp [n3]
theorem n3_w3 : (n3 A B C (T ++ [y, z, y'])).set (T.length + 2 + 3) w = n3 A B C (T ++ [y, z, w]) := by simp [n3]
end
theorem rowsOk_tks (l : List Tk) : X3 2 (l.map tkX) := fun row hr => by
 obtain ⟨c, _, rfl⟩ := List.mem_map.1 hr
 exact ⟨rfl, fun d hd => by simp [tkX] at hd; rcases hd with rfl | rfl <;> rfl⟩
theorem dec_4 {lo hi : Int} {ns : List ByteArray} {ps : List Lat} {rs : List Rl} {v : Val} : decV (.mk 4 lo hi ns ps rs) v = v.names.map fun n => .mk 0 [n] [] [] := by rw [decV, if_pos rfl]
theorem dec_9 {lo hi : Int} {ns : List ByteArray} {ps : List Lat} {rs : List Rl} {v : Val} : decV (.mk 9 lo hi ns ps rs) v = v.entries.map fun x => .mk 0 [] [] [x] := by
 rw [decV, if_neg (by decide), if_neg (by decide), if_neg (by decide), if_neg (by decide), if_pos rfl]
variable (G : Nat → D) (hG : ∀ g, low 0 (G g))
include hG
attribute [local go_sem] Zp Zq Zr Zs Zi Zj Zc Z6 Z9 Z0 Z7 Ze Z5 Za Z2 Z3 Zb holes_2 n3_0 n3_1 n3_2 Zl0 n3_l Ja n3_p1 n3_p2 n3_q1 n3_q2 n3_q3 Yh0 Yg9 n3_w2 n3_w3 Xt
attribute [local go_sem ↓] reduceIte
theorem cloneT0 (l : List Tk) (hl : l.length ≤ 100000) :
 Does Zd G 85 [] [.sl 2 (l.map tkX)] (fun h' r => h' = [.buf 84 2 (l.map tkX)] ∧ r = .buf 0 l.length) := by
 refine Does.nilbuf (K := fun h' r => (h' = [.buf 84 2 (l.map tkX)] ∧ r = .buf 0 l.length) ∨ (l = [] ∧ h' = [] ∧ r = .v (.slice none 0 0))) 84 2 ?_ ?_
 rotate_left
 · rintro h' r (h | ⟨rfl, rfl, rfl⟩)
   · exact .inl h
   · exact .inr ⟨rfl, rfl, rfl⟩
 have hro := rowsOk_tks l
 refine Y6 Tryz.func85 rfl (Z1 rfl) hG fun hl0 _ => ?_
 simp only [Tryz.ntmps85]
 repeat' first
  | (with_reducible refine Y7 ?_; first | (refine ao_ex rfl (tri_nil (k := 2) (xs := l.map tkX) (by kernel_rfl)) ?_; rintro _ _ ⟨rfl, ⟨rfl, hnil⟩ | rfl⟩) | refine ao_appR rfl rfl rfl (by (simp only [go_sem]; rfl)) (by simp) (by simp only [go_sem]; rfl) rfl (by assumption) (by (simp; omega)) ?_)
  | refine g0 ?_
  | fail
 · exact ⟨.inr rfl, endD (r := .v _) hl0 rfl (by simp) (by simp) rfl (by rw [low]; trivial) (.inr ⟨by simpa using hnil, rfl, rfl⟩)⟩
 · exact ⟨.inr rfl, endBk (n := l.length) (rows := l.map tkX) rfl (T := []) rfl (by simp) (by simp) (by have := Uk 1 l; rwa [low] at this) (.inl ⟨rfl, rfl⟩)⟩
theorem clone_tk (l : List Tk) (hl : l.length ≤ 100000) (h : List Ob) : Does Zd G 85 h [.sl 2 (l.map tkX)] (fun h' r => h' = h ∧ r = .sl 2 (l.map tkX)) := 
 Does.gave0 hG (Uk 0 l) (by rw [lowL, lowL]; exact ⟨Uk 0 l, trivial⟩) (by simp) (cloneT0 G hG l hl) h
theorem dec_set (l : Lat) (v : Val) (h4 : l.kind = 4) (hv : VSm v) (hno : W6 v ≤ 1000) : DecOk G l v := by
 unfold DecOk
 have hN := V1 v
 have hd : decV l v = v.names.map fun n => .mk 0 [n] [] [] := by
  obtain ⟨k, lo, hi, ns, ps, rs⟩ := l
  simp only [Lat.kind] at h4
  subst h4
  exact dec_4
 have hlow := Za7 3 l v
 unfold dB at hlow ⊢
 rw [hd, Z0] at *
 refine Y6 Tryz.func42 rfl (Z1 rfl) hG fun hl0 _ => ?_
 simp only [Tryz.ntmps42]
 have F : _ ∧ _ ∧ _ := ⟨Y4 l, Y5 v, h4⟩
 repeat' first
  | (with_reducible refine Ya ?_; (refine Vf 30 4 5 (by with_unfolding_all rfl) ?_))
  | refine g0 ?_
  | fail
 all_goals first | (exfalso; omega) | skip
 refine Yf (fun m e h' => ∃ (k : Nat) (T : List Ob), k ≤ v.names.length ∧ m = v.names.length - k ∧ h' = n3 (.cells (latX l)) (.cells (vaX v)) (.buf 30 4 (((v.names.take k).map fun n => Val.mk 0 [n] [] []).map vaX)) T ∧ e 5 = .buf 2 k ∧ e 33 = .sl 1 (v.names.map strX) ∧ e 34 = .v (.int .i64 v.names.length) ∧ e 35 = .v (.int .i64 k)) v.names.length ⟨0, [], Zv _, rfl, by rw [Y4 l, Y5 v, h4]; rfl, rfl, rfl, rfl, rfl⟩ ?_
 rintro m e h' ⟨k, T, hk, rfl, rfl, e5, e33, e34, e35⟩
 by_cases hlt : k < v.names.length
 rotate_left
 · obtain rfl : k = v.names.length := by omega
   rw [Zt]
   have F : _ ∧ _ ∧ _ ∧ _ ∧ _ ∧ _ := ⟨Y4 l, Y5 v, e5, e33, e34, e35⟩
   repeat' first
    | refine gg ?_
    | refine Two.mk (fun hq => ?_) fun hq => ?_
    | refine Evry.mk fun x hx => ?_
    | (exfalso; omega)
   all_goals first | (exfalso; omega) | exact ⟨.inr rfl, endX [.buf 2 v.names.length] [.cells (latX l), .cells (vaX v), .buf 30 4 ((v.names.map fun n => Val.mk 0 [n] [] []).map vaX)] T (.buf 2 v.names.length) rfl (by simp only [Y4 l, Y5 v, h4]; rfl) (by simp) hlow (by rw [low]; simp) (by simp [outD, cvD, cv1]) ⟨rfl, rfl⟩⟩
 have hx : v.names[k]? = some v.names[k] := Z4 hlt
 have wk : IntKind.i64.wrap ((k : Int) + 1) = (k : Int) + 1 := IntWalk.i64_in _ (by omega)
 have htk : ((v.names.take (k + 1)).map fun n => Val.mk 0 [n] [] []).map vaX = ((v.names.take k).map fun n => Val.mk 0 [n] [] []).map vaX ++ [[.v (.int .i64 0), .sl 1 [[.v (.string v.names[k])]], .sl 4 [], .sl 2 []]] := by
  rw [Zk, hx, Z8, Z8]
  simp [Y5, Val.n, Val.names, Val.parts, Val.entries, Xt]
 generalize v.names[k] = s at hx htk
 have hlr : (((v.names.take k).map fun n => Val.mk 0 [n] [] []).map vaX).length = k := by rw [Z0, Z0, Zu, Zw hk]
 have hro : X3 4 [[D.v (.int .i64 0), .sl 1 [[D.v (.string s)]], .sl 4 [], .sl 2 []]] := fun row hr => by rw [Zy.1 hr]; exact ⟨rfl, fun d hd => by simp at hd; rcases hd with rfl | rfl | rfl | rfl <;> rfl⟩
 have F : _ ∧ _ ∧ _ ∧ _ ∧ _ ∧ _ ∧ _ := ⟨Y4 l, Y5 v, e5, e33, e34, e35, wk⟩
 repeat' first
  | (with_reducible refine Y7 ?_; first | (refine Zw7 42 (.agg [.v (.int .i64 0), .sl 1 [[.v (.string s)]], .v (.slice none 0 0), .v (.slice none 0 0)]) (.agg [.v (.int .i64 0), .sl 1 [[.v (.string s)]], .sl 4 [], .sl 2 []]) (by with_unfolding_all rfl) (Us (X6 _) Yn Yn) ?_) | (refine Ys3 rfl (by (simp only [go_sem, F]; rfl)) (by simp) ?_) | (refine W1 rfl rfl rfl rfl (by (simp only [go_sem, F]; rfl)) hlr (by simp only [go_sem, F]; rfl) (by (simp only [go_sem, F]; rfl)) (by simp) hro (by first | omega | (simp; omega)) ?_))
  | refine gg ?_
  | refine Two.mk (fun hq => ?_) fun hq => ?_
  | (exfalso; omega)
 all_goals first | (exfalso; omega) | exact ⟨rfl, v.names.length - (k + 1), by omega, k + 1, _, hlt, rfl, (by rw [Y4 l, Y5 v, htk]), rfl, e33, e34, rfl⟩
theorem dec_reg (l : Lat) (v : Val) (h9 : l.kind = 9) (hv : VSm v) (he : Yb l v = true) (hno : W6 v ≤ 1000) : DecOk G l v := by
 unfold DecOk
 have hN := V1 v
 have hreg : regB v.entries = true := by
  obtain ⟨k, lo, hi, ns, ps, rs⟩ := l
  simp only [Lat.kind] at h9
  subst h9
  exact (isE_9.1 he).2
 have hok := (Vt.1 hreg).1
 have hcl : ∀ x ∈ v.entries, ∀ h, Does Zd G 85 h [.sl 2 (x.clock.map tkX)] (fun h' r => h' = h ∧ r = .sl 2 (x.clock.map tkX)) := fun x hx => clone_tk G hG x.clock (by have := Zd3 x.clock (-1) (by decide) (hok x hx).2.1; omega)
 have hd : decV l v = v.entries.map fun x => .mk 0 [] [] [x] := by
  obtain ⟨k, lo, hi, ns, ps, rs⟩ := l
  simp only [Lat.kind] at h9
  subst h9
  exact dec_9
 have hlow := Za7 3 l v
 unfold dB at hlow ⊢
 rw [hd, Z0] at *
 refine Y6 Tryz.func42 rfl (Z1 rfl) hG fun hl0 _ => ?_
 simp only [Tryz.ntmps42]
 have F : _ ∧ _ ∧ _ := ⟨Y4 l, Y5 v, h9⟩
 repeat' first
  | (with_reducible refine Ya ?_; (refine Vf 30 4 5 (by with_unfolding_all rfl) ?_))
  | refine g0 ?_
  | fail
 all_goals first | (exfalso; omega) | skip
 refine Yf (fun m e h' => ∃ (k : Nat) (T : List Ob), k ≤ v.entries.length ∧ m = v.entries.length - k ∧ h' = n3 (.cells (latX l)) (.cells (vaX v)) (.buf 30 4 (((v.entries.take k).map fun x => Val.mk 0 [] [] [x]).map vaX)) T ∧ e 5 = .buf 2 k ∧ e 174 = .sl 2 (v.entries.map enX) ∧ e 175 = .v (.int .i64 v.entries.length) ∧ e 176 = .v (.int .i64 k)) v.entries.length ⟨0, [], Zv _, rfl, by rw [Y4 l, Y5 v, h9]; rfl, rfl, rfl, rfl, rfl⟩ ?_
 rintro m e h' ⟨k, T, hk, rfl, rfl, e5, e174, e175, e176⟩
 by_cases hlt : k < v.entries.length
 rotate_left
 · obtain rfl : k = v.entries.length := by omega
   rw [Zt]
   have F : _ ∧ _ ∧ _ ∧ _ ∧ _ ∧ _ := ⟨Y4 l, Y5 v, e5, e174, e175, e176⟩
   repeat' first
    | refine gg ?_
    | refine Two.mk (fun hq => ?_) fun hq => ?_
    | refine Evry.mk fun x hx => ?_
    | (exfalso; omega)
   all_goals first | (exfalso; omega) | exact ⟨.inr rfl, endX [.buf 2 v.entries.length] [.cells (latX l), .cells (vaX v), .buf 30 4 ((v.entries.map fun x => Val.mk 0 [] [] [x]).map vaX)] T (.buf 2 v.entries.length) rfl (by simp only [Y4 l, Y5 v, h9]; rfl) (by simp) hlow (by rw [low]; simp) (by simp [outD, cvD, cv1]) ⟨rfl, rfl⟩⟩
 have hx : v.entries[k]? = some v.entries[k] := Z4 hlt
 have wk : IntKind.i64.wrap ((k : Int) + 1) = (k : Int) + 1 := IntWalk.i64_in _ (by omega)
 have htk : ((v.entries.take (k + 1)).map fun x => Val.mk 0 [] [] [x]).map vaX = ((v.entries.take k).map fun x => Val.mk 0 [] [] [x]).map vaX ++ [[.v (.int .i64 0), .sl 1 [], .sl 4 [], .sl 2 [enX v.entries[k]]]] := by
  rw [Zk, hx, Z8, Z8]
  simp [Y5, Val.n, Val.names, Val.parts, Val.entries]
 have hc1 := hcl _ (List.getElem_mem hlt)
 generalize v.entries[k] = x at hx htk hc1
 rw [Vc x] at htk
 have hlr : (((v.entries.take k).map fun x => Val.mk 0 [] [] [x]).map vaX).length = k := by rw [Z0, Z0, Zu, Zw hk]
 have hro : X3 4 [[D.v (.int .i64 0), .sl 1 [], .sl 4 [], .sl 2 [[.sl 2 (x.clock.map tkX), .v (.string x.name)]]]] := fun row hr => by rw [Zy.1 hr]; exact ⟨rfl, fun d hd => by simp at hd; rcases hd with rfl | rfl | rfl | rfl <;> rfl⟩
 have hle : lowL 0 [D.agg [.sl 2 (x.clock.map tkX), .v (.string x.name)]] := by have := Yj4 0 x; rw [lowL, lowL, low]; exact ⟨this, trivial⟩
 have hlr2 : low 0 (.sl 2 [[.sl 2 (x.clock.map tkX), .v (.string x.name)]]) := Xp 0 [x] fun x _ => Yj4 0 x
 have hlv : lowL 0 [D.agg [.v (.int .i64 0), .sl 1 [], .sl 4 [], .sl 2 [[.sl 2 (x.clock.map tkX), .v (.string x.name)]]]] := by have := Yd 0 (.mk 0 [] [] [x]); rw [Y5] at this; rw [lowL, lowL, low]; exact ⟨this, trivial⟩
 have hlv2 : low 0 (.sl 4 [[.v (.int .i64 0), .sl 1 [], .sl 4 [], .sl 2 [[.sl 2 (x.clock.map tkX), .v (.string x.name)]]]]) := by have := Wf 0 [Val.mk 0 [] [] [x]]; simpa [Y5, Val.n, Val.names, Val.parts, Val.entries, Vc] using this
 have F : _ ∧ _ ∧ _ ∧ _ ∧ _ ∧ _ ∧ _ ∧ _ := ⟨Y4 l, Y5 v, Vc x, e5, e174, e175, e176, wk⟩
 repeat' first
  | (with_reducible refine Ya ?_; refine Zk3 2 mixd (by kernel_rfl) ?_)
  | ((with_reducible refine gd_bS ?_); first | (refine Ju (i := T.length + 1 + 3) hG rfl rfl (by simp only [litD, X1, go_sem, Z9, Z7, Zh, Zf, and_self, Vc x, ↓reduceIte, Z2, Z5, Z3, Za, Zb]; rfl) (by (first | (simp only [go_sem, F]; rfl) | (simp only [go_sem, F]; done))) (by show lowL 0 [ev G _ (.tmp 186)]; simp only [go_sem, F]; exact hle) (by exact hlr2) ?_) | (refine Ys0 rfl rfl rfl (by (first | (simp only [go_sem, F]; rfl) | (simp only [go_sem, F]; done))) (by simp) fun K HK => ?_; simp only [go_sem, F]; refine HK _ _ rfl ⟨_, Us Yn Yn (X6 _), ?_⟩; clear HK K) | (refine Ju (i := T.length + 2 + 3) hG rfl rfl (by simp only [litD, X1, go_sem, Z9, Z7, Zh, Zf, and_self, Vc x, ↓reduceIte, Z2, Z5, Z3, Za, Zb]; rfl) (by (first | (simp only [go_sem, F]; rfl) | (simp only [go_sem, F]; done))) (by show lowL 0 [ev G _ (.tmp 188)]; simp only [go_sem, F]; exact hlv) (by exact hlv2) ?_) | (refine Yf7 rfl rfl rfl rfl (by (first | (simp only [go_sem, F]; rfl) | (simp only [go_sem, F]; done))) hlr (by simp only [go_sem, F]; rfl) (by (first | (simp only [go_sem, F]; rfl) | (simp only [go_sem, F]; done))) (by simp) hro (by first | omega | (simp; omega)) ?_) | (refine bS1 rfl rfl fun K HK => ?_; simp only [go_sem, F]; (first | refine Yt (fun hq => ?_) (fun hq => ?_) | (refine ⟨by omega, by omega, ?_⟩; refine Xf (by assumption) ?_) | skip) <;> (refine HK _ _ rfl ?_; clear HK K)) | refine Zd4 rfl rfl rfl (by (first | (simp only [go_sem, F]; rfl) | (simp only [go_sem, F]; done))) (by rw [getD_one (by simp only [go_sem, F])]; rfl) ?_ | refine Yl2 (by simp only [Zl, Zn, Ze, Zc, cpFA, cpF1]; repeat' (first | exact trivial | refine Zz ?_ ?_ | exact .inr Yf3 | exact .inr Yk9 | exact .inr cmF_rr | exact .inr (Yf2 (by omega)) | exact .inr (Yk8 (by omega)) | (refine .inr ?_; simp [compF, reF, wrF, puF, nopF, Ja] <;> omega) | exact .inl (by kernel_rfl))) ?_ | refine bS_call0 rfl rfl rfl ent_85 (fun h2 => hc1 _) ?_)
  | refine gg ?_
  | refine Two.mk (fun hq => ?_) fun hq => ?_
  | (exfalso; omega)
 all_goals first | (exfalso; omega) | exact ⟨rfl, v.entries.length - (k + 1), by omega, k + 1, _, hlt, rfl, (by rw [Y4 l, Y5 v, htk]), rfl, e174, e175, rfl⟩
end
section
attribute [local irreducible] on aOp
attribute [local go_sem] decide_true decide_false Zo Zm
attribute [local simp] byD_len
section
variable {A B C a b c d w : Ob} {T l : List Ob}
theorem n3_e1 : (n3 A B C (T ++ [a, b, c, d]))[T.length + 3]? = some a := by simp [n3]
theorem n3_e2 : (n3 A B C (T ++ [a, b, c, d]))[T.length + 1 + 3]? = some b := by simp [n3]
theorem n3_e3 : (n3 A B C (T ++ [a, b, c, d]))[T.length + 2 + 3]? = some c := by simp [n3]
theorem n3_e4 : (n3 A B C (T ++ [a, b, c, d]))[T.length + 3 + 3]? = some d := by simp [n3]
theorem n3_f2 : (n3 A B C (T ++ [a, b, c, d])).set (T.length + 1 + 3) w = n3 A B C (T ++ [a, w, c, d]) := by simp [n3]
theorem n3_f3 : (n3 A B C (T ++ [a, b, c, d])).set (T.length + 2 + 3) w = n3 A B C (T ++ [a, b, w, d]) := by simp [n3]
theorem n3_f4 : (n3 A B C (T ++ [a, b, c, d])).set (T.length + 3 + 3) w = n3 A B C (T ++ [a, b, c, w]) := by simp [n3]
theorem holes_3 : holes 3 = [.hole, .hole, .hole] := rfl
end
theorem Zy5 {α β : Type} {L : List α} {F : α → List β} {k : Nat} {x : α} (hx : L[k]? = some x) : (L.take (k + 1)).flatMap F = (L.take k).flatMap F ++ F x := by
 rw [Zk, hx, List.flatMap_append]; simp
theorem fmV_le {α β : Type} (L : List α) (F : α → List β) (k : Nat) : ((L.take k).flatMap F).length ≤ (L.flatMap F).length := by
 conv => rhs; rw [← List.take_append_drop k L]
 rw [List.flatMap_append, Z6]
 omega
def mapD (s : ByteArray) (d : Val) : Val := .mk 0 [s] [d] []
def mapF (p : Lat) (x : ByteArray × Val) : List Val := (decV p x.2).map (mapD x.1)
theorem dec_5 {lo hi : Int} {ns : List ByteArray} {p : Lat} {rs : List Rl} {v : Val} : decV (.mk 5 lo hi ns [p] rs) v = (v.names.zip v.parts).flatMap (mapF p) := by
 rw [decV, if_neg (by decide), if_pos rfl, Yk6]; rfl
theorem Yl8 (s : ByteArray) (d : Val) : vaX (mapD s d) = [.v (.int .i64 0), .sl 1 [[.v (.string s)]], .sl 4 [vaX d], .sl 2 []] := by
 simp [mapD, Y5 (.mk 0 [s] [d] []), Val.n, Val.names, Val.parts, Val.entries, Xt]
variable (G : Nat → D) (hG : ∀ g, low 0 (G g))
include hG
attribute [local go_sem] Zq Zr Zs Zi Zj Zc Z6 Z9 Z0 Z7 Ze Z5 Za Z2 Z3 Zb holes_3 n3_0 n3_1 n3_2 Zl0 n3_e1 n3_e2 n3_e3 n3_e4 n3_f2 n3_f3 n3_f4 n3_l Ja Yh0 Yg9 Xt
attribute [local go_sem ↓] reduceIte
theorem dec_map (l : Lat) (v : Val) (h5 : l.kind = 5) (hwf : WfL l) (hv : VSm v) (he : Yb l v = true) (hno : W6 v ≤ 1000) (ih : ∀ p ∈ l.parts, ∀ x ∈ v.parts, DecOk G p x) : DecOk G l v := by
 unfold DecOk
 have hN := V1 v
 have hlen := Ua l v
 obtain ⟨p, hp⟩ := List.length_eq_one_iff.1 (hwf.kinds.2.1 h5)
 have hpm : p ∈ l.parts := by rw [hp]; simp
 have hx0 : l.parts[0]? = some p := by rw [hp]; rfl
 have hl1 : l.parts.length = 1 := by rw [hp]; rfl
 have hcl : v.names.length = v.parts.length := by
  have : Yb (.mk 5 l.lo l.hi l.names [p] l.rules) v = true := by rw [← hp, ← h5]; cases l; exact he
  exact (V5.1 this).2.1
 have hd : decV l v = (v.names.zip v.parts).flatMap (mapF p) := by
  obtain ⟨k, lo, hi, ns, ps, rs⟩ := l
  simp only [Lat.kind, Lat.parts] at h5 hp
  subst h5 hp
  exact dec_5
 have hl1000 : ((v.names.zip v.parts).flatMap (mapF p)).length ≤ 1000 := by rw [← hd]; omega
 have hre := fun x hx => (ih p hpm x hx).read G hG
 have hlow := Za7 3 l v
 unfold dB at hlow ⊢
 rw [hd] at *
 have hlz : (v.names.zip v.parts).length = v.names.length := by rw [List.length_zip]; omega
 clear ih hp
 simp only [Y4 p] at hre
 refine Y6 Tryz.func42 rfl (Z1 rfl) hG fun hl0 _ => ?_
 simp only [Tryz.ntmps42]
 repeat' first
  | (with_reducible first | refine sA rfl ?_ | refine sI rfl rfl ?_ | refine sT rfl ?_)
  | (with_reducible refine Ya ?_; first | (refine Vf 30 4 5 (by with_unfolding_all rfl) ?_))
  | (with_reducible refine Y7 ?_; first | refine Yp ?_ | (refine ao1 rfl rfl fun K HK => ?_; simp only [go_sem, Y4 l, Y5 v, h5, Zp] <;> (refine HK _ _ ?_; clear HK K)))
 all_goals first | (exfalso; omega) | skip
 refine Yf (fun m e h' => ∃ (k : Nat) (T : List Ob), k ≤ v.names.length ∧ m = v.names.length - k ∧ h' = n3 (.cells (latX l)) (.cells (vaX v)) (.buf 30 4 ((((v.names.zip v.parts).take k).flatMap (mapF p)).map vaX)) T ∧ e 2 = .ptr 0 0 ∧ e 3 = .ptr 1 0 ∧ e 5 = .buf 2 (((v.names.zip v.parts).take k).flatMap (mapF p)).length ∧ e 50 = .v (.int .i64 v.names.length) ∧ e 51 = .v (.int .i64 k)) v.names.length ⟨0, [], Zv _, rfl, by rw [Y4 l, Y5 v, h5]; rfl, rfl, rfl, rfl, rfl, rfl⟩ ?_
 rintro m e h' ⟨k, T, hk, rfl, rfl, e2, e3, e5, e50, e51⟩
 by_cases hlt : k < v.names.length
 rotate_left
 · obtain rfl : k = v.names.length := by omega
   rw [List.take_of_length_le (by omega)] at *
   have F : _ ∧ _ ∧ _ ∧ _ ∧ _ ∧ _ ∧ _ := ⟨Y4 l, Y5 v, e2, e3, e5, e50, e51⟩
   repeat' first
    | (with_reducible refine Ya ?_; refine Y8 mixd (by kernel_rfl) ?_)
    | refine gg ?_
    | refine Two.mk (fun hq => ?_) fun hq => ?_
    | (exfalso; omega)
   all_goals first | (exfalso; omega) | exact ⟨.inr rfl, endX [.buf 2 ((v.names.zip v.parts).flatMap (mapF p)).length] [.cells (latX l), .cells (vaX v), .buf 30 4 (((v.names.zip v.parts).flatMap (mapF p)).map vaX)] T (.buf 2 ((v.names.zip v.parts).flatMap (mapF p)).length) rfl (by simp only [Y4 l, Y5 v, h5]; rfl) (by simp) hlow (by rw [low]; simp) (by simp [outD, cvD, cv1]) ⟨rfl, rfl⟩⟩
 have hlp : k < v.parts.length := by omega
 have hs : v.names[k]? = some v.names[k] := Z4 hlt
 have hx : v.parts[k]? = some v.parts[k] := Z4 hlp
 have hz : (v.names.zip v.parts)[k]? = some (v.names[k], v.parts[k]) := by
  rw [Z4 (by omega), List.getElem_zip]
 have hrx := hre _ (List.getElem_mem hlp)
 have htk := Zy5 (F := mapF p) hz
 have hle := fmV_le (v.names.zip v.parts) (mapF p) (k + 1)
 generalize v.names[k] = s at *
 generalize v.parts[k] = x at *
 have hmF : mapF p (s, x) = (decV p x).map (mapD s) := rfl
 rw [htk, Z6, hmF, Z0] at hle
 have hle2 := Nat.le_trans hle hl1000
 rw [hmF] at htk
 generalize decV p x = L at *
 generalize ((v.names.zip v.parts).take k).flatMap (mapF p) = R at *
 have wk : IntKind.i64.wrap ((k : Int) + 1) = (k : Int) + 1 := IntWalk.i64_in _ (by omega)
 simp only [Y5 x] at hrx
 have F : _ ∧ _ ∧ _ ∧ _ ∧ _ ∧ _ ∧ _ ∧ _ ∧ _ ∧ _ ∧ _ := ⟨Y4 l, Y4 p, Y5 v, Y5 x, h5, hl1, e2, e3, e5, e50, e51⟩
 repeat' first
  | (with_reducible refine Ya ?_; refine X7 mixd (by kernel_rfl) ?_)
  | ((with_reducible refine Uf ?_); first | (refine aS1 rfl rfl fun K HK => ?_; simp only [go_sem, F]; (first | refine Yt (fun hq => ?_) (fun hq => ?_) | (refine ⟨by omega, by omega, ?_⟩; refine Xf (by assumption) ?_) | (refine ⟨by omega, ?_⟩; refine Xf (by assumption) ?_) | skip) <;> (refine HK _ _ rfl ?_; clear HK K)) | refine Xq rfl rfl rfl (by (simp only [go_sem, F]; rfl)) (by rw [getD_one (by simp only [go_sem, F])]; rfl) ?_ | refine Wv (by simp only [Zl, Zn, Ze, Zc, Wc, chk1]; repeat' (first | exact trivial | refine Zz ?_ ?_ | exact .inr Yq | exact .inr Yx | exact .inr X9)) ?_ | refine Xd rfl rfl rfl Yk2 (fun h2 => hrx _) ?_)
  | refine gg ?_
  | refine Two.mk (fun hq => ?_) fun hq => ?_
  | (exfalso; omega)
 all_goals first | (exfalso; omega) | skip
 refine Yf (fun m e h' => ∃ (i : Nat) (T : List Ob), i ≤ L.length ∧ m = L.length - i ∧ h' = n3 (.cells (latX l)) (.cells (vaX v)) (.buf 30 4 ((R ++ (L.take i).map (mapD s)).map vaX)) T ∧ e 2 = .ptr 0 0 ∧ e 3 = .ptr 1 0 ∧ e 5 = .buf 2 (R.length + i) ∧ e 8 = .v (.int .i64 k) ∧ e 50 = .v (.int .i64 v.names.length) ∧ e 51 = .v (.int .i64 k) ∧ e 63 = .sl 4 (L.map vaX) ∧ e 64 = .v (.int .i64 L.length) ∧ e 65 = .v (.int .i64 i)) L.length ⟨0, T, Zv _, rfl, by rw [Y4 l, Y5 v, h5, List.take_zero, Zx, List.append_nil], e2, e3, e5, rfl, e50, e51, rfl, rfl, rfl⟩ ?_
 rintro m e h' ⟨i, T, hi, rfl, rfl, e2, e3, e5, e8, e50, e51, e63, e64, e65⟩
 by_cases hli : i < L.length
 rotate_left
 · obtain rfl : i = L.length := by omega
   rw [Zt] at *
   have F : _ ∧ _ ∧ _ ∧ _ ∧ _ ∧ _ ∧ _ ∧ _ ∧ _ ∧ _ ∧ _ ∧ _ := ⟨Y4 l, Y5 v, e2, e3, e5, e8, e50, e51, e63, e64, e65, wk⟩
   repeat' first
    | refine gg ?_
    | refine Two.mk (fun hq => ?_) fun hq => ?_
    | refine Evry.mk fun x hx => ?_
    | (exfalso; omega)
   all_goals first | (exfalso; omega) | exact ⟨rfl, v.names.length - (k + 1), by omega, k + 1, T, hlt, rfl, (by rw [htk, Y4 l, Y5 v]), e2, e3, (by rw [htk, Z6, Z0]; exact e5), e50, rfl⟩
 have hLi : L[i]? = some L[i] := Z4 hli
 have wi : IntKind.i64.wrap ((i : Int) + 1) = (i : Int) + 1 := IntWalk.i64_in _ (by omega)
 have hti : (R ++ (L.take (i + 1)).map (mapD s)).map vaX = (R ++ (L.take i).map (mapD s)).map vaX ++ [vaX (mapD s L[i])] := by
  rw [Zk, hLi, Z8, Z8, Z8, Z8, Zj]; rfl
 generalize L[i] = d at hLi hti
 rw [Yl8] at hti
 have hlr : ((R ++ (L.take i).map (mapD s)).map vaX).length = R.length + i := by rw [Z0, Z6, Z0, Zu, Zw hi]
 have hlv0 : lowL 0 [D.agg (vaX d)] := by rw [lowL, lowL, low]; exact ⟨Yd 0 d, trivial⟩
 have hlv1 : low 0 (.sl 4 [vaX d]) := Xp 0 [d] fun x _ => Yd 0 x
 have hlw0 : lowL 0 [D.agg (vaX (mapD s d))] := by rw [lowL, lowL, low]; exact ⟨Yd 0 _, trivial⟩
 have hlw1 : low 0 (.sl 4 [vaX (mapD s d)]) := Xp 0 [mapD s d] fun x _ => Yd 0 x
 have hro := Zw9 (mapD s d)
 have hls : lowL 0 [D.v (.string s)] := by simp [lowL, low]
 rw [Yl8] at hlw0 hlw1 hro
 simp only [Y5 d] at hlv0 hlv1 hlw0 hlw1 hro hti
 have F : _ ∧ _ ∧ _ ∧ _ ∧ _ ∧ _ ∧ _ ∧ _ ∧ _ ∧ _ ∧ _ ∧ _ ∧ _ ∧ _ := ⟨Y4 l, Y5 v, Y5 d, h5, e2, e3, e5, e8, e50, e51, e63, e64, e65, wi⟩
 repeat' first
  | (with_reducible refine Ya ?_; refine Zk3 3 mixd (by kernel_rfl) ?_)
  | ((with_reducible refine gd_bS ?_); first | (refine Ju (i := T.length + 1 + 3) hG rfl rfl (by simp only [litD, X1, go_sem, Z9, Z7, Zh, Zf, and_self, Xt, Y5 d, ↓reduceIte, Z2, Z5, Z3, Za, Zb]; rfl) (by (first | (simp only [go_sem, F]; rfl) | (simp only [go_sem, F]; done))) (by show lowL 0 [ev G _ (.tmp 74)]; simp only [go_sem, F]; exact hls) (by exact low_strs0 [s]) ?_) | (refine Ju (i := T.length + 2 + 3) hG rfl rfl (by simp only [litD, X1, go_sem, Z9, Z7, Zh, Zf, and_self, Xt, Y5 d, ↓reduceIte, Z2, Z5, Z3, Za, Zb]; rfl) (by (first | (simp only [go_sem, F]; rfl) | (simp only [go_sem, F]; done))) (by show lowL 0 [ev G _ (.tmp 76)]; simp only [go_sem, F]; exact hlv0) (by exact hlv1) ?_) | (refine bS_bld2w rfl rfl rfl rfl (by omega) (by decide) (by (first | (simp only [go_sem, F]; rfl) | (simp only [go_sem, F]; done))) (by (first | (simp only [go_sem, F]; rfl) | (simp only [go_sem, F]; done))) (by simp) (by simp) fun K HK => ?_; simp only [go_sem, F]; refine HK _ _ rfl ⟨_, Us (X6 _) (X6 _) Yn, ?_⟩; clear HK K) | (refine Ju (i := T.length + 3 + 3) hG rfl rfl (by simp only [litD, X1, go_sem, Z9, Z7, Zh, Zf, and_self, Xt, Y5 d, ↓reduceIte, Z2, Z5, Z3, Za, Zb]; rfl) (by (first | (simp only [go_sem, F]; rfl) | (simp only [go_sem, F]; done))) (by show lowL 0 [ev G _ (.tmp 78)]; simp only [go_sem, F]; exact hlw0) (by exact hlw1) ?_) | (refine Yf7 rfl rfl rfl rfl (by (first | (simp only [go_sem, F]; rfl) | (simp only [go_sem, F]; done))) hlr (by simp only [go_sem, F]; rfl) (by (first | (simp only [go_sem, F]; rfl) | (simp only [go_sem, F]; done))) (by simp) hro (by first | omega | (simp; omega)) ?_) | (refine Zd4 rfl rfl (by first | rfl | (simp only [go_sem, F]; rfl)) (by (first | (simp only [go_sem, F]; rfl) | (simp only [go_sem, F]; done))) (by rw [getD_agg' aggT_30, szT_30]; rfl) ?_) | (refine bS1 rfl rfl fun K HK => ?_; simp only [go_sem, F]; (first | refine Yt (fun hq => ?_) (fun hq => ?_) | (refine ⟨by omega, by omega, ?_⟩; refine Xf (by assumption) ?_) | skip) <;> (refine HK _ _ rfl ?_; clear HK K)) | refine Zd4 rfl rfl rfl (by (first | (simp only [go_sem, F]; rfl) | (simp only [go_sem, F]; done))) (by rw [getD_one (by simp only [go_sem, F])]; rfl) ?_ | refine Yl2 (by simp only [Zl, Zn, Ze, Zc, cpFA, cpF1]; repeat' (first | exact trivial | refine Zz ?_ ?_ | exact .inr Yf3 | exact .inr Yk9 | exact .inr cmF_rr | exact .inr (Yf2 (by omega)) | exact .inr (cmF_wr (by omega)) | exact .inr (Yk8 (by omega)) | (refine .inr ?_; simp [compF, reF, wrF, puF, nopF, Ja] <;> omega) | exact .inl (by kernel_rfl))) ?_)
  | refine gg ?_
  | refine Two.mk (fun hq => ?_) fun hq => ?_
  | (exfalso; omega)
 all_goals first | (exfalso; omega) | exact ⟨rfl, L.length - (i + 1), by omega, i + 1, _, hli, rfl, (by rw [Y4 l, Y5 v, hti, h5]), e2, e3, rfl, e8, e50, e51, e63, e64, rfl⟩
end
section
section
variable {P : Program} {G : Nat → D} {n : Nat} {e : Nat → D} {h : List Ob} {ops : Array Oper} {rest : List Oper} {Q : S → Prop} {t : Nat} {ty : TypeId} {pos : String} {aft : Array Edge} {gd : Option (Nat × Bool)}
theorem Ys2 {u : TypeId} {x y : Operand} {i m E k : Nat} {κ : IntKind} {z : Int} {xs : List (List D)} (hw : Yg ops gd e = some true) (ht : decide (t < n) = true) (hx : ev G e x = .buf i m) (hy : ev G e y = .v (.int κ z)) (hi : h[i]? = some (.buf E k xs)) (hm : xs.length = m) (he : (elT P u).bind (szT P) = some k) (h0 : 0 ≤ z) (h1 : z < (m : Int))
 (q : ao P G ops rest Q ⟨n, upd e t (.bp i m z.toNat 0), h⟩) : ao P G ops (⟨some t, .indexAddr u x y, ty, pos, aft, gd⟩ :: rest) Q ⟨n, e, h⟩ := by
 refine ao1 hw ht fun K HK => ?_
 rw [aOp_iaddr, hx, hy, idxA_buf]
 exact ⟨E, k, xs, hi, hm, he, h0, h1, HK _ _ q⟩
theorem ao_loadB {u : TypeId} {x : Operand} {i m r j E k : Nat} {xs : List (List D)} {row : List D} {d : D} (hw : Yg ops gd e = some true) (ht : decide (t < n) = true) (hx : ev G e x = .bp i m r j) (hi : h[i]? = some (.buf E k xs)) (hm : xs.length = m) (hr : xs[r]? = some row) (hg : getD P u row j = some d)
 (q : ao P G ops rest Q ⟨n, upd e t d, h⟩) : ao P G ops (⟨some t, .load u x, ty, pos, aft, gd⟩ :: rest) Q ⟨n, e, h⟩ := by
 refine ao1 hw ht fun K HK => ?_
 show on (Jk P h u (ev G e x)) _
 rw [hx, Yp2 hi hm hr, hg]
 exact HK _ _ q
theorem ao_storeB {u : TypeId} {x y : Operand} {i m r j E k : Nat} {xs : List (List D)} {row es : List D} (hw : Yg ops gd e = some true) (hx : ev G e x = .bp i m r j) (hi : h[i]? = some (.buf E k xs)) (hm : xs.length = m) (hr : xs[r]? = some row) (hy : (ev G e y).cells = some es) (hc : (es.all D.one && szT P u == some es.length) = true) (hle : j + es.length ≤ row.length)
 (q : ao P G ops rest Q ⟨n, e, h.set i (.buf E k (xs.set r (putL row j es)))⟩) : ao P G ops (⟨none, .store u x y, ty, pos, aft, gd⟩ :: rest) Q ⟨n, e, h⟩ := by
 refine ao1' hw fun K HK => ?_
 show on (Up P h u (ev G e x) (ev G e y)) _
 rw [hx, storeD_bp hi hm hr hy hc hle]
 exact HK _ _ q
end
end
section
attribute [local irreducible] on aOp
attribute [local go_sem] decide_true decide_false Zo Zm
attribute [local simp] byD_len
section
variable {A B C c a0 a1 a2 a3 a4 a5 a6 b a8 w x : Ob} {T : List Ob}
theorem pD_b : (n3 A B C (T ++ [c, a0, a1, a2, a3, a4, a5, a6, b, a8, w]))[T.length + 1 + 3 + 7]? = some b := by simp [n3]
theorem pD_w : (n3 A B C (T ++ [c, a0, a1, a2, a3, a4, a5, a6, b, a8, w]))[T.length + 10 + 3]? = some w := by simp [n3]
theorem pD_c : (n3 A B C (T ++ [c, a0, a1, a2, a3, a4, a5, a6, b, a8, w]))[T.length + 3]? = some c := by simp [n3]
theorem pD_sb : (n3 A B C (T ++ [c, a0, a1, a2, a3, a4, a5, a6, b, a8, w])).set (T.length + 1 + 3 + 7) x = n3 A B C (T ++ [c, a0, a1, a2, a3, a4, a5, a6, x, a8, w]) := by simp [n3]
theorem pD_sw : (n3 A B C (T ++ [c, a0, a1, a2, a3, a4, a5, a6, b, a8, w])).set (T.length + 10 + 3) x = n3 A B C (T ++ [c, a0, a1, a2, a3, a4, a5, a6, b, a8, x]) := by simp [n3]
theorem pD_l : (n3 A B C (T ++ [c, a0, a1, a2, a3, a4, a5, a6, b, a8, w, x]))[T.length + 11 + 3]? = some x := by simp [n3]
end
theorem list9 {α : Type} {X : List α} (h : X.length = 9) {b : α} (h7 : X[7]? = some b) : ∃ a0 a1 a2 a3 a4 a5 a6 a8, X = [a0, a1, a2, a3, a4, a5, a6, b, a8] := by
 match X, h with
 | [a0, a1, a2, a3, a4, a5, a6, a7, a8], _ => cases h7; exact ⟨a0, a1, a2, a3, a4, a5, a6, a8, rfl⟩
def prdF (l : Lat) (v : Val) (k : Nat) : List Val := match l.parts[k]?, v.parts[k]? with
 | some p, some x => (decV p x).map fun d => .mk 0 [] ((l.parts.map botV).set k d) []
 | _, _ => []
def decK (ps : List Lat) (vs : List Val) (k : Nat) : List (List Val) := match ps[k]?, vs[k]? with
 | some p, some x => (decV p x).map fun d => (ps.map botV).set k d
 | _, _ => []
theorem decK_succ (p : Lat) (ps : List Lat) (v : Val) (vs : List Val) (k : Nat) : decK (p :: ps) (v :: vs) (k + 1) = (decK ps vs k).map fun l => botV p :: l := by
 unfold decK
 rw [List.getElem?_cons_succ, List.getElem?_cons_succ]
 cases ps[k]? with
 | none => rfl
 | some q => cases vs[k]? with
  | none => rfl
  | some w => simp
theorem Yk5 : ∀ (ps : List Lat) (vs : List Val), vs.length = ps.length → decs ps vs = (Zg ps.length).flatMap (decK ps vs)
 | [], vs, _ => by cases vs <;> simp [decs]
 | p :: ps, [], h => by simp at h
 | p :: ps, v :: vs, h => by
  rw [decs, Yk5 ps vs (by simpa using h), Z9, List.range_succ_eq_map, List.flatMap_cons, List.flatMap_map, List.map_flatMap]
  congr 1
  congr 1
  funext k
  exact (decK_succ p ps v vs k).symm
theorem dec_6 {lo hi : Int} {ns : List ByteArray} {ps : List Lat} {rs : List Rl} {v : Val} (h : v.parts.length = ps.length) : decV (.mk 6 lo hi ns ps rs) v = (Zg ps.length).flatMap (prdF (.mk 6 lo hi ns ps rs) v) := by
 rw [decV, if_neg (by decide), if_neg (by decide), if_pos rfl, Yk5 _ _ h, List.map_flatMap]
 congr 1
 funext k
 unfold prdF decK
 show _ = (match ps[k]?, v.parts[k]? with | some p, some x => _ | _, _ => _)
 cases ps[k]? with
 | none => rfl
 | some q => cases v.parts[k]? with
  | none => rfl
  | some w => simp [Lat.parts]
variable (G : Nat → D) (hG : ∀ g, low 0 (G g))
include hG
theorem bottomS (l : Lat) (hsm : Sm l) (hc : chkE l = 0) (h6 : l.kind = 6) (h : List Ob) : Does Zd G 83 h [.agg (latX l)] (fun h' r => ∃ a0 a1 a2 a3 a4 a5 a6 a8 : Ob, h' = h ++ [a0, a1, a2, a3, a4, a5, a6, .buf 30 4 (bPs l), a8] ∧ r = .agg [.v (.int .i64 0), .v (.slice none 0 0), .buf (h.length + 7) l.parts.length, .v (.slice none 0 0)]) :=
 (bottomR G hG l hsm hc h6 h).mono fun h' r ⟨X, h1, h2, h3, h4⟩ => by
  obtain ⟨a0, a1, a2, a3, a4, a5, a6, a8, rfl⟩ := list9 h1 h2
  exact ⟨a0, a1, a2, a3, a4, a5, a6, a8, h3, h4⟩
attribute [local go_sem] Zq Zr Zs Zi Zj Zc Z6 Z9 Z0 Z7 Ze Z5 Za Z2 Z3 Zb n3_0 n3_1 n3_2 Zl0 n3_l Ja Yh0 Yg9 pD_b pD_c pD_l pD_sb pD_sw pD_w
attribute [local go_sem ↓] reduceIte
theorem dec_prd (l : Lat) (v : Val) (h6 : l.kind = 6) (hsm : Sm l) (hc : chkE l = 0) (hv : VSm v) (he : Yb l v = true) (hno : W6 v ≤ 1000) (ih : ∀ (k : Nat) (p : Lat) (x : Val), l.parts[k]? = some p → v.parts[k]? = some x → DecOk G p x) : DecOk G l v := by
 unfold DecOk
 have hwf := Wt hc
 have hN := V1 v
 have hlen := Ua l v
 have hcl : v.parts.length = l.parts.length := ((el67 (k := 6) (lo := l.lo) (hi := l.hi) (ns := l.names) (ps := l.parts) (rs := l.rules) (v := v) (.inl rfl)).1 (by rw [← h6]; cases l; exact he)).1.1
 have hp8 := Zy0 hwf
 have hd : decV l v = (Zg l.parts.length).flatMap (prdF l v) := by
  obtain ⟨k, lo, hi, ns, ps, rs⟩ := l
  simp only [Lat.kind] at h6
  subst h6
  exact dec_6 hcl
 have hl1000 : ((Zg l.parts.length).flatMap (prdF l v)).length ≤ 1000 := by rw [← hd]; omega
 have hre := fun k p x h1 h2 => (ih k p x h1 h2).read G hG
 have hbo := bottomS G hG l hsm hc h6
 have hlow := Za7 3 l v
 unfold dB at hlow ⊢
 rw [hd] at *
 clear ih
 simp only [Y4 l, h6] at hbo
 refine Y6 Tryz.func42 rfl (Z1 rfl) hG fun hl0 _ => ?_
 simp only [Tryz.ntmps42]
 repeat' first
  | (with_reducible first | refine sA rfl ?_ | refine sI rfl rfl ?_ | refine sT rfl ?_)
  | (with_reducible refine Ya ?_; first | (refine Vf 30 4 5 (by with_unfolding_all rfl) ?_))
  | (with_reducible refine Y7 ?_; first | refine Yp ?_ | (refine ao1 rfl rfl fun K HK => ?_; simp only [go_sem, Y4 l, Y5 v, h6, Zp] <;> (refine HK _ _ ?_; clear HK K)))
 all_goals first | (exfalso; omega) | skip
 refine Yf (fun m e h' => ∃ (k : Nat) (T : List Ob), k ≤ l.parts.length ∧ m = l.parts.length - k ∧ h' = n3 (.cells (latX l)) (.cells (vaX v)) (.buf 30 4 ((((Zg l.parts.length).take k).flatMap (prdF l v)).map vaX)) T ∧ e 2 = .ptr 0 0 ∧ e 3 = .ptr 1 0 ∧ e 5 = .buf 2 (((Zg l.parts.length).take k).flatMap (prdF l v)).length ∧ e 87 = .v (.int .i64 l.parts.length) ∧ e 88 = .v (.int .i64 k)) l.parts.length ⟨0, [], Zv _, rfl, by rw [Y4 l, Y5 v, h6]; rfl, rfl, rfl, rfl, rfl, rfl⟩ ?_
 rintro m e h' ⟨k, T, hk, rfl, rfl, e2, e3, e5, e87, e88⟩
 by_cases hlt : k < l.parts.length
 rotate_left
 · obtain rfl : k = l.parts.length := by omega
   rw [List.take_of_length_le (by simp)] at *
   have F : _ ∧ _ ∧ _ ∧ _ ∧ _ ∧ _ ∧ _ := ⟨Y4 l, Y5 v, e2, e3, e5, e87, e88⟩
   repeat' first
    | (with_reducible refine Ya ?_; refine Y8 mixd (by kernel_rfl) ?_)
    | refine gg ?_
    | refine Two.mk (fun hq => ?_) fun hq => ?_
    | refine Evry.mk fun x hx => ?_
    | (exfalso; omega)
   all_goals first | (exfalso; omega) | exact ⟨.inr rfl, endX [.buf 2 ((Zg l.parts.length).flatMap (prdF l v)).length] [.cells (latX l), .cells (vaX v), .buf 30 4 (((Zg l.parts.length).flatMap (prdF l v)).map vaX)] T (.buf 2 ((Zg l.parts.length).flatMap (prdF l v)).length) rfl (by simp only [Y4 l, Y5 v, h6]; rfl) (by simp) hlow (by rw [low]; simp) (by simp [outD, cvD, cv1]) ⟨rfl, rfl⟩⟩
 have hlp : k < v.parts.length := by omega
 have hs : l.parts[k]? = some l.parts[k] := Z4 hlt
 have hx : v.parts[k]? = some v.parts[k] := Z4 hlp
 have hz : (Zg l.parts.length)[k]? = some k := by rw [List.getElem?_range hlt]
 have hrx := hre k _ _ hs hx
 have htk := Zy5 (F := prdF l v) hz
 have hle := fmV_le (Zg l.parts.length) (prdF l v) (k + 1)
 have hmF : prdF l v k = (decV l.parts[k] v.parts[k]).map fun d => .mk 0 [] ((l.parts.map botV).set k d) [] := by unfold prdF; rw [hs, hx]
 rw [htk, Z6, hmF, Z0] at hle
 have hle2 := Nat.le_trans hle hl1000
 rw [hmF] at htk
 generalize l.parts[k] = p at *
 generalize v.parts[k] = x at *
 generalize decV p x = L at *
 generalize ((Zg l.parts.length).take k).flatMap (prdF l v) = R at *
 have wk : IntKind.i64.wrap ((k : Int) + 1) = (k : Int) + 1 := IntWalk.i64_in _ (by omega)
 simp only [Y4 p, Y5 x] at hrx
 have F : _ ∧ _ ∧ _ ∧ _ ∧ _ ∧ _ ∧ _ ∧ _ ∧ _ ∧ _ := ⟨Y4 l, Y4 p, Y5 v, Y5 x, h6, e2, e3, e5, e87, e88⟩
 repeat' first
  | (with_reducible refine Ya ?_; refine X7 mixd (by kernel_rfl) ?_)
  | ((with_reducible refine Uf ?_); first | (refine aS1 rfl rfl fun K HK => ?_; simp only [go_sem, F]; (first | refine Yt (fun hq => ?_) (fun hq => ?_) | (refine ⟨by omega, by omega, ?_⟩; refine Xf (by assumption) ?_) | skip) <;> (refine HK _ _ rfl ?_; clear HK K)) | refine Xq rfl rfl rfl (by (simp only [go_sem, F]; rfl)) (by rw [getD_one (by simp only [go_sem, F])]; rfl) ?_ | refine Wv (by simp only [Zl, Zn, Ze, Zc, Wc, chk1]; repeat' (first | exact trivial | refine Zz ?_ ?_ | exact .inr Yq | exact .inr Yx | exact .inr X9)) ?_ | refine Xd rfl rfl rfl Yk2 (fun h2 => hrx _) ?_)
  | refine gg ?_
  | refine Two.mk (fun hq => ?_) fun hq => ?_
  | (exfalso; omega)
 all_goals first | (exfalso; omega) | skip
 refine Yf (fun m e h' => ∃ (i : Nat) (T : List Ob), i ≤ L.length ∧ m = L.length - i ∧ h' = n3 (.cells (latX l)) (.cells (vaX v)) (.buf 30 4 ((R ++ (L.take i).map fun d => Val.mk 0 [] ((l.parts.map botV).set k d) []).map vaX)) T ∧ e 2 = .ptr 0 0 ∧ e 3 = .ptr 1 0 ∧ e 5 = .buf 2 (R.length + i) ∧ e 11 = .v (.int .i64 k) ∧ e 87 = .v (.int .i64 l.parts.length) ∧ e 88 = .v (.int .i64 k) ∧ e 101 = .sl 4 (L.map vaX) ∧ e 102 = .v (.int .i64 L.length) ∧ e 103 = .v (.int .i64 i)) L.length ⟨0, T, Zv _, rfl, by rw [Y4 l, Y5 v, h6, List.take_zero, Zx, List.append_nil], e2, e3, e5, rfl, e87, e88, rfl, rfl, rfl⟩ ?_
 rintro m e h' ⟨i, T, hi, rfl, rfl, e2, e3, e5, e11, e87, e88, e101, e102, e103⟩
 by_cases hli : i < L.length
 rotate_left
 · obtain rfl : i = L.length := by omega
   rw [Zt] at *
   have F : _ ∧ _ ∧ _ ∧ _ ∧ _ ∧ _ ∧ _ ∧ _ ∧ _ ∧ _ ∧ _ ∧ _ := ⟨Y4 l, Y5 v, e2, e3, e5, e11, e87, e88, e101, e102, e103, wk⟩
   repeat' first
    | refine gg ?_
    | refine Two.mk (fun hq => ?_) fun hq => ?_
    | refine Evry.mk fun x hx => ?_
    | (exfalso; omega)
   all_goals first | (exfalso; omega) | exact ⟨rfl, l.parts.length - (k + 1), by omega, k + 1, T, hlt, rfl, (by rw [htk, Y4 l, Y5 v]), e2, e3, (by rw [htk, Z6, Z0]; exact e5), e87, rfl⟩
 have hLi : L[i]? = some L[i] := Z4 hli
 have wi : IntKind.i64.wrap ((i : Int) + 1) = (i : Int) + 1 := IntWalk.i64_in _ (by omega)
 have hti : (R ++ (L.take (i + 1)).map fun d => Val.mk 0 [] ((l.parts.map botV).set k d) []).map vaX = (R ++ (L.take i).map fun d => Val.mk 0 [] ((l.parts.map botV).set k d) []).map vaX ++ [vaX (.mk 0 [] ((l.parts.map botV).set k L[i]) [])] := by
  rw [Zk, hLi, Z8, Z8, Z8, Z8, Zj]; rfl
 generalize L[i] = d at hLi hti
 have hva : vaX (.mk 0 [] ((l.parts.map botV).set k d) []) = [.v (.int .i64 0), .sl 1 [], .sl 4 ((bPs l).set k (vaX d)), .sl 2 []] := by
  rw [Y5]
  simp only [Val.n, Val.names, Val.parts, Val.entries, Zx, bPs, List.map_set]
 rw [hva] at hti
 have hlr : ((R ++ (L.take i).map fun d => Val.mk 0 [] ((l.parts.map botV).set k d) []).map vaX).length = R.length + i := by rw [Z0, Z6, Z0, Zu, Zw hi]
 have hro := Zw9 (.mk 0 [] ((l.parts.map botV).set k d) [])
 rw [hva] at hro
 have hbl : (bPs l).length = l.parts.length := by simp [bPs]
 have hrow : (bPs l)[k]? = some (vaX (botV p)) := by simp [bPs, hs]
 have hput : putL (vaX (botV p)) 0 (vaX d) = vaX d := by simp [Y5, putL]
 simp only [Y5 d] at hti hro hput
 have F : _ ∧ _ ∧ _ ∧ _ ∧ _ ∧ _ ∧ _ ∧ _ ∧ _ ∧ _ ∧ _ ∧ _ ∧ _ ∧ _ := ⟨Y4 l, Y5 v, Y5 d, h6, e2, e3, e5, e11, e87, e88, e101, e102, e103, wi⟩
 repeat' first
  | (with_reducible refine Y7 ?_; first | (refine Yf9 (t := 115) (j := T.length + 1 + 3 + 7) (d' := .agg [.v (.int .i64 0), .v (.slice none 0 0), .sl 4 ((bPs l).set k [.v (.int .i64 d.n), .sl 1 (d.names.map strX), .sl 4 (d.parts.map vaX), .sl 2 (d.entries.map enX)]), .v (.slice none 0 0)]) (by with_unfolding_all rfl) (by with_unfolding_all rfl) (by with_unfolding_all rfl) (by (simp only [go_sem, F]; rfl)) (by with_unfolding_all (rw [getD_agg' aggT_30, szT_30]; rfl)) (by simp [cvD, cv1, pD_b, pD_sb, hput, hbl]) ?_) | (refine Zw7 115 (.agg [.v (.int .i64 0), .v (.slice none 0 0), .sl 4 ((bPs l).set k [.v (.int .i64 d.n), .sl 1 (d.names.map strX), .sl 4 (d.parts.map vaX), .sl 2 (d.entries.map enX)]), .v (.slice none 0 0)]) (.agg [.v (.int .i64 0), .sl 1 [], .sl 4 ((bPs l).set k [.v (.int .i64 d.n), .sl 1 (d.names.map strX), .sl 4 (d.parts.map vaX), .sl 2 (d.entries.map enX)]), .sl 2 []]) (by with_unfolding_all rfl) (Us Yn (X6 _) Yn) ?_) | (refine W1 rfl rfl rfl rfl (by (simp only [go_sem, F]; rfl)) hlr (by simp only [go_sem, F]; rfl) (by (simp only [go_sem, F]; rfl)) (by simp) hro (by first | omega | (simp; omega)) ?_))
  | ((with_reducible refine Y7 ?_); first | (refine Ys2 rfl rfl rfl rfl (by (simp only [go_sem, F]; rfl)) hbl (by rw [elT_27]; exact szT_30) (by omega) (by omega) ?_) | (refine ao_storeB rfl rfl (by (simp only [go_sem, F]; rfl)) hbl (by rw [Zi]; exact hrow) rfl (by rw [szT_30]; rfl) (by rw [Xn]; exact Nat.le_refl 4) ?_))
  | refine gg ?_
  | refine Two.mk (fun hq => ?_) fun hq => ?_
  | (with_reducible refine Y7 ?_; (refine ao2 rfl rfl rfl ent_83 (hbo _) ?_; rintro _ _ ⟨a0, a1, a2, a3, a4, a5, a6, a8, rfl, rfl⟩))
  | (exfalso; omega)
 all_goals first | (exfalso; omega) | exact ⟨rfl, L.length - (i + 1), by omega, i + 1, _, hli, rfl, (by rw [Y4 l, Y5 v, hti, h6]), e2, e3, rfl, e11, e87, e88, e101, e102, rfl⟩
end
section
attribute [local irreducible] on aOp
attribute [local go_sem] decide_true decide_false Zo Zm
attribute [local simp] byD_len
variable (G : Nat → D) (hG : ∀ g, low 0 (G g))
include hG
attribute [local go_sem] Zq Zr Zs Zc Z9 Z0 Z7 Ze Z5 Za Z2 Z3 Zb holes_3
attribute [local go_sem ↓] reduceIte
theorem put_d (v x y : Val) (k : Nat) (hx : v.parts[k]? = some y) (hn : v.names.length ≤ 1000000) (hp : v.parts.length ≤ 1000000) (h : List Ob) : Does Zd G 94 h [.agg (vaX v), .v (.int .i64 k), .agg (vaX x)] (fun h' r => h' = h ∧ r = .agg (vaX (.mk 0 v.names (v.parts.set k x) []))) := by
 refine Y9 G hG (by simp only [lowL, low]; exact ⟨Yd _ v, trivial, Yd _ x, trivial⟩) (by rw [low]; exact Yd _ _) ?_ h
 clear h
 apply Does.weak
 have hkl : k < v.parts.length := (List.getElem?_eq_some_iff.1 hx).1
 have hrow : (v.parts.map vaX)[((k : Nat) : Int).toNat]? = some (vaX y) := by rw [Zi, List.getElem?_map, hx]; rfl
 have hput : putL (vaX y) 0 (vaX x) = vaX x := by simp [Y5, putL]
 have hro1 := rowsOk_strs v.names
 have hro2 : X3 4 (v.parts.map vaX) := fun row hr => by obtain ⟨z, _, rfl⟩ := List.mem_map.1 hr; exact ⟨Xn z, List.all_eq_true.1 (Zb4 z)⟩
 have hml : (v.parts.map vaX).length = v.parts.length := Z0 _
 have hres : vaX (.mk 0 v.names (v.parts.set k x) []) = [.v (.int .i64 0), .sl 1 (v.names.map strX), .sl 4 ((v.parts.map vaX).set k (vaX x)), .sl 2 []] := by
  rw [Y5]; simp only [Val.n, Val.names, Val.parts, Val.entries, Zx, List.map_set]
 rw [hres]
 have hlo := Yd 0 (.mk 0 v.names (v.parts.set k x) [])
 rw [hres] at hlo
 refine Y6 Tryz.func94 rfl (Z1 rfl) hG fun hl0 _ => ?_
 simp only [Tryz.ntmps94]
 have F : _ ∧ _ := ⟨Y5 v, Y5 x⟩
 repeat' first
  | (with_reducible refine Ya ?_; refine Zk3 3 mixd (by kernel_rfl) ?_)
  | ((with_reducible refine gd_bS ?_); first | (refine Ju (t := 8) (i := 3) hG rfl rfl (by simp only [litD, X1, go_sem, Z7, Zh, Zf, and_self, ↓reduceIte, Z2, Z5, Z3, Za, Zb]; rfl) (by (first | (simp only [go_sem, F]; rfl) | (simp only [go_sem, F]; done))) (by simp [opds, Op.operands, lowL]) (by simp [low, lowR]) ?_) | (refine bS_apR rfl rfl rfl (by (first | (simp only [go_sem, F]; rfl) | (simp only [go_sem, F]; done))) (by simp) (by simp only [go_sem, F]; rfl) rfl hro1 (by first | omega | (simp; omega)) ?_) | (refine Ju (t := 12) (i := 4) hG rfl rfl (by simp only [litD, X1, go_sem, Z7, Zh, Zf, and_self, ↓reduceIte, Z2, Z5, Z3, Za, Zb]; rfl) (by (first | (simp only [go_sem, F]; rfl) | (simp only [go_sem, F]; done))) (by simp [opds, Op.operands, lowL]) (by simp [low, lowR]) ?_) | (refine bS_apR rfl rfl rfl (by (first | (simp only [go_sem, F]; rfl) | (simp only [go_sem, F]; done))) (by simp) (by simp only [go_sem, F]; rfl) rfl hro2 (by first | omega | (simp; omega)) ?_) | (refine bS_alloc (i := 5) hG rfl rfl (by simp only [go_sem, F]; rfl) (by (first | (simp only [go_sem, F]; rfl) | (simp only [go_sem, F]; done))) (by simp [lowL, low]) ?_) | (refine bS1 rfl rfl fun K HK => ?_; simp only [go_sem, F] <;> (refine HK _ _ rfl ?_; clear HK K)) | refine Zd4 rfl rfl rfl (by (first | (simp only [go_sem, F]; rfl) | (simp only [go_sem, F]; done))) (by rw [getD_one (by simp only [go_sem, F])]; rfl) ?_ | refine bS_store rfl rfl (by (first | (simp only [go_sem, F]; rfl) | (simp only [go_sem, F]; done))) rfl (by simp only [go_sem, F]) (by simp) ?_ | refine Yl2 (by simp only [Zl, Zn, Ze, Zc, cpFA, cpF1]; repeat' (first | exact trivial | refine Zz ?_ ?_ | exact .inr Yf3 | exact .inr Yk9 | exact .inr cmF_rr | exact .inr (Yf2 (by omega)) | exact .inr (cmF_wr (by omega)) | exact .inr (Yk8 (by omega)) | exact .inl (by kernel_rfl))) ?_)
  | ((with_reducible refine Y7 ?_); first | (refine Ys2 rfl rfl rfl rfl (by (first | (simp only [go_sem, F]; rfl) | (simp only [go_sem, F]; done))) (by simp) (by rw [elT_27]; exact szT_30) (by omega) (by simp; omega) ?_) | (refine ao_storeB rfl rfl (by (first | (simp only [go_sem, F]; rfl) | (simp only [go_sem, F]; done))) (by simp) hrow rfl (by rw [szT_30]; rfl) (by rw [Xn]; exact Nat.le_refl 4) ?_))
  | refine g0 ?_
  | fail
 simp only [Y5 x] at hput hlo ⊢
 all_goals first | (exfalso; omega) | exact ⟨by simp, endD (ds := [.agg [.v (.int .i64 0), .buf 3 v.names.length, .buf 4 v.parts.length, .v (.slice none 0 0)]]) (r := .agg [.v (.int .i64 0), .sl 1 (v.names.map strX), .sl 4 ((v.parts.map vaX).set k [.v (.int .i64 x.n), .sl 1 (x.names.map strX), .sl 4 (x.parts.map vaX), .sl 2 (x.entries.map enX)]), .v (.slice none 0 0)]) hl0 (by simp only [resD, Tryz.results94, go_sem, ↓reduceIte, Z2, Z5, Z3]; try rfl) (by simp) (by simp) (by simp [outD, cvD, cv1, hput]) (by simp only [low, lowL] at hlo ⊢; exact ⟨trivial, hlo.2.1, hlo.2.2.1, trivial, trivial⟩) ⟨_, ⟨rfl, rfl⟩, Us (X6 _) (X6 _) Yn⟩⟩
end
section
attribute [local irreducible] on aOp
attribute [local go_sem] decide_true decide_false Zo Zm
attribute [local simp] byD_len
variable (G : Nat → D) (hG : ∀ g, low 0 (G g))
include hG
theorem valid_x (v : List ByteArray) (hv : VSm (vE v)) (h1 : Zz5 lE (vE v) = true) (h : List Ob) : Does Zd G 80 h [.agg lD, .agg (vD v)] (fun h' r => h' = h ∧ r = .v (.bool true)) := by
 have q := valid_v G hG lE sm_E (vE v) hv h
 rw [h1, lE_eq, vE_eq] at q
 exact q
theorem check_x (h : List Ob) : Does Zd G 79 h [.agg lD] (fun h' r => h' = h ∧ r = .v (.int .i64 0)) := by
 have q := Zi4 G hG lE sm_E h
 rw [show chkE lE = 0 by kernel_rfl, lE_eq] at q
 exact q
attribute [local go_sem] Zp Zq Zr Zs Zc Z9 Z0 Z7 List.map_cons Zx Ze Z5 Za Z2 Z3 Zb n2E Xt
attribute [local go_sem ↓] reduceIte
theorem elements_x (h : List Ob) : Does Zd G 122 h [.agg lD, .sl 4 [vD [tX, tY], vD [tY, tZ]]] (fun h' r => h' = h ∧ r = .v (.bool true)) := by
 refine Y9 G hG (by rw [lowL, lowL, lowL]; exact ⟨Zl1, Xp 0 [[tX, tY], [tY, tZ]] fun v _ => by have := Ux v; rwa [low] at this, trivial⟩) (by rw [low]; trivial) ?_ h
 clear h
 have h1 := valid_x G hG [tX, tY] vsm_xy (by kernel_rfl)
 have h2 := valid_x G hG [tY, tZ] vsm_yz (by kernel_rfl)
 refine Y6 Tryz.func122 rfl (Z1 rfl) hG fun hl0 _ => ?_
 simp only [Tryz.ntmps122]
 have F : _ ∧ _ := ⟨x1, x2⟩
 repeat' first
  | (with_reducible refine Ya ?_; (refine aw_loopN 3 ?_))
  | ((with_reducible refine Y7 ?_); first | (refine ao_idxC rfl rfl (by first | rfl | (simp only [go_sem, F]; rfl)) (by first | rfl | (simp only [go_sem, F]; rfl)) (by rw [elT_27]; exact szT_30) (by decide) (by decide) rfl ?_))
  | refine g0 ?_
  | (with_reducible refine Y7 ?_; first | refine gc rfl rfl rfl ent_80 (h1 _) ?_ | refine gc rfl rfl rfl ent_80 (h2 _) ?_)
  | (refine ln_s ?_)
 all_goals first | (exfalso; omega) | exact ⟨.inr rfl, endD (r := .v (.bool true)) hl0 rfl (by simp) (by simp) rfl (by rw [low]; trivial) ⟨rfl, rfl⟩⟩
theorem jcheck_x {h : List Ob} {i : Nat} (hi : h[i]? = some (.buf 30 4 [vD [tX, tY], vD [tY, tZ]])) : Does Zd G 66 h [.agg lD, .buf i 2] (fun h' r => h' = h ∧ r = .v (.int .i64 0)) := by
 refine Does.borrow2 hG hi rfl Zl1 (Xp 0 [[tX, tY], [tY, tZ]] fun v _ => by have := Ux v; rwa [low] at this) ?_
 have h1 := check_x G hG
 have h2 := elements_x G hG
 refine Y6 Tryz.func66 rfl (Z1 rfl) hG fun hl0 _ => ?_
 simp only [Tryz.ntmps66]
 repeat' first
  | refine g0 ?_
  | (with_reducible refine Y7 ?_; first | refine gc rfl rfl rfl Jt (h1 _) ?_ | refine gc rfl rfl rfl ent_122 (h2 _) ?_)
 all_goals first | (exfalso; omega) | exact ⟨.inr rfl, endD (r := .v (.int .i64 0)) hl0 rfl (by simp) (by simp) rfl (by rw [low]; trivial) ⟨rfl, rfl⟩⟩
theorem leq_x (h : List Ob) : Does Zd G 67 h [.agg lD, .agg (vD [tX, tY]), .agg (vD [tY, tZ])] (fun h' r => h' = h ∧ r = .v (.bool false)) := by
 refine Y9 G hG (by simp only [lowL]; exact ⟨Zl1, Ux _, Ux _, trivial⟩) (by rw [low]; trivial) ?_ h
 clear h
 have hs := Ya0 G hG [tX, tY] [tY, tZ] (by decide) (by decide)
 rw [show Xo [tX, tY] [tY, tZ] = false by kernel_rfl] at hs
 refine Y6 Tryz.func67 rfl (Z1 rfl) hG fun hl0 _ => ?_
 simp only [Tryz.ntmps67]
 repeat' first
  | refine g0 ?_
  | (with_reducible refine Y7 ?_; refine gc rfl rfl rfl Zn5 (hs _) ?_)
 all_goals first | (exfalso; omega) | exact ⟨.inr rfl, endD (r := .v (.bool false)) hl0 rfl (by simp) (by simp) rfl (by rw [low]; trivial) ⟨rfl, rfl⟩⟩
theorem Leq_x (h : List Ob) : Does Zd G 31 h [.agg lD, .agg (vD [tX, tY]), .agg (vD [tY, tZ])] (fun h' r => h' = h ∧ r = .v (.bool false)) := by
 refine Y9 G hG (by simp only [lowL]; exact ⟨Zl1, Ux _, Ux _, trivial⟩) (by rw [low]; trivial) ?_ h
 clear h
 have hck := fun (h : List Ob) (i : Nat) hi => jcheck_x G hG (h := h) (i := i) hi
 have hq := leq_x G hG
 refine Y6 Tryz.func31 rfl (Z1 rfl) hG fun hl0 _ => ?_
 simp only [Tryz.ntmps31]
 repeat' first
  | refine g0 ?_
  | (with_reducible refine Y7 ?_; first | refine gc rfl rfl rfl ent_66 (hck _ _ rfl) ?_ | refine gc rfl rfl rfl ent_67 (hq _) ?_)
 all_goals first | (exfalso; omega) | exact ⟨.inr rfl, endD (r := .v (.bool false)) hl0 rfl (by simp) (by simp) rfl (by rw [low]; trivial) ⟨rfl, rfl⟩⟩
theorem diff_x (h : List Ob) : Does Zd G 48 h [.agg lD, .agg (vD [tX, tY]), .agg (vD [tY, tZ])] (fun h' r => h' = h ∧ r = .agg (vD [tX])) := by
 refine Y9 G hG (by simp only [lowL]; exact ⟨Zl1, Ux _, Ux _, trivial⟩) (Ux _) ?_ h
 clear h
 apply Does.weak
 have hq := Leq_x G hG
 have c1 := Yr2 G hG [tY, tZ] tX (by decide)
 have c2 := Yr2 G hG [tY, tZ] tY (by decide)
 rw [show hasS [tY, tZ] tX = false by kernel_rfl] at c1
 rw [show hasS [tY, tZ] tY = true by kernel_rfl] at c2
 refine Y6 Tryz.func48 rfl (Z1 rfl) hG fun hl0 _ => ?_
 simp only [Tryz.ntmps48]
 have F : _ ∧ _ := ⟨x1, x2⟩
 repeat' first
  | (with_reducible refine Ya ?_; (refine aw_loopN 3 ?_))
  | (with_reducible refine Y7 ?_; refine ao_appNB rfl rfl rfl rfl (by simp only [go_sem, F]; rfl) (by (simp only [go_sem, F]; rfl)) (by simp) (by (simp [X3, D.one, Value.oneCell']; done)) (by (simp; done)) ?_)
  | ((with_reducible refine Y7 ?_); first | (refine ao_idxC rfl rfl (by first | rfl | (simp only [go_sem, F]; rfl)) (by first | rfl | (simp only [go_sem, F]; rfl)) (by rw [elT_22]; exact szT_9) (by decide) (by decide) rfl ?_))
  | refine g0 ?_
  | (with_reducible refine Y7 ?_; first | refine gc rfl rfl rfl ent_31 (hq _) ?_ | refine gc rfl rfl rfl Ye6 (c1 _) ?_ | refine gc rfl rfl rfl Ye6 (c2 _) ?_)
  | (refine ln_s ?_)
 all_goals first | (exfalso; omega) | exact ⟨.inr rfl, endD (ds := [.agg [.v (.int .i64 0), .buf 6 1, .v (.slice none 0 0), .v (.slice none 0 0)]]) (r := .agg [.v (.int .i64 0), .sl 1 [[.v (.string tX)]], .v (.slice none 0 0), .v (.slice none 0 0)]) hl0 (by simp only [resD, Tryz.results48, go_sem, ↓reduceIte, Z2, Z5, Z3]; try rfl) (by simp) (by simp) (by simp [outD, cvD, cv1]) (by simp [low, lowL, lowR]) ⟨_, ⟨rfl, rfl⟩, Us (X6 _) Yn Yn⟩⟩
theorem encode_x (h : List Ob) : Does Zd G 47 h [.agg lD, .agg (vD [tX])] (fun h' r => h' = h ∧ r = .tup [.sl 1 (byD [1, 1, 120]), .v (.int .i64 0)]) := by
 have q := encode_v G hG lE sm_E (vE [tX]) vsm_x (by kernel_rfl) (by kernel_rfl) (by rw [show putV lE (vE [tX]) = [1, 1, 120] by kernel_rfl]; decide) h
 rw [show putV lE (vE [tX]) = [1, 1, 120] by kernel_rfl, lE_eq, vE_eq] at q
 exact q
theorem decode_x (h : List Ob) : Does Zd G 49 h [.agg lD, .sl 1 (byD [1, 1, 120])] (fun h' r => h' = h ∧ r = .tup [.agg (vD [tX]), .v (.int .i64 0)]) := by
 have q := decode_v G hG lE sm_E [1, 1, 120] (by decide) h
 rw [show Zn7 lE [1, 1, 120] = (vE [tX], 0) by kernel_rfl, lE_eq] at q
 simp only [vE_eq] at q
 exact q
theorem Diff_x (h : List Ob) : Does Zd G 22 h [.agg lD, .agg (vD [tX, tY]), .agg (vD [tY, tZ])] (fun h' r => h' = h ∧ r = .tup [.agg (vD [tX]), .v (.int .i64 0)]) := by
 refine Y9 G hG (by simp only [lowL]; exact ⟨Zl1, Ux _, Ux _, trivial⟩) (by rw [low, lowL, lowL, lowL]; exact ⟨Ux _, by rw [low]; trivial, trivial⟩) ?_ h
 clear h
 have hck := fun (h : List Ob) (i : Nat) (hi : h[i]? = some (.buf 30 4 [vD [tX, tY], vD [tY, tZ]])) => ick G hG [[tX, tY], [tY, tZ]] (fun v hv => by rcases List.mem_cons.1 hv with rfl | hv; exact vsm_xy; rw [Zy.1 hv]; exact vsm_yz) (by kernel_rfl) (by decide) (n := 2) rfl hi
 have h1 := diff_x G hG
 have h2 := encode_x G hG
 have h3 := decode_x G hG
 refine Y6 Tryz.func22 rfl (Z1 rfl) hG fun hl0 _ => ?_
 simp only [Tryz.ntmps22]
 repeat' first
  | (with_reducible refine Ya ?_; refine Y8 mixd (by kernel_rfl) ?_)
  | refine g0 ?_
  | (with_reducible refine Y7 ?_; first | refine gc rfl rfl rfl ent_40 (hck _ _ rfl) ?_ | refine gc rfl rfl rfl ent_49 (h3 _) ?_)
  | (with_reducible refine Xv ?_; first | refine aq2 rfl rfl rfl ent_48 (h1 _) ?_ | refine aq2 rfl rfl rfl ent_47 (h2 _) ?_)
 all_goals first | (exfalso; omega) | exact ⟨.inr rfl, endD (ds := [.agg (vD [tX]), .v (.int .i64 0)]) (r := .tup [.agg (vD [tX]), .v (.int .i64 0)]) hl0 (by simp only [resD, Tryz.results22, go_sem, ↓reduceIte, Z2, Z5, Z3]; try rfl) (by simp) (by simp) (by simp [outD, cvD, cv1]) (by rw [low, lowL, lowL, lowL]; exact ⟨Ux _, by rw [low]; trivial, trivial⟩) ⟨rfl, rfl⟩⟩
theorem awake_x (hde : ∀ h : List Ob, ∃ L : List Val, L.length = 2 ∧ Does Zd G 19 h [.agg lD, .agg (vD [tX, tY])] (fun h' r => h' = h ∧ r = .tup [.sl 4 (L.map vaX), .v (.int .i64 0)])) (h : List Ob) : Does Zd G 15 h [] (fun h' r => h' = h ∧ r = .v (.bool true)) := by
 refine Y9 G hG (by rw [lowL]; trivial) (by rw [low]; trivial) ?_ h
 clear h
 have h1 := Diff_x G hG
 have h2 := Rank_x G hG
 have h3 : ∀ h : List Ob, Does Zd G 23 h [.agg (vD [tX]), .agg (vD [tX])] (fun h' r => h' = h ∧ r = .v (.bool true)) := fun h => by
  have q := Zp0 G hG (vE [tX]) (vE [tX]) vsm_x vsm_x h
  rw [Zz6, vE_eq] at q
  exact q
 have hwl : Wk (.agg [.v (.int .i64 4), .v (.int .i64 0), .v (.int .i64 0), .v (.slice none 0 0), .v (.slice none 0 0), .v (.slice none 0 0)]) (.agg lD) := wk_agg (Wq (X6 _) (Wq (X6 _) (Wq (X6 _) (Wq Yn (Wq Yn (Wq Yn Yl5))))))
 have hwv : ∀ l : List ByteArray, Wk (.agg [.v (.int .i64 0), .sl 1 (l.map strX), .v (.slice none 0 0), .v (.slice none 0 0)]) (.agg (vD l)) := fun l => Us (X6 _) Yn Yn
 obtain ⟨L, hL, h4⟩ : ∃ L : List Val, L.length = 2 ∧ ∀ h : List Ob, Does Zd G 19 h [.agg lD, .agg (vD [tX, tY])] (fun h' r => h' = h ∧ r = .tup [.sl 4 (L.map vaX), .v (.int .i64 0)]) := by
  obtain ⟨L, hL, q⟩ := hde []
  exact ⟨L, hL, fun h => Y9 G hG (by simp only [lowL]; exact ⟨Zl1, Ux _, trivial⟩) (by simp only [low, lowL]; exact ⟨Wf 0 L, trivial, trivial⟩) q h⟩
 refine Y6 Tryz.func15 rfl (Z1 rfl) hG fun hl0 _ => ?_
 simp only [Tryz.ntmps15]
 have F := hL
 repeat' first
  | (with_reducible refine Y7 ?_; first | (refine Zw7 10 _ (.agg lD) (by with_unfolding_all rfl) hwl ?_) | (refine Zw7 12 _ (.agg (vD [tX, tY])) (by with_unfolding_all rfl) (hwv [tX, tY]) ?_) | (refine Zw7 14 _ (.agg (vD [tY, tZ])) (by with_unfolding_all rfl) (hwv [tY, tZ]) ?_) | (refine Zw7 39 _ (.agg (vD [tX])) (by with_unfolding_all rfl) (hwv [tX]) ?_) | (refine Ys3 rfl (by (simp only [go_sem, F]; rfl)) (by simp) ?_))
  | refine g0 ?_
  | (with_reducible refine Y7 ?_; first | refine gc rfl rfl rfl ent_22 (h1 _) ?_ | refine gc rfl rfl rfl ent_19 (h4 _) ?_ | refine gc rfl rfl rfl ent_27 (h2 _) ?_ | refine gc rfl rfl rfl Zh5 (h3 _) ?_)
 all_goals first | (exfalso; omega) | exact ⟨.inr rfl, endD (r := .v (.bool true)) hl0 rfl (by simp) (by simp) rfl (by rw [low]; trivial) ⟨rfl, rfl⟩⟩
end
section
def G0 : Nat → D := fun _ => .any
theorem G0_low : ∀ g, low 0 (G0 g) := fun g => by unfold G0; rw [low]; trivial
theorem ok0 (w : World) : Ok G0 w [] [] (fun k => decide (k < w.heap.size)) :=
 ⟨rfl, fun i ob u q => by simp at q, fun i j oi oj ui uj b q => by simp at q, fun g => by unfold G0; rw [rd]; trivial, fun g ds q => by cases q⟩
end
section
attribute [local irreducible] on aOp
attribute [local go_sem] decide_true decide_false Zo Zm
attribute [local simp] byD_len
theorem Zg3 {l : Lat} {v : Val} (hwf : WfL l) (h7 : l.kind = 7) (he : Yb l v = true) : ∃ p q a b, l.parts = [p, q] ∧ v.parts = [a, b] ∧ Yb p a = true ∧ Yb q b = true ∧ Wh p = true := by
 obtain ⟨p, q, hpq, hcp⟩ := hwf.chain h7
 have hpe := (el67 (k := 7) (lo := l.lo) (hi := l.hi) (ns := l.names) (ps := l.parts) (rs := l.rules) (v := v) (.inr rfl)).1 (by rw [← h7]; cases l; exact he)
 rw [hpq] at hpe
 obtain ⟨a, t, ea, ha, hpe'⟩ := Yk.1 hpe.1
 obtain ⟨b, t2, eb, hb, hpe''⟩ := Yk.1 hpe'
 rw [Zf8.1 hpe''] at eb
 exact ⟨p, q, a, b, hpq, by rw [ea, eb], ha, hb, hcp⟩
variable (G : Nat → D) (hG : ∀ g, low 0 (G g))
include hG
attribute [local go_sem] Zq Zr Zs Z0 Z5 Za Z2 Z3 Zb not_false_eq_true
attribute [local go_sem ↓] reduceIte
end
end Go.Proofs.YtbhkcbidcfofiaaGreat
