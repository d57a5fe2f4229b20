/-
  What the statements of the chapter share, part 22: QA6, MX, QP1, BO, SS0, JT1, JT2, PReg, JT3.
-/
import Derived.Test.YtbhkcbidcfofiaaGreatY13
import Derived.Test.YtbhkcbidcfofiaaGreatY15
import Derived.Test.YtbhkcbidcfofiaaGreatY16
import Derived.Test.YtbhkcbidcfofiaaGreatY17
import Derived.Test.YtbhkcbidcfofiaaGreatY21
set_option linter.unusedVariables false
set_option linter.unusedSimpArgs false
set_option maxRecDepth 100000
set_option maxHeartbeats 8000000
namespace Go.Proofs.YtbhkcbidcfofiaaGreat
open _root_.Bool renaming and_eq_true → Z0, not_eq_true' → Z4, not_eq_true → Z9, false_eq_true → Zi, false_ne_true → Zk, or_eq_true → Zr, eq_iff_iff → Zs
open _root_.Int renaming le_refl → Zn
open _root_.List renaming pairwise_cons → Z1, mem_cons → Z2, all_eq_true → Z3, length_eq_zero_iff → Z5, replicate → Z6, mem_append → Za, length_cons → Zc, mem_filter → Zd, getElem_mem → Ze, getElem_of_mem → Zf, map_cons → Zg, length_map → Zh, mem_singleton → Zj, filter_cons → Zl, mem_iff_getElem → Zm, getElem?_eq_getElem → Zo, length_take → Zp, map_append → Zq, mem_range → Zu
open _root_.Nat renaming reduceEqDiff → Z7, reduceLeDiff → Z8, reduceAdd → Zb, le_refl → Zt
open Go.RowKit
section
attribute [local irreducible] on aOp
attribute [local go_sem] decide_true decide_false Bool.not_true Bool.not_false
attribute [local simp] byD_len
def qM (A Z V P B : Ob) (T : List Ob) : List Ob := A :: Z :: V :: P :: B :: T
section
variable {A Z V P B y y' : Ob} {T l : List Ob}
theorem qM_0 : (qM A Z V P B T)[0]? = some A := rfl
theorem qM_1 : (qM A Z V P B T)[1]? = some Z := rfl
theorem qM_2 : (qM A Z V P B T)[2]? = some V := rfl
theorem qM_3 : (qM A Z V P B T)[3]? = some P := rfl
theorem qM_4 : (qM A Z V P B T)[4]? = some B := rfl
theorem qM_s1 : (qM A Z V P B T).set 1 y = qM A y V P B T := rfl
theorem qM_s2 : (qM A Z V P B T).set 2 y = qM A Z y P B T := rfl
theorem qM_s4 : (qM A Z V P B T).set 4 y = qM A Z V P y T := rfl
theorem qM_len : (qM A Z V P B T).length = T.length + 5 := rfl
theorem qM_app : qM A Z V P B T ++ l = qM A Z V P B (T ++ l) := rfl
theorem qM_l : (qM A Z V P B (T ++ [y]))[T.length + 5]? = some y := by simp [qM]
theorem qM_sl : (qM A Z V P B (T ++ [y])).set (T.length + 5) y' = qM A Z V P B (T ++ [y']) := by simp [qM]
theorem qM_l2 {z : Ob} : (qM A Z V P B (T ++ [y, z]))[T.length + 5]? = some y := by simp [qM]
theorem qM_l3 {z : Ob} : (qM A Z V P B (T ++ [y, z]))[T.length + 1 + 5]? = some z := by simp [qM]
end
theorem kM_sl3 {A Z V B y z y' : Ob} {T : List Ob} : (kM A Z V B (T ++ [y, z])).set (T.length + 1 + 4) y' = kM A Z V B (T ++ [y, y']) := by simp [kM, List.set_append]
theorem kM_l4 {A Z V B y z w : Ob} {T : List Ob} : (kM A Z V B (T ++ [y, z, w]))[T.length + 1 + 1 + 4]? = some w := by simp [kM]
theorem kM_l3b {A Z V B y z w : Ob} {T : List Ob} : (kM A Z V B (T ++ [y, z, w]))[T.length + 1 + 4]? = some z := by simp [kM]
theorem Yg5 {l : Lat} (h : l.kind = 1 ∨ l.kind = 2 ∨ l.kind = 3) : topV l = (.mk (if l.kind = 1 then 1 else if l.kind = 2 then l.hi else l.lo) [] [] [], true) := by
 obtain ⟨k, lo, hi, ns, ps, rs⟩ := l
 simp only [Lat.kind] at h
 rcases h with rfl | rfl | rfl <;> (rw [topV]; rfl)
theorem topV_4 {l : Lat} (h : l.kind = 4) : topV l = (.mk 0 l.names [] [], decide (0 < l.names.length)) := by
 obtain ⟨k, lo, hi, ns, ps, rs⟩ := l
 simp only [Lat.kind] at h
 subst h; rw [topV]; rfl
theorem topV_67 {l : Lat} (h : l.kind = 6 ∨ l.kind = 7) (ho : Zd4 l.parts = true) : topV l = (.mk 0 [] (l.parts.map fun p => (topV p).1) [], true) := by
 obtain ⟨k, lo, hi, ns, ps, rs⟩ := l
 simp only [Lat.kind] at h
 have e : (topV (.mk k lo hi ns ps rs)) = if Zd4 ps then (.mk 0 [] (Yb4 ps) [], true) else (Wx, false) := by rcases h with rfl | rfl <;> (rw [topV]; rfl)
 rw [e, if_pos (show Zd4 ps = true from ho), Za6]; rfl
theorem topV_5 {l p : Lat} (h : l.kind = 5) (hp : l.parts = [p]) (ht : (topV p).2 = true) (hn : l.names ≠ []) : topV l = (if V4 p then Wx else .mk 0 l.names (Z6 l.names.length (topV p).1) [], true) := by
 obtain ⟨k, lo, hi, ns, ps, rs⟩ := l
 simp only [Lat.kind, Lat.parts, Lat.names] at h hp hn
 subst h hp
 rw [show topV (.mk 5 lo hi ns [p] rs) = Ve ns [p] by rw [topV]; rfl, Ve]
 cases V4 p
 · rw [if_neg (by decide), if_neg (by rintro (q | q); rw [ht] at q; cases q; exact hn (Z5.1 q))]; rfl
 · rfl
theorem X0 {l : Lat} (h : rkdR l = true) : ∀ p ∈ l.parts, rkdR p = true := by
 rw [Zm0, Z0, Z3] at h
 exact h.2
theorem U2 {l : Lat} (h : finB l = true) : ∀ p ∈ l.parts, finB p = true := by
 rw [Zz1, Z0, Z3] at h
 exact h.2
theorem Zt2 {l : Lat} (h : rkdR l = true) : l.kind ≠ 9 ∧ l.kind ≠ 8 ∧ l.kind ≠ 10 := by
 rw [Zm0, Z0, Z4, Bool.or_eq_false_iff, decide_eq_false_iff_not] at h
 exact ⟨fun e => h.1.1 (.inl e), fun e => h.1.1 (.inr (.inl e)), fun e => h.1.1 (.inr (.inr e))⟩
theorem Zo2 {l : Lat} (h : finB l = true) (hk : l.kind = 4 ∨ l.kind = 5) : l.names ≠ [] := fun e => by
 rw [Zz1, e, Z0, Z4, Bool.or_eq_false_iff, Bool.and_eq_false_iff, decide_eq_false_iff_not, decide_eq_false_iff_not, decide_eq_false_iff_not] at h
 rcases h.1.2 with h | h
 · omega
 · exact h rfl
variable (G : Nat → D) (hG : ∀ g, low 0 (G g))
include hG
attribute [local go_sem] Zi Int.reduceEq Int.reduceLE Int.reduceLT Int.toNat_natCast List.append_assoc List.cons_append List.length_append Zc Zh List.length_nil List.nil_append Zb Nat.reduceBEq Z7 Z8 Nat.reduceMul kM_0 kM_1 kM_2 kM_3 Ye8 kM_l kM_l2 kM_l3 kM_l3b kM_l4 Zr9 kM_s1 kM_s2 kM_s3 kM_sl kM_sl3 qM_0 qM_1 qM_2 qM_3 qM_4 qM_app qM_l qM_l2 qM_l3 qM_len qM_s1 qM_s2 qM_s4 qM_sl Wa J2
attribute [local go_sem ↓] reduceIte
theorem top_d (f : Nat) : ∀ l : Lat, SizeOf.sizeOf l ≤ f → WfL l → rkdR l = true → finB l = true → ∀ h : List Ob, Does Tryz.prog G 176 h [.agg (latX l)] (fun h' r => h' = h ∧ r = .tup [.agg (vaX (topV l).1), .v (.bool true)]) := by
 induction f with
 | zero => intro l hn; cases l; simp at hn
 | succ f ih =>
 intro l hn hwf hr hf h
 refine Ya G hG (by rw [lowL, lowL, low]; exact ⟨Yy _ l, trivial⟩) (by simp only [low, lowL]; exact ⟨Ys _ _, trivial, trivial⟩) ?_ h
 clear h
 obtain ⟨hk0, hk5, hk7, hk6, _, _, _, hnl, _⟩ := hwf.kinds
 have hkk := Zt2 hr
 have hpl : l.parts.length ≤ 1000000 := Vi hwf
 have hpp : ∀ p ∈ l.parts, ∀ h, Does Tryz.prog G 176 h [.agg (latX p)] (fun h' r => h' = h ∧ r = .tup [.agg (vaX (topV p).1), .v (.bool true)]) := fun p hp => ih p (by have := Yb hp; omega) (hwf.part hp) (X0 hr p hp) (U2 hf p hp)
 have hto : ∀ p ∈ l.parts, (topV p).2 = true := fun p hp => Vu _ p (Zt _) (hwf.part hp) (X0 hr p hp) (U2 hf p hp)
 apply Does.weak
 refine Y5 Tryz.func176 rfl (Nat.le_of_ble_eq_true rfl) hG fun hl0 _ => ?_
 simp only [Tryz.ntmps176]
 by_cases h123 : l.kind = 1 ∨ l.kind = 2 ∨ l.kind = 3
 · rw [Yg5 h123, Yb3]
   rcases h123 with e | e | e
   all_goals
    simp only [e, if_true, if_false, Int.reduceEq, reduceIte]
    have F : _ ∧ _ := ⟨Y4 l, e⟩
    repeat' first
     | refine g0 ?_
     | fail
    all_goals first | (exfalso; omega) | skip
   · exact ⟨.inr rfl, endD (ds := [.agg [.v (.int .i64 1), .v (.slice none 0 0), .v (.slice none 0 0), .v (.slice none 0 0)], .v (.bool true)]) (r := .tup [.agg [.v (.int .i64 1), .v (.slice none 0 0), .v (.slice none 0 0), .v (.slice none 0 0)], .v (.bool true)]) hl0 (by simp only [resD, Tryz.results176, go_sem, ↓reduceIte, Z7, Zb, Z8]; try rfl) (by simp) (by simp) (by simp [outD, cvD, cv1]) (by simp [low, lowL]) ⟨_, ⟨rfl, rfl⟩, J1 (Yi (Vr _ _ _ Wu) (Yi (Xa _) Wy))⟩⟩
   · exact ⟨.inr rfl, endD (ds := [.agg [.v (.int .i64 l.hi), .v (.slice none 0 0), .v (.slice none 0 0), .v (.slice none 0 0)], .v (.bool true)]) (r := .tup [.agg [.v (.int .i64 l.hi), .v (.slice none 0 0), .v (.slice none 0 0), .v (.slice none 0 0)], .v (.bool true)]) hl0 (by simp only [resD, Tryz.results176, go_sem, ↓reduceIte, Z7, Zb, Z8]; try rfl) (by simp) (by simp) (by simp [outD, cvD, cv1]) (by simp [low, lowL]) ⟨_, ⟨rfl, rfl⟩, J1 (Yi (Vr _ _ _ Wu) (Yi (Xa _) Wy))⟩⟩
   · exact ⟨.inr rfl, endD (ds := [.agg [.v (.int .i64 l.lo), .v (.slice none 0 0), .v (.slice none 0 0), .v (.slice none 0 0)], .v (.bool true)]) (r := .tup [.agg [.v (.int .i64 l.lo), .v (.slice none 0 0), .v (.slice none 0 0), .v (.slice none 0 0)], .v (.bool true)]) hl0 (by simp only [resD, Tryz.results176, go_sem, ↓reduceIte, Z7, Zb, Z8]; try rfl) (by simp) (by simp) (by simp [outD, cvD, cv1]) (by simp [low, lowL]) ⟨_, ⟨rfl, rfl⟩, J1 (Yi (Vr _ _ _ Wu) (Yi (Xa _) Wy))⟩⟩
 by_cases h4 : l.kind = 4
 · have hne := Zo2 hf (.inl h4)
   have hlp : 0 < l.names.length := List.length_pos_iff.2 hne
   rw [topV_4 h4, show vaX (Val.mk 0 l.names [] [], decide (0 < l.names.length)).1 = [.v (.int .i64 0), .sl 1 (l.names.map strX), .sl 4 [], .sl 2 []] by rw [Y6]; rfl]
   have hcl := clone_g G hG l.names (by omega)
   have gp : decide ((0 : Int) < (l.names.length : Int)) = true := decide_eq_true (by omega)
   have F : _ ∧ _ ∧ _ := ⟨Y4 l, h4, gp⟩
   repeat' first
    | (with_reducible refine Yf ?_; refine Xu mixd (by kernel_rfl) ?_)
    | ((with_reducible refine Ze7 ?_); first | (refine Xl rfl rfl rfl (by (simp only [go_sem, F]; rfl)) (by rw [getD_agg' aggT_30, szT_30]; rfl) ?_) | (refine aS1 rfl rfl fun K HK => ?_; simp only [go_sem, F] <;> (refine HK _ _ rfl ?_; clear HK K)) | refine Xl rfl rfl rfl (by (simp only [go_sem, F]; rfl)) (by rw [getD_one (by simp only [go_sem, F])]; rfl) ?_ | refine Zu4 rfl rfl (by (simp only [go_sem, F]; rfl)) rfl (by simp only [go_sem, F]) (by simp) ?_ | refine U7 (by simp only [List.reverse_cons, List.reverse_nil, List.nil_append, List.cons_append, Ww, chk1]; repeat' (first | exact trivial | refine And.intro ?_ ?_ | exact .inr X7 | exact .inr Xe | exact .inr Xd | exact .inr (W6 (by omega)))) ?_)
    | refine g0 ?_
    | (with_reducible refine Y7 ?_; refine gc rfl rfl rfl ent_128 (hcl _) ?_)
   all_goals first | (exfalso; omega) | exact ⟨.inr rfl, endD (ds := [.agg [.v (.int .i64 0), .sl 1 (l.names.map strX), .v (.slice none 0 0), .v (.slice none 0 0)], .v (.bool true)]) (r := .tup [.agg [.v (.int .i64 0), .sl 1 (l.names.map strX), .v (.slice none 0 0), .v (.slice none 0 0)], .v (.bool true)]) hl0 (by simp only [resD, Tryz.results176, go_sem, ↓reduceIte, Z7, Zb, Z8]; try rfl) (by simp) (by simp) (by simp [outD, cvD, cv1]) (by simp only [low, lowL]; exact ⟨⟨trivial, Us _, trivial, trivial, trivial⟩, trivial, trivial⟩) ⟨_, ⟨rfl, rfl⟩, J1 (Yi (wk_va (Xa _) Wu Wu) (Yi (Xa _) Wy))⟩⟩
 by_cases h5 : l.kind = 5
 · obtain ⟨p, hp⟩ := List.length_eq_one_iff.1 (hk5 h5)
   have hpm : p ∈ l.parts := by rw [hp]; simp
   have hx0 : l.parts[0]? = some p := by rw [hp]; rfl
   have hl1 : l.parts.length = 1 := by rw [hp]; rfl
   have hne := Zo2 hf (.inr h5)
   have htr := triv_d G hG _ p (Zt _) (hwf.part hpm)
   have htp := hpp p hpm
   rw [topV_5 h5 hp (hto p hpm) hne]
   have hcl := clone_g G hG l.names (by omega)
   have hlp : 0 < l.names.length := List.length_pos_iff.2 hne
   clear hp hpm
   simp only [Y4 p] at htr htp
   generalize (topV p).1 = tv at *
   simp only [Y6 tv] at htp
   cases hb : V4 p
   rotate_left
   · rw [hb] at htr
     rw [if_pos rfl, show vaX (Wx, true).1 = [.v (.int .i64 0), .sl 1 [], .sl 4 [], .sl 2 []] from Yb3 0 []]
     have F : _ ∧ _ ∧ _ ∧ _ := ⟨Y4 l, Y4 p, h5, hl1⟩
     repeat' first
      | ((with_reducible refine Y7 ?_); first | (refine ao1 rfl rfl fun K HK => ?_; simp only [go_sem, F]; (first | (refine ⟨by omega, ?_⟩; refine Yn (by assumption) ?_) | skip) <;> (refine HK _ _ ?_; clear HK K)))
      | refine g0 ?_
      | (with_reducible refine Y7 ?_; refine gc rfl rfl rfl ent_225 (htr _) ?_)
     all_goals first | (exfalso; omega) | exact ⟨.inr rfl, endD (ds := [.agg nilV, .v (.bool true)]) (r := .tup [.agg nilV, .v (.bool true)]) hl0 (by simp only [resD, Tryz.results176, go_sem, ↓reduceIte, Z7, Zb, Z8]; try rfl) (by simp) (by simp) (by simp [outD, cvD, cv1, nilV]) (by simp [low, lowL, nilV]) ⟨_, ⟨rfl, rfl⟩, J1 (Yi (Vr _ _ _ Wu) (Yi (Xa _) Wy))⟩⟩
   rw [hb] at htr
   rw [if_neg (by decide), show vaX (Val.mk 0 l.names (Z6 l.names.length tv) [], true).1 = [.v (.int .i64 0), .sl 1 (l.names.map strX), .sl 4 ((Z6 l.names.length tv).map vaX), .sl 2 []] by rw [Y6]; rfl]
   have gz : ¬ l.names.length = 0 := by omega
   have F : _ ∧ _ ∧ _ ∧ _ ∧ _ := ⟨Y4 l, Y4 p, h5, hl1, gz⟩
   repeat' first
    | ((with_reducible refine Y7 ?_); first | (refine ao1 rfl rfl fun K HK => ?_; (first | refine Yo rfl ?_ | skip); simp only [go_sem, F]; (first | refine X1 (fun hq => ?_) (fun hq => ?_) | (refine ⟨by omega, ?_⟩; refine Yn (by assumption) ?_) | skip) <;> (refine HK _ _ ?_; clear HK K)))
    | refine gg ?_
    | refine Two.mk (fun hq => ?_) fun hq => ?_
    | (with_reducible refine Y7 ?_; first | refine gc rfl rfl rfl ent_225 (htr _) ?_ | refine gc rfl rfl rfl Yl2 (htp _) ?_ | refine gc rfl rfl rfl ent_128 (hcl _) ?_)
    | (exfalso; omega)
   all_goals first | (exfalso; omega) | skip
   refine Vv 30 4 2 [.v (.int .i64 0), .sl 1 (l.names.map strX)] [.v (.slice none 0 0)] rfl ?_
   have hro : Yr 4 [vaX tv] := fun row hr => by simp only [Zj] at hr; subst hr; exact ⟨Wa tv, Z3.1 (Zf9 tv)⟩
   refine Yh (fun m e h' => ∃ (k : Nat) (T : List Ob), k ≤ l.names.length ∧ m = l.names.length - k ∧ h' = qM (.cells (latX l)) (.cells nilV) (.cells [.v (.int .i64 0), .sl 1 (l.names.map strX), .buf 4 k, .v (.slice none 0 0)]) (.cells (vaX tv)) (.buf 30 4 ((Z6 k tv).map vaX)) T ∧ e 1 = .ptr 0 0 ∧ e 2 = .ptr 1 0 ∧ e 4 = .ptr 2 0 ∧ e 77 = .v (.int .i64 l.names.length) ∧ e 78 = .v (.int .i64 k)) l.names.length ⟨0, [], Nat.zero_le _, rfl, by rw [Y4 l, h5, Y6 tv]; rfl, rfl, rfl, rfl, rfl, rfl⟩ ?_
   rintro m e h' ⟨k, T, hk, rfl, rfl, e1, e2, e4, e77, e78⟩
   by_cases hlt : k < l.names.length
   rotate_left
   · obtain rfl : k = l.names.length := by omega
     repeat' first
      | (with_reducible first | refine sA rfl ?_ | refine sI rfl rfl ?_ | refine sT rfl ?_ | refine sB rfl ?_)
      | (with_reducible refine Y7 ?_; first | (refine Yb0 (j := 4) (d' := .agg [.v (.int .i64 0), .sl 1 (l.names.map strX), .sl 4 ((Z6 l.names.length tv).map vaX), .v (.slice none 0 0)]) (by with_unfolding_all rfl) (by with_unfolding_all rfl) (by with_unfolding_all exact e4) (by with_unfolding_all rfl) (by with_unfolding_all (rw [getD_agg' aggT_30, szT_30]; rfl)) (by simp [cvD, cv1, qM]) ?_; simp only [go_sem, Y4 l, e1, e2, e4, e77, e78, nilV]) | refine Xi ?_ | (refine ao1 rfl rfl fun K HK => ?_; simp only [go_sem, Y4 l, e1, e2, e4, e77, e78, nilV]; (first | refine X1 (fun hq => ?_) (fun hq => ?_) | skip) <;> (refine HK _ _ ?_; clear HK K)) | (refine ao1' rfl fun K HK => ?_; simp only [go_sem, Y4 l, e1, e2, e4, e77, e78, nilV]; refine HK _ _ ?_; clear HK K))
      | (exfalso; omega)
     all_goals first | (exfalso; omega) | exact ⟨.inr rfl, endD (ds := [.agg [.v (.int .i64 0), .sl 1 (l.names.map strX), .sl 4 ((Z6 l.names.length tv).map vaX), .v (.slice none 0 0)], .v (.bool true)]) (r := .tup [.agg [.v (.int .i64 0), .sl 1 (l.names.map strX), .sl 4 ((Z6 l.names.length tv).map vaX), .v (.slice none 0 0)], .v (.bool true)]) hl0 (by simp only [resD, Tryz.results176, go_sem, ↓reduceIte, Z7, Zb, Z8, e2, qM_1]; try rfl) (by simp) (by simp) (by simp [outD, cvD, cv1, qM]) (by simp only [low, lowL]; exact ⟨⟨trivial, Us _, Jt _ _, trivial, trivial⟩, trivial, trivial⟩) ⟨_, ⟨rfl, rfl⟩, J1 (Yi (wk_va (Xa _) (Xa _) Wu) (Yi (Xa _) Wy))⟩⟩
   have hlr : ((Z6 k tv).map vaX).length = k := by rw [Zh, List.length_replicate]
   have hrk : (Z6 (k + 1) tv).map vaX = (Z6 k tv).map vaX ++ [vaX tv] := by rw [List.replicate_succ', Zq]; rfl
   have wk : IntKind.i64.wrap ((k : Int) + 1) = ((k + 1 : Nat) : Int) := IntWalk.i64_in _ (by omega)
   have F : _ ∧ _ ∧ _ ∧ _ ∧ _ ∧ _ ∧ _ ∧ _ ∧ _ := ⟨Y4 p, Y4 l, e1, e2, e4, e77, e78, hl1, wk⟩
   repeat' first
    | (with_reducible refine Y7 ?_; refine Wd rfl rfl rfl rfl (by (simp only [go_sem, F]; rfl)) (by simp) (by simp only [go_sem, F]; rfl) (by (simp only [go_sem, F]; rfl)) (by simp) (by (simp [Yr, D.one, Value.oneCell']; done)) (by (simp; omega)) ?_)
    | ((with_reducible refine Y7 ?_); first | (refine ao1 rfl rfl fun K HK => ?_; simp only [go_sem, F]; (first | refine X1 (fun hq => ?_) (fun hq => ?_) | (refine ⟨by omega, ?_⟩; refine Yn (by assumption) ?_) | skip) <;> (refine HK _ _ ?_; clear HK K)))
    | refine gg ?_
    | refine Two.mk (fun hq => ?_) fun hq => ?_
    | (with_reducible refine Y7 ?_; refine gc rfl rfl rfl Yl2 (htp _) ?_)
    | (exfalso; omega)
   exact ⟨rfl, l.names.length - (k + 1), by omega, k + 1, _, hlt, rfl, (by rw [Y4 l, hrk, Y6 tv]), e1, e2, e4, e77, rfl⟩
 have h67 : l.kind = 6 ∨ l.kind = 7 := by omega
 rw [topV_67 h67 ((Uo _).2 hto), Yb3]
 have hpl8 : l.parts.length ≤ 8 := by rcases h67 with q | q; have := hk6 q; omega; have := hk7 q; omega
 rcases h67 with h6 | h6
 all_goals
  skip
  have F : _ ∧ _ := ⟨Y4 l, h6⟩
  repeat' first
   | refine g0 ?_
   | fail
  all_goals first | (exfalso; omega) | skip
  refine Vv 30 4 2 [.v (.int .i64 0), .v (.slice none 0 0)] [.v (.slice none 0 0)] rfl ?_
  refine Yh (fun m e h' => ∃ (k : Nat) (T : List Ob), k ≤ l.parts.length ∧ m = l.parts.length - k ∧ h' = kM (.cells (latX l)) (.cells nilV) (.cells [.v (.int .i64 0), .v (.slice none 0 0), .buf 3 k, .v (.slice none 0 0)]) (.buf 30 4 (((l.parts.take k).map fun p => (topV p).1).map vaX)) T ∧ e 1 = .ptr 0 0 ∧ e 2 = .ptr 1 0 ∧ e 4 = .ptr 2 0 ∧ e 99 = .sl 6 (l.parts.map latX) ∧ e 100 = .v (.int .i64 l.parts.length) ∧ e 101 = .v (.int .i64 k)) l.parts.length ⟨0, [], Nat.zero_le _, rfl, by rw [Y4 l, h6]; rfl, rfl, rfl, rfl, rfl, rfl, rfl⟩ ?_
  rintro m e h' ⟨k, T, hk, rfl, rfl, e1, e2, e4, e99, e100, e101⟩
  by_cases hlt : k < l.parts.length
  rotate_left
  · obtain rfl : k = l.parts.length := by omega
    rw [List.take_length]
    repeat' first
     | (with_reducible first | refine sA rfl ?_ | refine sI rfl rfl ?_ | refine sT rfl ?_ | refine sB rfl ?_)
     | (with_reducible refine Y7 ?_; first | (refine Yb0 (j := 3) (d' := .agg [.v (.int .i64 0), .v (.slice none 0 0), .sl 4 ((l.parts.map fun p => (topV p).1).map vaX), .v (.slice none 0 0)]) (by with_unfolding_all rfl) (by with_unfolding_all rfl) (by with_unfolding_all exact e4) (by with_unfolding_all rfl) (by with_unfolding_all (rw [getD_agg' aggT_30, szT_30]; rfl)) (by simp [cvD, cv1, kM]) ?_; simp only [go_sem, Y4 l, e1, e2, e4, e99, e100, e101, nilV]) | refine Xi ?_ | (refine ao1 rfl rfl fun K HK => ?_; simp only [go_sem, Y4 l, e1, e2, e4, e99, e100, e101, nilV]; (first | refine X1 (fun hq => ?_) (fun hq => ?_) | (refine ⟨by omega, by omega, ?_⟩; intro row hrow; obtain ⟨x, hx, rfl⟩ := Vt hrow; clear hrow) | skip) <;> (refine HK _ _ ?_; clear HK K)) | (refine ao1' rfl fun K HK => ?_; simp only [go_sem, Y4 l, e1, e2, e4, e99, e100, e101, nilV]; refine HK _ _ ?_; clear HK K))
     | (exfalso; omega)
    all_goals first | (exfalso; omega) | exact ⟨.inr rfl, endD (ds := [.agg [.v (.int .i64 0), .v (.slice none 0 0), .sl 4 ((l.parts.map fun p => (topV p).1).map vaX), .v (.slice none 0 0)], .v (.bool true)]) (r := .tup [.agg [.v (.int .i64 0), .v (.slice none 0 0), .sl 4 ((l.parts.map fun p => (topV p).1).map vaX), .v (.slice none 0 0)], .v (.bool true)]) hl0 (by simp only [resD, Tryz.results176, go_sem, ↓reduceIte, Z7, Zb, Z8, e2, kM_1]; try rfl) (by simp) (by simp) (by simp [outD, cvD, cv1, kM]) (by simp only [low, lowL]; exact ⟨⟨trivial, trivial, Jt _ _, trivial, trivial⟩, trivial, trivial⟩) ⟨_, ⟨rfl, rfl⟩, J1 (Yi (Vr _ _ _ (Xa _)) (Yi (Xa _) Wy))⟩⟩
  have hx : l.parts[k]? = some l.parts[k] := Zo hlt
  have wk : IntKind.i64.wrap ((k : Int) + 1) = ((k + 1 : Nat) : Int) := IntWalk.i64_in _ (by omega)
  have htk : (l.parts.take (k + 1)).map (fun p => (topV p).1) = (l.parts.take k).map (fun p => (topV p).1) ++ [(topV l.parts[k]).1] := by rw [List.take_add_one, hx, Zq]; rfl
  have hbp := hpp _ (Ze hlt)
  generalize l.parts[k] = x at hx hbp htk
  have hlr : (((l.parts.take k).map fun p => (topV p).1).map vaX).length = k := by rw [Zh, Zh, Zp, Nat.min_eq_left hk]
  simp only [Y4 x] at hbp
  generalize (topV x).1 = bx at hbp htk
  have hro : Yr 4 [vaX bx] := fun row hr => by simp only [Zj] at hr; subst hr; exact ⟨Wa bx, Z3.1 (Zf9 bx)⟩
  simp only [Y6 bx] at hbp hro
  have F : _ ∧ _ ∧ _ ∧ _ ∧ _ ∧ _ ∧ _ ∧ _ ∧ _ := ⟨Y4 x, Y4 l, e1, e2, e4, e99, e100, e101, wk⟩
  repeat' first
   | (with_reducible refine Y7 ?_; (refine Wd rfl rfl rfl rfl (by (simp only [go_sem, F]; rfl)) hlr (by simp only [go_sem, F]; rfl) (by (simp only [go_sem, F]; rfl)) (by simp) hro (by first | omega | (simp; omega)) ?_))
   | refine gg ?_
   | refine Two.mk (fun hq => ?_) fun hq => ?_
   | (with_reducible refine Y7 ?_; refine gc rfl rfl rfl Yl2 (hbp _) ?_)
   | (exfalso; omega)
  all_goals exact ⟨rfl, l.parts.length - (k + 1), by omega, k + 1, _, hlt, rfl, (by rw [Y4 l, htk, Zq, Zg, Y6 bx]; rfl), e1, e2, e4, e99, e100, rfl⟩
end
section
section
variable {P : Program} {G : Nat → D} {n : Nat} {e : Nat → D} {h : List Ob} {ops : Array Oper} {rest : List Oper} {Q : S → Prop} {t : Nat} {ty : TypeId} {pos : String} {aft : Array Edge} {gd : Option (Nat × Bool)} {x y : Operand} {tys : Array TypeId} {k κ : IntKind} {a b : Int}
theorem tri_min {dst : Option Nat} : OpTri P G ⟨dst, .call ⟨.builtin .min, #[x, y], tys⟩, ty, pos, aft, gd⟩ [.v (.int k a), .v (.int κ b)] h (fun h' d => h' = h ∧ d = .v (.int k (if b < a then b else a))) := fun ac w hd p R hdf ok ha => by
 have ho : opds (.call ⟨.builtin .min, #[x, y], tys⟩) = [x, y] := by simp [opds, Op.operands, Call.operands]
 rw [ho, Zg, Zg, List.map_nil, rdL] at ha
 obtain ⟨u, t1, e1, h1, ha⟩ := ha
 rw [rdL] at ha
 obtain ⟨u2, t2, e2, h2, ha⟩ := ha
 rw [rd] at h1
 rw [rd] at h2
 cases e1
 injection e2 with e2 e3
 subst h2
 have hrun : (execOp ac.eval ⟨dst, .call ⟨.builtin .min, #[x, y], tys⟩, ty, pos, aft, gd⟩).run P w = .ok (.value (.int k (if b < a then b else a))) w := by
  simp [execOp, resolve, invoke, h1, e2, builtin, Builtin.min_, Builtin.min2]
 unfold Oper.wp
 rw [hrun]
 exact ⟨_, rfl, .same ok ⟨rfl, rfl⟩ (by rw [rd])⟩
theorem ao_min (hw : Yc ops gd e = some true) (ht : decide (t < n) = true) (hx : ev G e x = .v (.int k a)) (hy : ev G e y = .v (.int κ b)) (q : ao P G ops rest Q ⟨n, upd e t (.v (.int k (if b < a then b else a))), h⟩) : ao P G ops (⟨some t, .call ⟨.builtin .min, #[x, y], tys⟩, ty, pos, aft, gd⟩ :: rest) Q ⟨n, e, h⟩ := by
 have ho : opds (.call ⟨.builtin .min, #[x, y], tys⟩) = [x, y] := by simp [opds, Op.operands, Call.operands]
 refine ao_ex hw (by rw [show (⟨some t, .call ⟨.builtin .min, #[x, y], tys⟩, ty, pos, aft, gd⟩ : Oper).op = .call ⟨.builtin .min, #[x, y], tys⟩ from rfl, ho, Zg, Zg, List.map_nil, hx, hy]; exact tri_min) ?_
 rintro _ _ ⟨rfl, rfl⟩
 unfold putE
 simp only [if_pos (of_decide_eq_true ht)]
 exact q
end
section
variable {P : Program} {G : Nat → D} {n m0 : Nat} {ops : Array Oper} {Q : (Nat → D) → List Ob → Prop} {done : List Eff} {rest : List Oper} {e : Nat → D} {h : List Ob} {t : Nat} {ty : TypeId} {pos : String} {aft : Array Edge} {gd : Option (Nat × Bool)}
end
end
section
theorem visit_mono (f : Nat) : ∀ (f' : Nat) (l : Lat) (n m : Nat), f ≤ f' → m ≤ n → (Yt f l n).1 = 0 → (Yt f' l m).1 = 0 ∧ (Yt f' l m).2 + n = (Yt f l n).2 + m := by
 induction f with
 | zero => intro f' l n m _ _ h; unfold Yt at h; exact absurd (show (6 : Int) = 0 from h) (by decide)
 | succ f ih =>
  intro f' l n m hf hm h
  obtain ⟨g, rfl⟩ : ∃ g, f' = g + 1 := ⟨f' - 1, by omega⟩
  have e : ∀ f n, Yt (f + 1) l n = if 64 ≤ n then (6, n) else if W4 l then (1, n + 1) else if latE l ≠ 0 then (latE l, n + 1) else goL (Yt f) l.parts (n + 1) := fun f n => rfl
  rw [e] at h
  rw [e, e]
  by_cases h1 : 64 ≤ n
  · rw [if_pos h1] at h; exact absurd (show (6 : Int) = 0 from h) (by decide)
  rw [if_neg h1] at h ⊢
  rw [if_neg (show ¬ 64 ≤ m by omega)]
  cases h2 : W4 l
  · rw [if_neg (by rw [h2]; exact Zk)] at h
    rw [if_neg Zk, if_neg Zk]
    by_cases h3 : latE l = 0
    · rw [if_neg (fun h => h h3)] at h ⊢
      rw [if_neg (fun h => h h3)]
      have key : ∀ (ps : List Lat) (n m : Nat), m ≤ n → (goL (Yt f) ps n).1 = 0 → (goL (Yt g) ps m).1 = 0 ∧ (goL (Yt g) ps m).2 + n = (goL (Yt f) ps n).2 + m := by
       intro ps
       induction ps with
       | nil => intro n m _ _; exact ⟨rfl, by show m + n = n + m; omega⟩
       | cons p t it =>
        intro n m hm h
        rw [goL] at h
        rw [goL, goL]
        by_cases h0 : (Yt f p n).1 = 0
        · rw [if_neg (fun h => h h0)] at h
          obtain ⟨i1, i2⟩ := ih g p n m (by omega) hm h0
          rw [if_neg (show ¬ (Yt g p m).1 ≠ 0 from fun h => h i1), if_neg (show ¬ (Yt f p n).1 ≠ 0 from fun h => h h0)]
          obtain ⟨j1, j2⟩ := it (Yt f p n).2 (Yt g p m).2 (by omega) h
          exact ⟨j1, by omega⟩
        · rw [if_pos h0] at h; exact absurd h h0
      obtain ⟨a, b⟩ := key l.parts (n + 1) (m + 1) (by omega) h
      exact ⟨a, by omega⟩
    · rw [if_pos h3] at h; exact absurd h h3
  · rw [if_pos h2] at h; exact absurd (show (1 : Int) = 0 from h) (by decide)
theorem Zu1 {l p : Lat} (h : chkE l = 0) (hp : p ∈ l.parts) : chkE p = 0 := by
 have e : Yt 6 l 0 = if 64 ≤ 0 then (6, 0) else if W4 l then (1, 0 + 1) else if latE l ≠ 0 then (latE l, 0 + 1) else goL (Yt 5) l.parts (0 + 1) := rfl
 unfold chkE at h
 have hw := Yg3 6 l 0 h
 rw [e, if_neg (by decide), if_neg (by rw [hw.shape]; exact Zk), if_neg (fun q => q hw.check)] at h
 obtain ⟨m, hm⟩ := Yk3 _ _ _ h p hp
 exact (visit_mono 5 6 p m 0 (by omega) (Nat.zero_le _) hm).1
end
section
variable {P : Program} {G : Nat → D} {w w' : World} {hd : List Value} {h : List Ob} {p : Nat → Bool}
theorem Ok.kept (o : Ok G w hd h p) (h1 : w'.os = w.os ∧ w.drawn ≤ w'.drawn) (h2 : w'.tape = w.tape) (h3 : w'.output = w.output) (h4 : w.heap.size ≤ w'.heap.size) (h5 : ∀ b, b < w.heap.size → w'.heap[b]? = w.heap[b]?) : Ok G w' hd h p ∧ Evo w hd h p w' hd h p := by
 have e : Evo w hd h p w' hd h p := ⟨h1, h2, h3, h4, fun k hk _ => h5 k hk, fun _ _ q => q, fun _ _ q => .inl q, fun _ _ q => q, .refl _ _⟩
 exact ⟨⟨o.len, fun i ob u h1 h2 => obOk.move e o (o.ob i ob u h1 h2) (fun hl k hk => h5 k (o.lt ⟨i, ob, u, h1, hl, h2, hk⟩)) (fun _ _ _ q => q), o.inj, Zb5 e o, Zb7 e o⟩, e⟩
theorem Does.borrow (hG : ∀ g, low 0 (G g)) {f : FuncId} {args : List D} {i E k n : Nat} {rows : List (List D)} {x : Value} (hi : h[i]? = some (.buf E k rows)) (hn : rows.length = n) (la : lowL 0 args) (lr : low 0 (.sl k rows)) (q : Does P G f [] (.sl k rows :: args) (fun h' r => h' = [] ∧ r = .v x)) : Does P G f h (.buf i n :: args) (fun h' r => h' = h ∧ r = .v x) := fun w hd p vs ok ha => by
 rw [rdL] at ha
 obtain ⟨u, t, rfl, hu, ht⟩ := ha
 obtain ⟨p', o', ev, cv⟩ := ok.give (fun j => j == i)
 have hr := cv _ _ hu
 have e : cvD (fun j => j == i) h (.buf i n) = .sl k rows := by simp [cvD, cv1, hi, hn]
 rw [e] at hr
 have ht2 := ev.rdL ok ht
 have o2 := o'.take (m := 0) (fun x hx => by simp at hx) hG
 have r1 := Zi8 (m := 0) o'.len _ _ lr hr
 have r2 := V5 (m := 0) o'.len _ _ la ht2
 simp only [List.take_zero] at o2 r1 r2
 refine (q w [] p' (u :: t) o2 (by rw [rdL]; exact ⟨u, t, rfl, r1, r2⟩)).mono ?_
 rintro e w' ⟨v, hd', h', r, p2, rfl, ⟨rfl, rfl⟩, ok2, hr2, ev2⟩
 rw [rd] at hr2; subst hr2
 obtain ⟨o3, ev3⟩ := ok.kept ev2.os ev2.tape ev2.output ev2.size fun b hb => ev2.keep b hb fun ⟨j, ob, u, q, _⟩ => by simp at q
 exact ⟨_, hd, h, .v _, p, rfl, ⟨rfl, rfl⟩, o3, by rw [rd], ev3⟩
end
section
/-! Texts in the order of their bytes. -/
def ltS (a b : ByteArray) : Prop := a.data.toList < b.data.toList
instance : DecidableRel ltS := fun a b => inferInstanceAs (Decidable (a.data.toList < b.data.toList))
theorem Um (a : ByteArray) : ¬ ltS a a := List.lt_irrefl _
theorem Zx3 {a b c : ByteArray} (h : ltS a b) (k : ltS b c) : ltS a c := List.lt_trans h k
theorem ba_ext {a b : ByteArray} (h : a.data.toList = b.data.toList) : a = b := ByteArray.ext (Array.ext' h)
theorem ltS_tri (a b : ByteArray) : ltS a b ∨ a = b ∨ ltS b a := by
 by_cases h : ltS a b
 · exact .inl h
 by_cases k : a = b
 · exact .inr (.inl k)
 · have h1 : b.data.toList ≤ a.data.toList := List.not_lt.1 h
   rcases List.le_iff_lt_or_eq.1 h1 with h2 | h2
   · exact .inr (.inr h2)
   · exact absurd (ba_ext h2).symm k
theorem bl_ltS (a b : ByteArray) : Op.bytesLess a.toList b.toList = decide (ltS a b) := by rw [U6, U6, bl_eq]; rfl
def insS (c : ByteArray) : List ByteArray → List ByteArray
 | [] => [c]
 | y :: t => if ltS c y then c :: y :: t else if c = y then y :: t else y :: insS c t
def ofS (l : List ByteArray) : List ByteArray := l.foldr insS []
theorem Yk1 : ∀ (c : ByteArray) (l : List ByteArray) (d : ByteArray), d ∈ insS c l ↔ d = c ∨ d ∈ l
 | c, [], d => by simp [insS]
 | c, y :: t, d => by
  rw [insS]
  split
  · simp
  split
  · rename_i h; subst h; simp
  · rw [Z2, Yk1 c t d, Z2]
    constructor
    · rintro (h | h | h) <;> simp [h]
    · rintro (h | h | h) <;> simp [h]
theorem Zy3 : ∀ (c : ByteArray) (l : List ByteArray), l.Pairwise ltS → (insS c l).Pairwise ltS
 | c, [], _ => by simp [insS]
 | c, y :: t, h => by
  obtain ⟨h1, h2⟩ := Z1.1 h
  rw [insS]
  split
  · rename_i hlt
    refine Z1.2 ⟨fun d hd => ?_, h⟩
    rcases Z2.1 hd with rfl | hd
    · exact hlt
    · exact Zx3 hlt (h1 d hd)
  split
  · exact h
  · rename_i hlt hz
    have hy : ltS y c := (ltS_tri c y).elim (fun a => absurd a hlt) (fun a => a.elim (fun a => absurd a hz) id)
    refine Z1.2 ⟨fun d hd => ?_, Zy3 c t h2⟩
    rcases (Yk1 c t d).1 hd with rfl | hd
    · exact hy
    · exact h1 d hd
theorem Yd8 : ∀ l : List ByteArray, (ofS l).Pairwise ltS
 | [] => .nil
 | c :: t => Zy3 c _ (Yd8 t)
theorem mem_ofS : ∀ {l : List ByteArray} {c : ByteArray}, c ∈ ofS l ↔ c ∈ l
 | [], _ => Iff.rfl
 | x :: t, c => by
  show c ∈ insS x (ofS t) ↔ _
  rw [Yk1, mem_ofS, Z2]
theorem Wi : ∀ {a b : List ByteArray}, a.Pairwise ltS → b.Pairwise ltS → (∀ c, c ∈ a ↔ c ∈ b) → a = b
 | [], [], _, _, _ => rfl
 | [], y :: t, _, _, h => by simpa using (h y).2 (by simp)
 | x :: s, [], _, _, h => by simpa using (h x).1 (by simp)
 | x :: s, y :: t, ha, hb, h => by
  obtain ⟨a1, a2⟩ := Z1.1 ha
  obtain ⟨b1, b2⟩ := Z1.1 hb
  have hxy : x = y := by
   rcases Z2.1 ((h x).1 (by simp)) with e | hx
   · exact e
   rcases Z2.1 ((h y).2 (by simp)) with e | hy
   · exact e.symm
   exact absurd (Zx3 (a1 y hy) (b1 x hx)) (Um x)
  subst hxy
  rw [Wi a2 b2 fun c => ⟨fun hc => ?_, fun hc => ?_⟩]
  · rcases Z2.1 ((h c).1 (by simp [hc])) with rfl | q
    · exact absurd (a1 c hc) (Um c)
    · exact q
  · rcases Z2.1 ((h c).2 (by simp [hc])) with rfl | q
    · exact absurd (b1 c hc) (Um c)
    · exact q
/-! Leaving out equal neighbours. -/
def cptS : ByteArray → List ByteArray → List ByteArray
 | _, [] => []
 | p, y :: t => if y = p then cptS y t else y :: cptS y t
def compactS : List ByteArray → List ByteArray
 | [] => []
 | x :: t => x :: cptS x t
def sX (s : ByteArray) : List D := [.v (.string s)]
end
section
theorem strLt_ltS (a b : ByteArray) : Ue a b = decide (ltS a b) := bl_ltS a b
theorem Zh5 : ∀ (p : ByteArray) (l : List ByteArray), X5 p l = true ↔ (p :: l).Pairwise ltS
 | p, [] => by simp [X5]
 | p, x :: t => by
   rw [X5, Z0, Zh5 x t, strLt_ltS, decide_eq_true_eq]
   constructor
   · rintro ⟨h, hp⟩
     refine Z1.2 ⟨fun y hy => ?_, hp⟩
     rcases Z2.1 hy with rfl | hy
     · exact h
     · exact Zx3 h ((Z1.1 hp).1 y hy)
   · intro h
     exact ⟨(Z1.1 h).1 x (by simp), (Z1.1 h).2⟩
theorem Zv6 : ∀ l : List ByteArray, Xk l = true ↔ l.Pairwise ltS
 | [] => by simp [Xk]
 | x :: t => Zh5 x t
theorem Yd {a b : List ByteArray} : X8 a b = true ↔ ∀ x ∈ a, x ∈ b := by
 unfold X8
 rw [Z3]
 exact ⟨fun h x hx => (Yu _ _).1 (h x hx), fun h x hx => (Yu _ _).2 (h x hx)⟩
theorem Ym {only s : List ByteArray} : Ye only s = true ↔ s.Pairwise ltS ∧ ∀ x ∈ s, Xz x = true ∧ (only = [] ∨ x ∈ only) := by
 unfold Ye memB
 rw [Z0, Zv6, Z3]
 simp only [Z0, Zr, decide_eq_true_eq, Yu, Z5]
theorem Jz {rs : List Rl} {s : List ByteArray} : W0 rs s = true ↔ ∀ r ∈ rs, (∀ x ∈ r.cond, x ∈ s) → r.concl ∈ s := by
 unfold W0
 rw [Z3]
 refine forall_congr' fun r => forall_congr' fun _ => ?_
 rw [Zr, Yu, Z4, ← Z9, Yd]
 exact ⟨fun h a => h.elim (fun h => absurd a h) id, fun h => Classical.byContradiction fun hn => hn (.inr (h (Classical.byContradiction fun h' => hn (.inl h'))))⟩
def Wv (a b : List ByteArray) : List ByteArray := ofS (a ++ b)
theorem Yp {a b : List ByteArray} {x : ByteArray} : x ∈ Wv a b ↔ x ∈ a ∨ x ∈ b := by unfold Wv; rw [mem_ofS, Za]
theorem Xc (a b : List ByteArray) : (Wv a b).Pairwise ltS := Yd8 _
theorem Zo9 {only a b : List ByteArray} (ha : Ye only a = true) (hb : Ye only b = true) : Ye only (Wv a b) = true := by
 rw [Ym] at *
 exact ⟨Xc a b, fun x hx => (Yp.1 hx).elim (ha.2 x) (hb.2 x)⟩
theorem Zh9 {only a : List ByteArray} (f : ByteArray → Bool) (ha : Ye only a = true) : Ye only (a.filter f) = true := by
 rw [Ym] at *
 exact ⟨ha.1.filter f, fun x hx => ha.2 x (Zd.1 hx).1⟩
def minS (a b : List ByteArray) : List ByteArray := a.filter fun s => !hasS b s
def Ze6 (a b : List ByteArray) : List ByteArray := a.filter fun s => hasS b s
theorem Up {a b : List ByteArray} {x : ByteArray} : x ∈ minS a b ↔ x ∈ a ∧ x ∉ b := by unfold minS; rw [Zd, Z4, ← Z9, Yu]
theorem Zx2 {a b : List ByteArray} {x : ByteArray} : x ∈ Ze6 a b ↔ x ∈ a ∧ x ∈ b := by unfold Ze6; rw [Zd, Yu]
/-! Closure. -/
def fireS (rs : List Rl) (s : List ByteArray) : Option Rl := rs.find? fun r => X8 r.cond s && !hasS s r.concl
def Zf5 : Nat → List Rl → List ByteArray → List ByteArray
 | 0, _, s => s
 | f + 1, rs, s => match fireS rs s with
   | none => s
   | some r => Zf5 f rs (s ++ [r.concl])
def Za0 (ns : List ByteArray) (rs : List Rl) (s : List ByteArray) : List ByteArray := ns.filter (hasS (Zf5 ns.length rs s))
theorem Zy9 {rs : List Rl} {s : List ByteArray} {r : Rl} (h : fireS rs s = some r) : r ∈ rs ∧ (∀ x ∈ r.cond, x ∈ s) ∧ r.concl ∉ s := by
 have h1 := List.find?_some h
 rw [Z0, Yd, Z4, ← Z9, Yu] at h1
 exact ⟨List.mem_of_find?_eq_some h, h1.1, h1.2⟩
theorem fire_none {rs : List Rl} {s : List ByteArray} : fireS rs s = none ↔ W0 rs s = true := by
 unfold fireS
 rw [List.find?_eq_none, Jz]
 refine forall_congr' fun r => forall_congr' fun _ => ?_
 rw [Z0, Yd, Z4, ← Z9, Yu]
 exact ⟨fun h a => Classical.byContradiction fun hn => h ⟨a, hn⟩, fun h a => a.2 (h a.1)⟩
theorem chain_sub : ∀ (f : Nat) (rs : List Rl) (s : List ByteArray), ∀ x ∈ s, x ∈ Zf5 f rs s
 | 0, _, _, _, hx => hx
 | f + 1, rs, s, x, hx => by
  rw [Zf5]
  split
  · exact hx
  · exact chain_sub f rs _ x (Za.2 (.inl hx))
theorem Ya6 : ∀ (f : Nat) (rs : List Rl) (s t : List ByteArray), W0 rs t = true → (∀ x ∈ s, x ∈ t) → ∀ x ∈ Zf5 f rs s, x ∈ t
 | 0, _, _, _, _, h, x, hx => h x hx
 | f + 1, rs, s, t, ht, h, x, hx => by
  rw [Zf5] at hx
  split at hx
  · exact h x hx
  · rename_i r hr
    obtain ⟨h1, h2, h3⟩ := Zy9 hr
    refine Ya6 f rs _ t ht (fun y hy => ?_) x hx
    rcases Za.1 hy with hy | hy
    · exact h y hy
    · rw [Zj.1 hy]
      exact Jz.1 ht r h1 fun z hz => h z (h2 z hz)
theorem chain_in : ∀ (f : Nat) (rs : List Rl) (ns s : List ByteArray), (∀ r ∈ rs, r.concl ∈ ns) → (∀ x ∈ s, x ∈ ns) → ∀ x ∈ Zf5 f rs s, x ∈ ns
 | 0, _, _, _, _, h, x, hx => h x hx
 | f + 1, rs, ns, s, hr, h, x, hx => by
  rw [Zf5] at hx
  split at hx
  · exact h x hx
  · rename_i r hr'
    refine chain_in f rs ns _ hr (fun y hy => ?_) x hx
    rcases Za.1 hy with hy | hy
    · exact h y hy
    · rw [Zj.1 hy]
      exact hr r (Zy9 hr').1
theorem filter_lt {α : Type} {p q : α → Bool} : ∀ {l : List α}, (∀ x, p x = true → q x = true) → (∃ x ∈ l, q x = true ∧ p x = false) → (l.filter p).length < (l.filter q).length
 | [], _, h => by obtain ⟨x, hx, _⟩ := h; cases hx
 | y :: t, hpq, h => by
  have hle : (t.filter p).length ≤ (t.filter q).length := by
   clear h
   induction t with
   | nil => exact Zt _
   | cons z t ih =>
    rw [Zl, Zl]
    cases hp : p z
    · cases hq : q z
      · exact ih
      · simp only [Zi, ↓reduceIte, Zc]; omega
    · rw [hpq z hp]
      simp only [↓reduceIte, Zc]; omega
  rw [Zl, Zl]
  obtain ⟨x, hx, h1, h2⟩ := h
  rcases Z2.1 hx with rfl | hx
  · rw [h1, h2]
    simp only [Zi, ↓reduceIte, Zc]; omega
  · have ih := filter_lt hpq ⟨x, hx, h1, h2⟩
    cases hp : p y
    · cases hq : q y
      · exact ih
      · simp only [Zi, ↓reduceIte, Zc]; omega
    · rw [hpq y hp]
      simp only [↓reduceIte, Zc]; omega
theorem Zs1 : ∀ (f : Nat) (rs : List Rl) (ns s : List ByteArray), (∀ r ∈ rs, r.concl ∈ ns) → (ns.filter fun x => !hasS s x).length ≤ f → W0 rs (Zf5 f rs s) = true
 | 0, rs, ns, s, hr, hf => by
  have h0 := List.filter_eq_nil_iff.1 (Z5.1 (Nat.le_zero.1 hf))
  refine Jz.2 fun r h _ => ?_
  have := h0 r.concl (hr r h)
  rw [Z4, Bool.not_eq_false, Yu] at this
  exact this
 | f + 1, rs, ns, s, hr, hf => by
  rw [Zf5]
  split
  · rename_i hn; exact fire_none.1 hn
  · rename_i r hr'
    obtain ⟨h1, h2, h3⟩ := Zy9 hr'
    refine Zs1 f rs ns _ hr ?_
    have := filter_lt (p := fun x => !hasS (s ++ [r.concl]) x) (q := fun x => !hasS s x) (l := ns) (fun x hx => by
      rw [Z4, ← Z9, Yu, Za] at hx
      rw [Z4, ← Z9, Yu]
      exact fun h => hx (.inl h)) ⟨r.concl, hr r h1, by rw [Z4, ← Z9, Yu]; exact h3, by rw [Bool.not_eq_false', Yu]; simp⟩
    omega
section
variable {ns s : List ByteArray} {rs : List Rl} (hr : ∀ r ∈ rs, r.concl ∈ ns) (hs : ∀ x ∈ s, x ∈ ns)
include hr hs
theorem Zn3 {x : ByteArray} : x ∈ Za0 ns rs s ↔ x ∈ Zf5 ns.length rs s := by
 unfold Za0
 rw [Zd, Yu]
 exact ⟨fun h => h.2, fun h => ⟨chain_in _ _ _ _ hr hs x h, h⟩⟩
theorem close_sub : ∀ x ∈ s, x ∈ Za0 ns rs s := fun x hx => (Zn3 hr hs).2 (chain_sub _ _ _ x hx)
theorem close_closed : W0 rs (Za0 ns rs s) = true := by
 have h := Zs1 ns.length rs ns s hr (List.length_filter_le _ _)
 rw [Jz] at h ⊢
 intro r hr' hc
 exact (Zn3 hr hs).2 (h r hr' fun x hx => (Zn3 hr hs).1 (hc x hx))
theorem close_least {t : List ByteArray} (ht : W0 rs t = true) (h : ∀ x ∈ s, x ∈ t) : ∀ x ∈ Za0 ns rs s, x ∈ t := fun x hx => Ya6 _ _ _ t ht h x ((Zn3 hr hs).1 hx)
end
theorem close_sorted {ns s : List ByteArray} {rs : List Rl} (h : ns.Pairwise ltS) : (Za0 ns rs s).Pairwise ltS := h.filter _
theorem close_in {ns s : List ByteArray} {rs : List Rl} : ∀ x ∈ Za0 ns rs s, x ∈ ns := fun _ hx => (Zd.1 hx).1
end
section
structure Jl {α : Type} (E : α → Prop) (le : α → α → Bool) (jn : α → α → α) (bot : α) : Prop where
 refl : ∀ a, E a → le a a = true
 trans : ∀ a b c, E a → E b → E c → le a b = true → le b c = true → le a c = true
 anti : ∀ a b, E a → E b → le a b = true → le b a = true → a = b
 mem : ∀ a b, E a → E b → E (jn a b)
 left : ∀ a b, E a → E b → le a (jn a b) = true
 right : ∀ a b, E a → E b → le b (jn a b) = true
 lub : ∀ a b c, E a → E b → E c → le a c = true → le b c = true → le (jn a b) c = true
 bmem : E bot
 bot : ∀ a, E a → le bot a = true
section
variable {α : Type} {E : α → Prop} {le : α → α → Bool} {jn : α → α → α} {bot : α}
theorem Jl.of_le (J : Jl E le jn bot) {a b : α} (ha : E a) (hb : E b) (h : le a b = true) : jn a b = b :=
 J.anti _ _ (J.mem a b ha hb) hb (J.lub a b b ha hb hb h (J.refl b hb)) (J.right a b ha hb)
theorem Jl.comm (J : Jl E le jn bot) {a b : α} (ha : E a) (hb : E b) : jn a b = jn b a :=
 J.anti _ _ (J.mem a b ha hb) (J.mem b a hb ha) (J.lub a b _ ha hb (J.mem b a hb ha) (J.right b a hb ha) (J.left b a hb ha)) (J.lub b a _ hb ha (J.mem a b ha hb) (J.right a b ha hb) (J.left a b ha hb))
theorem Jl.of_ge (J : Jl E le jn bot) {a b : α} (ha : E a) (hb : E b) (h : le b a = true) : jn a b = a := (J.comm ha hb).trans (J.of_le hb ha h)
theorem Jl.ext (J : Jl E le jn bot) {a b : α} (ha : E a) (hb : E b) (h : ∀ c, E c → (le a c = true ↔ le b c = true)) : a = b :=
 J.anti _ _ ha hb ((h b hb).2 (J.refl b hb)) ((h a ha).1 (J.refl a ha))
theorem Jl.bot_left (J : Jl E le jn bot) {a : α} (ha : E a) : jn bot a = a := J.of_le J.bmem ha (J.bot a ha)
theorem Jl.is_bot (J : Jl E le jn bot) {a : α} (ha : E a) : le a bot = true ↔ a = bot :=
 ⟨fun h => J.anti _ _ ha J.bmem h (J.bot a ha), fun h => by rw [h]; exact J.refl _ J.bmem⟩
theorem Jl.join_bot (J : Jl E le jn bot) {a b : α} (ha : E a) (hb : E b) (h : jn a b = bot) : a = bot := (J.is_bot ha).1 (by rw [← h]; exact J.left a b ha hb)
theorem jl_total (hr : ∀ a, E a → le a a = true) (ht : ∀ a b c, E a → E b → E c → le a b = true → le b c = true → le a c = true) (ha : ∀ a b, E a → E b → le a b = true → le b a = true → a = b)
  (tot : ∀ a b, E a → E b → le a b = true ∨ le b a = true) (hj : ∀ a b, E a → E b → jn a b = if le a b = true then b else a) (hbm : E bot) (hb : ∀ a, E a → le bot a = true) : Jl E le jn bot where
 refl := hr
 trans := ht
 anti := ha
 mem a b h1 h2 := by rw [hj a b h1 h2]; split <;> assumption
 left a b h1 h2 := by
  rw [hj a b h1 h2]; split
  · assumption
  · exact hr a h1
 right a b h1 h2 := by
  rw [hj a b h1 h2]; split
  · exact hr b h2
  · rename_i h; exact (tot a b h1 h2).resolve_left h
 lub a b c h1 h2 _ h3 h4 := by rw [hj a b h1 h2]; split <;> assumption
 bmem := hbm
 bot := hb
theorem Jl.map {β : Type} {F : β → Prop} {le' : β → β → Bool} {jn' : β → β → β} {bot' : β} (J : Jl F le' jn' bot') (π : α → β) (ι : β → α) (h1 : ∀ a, E a ↔ F (π a) ∧ ι (π a) = a) (h2 : ∀ x, F x → π (ι x) = x)
  (h3 : ∀ a b, E a → E b → le a b = le' (π a) (π b)) (h4 : ∀ a b, E a → E b → jn a b = ι (jn' (π a) (π b))) (h5 : bot = ι bot') : Jl E le jn bot := by
 have hF : ∀ {a}, E a → F (π a) := fun h => ((h1 _).1 h).1
 have hE : ∀ {x}, F x → E (ι x) := fun {x} h => (h1 _).2 ⟨by rw [h2 x h]; exact h, by rw [h2 x h]⟩
 have hb : E bot := by rw [h5]; exact hE J.bmem
 have hpb : π bot = bot' := by rw [h5]; exact h2 _ J.bmem
 have hm : ∀ a b, E a → E b → E (jn a b) := fun a b ha hb => by rw [h4 a b ha hb]; exact hE (J.mem _ _ (hF ha) (hF hb))
 have hpj : ∀ a b, E a → E b → π (jn a b) = jn' (π a) (π b) := fun a b ha hb => by rw [h4 a b ha hb]; exact h2 _ (J.mem _ _ (hF ha) (hF hb))
 exact {
  refl := fun a ha => by rw [h3 a a ha ha]; exact J.refl _ (hF ha)
  trans := fun a b c ha hb hc x y => by rw [h3 a b ha hb] at x; rw [h3 b c hb hc] at y; rw [h3 a c ha hc]; exact J.trans _ _ _ (hF ha) (hF hb) (hF hc) x y
  anti := fun a b ha hb x y => by
   rw [h3 a b ha hb] at x; rw [h3 b a hb ha] at y
   have := J.anti _ _ (hF ha) (hF hb) x y
   rw [← ((h1 a).1 ha).2, ← ((h1 b).1 hb).2, this]
  mem := hm
  left := fun a b ha hb => by rw [h3 a _ ha (hm a b ha hb), hpj a b ha hb]; exact J.left _ _ (hF ha) (hF hb)
  right := fun a b ha hb => by rw [h3 b _ hb (hm a b ha hb), hpj a b ha hb]; exact J.right _ _ (hF ha) (hF hb)
  lub := fun a b c ha hb hc x y => by rw [h3 a c ha hc] at x; rw [h3 b c hb hc] at y; rw [h3 _ c (hm a b ha hb) hc, hpj a b ha hb]; exact J.lub _ _ _ (hF ha) (hF hb) (hF hc) x y
  bmem := hb
  bot := fun a ha => by rw [h3 _ a hb ha, hpb]; exact J.bot _ (hF ha) }
end
instance : DecidableEq Val := fun a b => decidable_of_iff (valC a b = 0) (Yq a b)
/-! Maps. -/
def getL : List ByteArray → List Val → ByteArray → Option Val
 | n :: ns, p :: ps, s => if n = s then some p else getL ns ps s
 | [], _, _ => none
 | _ :: _, [], _ => none
def getM (v : Val) (s : ByteArray) : Option Val := getL v.names v.parts s
theorem Yk5 : ∀ {ns : List ByteArray} {ps : List Val} {s : ByteArray} {v : Val}, getL ns ps s = some v → (s, v) ∈ ns.zip ps
 | n :: ns, p :: ps, s, v, h => by
  rw [getL] at h
  split at h
  · rename_i e; cases h; subst e; simp
  · simp [Yk5 h]
 | [], _, _, _, h => by simp [getL] at h
 | _ :: _, [], _, _, h => by simp [getL] at h
theorem Uu : ∀ {ns : List ByteArray} {ps : List Val} {s : ByteArray} {v : Val}, ns.Pairwise ltS → (s, v) ∈ ns.zip ps → getL ns ps s = some v
 | n :: ns, p :: ps, s, v, hs, h => by
  rw [List.zip_cons_cons, Z2] at h
  rw [getL]
  obtain ⟨h1, h2⟩ := Z1.1 hs
  rcases h with h | h
  · cases h; rw [if_pos rfl]
  · rw [if_neg (fun e => by subst e; exact Um _ (h1 _ (List.of_mem_zip h).1))]
    exact Uu h2 h
 | [], _, _, _, _, h => by simp at h
 | _ :: _, [], _, _, _, h => by simp at h
theorem Jw : ∀ {ns : List ByteArray} {ps : List Val} {s : ByteArray}, ns.length = ps.length → (getL ns ps s = none ↔ s ∉ ns)
 | n :: ns, p :: ps, s, h => by
  rw [getL]
  split
  · rename_i e; subst e; simp
  · rename_i e
    rw [Jw (by simpa using h), Z2]
    exact ⟨fun h1 h2 => h2.elim (fun h => e h.symm) h1, fun h1 h2 => h1 (.inr h2)⟩
 | [], _, _, _ => by simp [getL]
 | _ :: _, [], _, h => by simp at h
theorem Wo {ns : List ByteArray} {ps : List Val} {s : ByteArray} (h : ns.length = ps.length) : (∃ v, getL ns ps s = some v) ↔ s ∈ ns := by
 have := Jw (s := s) h
 cases hg : getL ns ps s with
 | none => exact ⟨fun ⟨_, h⟩ => (by cases h), fun h => absurd h (this.1 hg)⟩
 | some v => exact ⟨fun _ => Classical.byContradiction fun hn => (by have := this.2 hn; rw [hg] at this; cases this), fun _ => ⟨v, rfl⟩⟩
theorem Yk6 (f : ByteArray → Val) : ∀ (ns : List ByteArray) (s : ByteArray), getL ns (ns.map f) s = if hasS ns s = true then some (f s) else none
 | [], s => rfl
 | n :: t, s => by
  rw [Zg, getL, Yk6 f t s]
  rw [hasS]
  by_cases h : n = s
  · rw [if_pos h, decide_eq_true h, h]; rfl
  · rw [if_neg h, decide_eq_false h, Bool.false_or]
theorem getL_ext : ∀ {ns ns' : List ByteArray} {ps ps' : List Val}, ns.Pairwise ltS → ns'.Pairwise ltS → ns.length = ps.length → ns'.length = ps'.length → (∀ s, getL ns ps s = getL ns' ps' s) → ns = ns' ∧ ps = ps' := by
 intro ns ns' ps ps' h1 h2 h3 h4 h
 have hn : ns = ns' := Wi h1 h2 fun c => by rw [← Wo h3, ← Wo h4]; simp only [h]
 subst hn
 refine ⟨rfl, ?_⟩
 refine List.ext_getElem (by omega) fun i hi hi' => ?_
 have e1 : getL ns ps (ns[i]'(by omega)) = some ps[i] := Uu h1 (by rw [Zm]; exact ⟨i, by rw [List.length_zip]; omega, by rw [List.getElem_zip]⟩)
 have e2 : getL ns ps' (ns[i]'(by omega)) = some ps'[i] := Uu h1 (by rw [Zm]; exact ⟨i, by rw [List.length_zip]; omega, by rw [List.getElem_zip]⟩)
 rw [h, e2] at e1
 exact (Option.some.inj e1).symm
def MapE (only : List ByteArray) (E : Val → Prop) (bot : Val) (v : Val) : Prop := (v.n = 0 ∧ v.entries = []) ∧ v.names.length = v.parts.length ∧ Ye only v.names = true ∧ ∀ p ∈ v.parts, E p ∧ p ≠ bot
def Zj7 (le : Val → Val → Bool) (a b : Val) : Bool := (a.names.zip a.parts).all fun x => match getM b x.1 with
 | some w => le x.2 w
 | none => false
def cmbM (jn : Val → Val → Val) : Option Val → Option Val → Option Val
 | some v, some w => some (jn v w)
 | some v, none => some v
 | none, o => o
def Zb4 (jn : Val → Val → Val) (a b : Val) : Val := .mk 0 (Wv a.names b.names) ((Wv a.names b.names).map fun s => (cmbM jn (getM a s) (getM b s)).getD Wx) []
theorem Yz {le : Val → Val → Bool} {a b : Val} (h : a.names.Pairwise ltS) : Zj7 le a b = true ↔ ∀ s v, getM a s = some v → ∃ w, getM b s = some w ∧ le v w = true := by
 unfold Zj7
 rw [Z3]
 constructor
 · intro h1 s v hv
   have := h1 _ (Yk5 hv)
   revert this
   cases getM b s with
   | none => intro h; cases h
   | some w => intro h; exact ⟨w, rfl, h⟩
 · rintro h1 ⟨s, v⟩ hx
   obtain ⟨w, hw, hl⟩ := h1 s v (Uu h hx)
   rw [hw]; exact hl
theorem MapE.get {only : List ByteArray} {E : Val → Prop} {bot v : Val} (h : MapE only E bot v) {s : ByteArray} {w : Val} (hw : getM v s = some w) : E w ∧ w ≠ bot := h.2.2.2 w (List.of_mem_zip (Yk5 hw)).2
theorem MapE.sorted {only : List ByteArray} {E : Val → Prop} {bot v : Val} (h : MapE only E bot v) : v.names.Pairwise ltS := (Ym.1 h.2.2.1).1
theorem MapE.ext {only : List ByteArray} {E : Val → Prop} {bot v w : Val} (h : MapE only E bot v) (h' : MapE only E bot w) (he : ∀ s, getM v s = getM w s) : v = w := by
 obtain ⟨h1, h2⟩ := getL_ext h.sorted h'.sorted h.2.1 h'.2.1 he
 obtain ⟨n, ns, ps, es⟩ := v
 obtain ⟨n', ns', ps', es'⟩ := w
 have e1 : n = 0 := h.1.1
 have e2 : n' = 0 := h'.1.1
 have e3 : es = [] := h.1.2
 have e4 : es' = [] := h'.1.2
 have e5 : ns = ns' := h1
 have e6 : ps = ps' := h2
 rw [e1, e2, e3, e4, e5, e6]
theorem Jv {only : List ByteArray} {E : Val → Prop} {bot a b : Val} (jn : Val → Val → Val) (ha : MapE only E bot a) (hb : MapE only E bot b) (s : ByteArray) : getM (Zb4 jn a b) s = cmbM jn (getM a s) (getM b s) := by
 have e : getM (Zb4 jn a b) s = getL (Wv a.names b.names) ((Wv a.names b.names).map fun s => (cmbM jn (getM a s) (getM b s)).getD Wx) s := rfl
 rw [e, Yk6]
 have h1 := Wo (s := s) ha.2.1
 have h2 := Wo (s := s) hb.2.1
 by_cases h : s ∈ Wv a.names b.names
 · rw [if_pos ((Yu _ _).2 h)]
   cases hga : getM a s with
   | some v => cases hgb : getM b s <;> rfl
   | none =>
    cases hgb : getM b s with
    | some w => rfl
    | none =>
     rcases Yp.1 h with h | h
     · obtain ⟨v, hv⟩ := h1.2 h; rw [show getM a s = some v from hv] at hga; cases hga
     · obtain ⟨v, hv⟩ := h2.2 h; rw [show getM b s = some v from hv] at hgb; cases hgb
 · rw [if_neg (fun q => h ((Yu _ _).1 q))]
   have n1 : getM a s = none := (Jw ha.2.1).2 fun q => h (Yp.2 (.inl q))
   have n2 : getM b s = none := (Jw hb.2.1).2 fun q => h (Yp.2 (.inr q))
   rw [n1, n2]; rfl
theorem jl_maps {only : List ByteArray} {E : Val → Prop} {le : Val → Val → Bool} {jn : Val → Val → Val} {bot : Val} (J : Jl E le jn bot) : Jl (MapE only E bot) (Zj7 le) (Zb4 jn) Wx := by
 have hmem : ∀ a b, MapE only E bot a → MapE only E bot b → MapE only E bot (Zb4 jn a b) := fun a b ha hb => by
  refine ⟨⟨rfl, rfl⟩, ?_, Zo9 ha.2.2.1 hb.2.2.1, fun p hp => ?_⟩
  · show (Wv a.names b.names).length = (List.map _ _).length
    rw [Zh]
  · obtain ⟨s, hs, rfl⟩ := List.mem_map.1 hp
    cases hga : getM a s with
    | some v =>
     obtain ⟨v1, v2⟩ := ha.get hga
     cases hgb : getM b s with
     | some w =>
      obtain ⟨w1, w2⟩ := hb.get hgb
      exact ⟨J.mem v w v1 w1, fun h => v2 (J.join_bot v1 w1 h)⟩
     | none => exact ⟨v1, v2⟩
    | none =>
     cases hgb : getM b s with
     | some w => exact hb.get hgb
     | none =>
      exfalso
      rcases Yp.1 hs with h | h
      · obtain ⟨v, hv⟩ := (Wo ha.2.1).2 h; rw [show getM a s = some v from hv] at hga; cases hga
      · obtain ⟨v, hv⟩ := (Wo hb.2.1).2 h; rw [show getM b s = some v from hv] at hgb; cases hgb
 exact {
  refl := fun a ha => (Yz ha.sorted).2 fun s v hv => ⟨v, hv, J.refl v (ha.get hv).1⟩
  trans := fun a b c ha hb hc x y => (Yz ha.sorted).2 fun s v hv => by
   obtain ⟨w, hw, h1⟩ := (Yz ha.sorted).1 x s v hv
   obtain ⟨u, hu, h2⟩ := (Yz hb.sorted).1 y s w hw
   exact ⟨u, hu, J.trans _ _ _ (ha.get hv).1 (hb.get hw).1 (hc.get hu).1 h1 h2⟩
  anti := fun a b ha hb x y => ha.ext hb fun s => by
   rw [Yz ha.sorted] at x
   rw [Yz hb.sorted] at y
   cases hv : getM a s with
   | some v =>
    obtain ⟨w, hw, h1⟩ := x s v hv
    obtain ⟨u, hu, h2⟩ := y s w hw
    rw [hv] at hu; cases hu
    rw [hw, J.anti v w (ha.get hv).1 (hb.get hw).1 h1 h2]
   | none =>
    cases hw : getM b s with
    | none => rfl
    | some w =>
     obtain ⟨u, hu, _⟩ := y s w hw
     rw [hv] at hu; cases hu
  mem := hmem
  left := fun a b ha hb => (Yz ha.sorted).2 fun s v hv => by
   rw [Jv jn ha hb, hv]
   cases hw : getM b s with
   | none => exact ⟨v, rfl, J.refl v (ha.get hv).1⟩
   | some w => exact ⟨_, rfl, J.left v w (ha.get hv).1 (hb.get hw).1⟩
  right := fun a b ha hb => (Yz hb.sorted).2 fun s w hw => by
   rw [Jv jn ha hb, hw]
   cases hv : getM a s with
   | none => exact ⟨w, rfl, J.refl w (hb.get hw).1⟩
   | some v => exact ⟨_, rfl, J.right v w (ha.get hv).1 (hb.get hw).1⟩
  lub := fun a b c ha hb hc x y => (Yz (show (Zb4 jn a b).names.Pairwise ltS from Xc _ _)).2 fun s u hu => by
   rw [Jv jn ha hb] at hu
   rw [Yz ha.sorted] at x
   rw [Yz hb.sorted] at y
   cases hv : getM a s with
   | none =>
    rw [hv] at hu
    exact y s u hu
   | some v =>
    rw [hv] at hu
    cases hw : getM b s with
    | none => rw [hw] at hu; rw [← show v = u from Option.some.inj hu]; exact x s v hv
    | some w =>
     rw [hw] at hu; cases hu
     obtain ⟨p, hp, h1⟩ := x s v hv
     obtain ⟨q, hq, h2⟩ := y s w hw
     rw [hp] at hq; cases hq
     exact ⟨p, hp, J.lub v w p (ha.get hv).1 (hb.get hw).1 (hc.get hp).1 h1 h2⟩
  bmem := ⟨⟨rfl, rfl⟩, rfl, rfl, fun p hp => by cases hp⟩
  bot := fun a ha => rfl }
/-! Pairs with the first part first. -/
theorem jl_lex {E F : Val → Prop} {le le' : Val → Val → Bool} {jn jn' : Val → Val → Val} {b0 b1 : Val} (J : Jl E le jn b0) (J' : Jl F le' jn' b1) (tot : ∀ a b, E a → E b → le a b = true ∨ le b a = true)
  {lx : Val × Val → Val × Val → Bool} (hlx : ∀ x y, E x.1 → E y.1 → lx x y = if x.1 = y.1 then le' x.2 y.2 else le x.1 y.1) {jx : Val × Val → Val × Val → Val × Val} (hjx : ∀ x y, E x.1 → E y.1 → jx x y = if x.1 = y.1 then (x.1, jn' x.2 y.2) else if lx x y = true then y else x) :
  Jl (fun x : Val × Val => E x.1 ∧ F x.2) lx jx (b0, b1) := by
 have hmem : ∀ x y : Val × Val, E x.1 ∧ F x.2 → E y.1 ∧ F y.2 → E (jx x y).1 ∧ F (jx x y).2 := fun x y hx hy => by
  rw [hjx x y hx.1 hy.1]
  split
  · exact ⟨hx.1, J'.mem _ _ hx.2 hy.2⟩
  · split
    · exact hy
    · exact hx
 have hrefl : ∀ x : Val × Val, E x.1 ∧ F x.2 → lx x x = true := fun x hx => by rw [hlx x x hx.1 hx.1, if_pos rfl]; exact J'.refl _ hx.2
 exact {
  refl := hrefl
  trans := fun x y z hx hy hz h1 h2 => by
   rw [hlx x y hx.1 hy.1] at h1
   rw [hlx y z hy.1 hz.1] at h2
   rw [hlx x z hx.1 hz.1]
   by_cases e1 : x.1 = y.1
   · rw [if_pos e1] at h1
     by_cases e2 : y.1 = z.1
     · rw [if_pos e2] at h2
       rw [if_pos (e1.trans e2)]
       exact J'.trans _ _ _ hx.2 hy.2 hz.2 h1 h2
     · rw [if_neg e2] at h2
       rw [if_neg (by rw [e1]; exact e2), e1]
       exact h2
   · rw [if_neg e1] at h1
     by_cases e2 : y.1 = z.1
     · rw [if_neg (by rw [← e2]; exact e1), ← e2]
       exact h1
     · rw [if_neg e2] at h2
       rw [if_neg (fun e => e1 (J.anti _ _ hx.1 hy.1 h1 (by rw [e]; exact h2)))]
       exact J.trans _ _ _ hx.1 hy.1 hz.1 h1 h2
  anti := fun x y hx hy h1 h2 => by
   rw [hlx x y hx.1 hy.1] at h1
   rw [hlx y x hy.1 hx.1] at h2
   by_cases e1 : x.1 = y.1
   · rw [if_pos e1] at h1
     rw [if_pos e1.symm] at h2
     exact Prod.ext e1 (J'.anti _ _ hx.2 hy.2 h1 h2)
   · rw [if_neg e1] at h1
     rw [if_neg (fun e => e1 e.symm)] at h2
     exact absurd (J.anti _ _ hx.1 hy.1 h1 h2) e1
  mem := hmem
  left := fun x y hx hy => by
   rw [hlx x _ hx.1 (hmem x y hx hy).1, hjx x y hx.1 hy.1]
   by_cases e1 : x.1 = y.1
   · rw [if_pos e1, if_pos rfl]; exact J'.left _ _ hx.2 hy.2
   · rw [if_neg e1]
     by_cases h : lx x y = true
     · rw [if_pos h, ← hlx x y hx.1 hy.1]; exact h
     · rw [if_neg h, if_pos rfl]; exact J'.refl _ hx.2
  right := fun x y hx hy => by
   rw [hlx y _ hy.1 (hmem x y hx hy).1, hjx x y hx.1 hy.1]
   by_cases e1 : x.1 = y.1
   · rw [if_pos e1, if_pos e1.symm]; exact J'.right _ _ hx.2 hy.2
   · rw [if_neg e1]
     by_cases h : lx x y = true
     · rw [if_pos h, if_pos rfl]; exact J'.refl _ hy.2
     · rw [if_neg h, if_neg (fun e => e1 e.symm)]
       rw [hlx x y hx.1 hy.1, if_neg e1] at h
       exact (tot _ _ hx.1 hy.1).resolve_left h
  lub := fun x y z hx hy hz h1 h2 => by
   rw [hjx x y hx.1 hy.1]
   by_cases e1 : x.1 = y.1
   · rw [if_pos e1]
     rw [hlx x z hx.1 hz.1] at h1
     rw [hlx y z hy.1 hz.1] at h2
     rw [hlx (x.1, jn' x.2 y.2) z hx.1 hz.1]
     by_cases e2 : x.1 = z.1
     · rw [if_pos e2] at h1 ⊢
       rw [if_pos (e1.symm.trans e2)] at h2
       exact J'.lub _ _ _ hx.2 hy.2 hz.2 h1 h2
     · rw [if_neg e2] at h1 ⊢
       exact h1
   · rw [if_neg e1]; split <;> assumption
  bmem := ⟨J.bmem, J'.bmem⟩
  bot := fun x hx => by
   rw [hlx _ x J.bmem hx.1]
   split
   · exact J'.bot _ hx.2
   · exact J.bot _ hx.1 }
end
section
def getT : List Tk → Int → Int
 | [], _ => 0
 | t :: r, p => if t.process = p then t.n else getT r p
theorem Wn (t : Tk) (r : List Tk) (p : Int) : getT (t :: r) p = if t.process = p then t.n else getT r p := rfl
def Zi7 (c : List Tk) (p : Int) : Int := if X9 c then getT c p else 0
def allT (c : List Tk) : List Int := (List.range 64).map fun p : Nat => Zi7 c p
def leqT (a b : List Tk) : Bool := (List.range 64).all fun p : Nat => decide (Zi7 a p ≤ Zi7 b p)
def Wg (a b : List Tk) : Bool := X9 a && (X9 b && (leqT a b && !leqT b a))
theorem tickB_iff {last : Int} {t : Tk} : Yb5 last t = true ↔ last < t.process ∧ t.process ≤ 63 ∧ 1 ≤ t.n ∧ t.n ≤ 1000000000000000 := by unfold Yb5; rw [decide_eq_true_eq]
theorem Xr {last : Int} {t : Tk} {r : List Tk} : X3 last (t :: r) = true ↔ (last < t.process ∧ t.process ≤ 63 ∧ 1 ≤ t.n ∧ t.n ≤ 1000000000000000) ∧ X3 t.process r = true := by
 rw [X3, Z0, tickB_iff]
theorem Zh0 : ∀ {c : List Tk} {last p : Int}, X3 last c = true → p ≤ last → getT c p = 0
 | [], _, _, _, _ => rfl
 | t :: r, last, p, h, hp => by
   rw [Xr] at h
   rw [getT, if_neg (by omega)]
   exact Zh0 h.2 (by omega)
theorem Zb6 : ∀ {c : List Tk} {last : Int} (p : Int), X3 last c = true → 0 ≤ getT c p
 | [], _, _, _ => Zn _
 | t :: r, last, p, h => by
   rw [Xr] at h
   rw [getT]
   split
   · omega
   · exact Zb6 p h.2
theorem Zf2 {p k : Int} {r : List Tk} : Vc p k r = [] ↔ k ≤ 0 ∧ r = [] := by
 unfold Vc
 by_cases h : 0 < k
 · rw [if_pos h]
   exact ⟨fun h' => absurd h' (by simp), fun h' => absurd h'.1 (by omega)⟩
 · rw [if_neg h]
   exact ⟨fun h' => ⟨by omega, h'⟩, fun h' => h'.2⟩
theorem Js {m n : Int} (hn : 0 ≤ n) : Zj6 m n ≤ 0 ↔ m ≤ n := by
 unfold Zj6
 split <;> omega
theorem walk_le (k : Nat) : ∀ (a b : List Tk) (lo : Int), a.length + b.length ≤ k → X3 lo a = true → X3 lo b = true → (Xb Zj6 a b = [] ↔ ∀ p, getT a p ≤ getT b p) := by
 induction k with
 | zero =>
   intro a b lo hk ha hb
   obtain rfl : a = [] := Z5.1 (by omega)
   obtain rfl : b = [] := Z5.1 (by omega)
   rw [Xb]
   exact ⟨fun _ _ => Zn _, fun _ => rfl⟩
 | succ k ih =>
   intro a b lo hk ha hb
   match a, b, ha, hb with
   | [], [], _, _ =>
     rw [Xb]
     exact ⟨fun _ _ => Zn _, fun _ => rfl⟩
   | x :: a, [], ha, hb =>
     rw [Xr] at ha
     rw [Xb, Zf2, Js (Zn _)]
     constructor
     · intro h; omega
     · intro h
       have := h x.process
       rw [Wn, if_pos rfl] at this
       have h0 : getT [] x.process = 0 := rfl
       omega
   | [], y :: b, ha, hb =>
     have hb' := hb
     rw [Xr] at hb
     rw [Xb, Zf2, Js (by omega)]
     constructor
     · intro _ p
       exact Zb6 p hb'
     · intro _
       refine ⟨by omega, (ih [] b y.process (by simp at hk ⊢; omega) rfl hb.2).2 fun p => Zb6 p hb.2⟩
   | x :: a, y :: b, ha, hb =>
     have ha' := ha
     have hb' := hb
     rw [Xr] at ha hb
     rw [Xb]
     by_cases h1 : x.process < y.process
     · rw [if_pos h1, Zf2, Js (Zn _)]
       constructor
       · intro h; omega
       · intro h
         have := h x.process
         have hg : getT (y :: b) x.process = 0 := Zh0 (last := x.process) (by rw [Xr]; exact ⟨⟨h1, hb.1.2⟩, hb.2⟩) (Zn _)
         rw [Wn, if_pos rfl, hg] at this
         omega
     · rw [if_neg h1]
       by_cases h2 : y.process < x.process
       · rw [if_pos h2, Zf2, Js (by omega)]
         have hx : X3 y.process (x :: a) = true := by rw [Xr]; exact ⟨⟨h2, ha.1.2⟩, ha.2⟩
         rw [ih (x :: a) b y.process (by simp at hk ⊢; omega) hx hb.2]
         constructor
         · rintro ⟨_, h⟩ p
           rw [Wn y b]
           by_cases hp : y.process = p
           · rw [if_pos hp, Zh0 hx (by omega)]; omega
           · rw [if_neg hp]; exact h p
         · intro h
           refine ⟨by omega, fun p => ?_⟩
           have := h p
           rw [Wn y b] at this
           by_cases hp : y.process = p
           · rw [Zh0 hx (by omega)]; exact Zb6 p hb.2
           · rw [if_neg hp] at this; exact this
       · rw [if_neg h2, Zf2, Js (by omega)]
         have hxy : x.process = y.process := by omega
         rw [ih a b y.process (by simp at hk ⊢; omega) (by rw [← hxy]; exact ha.2) hb.2]
         constructor
         · rintro ⟨h0, h⟩ p
           rw [Wn y b, Wn x a, hxy]
           by_cases hp : y.process = p
           · rw [if_pos hp, if_pos hp]; exact h0
           · rw [if_neg hp, if_neg hp]; exact h p
         · intro h
           have h3 := h y.process
           rw [Wn y b, Wn x a, hxy, if_pos rfl, if_pos rfl] at h3
           refine ⟨h3, fun p => ?_⟩
           by_cases hp : p ≤ y.process
           · rw [Zh0 (by rw [← hxy]; exact ha.2) hp]
             exact Zb6 p hb.2
           · have := h p
             rw [Wn y b, Wn x a, hxy, if_neg (by omega), if_neg (by omega)] at this
             exact this
theorem getT_far : ∀ {c : List Tk} {last p : Int}, X3 last c = true → 63 < p → getT c p = 0
 | [], _, _, _, _ => rfl
 | t :: r, last, p, h, hp => by
   rw [Xr] at h
   rw [getT, if_neg (by omega)]
   exact getT_far h.2 hp
theorem leq_minus {a b : List Tk} (ha : X9 a = true) (hb : X9 b = true) : leqT a b = true ↔ Jc a b = [] := by
 unfold Jc
 rw [walk_le _ a b (-1) (Zt _) ha hb]
 unfold leqT Zi7
 rw [Z3]
 constructor
 · intro h p
   by_cases h1 : p ≤ -1
   · rw [Zh0 ha h1]; exact Zb6 p hb
   · by_cases h2 : 63 < p
     · rw [getT_far ha h2]; exact Zb6 p hb
     · have := h p.toNat (by rw [Zu]; omega)
       rw [decide_eq_true_eq, if_pos ha, if_pos hb, show ((p.toNat : Nat) : Int) = p by omega] at this
       exact this
 · intro h p _
   rw [decide_eq_true_eq, if_pos ha, if_pos hb]
   exact h p
theorem Zf3 {a b : List Tk} (ha : X9 a = true) (hb : X9 b = true) : (Vn a b == 1) = Wg a b ∧ (Vn a b == 2) = Wg b a := by
 unfold Vn Wg
 rw [ha, hb, if_neg (by simp)]
 have e1 : leqT a b = decide ((Jc a b).length = 0) := by
  rw [Zs, leq_minus ha hb, decide_eq_true_eq, Z5]
 have e2 : leqT b a = decide ((Jc b a).length = 0) := by
  rw [Zs, leq_minus hb ha, decide_eq_true_eq, Z5]
 rw [e1, e2]
 by_cases h1 : (Jc a b).length = 0 <;> by_cases h2 : (Jc b a).length = 0 <;> simp [h1, h2]
def Jg (list : List En) (i : Nat) (e : En) : Bool :=
 (decide (e.clock.length ≠ 0) && (X9 e.clock && Xz e.name)) && ((match i with
  | 0 => true
  | j + 1 => match list[j]? with
    | some p => decide (entC p e < 0)
    | none => true) && list.all fun f => !Wg e.clock f.clock)
def Zm1 (list : List En) : Nat → List En → Bool
 | _, [] => true
 | i, e :: t => Jg list i e && Zm1 list (i + 1) t
def rentsB (list : List En) : Bool := Zm1 list 0 list
theorem Zp5 (list : List En) : ∀ (k : Nat) (t : List En), Zm1 list k t = true ↔ ∀ i (h : i < t.length), Jg list (k + i) t[i] = true
 | _, [] => ⟨fun _ i h => by simp at h, fun _ => rfl⟩
 | k, e :: t => by
   rw [Zm1, Z0, Zp5 list (k + 1) t]
   constructor
   · rintro ⟨h1, h2⟩ i hi
     cases i with
     | zero => exact h1
     | succ i =>
       have := h2 i (by simp at hi; omega)
       rw [show k + 1 + i = k + (i + 1) by omega] at this
       exact this
   · intro h
     refine ⟨h 0 (by simp), fun i hi => ?_⟩
     have := h (i + 1) (by simp; omega)
     rw [show k + 1 + i = k + (i + 1) by omega]
     exact this
theorem regGo_iff (list : List En) : ∀ (k : Nat) (t : List En), Zw4 list k t = true ↔ ∀ i (h : i < t.length), Zh7 list (k + i) t[i] = true
 | _, [] => ⟨fun _ i h => by simp at h, fun _ => rfl⟩
 | k, e :: t => by
   rw [Zw4, Z0, regGo_iff list (k + 1) t]
   constructor
   · rintro ⟨h1, h2⟩ i hi
     cases i with
     | zero => exact h1
     | succ i =>
       have := h2 i (by simp at hi; omega)
       rw [show k + 1 + i = k + (i + 1) by omega] at this
       exact this
   · intro h
     refine ⟨h 0 (by simp), fun i hi => ?_⟩
     have := h (i + 1) (by simp; omega)
     rw [show k + 1 + i = k + (i + 1) by omega]
     exact this
theorem belowT_self (a : List Tk) : Wg a a = false := by
 unfold Wg
 cases leqT a a <;> cases X9 a <;> rfl
theorem rents_reg (list : List En) : rentsB list = regB list := by
 rw [Zs]
 unfold rentsB regB
 rw [Zp5, regGo_iff]
 simp only [Nat.zero_add]
 constructor
 · intro h i hi
   have hc : ∀ k (hk : k < list.length), X9 list[k].clock = true := fun k hk => by
     have := h k hk
     unfold Jg at this
     simp only [Z0] at this
     exact this.1.2.1
   have h1 := h i hi
   unfold Jg at h1
   unfold Zh7
   simp only [Z0] at h1 ⊢
   obtain ⟨⟨a, b, c⟩, d, e⟩ := h1
   refine ⟨⟨⟨⟨a, b⟩, c⟩, ?_⟩, ?_⟩
   · cases i with
     | zero =>
       cases list[0 - 1]? <;> simp
     | succ j =>
       rw [show j + 1 - 1 = j by omega]
       simp only at d
       revert d
       cases hq : list[j]? <;> simp [hq]
   · rw [Z3] at e ⊢
     intro f hf
     obtain ⟨k, hk, rfl⟩ := Zf hf
     rw [Zp] at hk
     rw [List.getElem_take]
     obtain ⟨q1, q2⟩ := Zf3 (hc i hi) (hc k (by omega))
     have w1 := e _ (Ze (show k < list.length by omega))
     have h2 := h k (by omega)
     unfold Jg at h2
     simp only [Z0] at h2
     have w2 := Z3.1 h2.2.2 _ (Ze hi)
     rw [q1, q2]
     revert w1 w2
     cases Wg list[i].clock list[k].clock <;> cases Wg list[k].clock list[i].clock <;> simp
 · intro h i hi
   have hc : ∀ k (hk : k < list.length), X9 list[k].clock = true := fun k hk => by
     have := h k hk
     unfold Zh7 at this
     simp only [Z0] at this
     exact this.1.1.1.2
   have h1 := h i hi
   unfold Zh7 at h1
   unfold Jg
   simp only [Z0] at h1 ⊢
   obtain ⟨⟨⟨⟨a, b⟩, c⟩, d⟩, e⟩ := h1
   refine ⟨⟨a, b, c⟩, ?_, ?_⟩
   · cases i with
     | zero => rfl
     | succ j =>
       rw [show j + 1 - 1 = j by omega] at d
       revert d
       cases hq : list[j]? <;> simp [hq]
   · rw [Z3]
     intro f hf
     obtain ⟨k, hk, rfl⟩ := Zf hf
     have key : ∀ i k (hi : i < list.length) (hk : k < list.length), k < i → (Vn list[i].clock list[k].clock == 1) = false ∧ (Vn list[i].clock list[k].clock == 2) = false := fun i k hi hk hlt => by
       have h2 := h i hi
       unfold Zh7 at h2
       simp only [Z0] at h2
       have := Z3.1 h2.2 list[k] (by
        rw [Zm]
        exact ⟨k, by rw [Zp]; omega, by rw [List.getElem_take]⟩)
       revert this
       cases (Vn list[i].clock list[k].clock == 1) <;> cases (Vn list[i].clock list[k].clock == 2) <;> simp
     rcases Nat.lt_trichotomy k i with hlt | rfl | hlt
     · rw [← (Zf3 (hc i hi) (hc k hk)).1, (key i k hi hk hlt).1]; rfl
     · rw [belowT_self]; rfl
     · rw [← (Zf3 (hc k hk) (hc i hi)).2, (key k i hk hi hlt).2]; rfl
end
section
theorem leqT_iff {a b : List Tk} : leqT a b = true ↔ ∀ p : Nat, p < 64 → Zi7 a p ≤ Zi7 b p := by
 unfold leqT
 rw [Z3]
 exact ⟨fun h p hp => of_decide_eq_true (h p (Zu.2 hp)), fun h p hp => decide_eq_true (h p (Zu.1 hp))⟩
theorem Ye6 {a b c : List Tk} (h : leqT a b = true) (k : leqT b c = true) : leqT a c = true := by
 rw [leqT_iff] at *
 exact fun p hp => Int.le_trans (h p hp) (k p hp)
theorem below_iff {a b : List Tk} : Wg a b = true ↔ X9 a = true ∧ X9 b = true ∧ leqT a b = true ∧ leqT b a = false := by
 unfold Wg
 simp only [Z0, Z4]
theorem Zk4 {a b c : List Tk} (h : Wg a b = true) (k : Wg b c = true) : Wg a c = true := by
 rw [below_iff] at *
 refine ⟨h.1, k.2.1, Ye6 h.2.2.1 k.2.2.1, ?_⟩
 cases hca : leqT c a
 · rfl
 · have := Ye6 hca h.2.2.1
   rw [k.2.2.2] at this; cases this
def belE (p q : En) : Bool := Wg p.clock q.clock
def undE (p q : En) : Bool := decide (entC p q = 0) || belE p q
theorem Za4 {p q : En} : undE p q = true ↔ p = q ∨ belE p q = true := by unfold undE; rw [Zr, decide_eq_true_eq, Jy]
theorem Yc3 {p q r : En} (h : undE p q = true) (k : undE q r = true) : undE p r = true := by
 rw [Za4] at *
 rcases h with rfl | h
 · exact k
 · rcases k with rfl | k
   · exact .inr h
   · exact .inr (Zk4 h k)
def leqE (a b : List En) : Bool := a.all fun p => b.any fun q => undE p q
theorem Xw {a b : List En} : leqE a b = true ↔ ∀ p ∈ a, ∃ q ∈ b, undE p q = true := by
 unfold leqE
 rw [Z3]
 exact forall_congr' fun p => forall_congr' fun _ => List.any_eq_true
/-! Sorted lists of entries. -/
def ltE (x y : En) : Prop := entC x y < 0
instance : DecidableRel ltE := fun x y => inferInstanceAs (Decidable (entC x y < 0))
theorem Zx4 {x y z : En} (h : ltE x y) (k : ltE y z) : ltE x z := by
 have := entC_tri x y z
 unfold Tri at this
 unfold ltE at *
 omega
theorem Zq2 (x : En) : ¬ ltE x x := by unfold ltE; rw [(Jy x x).2 rfl]; omega
theorem ltE_tri (x y : En) : ltE x y ∨ x = y ∨ ltE y x := by
 unfold ltE
 rw [entC_anti x y, ← Jy x y]
 omega
def insE (c : En) : List En → List En
 | [] => [c]
 | y :: t => if entC c y < 0 then c :: y :: t else if entC c y = 0 then y :: t else y :: insE c t
def ofE (l : List En) : List En := l.foldr insE []
theorem Yj3 : ∀ {c : En} {l : List En} {d : En}, d ∈ insE c l ↔ d = c ∨ d ∈ l
 | c, [], d => by simp [insE]
 | c, y :: t, d => by
  rw [insE]
  split
  · simp
  split
  · rename_i h; rw [Jy] at h; subst h; simp
  · rw [Z2, Yj3, Z2]
    constructor
    · rintro (h | h | h) <;> simp [h]
    · rintro (h | h | h) <;> simp [h]
theorem Zy4 : ∀ (c : En) (l : List En), l.Pairwise ltE → (insE c l).Pairwise ltE
 | c, [], _ => by simp [insE]
 | c, y :: t, h => by
  obtain ⟨h1, h2⟩ := Z1.1 h
  rw [insE]
  split
  · rename_i hlt
    refine Z1.2 ⟨fun d hd => ?_, h⟩
    rcases Z2.1 hd with rfl | hd
    · exact hlt
    · exact Zx4 hlt (h1 d hd)
  split
  · exact h
  · rename_i hlt hz
    have hy : ltE y c := (ltE_tri c y).elim (fun a => absurd a hlt) (fun a => a.elim (fun a => absurd ((Jy c y).2 a) hz) id)
    refine Z1.2 ⟨fun d hd => ?_, Zy4 c t h2⟩
    rcases Yj3.1 hd with rfl | hd
    · exact hy
    · exact h1 d hd
theorem Yd9 : ∀ l : List En, (ofE l).Pairwise ltE
 | [] => .nil
 | c :: t => Zy4 c _ (Yd9 t)
theorem mem_ofE : ∀ {l : List En} {c : En}, c ∈ ofE l ↔ c ∈ l
 | [], _ => Iff.rfl
 | x :: t, c => by
  show c ∈ insE x (ofE t) ↔ _
  rw [Yj3, mem_ofE, Z2]
theorem Zv5 : ∀ {a b : List En}, a.Pairwise ltE → b.Pairwise ltE → (∀ c, c ∈ a ↔ c ∈ b) → a = b
 | [], [], _, _, _ => rfl
 | [], y :: t, _, _, h => by simpa using (h y).2 (by simp)
 | x :: s, [], _, _, h => by simpa using (h x).1 (by simp)
 | x :: s, y :: t, ha, hb, h => by
  obtain ⟨a1, a2⟩ := Z1.1 ha
  obtain ⟨b1, b2⟩ := Z1.1 hb
  have hxy : x = y := by
   rcases Z2.1 ((h x).1 (by simp)) with e | hx
   · exact e
   rcases Z2.1 ((h y).2 (by simp)) with e | hy
   · exact e.symm
   exact absurd (Zx4 (a1 y hy) (b1 x hx)) (Zq2 x)
  subst hxy
  rw [Zv5 a2 b2 fun c => ⟨fun hc => ?_, fun hc => ?_⟩]
  · rcases Z2.1 ((h c).1 (by simp [hc])) with rfl | q
    · exact absurd (a1 c hc) (Zq2 c)
    · exact q
  · rcases Z2.1 ((h c).2 (by simp [hc])) with rfl | q
    · exact absurd (b1 c hc) (Zq2 c)
    · exact q
def okE (e : En) : Prop := e.clock.length ≠ 0 ∧ X9 e.clock = true ∧ Xz e.name = true
theorem Zj4 : ∀ {l : List En}, l.Pairwise ltE ↔ ∀ i (h : i + 1 < l.length), ltE (l[i]'(by omega)) l[i + 1]
 | [] => by simp
 | [x] => by simp
 | x :: y :: t => by
  rw [Z1, Zj4 (l := y :: t)]
  constructor
  · rintro ⟨h1, h2⟩ i hi
    cases i with
    | zero => exact h1 y (by simp)
    | succ i => exact h2 i (by simpa using hi)
  · intro h
    have h2 : ∀ i (h : i + 1 < (y :: t).length), ltE ((y :: t)[i]'(by omega)) (y :: t)[i + 1] := fun i hi => h (i + 1) (by simpa using hi)
    refine ⟨fun z hz => ?_, h2⟩
    have h3 := (Zj4 (l := y :: t)).2 h2
    have h0 : ltE x y := h 0 (by simp)
    rcases Z2.1 hz with rfl | hz
    · exact h0
    · exact Zx4 h0 ((Z1.1 h3).1 z hz)
theorem Uf {l : List En} : regB l = true ↔ (∀ e ∈ l, okE e) ∧ l.Pairwise ltE ∧ ∀ e ∈ l, ∀ f ∈ l, belE e f = false := by
 rw [← rents_reg]
 unfold rentsB
 rw [Zp5, Zj4]
 simp only [Nat.zero_add]
 have key : ∀ i (h : i < l.length), Jg l i l[i] = true ↔ okE l[i] ∧ (∀ j (hj : i = j + 1), ltE (l[j]'(by omega)) l[i]) ∧ ∀ f ∈ l, belE l[i] f = false := fun i hi => by
  unfold Jg okE
  rw [Z0, Z0, Z0, Z0, decide_eq_true_eq, Z3]
  have e1 : (∀ f ∈ l, (!Wg l[i].clock f.clock) = true) ↔ ∀ f ∈ l, belE l[i] f = false := forall_congr' fun f => forall_congr' fun _ => by rw [Z4]; rfl
  rw [e1]
  cases i with
  | zero => simp
  | succ j =>
   simp only [Zo (show j < l.length by omega)]
   constructor
   · rintro ⟨a, b, c⟩
     exact ⟨a, fun k hk => by cases hk; exact of_decide_eq_true b, c⟩
   · rintro ⟨a, b, c⟩
     exact ⟨a, decide_eq_true (b j rfl), c⟩
 constructor
 · intro h
   refine ⟨fun e he => ?_, fun i hi => ((key (i + 1) hi).1 (h (i + 1) hi)).2.1 i rfl, fun e he => ?_⟩
   · obtain ⟨i, hi, rfl⟩ := Zf he
     exact ((key i hi).1 (h i hi)).1
   · obtain ⟨i, hi, rfl⟩ := Zf he
     exact ((key i hi).1 (h i hi)).2.2
 · rintro ⟨h1, h2, h3⟩ i hi
   exact (key i hi).2 ⟨h1 _ (Ze hi), fun j hj => by subst hj; exact h2 j hi, h3 _ (Ze hi)⟩
def Ye4 (a b : List En) : List En := ofE ((a ++ b).filter fun p => !(a ++ b).any fun q => belE p q)
theorem Uq {a b : List En} {e : En} : e ∈ Ye4 a b ↔ (e ∈ a ∨ e ∈ b) ∧ ∀ f, f ∈ a ∨ f ∈ b → belE e f = false := by
 unfold Ye4
 rw [mem_ofE, Zd, Za, Z4, List.any_eq_false]
 refine and_congr Iff.rfl (forall_congr' fun f => ?_)
 rw [Za, Z9]
theorem Zt6 {a b : List En} (ha : regB a = true) (hb : regB b = true) {p : En} (hp : p ∈ a ∨ p ∈ b) : ∃ q ∈ Ye4 a b, undE p q = true := by
 have a3 := (Uf.1 ha).2.2
 have b3 := (Uf.1 hb).2.2
 by_cases h : ∀ f, f ∈ a ∨ f ∈ b → belE p f = false
 · exact ⟨p, Uq.2 ⟨hp, h⟩, Za4.2 (.inl rfl)⟩
 · simp only [Classical.not_forall, Bool.not_eq_false] at h
   obtain ⟨f, hf, hpf⟩ := h
   refine ⟨f, Uq.2 ⟨hf, fun g hg => ?_⟩, Za4.2 (.inr hpf)⟩
   cases hfg : belE f g
   · rfl
   · exfalso
     have hpg : belE p g = true := Zk4 hpf hfg
     rcases hp with hp | hp
     · rcases hf with hf | hf
       · rw [a3 p hp f hf] at hpf; cases hpf
       · rcases hg with hg | hg
         · rw [a3 p hp g hg] at hpg; cases hpg
         · rw [b3 f hf g hg] at hfg; cases hfg
     · rcases hf with hf | hf
       · rcases hg with hg | hg
         · rw [a3 f hf g hg] at hfg; cases hfg
         · rw [b3 p hp g hg] at hpg; cases hpg
       · rw [b3 p hp f hf] at hpf; cases hpf
theorem jl_reg : Jl (fun l => regB l = true) leqE Ye4 [] where
 refl a _ := Xw.2 fun p hp => ⟨p, hp, Za4.2 (.inl rfl)⟩
 trans a b c _ _ _ x y := Xw.2 fun p hp => by
  obtain ⟨q, hq, h1⟩ := Xw.1 x p hp
  obtain ⟨r, hr, h2⟩ := Xw.1 y q hq
  exact ⟨r, hr, Yc3 h1 h2⟩
 anti a b ha hb x y := by
  have key : ∀ a b : List En, regB a = true → leqE a b = true → leqE b a = true → ∀ p ∈ a, p ∈ b := fun a b ha x y p hp => by
   obtain ⟨q, hq, h1⟩ := Xw.1 x p hp
   rcases Za4.1 h1 with rfl | h1
   · exact hq
   · obtain ⟨r, hr, h2⟩ := Xw.1 y q hq
     have h3 : belE p r = true := by
      rcases Za4.1 h2 with rfl | h2
      · exact h1
      · exact Zk4 h1 h2
     rw [(Uf.1 ha).2.2 p hp r hr] at h3; cases h3
  exact Zv5 (Uf.1 ha).2.1 (Uf.1 hb).2.1 fun c => ⟨key a b ha x y c, key b a hb y x c⟩
 mem a b ha hb := Uf.2 ⟨fun e he => (Uq.1 he).1.elim ((Uf.1 ha).1 e) ((Uf.1 hb).1 e), Yd9 _, fun e he f hf => (Uq.1 he).2 f (Uq.1 hf).1⟩
 left a b ha hb := Xw.2 fun p hp => Zt6 ha hb (.inl hp)
 right a b ha hb := Xw.2 fun p hp => Zt6 ha hb (.inr hp)
 lub a b c _ _ _ x y := Xw.2 fun p hp => (Uq.1 hp).1.elim (Xw.1 x p) (Xw.1 y p)
 bmem := rfl
 bot a _ := rfl
end
end Go.Proofs.YtbhkcbidcfofiaaGreat
