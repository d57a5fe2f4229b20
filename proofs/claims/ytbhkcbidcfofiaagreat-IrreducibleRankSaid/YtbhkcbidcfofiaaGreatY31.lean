/-
  What the statements of the chapter share, part 31: QA10.
-/
import Derived.Test.YtbhkcbidcfofiaaGreatY15
import Derived.Test.YtbhkcbidcfofiaaGreatY21
import Derived.Test.YtbhkcbidcfofiaaGreatY22
import Derived.Test.YtbhkcbidcfofiaaGreatY29
import Derived.Test.YtbhkcbidcfofiaaGreatY30
set_option linter.unusedVariables false
set_option linter.unusedSimpArgs false
set_option maxRecDepth 100000
set_option maxHeartbeats 8000000
namespace Go.Proofs.YtbhkcbidcfofiaaGreat
open _root_.List renaming replicate → Z2, getElem?_eq_getElem → Z4, length_map → Z5, map_append → Z6, cons_append → Z7, length_cons → Z8, length_nil → Z9, nil_append → Za
open _root_.Nat renaming reduceEqDiff → Z0, reduceLeDiff → Z1, reduceAdd → Z3, le_refl → Zb
open Go.RowKit
section
attribute [local irreducible] on aOp
attribute [local go_sem] decide_true decide_false Bool.not_true Bool.not_false
attribute [local simp] byD_len
section
variable {P : Program} {G : Nat → D} {n : Nat} {e : Nat → D} {h : List Ob}
theorem Sit_giveIn {B : Base} {a : Act} {w : World} {i j : Nat} {ds : List D} (hij : i ≠ j) (hi : h[i]? = some (.cells ds)) (r : Sit G B ⟨n, e, h⟩ a w) : Sit G B ⟨n, e, (h.set j .dead).set i (.cells (ds.map (cvD (fun x => x == j) h)))⟩ a w := by
 obtain ⟨hd', p', r⟩ := r
 have ok := r.ok
 obtain ⟨p2, o2, ev2, cv⟩ := ok.give (fun x => x == j)
 rw [Zx7] at o2 ev2 cv
 have hil := (List.getElem?_eq_some_iff.1 hi).1
 have hil' : i < hd'.length := by rw [ok.len]; exact hil
 have hu : hd'[i]? = some hd'[i] := Z4 hil'
 have hi2 : (h.set j .dead)[i]? = some (.cells ds) := by rw [List.getElem?_set_ne (Ne.symm hij)]; exact hi
 obtain ⟨B, cs, t, e1, e2, e3, e4⟩ := ok.ob i _ _ hi hu
 have e5 := o2.ob i _ _ hi2 hu
 obtain ⟨B', cs', t', e1', e2', e3', e4'⟩ := e5
 have hBB : B' = B := by rw [e1] at e1'; cases e1'; rfl
 subst hBB
 have e6 := cvL cv e3
 have res := o2.repl (w' := w) (ob' := .cells (ds.map (cvD (fun x => x == j) h))) (u' := hd'[i]) hi2 hu rfl rfl rfl rfl (Zb _) (fun _ _ _ => rfl) (fun b hb => .inl hb) (fun _ _ => rfl) (fun _ _ _ e => by cases e) fun c sb => ⟨B', cs, t, e1, e2, Xt c sb _ _ e6, by simp [e4']⟩
 have ev3 := ev2.trans res.2
 exact ⟨_, _, res.1, r.evo.trans ev3, fun t => ev3.rd r.ok (r.tmp t), r.size, r.defers⟩
theorem Ya8 {c : Code} {Q : Exit → S → Prop} {i j : Nat} {ds ds' : List D} {h2 : List Ob} (hij : i ≠ j) (hi : h[i]? = some (.cells ds)) (hc : ds.map (cvD (fun x => x == j) h) = ds') (hh : (h.set j .dead).set i (.cells ds') = h2) (k : aw P G c Q ⟨n, e, h2⟩) : aw P G c Q ⟨n, e, h⟩ := fun B a w r => k B a w (by have := Sit_giveIn hij hi r; rw [hc, hh] at this; exact this)
end
def sM6 (A Z V P B C : Ob) (T : List Ob) : List Ob := A :: Z :: V :: P :: B :: C :: T
section
variable {A Z V P B C y y' : Ob} {T l : List Ob}
theorem sM6_0 : (sM6 A Z V P B C T)[0]? = some A := rfl
theorem sM6_1 : (sM6 A Z V P B C T)[1]? = some Z := rfl
theorem sM6_2 : (sM6 A Z V P B C T)[2]? = some V := rfl
theorem sM6_3 : (sM6 A Z V P B C T)[3]? = some P := rfl
theorem sM6_4 : (sM6 A Z V P B C T)[4]? = some B := rfl
theorem sM6_5 : (sM6 A Z V P B C T)[5]? = some C := rfl
theorem sM6_s1 : (sM6 A Z V P B C T).set 1 y = sM6 A y V P B C T := rfl
theorem sM6_s2 : (sM6 A Z V P B C T).set 2 y = sM6 A Z y P B C T := rfl
theorem sM6_s4 : (sM6 A Z V P B C T).set 4 y = sM6 A Z V P y C T := rfl
theorem sM6_s5 : (sM6 A Z V P B C T).set 5 y = sM6 A Z V P B y T := rfl
theorem sM6_len : (sM6 A Z V P B C T).length = T.length + 6 := rfl
theorem sM6_app : sM6 A Z V P B C T ++ l = sM6 A Z V P B C (T ++ l) := rfl
theorem sM6_l2 {z : Ob} : (sM6 A Z V P B C (T ++ [y, z]))[T.length + 6]? = some y := by simp [sM6]
theorem sM6_l3 {z : Ob} : (sM6 A Z V P B C (T ++ [y, z]))[T.length + 1 + 6]? = some z := by simp [sM6]
theorem sM6_h1 {z w : Ob} : (sM6 A Z V P B C (T ++ [y, z])).set (T.length + 6) w = sM6 A Z V P B C (T ++ [w, z]) := by simp [sM6]
theorem sM6_h2 {z w : Ob} : (sM6 A Z V P B C (T ++ [y, z])).set (T.length + 1 + 6) w = sM6 A Z V P B C (T ++ [y, w]) := by simp [sM6]
theorem holes_2 : holes 2 = [.hole, .hole] := rfl
end
variable (G : Nat → D) (hG : ∀ g, low 0 (G g))
include hG
attribute [local go_sem] Bool.false_eq_true Int.reduceEq Int.reduceLE Int.reduceLT Int.toNat_natCast List.append_assoc Z7 List.length_append Z8 Z5 Z9 Za Z3 Nat.reduceBEq Z0 Z1 Nat.reduceMul holes_2 kM_0 kM_1 kM_2 kM_3 Ye8 kM_l kM_l2 kM_l3 kM_l3b kM_l4 Zr9 kM_s1 kM_s2 kM_s3 kM_sl kM_sl3 sM6_0 sM6_1 sM6_2 sM6_3 sM6_4 sM6_5 sM6_app sM6_h1 sM6_h2 sM6_l2 sM6_l3 sM6_len sM6_s1 sM6_s2 sM6_s4 sM6_s5 U9 Wa J2
attribute [local go_sem ↓] reduceIte
theorem greatest_d (f : Nat) : ∀ l : Lat, SizeOf.sizeOf l ≤ f → WfL l → rkdR l = true → finB l = true → ∀ h : List Ob, Does Tryz.prog G 114 h [.agg (latX l)] (fun h' r => h' = h ∧ r = .tup [.agg (vaX (topV l).1), .v (.bool true)]) := by
 induction f with
 | zero => intro l hn; cases l; simp at hn
 | succ f ih =>
 intro l hn hwf hr hf h
 refine Ya G hG (by rw [lowL, lowL, low]; exact ⟨Yy _ l, trivial⟩) (by simp only [low, lowL]; exact ⟨Ys _ _, trivial, trivial⟩) ?_ h
 clear h
 obtain ⟨hk0, hk5, hk7, hk6, _, _, _, hnl, _⟩ := hwf.kinds
 have hkk := Zt2 hr
 have hpl : l.parts.length ≤ 1000000 := Vi hwf
 have hpp : ∀ p ∈ l.parts, ∀ h, Does Tryz.prog G 114 h [.agg (latX p)] (fun h' r => h' = h ∧ r = .tup [.agg (vaX (topV p).1), .v (.bool true)]) := fun p hp => ih p (by have := Yb hp; omega) (hwf.part hp) (X0 hr p hp) (U2 hf p hp)
 have hto : ∀ p ∈ l.parts, (topV p).2 = true := fun p hp => Vu _ p (Zb _) (hwf.part hp) (X0 hr p hp) (U2 hf p hp)
 apply Does.weak
 refine Y5 Tryz.func114 rfl (Nat.le_of_ble_eq_true rfl) hG fun hl0 _ => ?_
 simp only [Tryz.ntmps114]
 by_cases h123 : l.kind = 1 ∨ l.kind = 2 ∨ l.kind = 3
 · rw [Yg5 h123, Yb3]
   rcases h123 with e | e | e
   all_goals
    simp only [e, if_true, if_false, Int.reduceEq, reduceIte]
    have F : _ ∧ _ := ⟨Y4 l, e⟩
    repeat' first
     | (with_reducible refine Yf ?_; first | refine Vp ?_ | refine Xs ?_ | refine V9 ?_ | refine Zd1 rfl ?_ | refine Za1 rfl ?_ | refine Zh8 ?_)
     | (with_reducible refine Yb9 ?_; refine Jf ?_)
     | (with_reducible refine gd_iB ?_; refine inB_n ?_)
     | refine g0 ?_
     | fail
    all_goals first | (exfalso; omega) | skip
   · exact ⟨.inr rfl, endD (ds := [.agg [.v (.int .i64 1), .v (.slice none 0 0), .v (.slice none 0 0), .v (.slice none 0 0)], .v (.bool true)]) (r := .tup [.agg [.v (.int .i64 1), .v (.slice none 0 0), .v (.slice none 0 0), .v (.slice none 0 0)], .v (.bool true)]) hl0 (by simp only [resD, Tryz.results114, go_sem, ↓reduceIte, Z0, Z3, Z1]; try rfl) (by simp) (by simp) (by simp [outD, cvD, cv1]) (by simp [low, lowL]) ⟨_, ⟨rfl, rfl⟩, J1 (Yi (Vr _ _ _ Wu) (Yi (Xa _) Wy))⟩⟩
   · exact ⟨.inr rfl, endD (ds := [.agg [.v (.int .i64 l.hi), .v (.slice none 0 0), .v (.slice none 0 0), .v (.slice none 0 0)], .v (.bool true)]) (r := .tup [.agg [.v (.int .i64 l.hi), .v (.slice none 0 0), .v (.slice none 0 0), .v (.slice none 0 0)], .v (.bool true)]) hl0 (by simp only [resD, Tryz.results114, go_sem, ↓reduceIte, Z0, Z3, Z1]; try rfl) (by simp) (by simp) (by simp [outD, cvD, cv1]) (by simp [low, lowL]) ⟨_, ⟨rfl, rfl⟩, J1 (Yi (Vr _ _ _ Wu) (Yi (Xa _) Wy))⟩⟩
   · exact ⟨.inr rfl, endD (ds := [.agg [.v (.int .i64 l.lo), .v (.slice none 0 0), .v (.slice none 0 0), .v (.slice none 0 0)], .v (.bool true)]) (r := .tup [.agg [.v (.int .i64 l.lo), .v (.slice none 0 0), .v (.slice none 0 0), .v (.slice none 0 0)], .v (.bool true)]) hl0 (by simp only [resD, Tryz.results114, go_sem, ↓reduceIte, Z0, Z3, Z1]; try rfl) (by simp) (by simp) (by simp [outD, cvD, cv1]) (by simp [low, lowL]) ⟨_, ⟨rfl, rfl⟩, J1 (Yi (Vr _ _ _ Wu) (Yi (Xa _) Wy))⟩⟩
 by_cases h4 : l.kind = 4
 · have hne := Zo2 hf (.inl h4)
   have hlp : 0 < l.names.length := List.length_pos_iff.2 hne
   rw [topV_4 h4, show vaX (Val.mk 0 l.names [] [], decide (0 < l.names.length)).1 = [.v (.int .i64 0), .sl 1 (l.names.map strX), .sl 4 [], .sl 2 []] by rw [Y6]; rfl]
   have gp : decide ((0 : Int) < (l.names.length : Int)) = true := decide_eq_true (by omega)
   have hro := Zi6 l.names
   have F : _ ∧ _ ∧ _ := ⟨Y4 l, h4, gp⟩
   repeat' first
    | (with_reducible refine Yf ?_; first | (refine Ya8 (i := 2) (j := 3) (ds := [.v (.int .i64 0), .buf 3 l.names.length, .v (.slice none 0 0), .v (.slice none 0 0)]) (ds' := [.v (.int .i64 0), .sl 1 (l.names.map strX), .v (.slice none 0 0), .v (.slice none 0 0)]) (by decide) (by with_unfolding_all rfl) (by simp [cvD, cv1]) (by with_unfolding_all rfl) ?_) | refine Vp ?_ | refine Xs ?_ | refine V9 ?_ | refine Zd1 rfl ?_ | refine Za1 rfl ?_ | refine Ux ?_ | refine Zh8 ?_ | refine Xu mixd (by kernel_rfl) ?_)
    | (with_reducible refine Y7 ?_; (refine Ym5 rfl rfl rfl (by simp only [go_sem]; rfl) rfl hro (by first | omega | (simp; omega)) ?_))
    | ((with_reducible refine Ze7 ?_); first | (refine Xl rfl rfl rfl (by (simp only [go_sem, F]; rfl)) (by rw [getD_agg' aggT_30, szT_30]; rfl) ?_) | (refine aS1 rfl rfl fun K HK => ?_; simp only [go_sem, F] <;> (refine HK _ _ rfl ?_; clear HK K)) | refine Xl rfl rfl rfl (by (simp only [go_sem, F]; rfl)) (by rw [getD_one (by simp only [go_sem, F])]; rfl) ?_ | refine Zu4 rfl rfl (by (simp only [go_sem, F]; rfl)) rfl (by simp only [go_sem, F]) (by simp) ?_ | refine U7 (by simp only [List.reverse_cons, List.reverse_nil, Za, Z7, Ww, chk1]; repeat' (first | exact trivial | refine And.intro ?_ ?_ | exact .inr X7 | exact .inr Xe | exact .inr Xd | exact .inr (W6 (by omega)))) ?_)
    | (with_reducible refine Yb9 ?_; first | refine Jf ?_ | refine thenS_r ?_)
    | (with_reducible refine gd_iB ?_; refine inB_r ?_)
    | refine g0 ?_
    | fail
   all_goals first | (exfalso; omega) | exact ⟨.inr rfl, endD (ds := [.agg [.v (.int .i64 0), .sl 1 (l.names.map strX), .v (.slice none 0 0), .v (.slice none 0 0)], .v (.bool true)]) (r := .tup [.agg [.v (.int .i64 0), .sl 1 (l.names.map strX), .v (.slice none 0 0), .v (.slice none 0 0)], .v (.bool true)]) hl0 (by simp only [resD, Tryz.results114, go_sem, ↓reduceIte, Z0, Z3, Z1]; try rfl) (by simp) (by simp) (by simp [outD, cvD, cv1]) (by simp only [low, lowL]; exact ⟨⟨trivial, Us _, trivial, trivial, trivial⟩, trivial, trivial⟩) ⟨_, ⟨rfl, rfl⟩, J1 (Yi (wk_va (Xa _) Wu Wu) (Yi (Xa _) Wy))⟩⟩
 by_cases h5 : l.kind = 5
 · obtain ⟨p, hp⟩ := List.length_eq_one_iff.1 (hk5 h5)
   have hpm : p ∈ l.parts := by rw [hp]; simp
   have hx0 : l.parts[0]? = some p := by rw [hp]; rfl
   have hl1 : l.parts.length = 1 := by rw [hp]; rfl
   have hne := Zo2 hf (.inr h5)
   have htr := rtriv_d G hG _ p (Zb _) (hwf.part hpm)
   have htp := hpp p hpm
   rw [topV_5 h5 hp (hto p hpm) hne]
   have hlp : 0 < l.names.length := List.length_pos_iff.2 hne
   clear hp hpm
   simp only [Y4 p] at htr htp
   generalize (topV p).1 = tv at *
   simp only [Y6 tv] at htp
   cases hb : V4 p
   rotate_left
   · rw [hb] at htr
     rw [if_pos rfl, show vaX (Wx, true).1 = [.v (.int .i64 0), .sl 1 [], .sl 4 [], .sl 2 []] from Yb3 0 []]
     have F : _ ∧ _ ∧ _ ∧ _ := ⟨Y4 l, Y4 p, h5, hl1⟩
     repeat' first
      | (with_reducible refine Yf ?_; first | refine Vp ?_ | refine Xs ?_ | refine V9 ?_ | refine Zd1 rfl ?_ | refine Za1 rfl ?_ | refine Zh8 ?_)
      | (with_reducible refine Yb9 ?_; first | refine Jf ?_ | refine thenS_r ?_)
      | (with_reducible refine gd_iB ?_; refine inB_r ?_)
      | ((with_reducible refine Y7 ?_); first | (refine ao1 rfl rfl fun K HK => ?_; simp only [go_sem, F]; (first | (refine ⟨by omega, ?_⟩; refine Yn (by assumption) ?_) | skip) <;> (refine HK _ _ ?_; clear HK K)))
      | refine g0 ?_
      | (with_reducible refine Y7 ?_; refine gc rfl rfl rfl Yl3 (htr _) ?_)
     all_goals first | (exfalso; omega) | exact ⟨.inr rfl, endD (ds := [.agg nilV, .v (.bool true)]) (r := .tup [.agg nilV, .v (.bool true)]) hl0 (by simp only [resD, Tryz.results114, go_sem, ↓reduceIte, Z0, Z3, Z1]; try rfl) (by simp) (by simp) (by simp [outD, cvD, cv1, nilV]) (by simp [low, lowL, nilV]) ⟨_, ⟨rfl, rfl⟩, J1 (Yi (Vr _ _ _ Wu) (Yi (Xa _) Wy))⟩⟩
   rw [hb] at htr
   rw [if_neg (by decide), show vaX (Val.mk 0 l.names (Z2 l.names.length tv) [], true).1 = [.v (.int .i64 0), .sl 1 (l.names.map strX), .sl 4 ((Z2 l.names.length tv).map vaX), .sl 2 []] by rw [Y6]; rfl]
   have gz : ¬ l.names.length = 0 := by omega
   have F : _ ∧ _ ∧ _ ∧ _ ∧ _ := ⟨Y4 l, Y4 p, h5, hl1, gz⟩
   repeat' first
    | (with_reducible refine Yf ?_; first | refine Vp ?_ | refine Xs ?_ | refine V9 ?_ | refine Zd1 rfl ?_ | refine Za1 rfl ?_ | refine Ux ?_ | refine Zh8 ?_)
    | (with_reducible refine Yb9 ?_; first | refine Jf ?_ | refine thenS_r ?_)
    | (with_reducible refine gd_iB ?_; refine inB_r ?_)
    | ((with_reducible refine Y7 ?_); first | (refine ao1 rfl rfl fun K HK => ?_; (first | refine Yo rfl ?_ | skip); simp only [go_sem, F]; (first | refine X1 (fun hq => ?_) (fun hq => ?_) | (refine ⟨by omega, ?_⟩; refine Yn (by assumption) ?_) | skip) <;> (refine HK _ _ ?_; clear HK K)))
    | refine gg ?_
    | refine Two.mk (fun hq => ?_) fun hq => ?_
    | (with_reducible refine Y7 ?_; first | refine gc rfl rfl rfl Yl3 (htr _) ?_ | refine gc rfl rfl rfl ent_114 (htp _) ?_)
    | (exfalso; omega)
   all_goals first | (exfalso; omega) | skip
   refine Vv 9 1 2 [.v (.int .i64 0)] [.v (.slice none 0 0), .v (.slice none 0 0)] rfl ?_
   refine Vv 30 4 2 [.v (.int .i64 0), .buf 4 0] [.v (.slice none 0 0)] rfl ?_
   have hro : Yr 4 [vaX tv] := fun row hr => by simp only [List.mem_singleton] at hr; subst hr; exact ⟨Wa tv, List.all_eq_true.1 (Zf9 tv)⟩
   simp only [Y6 tv] at hro
   refine Yh (fun m e h' => ∃ (k : Nat) (T : List Ob), k ≤ l.names.length ∧ m = l.names.length - k ∧ h' = sM6 (.cells (latX l)) (.cells nilV) (.cells [.v (.int .i64 0), .buf 4 k, .buf 5 k, .v (.slice none 0 0)]) (.cells (vaX tv)) (.buf 9 1 ((l.names.take k).map strX)) (.buf 30 4 ((Z2 k tv).map vaX)) T ∧ e 1 = .ptr 0 0 ∧ e 2 = .ptr 1 0 ∧ e 4 = .ptr 2 0 ∧ e 5 = .ptr 3 0 ∧ e 7 = .v (.int .i64 k)) l.names.length ⟨0, [], Nat.zero_le _, rfl, by rw [Y4 l, h5, Y6 tv]; rfl, rfl, rfl, rfl, rfl, rfl⟩ ?_
   rintro m e h' ⟨k, T, hk, rfl, rfl, e1, e2, e4, e5, e7⟩
   by_cases hlt : k < l.names.length
   rotate_left
   · obtain rfl : k = l.names.length := by omega
     rw [List.take_length]
     repeat' first
      | (with_reducible refine Yf ?_; first
       | (refine Ya8 (i := 2) (j := 4) (ds := [.v (.int .i64 0), .buf 4 l.names.length, .buf 5 l.names.length, .v (.slice none 0 0)]) (ds' := [.v (.int .i64 0), .sl 1 (l.names.map strX), .buf 5 l.names.length, .v (.slice none 0 0)]) (h2 := sM6 (.cells (latX l)) (.cells nilV) (.cells [.v (.int .i64 0), .sl 1 (l.names.map strX), .buf 5 l.names.length, .v (.slice none 0 0)]) (.cells (vaX tv)) .dead (.buf 30 4 ((Z2 l.names.length tv).map vaX)) T) (by decide) (by with_unfolding_all rfl) (by simp [cvD, cv1, sM6]) (by with_unfolding_all rfl) ?_)
       | (refine Ya8 (i := 2) (j := 5) (ds := [.v (.int .i64 0), .sl 1 (l.names.map strX), .buf 5 l.names.length, .v (.slice none 0 0)]) (ds' := [.v (.int .i64 0), .sl 1 (l.names.map strX), .sl 4 ((Z2 l.names.length tv).map vaX), .v (.slice none 0 0)]) (h2 := sM6 (.cells (latX l)) (.cells nilV) (.cells [.v (.int .i64 0), .sl 1 (l.names.map strX), .sl 4 ((Z2 l.names.length tv).map vaX), .v (.slice none 0 0)]) (.cells (vaX tv)) .dead .dead T) (by decide) (by with_unfolding_all rfl) (by simp [cvD, cv1, sM6]) (by with_unfolding_all rfl) ?_)
       | refine Vp ?_
       | refine Xs ?_
       | refine V9 ?_
       | refine Zd1 rfl ?_
       | refine Za1 rfl ?_
       | refine Ux ?_
       | refine Zk6 ?_
       | refine Zh8 ?_
       | refine Y9 mixd (by kernel_rfl) ?_)
      | (with_reducible refine Y7 ?_; first
       | refine Xi ?_
       | (refine ao1 rfl rfl fun K HK => ?_; simp only [go_sem, Y4 l, e1, e2, e4, e5, e7, nilV]; (first | refine X1 (fun hq => ?_) (fun hq => ?_) | (refine ⟨by omega, by omega, ?_⟩; intro row hrow; obtain ⟨x, hx, rfl⟩ := Vt hrow; clear hrow) | skip) <;> (refine HK _ _ ?_; clear HK K))
       | (refine ao1' rfl fun K HK => ?_; simp only [go_sem, Y4 l, e1, e2, e4, e5, e7, nilV]; refine HK _ _ ?_; clear HK K))
      | (with_reducible refine Xf ?_; first
       | (refine aq1 rfl rfl fun K HK => ?_; simp only [go_sem, Y4 l, e1, e2, e4, e5, e7, nilV]; (first | refine X1 (fun hq => ?_) (fun hq => ?_) | (refine ⟨by omega, by omega, ?_⟩; intro row hrow; obtain ⟨x, hx, rfl⟩ := Vt hrow; clear hrow) | skip) <;> (refine HK _ _ rfl ?_; clear HK K)))
      | (with_reducible refine Yb9 ?_; first
       | refine Jf ?_
       | refine Yg6 ?_)
      | (with_reducible refine gd_iB ?_; first
       | refine inB_n ?_
       | refine inB_x ?_)
      | (exfalso; omega)
     all_goals first | (exfalso; omega) | exact ⟨.inr rfl, endD (ds := [.agg [.v (.int .i64 0), .sl 1 (l.names.map strX), .sl 4 ((Z2 l.names.length tv).map vaX), .v (.slice none 0 0)], .v (.bool true)]) (r := .tup [.agg [.v (.int .i64 0), .sl 1 (l.names.map strX), .sl 4 ((Z2 l.names.length tv).map vaX), .v (.slice none 0 0)], .v (.bool true)]) hl0 (by simp only [resD, Tryz.results114, go_sem, ↓reduceIte, Z0, Z3, Z1, e2, sM6_1]; try rfl) (by simp) (by simp) (by simp [outD, cvD, cv1]) (by simp only [low, lowL]; exact ⟨⟨trivial, Us _, Jt _ _, trivial, trivial⟩, trivial, trivial⟩) ⟨_, ⟨rfl, rfl⟩, J1 (Yi (wk_va (Xa _) (Xa _) Wu) (Yi (Xa _) Wy))⟩⟩
   have hx : l.names[k]? = some l.names[k] := Z4 hlt
   have hnt : (l.names.take (k + 1)).map strX = (l.names.take k).map strX ++ [strX l.names[k]] := by rw [List.take_add_one, hx, Z6]; rfl
   generalize l.names[k] = s at hx hnt
   have hlr : ((Z2 k tv).map vaX).length = k := by rw [Z5, List.length_replicate]
   have hln : ((l.names.take k).map strX).length = k := by rw [Z5, List.length_take, Nat.min_eq_left hk]
   have hrs : Yr 1 [[D.v (.string s)]] := Zi6 [s]
   have hrk : (Z2 (k + 1) tv).map vaX = (Z2 k tv).map vaX ++ [vaX tv] := by rw [List.replicate_succ', Z6]; rfl
   have wk : IntKind.i64.wrap ((k : Int) + 1) = ((k + 1 : Nat) : Int) := IntWalk.i64_in _ (by omega)
   have hls : lowL 0 [D.v (.string s)] := by simp [lowL, low]
   have hlv : lowL 0 [D.agg (vaX tv)] := by rw [lowL, lowL, low]; exact ⟨Ys 0 tv, trivial⟩
   have hl2 : low 0 (.sl 4 [vaX tv]) := Vk 0 [tv] fun x _ => Ys 0 x
   simp only [Y6 tv] at hlv hl2
   have F : _ ∧ _ ∧ _ ∧ _ ∧ _ ∧ _ ∧ _ ∧ _ := ⟨Y4 l, Y6 tv, e1, e2, e4, e5, e7, wk⟩
   repeat' first
    | (with_reducible refine Yf ?_; first | refine Vp ?_ | refine Xs ?_ | refine V9 ?_ | refine Zd1 rfl ?_ | refine Za1 rfl ?_ | refine Ux ?_ | refine Zk6 ?_ | refine aw_drawS 2 mixd (by kernel_rfl) ?_)
    | ((with_reducible refine gd_bS ?_); first | (refine bS_lit (i := T.length + 6) hG rfl rfl (by simp only [litD, V0, go_sem, Z8, Z9, Option.map_some, Option.bind_some, and_self, Y4 l, Y6 tv, U9, ↓reduceIte, Z0, Z3, Z1, Nat.reduceBEq, Nat.reduceMul]; rfl) (by (first | (simp only [go_sem, F]; rfl) | (simp only [go_sem, F]; done))) (by show lowL 0 [ev G _ (.tmp 85)]; simp only [go_sem, F]; exact hls) (by exact Us [s]) ?_) | (refine bS_lit (i := T.length + 1 + 6) hG rfl rfl (by simp only [litD, V0, go_sem, Z8, Z9, Option.map_some, Option.bind_some, and_self, Y4 l, Y6 tv, U9, ↓reduceIte, Z0, Z3, Z1, Nat.reduceBEq, Nat.reduceMul]; rfl) (by (first | (simp only [go_sem, F]; rfl) | (simp only [go_sem, F]; done))) (by show lowL 0 [ev G _ (.tmp 90)]; simp only [go_sem, F]; exact hlv) (by exact hl2) ?_) | (refine bS_appB rfl rfl rfl rfl (by (first | (simp only [go_sem, F]; rfl) | (simp only [go_sem, F]; done))) hln (by simp only [go_sem, F]; rfl) (by (first | (simp only [go_sem, F]; rfl) | (simp only [go_sem, F]; done))) (by simp) hrs (by first | omega | (simp; omega)) ?_) | (refine bS_appB rfl rfl rfl rfl (by (first | (simp only [go_sem, F]; rfl) | (simp only [go_sem, F]; done))) hlr (by simp only [go_sem, F]; rfl) (by (first | (simp only [go_sem, F]; rfl) | (simp only [go_sem, F]; done))) (by simp) hro (by first | omega | (simp; omega)) ?_) | (refine bS_load rfl rfl (by first | rfl | (simp only [go_sem, F]; rfl)) (by (first | (simp only [go_sem, F]; rfl) | (simp only [go_sem, F]; done))) (by rw [getD_agg' aggT_30, szT_30]; rfl) ?_) | (refine bS1 rfl rfl fun K HK => ?_; simp only [go_sem, F]; (first | refine X1 (fun hq => ?_) (fun hq => ?_) | (refine ⟨by omega, by omega, ?_⟩; refine Yn (by assumption) ?_) | skip) <;> (refine HK _ _ rfl ?_; clear HK K)) | refine bS_load rfl rfl rfl (by (first | (simp only [go_sem, F]; rfl) | (simp only [go_sem, F]; done))) (by rw [getD_one (by simp only [go_sem, F])]; rfl) ?_ | refine bS_store rfl rfl (by (first | (simp only [go_sem, F]; rfl) | (simp only [go_sem, F]; done))) rfl (by simp only [go_sem, F]) (by simp) ?_ | refine bS_nil (by simp only [List.reverse_cons, List.reverse_nil, Za, Z7, cpFA, cpF1]; repeat' (first | exact trivial | refine And.intro ?_ ?_ | exact .inr cmF_pl | exact .inr cmF_pr | exact .inr cmF_rr | exact .inr (cmF_rw (by omega)) | exact .inr (cmF_wr (by omega)) | exact .inr (cmF_ww (by omega)) | (refine .inr ?_; simp [compF, reF, wrF, puF, nopF, sM6_len] <;> omega) | exact .inl (by kernel_rfl))) ?_)
    | (with_reducible refine Yb9 ?_; first | refine Jf ?_ | refine Yg6 ?_)
    | (with_reducible refine gd_iB ?_; first | refine inB_n ?_ | refine inB_x ?_)
    | refine gg ?_
    | refine Two.mk (fun hq => ?_) fun hq => ?_
    | (exfalso; omega)
   all_goals exact ⟨rfl, l.names.length - (k + 1), by omega, k + 1, _, hlt, rfl, (by rw [Y4 l, hnt, hrk, Y6 tv]; rfl), e1, e2, e4, e5, rfl⟩
 have h67 : l.kind = 6 ∨ l.kind = 7 := by omega
 rw [topV_67 h67 ((Uo _).2 hto), Yb3]
 have hpl8 : l.parts.length ≤ 8 := by rcases h67 with q | q; have := hk6 q; omega; have := hk7 q; omega
 rcases h67 with h6 | h6
 all_goals
  skip
  have F : _ ∧ _ := ⟨Y4 l, h6⟩
  repeat' first
   | (with_reducible refine Yf ?_; first | refine Vp ?_ | refine Xs ?_ | refine V9 ?_ | refine Zd1 rfl ?_ | refine Za1 rfl ?_ | refine Ux ?_)
   | (with_reducible refine Yb9 ?_; refine Jf ?_)
   | refine g0 ?_
   | fail
  all_goals first | (exfalso; omega) | skip
  refine Vv 30 4 2 [.v (.int .i64 0), .v (.slice none 0 0)] [.v (.slice none 0 0)] rfl ?_
  refine Yh (fun m e h' => ∃ (k : Nat) (T : List Ob), k ≤ l.parts.length ∧ m = l.parts.length - k ∧ h' = kM (.cells (latX l)) (.cells nilV) (.cells [.v (.int .i64 0), .v (.slice none 0 0), .buf 3 k, .v (.slice none 0 0)]) (.buf 30 4 (((l.parts.take k).map fun p => (topV p).1).map vaX)) T ∧ e 1 = .ptr 0 0 ∧ e 2 = .ptr 1 0 ∧ e 4 = .ptr 2 0 ∧ e 8 = .v (.int .i64 k)) l.parts.length ⟨0, [], Nat.zero_le _, rfl, by rw [Y4 l, h6]; rfl, rfl, rfl, rfl, rfl⟩ ?_
  rintro m e h' ⟨k, T, hk, rfl, rfl, e1, e2, e4, e8⟩
  by_cases hlt : k < l.parts.length
  rotate_left
  · obtain rfl : k = l.parts.length := by omega
    rw [List.take_length]
    repeat' first
     | (with_reducible refine Yf ?_; first
      | refine Vp ?_
      | refine Xs ?_
      | refine V9 ?_
      | refine Zd1 rfl ?_
      | refine Za1 rfl ?_
      | refine Ux ?_
      | refine Zk6 ?_
      | refine Zh8 ?_)
     | (with_reducible refine Y7 ?_; first
      | (refine Yb0 (j := 3) (d' := .agg [.v (.int .i64 0), .v (.slice none 0 0), .sl 4 ((l.parts.map fun p => (topV p).1).map vaX), .v (.slice none 0 0)]) (by with_unfolding_all rfl) (by with_unfolding_all rfl) (by with_unfolding_all exact e4) (by with_unfolding_all rfl) (by with_unfolding_all (rw [getD_agg' aggT_30, szT_30]; rfl)) (by simp [cvD, cv1, kM]) ?_; simp only [go_sem, Y4 l, e1, e2, e4, e8, nilV])
      | refine Xi ?_
      | (refine ao1 rfl rfl fun K HK => ?_; simp only [go_sem, Y4 l, e1, e2, e4, e8, nilV]; (first | refine X1 (fun hq => ?_) (fun hq => ?_) | (refine ⟨by omega, by omega, ?_⟩; intro row hrow; obtain ⟨x, hx, rfl⟩ := Vt hrow; clear hrow) | skip) <;> (refine HK _ _ ?_; clear HK K))
      | (refine ao1' rfl fun K HK => ?_; simp only [go_sem, Y4 l, e1, e2, e4, e8, nilV]; refine HK _ _ ?_; clear HK K))
     | (with_reducible refine Yb9 ?_; first
      | refine Jf ?_
      | refine Yg6 ?_)
     | (with_reducible refine gd_iB ?_; first
      | refine inB_n ?_
      | refine inB_x ?_)
     | (exfalso; omega)
    all_goals first | (exfalso; omega) | exact ⟨.inr rfl, endD (ds := [.agg [.v (.int .i64 0), .v (.slice none 0 0), .sl 4 ((l.parts.map fun p => (topV p).1).map vaX), .v (.slice none 0 0)], .v (.bool true)]) (r := .tup [.agg [.v (.int .i64 0), .v (.slice none 0 0), .sl 4 ((l.parts.map fun p => (topV p).1).map vaX), .v (.slice none 0 0)], .v (.bool true)]) hl0 (by simp only [resD, Tryz.results114, go_sem, ↓reduceIte, Z0, Z3, Z1, e2, kM_1]; try rfl) (by simp) (by simp) (by simp [outD, cvD, cv1, kM]) (by simp only [low, lowL]; exact ⟨⟨trivial, trivial, Jt _ _, trivial, trivial⟩, trivial, trivial⟩) ⟨_, ⟨rfl, rfl⟩, J1 (Yi (Vr _ _ _ (Xa _)) (Yi (Xa _) Wy))⟩⟩
  have hx : l.parts[k]? = some l.parts[k] := Z4 hlt
  have wk : IntKind.i64.wrap ((k : Int) + 1) = ((k + 1 : Nat) : Int) := IntWalk.i64_in _ (by omega)
  have htk : (l.parts.take (k + 1)).map (fun p => (topV p).1) = (l.parts.take k).map (fun p => (topV p).1) ++ [(topV l.parts[k]).1] := by rw [List.take_add_one, hx, Z6]; rfl
  have hbp := hpp _ (List.getElem_mem hlt)
  generalize l.parts[k] = x at hx hbp htk
  have hlr : (((l.parts.take k).map fun p => (topV p).1).map vaX).length = k := by rw [Z5, Z5, List.length_take, Nat.min_eq_left hk]
  simp only [Y4 x] at hbp
  generalize (topV x).1 = bx at hbp htk
  have hro : Yr 4 [vaX bx] := fun row hr => by simp only [List.mem_singleton] at hr; subst hr; exact ⟨Wa bx, List.all_eq_true.1 (Zf9 bx)⟩
  simp only [Y6 bx] at hbp hro
  have F : _ ∧ _ ∧ _ ∧ _ ∧ _ ∧ _ ∧ _ := ⟨Y4 x, Y4 l, e1, e2, e4, e8, wk⟩
  repeat' first
   | (with_reducible refine Yf ?_; first | refine Vp ?_ | refine Xs ?_ | refine V9 ?_ | refine Zd1 rfl ?_ | refine Za1 rfl ?_ | refine Ux ?_ | refine Zk6 ?_)
   | (with_reducible refine Y7 ?_; (refine Wd rfl rfl rfl rfl (by (simp only [go_sem, F]; rfl)) hlr (by simp only [go_sem, F]; rfl) (by (simp only [go_sem, F]; rfl)) (by simp) hro (by first | omega | (simp; omega)) ?_))
   | (with_reducible refine Yb9 ?_; first | refine Jf ?_ | refine Yg6 ?_)
   | (with_reducible refine gd_iB ?_; first | refine inB_n ?_ | refine inB_x ?_)
   | refine gg ?_
   | refine Two.mk (fun hq => ?_) fun hq => ?_
   | (with_reducible refine Y7 ?_; refine gc rfl rfl rfl ent_114 (hbp _) ?_)
   | (exfalso; omega)
  all_goals exact ⟨rfl, l.parts.length - (k + 1), by omega, k + 1, _, hlt, rfl, (by rw [Y4 l, htk, Z6, List.map_cons, Y6 bx]; rfl), e1, e2, e4, rfl⟩
theorem rTop_d (l : Lat) (hsm : Sm l) (hc : chkE l = 0) (hr : rkdR l = true) (hf : finB l = true) (h : List Ob) : Does Tryz.prog G 57 h [.agg (latX l)] (fun h' r => h' = h ∧ r = .tup [.agg (vaX (topV l).1), .v (.int .i64 0)]) := by
 refine Ya G hG (by rw [lowL, lowL, low]; exact ⟨Yy _ l, trivial⟩) (by simp only [low, lowL]; exact ⟨Ys _ _, trivial, trivial⟩) ?_ h
 clear h
 have hck := Yi5 G hG l hsm
 have hto := greatest_d G hG _ l (Zb _) (Zf4 hc) hr hf
 rw [hc] at hck
 simp only [Y4 l] at hck hto
 generalize (topV l).1 = v at *
 simp only [Y6 v] at hto ⊢
 refine Y5 Tryz.func57 rfl (Nat.le_of_ble_eq_true rfl) hG fun hl0 _ => ?_
 simp only [Tryz.ntmps57]
 have F := Y4 l
 repeat' first
  | (with_reducible refine Yf ?_; first | refine Vp ?_ | refine Xs ?_ | refine Za1 rfl ?_ | refine Ux ?_ | refine Zh8 ?_)
  | (with_reducible refine Yb9 ?_; refine Jf ?_)
  | refine g0 ?_
  | (with_reducible refine Y7 ?_; first | refine gc rfl rfl rfl ent_38 (hck _) ?_ | refine gc rfl rfl rfl ent_114 (hto _) ?_)
 all_goals exact ⟨.inr rfl, endD (ds := [.agg [.v (.int .i64 v.n), .sl 1 (v.names.map strX), .sl 4 (v.parts.map vaX), .sl 2 (v.entries.map enX)], .v (.int .i64 0)]) (r := .tup [.agg [.v (.int .i64 v.n), .sl 1 (v.names.map strX), .sl 4 (v.parts.map vaX), .sl 2 (v.entries.map enX)], .v (.int .i64 0)]) hl0 (by simp only [resD, Tryz.results57, go_sem, ↓reduceIte, Z0, Z3, Z1]; try rfl) (by simp) (by simp) (by simp [outD, cvD, cv1]) (by have := Ys 0 v; rw [Y6 v] at this; simp only [low, lowL] at this ⊢; exact ⟨this, trivial, trivial⟩) ⟨rfl, rfl⟩⟩
end
end Go.Proofs.YtbhkcbidcfofiaaGreat
