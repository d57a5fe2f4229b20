/-
  What the statements of the chapter share, part 32: QA11, QA8, QLR.
-/
import Derived.Test.YtbhkcbidcfofiaaGreatY15
import Derived.Test.YtbhkcbidcfofiaaGreatY24
import Derived.Test.YtbhkcbidcfofiaaGreatY30
import Derived.Test.YtbhkcbidcfofiaaGreatY31
set_option linter.unusedVariables false
set_option linter.unusedSimpArgs false
set_option maxRecDepth 100000
set_option maxHeartbeats 8000000
namespace Go.Proofs.YtbhkcbidcfofiaaGreat
open _root_.Bool renaming not_false → Zd, not_true → Ze
open _root_.Int renaming reduceEq → Z2
open _root_.List renaming getElem?_eq_getElem → Z1, take_of_length_le → Z3, cons_append → Z5, getElem_mem → Z7, nil_append → Z8, reverse_cons → Z9, reverse_nil → Zc
open _root_.Nat renaming le_refl → Z0, le_of_ble_eq_true → Z4, reduceEqDiff → Za, reduceLeDiff → Zb
open _root_.Go.Proofs.Tryz renaming prog → Z6
open Go.RowKit
section
attribute [local irreducible] on aOp
attribute [local go_sem] decide_true decide_false Ze Zd
attribute [local simp] byD_len
def nR (A B : Ob) (T : List Ob) : List Ob := A :: B :: T
section
variable {A B y y' : Ob} {T l : List Ob}
theorem nR_0 : (nR A B T)[0]? = some A := rfl
theorem nR_1 : (nR A B T)[1]? = some B := rfl
theorem nR_len : (nR A B T).length = T.length + 2 := rfl
theorem nR_app : nR A B T ++ l = nR A B (T ++ l) := rfl
theorem nR_l : (nR A B (T ++ [y]))[T.length + 2]? = some y := by simp [nR]
theorem nR_sl : (nR A B (T ++ [y])).set (T.length + 2) y' = nR A B (T ++ [y']) := by simp [nR]
end
inductive NSm : Val → Prop
 | mk (v : Val) (h1 : (v.names.length : Int) ≤ ov) (h2 : ∀ p ∈ v.parts, NSm p) : NSm v
theorem NSm.names {v : Val} (h : NSm v) : (v.names.length : Int) ≤ ov := by cases h; assumption
theorem NSm.part {v : Val} (h : NSm v) : ∀ p ∈ v.parts, NSm p := by cases h; assumption
theorem nsm_nodes (f : Nat) : ∀ v : Val, SizeOf.sizeOf v ≤ f → (U1 v : Int) ≤ ov → NSm v := by
 induction f with
 | zero => intro v hn; cases v; simp at hn
 | succ f ih =>
  intro v hn h
  have h1 := nodesN_eq v
  refine .mk _ (by omega) fun x hx => ih x ?_ ?_
  · obtain ⟨n, ns, ps, es⟩ := v
    have := List.sizeOf_lt_of_mem (show x ∈ ps from hx)
    simp at hn
    omega
  · have h2 : ∀ l : List Val, x ∈ l → U1 x ≤ Yk l := fun l => by
     induction l with
     | nil => exact fun h => by cases h
     | cons y t iht =>
      intro h
      rw [Yk]
      rcases List.mem_cons.1 h with rfl | h
      · omega
      · have := iht h; omega
    have := h2 _ hx
    omega
theorem nsm_top (f : Nat) : ∀ l : Lat, SizeOf.sizeOf l ≤ f → WfL l → NSm (topV l).1 := by
 induction f with
 | zero => intro l hn; cases l; simp at hn
 | succ f ih =>
  intro l hn hw
  have hp := fun p hp => ih p (by have := Yb (l := l) hp; omega) (hw.part hp)
  have flat : ∀ n : Int, NSm (.mk n [] [] []) := fun n => .mk _ (by simp [Val.names, ov]) (by simp [Val.parts])
  obtain ⟨_, _, _, _, _, _, _, hnl, _⟩ := hw.kinds
  obtain ⟨k, lo, hi, ns, ps, rs⟩ := l
  simp only [Lat.names, Lat.parts] at hp hnl
  have hsn : (ns.length : Int) ≤ ov := by unfold ov; omega
  rw [topV]
  split
  · exact flat _
  split
  · exact flat _
  split
  · exact flat _
  split
  · exact flat _
  split
  · exact .mk _ hsn (by simp [Val.parts])
  split
  · exact flat _
  split
  · match ps with
    | [] => rw [Ve]; exact flat _
    | p :: t =>
     rw [Ve]
     split
     · exact flat _
     · split
       · exact flat _
       · exact .mk _ hsn (fun q hq => by rw [List.eq_of_mem_replicate hq]; exact hp p (by simp))
  split
  · rw [Za6]
    refine .mk _ (by simp [Val.names, ov]) (fun q hq => ?_)
    obtain ⟨p, hp', rfl⟩ := List.mem_map.1 (show q ∈ ps.map fun p => (topV p).1 from hq)
    exact hp p hp'
  · exact flat _
variable (G : Nat → D) (hG : ∀ g, low 0 (G g))
include hG
attribute [local go_sem] Z2 Int.reduceLE Int.reduceLT Int.toNat_natCast List.append_assoc Z5 List.length_map Z8 Nat.reduceAdd Nat.reduceBEq Za Zb Nat.reduceMul nR_0 nR_1 nR_app nR_l nR_len nR_sl
attribute [local go_sem ↓] reduceIte
theorem refRank_d (f : Nat) : ∀ (l : Lat) (v : Val), SizeOf.sizeOf l ≤ f → Sm l → chkE l = 0 → rkdR l = true → VSm v → NSm v → Y8 l v = true → ∀ h : List Ob, Does Z6 G 26 h [.agg (latX l), .agg (vaX v)] (fun h' r => h' = h ∧ r = .v (.int .i64 (min (rkI l v) ov))) := by
 induction f with
 | zero => intro l v hn; cases l; simp at hn
 | succ f ih =>
 intro l v hn hsm hc hr hv hno he h
 refine Ya G hG (by simp only [lowL, low]; exact ⟨Yy _ l, Ys _ v, trivial⟩) (by rw [low]; trivial) ?_ h
 clear h
 have hwf := Zf4 hc
 obtain ⟨hk0, hk5, hk7, hk6, _, _, _, hnl, _⟩ := hwf.kinds
 have hkk := Zt2 hr
 have hnp := hno.part
 have hpp : ∀ p ∈ l.parts, ∀ x, VSm x → NSm x → Y8 p x = true → ∀ h, Does Z6 G 26 h [.agg (latX p), .agg (vaX x)] (fun h' r => h' = h ∧ r = .v (.int .i64 (min (rkI p x) ov))) := fun p hp x hx hnx hex => ih p x (by have := Yb hp; omega) (hsm.part p hp) (Zu1 hc hp) (X0 hr p hp) hx hnx hex
 have hnn : ∀ p ∈ l.parts, ∀ x, Y8 p x = true → 0 ≤ rkI p x := fun p hp x hx => Zs7 _ p x (Z0 _) (hwf.part hp) (X0 hr p hp) hx
 have h0 := Zs7 _ l v (Z0 _) hwf hr he
 refine Y5 Tryz.func26 rfl (Z4 rfl) hG fun hl0 _ => ?_
 simp only [Tryz.ntmps26]
 by_cases h123 : l.kind = 1 ∨ l.kind = 2 ∨ l.kind = 3
 · have hch : Xh l = true := by
    rw [Vo, Bool.or_eq_true, decide_eq_true_eq]
    exact .inl h123
   have hpo := pos_d G hG _ l v (Z0 _) hwf hch he
   simp only [Y4 l, Y6 v] at hpo
   generalize min (rkI l v) ov = R at *
   rcases h123 with e | e | e
   all_goals
    simp only [e] at hpo
    have F : _ ∧ _ ∧ _ := ⟨Y4 l, Y6 v, e⟩
    repeat' first
     | refine g0 ?_
     | (with_reducible refine Y7 ?_; refine gc rfl rfl rfl ent_56 (hpo _) ?_)
    all_goals first | (exfalso; omega) | exact ⟨.inr rfl, endD (r := .v (.int .i64 R)) hl0 rfl (by simp) (by simp) rfl (by rw [low]; trivial) ⟨rfl, rfl⟩⟩
 have hvl := hv.names
 rw [Zw3] at h0 ⊢
 by_cases h4 : l.kind = 4
 · simp only [h4, if_true, if_false, Z2, reduceIte] at h0 ⊢
   rw [show min (v.names.length : Int) ov = v.names.length by have := hno.names; omega]
   have F : _ ∧ _ ∧ _ := ⟨Y4 l, Y6 v, h4⟩
   repeat' first
    | refine g0 ?_
    | fail
   all_goals first | (exfalso; omega) | exact ⟨.inr rfl, endD (r := .v (.int .i64 v.names.length)) hl0 rfl (by simp) (by simp) rfl (by rw [low]; trivial) ⟨rfl, rfl⟩⟩
 have hvp := hv.parts
 by_cases h5 : l.kind = 5
 · simp only [h5, if_true, if_false, Z2, reduceIte] at h0 ⊢
   obtain ⟨p, hp⟩ := List.length_eq_one_iff.1 (hk5 h5)
   have hpm : p ∈ l.parts := by rw [hp]; simp
   have hx0 : l.parts[0]? = some p := by rw [hp]; rfl
   have hl1 : l.parts.length = 1 := by rw [hp]; rfl
   have hel : ∀ x ∈ v.parts, Y8 p x = true := by
    have : Y8 (.mk 5 l.lo l.hi l.names [p] l.rules) v = true := by rw [← hp, ← h5]; cases l; exact he
    exact fun x hx => ((Xp.1 this).2.2.2 x hx).1
   rw [hp, rkMap] at h0 ⊢
   have hpr := hpp p hpm
   have hn0 := hnn p hpm
   clear hp
   simp only [Y4 p] at hpr
   have hsum : ∀ k, 0 ≤ ((v.parts.take k).map (rkI p)).sum := fun k => sum_nn _ fun y hy => by
    obtain ⟨x, hx, rfl⟩ := List.mem_map.1 hy
    exact hn0 x (hel x (List.mem_of_mem_take hx))
   have F : _ ∧ _ ∧ _ := ⟨Y4 l, Y6 v, h5⟩
   repeat' first
    | refine g0 ?_
    | fail
   all_goals first | (exfalso; omega) | skip
   refine Yh (fun m e h' => ∃ (k : Nat) (T : List Ob), k ≤ v.parts.length ∧ m = v.parts.length - k ∧ h' = nR (.cells (latX l)) (.cells (vaX v)) T ∧ e 2 = .ptr 0 0 ∧ e 3 = .ptr 1 0 ∧ e 8 = .v (.int .i64 (min ((v.parts.take k).map (rkI p)).sum ov)) ∧ e 9 = .v (.int .i64 k)) v.parts.length ⟨0, [], Nat.zero_le _, rfl, by rw [Y4 l, h5, Y6 v]; rfl, rfl, rfl, rfl, rfl⟩ ?_
   rintro m e h' ⟨k, T, hk, rfl, rfl, e2, e3, e8, e9⟩
   by_cases hlt : k < v.parts.length
   rotate_left
   · obtain rfl : k = v.parts.length := by omega
     rw [List.take_length] at e8
     have F : _ ∧ _ ∧ _ ∧ _ ∧ _ ∧ _ := ⟨Y4 l, Y6 v, e2, e3, e8, e9⟩
     repeat' first
      | refine gg ?_
      | refine Two.mk (fun hq => ?_) fun hq => ?_
      | (exfalso; omega)
     all_goals first | (exfalso; omega) | exact ⟨.inr rfl, endV hl0 rfl rfl ⟨rfl, rfl⟩⟩
   have hx : v.parts[k]? = some v.parts[k] := Z1 hlt
   have hxm := Z7 hlt
   have wk : IntKind.i64.wrap ((k : Int) + 1) = ((k + 1 : Nat) : Int) := IntWalk.i64_in _ (by omega)
   have hts := take_sum (rkI p) hx
   have hr1 := hpr _ (hv.part _ hxm) (hnp _ hxm) (hel _ hxm)
   have hn1 := hn0 _ (hel _ hxm)
   generalize v.parts[k] = x at hx hts hr1 hn1
   have hs := hsum k
   have hsu := rsum_d G hG (min ((v.parts.take k).map (rkI p)).sum ov) (min (rkI p x) ov) (by unfold ov; omega) (by unfold ov; omega)
   rw [Zi4 hs hn1, ← hts] at hsu
   simp only [Y6 x] at hr1
   generalize min ((v.parts.take k).map (rkI p)).sum ov = n0 at *
   generalize g1 : min ((v.parts.take (k + 1)).map (rkI p)).sum ov = n1 at *
   generalize min (rkI p x) ov = n2 at *
   have F : _ ∧ _ ∧ _ ∧ _ ∧ _ ∧ _ ∧ _ ∧ _ ∧ _ ∧ _ ∧ _ := ⟨Y4 l, Y4 p, Y6 v, Y6 x, h5, e2, e3, e8, e9, hl1, wk⟩
   repeat' first
    | (with_reducible refine Yf ?_; refine Xu mixd (by kernel_rfl) ?_)
    | ((with_reducible refine Ze7 ?_); first | (refine Xl rfl rfl rfl (by (simp only [go_sem, F]; rfl)) (by rw [getD_agg' aggT_26, szT_26]; rfl) ?_) | (refine aS1 rfl rfl fun K HK => ?_; simp only [go_sem, F]; (first | refine X1 (fun hq => ?_) (fun hq => ?_) | (refine ⟨by omega, by omega, ?_⟩; refine Yn (by assumption) ?_) | (refine ⟨by omega, ?_⟩; refine Yn (by assumption) ?_) | skip) <;> (refine HK _ _ rfl ?_; clear HK K)) | refine Xl rfl rfl rfl (by (simp only [go_sem, F]; rfl)) (by rw [getD_one (by simp only [go_sem, F])]; rfl) ?_ | refine U7 (by simp only [Z9, Zc, Z8, Z5, Ww, chk1]; repeat' (first | exact trivial | refine And.intro ?_ ?_ | exact .inr X7 | exact .inr Xe | exact .inr Xd)) ?_ | refine Yj rfl rfl rfl Yf3 (fun h2 => hr1 _) ?_ | refine Yj rfl rfl rfl ent_58 (fun h2 => hsu _) ?_)
    | ((with_reducible refine Y7 ?_); first | (refine ao1 rfl rfl fun K HK => ?_; simp only [go_sem, F]; (first | refine X1 (fun hq => ?_) (fun hq => ?_) | (refine ⟨by omega, by omega, ?_⟩; refine Yn (by assumption) ?_) | (refine ⟨by omega, ?_⟩; refine Yn (by assumption) ?_) | skip) <;> (refine HK _ _ ?_; clear HK K)))
    | refine gg ?_
    | refine Two.mk (fun hq => ?_) fun hq => ?_
    | (exfalso; omega)
   all_goals exact ⟨rfl, v.parts.length - (k + 1), by omega, k + 1, _, hlt, rfl, (by rw [Y4 l, Y6 v, h5]), e2, e3, (by rw [g1]; rfl), rfl⟩
 by_cases h6 : l.kind = 6
 · simp only [h6, if_true, if_false, Z2, reduceIte] at h0 ⊢
   have hpe := (el67 (k := 6) (lo := l.lo) (hi := l.hi) (ns := l.names) (ps := l.parts) (rs := l.rules) (v := v) (.inl rfl)).1 (by rw [← h6]; cases l; exact he)
   have hlen : v.parts.length = l.parts.length := hpe.1.1
   have hel : ∀ (i : Nat) (h : i < l.parts.length) (h' : i < v.parts.length), Y8 l.parts[i] v.parts[i] = true := (Zh1 l.parts v.parts hlen).1 hpe.1.2
   have hl8 := (hk6 h6).1
   have hl80 := (hk6 h6).2
   have hs0 : ∀ k, 0 ≤ Xv (l.parts.take k) (v.parts.take k) := fun k => by
    induction k with
    | zero => simp [Xv]
    | succ k ihk =>
     by_cases hlt : k < l.parts.length
     · rw [Jp (Z1 hlt) (Z1 (show k < v.parts.length by omega))]
       have := hnn _ (Z7 hlt) _ (hel k hlt (by omega))
       omega
     · rw [Z3 (by omega), Z3 (by omega)]
       rw [Z3 (by omega), Z3 (by omega)] at ihk
       exact ihk
   have hpl := Vi hwf
   have hz0 : min (Xv (l.parts.take 0) (v.parts.take 0)) ov = 0 := by rw [List.take_zero, List.take_zero, Xv]; unfold ov; omega
   have F : _ ∧ _ ∧ _ := ⟨Y4 l, Y6 v, h6⟩
   repeat' first
    | refine g0 ?_
    | fail
   all_goals first | (exfalso; omega) | skip
   refine Yh (fun m e h' => ∃ (k : Nat) (T : List Ob), k ≤ l.parts.length ∧ m = l.parts.length - k ∧ h' = nR (.cells (latX l)) (.cells (vaX v)) T ∧ e 2 = .ptr 0 0 ∧ e 3 = .ptr 1 0 ∧ e 8 = .v (.int .i64 (min (Xv (l.parts.take k) (v.parts.take k)) ov)) ∧ e 9 = .v (.int .i64 k)) l.parts.length ⟨0, [], Nat.zero_le _, rfl, by rw [Y4 l, h6, Y6 v]; rfl, rfl, rfl, by rw [hz0]; rfl, rfl⟩ ?_
   rintro m e h' ⟨k, T, hk, rfl, rfl, e2, e3, e8, e9⟩
   by_cases hlt : k < l.parts.length
   rotate_left
   · obtain rfl : k = l.parts.length := by omega
     rw [List.take_length, Z3 (show v.parts.length ≤ l.parts.length by omega)] at e8
     rw [← hlen] at e9
     have F : _ ∧ _ ∧ _ ∧ _ ∧ _ ∧ _ := ⟨Y4 l, Y6 v, e2, e3, e8, e9⟩
     repeat' first
      | refine gg ?_
      | refine Two.mk (fun hq => ?_) fun hq => ?_
      | (exfalso; omega)
     all_goals first | (exfalso; omega) | exact ⟨.inr rfl, endV hl0 rfl rfl ⟨rfl, rfl⟩⟩
   have hlv : k < v.parts.length := by omega
   have hx : v.parts[k]? = some v.parts[k] := Z1 hlv
   have hp : l.parts[k]? = some l.parts[k] := Z1 hlt
   have hlz : 0 < l.parts.length := by omega
   have hp0 : l.parts[0]? = some l.parts[0] := Z1 hlz
   have hxm := Z7 hlv
   have hpm := Z7 hlt
   have wk : IntKind.i64.wrap ((k : Int) + 1) = ((k + 1 : Nat) : Int) := IntWalk.i64_in _ (by omega)
   have hts := Jp hp hx
   have hr1 := hpp _ hpm _ (hv.part _ hxm) (hnp _ hxm) (hel k hlt hlv)
   have hn1 := hnn _ hpm _ (hel k hlt hlv)
   generalize v.parts[k] = x at hx hts hr1 hn1
   generalize l.parts[k] = p at hp hts hr1 hn1
   generalize l.parts[0] = p0 at hp0
   have hs := hs0 k
   have hsu := rsum_d G hG (min (Xv (l.parts.take k) (v.parts.take k)) ov) (min (rkI p x) ov) (by unfold ov; omega) (by unfold ov; omega)
   rw [Zi4 hs hn1, ← hts] at hsu
   simp only [Y6 x, Y4 p] at hr1
   generalize min (Xv (l.parts.take k) (v.parts.take k)) ov = n0 at *
   generalize g1 : min (Xv (l.parts.take (k + 1)) (v.parts.take (k + 1))) ov = n1 at *
   generalize min (rkI p x) ov = n2 at *
   have F : _ ∧ _ ∧ _ ∧ _ ∧ _ ∧ _ ∧ _ ∧ _ ∧ _ ∧ _ ∧ _ := ⟨Y4 l, Y4 p, Y4 p0, Y6 v, Y6 x, h6, e2, e3, e8, e9, wk⟩
   repeat' first
    | (with_reducible refine Yf ?_; refine Xu mixd (by kernel_rfl) ?_)
    | ((with_reducible refine Ze7 ?_); first | (refine Xl rfl rfl rfl (by (simp only [go_sem, F]; rfl)) (by rw [getD_agg' aggT_26, szT_26]; rfl) ?_) | (refine aS1 rfl rfl fun K HK => ?_; simp only [go_sem, F]; (first | refine X1 (fun hq => ?_) (fun hq => ?_) | (refine ⟨by omega, by omega, ?_⟩; refine Yn (by assumption) ?_) | (refine ⟨by omega, ?_⟩; refine Yn (by assumption) ?_) | skip) <;> (refine HK _ _ rfl ?_; clear HK K)) | refine Xl rfl rfl rfl (by (simp only [go_sem, F]; rfl)) (by rw [getD_one (by simp only [go_sem, F])]; rfl) ?_ | refine U7 (by simp only [Z9, Zc, Z8, Z5, Ww, chk1]; repeat' (first | exact trivial | refine And.intro ?_ ?_ | exact .inr X7 | exact .inr Xe | exact .inr Xd)) ?_ | refine Yj rfl rfl rfl Yf3 (fun h2 => hr1 _) ?_ | refine Yj rfl rfl rfl ent_58 (fun h2 => hsu _) ?_)
    | ((with_reducible refine Y7 ?_); first | (refine ao1 rfl rfl fun K HK => ?_; simp only [go_sem, F]; (first | refine X1 (fun hq => ?_) (fun hq => ?_) | (refine ⟨by omega, by omega, ?_⟩; refine Yn (by assumption) ?_) | (refine ⟨by omega, ?_⟩; refine Yn (by assumption) ?_) | skip) <;> (refine HK _ _ ?_; clear HK K)))
    | refine gg ?_
    | refine Two.mk (fun hq => ?_) fun hq => ?_
    | (exfalso; omega)
   all_goals exact ⟨rfl, l.parts.length - (k + 1), by omega, k + 1, _, hlt, rfl, (by rw [Y4 l, Y6 v, h6]), e2, e3, (by rw [g1]; rfl), rfl⟩
 have h7 : l.kind = 7 := by omega
 obtain ⟨p, q, a, b, hpq, hab, ha, hb, hcp⟩ := lex_parts hwf h7 he
 simp only [h7, if_true, if_false, Z2, reduceIte] at h0 ⊢
 have hfq : finB q = true := by have := topN hr h7; rw [hpq] at this; exact this
 have hx0 : l.parts[0]? = some p := by rw [hpq]; rfl
 have hx1 : l.parts[1]? = some q := by rw [hpq]; rfl
 have hl2 : l.parts.length = 2 := by rw [hpq]; rfl
 have hpm : p ∈ l.parts := by rw [hpq]; simp
 have hqm : q ∈ l.parts := by rw [hpq]; simp
 have hy0 : v.parts[0]? = some a := by rw [hab]; rfl
 have hy1 : v.parts[1]? = some b := by rw [hab]; rfl
 have hv2 : v.parts.length = 2 := by rw [hab]; rfl
 have hr0 := pos_d G hG _ p a (Z0 _) (hwf.part hpm) hcp ha
 have hr1 := hpp q hqm b (hv.part b (by rw [hab]; simp)) (hnp b (by rw [hab]; simp)) hb
 have hte := J3 _ q (Z0 _) (hwf.part hqm) (Vu _ q (Z0 _) (hwf.part hqm) (X0 hr q hqm) hfq)
 have hrt := hpp q hqm (topV q).1 (vsm_top _ q (Z0 _) (hsm.part q hqm)) (nsm_top _ q (Z0 _) (hwf.part hqm)) hte
 have hto := rTop_d G hG q (hsm.part q hqm) (Zu1 hc hqm) (X0 hr q hqm) hfq
 have n0 := hnn p hpm a ha
 have n1 := hnn q hqm b hb
 have n2 := hnn q hqm _ hte
 rw [hpq, hab, Zw2, Zw1] at h0 ⊢
 clear hpq hab
 generalize rkI p a = A at *
 generalize rkI q b = W at *
 generalize rkI q (topV q).1 = T at *
 generalize (topV q).1 = tv at *
 have hX : 0 ≤ A * T := Int.mul_nonneg n0 n2
 have hpr := rprod_d G hG (min A ov) (min T ov) (by unfold ov; omega) (by unfold ov; omega)
 rw [sat_mul n0 n2] at hpr
 have hs1 := rsum_d G hG (min (A * T) ov) (min A ov) (by unfold ov; omega) (by unfold ov; omega)
 rw [Zi4 hX n0] at hs1
 have hs2 := rsum_d G hG (min (A * T + A) ov) (min W ov) (by unfold ov; omega) (by unfold ov; omega)
 rw [Zi4 (by omega) n1] at hs2
 rw [show A * (T + 1) + W = A * T + A + W by rw [Int.mul_add, Int.mul_one]]
 simp only [Y4 p, Y6 a] at hr0
 simp only [Y4 q, Y6 b] at hr1
 simp only [Y4 q, Y6 tv] at hrt hto
 generalize min (A * T + A + W) ov = R at *
 generalize min (A * T + A) ov = M2 at *
 generalize min (A * T) ov = M1 at *
 generalize min A ov = A1 at *
 generalize min T ov = T1 at *
 generalize min W ov = W1 at *
 have F : _ ∧ _ ∧ _ ∧ _ ∧ _ ∧ _ ∧ _ ∧ _ ∧ _ ∧ _ := ⟨Y4 l, Y4 p, Y4 q, Y6 v, Y6 a, Y6 b, Y6 tv, h7, hl2, hv2⟩
 repeat' first
  | (with_reducible refine Yf ?_; refine Xu mixd (by kernel_rfl) ?_)
  | ((with_reducible refine Ze7 ?_); first | (refine Xl rfl rfl rfl (by (simp only [go_sem, F]; rfl)) (by rw [getD_agg' aggT_30, szT_30]; rfl) ?_) | (refine aS1 rfl rfl fun K HK => ?_; simp only [go_sem, F]; (first | (refine ⟨by omega, ?_⟩; refine Yn (by assumption) ?_) | skip) <;> (refine HK _ _ rfl ?_; clear HK K)) | refine Xl rfl rfl rfl (by (simp only [go_sem, F]; rfl)) (by rw [getD_one (by simp only [go_sem, F])]; rfl) ?_ | refine U7 (by simp only [Z9, Zc, Z8, Z5, Ww, chk1]; repeat' (first | exact trivial | refine And.intro ?_ ?_ | exact .inr X7 | exact .inr Xe | exact .inr Xd)) ?_ | refine Yj rfl rfl rfl ent_56 (fun h2 => hr0 _) ?_ | refine Yj rfl rfl rfl Yf3 (fun h2 => hr1 _) ?_ | refine Yj rfl rfl rfl Yf3 (fun h2 => hrt _) ?_ | refine Yj rfl rfl rfl ent_59 (fun h2 => hpr _) ?_ | refine Yj rfl rfl rfl ent_58 (fun h2 => hs1 _) ?_ | refine Yj rfl rfl rfl ent_58 (fun h2 => hs2 _) ?_)
  | ((with_reducible refine Y7 ?_); first | (refine ao1 rfl rfl fun K HK => ?_; simp only [go_sem, F]; (first | (refine ⟨by omega, ?_⟩; refine Yn (by assumption) ?_) | skip) <;> (refine HK _ _ ?_; clear HK K)))
  | refine g0 ?_
  | (with_reducible refine Y7 ?_; refine gc rfl rfl rfl ent_57 (hto _) ?_)
 all_goals first | (exfalso; omega) | exact ⟨.inr rfl, endD (r := .v (.int .i64 R)) hl0 rfl (by simp) (by simp) rfl (by rw [low]; trivial) ⟨rfl, rfl⟩⟩
end
section
attribute [local irreducible] on aOp
attribute [local go_sem] decide_true decide_false Ze Zd
attribute [local simp] byD_len
def rankE (l : Lat) (v : Val) : Int := if errF l [v] ≠ 0 then errF l [v] else if rkdR l = false then 9 else if 1000000000000000 < rkI l v then 5 else 0
def rankN (l : Lat) (v : Val) : Int := if rankE l v = 0 then rkI l v else 0
variable (G : Nat → D) (hG : ∀ g, low 0 (G g))
include hG
attribute [local go_sem] Bool.false_eq_true Z2 Int.reduceLE Int.reduceLT Nat.reduceAdd Nat.reduceBEq Za Zb Nat.reduceMul
attribute [local go_sem ↓] reduceIte
theorem irank_d (l : Lat) (hsm : Sm l) (v : Val) (hv : VSm v) (h : List Ob) : Does Z6 G 27 h [.agg (latX l), .agg (vaX v)] (fun h' r => h' = h ∧ r = .tup [.v (.int .i64 (rankN l v)), .v (.int .i64 (rankE l v))]) := by
 refine Ya G hG (by simp only [lowL, low]; exact ⟨Yy _ l, Ys _ v, trivial⟩) (by simp only [low, lowL]; trivial) ?_ h
 clear h
 have hck : ∀ (h : List Ob) (i : Nat), h[i]? = some (.buf 30 4 [vaX v]) → Does Z6 G 40 h [.agg (latX l), .buf i 1] (fun h' r => h' = h ∧ r = .v (.int .i64 (errF l [v]))) := fun h i hi => Does.borrow2 hG hi rfl (by rw [low]; exact Yy _ l) (Ju [v]) (icheck_d G hG l hsm [v] (fun x hx => by rw [List.mem_singleton.1 hx]; exact hv) (by simp) [])
 simp only [Y4 l, Y6 v] at hck
 unfold rankN rankE
 refine Y5 Tryz.func27 rfl (Z4 rfl) hG fun hl0 _ => ?_
 simp only [Tryz.ntmps27]
 generalize he : errF l [v] = E at *
 by_cases h0 : E = 0
 rotate_left
 · rw [if_pos h0, if_neg h0]
   repeat' first
    | (with_reducible first | refine sA rfl ?_ | refine sI rfl rfl ?_ | refine sT rfl ?_)
    | (with_reducible refine Y7 ?_; first | refine Xi ?_ | (refine ao1 rfl rfl fun K HK => ?_; simp only [go_sem, Y4 l, Y6 v, h0, not_false_eq_true, ne_eq] <;> (refine HK _ _ ?_; clear HK K)) | (refine ao2 rfl rfl rfl ent_40 (hck _ _ rfl) ?_; rintro _ _ ⟨rfl, rfl⟩))
   all_goals first | (exfalso; omega) | exact ⟨.inr rfl, endD (r := .tup [.v (.int .i64 0), .v (.int .i64 E)]) hl0 rfl (by simp) (by simp) rfl (by simp only [low, lowL]; trivial) ⟨rfl, rfl⟩⟩
 subst h0
 simp only [ne_eq, not_true_eq_false, if_false]
 obtain ⟨hc, hev⟩ := errF_ok.1 he
 have hel := hev v (by simp)
 have hwf := Zf4 hc
 have hdi := dist_d G hG _ l (Z0 _) hwf
 have hrk := ranked_d G hG _ l (Z0 _) hwf
 have heq := rkdR_eq l
 simp only [Y4 l] at hdi hrk
 cases hd : U4 l
 · rw [hd] at heq hdi
   simp only [heq, Bool.false_and, if_true, Z2, if_false]
   have F : _ ∧ _ := ⟨Y4 l, Y6 v⟩
   repeat' first
    | refine g0 ?_
    | (with_reducible refine Y7 ?_; first | refine gc rfl rfl rfl ent_40 (hck _ _ rfl) ?_ | refine gc rfl rfl rfl ent_41 (hdi _) ?_)
   all_goals first | (exfalso; omega) | exact ⟨.inr rfl, endD (r := .tup [.v (.int .i64 0), .v (.int .i64 9)]) hl0 rfl (by simp) (by simp) rfl (by simp only [low, lowL]; trivial) ⟨rfl, rfl⟩⟩
 rw [hd, Bool.true_and] at heq
 rw [hd] at hdi
 cases hr : rkdB l
 · rw [hr] at heq hrk
   simp only [heq, if_true, Z2, if_false]
   have F : _ ∧ _ := ⟨Y4 l, Y6 v⟩
   repeat' first
    | refine g0 ?_
    | (with_reducible refine Y7 ?_; first | refine gc rfl rfl rfl ent_40 (hck _ _ rfl) ?_ | refine gc rfl rfl rfl ent_41 (hdi _) ?_ | refine gc rfl rfl rfl ent_60 (hrk _) ?_)
   all_goals first | (exfalso; omega) | exact ⟨.inr rfl, endD (r := .tup [.v (.int .i64 0), .v (.int .i64 9)]) hl0 rfl (by simp) (by simp) rfl (by simp only [low, lowL]; trivial) ⟨rfl, rfl⟩⟩
 rw [hr] at heq hrk
 simp only [heq, Bool.true_eq_false, if_false]
 have hra := rank_d G hG _ l v (Z0 _) hsm hc heq hv hel
 have hnn := Zs7 _ l v (Z0 _) hwf heq hel
 simp only [Y4 l, Y6 v] at hra
 generalize rkI l v = R at *
 by_cases hbig : 1000000000000000 < R
 · simp only [if_pos hbig, Z2, if_false]
   have e : min R ov = ov := by unfold ov; omega
   rw [e] at hra
   simp only [ov] at hra
   have F : _ ∧ _ := ⟨Y4 l, Y6 v⟩
   repeat' first
    | refine g0 ?_
    | (with_reducible refine Y7 ?_; first | refine gc rfl rfl rfl ent_40 (hck _ _ rfl) ?_ | refine gc rfl rfl rfl ent_41 (hdi _) ?_ | refine gc rfl rfl rfl ent_60 (hrk _) ?_ | refine gc rfl rfl rfl Zc9 (hra _) ?_)
   all_goals first | (exfalso; omega) | exact ⟨.inr rfl, endD (r := .tup [.v (.int .i64 0), .v (.int .i64 5)]) hl0 rfl (by simp) (by simp) rfl (by simp only [low, lowL]; trivial) ⟨rfl, rfl⟩⟩
 · simp only [if_neg hbig, if_true]
   have e : min R ov = R := by unfold ov; omega
   rw [e] at hra
   have F : _ ∧ _ ∧ _ := ⟨Y4 l, Y6 v, hbig⟩
   repeat' first
    | refine g0 ?_
    | (with_reducible refine Y7 ?_; first | refine gc rfl rfl rfl ent_40 (hck _ _ rfl) ?_ | refine gc rfl rfl rfl ent_41 (hdi _) ?_ | refine gc rfl rfl rfl ent_60 (hrk _) ?_ | refine gc rfl rfl rfl Zc9 (hra _) ?_)
   all_goals first | (exfalso; omega) | exact ⟨.inr rfl, endD (r := .tup [.v (.int .i64 R), .v (.int .i64 0)]) hl0 rfl (by simp) (by simp) rfl (by simp only [low, lowL]; trivial) ⟨rfl, rfl⟩⟩
end
section
attribute [local irreducible] on aOp
attribute [local go_sem] decide_true decide_false Ze Zd
attribute [local simp] byD_len
variable (G : Nat → D) (hG : ∀ g, low 0 (G g))
include hG
attribute [local go_sem] Bool.false_eq_true Z2 Int.reduceLE Int.reduceLT Nat.reduceAdd Nat.reduceBEq Za Zb Nat.reduceMul
attribute [local go_sem ↓] reduceIte
theorem lawRank (aw : ∀ h : List Ob, Does Z6 G 15 h [] (fun h' r => h' = h ∧ r = .v (.bool true))) (l : Lat) (hsm : Sm l) (v : Val) (hv : VSm v) (h : List Ob) : Does Z6 G 5 h [.agg (latX l), .agg (vaX v)] (fun h' r => h' = h ∧ r = .v (.bool true)) := by
 refine Ya G hG (by simp only [lowL, low]; exact ⟨Yy _ l, Ys _ v, trivial⟩) (by rw [low]; trivial) ?_ h
 clear h
 have h1 : ∀ x ∈ [v], VSm x := fun x hx => by rw [List.mem_singleton.1 hx]; exact hv
 have hsl : ∀ (h : List Ob) (i : Nat), h[i]? = some (.buf 30 4 [vaX v]) → Does Z6 G 16 h [.buf i 1] (fun h' r => h' = h ∧ r = .v (.bool (Zr2 [v]))) := fun h i hi => Does.borrow hG hi rfl (by rw [lowL]; trivial) (Ju [v]) (small12_d G hG [v] h1 (by simp) [])
 have hfa : ∀ (h : List Ob) (i : Nat), h[i]? = some (.buf 30 4 [vaX v]) → Does Z6 G 17 h [.agg (latX l), .buf i 1] (fun h' r => h' = h ∧ r = .v (.int .i64 (errF l [v]))) := fun h i hi => Does.borrow2 hG hi rfl (by rw [low]; exact Yy _ l) (Ju [v]) (fault_d G hG l hsm [v] h1 (by simp) [])
 have hir := irank_d G hG l hsm v hv
 simp only [Y4 l, Y6 v] at hsl hfa hir
 refine Y5 Tryz.func5 rfl (Z4 rfl) hG fun hl0 _ => ?_
 simp only [Tryz.ntmps5]
 cases hs : Zr2 [v]
 · rw [hs] at hsl
   have F : _ ∧ _ := ⟨Y4 l, Y6 v⟩
   repeat' first
    | refine g0 ?_
    | (with_reducible refine Y7 ?_; first | refine gc rfl rfl rfl ent_15 (aw _) ?_ | refine gc rfl rfl rfl ent_16 (hsl _ _ rfl) ?_)
   all_goals first | (exfalso; omega) | exact ⟨.inr rfl, endD (r := .v (.bool true)) hl0 rfl (by simp) (by simp) rfl (by rw [low]; trivial) ⟨rfl, rfl⟩⟩
 rw [hs] at hsl
 have hnd : (U1 v : Int) ≤ 40 := by simpa [Zr2] using hs
 have hno := nsm_nodes _ v (Z0 _) (by unfold ov; omega)
 unfold rankN rankE at hir
 by_cases h0 : errF l [v] = 0
 rotate_left
 · have h14 : errF l [v] = 1 ∨ errF l [v] = 4 := by
    unfold errF at h0 ⊢
    by_cases hc : chkE l ≠ 0
    · rw [if_pos hc]; exact .inl rfl
    · rw [if_neg hc] at h0 ⊢
      by_cases ha : [v].all (Y8 l) = true
      · rw [if_pos ha] at h0; exact absurd rfl h0
      · rw [if_neg ha]; exact .inr rfl
   rw [if_pos h0, if_neg h0] at hir
   rcases h14 with e | e
   all_goals
    rw [e] at hir hfa
    have F : _ ∧ _ := ⟨Y4 l, Y6 v⟩
    repeat' first
     | refine g0 ?_
     | (with_reducible refine Y7 ?_; first | refine gc rfl rfl rfl ent_15 (aw _) ?_ | refine gc rfl rfl rfl ent_16 (hsl _ _ rfl) ?_ | refine gc rfl rfl rfl ent_17 (hfa _ _ rfl) ?_ | refine gc rfl rfl rfl ent_27 (hir _) ?_)
    all_goals first | (exfalso; omega) | exact ⟨.inr rfl, endD (r := .v (.bool true)) hl0 rfl (by simp) (by simp) rfl (by rw [low]; trivial) ⟨rfl, rfl⟩⟩
 simp only [h0, ne_eq, not_true_eq_false, if_false] at hir
 rw [h0] at hfa
 obtain ⟨hc, hev⟩ := errF_ok.1 h0
 have hel := hev v (by simp)
 have hwf := Zf4 hc
 have hrr := rranked_d G hG _ l (Z0 _) hwf
 simp only [Y4 l] at hrr
 cases hr : rkdR l
 · rw [hr] at hrr
   simp only [hr, if_true, Z2, if_false] at hir
   have F : _ ∧ _ := ⟨Y4 l, Y6 v⟩
   repeat' first
    | refine g0 ?_
    | (with_reducible refine Y7 ?_; first | refine gc rfl rfl rfl ent_15 (aw _) ?_ | refine gc rfl rfl rfl ent_16 (hsl _ _ rfl) ?_ | refine gc rfl rfl rfl ent_17 (hfa _ _ rfl) ?_ | refine gc rfl rfl rfl Zz3 (hrr _) ?_ | refine gc rfl rfl rfl ent_27 (hir _) ?_)
   all_goals first | (exfalso; omega) | exact ⟨.inr rfl, endD (r := .v (.bool true)) hl0 rfl (by simp) (by simp) rfl (by rw [low]; trivial) ⟨rfl, rfl⟩⟩
 rw [hr] at hrr
 simp only [hr, Bool.true_eq_false, if_false] at hir
 have hra := refRank_d G hG _ l v (Z0 _) hsm hc hr hv hno hel
 have hnn := Zs7 _ l v (Z0 _) hwf hr hel
 simp only [Y4 l, Y6 v] at hra
 generalize rkI l v = R at *
 by_cases hbig : 1000000000000000 < R
 · simp only [if_pos hbig, Z2, if_false] at hir
   have e : min R ov = ov := by unfold ov; omega
   rw [e] at hra
   simp only [ov] at hra
   have F : _ ∧ _ := ⟨Y4 l, Y6 v⟩
   repeat' first
    | refine g0 ?_
    | (with_reducible refine Y7 ?_; first | refine gc rfl rfl rfl ent_15 (aw _) ?_ | refine gc rfl rfl rfl ent_16 (hsl _ _ rfl) ?_ | refine gc rfl rfl rfl ent_17 (hfa _ _ rfl) ?_ | refine gc rfl rfl rfl Zz3 (hrr _) ?_ | refine gc rfl rfl rfl ent_27 (hir _) ?_ | refine gc rfl rfl rfl Yf3 (hra _) ?_)
   all_goals first | (exfalso; omega) | exact ⟨.inr rfl, endD (r := .v (.bool true)) hl0 rfl (by simp) (by simp) rfl (by rw [low]; trivial) ⟨rfl, rfl⟩⟩
 · simp only [if_neg hbig, if_true] at hir
   have e : min R ov = R := by unfold ov; omega
   rw [e] at hra
   have hbig' : ¬ R > 1000000000000000 := hbig
   have F : _ ∧ _ ∧ _ ∧ _ := ⟨Y4 l, Y6 v, hbig', hbig⟩
   repeat' first
    | refine g0 ?_
    | (with_reducible refine Y7 ?_; first | refine gc rfl rfl rfl ent_15 (aw _) ?_ | refine gc rfl rfl rfl ent_16 (hsl _ _ rfl) ?_ | refine gc rfl rfl rfl ent_17 (hfa _ _ rfl) ?_ | refine gc rfl rfl rfl Zz3 (hrr _) ?_ | refine gc rfl rfl rfl ent_27 (hir _) ?_ | refine gc rfl rfl rfl Yf3 (hra _) ?_)
   all_goals first | (exfalso; omega) | exact ⟨.inr rfl, endD (r := .v (.bool true)) hl0 rfl (by simp) (by simp) rfl (by rw [low]; trivial) ⟨rfl, rfl⟩⟩ | exact ⟨.inr rfl, endD (r := .v (.bool (R == R))) hl0 rfl (by simp) (by simp) rfl (by rw [low]; trivial) ⟨rfl, by simp⟩⟩
end
end Go.Proofs.YtbhkcbidcfofiaaGreat
