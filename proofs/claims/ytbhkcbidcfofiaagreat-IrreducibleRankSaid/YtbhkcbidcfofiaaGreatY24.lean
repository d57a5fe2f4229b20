/-
  What the statements of the chapter share, part 24: QA7.
-/
import Derived.Test.YtbhkcbidcfofiaaGreatY15
import Derived.Test.YtbhkcbidcfofiaaGreatY22
import Derived.Test.YtbhkcbidcfofiaaGreatY23
set_option linter.unusedVariables false
set_option linter.unusedSimpArgs false
set_option maxRecDepth 100000
set_option maxHeartbeats 8000000
namespace Go.Proofs.YtbhkcbidcfofiaaGreat
open _root_.Int renaming reduceEq → Z2, tdiv_eq_ediv_of_nonneg → Zc
open _root_.List renaming getElem?_eq_getElem → Z0, take_of_length_le → Z1, take_succ_cons → Z4, reverse_cons → Z6, getElem_mem → Z7, reverse_nil → Z8, cons_append → Z9, nil_append → Zb
open _root_.Nat renaming le_of_ble_eq_true → Z3, le_refl → Za
open _root_.Go.Proofs.Tryz renaming prog → Z5
open Go.RowKit
section
attribute [local irreducible] on aOp
attribute [local go_sem] decide_true decide_false Bool.not_true Bool.not_false
attribute [local simp] byD_len
theorem Zo8 {P : Program} {G : Nat → D} {n : Nat} {e : Nat → D} {h : List Ob} {ops : Array Oper} {rest : List Oper} {Q : S → Prop} {t : Nat} {ty : TypeId} {pos : String} {aft : Array Edge} {gd : Option (Nat × Bool)} {f : FuncId} {caps : Array Operand} (hw : Yc ops gd e = some true) (ht : decide (t < n) = true)
 (q : ao P G ops rest Q ⟨n, upd e t (.fn f (caps.toList.map (ev G e))), h⟩) : ao P G ops (⟨some t, .makeFunc (.func f) #[] caps, ty, pos, aft, gd⟩ :: rest) Q ⟨n, e, h⟩ := by
 refine ao_tri hw tri_mkf ?_
 unfold putE
 simp only [if_pos (of_decide_eq_true ht)]
 exact q
theorem min_ov (x : Int) : (if 1000000000000001 < x then (1000000000000001 : Int) else x) = min x ov := by unfold ov; omega
theorem vsm_top (f : Nat) : ∀ l : Lat, SizeOf.sizeOf l ≤ f → Sm l → VSm (topV l).1 := by
 induction f with
 | zero => intro l hn; cases l; simp at hn
 | succ f ih =>
  intro l hn hs
  have hp := fun p hp => ih p (by have := Yb (l := l) hp; omega) (hs.part p hp)
  have flat : ∀ n : Int, VSm (.mk n [] [] []) := fun n => .mk _ (by simp [Val.names]) (by simp [Val.parts]) (by simp [Val.entries]) (by simp [Val.names]) (by simp [Val.entries]) (by simp [Val.parts])
  have hsn := hs.names
  have hst := hs.texts
  have hsp := hs.parts
  obtain ⟨k, lo, hi, ns, ps, rs⟩ := l
  simp only [Lat.names, Lat.parts] at hp hsn hst hsp
  rw [topV]
  split
  · exact flat _
  split
  · exact flat _
  split
  · exact flat _
  split
  · exact flat _
  split
  · exact .mk _ hsn (by simp [Val.parts]) (by simp [Val.entries]) hst (by simp [Val.entries]) (by simp [Val.parts])
  split
  · exact flat _
  split
  · match ps with
    | [] => rw [Ve]; exact flat _
    | p :: t =>
     rw [Ve]
     split
     · exact flat _
     · split
       · exact flat _
       · exact .mk _ hsn (by simpa [Val.parts] using hsn) (by simp [Val.entries]) hst (by simp [Val.entries]) (fun q hq => by rw [List.eq_of_mem_replicate hq]; exact hp p (by simp))
  split
  · rw [Za6]
    refine .mk _ (by simp [Val.names]) (by simpa [Val.parts] using hsp) (by simp [Val.entries]) (by simp [Val.names]) (by simp [Val.entries]) (fun q hq => ?_)
    obtain ⟨p, hp', rfl⟩ := List.mem_map.1 (show q ∈ ps.map fun p => (topV p).1 from hq)
    exact hp p hp'
  · exact flat _
variable (G : Nat → D) (hG : ∀ g, low 0 (G g))
attribute [local go_sem] Z2 Int.reduceLE Int.reduceLT Int.toNat_natCast Int.zero_add List.length_map Nat.reduceAdd Nat.reduceBEq Nat.reduceEqDiff Nat.reduceLeDiff Nat.reduceMul
attribute [local go_sem ↓] reduceIte
theorem add_d {h : List Ob} {i : Nat} {n m : Int} (hn : 0 ≤ n ∧ n ≤ ov) (hm : 0 ≤ m ∧ m ≤ 9000000000000000000) (hi : h[i]? = some (.cells [.v (.int .i64 n)])) : Does Z5 G 117 h [.v (.int .i64 m), .ptr i 0] (fun h' r => h' = h.set i (.cells [.v (.int .i64 (min (n + m) ov))]) ∧ r = .tup []) := by
 have wa : IntKind.i64.wrap (n + m) = n + m := IntWalk.i64_in _ (by unfold ov at *; omega)
 rw [← min_ov]
 refine Vl Tryz.func117 rfl (Z3 rfl) ?_
 simp only [Tryz.ntmps117]
 have F : _ ∧ _ := ⟨hi, wa⟩
 repeat' first
  | (with_reducible refine Y7 ?_; (refine ao_min rfl rfl rfl rfl ?_))
  | refine g0 ?_
  | fail
 all_goals exact ⟨by simp, [], rfl, rfl, rfl⟩
theorem add_d2 {h : List Ob} {i : Nat} {m : Int} (hm : 0 ≤ m ∧ m ≤ 9223372036854775807) (hi : h[i]? = some (.cells [.v (.int .i64 0)])) : Does Z5 G 117 h [.v (.int .i64 m), .ptr i 0] (fun h' r => h' = h.set i (.cells [.v (.int .i64 (min m ov))]) ∧ r = .tup []) := by
 have wa : IntKind.i64.wrap m = m := IntWalk.i64_in _ (by omega)
 rw [← min_ov]
 refine Vl Tryz.func117 rfl (Z3 rfl) ?_
 simp only [Tryz.ntmps117]
 have F : _ ∧ _ := ⟨hi, wa⟩
 repeat' first
  | (with_reducible refine Y7 ?_; (refine ao_min rfl rfl rfl rfl ?_))
  | refine g0 ?_
  | fail
 all_goals exact ⟨by simp, [], rfl, rfl, rfl⟩
def n3 (A B C : Ob) (T : List Ob) : List Ob := A :: B :: C :: T
section
variable {A B C y y' : Ob} {T l : List Ob}
theorem n3_0 : (n3 A B C T)[0]? = some A := rfl
theorem n3_1 : (n3 A B C T)[1]? = some B := rfl
theorem n3_2 : (n3 A B C T)[2]? = some C := rfl
theorem n3_s2 : (n3 A B C T).set 2 y = n3 A B y T := rfl
theorem n3_len : (n3 A B C T).length = T.length + 3 := rfl
theorem n3_app : n3 A B C T ++ l = n3 A B C (T ++ l) := rfl
theorem n3_l : (n3 A B C (T ++ [y]))[T.length + 3]? = some y := by simp [n3]
theorem n3_sl : (n3 A B C (T ++ [y])).set (T.length + 3) y' = n3 A B C (T ++ [y']) := by simp [n3]
end
theorem quo_in {x : Int} (h : 0 < x) : -9223372036854775808 ≤ 1000000000000000 / x ∧ 1000000000000000 / x ≤ 9223372036854775807 := by
 have h1 : 0 ≤ 1000000000000000 / x := Int.ediv_nonneg (by decide) (by omega)
 have h2 : 1000000000000000 / x ≤ 1000000000000000 := Int.ediv_le_self _ (by decide)
 omega
theorem topN {l : Lat} (h : rkdR l = true) (h7 : l.kind = 7) : Uv l.parts = true := by
 rw [Zm0, Bool.and_eq_true, Bool.not_eq_true', Bool.or_eq_false_iff, decide_eq_true h7, Bool.true_and, Bool.not_eq_false'] at h
 exact h.1.2
theorem Zw3 (l : Lat) (v : Val) : rkI l v = if l.kind = 1 then v.n else if l.kind = 2 then v.n - l.lo else if l.kind = 3 then l.hi - v.n else if l.kind = 4 then v.names.length
   else if l.kind = 5 then rkMap l.parts v.parts else if l.kind = 6 then Xv l.parts v.parts else if l.kind = 7 then Zw2 l.parts v.parts else 0 := by
 obtain ⟨k, lo, hi, ns, ps, rs⟩ := l
 rw [rkI]; rfl
theorem take_sum {l : List Val} {k : Nat} {x : Val} (f : Val → Int) (hx : l[k]? = some x) : ((l.take (k + 1)).map f).sum = ((l.take k).map f).sum + f x := by
 rw [List.take_add_one, hx, List.map_append, List.sum_append]; simp
theorem Jp : ∀ {ps : List Lat} {vs : List Val} {k : Nat} {p : Lat} {x : Val}, ps[k]? = some p → vs[k]? = some x → Xv (ps.take (k + 1)) (vs.take (k + 1)) = Xv (ps.take k) (vs.take k) + rkI p x
 | q :: ps, w :: vs, 0, p, x, hp, hx => by
  cases hp; cases hx
  simp [Xv]
 | q :: ps, w :: vs, k + 1, p, x, hp, hx => by
  have := Jp (ps := ps) (vs := vs) (k := k) (p := p) (x := x) hp hx
  rw [Z4, Z4, Z4, Z4, Xv, Xv, this]
  omega
 | [], _, _, _, _, hp, _ => by simp at hp
 | _ :: _, [], _, _, _, _, hx => by simp at hx
include hG
theorem valueTop_d (l : Lat) (hsm : Sm l) (hc : chkE l = 0) (hr : rkdR l = true) (hf : finB l = true) (h : List Ob) : Does Z5 G 118 h [.agg (latX l)] (fun h' r => h' = h ∧ r = .tup [.agg (vaX (topV l).1), .v (.int .i64 0)]) := by
 refine Ya G hG (by rw [lowL, lowL, low]; exact ⟨Yy _ l, trivial⟩) (by simp only [low, lowL]; exact ⟨Ys _ _, trivial, trivial⟩) ?_ h
 clear h
 have hck := check_d G hG l hsm
 have hto := top_d G hG _ l (Za _) (Zf4 hc) hr hf
 rw [hc] at hck
 simp only [Y4 l] at hck hto
 generalize (topV l).1 = v at *
 simp only [Y6 v] at hto ⊢
 refine Y5 Tryz.func118 rfl (Z3 rfl) hG fun hl0 _ => ?_
 simp only [Tryz.ntmps118]
 have F := Y4 l
 repeat' first
  | refine g0 ?_
  | (with_reducible refine Y7 ?_; first | refine gc rfl rfl rfl ent_79 (hck _) ?_ | refine gc rfl rfl rfl Yl2 (hto _) ?_)
 all_goals exact ⟨.inr rfl, endD (ds := [.agg [.v (.int .i64 v.n), .sl 1 (v.names.map strX), .sl 4 (v.parts.map vaX), .sl 2 (v.entries.map enX)], .v (.int .i64 0)]) (r := .tup [.agg [.v (.int .i64 v.n), .sl 1 (v.names.map strX), .sl 4 (v.parts.map vaX), .sl 2 (v.entries.map enX)], .v (.int .i64 0)]) hl0 (by simp only [resD, Tryz.results118, go_sem, ↓reduceIte, Nat.reduceEqDiff, Nat.reduceAdd, Nat.reduceLeDiff]; try rfl) (by simp) (by simp) (by simp [outD, cvD, cv1]) (by have := Ys 0 v; rw [Y6 v] at this; simp only [low, lowL] at this ⊢; exact ⟨this, trivial, trivial⟩) ⟨rfl, rfl⟩⟩
attribute [local go_sem] n3_0 n3_1 n3_2 n3_app n3_l n3_len n3_s2 n3_sl
theorem rank_d (f : Nat) : ∀ (l : Lat) (v : Val), SizeOf.sizeOf l ≤ f → Sm l → chkE l = 0 → rkdR l = true → VSm v → Y8 l v = true → ∀ h : List Ob, Does Z5 G 61 h [.agg (latX l), .agg (vaX v)] (fun h' r => h' = h ∧ r = .v (.int .i64 (min (rkI l v) ov))) := by
 induction f with
 | zero => intro l v hn; cases l; simp at hn
 | succ f ih =>
 intro l v hn hsm hc hr hv he h
 refine Ya G hG (by simp only [lowL, low]; exact ⟨Yy _ l, Ys _ v, trivial⟩) (by rw [low]; trivial) ?_ h
 clear h
 have hwf := Zf4 hc
 obtain ⟨hk0, hk5, hk7, hk6, _, _, _, hnl, _⟩ := hwf.kinds
 have hkk := Zt2 hr
 have hrg : l.lo ≤ l.hi ∧ -1000000000 ≤ l.lo ∧ l.hi ≤ 1000000000 := by
  have := of_decide_eq_false hwf.ranges
  omega
 have hpp : ∀ p ∈ l.parts, ∀ x, VSm x → Y8 p x = true → ∀ h, Does Z5 G 61 h [.agg (latX p), .agg (vaX x)] (fun h' r => h' = h ∧ r = .v (.int .i64 (min (rkI p x) ov))) := fun p hp x hx hex => ih p x (by have := Yb hp; omega) (hsm.part p hp) (Zu1 hc hp) (X0 hr p hp) hx hex
 have hnn : ∀ p ∈ l.parts, ∀ x, Y8 p x = true → 0 ≤ rkI p x := fun p hp x hx => Zs7 _ p x (Za _) (hwf.part hp) (X0 hr p hp) hx
 have h0 := Zs7 _ l v (Za _) hwf hr he
 refine Y5 Tryz.func61 rfl (Z3 rfl) hG fun hl0 _ => ?_
 simp only [Tryz.ntmps61]
 by_cases h123 : l.kind = 1 ∨ l.kind = 2 ∨ l.kind = 3
 · have hvn : -1000000000 ≤ v.n ∧ v.n ≤ 1000000000 := by
    have := ((Zz8 (k := l.kind) (lo := l.lo) (hi := l.hi) (ns := l.names) (ps := l.parts) (rs := l.rules) h123).1 (by cases l; exact he)).1
    split at this <;> omega
   rw [Zw3] at h0 ⊢
   rcases h123 with e | e | e
   · simp only [e, if_true, if_false, Z2, reduceIte] at h0 ⊢
     have hadd := fun h i => add_d G (h := h) (i := i) (n := 0) (m := v.n) (by unfold ov; omega) (by omega)
     have F : _ ∧ _ ∧ _ := ⟨Y4 l, Y6 v, e⟩
     repeat' first
      | (with_reducible refine Y7 ?_; (refine Zo8 rfl rfl ?_))
      | refine g0 ?_
      | (with_reducible refine Y7 ?_; refine gc rfl rfl rfl Jn (hadd _ _ rfl) ?_)
     all_goals first | (exfalso; omega) | exact ⟨.inr rfl, endV hl0 rfl rfl ⟨rfl, rfl⟩⟩
   · simp only [e, if_true, if_false, Z2, reduceIte] at h0 ⊢
     have ws : IntKind.i64.wrap (v.n - l.lo) = v.n - l.lo := IntWalk.i64_in _ (by omega)
     have hadd := fun h i => add_d G (h := h) (i := i) (n := 0) (m := v.n - l.lo) (by unfold ov; omega) (by omega)
     have F : _ ∧ _ ∧ _ ∧ _ := ⟨Y4 l, Y6 v, e, ws⟩
     repeat' first
      | (with_reducible refine Y7 ?_; (refine Zo8 rfl rfl ?_))
      | refine g0 ?_
      | (with_reducible refine Y7 ?_; refine gc rfl rfl rfl Jn (hadd _ _ rfl) ?_)
     all_goals first | (exfalso; omega) | exact ⟨.inr rfl, endV hl0 rfl rfl ⟨rfl, rfl⟩⟩
   · simp only [e, if_true, if_false, Z2, reduceIte] at h0 ⊢
     have ws : IntKind.i64.wrap (l.hi - v.n) = l.hi - v.n := IntWalk.i64_in _ (by omega)
     have hadd := fun h i => add_d G (h := h) (i := i) (n := 0) (m := l.hi - v.n) (by unfold ov; omega) (by omega)
     have F : _ ∧ _ ∧ _ ∧ _ := ⟨Y4 l, Y6 v, e, ws⟩
     repeat' first
      | (with_reducible refine Y7 ?_; (refine Zo8 rfl rfl ?_))
      | refine g0 ?_
      | (with_reducible refine Y7 ?_; refine gc rfl rfl rfl Jn (hadd _ _ rfl) ?_)
     all_goals first | (exfalso; omega) | exact ⟨.inr rfl, endV hl0 rfl rfl ⟨rfl, rfl⟩⟩
 have hvl := hv.names
 rw [Zw3] at h0 ⊢
 by_cases h4 : l.kind = 4
 · simp only [h4, if_true, if_false, Z2, reduceIte] at h0 ⊢
   have hadd := fun h i => add_d2 G (h := h) (i := i) (m := (v.names.length : Int)) (by omega)
   have F : _ ∧ _ ∧ _ := ⟨Y4 l, Y6 v, h4⟩
   repeat' first
    | (with_reducible refine Y7 ?_; (refine Zo8 rfl rfl ?_))
    | refine g0 ?_
    | (with_reducible refine Y7 ?_; refine gc rfl rfl rfl Jn (hadd _ _ rfl) ?_)
   all_goals first | (exfalso; omega) | exact ⟨.inr rfl, endV hl0 rfl rfl ⟨rfl, rfl⟩⟩
 have hvp := hv.parts
 by_cases h5 : l.kind = 5
 · simp only [h5, if_true, if_false, Z2, reduceIte] at h0 ⊢
   obtain ⟨p, hp⟩ := List.length_eq_one_iff.1 (hk5 h5)
   have hpm : p ∈ l.parts := by rw [hp]; simp
   have hx0 : l.parts[0]? = some p := by rw [hp]; rfl
   have hl1 : l.parts.length = 1 := by rw [hp]; rfl
   have hel : ∀ x ∈ v.parts, Y8 p x = true := by
    have : Y8 (.mk 5 l.lo l.hi l.names [p] l.rules) v = true := by rw [← hp, ← h5]; cases l; exact he
    exact fun x hx => ((Xp.1 this).2.2.2 x hx).1
   rw [hp, rkMap] at h0 ⊢
   have hpr := hpp p hpm
   have hn0 := hnn p hpm
   clear hp
   simp only [Y4 p] at hpr
   have hsum : ∀ k, 0 ≤ ((v.parts.take k).map (rkI p)).sum := fun k => sum_nn _ fun y hy => by
    obtain ⟨x, hx, rfl⟩ := List.mem_map.1 hy
    exact hn0 x (hel x (List.mem_of_mem_take hx))
   have F : _ ∧ _ ∧ _ := ⟨Y4 l, Y6 v, h5⟩
   repeat' first
    | (with_reducible refine Y7 ?_; (refine Zo8 rfl rfl ?_))
    | refine g0 ?_
    | fail
   all_goals first | (exfalso; omega) | skip
   refine Yh (fun m e h' => ∃ (k : Nat) (T : List Ob), k ≤ v.parts.length ∧ m = v.parts.length - k ∧ h' = n3 (.cells (latX l)) (.cells (vaX v)) (.cells [.v (.int .i64 (min ((v.parts.take k).map (rkI p)).sum ov))]) T ∧ e 2 = .ptr 0 0 ∧ e 3 = .ptr 1 0 ∧ e 5 = .ptr 2 0 ∧ e 6 = .fn 117 [.ptr 2 0] ∧ e 51 = .sl 4 (v.parts.map vaX) ∧ e 52 = .v (.int .i64 v.parts.length) ∧ e 53 = .v (.int .i64 k)) v.parts.length ⟨0, [], Nat.zero_le _, rfl, by rw [Y4 l, h5, Y6 v]; rfl, rfl, rfl, rfl, rfl, rfl, rfl, rfl⟩ ?_
   rintro m e h' ⟨k, T, hk, rfl, rfl, e2, e3, e5, e6, e51, e52, e53⟩
   by_cases hlt : k < v.parts.length
   rotate_left
   · obtain rfl : k = v.parts.length := by omega
     rw [List.take_length]
     have F : _ ∧ _ ∧ _ ∧ _ ∧ _ ∧ _ ∧ _ ∧ _ ∧ _ := ⟨Y4 l, Y6 v, e2, e3, e5, e6, e51, e52, e53⟩
     repeat' first
      | refine gg ?_
      | refine Two.mk (fun hq => ?_) fun hq => ?_
      | refine Evry.mk fun x hx => ?_
      | (exfalso; omega)
     all_goals first | (exfalso; omega) | exact ⟨.inr rfl, endV hl0 rfl rfl ⟨rfl, rfl⟩⟩
   have hx : v.parts[k]? = some v.parts[k] := Z0 hlt
   have hxm := Z7 hlt
   have wk : IntKind.i64.wrap ((k : Int) + 1) = (k : Int) + 1 := IntWalk.i64_in _ (by omega)
   have hts := take_sum (rkI p) hx
   have hr1 := hpr _ (hv.part _ hxm) (hel _ hxm)
   have hn1 := hn0 _ (hel _ hxm)
   generalize v.parts[k] = x at hx hts hr1 hn1
   have hs := hsum k
   have hts2 : min (min ((v.parts.take k).map (rkI p)).sum ov + min (rkI p x) ov) ov = min ((v.parts.take (k + 1)).map (rkI p)).sum ov := by rw [Zi4 hs hn1, hts]
   have hcall : ∀ (h2 : List Ob), h2[2]? = some (.cells [.v (.int .i64 (min ((v.parts.take k).map (rkI p)).sum ov))]) → Does Z5 G 117 h2 [.v (.int .i64 (min (rkI p x) ov)), .ptr 2 0] (fun h' r => h' = h2.set 2 (.cells [.v (.int .i64 (min ((v.parts.take (k + 1)).map (rkI p)).sum ov))]) ∧ r = .tup []) := fun h2 q => by
    have := add_d G (h := h2) (i := 2) (n := min ((v.parts.take k).map (rkI p)).sum ov) (m := min (rkI p x) ov) (by unfold ov; omega) (by unfold ov; omega) q
    rw [hts2] at this; exact this
   simp only [Y6 x] at hr1
   generalize min ((v.parts.take k).map (rkI p)).sum ov = n0 at *
   generalize g1 : min ((v.parts.take (k + 1)).map (rkI p)).sum ov = n1 at *
   generalize min (rkI p x) ov = n2 at *
   have F : _ ∧ _ ∧ _ ∧ _ ∧ _ ∧ _ ∧ _ ∧ _ ∧ _ ∧ _ ∧ _ ∧ _ ∧ _ := ⟨Y4 l, Y4 p, Y6 v, Y6 x, e2, e3, e5, e6, e51, e52, e53, hl1, wk⟩
   repeat' first
    | (with_reducible refine Yf ?_; refine Xu mixd (by kernel_rfl) ?_)
    | ((with_reducible refine Ze7 ?_); first | (refine Xl rfl rfl rfl (by (first | (simp only [go_sem, F]; rfl) | (simp only [go_sem, F]; done))) (by rw [getD_agg' aggT_30, szT_30]; rfl) ?_) | (refine aS1 rfl rfl fun K HK => ?_; simp only [go_sem, F]; (first | refine X1 (fun hq => ?_) (fun hq => ?_) | (refine ⟨by omega, by omega, ?_⟩; refine Yn (by assumption) ?_) | (refine ⟨by omega, ?_⟩; refine Yn (by assumption) ?_) | skip) <;> (refine HK _ _ rfl ?_; clear HK K)) | refine Xl rfl rfl rfl (by (first | (simp only [go_sem, F]; rfl) | (simp only [go_sem, F]; done))) (by rw [getD_one (by simp only [go_sem, F])]; rfl) ?_ | refine U7 (by simp only [Z6, Z8, Zb, Z9, Ww, chk1]; repeat' (first | exact trivial | refine And.intro ?_ ?_ | exact .inr X7 | exact .inr Xe | exact .inr Xd | exact .inr (W6 (by omega)))) ?_ | refine Yj rfl rfl rfl Zc9 (fun h2 => hr1 _) ?_ | refine Uj rfl rfl rfl Jn (by (first | (simp only [go_sem, F]; rfl) | (simp only [go_sem, F]; done))) (fun h2 k2 => hcall h2 k2) ?_)
    | refine gg ?_
    | refine Two.mk (fun hq => ?_) fun hq => ?_
    | (exfalso; omega)
   all_goals exact ⟨rfl, v.parts.length - (k + 1), by omega, k + 1, _, hlt, rfl, (by rw [Y4 l, Y6 v, g1]), e2, e3, e5, e6, e51, e52, rfl⟩
 by_cases h6 : l.kind = 6
 · simp only [h6, if_true, if_false, Z2, reduceIte] at h0 ⊢
   have hpe := (el67 (k := 6) (lo := l.lo) (hi := l.hi) (ns := l.names) (ps := l.parts) (rs := l.rules) (v := v) (.inl rfl)).1 (by rw [← h6]; cases l; exact he)
   have hlen : v.parts.length = l.parts.length := hpe.1.1
   have hel : ∀ (i : Nat) (h : i < l.parts.length) (h' : i < v.parts.length), Y8 l.parts[i] v.parts[i] = true := (Zh1 l.parts v.parts hlen).1 hpe.1.2
   have hl8 := (hk6 h6).1
   have hs0 : ∀ k, 0 ≤ Xv (l.parts.take k) (v.parts.take k) := fun k => by
    induction k with
    | zero => simp [Xv]
    | succ k ihk =>
     by_cases hlt : k < l.parts.length
     · rw [Jp (Z0 hlt) (Z0 (show k < v.parts.length by omega))]
       have := hnn _ (Z7 hlt) _ (hel k hlt (by omega))
       omega
     · rw [Z1 (by omega), Z1 (by omega)]
       rw [Z1 (by omega), Z1 (by omega)] at ihk
       exact ihk
   have hpl := Vi hwf
   have hz0 : min (Xv (l.parts.take 0) (v.parts.take 0)) ov = 0 := by rw [List.take_zero, List.take_zero, Xv]; unfold ov; omega
   have F : _ ∧ _ ∧ _ := ⟨Y4 l, Y6 v, h6⟩
   repeat' first
    | (with_reducible refine Y7 ?_; (refine Zo8 rfl rfl ?_))
    | refine g0 ?_
    | fail
   all_goals first | (exfalso; omega) | skip
   refine Yh (fun m e h' => ∃ (k : Nat), k ≤ l.parts.length ∧ m = l.parts.length - k ∧ h' = n3 (.cells (latX l)) (.cells (vaX v)) (.cells [.v (.int .i64 (min (Xv (l.parts.take k) (v.parts.take k)) ov))]) [] ∧ e 2 = .ptr 0 0 ∧ e 3 = .ptr 1 0 ∧ e 5 = .ptr 2 0 ∧ e 6 = .fn 117 [.ptr 2 0] ∧ e 70 = .v (.int .i64 l.parts.length) ∧ e 71 = .v (.int .i64 k)) l.parts.length ⟨0, Nat.zero_le _, rfl, by rw [Y4 l, h6, Y6 v, hz0]; rfl, rfl, rfl, rfl, rfl, rfl, rfl⟩ ?_
   rintro m e h' ⟨k, hk, rfl, rfl, e2, e3, e5, e6, e70, e71⟩
   by_cases hlt : k < l.parts.length
   rotate_left
   · obtain rfl : k = l.parts.length := by omega
     rw [List.take_length, Z1 (show v.parts.length ≤ l.parts.length by omega)]
     have F : _ ∧ _ ∧ _ ∧ _ ∧ _ ∧ _ ∧ _ ∧ _ := ⟨Y4 l, Y6 v, e2, e3, e5, e6, e70, e71⟩
     repeat' first
      | (with_reducible refine Yf ?_; refine Y9 mixd (by kernel_rfl) ?_)
      | refine gg ?_
      | refine Two.mk (fun hq => ?_) fun hq => ?_
      | refine Evry.mk fun x hx => ?_
      | (exfalso; omega)
     all_goals first | (exfalso; omega) | exact ⟨.inr rfl, endV hl0 rfl rfl ⟨rfl, rfl⟩⟩
   have hlv : k < v.parts.length := by omega
   have hx : v.parts[k]? = some v.parts[k] := Z0 hlv
   have hp : l.parts[k]? = some l.parts[k] := Z0 hlt
   have hxm := Z7 hlv
   have hpm := Z7 hlt
   have wk : IntKind.i64.wrap ((k : Int) + 1) = (k : Int) + 1 := IntWalk.i64_in _ (by omega)
   have hts := Jp hp hx
   have hr1 := hpp _ hpm _ (hv.part _ hxm) (hel k hlt hlv)
   have hn1 := hnn _ hpm _ (hel k hlt hlv)
   generalize v.parts[k] = x at hx hts hr1 hn1
   generalize l.parts[k] = p at hp hts hr1 hn1
   have hs := hs0 k
   have hts2 : min (min (Xv (l.parts.take k) (v.parts.take k)) ov + min (rkI p x) ov) ov = min (Xv (l.parts.take (k + 1)) (v.parts.take (k + 1))) ov := by rw [Zi4 hs hn1, hts]
   have hcall : ∀ (h2 : List Ob), h2[2]? = some (.cells [.v (.int .i64 (min (Xv (l.parts.take k) (v.parts.take k)) ov))]) → Does Z5 G 117 h2 [.v (.int .i64 (min (rkI p x) ov)), .ptr 2 0] (fun h' r => h' = h2.set 2 (.cells [.v (.int .i64 (min (Xv (l.parts.take (k + 1)) (v.parts.take (k + 1))) ov))]) ∧ r = .tup []) := fun h2 q => by
    have := add_d G (h := h2) (i := 2) (n := min (Xv (l.parts.take k) (v.parts.take k)) ov) (m := min (rkI p x) ov) (by unfold ov; omega) (by unfold ov; omega) q
    rw [hts2] at this; exact this
   simp only [Y6 x, Y4 p] at hr1
   generalize min (Xv (l.parts.take k) (v.parts.take k)) ov = n0 at *
   generalize g1 : min (Xv (l.parts.take (k + 1)) (v.parts.take (k + 1))) ov = n1 at *
   generalize min (rkI p x) ov = n2 at *
   have F : _ ∧ _ ∧ _ ∧ _ ∧ _ ∧ _ ∧ _ ∧ _ ∧ _ ∧ _ ∧ _ := ⟨Y4 l, Y4 p, Y6 v, Y6 x, e2, e3, e5, e6, e70, e71, wk⟩
   repeat' first
    | (with_reducible refine Yf ?_; refine Xu mixd (by kernel_rfl) ?_)
    | ((with_reducible refine Ze7 ?_); first | (refine aS1 rfl rfl fun K HK => ?_; simp only [go_sem, F]; (first | refine X1 (fun hq => ?_) (fun hq => ?_) | (refine ⟨by omega, by omega, ?_⟩; refine Yn (by assumption) ?_) | skip) <;> (refine HK _ _ rfl ?_; clear HK K)) | refine Xl rfl rfl rfl (by (first | (simp only [go_sem, F]; rfl) | (simp only [go_sem, F]; done))) (by rw [getD_one (by simp only [go_sem, F])]; rfl) ?_ | refine U7 (by simp only [Z6, Z8, Zb, Z9, Ww, chk1]; repeat' (first | exact trivial | refine And.intro ?_ ?_ | exact .inr X7 | exact .inr Xe | exact .inr Xd | exact .inr (W6 (by omega)))) ?_ | refine Yj rfl rfl rfl Zc9 (fun h2 => hr1 _) ?_ | refine Uj rfl rfl rfl Jn (by (first | (simp only [go_sem, F]; rfl) | (simp only [go_sem, F]; done))) (fun h2 k2 => hcall h2 k2) ?_)
    | refine gg ?_
    | refine Two.mk (fun hq => ?_) fun hq => ?_
    | (exfalso; omega)
   all_goals exact ⟨rfl, l.parts.length - (k + 1), by omega, k + 1, hlt, rfl, (by rw [Y4 l, Y6 v, g1]), e2, e3, e5, e6, e70, rfl⟩
 have h7 : l.kind = 7 := by omega
 simp only [h7, if_true, if_false, Z2, reduceIte] at h0 ⊢
 obtain ⟨p, q, hpq, _⟩ := Zl3 hwf h7
 have hfq : finB q = true := by have := topN hr h7; rw [hpq] at this; exact this
 have hx0 : l.parts[0]? = some p := by rw [hpq]; rfl
 have hx1 : l.parts[1]? = some q := by rw [hpq]; rfl
 have hl2 : l.parts.length = 2 := by rw [hpq]; rfl
 have hpm : p ∈ l.parts := by rw [hpq]; simp
 have hqm : q ∈ l.parts := by rw [hpq]; simp
 have hpe := (el67 (k := 7) (lo := l.lo) (hi := l.hi) (ns := l.names) (ps := l.parts) (rs := l.rules) (v := v) (.inr rfl)).1 (by rw [← h7]; cases l; exact he)
 rw [hpq] at hpe h0 ⊢
 obtain ⟨a, t, ea, ha, hpe'⟩ := Yg.1 hpe.1
 obtain ⟨b, t2, eb, hb, hpe''⟩ := Yg.1 hpe'
 rw [Wl.1 hpe''] at eb
 subst eb
 have hy0 : v.parts[0]? = some a := by rw [ea]; rfl
 have hy1 : v.parts[1]? = some b := by rw [ea]; rfl
 have hv2 : v.parts.length = 2 := by rw [ea]; rfl
 have hr0 := hpp p hpm a (hv.part a (by rw [ea]; simp)) ha
 have hr1 := hpp q hqm b (hv.part b (by rw [ea]; simp)) hb
 have hte := J3 _ q (Za _) (hwf.part hqm) (Vu _ q (Za _) (hwf.part hqm) (X0 hr q hqm) hfq)
 have hrt := hpp q hqm (topV q).1 (vsm_top _ q (Za _) (hsm.part q hqm)) hte
 have hto := valueTop_d G hG q (hsm.part q hqm) (Zu1 hc hqm) (X0 hr q hqm) hfq
 have n0 := hnn p hpm a ha
 have n1 := hnn q hqm b hb
 have n2 := hnn q hqm _ hte
 rw [ea, Zw2, Zw1] at h0 ⊢
 clear ea hpe hpe' hpe'' hpq
 generalize rkI p a = A at *
 generalize rkI q b = W at *
 generalize rkI q (topV q).1 = T at *
 generalize (topV q).1 = tv at *
 have gb : min A ov ≤ ov ∧ 0 ≤ min A ov := by unfold ov; omega
 have gt : min T ov ≤ ov ∧ 0 ≤ min T ov := by unfold ov; omega
 have gw : min W ov ≤ ov ∧ 0 ≤ min W ov := by unfold ov; omega
 have wt : IntKind.i64.wrap (min T ov + 1) = min T ov + 1 := IntWalk.i64_in _ (by unfold ov at *; omega)
 simp only [Y4 p, Y6 a] at hr0
 simp only [Y4 q, Y6 b] at hr1
 simp only [Y4 q, Y6 tv] at hrt hto
 generalize hA : min A ov = A1 at *
 generalize hT : min T ov = T1 at *
 generalize hW : min W ov = W1 at *
 by_cases hbig : 0 < A1 ∧ 1000000000000000 / A1 < T1 + 1
 · rw [sat_big n0 n2 n1 (by rw [hA]; exact hbig.1) (by rw [hA, hT]; exact hbig.2)]
   have hz : (A1 == 0) = false := by rw [beq_eq_false_iff_ne]; omega
   have hdv : Int.tdiv 1000000000000000 A1 = 1000000000000000 / A1 := Zc (by decide)
   have wq : IntKind.i64.wrap (1000000000000000 / A1) = 1000000000000000 / A1 := IntWalk.i64_in _ (quo_in hbig.1)
   have g1 : decide (0 < A1) = true := decide_eq_true hbig.1
   have g2 : decide (1000000000000000 / A1 < T1 + 1) = true := decide_eq_true hbig.2
   have F : _ ∧ _ ∧ _ ∧ _ ∧ _ ∧ _ ∧ _ ∧ _ ∧ _ ∧ _ ∧ _ ∧ _ ∧ _ ∧ _ ∧ _ := ⟨Y4 l, Y4 p, Y4 q, Y6 v, Y6 a, Y6 b, h7, hl2, hv2, hz, hdv, wq, wt, g1, g2⟩
   repeat' first
    | (with_reducible refine Yf ?_; refine Y9 mixd (by kernel_rfl) ?_)
    | (with_reducible refine Y7 ?_; (refine Zo8 rfl rfl ?_))
    | ((with_reducible refine Y7 ?_); first | (refine ao1 rfl rfl fun K HK => ?_; (first | refine Yo rfl ?_ | skip); simp only [go_sem, F]; (first | (refine ⟨by omega, ?_⟩; refine Yn (by assumption) ?_) | skip) <;> (refine HK _ _ ?_; clear HK K)))
    | ((with_reducible refine Xf ?_); first | (refine aq1 rfl rfl fun K HK => ?_; (first | refine Yo rfl ?_ | skip); simp only [go_sem, F]; (first | (refine ⟨by omega, ?_⟩; refine Yn (by assumption) ?_) | skip) <;> (refine HK _ _ rfl ?_; clear HK K)))
    | refine g0 ?_
    | (with_reducible refine Y7 ?_; refine gc rfl rfl rfl ent_118 (hto _) ?_)
    | (with_reducible refine Xf ?_; first | refine aq2 rfl rfl rfl Zc9 (hr0 _) ?_ | refine aq2 rfl rfl rfl Zc9 (hrt _) ?_)
   all_goals first | (exfalso; omega) | exact ⟨.inr rfl, endD (r := .v (.int .i64 ov)) hl0 rfl (by simp) (by simp) rfl (by rw [low]; trivial) ⟨rfl, rfl⟩⟩
 · obtain ⟨s1, s2⟩ := sat_small n0 n2 (by rw [hA, hT]; exact hbig)
   rw [hA, hT] at s1
   have hX : 0 ≤ A * (T + 1) := Int.mul_nonneg n0 (by omega)
   generalize A * (T + 1) = X at *
   have wm : IntKind.i64.wrap (A1 * (T1 + 1)) = X := by rw [s1]; exact IntWalk.i64_in _ (by omega)
   have hend : min (X + W1) ov = min (X + W) ov := by rw [← hW]; unfold ov; omega
   rw [← hend]
   have hadd0 : ∀ (h2 : List Ob), h2[2]? = some (.cells [.v (.int .i64 0)]) → Does Z5 G 117 h2 [.v (.int .i64 X), .ptr 2 0] (fun h' r => h' = h2.set 2 (.cells [.v (.int .i64 X)]) ∧ r = .tup []) := fun h2 q => by
    have := add_d2 G (h := h2) (i := 2) (m := X) (by omega) q
    rw [show min X ov = X by unfold ov; omega] at this; exact this
   have hadd1 : ∀ (h2 : List Ob), h2[2]? = some (.cells [.v (.int .i64 X)]) → Does Z5 G 117 h2 [.v (.int .i64 W1), .ptr 2 0] (fun h' r => h' = h2.set 2 (.cells [.v (.int .i64 (min (X + W1) ov))]) ∧ r = .tup []) := fun h2 q => add_d G (h := h2) (i := 2) (n := X) (m := W1) (by unfold ov; omega) (by unfold ov at gw; omega) q
   generalize min (X + W1) ov = Y at *
   by_cases hz : 0 < A1
   · have hz0 : (A1 == 0) = false := by rw [beq_eq_false_iff_ne]; omega
     have hdv : Int.tdiv 1000000000000000 A1 = 1000000000000000 / A1 := Zc (by decide)
     have wq : IntKind.i64.wrap (1000000000000000 / A1) = 1000000000000000 / A1 := IntWalk.i64_in _ (quo_in hz)
     have g1 : decide (0 < A1) = true := decide_eq_true hz
     have g2 : decide (1000000000000000 / A1 < T1 + 1) = false := decide_eq_false fun q => hbig ⟨hz, q⟩
     have F : _ ∧ _ ∧ _ ∧ _ ∧ _ ∧ _ ∧ _ ∧ _ ∧ _ ∧ _ ∧ _ ∧ _ ∧ _ ∧ _ ∧ _ ∧ _ := ⟨Y4 l, Y4 p, Y4 q, Y6 v, Y6 a, Y6 b, h7, hl2, hv2, hz0, hdv, wq, wt, g1, g2, wm⟩
     repeat' first
      | (with_reducible refine Yf ?_; refine Xu mixd (by kernel_rfl) ?_)
      | (with_reducible refine Y7 ?_; (refine Zo8 rfl rfl ?_))
      | ((with_reducible refine Ze7 ?_); first | (refine Xl rfl rfl rfl (by (first | (simp only [go_sem, F]; rfl) | (simp only [go_sem, F]; done))) (by rw [getD_agg' aggT_30, szT_30]; rfl) ?_) | (refine aS1 rfl rfl fun K HK => ?_; (first | refine Yo rfl ?_ | skip); simp only [go_sem, F]; (first | (refine ⟨by omega, ?_⟩; refine Yn (by assumption) ?_) | skip) <;> (refine HK _ _ rfl ?_; clear HK K)) | refine Xl rfl rfl rfl (by (first | (simp only [go_sem, F]; rfl) | (simp only [go_sem, F]; done))) (by rw [getD_one (by simp only [go_sem, F])]; rfl) ?_ | refine U7 (by simp only [Z6, Z8, Zb, Z9, Ww, chk1]; repeat' (first | exact trivial | refine And.intro ?_ ?_ | exact .inr X7 | exact .inr Xe | exact .inr Xd | exact .inr (W6 (by omega)))) ?_ | refine Yj rfl rfl rfl Zc9 (fun h2 => hr0 _) ?_ | refine Yj rfl rfl rfl Zc9 (fun h2 => hr1 _) ?_ | refine Yj rfl rfl rfl Zc9 (fun h2 => hrt _) ?_ | refine Uj rfl rfl rfl Jn (by (first | (simp only [go_sem, F]; rfl) | (simp only [go_sem, F]; done))) (fun h2 k2 => hadd1 h2 k2) ?_)
      | ((with_reducible refine Y7 ?_); first | (refine ao1 rfl rfl fun K HK => ?_; (first | refine Yo rfl ?_ | skip); simp only [go_sem, F]; (first | (refine ⟨by omega, ?_⟩; refine Yn (by assumption) ?_) | skip) <;> (refine HK _ _ ?_; clear HK K)))
      | refine g0 ?_
      | (with_reducible refine Y7 ?_; first | refine gc rfl rfl rfl ent_118 (hto _) ?_ | refine gc rfl rfl rfl Jn (hadd0 _ (by (first | (simp only [go_sem, F]; rfl) | (simp only [go_sem, F]; done)))) ?_)
     all_goals first | (exfalso; omega) | exact ⟨.inr rfl, endD (r := .v (.int .i64 Y)) hl0 rfl (by simp) (by simp) rfl (by rw [low]; trivial) ⟨rfl, rfl⟩⟩
   · obtain rfl : A1 = 0 := by omega
     have F : _ ∧ _ ∧ _ ∧ _ ∧ _ ∧ _ ∧ _ ∧ _ ∧ _ ∧ _ ∧ _ := ⟨Y4 l, Y4 p, Y4 q, Y6 v, Y6 a, Y6 b, h7, hl2, hv2, wt, wm⟩
     repeat' first
      | (with_reducible refine Yf ?_; refine Xu mixd (by kernel_rfl) ?_)
      | (with_reducible refine Y7 ?_; (refine Zo8 rfl rfl ?_))
      | ((with_reducible refine Ze7 ?_); first | (refine Xl rfl rfl rfl (by (first | (simp only [go_sem, F]; rfl) | (simp only [go_sem, F]; done))) (by rw [getD_agg' aggT_30, szT_30]; rfl) ?_) | (refine aS1 rfl rfl fun K HK => ?_; (first | refine Yo rfl ?_ | skip); simp only [go_sem, F]; (first | (refine ⟨by omega, ?_⟩; refine Yn (by assumption) ?_) | skip) <;> (refine HK _ _ rfl ?_; clear HK K)) | refine Xl rfl rfl rfl (by (first | (simp only [go_sem, F]; rfl) | (simp only [go_sem, F]; done))) (by rw [getD_one (by simp only [go_sem, F])]; rfl) ?_ | refine U7 (by simp only [Z6, Z8, Zb, Z9, Ww, chk1]; repeat' (first | exact trivial | refine And.intro ?_ ?_ | exact .inr X7 | exact .inr Xe | exact .inr Xd | exact .inr (W6 (by omega)))) ?_ | refine Yj rfl rfl rfl Zc9 (fun h2 => hr0 _) ?_ | refine Yj rfl rfl rfl Zc9 (fun h2 => hr1 _) ?_ | refine Yj rfl rfl rfl Zc9 (fun h2 => hrt _) ?_ | refine Uj rfl rfl rfl Jn (by (first | (simp only [go_sem, F]; rfl) | (simp only [go_sem, F]; done))) (fun h2 k2 => hadd1 h2 k2) ?_)
      | ((with_reducible refine Y7 ?_); first | (refine ao1 rfl rfl fun K HK => ?_; (first | refine Yo rfl ?_ | skip); simp only [go_sem, F]; (first | (refine ⟨by omega, ?_⟩; refine Yn (by assumption) ?_) | skip) <;> (refine HK _ _ ?_; clear HK K)))
      | refine g0 ?_
      | (with_reducible refine Y7 ?_; first | refine gc rfl rfl rfl ent_118 (hto _) ?_ | refine gc rfl rfl rfl Jn (hadd0 _ (by (first | (simp only [go_sem, F]; rfl) | (simp only [go_sem, F]; done)))) ?_)
     all_goals first | (exfalso; omega) | exact ⟨.inr rfl, endD (r := .v (.int .i64 Y)) hl0 rfl (by simp) (by simp) rfl (by rw [low]; trivial) ⟨rfl, rfl⟩⟩
end
end Go.Proofs.YtbhkcbidcfofiaaGreat
