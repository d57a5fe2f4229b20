/-
  What the statements of the chapter share, part 37: QV1, PN1, QV2, SLE, QM1, QM2.
-/
import Derived.Test.YtbhkcbidcfofiaaGreatY14
import Derived.Test.YtbhkcbidcfofiaaGreatY24
import Derived.Test.YtbhkcbidcfofiaaGreatY25
import Derived.Test.YtbhkcbidcfofiaaGreatY26
import Derived.Test.YtbhkcbidcfofiaaGreatY27
import Derived.Test.YtbhkcbidcfofiaaGreatY29
import Derived.Test.YtbhkcbidcfofiaaGreatY32
import Derived.Test.YtbhkcbidcfofiaaGreatY35
import Derived.Test.YtbhkcbidcfofiaaGreatY36
set_option linter.unusedVariables false
set_option linter.unusedSimpArgs false
set_option maxRecDepth 100000
set_option maxHeartbeats 8000000
namespace Go.Proofs.YtbhkcbidcfofiaaGreat
open _root_.Bool renaming not_false → Zi, not_true → Zk, false_eq_true → Zo
open _root_.Int renaming toNat_natCast → Zg, reduceEq → Zp, reduceLE → Zq, reduceLT → Zr
open _root_.List renaming length_append → Z0, length_cons → Z3, length_map → Z4, cons_append → Z5, length_nil → Z7, nil_append → Z8, length_filter_le → Z9, getElem?_eq_getElem → Zc, mem_singleton → Ze, append_assoc → Zh, getElem_mem → Zj, mem_cons → Zn, length_take → Zs, take_length → Zt, map_append → Zu, mem_filter → Zv, reverse_cons → Zw, take_add_one → Zx, reverse_nil → Zy, append_nil → Zz
open _root_.Nat renaming le_of_ble_eq_true → Z1, zero_le → Z2, le_trans → Z6, reduceEqDiff → Za, reduceLeDiff → Zb, reduceAdd → Zf, reduceBEq → Zl, reduceMul → Zm, le_refl → Y0
open _root_.Go.Proofs.Tryz renaming prog → Zd
open Go.RowKit
section
attribute [local irreducible] on aOp
attribute [local go_sem] decide_true decide_false Zk Zi
attribute [local simp] byD_len
variable (G : Nat → D) (hG : ∀ g, low 0 (G g))
include hG
attribute [local go_sem] Zo Zp Zq Zr Zg Z5 List.getElem?_cons_succ List.getElem?_cons_zero Z0 Z3 Z4 Z7 Z8 List.set_cons_succ List.set_cons_zero Zf Zl Za Zb Zm
attribute [local go_sem ↓] reduceIte
theorem jelems_d (l : Lat) (hsm : Sm l) (hc : chkE l = 0) (L : List Val) (hL : ∀ v ∈ L, VSm v) (hl : L.length ≤ 1000000) (h : List Ob) : Does Zd G 122 h [.agg (latX l), .sl 4 (L.map vaX)] (fun h' r => h' = h ∧ r = .v (.bool (L.all (Ya l)))) := by
 refine Y9 G hG (by simp only [lowL]; exact ⟨by rw [low]; exact Yp _ l, Wz L, trivial⟩) (by rw [low]; trivial) ?_ h
 clear h
 have hva : ∀ v, VSm v → ∀ h, Does Zd G 80 h [.agg (latX l), .agg (vaX v)] (fun h' r => h' = h ∧ r = .v (.bool (Ya l v))) := fun v hv h => by
  have := valid_v G hG l hsm v hv h
  unfold Zt8 at this
  rw [decide_eq_true hc, Bool.true_and] at this
  exact this
 simp only [Y4 l] at hva
 refine Y6 Tryz.func122 rfl (Z1 rfl) hG fun hl0 _ => ?_
 simp only [Tryz.ntmps122]
 have F := Y4 l
 repeat' first
  | refine g0 ?_
  | fail
 all_goals first | (exfalso; omega) | skip
 refine Yh (fun m e h' => ∃ (k : Nat) (T : List Ob), k ≤ L.length ∧ m = L.length - k ∧ L.all (Ya l) = (L.drop k).all (Ya l) ∧ h' = .cells (latX l) :: T ∧ e 2 = .ptr 0 0 ∧ e 7 = .sl 4 (L.map vaX) ∧ e 8 = .v (.int .i64 L.length) ∧ e 9 = .v (.int .i64 k)) L.length ⟨0, [], Z2 _, rfl, rfl, by rw [Y4 l], rfl, rfl, rfl, rfl⟩ ?_
 rintro m e h' ⟨k, T, hk, rfl, ho, rfl, e2, e7, e8, e9⟩
 by_cases hlt : k < L.length
 · have hx : L[k]? = some L[k] := Zc hlt
   have hd : L.drop k = L[k] :: L.drop (k + 1) := List.drop_eq_getElem_cons hlt
   have hvx := hva _ (hL _ (Zj hlt))
   generalize L[k] = x at hx hd hvx
   have wk : IntKind.i64.wrap ((k : Int) + 1) = (k : Int) + 1 := IntWalk.i64_in _ (by omega)
   rw [hd, List.all_cons] at ho
   simp only [Y5 x] at hvx
   cases hb : Ya l x
   · rw [hb] at hvx ho
     rw [ho]
     have F : _ ∧ _ ∧ _ ∧ _ ∧ _ ∧ _ ∧ _ := ⟨e2, e7, e8, e9, Y4 l, Y5 x, wk⟩
     repeat' first
      | refine gg ?_
      | refine Two.mk (fun hq => ?_) fun hq => ?_
      | (with_reducible refine Y7 ?_; refine gc rfl rfl rfl Yi3 (hvx _) ?_)
      | (exfalso; omega)
     all_goals first | (exfalso; omega) | exact ⟨.inr rfl, endD (r := .v (.bool false)) hl0 rfl (by simp) (by simp) rfl (by rw [low]; trivial) ⟨rfl, rfl⟩⟩
   · rw [hb] at hvx ho
     have F : _ ∧ _ ∧ _ ∧ _ ∧ _ ∧ _ ∧ _ := ⟨e2, e7, e8, e9, Y4 l, Y5 x, wk⟩
     repeat' first
      | refine gg ?_
      | refine Two.mk (fun hq => ?_) fun hq => ?_
      | (with_reducible refine Y7 ?_; refine gc rfl rfl rfl Yi3 (hvx _) ?_)
      | (exfalso; omega)
     all_goals first | (exfalso; omega) | exact ⟨rfl, L.length - (k + 1), by omega, k + 1, _, hlt, rfl, ho, by rw [Y4 l], e2, e7, e8, rfl⟩
 · have ho : L.all (Ya l) = true := by rw [ho, List.drop_eq_nil_of_le (by omega)]; rfl
   rw [ho]
   have F : _ ∧ _ ∧ _ ∧ _ := ⟨e2, e7, e8, e9⟩
   repeat' first
    | refine gg ?_
    | refine Two.mk (fun hq => ?_) fun hq => ?_
    | refine Evry.mk fun x hx => ?_
    | (exfalso; omega)
   all_goals first | (exfalso; omega) | exact ⟨.inr rfl, endD (r := .v (.bool true)) hl0 rfl (by simp) (by simp) rfl (by rw [low]; trivial) ⟨rfl, rfl⟩⟩
theorem jcheck_d (l : Lat) (hsm : Sm l) (L : List Val) (hL : ∀ v ∈ L, VSm v) (hl : L.length ≤ 1000000) (h : List Ob) : Does Zd G 66 h [.agg (latX l), .sl 4 (L.map vaX)] (fun h' r => h' = h ∧ r = .v (.int .i64 (errF l L))) := by
 refine Y9 G hG (by simp only [lowL]; exact ⟨by rw [low]; exact Yp _ l, Wz L, trivial⟩) (by rw [low]; trivial) ?_ h
 clear h
 have hck := Zh5 G hG l hsm
 simp only [Y4 l] at hck
 unfold errF
 by_cases hc : chkE l = 0
 rotate_left
 · rw [if_pos hc]
   refine Y6 Tryz.func66 rfl (Z1 rfl) hG fun hl0 _ => ?_
   simp only [Tryz.ntmps66]
   have F : _ ∧ _ := ⟨Y4 l, hc⟩
   repeat' first
    | refine g0 ?_
    | (with_reducible refine Y7 ?_; refine gc rfl rfl rfl Uy (hck _) ?_)
   all_goals first | (exfalso; omega) | exact ⟨.inr rfl, endD (r := .v (.int .i64 1)) hl0 rfl (by simp) (by simp) rfl (by rw [low]; trivial) ⟨rfl, rfl⟩⟩
 rw [if_neg (fun q => q hc)]
 rw [hc] at hck
 have hel := jelems_d G hG l hsm hc L hL hl
 simp only [Y4 l] at hel
 refine Y6 Tryz.func66 rfl (Z1 rfl) hG fun hl0 _ => ?_
 simp only [Tryz.ntmps66]
 cases hb : L.all (Ya l)
 · rw [hb] at hel
   rw [if_neg (by decide)]
   have F := Y4 l
   repeat' first
    | refine g0 ?_
    | (with_reducible refine Y7 ?_; first | refine gc rfl rfl rfl Uy (hck _) ?_ | refine gc rfl rfl rfl ent_122 (hel _) ?_)
   all_goals first | (exfalso; omega) | exact ⟨.inr rfl, endD (r := .v (.int .i64 4)) hl0 rfl (by simp) (by simp) rfl (by rw [low]; trivial) ⟨rfl, rfl⟩⟩
 · rw [hb] at hel
   rw [if_pos rfl]
   have F := Y4 l
   repeat' first
    | refine g0 ?_
    | (with_reducible refine Y7 ?_; first | refine gc rfl rfl rfl Uy (hck _) ?_ | refine gc rfl rfl rfl ent_122 (hel _) ?_)
   all_goals first | (exfalso; omega) | exact ⟨.inr rfl, endD (r := .v (.int .i64 0)) hl0 rfl (by simp) (by simp) rfl (by rw [low]; trivial) ⟨rfl, rfl⟩⟩
theorem Leq_d (l : Lat) (hsm : Sm l) (a b : Val) (sa : VSm a) (sb : VSm b) (h : List Ob) : Does Zd G 31 h [.agg (latX l), .agg (vaX a), .agg (vaX b)] (fun h' r => h' = h ∧ r = .v (.bool (decide (errF l [a, b] = 0) && leqV l a b))) := by
 refine Y9 G hG (by simp only [lowL, low]; exact ⟨Yp _ l, Yb _ a, Yb _ b, trivial⟩) (by rw [low]; trivial) ?_ h
 clear h
 have h2 : ∀ x ∈ [a, b], VSm x := fun x hx => by rcases Zn.1 hx with rfl | hx; exact sa; rw [Ze.1 hx]; exact sb
 have hck : ∀ (h : List Ob) (i : Nat), h[i]? = some (.buf 30 4 [vaX a, vaX b]) → Does Zd G 66 h [.agg (latX l), .buf i 2] (fun h' r => h' = h ∧ r = .v (.int .i64 (errF l [a, b]))) := fun h i hi => Does.borrow2 hG hi rfl (by rw [low]; exact Yp _ l) (Wz [a, b]) (jcheck_d G hG l hsm [a, b] h2 (by simp) [])
 simp only [Y4 l, Y5 a, Y5 b] at hck
 by_cases h0 : errF l [a, b] = 0
 rotate_left
 · rw [decide_eq_false h0, Bool.false_and]
   generalize errF l [a, b] = E at *
   refine Y6 Tryz.func31 rfl (Z1 rfl) hG fun hl0 _ => ?_
   simp only [Tryz.ntmps31]
   have F : _ ∧ _ ∧ _ ∧ _ := ⟨Y4 l, Y5 a, Y5 b, h0⟩
   repeat' first
    | refine g0 ?_
    | (with_reducible refine Y7 ?_; refine gc rfl rfl rfl ent_66 (hck _ _ rfl) ?_)
   all_goals first | (exfalso; omega) | exact ⟨.inr rfl, endD (r := .v (.bool false)) hl0 rfl (by simp) (by simp) rfl (by rw [low]; trivial) ⟨rfl, rfl⟩⟩
 obtain ⟨hc, hev⟩ := Zt0.1 h0
 have q := leq_d G hG _ l a b (Y0 _) (Ut hc) sa sb (hev a (by simp)) (hev b (by simp))
 rw [h0] at hck
 rw [decide_eq_true h0, Bool.true_and]
 generalize leqV l a b = B at *
 simp only [Y4 l, Y5 a, Y5 b] at q
 refine Y6 Tryz.func31 rfl (Z1 rfl) hG fun hl0 _ => ?_
 simp only [Tryz.ntmps31]
 have F : _ ∧ _ ∧ _ := ⟨Y4 l, Y5 a, Y5 b⟩
 repeat' first
  | refine g0 ?_
  | (with_reducible refine Y7 ?_; first | refine gc rfl rfl rfl ent_66 (hck _ _ rfl) ?_ | refine gc rfl rfl rfl Uz (q _) ?_)
 all_goals first | (exfalso; omega) | exact ⟨.inr rfl, endD (r := .v (.bool B)) hl0 rfl (by simp) (by simp) rfl (by rw [low]; trivial) ⟨rfl, rfl⟩⟩
theorem jleast_d (l : Lat) (hsm : Sm l) (hc : chkE l = 0) (h : List Ob) : Does Zd G 74 h [.agg (latX l)] (fun h' r => h' = h ∧ r = .agg (vaX (botV l))) := by
 refine Y9 G hG (by rw [lowL, lowL, low]; exact ⟨Yp _ l, trivial⟩) (by rw [low]; exact Yb _ _) ?_ h
 clear h
 have hb := vBottom_d G hG l hsm hc
 have hlv := Yb 0 (botV l)
 generalize botV l = b at *
 simp only [Y4 l, Y5 b] at hb hlv ⊢
 refine Y6 Tryz.func74 rfl (Z1 rfl) hG fun hl0 _ => ?_
 simp only [Tryz.ntmps74]
 have F : _ ∧ _ := ⟨Y4 l, Y5 b⟩
 repeat' first
  | refine g0 ?_
  | (with_reducible refine Y7 ?_; refine gc rfl rfl rfl ent_130 (hb _) ?_)
 all_goals first | (exfalso; omega) | exact ⟨.inr rfl, endD (ds := [.agg [.v (.int .i64 b.n), .sl 1 (b.names.map strX), .sl 4 (b.parts.map vaX), .sl 2 (b.entries.map enX)]]) (r := .agg [.v (.int .i64 b.n), .sl 1 (b.names.map strX), .sl 4 (b.parts.map vaX), .sl 2 (b.entries.map enX)]) hl0 (by simp only [resD, Tryz.results74, go_sem, ↓reduceIte, Za, Zf, Zb]; try rfl) (by simp) (by simp) (by simp [outD, cvD, cv1]) (by rw [low]; exact hlv) ⟨rfl, rfl⟩⟩
end
section
inductive Bd (n : Nat) : Val → Prop
 | mk (v : Val) (h1 : v.names.length ≤ n) (h2 : v.parts.length ≤ n) (h3 : v.entries.length ≤ n) (h4 : ∀ e ∈ v.entries, e.clock.length ≤ n) (h5 : ∀ p ∈ v.parts, Bd n p) : Bd n v
section
variable {n m : Nat} {v : Val}
theorem Bd.names (h : Bd n v) : v.names.length ≤ n := by cases h; assumption
theorem Bd.parts (h : Bd n v) : v.parts.length ≤ n := by cases h; assumption
theorem Bd.entries (h : Bd n v) : v.entries.length ≤ n := by cases h; assumption
theorem Bd.ents (h : Bd n v) : ∀ e ∈ v.entries, e.clock.length ≤ n := by cases h; assumption
theorem Bd.part (h : Bd n v) : ∀ p ∈ v.parts, Bd n p := by cases h; assumption
theorem Ze6 {v p : Val} (h : p ∈ v.parts) : SizeOf.sizeOf p < SizeOf.sizeOf v := by
 obtain ⟨a, b, c, d⟩ := v
 have := List.sizeOf_lt_of_mem (show p ∈ c from h)
 simp only [Val.mk.sizeOf_spec]
 omega
theorem Bd.mono (hnm : n ≤ m) : ∀ (k : Nat) (v : Val), SizeOf.sizeOf v ≤ k → Bd n v → Bd m v
 | 0, v, hk, _ => by cases v; simp at hk
 | k + 1, v, hk, h => .mk v (Z6 h.names hnm) (Z6 h.parts hnm) (Z6 h.entries hnm) (fun e he => Z6 (h.ents e he) hnm) fun p hp => Bd.mono hnm k p (by have := Ze6 hp; omega) (h.part p hp)
theorem Bd.up (h : Bd n v) (hnm : n ≤ m) : Bd m v := Bd.mono hnm _ v (Y0 _) h
theorem nodes_part {p : Val} (h : p ∈ v.parts) : Vv p ≤ Yr v.parts := by
 generalize v.parts = l at h
 induction l with
 | nil => cases h
 | cons x t ih =>
  rw [Yr]
  rcases Zn.1 h with rfl | h
  · omega
  · have := ih h; omega
theorem Ya1 : ∀ l : List Val, l.length ≤ Yr l
 | [] => Z2 _
 | x :: t => by
  have h1 := Ya1 t
  have h2 := Zp0 x
  rw [Yr, Z3]; omega
theorem sum_mem {l : List Nat} {x : Nat} (h : x ∈ l) : x ≤ l.sum := by
 induction l with
 | nil => cases h
 | cons y t ih =>
  rw [List.sum_cons]
  rcases Zn.1 h with rfl | h
  · omega
  · have := ih h; omega
theorem bd_nodes : ∀ (k : Nat) (v : Val), SizeOf.sizeOf v ≤ k → Bd (Vv v) v
 | 0, v, hk => by cases v; simp at hk
 | k + 1, v, hk => by
  have h := Zp0 v
  have hl := Ya1 v.parts
  refine .mk v (by omega) (by omega) (by omega) (fun e he => ?_) fun p hp => (bd_nodes k p (by have := Ze6 hp; omega)).up (by have := nodes_part hp; omega)
  have := sum_mem (List.mem_map_of_mem (f := fun e : En => e.clock.length) he)
  omega
end
theorem ofE_len : ∀ l : List En, (ofE l).length ≤ l.length
 | [] => Y0 _
 | x :: t => by
  have h := ofE_len t
  have h2 : ∀ s : List En, (insE x s).length ≤ s.length + 1 := fun s => by
   induction s with
   | nil => simp [insE]
   | cons y s ih => rw [insE]; split; simp; split <;> simp; omega
  show (insE x (ofE t)).length ≤ _
  have := h2 (ofE t)
  rw [Z3]; omega
theorem Yk0 (a b : List ByteArray) : (Xo a b).length ≤ a.length + b.length := by unfold Xo; have := ofS_len (a ++ b); rwa [Z0] at this
theorem merge_len (a b : List En) : (Uw a b).length ≤ a.length + b.length := by
 unfold Uw
 have h1 := ofE_len ((a ++ b).filter fun p => !(a ++ b).any fun q => belE p q)
 have h2 := Z9 (fun p => !(a ++ b).any fun q => belE p q) (a ++ b)
 rw [Z0] at h2
 omega
theorem psE_mem {ps : List Lat} {vs : List Val} (h : PsE ps vs) : ∀ v ∈ vs, ∃ p ∈ ps, Ya p v = true := by
 induction ps generalizing vs with
 | nil => rw [Jg.1 h]; exact fun v hv => by cases hv
 | cons p ps ih =>
  obtain ⟨a, t, rfl, ha, ht⟩ := Yj.1 h
  intro v hv
  rcases Zn.1 hv with rfl | hv
  · exact ⟨p, by simp, ha⟩
  · obtain ⟨q, hq, h2⟩ := ih ht v hv
    exact ⟨q, by simp [hq], h2⟩
theorem vsm_bd {n : Nat} (hn : n ≤ 9223372036854775807) : ∀ (k : Nat) (l : Lat) (v : Val), SizeOf.sizeOf l ≤ k → WfL l → Ya l v = true → Bd n v → VSm v
 | 0, l, v, hk, _, _, _ => by cases l; simp at hk
 | k + 1, l, v, hk, hw, he, hb => by
  have hpp : ∀ p ∈ l.parts, ∀ x ∈ v.parts, Ya p x = true → VSm x := fun p hp x hx hex => vsm_bd hn k p x (by have := Yu hp; omega) (hw.part hp) hex (hb.part x hx)
  have hfin : (∀ s ∈ v.names, s.size ≤ 16) → (∀ e ∈ v.entries, e.name.size ≤ 16) → (∀ x ∈ v.parts, ∃ p ∈ l.parts, Ya p x = true) → VSm v := fun h1 h2 h3 =>
   .mk v (Z6 hb.names hn) (Z6 hb.parts hn) (Z6 hb.entries hn) (fun s hs => by have := h1 s hs; omega) (fun e he => ⟨Z6 (hb.ents e he) hn, by have := h2 e he; omega⟩) fun x hx => by obtain ⟨p, hp, hx2⟩ := h3 x hx; exact hpp p hp x hx hx2
  obtain ⟨hk0, hk5, _⟩ := hw.kinds
  obtain ⟨kd, lo, hi, ns, ps, rs⟩ := l
  simp only [Lat.kind, Lat.parts] at hk0 hk5 hfin
  have no1 : v.names = [] → ∀ s ∈ v.names, s.size ≤ 16 := fun h s hs => by rw [h] at hs; cases hs
  have no2 : v.entries = [] → ∀ e ∈ v.entries, e.name.size ≤ 16 := fun h s hs => by rw [h] at hs; cases hs
  have no3 : v.parts = [] → ∀ x ∈ v.parts, ∃ p ∈ ps, Ya p x = true := fun h s hs => by rw [h] at hs; cases hs
  by_cases h1 : kd = 1
  · subst h1; obtain ⟨_, a, b, c⟩ := isE_1.1 he; exact hfin (no1 a) (no2 c) (no3 b)
  by_cases h23 : kd = 2 ∨ kd = 3
  · obtain ⟨_, a, b, c⟩ := (isE_23 h23).1 he; exact hfin (no1 a) (no2 c) (no3 b)
  by_cases h410 : kd = 4 ∨ kd = 10
  · obtain ⟨⟨_, b, c⟩, a⟩ := isE_410 h410 he; exact hfin (Yn1 a) (no2 c) (no3 b)
  by_cases h8 : kd = 8
  · subst h8
    obtain ⟨b, c, h⟩ := isE_8.1 he
    exact hfin (by rcases h with ⟨_, h⟩ | ⟨_, h⟩ | ⟨_, _, h⟩; exact no1 h; exact no1 h; exact Yn1 h) (no2 c) (no3 b)
  by_cases h9 : kd = 9
  · subst h9
    obtain ⟨⟨_, a, b⟩, h⟩ := Yo2.1 he
    exact hfin (no1 a) (fun e he' => (name_le ((Wo.1 h).1 e he').2.2).2) (no3 b)
  by_cases h5 : kd = 5
  · subst h5
    obtain ⟨p, rfl⟩ := List.length_eq_one_iff.1 (hk5 rfl)
    obtain ⟨⟨_, c⟩, _, a, _⟩ := isE_5.1 he
    exact hfin (Yn1 a) (no2 c) fun x hx => ⟨p, by simp, ((Vh.1 he).2.2.2 x hx).1⟩
  · have h67 : kd = 6 ∨ kd = 7 := by omega
    obtain ⟨⟨_, a, c⟩, _⟩ := (isE_67 h67).1 he
    exact hfin (no1 a) (no2 c) (psE_mem ((el67 h67).1 he).1)
theorem joins_mem : ∀ {ps : List Lat} {s t : List Val}, (U9 ps s t).length ≤ ps.length ∧ ∀ x ∈ U9 ps s t, ∃ p ∈ ps, ∃ a ∈ s, ∃ b ∈ t, x = Xa p a b
 | [], s, t => by rw [U9]; exact ⟨Z2 _, fun x hx => by cases hx⟩
 | p :: ps, [], t => by rw [U9]; exact ⟨Z2 _, fun x hx => by cases hx⟩
 | p :: ps, a :: s, [] => by rw [U9]; exact ⟨Z2 _, fun x hx => by cases hx⟩
 | p :: ps, a :: s, b :: t => by
  obtain ⟨h1, h2⟩ := joins_mem (ps := ps) (s := s) (t := t)
  rw [U9]
  refine ⟨by simp; exact h1, fun x hx => ?_⟩
  rcases Zn.1 hx with rfl | hx
  · exact ⟨p, by simp, a, by simp, b, by simp, rfl⟩
  · obtain ⟨q, hq, c, hc, d, hd, e⟩ := h2 x hx
    exact ⟨q, by simp [hq], c, by simp [hc], d, by simp [hd], e⟩
theorem Zq5 {v x : Val} {s : ByteArray} (h : getM v s = some x) : x ∈ v.parts := by unfold getM at h; exact (List.of_mem_zip (Zw8 h)).2
theorem bd_join {n m : Nat} (hn : 64 ≤ n) : ∀ (k : Nat) (l : Lat) (a b : Val), SizeOf.sizeOf l ≤ k → WfL l → Bd n a → Bd m b → Bd (n + m) (Xa l a b)
 | 0, l, a, b, hk, _, _, _ => by cases l; simp at hk
 | k + 1, l, a, b, hk, hw, ha, hb => by
  have hpp : ∀ p ∈ l.parts, ∀ x y, Bd n x → Bd m y → Bd (n + m) (Xa p x y) := fun p hp x y hx hy => bd_join hn k p x y (by have := Yu hp; omega) (hw.part hp) hx hy
  have ha' := ha.up (Nat.le_add_right n m)
  have hb' := hb.up (Nat.le_add_left m n)
  have flat : ∀ z : Int, Bd (n + m) (.mk z [] [] []) := fun z => .mk _ (Z2 _) (Z2 _) (Z2 _) (fun e he => by cases he) fun p hp => by cases hp
  have names : ∀ s : List ByteArray, s.length ≤ n + m → Bd (n + m) (.mk 0 s [] []) := fun s h => .mk _ h (Z2 _) (Z2 _) (fun e he => by cases he) fun p hp => by cases hp
  obtain ⟨hk0, hk5, hk7, hk6, hkn, _, _, hnl, _⟩ := hw.kinds
  have hpl : l.parts.length ≤ n + m := by
   by_cases h5 : l.kind = 5
   · have := hk5 h5; omega
   by_cases h7 : l.kind = 7
   · have := hk7 h7; omega
   by_cases h6 : l.kind = 6
   · have := hk6 h6; omega
   · have := hkn h5 h6 h7; omega
  obtain ⟨kd, lo, hi, ns, ps, rs⟩ := l
  simp only [Lat.kind, Lat.parts, Lat.names] at hk0 hk5 hk7 hpl hpp hnl
  rw [Xa]
  split
  · exact names _ (Z6 (Yk0 _ _) (by have := ha.names; have := hb.names; omega))
  split
  · refine names _ (Z6 ?_ (show ns.length ≤ n + m by omega))
    unfold Ua; exact Z9 _ _
  split
  · refine .mk _ (Z2 _) (Z2 _) (Z6 (merge_len _ _) (by have := ha.entries; have := hb.entries; omega)) (fun e he => ?_) fun p hp => by cases hp
    rcases (U5.1 (show e ∈ Uw a.entries b.entries from he)).1 with h | h
    · exact ha'.ents e h
    · exact hb'.ents e h
  split
  · rename_i h5
    subst h5
    obtain ⟨p, rfl⟩ := List.length_eq_one_iff.1 (hk5 rfl)
    rw [joinMap]
    have hul := Yk0 a.names b.names
    have h1 := ha.names
    have h2 := hb.names
    refine .mk _ (by show (Xo a.names b.names).length ≤ _; omega) (by show (List.map _ (Xo a.names b.names)).length ≤ _; rw [Z4]; omega) (Z2 _) (fun e he => by cases he) fun x hx => ?_
    obtain ⟨s, _, rfl⟩ := List.mem_map.1 (show x ∈ List.map _ (Xo a.names b.names) from hx)
    cases q1 : getM a s with
    | some x1 =>
     cases q2 : getM b s with
     | some x2 => exact hpp p (by simp) _ _ (ha.part _ (Zq5 q1)) (hb.part _ (Zq5 q2))
     | none => exact ha'.part _ (Zq5 q1)
    | none =>
     cases q2 : getM b s with
     | some x2 => exact hb'.part _ (Zq5 q2)
     | none => exact flat 0
  split
  · obtain ⟨h1, h2⟩ := joins_mem (ps := ps) (s := a.parts) (t := b.parts)
    refine .mk _ (Z2 _) (Z6 h1 hpl) (Z2 _) (fun e he => by cases he) fun x hx => ?_
    obtain ⟨p, hp, x1, hx1, x2, hx2, rfl⟩ := h2 x hx
    exact hpp p hp _ _ (ha.part _ hx1) (hb.part _ hx2)
  split
  · rename_i h7
    obtain ⟨p, q, rfl⟩ := len_two (hk7 h7.1)
    refine .mk _ (Z2 _) ?_ (Z2 _) (fun e he => by cases he) fun x hx => ?_
    · show (Uo [p, q] a.parts b.parts).length ≤ _
      cases ea : a.parts <;> cases eb : b.parts <;> simp only [Uo, Z7] <;> try omega
      rename_i x1 s1 x2 s2
      cases s1 <;> cases s2 <;> simp [Zc3] <;> omega
    · have hx' : x ∈ Uo [p, q] a.parts b.parts := hx
      cases ea : a.parts with
      | nil => rw [ea, Uo] at hx'; cases hx'
      | cons x1 s1 =>
       cases eb : b.parts with
       | nil => rw [ea, eb, Uo] at hx'; cases hx'
       | cons x2 s2 =>
        rw [ea, eb, Uo] at hx'
        rcases Zn.1 hx' with rfl | hx'
        · exact ha'.part _ (by rw [ea]; simp)
        · cases s1 with
          | nil => rw [Zc3] at hx'; cases hx'
          | cons y1 t1 =>
           cases s2 with
           | nil => rw [Zc3] at hx'; cases hx'
           | cons y2 t2 =>
            rw [Zc3] at hx'
            rw [Ze.1 hx']
            exact hpp q (by simp) _ _ (ha.part _ (by rw [ea]; simp)) (hb.part _ (by rw [eb]; simp))
  split
  · exact hb'
  split
  · exact ha'
  · exact flat 2
end
section
attribute [local irreducible] on aOp
attribute [local go_sem] decide_true decide_false Zk Zi
attribute [local simp] byD_len
def cP (A Z V W X : Ob) (T : List Ob) : List Ob := A :: Z :: V :: W :: X :: T
section
variable {A Z V W X x y z : Ob} {T l : List Ob}
theorem cP_0 : (cP A Z V W X T)[0]? = some A := rfl
theorem cP_1 : (cP A Z V W X T)[1]? = some Z := rfl
theorem cP_2 : (cP A Z V W X T)[2]? = some V := rfl
theorem cP_3 : (cP A Z V W X T)[3]? = some W := rfl
theorem cP_4 : (cP A Z V W X T)[4]? = some X := rfl
theorem cP_s1 : (cP A Z V W X T).set 1 x = cP A x V W X T := rfl
theorem cP_s2 : (cP A Z V W X T).set 2 x = cP A Z x W X T := rfl
theorem cP_s3 : (cP A Z V W X T).set 3 x = cP A Z V x X T := rfl
theorem cP_s4 : (cP A Z V W X T).set 4 x = cP A Z V W x T := rfl
theorem cP_len : (cP A Z V W X T).length = T.length + 5 := rfl
theorem cP_app : cP A Z V W X T ++ l = cP A Z V W X (T ++ l) := rfl
theorem cP_l : (cP A Z V W X (T ++ [x]))[T.length + 5]? = some x := by simp [cP]
theorem cP_sl : (cP A Z V W X (T ++ [x])).set (T.length + 5) y = cP A Z V W X (T ++ [y]) := by simp [cP]
theorem cP_l1 : (cP A Z V W X (T ++ [x, y]))[T.length + 5]? = some x := by simp [cP]
theorem cP_l2 : (cP A Z V W X (T ++ [x, y]))[T.length + 1 + 5]? = some y := by simp [cP]
theorem cP_t2 : (cP A Z V W X (T ++ [x, y])).set (T.length + 1 + 5) z = cP A Z V W X (T ++ [x, z]) := by simp [cP]
end
variable (G : Nat → D) (hG : ∀ g, low 0 (G g))
include hG
attribute [local go_sem] Zp Zq Zr Zg Zh Z5 Z0 Z3 Z4 Z7 Z8 Zf Zl Za Zb Zm cP_0 cP_1 cP_2 cP_3 cP_4 cP_app cP_l cP_l1 cP_l2 cP_len cP_s1 cP_s2 cP_s3 cP_s4 cP_sl cP_t2
attribute [local go_sem ↓] reduceIte
theorem copied_d {n : Nat} (hn : n ≤ 100000) (f : Nat) : ∀ v, SizeOf.sizeOf v ≤ f → Bd n v → ∀ h : List Ob, Does Zd G 72 h [.agg (vaX v)] (fun h' r => h' = h ∧ r = .agg (vaX v)) := by
 induction f with
 | zero => intro v hk; cases v; simp at hk
 | succ f ih =>
 intro v hk hb h
 refine Y9 G hG (by simp only [lowL, low]; exact ⟨Yb _ v, trivial⟩) (by rw [low]; exact Yb _ _) ?_ h
 clear h
 have hpp : ∀ x ∈ v.parts, ∀ h, Does Zd G 72 h [.agg (vaX x)] (fun h' r => h' = h ∧ r = .agg (vaX x)) := fun x hx => ih x (by have := Ze6 hx; omega) (hb.part x hx)
 have hcl := clone_g G hG v.names (by have := hb.names; omega)
 have hct : ∀ e ∈ v.entries, ∀ h, Does Zd G 85 h [.sl 2 (e.clock.map tkX)] (fun h' r => h' = h ∧ r = .sl 2 (e.clock.map tkX)) := fun e he => clone_tk G hG e.clock (by have := hb.ents e he; omega)
 have hpl := hb.parts
 have hel := hb.entries
 have hlo := Yb 0 v
 simp only [Y5 v] at hlo ⊢
 refine Y6 Tryz.func72 rfl (Z1 rfl) hG fun hl0 _ => ?_
 simp only [Tryz.ntmps72]
 have F := Y5 v
 repeat' first
  | (with_reducible refine Yc ?_; refine Xc mixd (by kernel_rfl) ?_)
  | ((with_reducible refine Up ?_); first | (refine aS_alloc rfl rfl (by simp only [go_sem, F]; rfl) ?_) | (refine aS1 rfl rfl fun K HK => ?_; simp only [go_sem, F] <;> (refine HK _ _ rfl ?_; clear HK K)) | refine Xs rfl rfl rfl (by (simp only [go_sem, F]; rfl)) (by rw [getD_one (by simp only [go_sem, F])]; rfl) ?_ | refine Ui rfl rfl (by (simp only [go_sem, F]; rfl)) rfl (by simp only [go_sem, F]) (by simp) ?_ | refine V2 (by simp only [Zw, Zy, Z8, Z5, Wd, chk1]; repeat' (first | exact trivial | refine And.intro ?_ ?_ | exact .inr Yw | exact .inr X0 | exact .inr X4 | (refine .inr ?_; simp [compat, Wl, V8, Vs, nop] <;> omega) | exact .inl (by kernel_rfl))) ?_ | refine Ys rfl rfl rfl ent_128 (fun h2 => hcl _) ?_)
  | refine g0 ?_
  | fail
 all_goals first | (exfalso; omega) | skip
 refine Uf 30 4 2 [.v (.int .i64 v.n), .sl 1 (v.names.map strX)] [.v (.slice none 0 0)] rfl ?_
 refine Uf 69 2 2 [.v (.int .i64 v.n), .sl 1 (v.names.map strX), .buf 3 0] [] rfl ?_
 refine Yh (fun m e h' => ∃ (k : Nat) (T : List Ob), k ≤ v.parts.length ∧ m = v.parts.length - k ∧ h' = cP (.cells (vaX v)) (.cells [.v (.int .i64 0), .v (.slice none 0 0), .v (.slice none 0 0), .v (.slice none 0 0)]) (.cells [.v (.int .i64 v.n), .sl 1 (v.names.map strX), .buf 3 k, .buf 4 0]) (.buf 30 4 ((v.parts.take k).map vaX)) (.buf 69 2 []) T ∧ e 1 = .ptr 0 0 ∧ e 2 = .ptr 1 0 ∧ e 3 = .ptr 2 0 ∧ e 15 = .sl 4 (v.parts.map vaX) ∧ e 16 = .v (.int .i64 v.parts.length) ∧ e 17 = .v (.int .i64 k)) v.parts.length ⟨0, [], Z2 _, rfl, by rw [Y5 v]; rfl, rfl, rfl, rfl, rfl, rfl, rfl⟩ ?_
 rintro m e h' ⟨k, T, hkk, rfl, rfl, e1, e2, e3, e15, e16, e17⟩
 by_cases hlt : k < v.parts.length
 · have hx : v.parts[k]? = some v.parts[k] := Zc hlt
   have hc := hpp _ (Zj hlt)
   generalize v.parts[k] = x at hx hc
   have wk : IntKind.i64.wrap ((k : Int) + 1) = ((k + 1 : Nat) : Int) := IntWalk.i64_in _ (by omega)
   have htk : (v.parts.take (k + 1)).map vaX = (v.parts.take k).map vaX ++ [vaX x] := by rw [Zx, hx, Zu]; rfl
   have hlr : ((v.parts.take k).map vaX).length = k := by rw [Z4, Zs]; omega
   have hro := ro_va x
   simp only [Y5 x] at hc hro htk
   have F : _ ∧ _ ∧ _ ∧ _ ∧ _ ∧ _ ∧ _ ∧ _ ∧ _ := ⟨Y5 v, Y5 x, e1, e2, e3, e15, e16, e17, wk⟩
   repeat' first
    | (with_reducible refine Yc ?_; refine Xc mixd (by kernel_rfl) ?_)
    | ((with_reducible refine Up ?_); first | (refine Zd7 rfl rfl rfl rfl (by (simp only [go_sem, F]; rfl)) hlr (by simp only [go_sem, F]; rfl) (by (simp only [go_sem, F]; rfl)) (by simp) hro (by first | omega | (simp; omega)) ?_) | (refine Xs rfl rfl (by first | rfl | (simp only [go_sem, F]; rfl)) (by (simp only [go_sem, F]; rfl)) (by rw [getD_agg' aggT_30, szT_30]; rfl) ?_) | (refine aS1 rfl rfl fun K HK => ?_; simp only [go_sem, F]; (first | refine Ym (fun hq => ?_) (fun hq => ?_) | (refine ⟨by omega, by omega, ?_⟩; refine Yo (by assumption) ?_) | skip) <;> (refine HK _ _ rfl ?_; clear HK K)) | refine Xs rfl rfl rfl (by (simp only [go_sem, F]; rfl)) (by rw [getD_one (by simp only [go_sem, F])]; rfl) ?_ | refine Ui rfl rfl (by (simp only [go_sem, F]; rfl)) rfl (by simp only [go_sem, F]) (by simp) ?_ | refine Jp rfl rfl (by simp only [litD, Wb, go_sem, Z3, Z7, Option.map_some, Option.bind_some, and_self, ↓reduceIte, Za, Zf, Zb, Zl, Zm, Zp, Zr, Zq, Y5 v, Y5 x, e1, e2, e3, e15, e16, e17, Z4, Zg, wk, cP_0, cP_1, cP_2, cP_3, cP_4, cP_s1, cP_s2, cP_s3, cP_s4, cP_len, cP_app, cP_l, cP_sl, cP_l1, cP_l2, cP_t2, Zh, Z5, Z8, Z0, Z3, Z7]; rfl) ?_ | refine V2 (by simp only [Zw, Zy, Z8, Z5, Wd, chk1]; repeat' (first | exact trivial | refine And.intro ?_ ?_ | exact .inr Yw | exact .inr X0 | exact .inr X4 | exact .inr (Wt (by omega)) | (refine .inr ?_; simp [compat, Wl, V8, Vs, nop, cP_len] <;> omega) | exact .inl (by kernel_rfl))) ?_ | refine Ys rfl rfl rfl ent_72 (fun h2 => hc _) ?_)
    | refine gg ?_
    | refine Two.mk (fun hq => ?_) fun hq => ?_
    | (exfalso; omega)
   all_goals first | (exfalso; omega) | exact ⟨rfl, v.parts.length - (k + 1), by omega, k + 1, _, hlt, rfl, (by rw [Y5 v, htk]), e1, e2, e3, e15, e16, rfl⟩
 obtain rfl : k = v.parts.length := by omega
 rw [Zt]
 have F : _ ∧ _ ∧ _ ∧ _ ∧ _ ∧ _ ∧ _ := ⟨Y5 v, e1, e2, e3, e15, e16, e17⟩
 repeat' first
  | refine gg ?_
  | refine Two.mk (fun hq => ?_) fun hq => ?_
  | refine Evry.mk fun x hx => ?_
  | (exfalso; omega)
 all_goals first | (exfalso; omega) | skip
 refine Yh (fun m e h' => ∃ (k : Nat) (T : List Ob), k ≤ v.entries.length ∧ m = v.entries.length - k ∧ h' = cP (.cells (vaX v)) (.cells [.v (.int .i64 0), .v (.slice none 0 0), .v (.slice none 0 0), .v (.slice none 0 0)]) (.cells [.v (.int .i64 v.n), .sl 1 (v.names.map strX), .buf 3 v.parts.length, .buf 4 k]) (.buf 30 4 (v.parts.map vaX)) (.buf 69 2 ((v.entries.take k).map enX)) T ∧ e 1 = .ptr 0 0 ∧ e 2 = .ptr 1 0 ∧ e 3 = .ptr 2 0 ∧ e 30 = .sl 2 (v.entries.map enX) ∧ e 31 = .v (.int .i64 v.entries.length) ∧ e 32 = .v (.int .i64 k)) v.entries.length ⟨0, T, Z2 _, rfl, by rw [Y5 v]; rfl, e1, e2, e3, rfl, rfl, rfl⟩ ?_
 clear e1 e2 e3 e15 e16 e17 hlt hkk T hpp
 rintro m e h' ⟨k, T, hkk, rfl, rfl, e1, e2, e3, e30, e31, e32⟩
 by_cases hlt : k < v.entries.length
 · have hx : v.entries[k]? = some v.entries[k] := Zc hlt
   have hc := hct _ (Zj hlt)
   generalize v.entries[k] = x at hx hc
   have wk : IntKind.i64.wrap ((k : Int) + 1) = ((k + 1 : Nat) : Int) := IntWalk.i64_in _ (by omega)
   have htk : (v.entries.take (k + 1)).map enX = (v.entries.take k).map enX ++ [[.sl 2 (x.clock.map tkX), .v (.string x.name)]] := by rw [Zx, hx, Zu, ← X1]; rfl
   have hlr : ((v.entries.take k).map enX).length = k := by rw [Z4, Zs]; omega
   have hro : Yz 2 [[D.sl 2 (x.clock.map tkX), .v (.string x.name)]] := fun row hr => by rw [Ze.1 hr]; exact ⟨rfl, fun d hd => by simp at hd; rcases hd with rfl | rfl <;> rfl⟩
   have F : _ ∧ _ ∧ _ ∧ _ ∧ _ ∧ _ ∧ _ ∧ _ ∧ _ := ⟨Y5 v, X1 x, e1, e2, e3, e30, e31, e32, wk⟩
   repeat' first
    | (with_reducible refine Yc ?_; refine Xc mixd (by kernel_rfl) ?_)
    | ((with_reducible refine Up ?_); first | (refine Zd7 rfl rfl rfl rfl (by (simp only [go_sem, F]; rfl)) hlr (by simp only [go_sem, F]; rfl) (by (simp only [go_sem, F]; rfl)) (by simp) hro (by first | omega | (simp; omega)) ?_) | (refine aS1 rfl rfl fun K HK => ?_; simp only [go_sem, F]; (first | refine Ym (fun hq => ?_) (fun hq => ?_) | (refine ⟨by omega, by omega, ?_⟩; refine Yo (by assumption) ?_) | skip) <;> (refine HK _ _ rfl ?_; clear HK K)) | refine Xs rfl rfl rfl (by (simp only [go_sem, F]; rfl)) (by rw [getD_one (by simp only [go_sem, F])]; rfl) ?_ | refine Ui rfl rfl (by (simp only [go_sem, F]; rfl)) rfl (by simp only [go_sem, F]) (by simp) ?_ | refine Jp rfl rfl (by simp only [litD, Wb, go_sem, Z3, Z7, Option.map_some, Option.bind_some, and_self, ↓reduceIte, Za, Zf, Zb, Zl, Zm, Zp, Zr, Zq, Y5 v, X1 x, e1, e2, e3, e30, e31, e32, Z4, Zg, wk, cP_0, cP_1, cP_2, cP_3, cP_4, cP_s1, cP_s2, cP_s3, cP_s4, cP_len, cP_app, cP_l, cP_sl, cP_l1, cP_l2, cP_t2, Zh, Z5, Z8, Z0, Z3, Z7]; rfl) ?_ | refine V2 (by simp only [Zw, Zy, Z8, Z5, Wd, chk1]; repeat' (first | exact trivial | refine And.intro ?_ ?_ | exact .inr Yw | exact .inr X0 | exact .inr X4 | exact .inr (Wt (by omega)) | (refine .inr ?_; simp [compat, Wl, V8, Vs, nop, cP_len] <;> omega) | exact .inl (by kernel_rfl))) ?_ | refine Ys rfl rfl rfl ent_85 (fun h2 => hc _) ?_)
    | refine gg ?_
    | refine Two.mk (fun hq => ?_) fun hq => ?_
    | (exfalso; omega)
   all_goals first | (exfalso; omega) | exact ⟨rfl, v.entries.length - (k + 1), by omega, k + 1, _, hlt, rfl, (by rw [Y5 v, htk]), e1, e2, e3, e30, e31, rfl⟩
 obtain rfl : k = v.entries.length := by omega
 rw [Zt]
 have F : _ ∧ _ ∧ _ ∧ _ ∧ _ ∧ _ ∧ _ := ⟨Y5 v, e1, e2, e3, e30, e31, e32⟩
 repeat' first
  | refine gg ?_
  | refine Two.mk (fun hq => ?_) fun hq => ?_
  | refine Evry.mk fun x hx => ?_
  | (exfalso; omega)
 all_goals first | (exfalso; omega) | exact ⟨.inr rfl, endD (ds := [.agg [.v (.int .i64 v.n), .sl 1 (v.names.map strX), .buf 3 v.parts.length, .buf 4 v.entries.length]]) (r := .agg [.v (.int .i64 v.n), .sl 1 (v.names.map strX), .sl 4 (v.parts.map vaX), .sl 2 (v.entries.map enX)]) hl0 (by simp only [resD, Tryz.results72, go_sem, ↓reduceIte, Za, Zf, Zb, e2, cP_1]; try rfl) (by simp) (by simp) (by simp [outD, cvD, cv1, cP]) (by rw [low]; exact hlo) ⟨rfl, rfl⟩⟩
end
section
open Go.Shelf Go.RowKit
def Yb2 : Go.Shelf.Ren := ⟨fun | 6 => 194 | 15 => 87 | 14 => 234 | 28 => 149 | 29 => 150 | 20 => 258 | 21 => 259 | 22 => 260 | 23 => 261 | 24 => 262 | 25 => 263 | 26 => 264 | 27 => 265 | 46 => 270 | 47 => 209 | 48 => 210 | 49 => 271 | 50 => 272 | 57 => 274 | n => n, fun | 22 => 28 | 24 => 69 | 25 => 93 | 3 => 3 | 39 => 87 | 0 => 0 | 53 => 142 | 55 => 144 | 4 => 4 | 46 => 136 | 45 => 135 | 50 => 103 | 5 => 5 | 9 => 9 | 66 => 182 | 70 => 186 | 76 => 206 | 77 => 207 | n => n, fun | n => n⟩
theorem laysSoE : Go.Proofs.SlLaysF0.n6 Zd Yb2 := {
  mixed := by kernel_rfl
  f6 := ⟨Tryz.f194.name, by decide, Tryz.func194.trans (congrArg some (by kernel_rfl))⟩
  f14 := ⟨Tryz.f234.name, by decide, Tryz.func234.trans (congrArg some (by kernel_rfl))⟩
  f15 := Tryz.func87.trans (congrArg some (by kernel_rfl))
  f20 := ⟨Tryz.f258.name, by decide, Tryz.func258.trans (congrArg some (by kernel_rfl))⟩
  f21 := ⟨Tryz.f259.name, by decide, Tryz.func259.trans (congrArg some (by kernel_rfl))⟩
  f22 := ⟨Tryz.f260.name, by decide, Tryz.func260.trans (congrArg some (by kernel_rfl))⟩
  f23 := ⟨Tryz.f261.name, by decide, Tryz.func261.trans (congrArg some (by kernel_rfl))⟩
  f24 := ⟨Tryz.f262.name, by decide, Tryz.func262.trans (congrArg some (by kernel_rfl))⟩
  f25 := ⟨Tryz.f263.name, by decide, Tryz.func263.trans (congrArg some (by kernel_rfl))⟩
  f26 := ⟨Tryz.f264.name, by decide, Tryz.func264.trans (congrArg some (by kernel_rfl))⟩
  f27 := ⟨Tryz.f265.name, by decide, Tryz.func265.trans (congrArg some (by kernel_rfl))⟩
  f28 := Tryz.func149.trans (congrArg some (by kernel_rfl))
  f29 := Tryz.func150.trans (congrArg some (by kernel_rfl))
  f46 := ⟨Tryz.f270.name, by decide, Tryz.func270.trans (congrArg some (by kernel_rfl))⟩
  f47 := Tryz.func209.trans (congrArg some (by kernel_rfl))
  f48 := Tryz.func210.trans (congrArg some (by kernel_rfl))
  f49 := ⟨Tryz.f271.name, by decide, Tryz.func271.trans (congrArg some (by kernel_rfl))⟩
  f50 := ⟨Tryz.f272.name, by decide, Tryz.func272.trans (congrArg some (by kernel_rfl))⟩
  f57 := ⟨Tryz.f274.name, by decide, Tryz.func274.trans (congrArg some (by kernel_rfl))⟩
  t0 := Tryz.underlying0
  a0 := Tryz.isAgg0
  z0 := Tryz.sizeOf0
  v0 := Tryz.zeroValue0
  t3 := Tryz.underlying3
  a3 := Tryz.isAgg3
  z3 := Tryz.sizeOf3
  v3 := Tryz.zeroValue3
  t4 := Tryz.underlying4
  a4 := Tryz.isAgg4
  z4 := Tryz.sizeOf4
  v4 := Tryz.zeroValue4
  t5 := Tryz.underlying5
  a5 := Tryz.isAgg5
  z5 := Tryz.sizeOf5
  v5 := Tryz.zeroValue5
  t9 := Tryz.underlying9
  a9 := Tryz.isAgg9
  z9 := Tryz.sizeOf9
  v9 := Tryz.zeroValue9
  t22 := Tryz.underlying28
  a22 := Tryz.isAgg28
  z22 := Tryz.sizeOf28
  v22 := Tryz.zeroValue28
  t25 := Tryz.underlying93
  a25 := Tryz.isAgg93
  z25 := Tryz.sizeOf93
  v25 := Tryz.zeroValue93
  t39 := Tryz.underlying87
  a39 := Tryz.isAgg87
  z39 := Tryz.sizeOf87
  v39 := Tryz.zeroValue87
  t45 := Tryz.underlying135
  a45 := Tryz.isAgg135
  z45 := Tryz.sizeOf135
  v45 := Tryz.zeroValue135
  t46 := Tryz.underlying136
  a46 := Tryz.isAgg136
  z46 := Tryz.sizeOf136
  v46 := Tryz.zeroValue136
  t50 := Tryz.underlying103
  a50 := Tryz.isAgg103
  z50 := Tryz.sizeOf103
  v50 := Tryz.zeroValue103
  t53 := Tryz.underlying142
  a53 := Tryz.isAgg142
  z53 := Tryz.sizeOf142
  v53 := Tryz.zeroValue142
  t55 := Tryz.underlying144
  a55 := Tryz.isAgg144
  z55 := Tryz.sizeOf144
  v55 := Tryz.zeroValue144
  t66 := Tryz.underlying182
  a66 := Tryz.isAgg182
  z66 := Tryz.sizeOf182
  v66 := Tryz.zeroValue182
  t70 := Tryz.underlying186
  a70 := Tryz.isAgg186
  z70 := Tryz.sizeOf186
  v70 := Tryz.zeroValue186
  t76 := Tryz.underlying206
  a76 := Tryz.isAgg206
  z76 := Tryz.sizeOf206
  v76 := Tryz.zeroValue206
  t77 := Tryz.underlying207
  a77 := Tryz.isAgg207
  z77 := Tryz.sizeOf207
  v77 := Tryz.zeroValue207 }
end
section
open Go.RowKit Go.Shelf
attribute [local irreducible] on aOp
attribute [local go_sem] decide_true decide_false Zk Zi
attribute [local simp] byD_len
theorem Yj9 (x y : En) : valC (.mk 0 [] [] [x]) (.mk 0 [] [] [y]) = entC x y := by
 rw [valC]
 show (if cmpI 0 0 ≠ 0 then _ else if lexC strC [] [] ≠ 0 then _ else if Ye6 [] [] ≠ 0 then _ else lexC entC [x] [y]) = _
 rw [show cmpI 0 0 = 0 by decide, if_neg (by decide), lexC, if_neg (by decide), Ye6, if_neg (by decide), lexC]
 split
 · rfl
 · rename_i h; rw [lexC]; exact (Decidable.not_not.1 h).symm
def selA (a b : List En) : List En := a.filter fun p => !b.any fun q => undE p q
def selB (a b : List En) : List En := b.filter fun q => !a.any fun p => belE q p
theorem merged_eq {a b l' : List En} (ha : regB a = true) (hb : regB b = true) (hp : l'.Perm (selA a b ++ selB a b)) (hs : l'.Pairwise fun x y => ¬ entC y x < 0) : l' = Uw a b := by
 obtain ⟨_, a2, a3⟩ := Wo.1 ha
 obtain ⟨_, b2, b3⟩ := Wo.1 hb
 have hA : ∀ c, c ∈ selA a b ↔ c ∈ a ∧ ∀ q ∈ b, undE c q = false := fun c => by
  unfold selA; rw [Zv, Bool.not_eq_true', List.any_eq_false]; simp only [Bool.not_eq_true]
 have hB : ∀ c, c ∈ selB a b ↔ c ∈ b ∧ ∀ p ∈ a, belE c p = false := fun c => by
  unfold selB; rw [Zv, Bool.not_eq_true', List.any_eq_false]; simp only [Bool.not_eq_true]
 have hu : ∀ c, undE c c = true := fun c => J1.2 (.inl rfl)
 have nd : ∀ {l : List En}, l.Pairwise ltE → l.Nodup := fun h => h.imp fun {x y} q (e : x = y) => by rw [e] at q; unfold ltE at q; rw [(Vn _ _).2 rfl] at q; omega
 have hn : l'.Nodup := hp.nodup_iff.2 (List.nodup_append.2 ⟨nd (a2.filter _), nd (b2.filter _), fun x hx y hy e => by
  subst e
  have h1 := ((hA x).1 hx).2 x ((hB x).1 hy).1
  rw [hu] at h1; cases h1⟩)
 refine Zl2 ((hs.and hn).imp fun {x y} q => ?_) (Zs8 _) fun c => ?_
 · have h1 := Yd4 x y
   have h2 : entC x y ≠ 0 := fun e => q.2 ((Vn _ _).1 e)
   have h3 := q.1
   unfold ltE
   omega
 · rw [hp.mem_iff, List.mem_append, hA, hB, U5]
   constructor
   · rintro (⟨h1, h2⟩ | ⟨h1, h2⟩)
     · refine ⟨.inl h1, fun f hf => hf.elim (a3 c h1 f) fun hf => ?_⟩
       have := h2 f hf
       unfold undE at this
       rw [Bool.or_eq_false_iff] at this
       exact this.2
     · exact ⟨.inr h1, fun f hf => hf.elim (h2 f) (b3 c h1 f)⟩
   · rintro ⟨h1, h2⟩
     by_cases hc : c ∈ b
     · exact .inr ⟨hc, fun p hp => h2 p (.inl hp)⟩
     · refine .inl ⟨h1.resolve_right hc, fun q hq => ?_⟩
       cases hq2 : undE c q
       · rfl
       · rcases J1.1 hq2 with e | e
         · exact absurd (e ▸ hq) hc
         · rw [h2 q (.inr hq)] at e; cases e
def eG (rows : List (List D)) (T : List Ob) : List Ob := .buf 69 2 rows :: T
section
variable {rows r2 : List (List D)} {T l : List Ob} {o p o2 : Ob}
theorem eG_0 : (eG rows T)[0]? = some (.buf 69 2 rows) := rfl
theorem eG_s : (eG rows T).set 0 (.buf 69 2 r2) = eG r2 T := rfl
theorem eG_len : (eG rows T).length = T.length + 1 := rfl
theorem eG_app : eG rows T ++ l = eG rows (T ++ l) := rfl
theorem eG_l : (eG rows (T ++ [o]))[T.length + 1]? = some o := by simp [eG]
theorem eG_sl : (eG rows (T ++ [o])).set (T.length + 1) o2 = eG rows (T ++ [o2]) := by simp [eG]
theorem eG_l1 : (eG rows (T ++ [o, p]))[T.length + 1]? = some o := by simp [eG]
theorem eG_l2 : (eG rows (T ++ [o, p]))[T.length + 1 + 1]? = some p := by simp [eG]
theorem eG_s2 : (eG rows (T ++ [o, p])).set (T.length + 1 + 1) o2 = eG rows (T ++ [o, o2]) := by simp [eG]
end
theorem entC_swo : Go.Sort.SWO (ltOf entC) where
 irrefl x := by have := Zv5.irrefl (.mk 0 [] [] [x]); simp only [ltOf, Yj9] at this ⊢; exact this
 trans x y z h k := by have := Zv5.trans (.mk 0 [] [] [x]) (.mk 0 [] [] [y]) (.mk 0 [] [] [z]); simp only [ltOf, Yj9] at this h k ⊢; exact this h k
 ntrans x y z h k := by have := Zv5.ntrans (.mk 0 [] [] [x]) (.mk 0 [] [] [y]) (.mk 0 [] [] [z]); simp only [ltOf, Yj9] at this h k ⊢; exact this h k
variable (G : Nat → D) (hG : ∀ g, low 0 (G g))
include hG
attribute [local go_sem] Zp Zq Zr Z5 Z3 Z7 Z8 Zf Zl Za Zb Zm
attribute [local go_sem ↓] reduceIte
theorem mrg2_d (x y : En) (sx : x.clock.length ≤ 9223372036854775807 ∧ x.name.size ≤ 9223372036854775807) (sy : y.clock.length ≤ 9223372036854775807 ∧ y.name.size ≤ 9223372036854775807) : Does Zd G 195 [] [.agg (enX x), .agg (enX y)] (fun h' r => h' = [] ∧ r = .v (.int .i64 (entC x y))) := by
 have hv : ∀ e : En, (e.clock.length ≤ 9223372036854775807 ∧ e.name.size ≤ 9223372036854775807) → VSm (.mk 0 [] [] [e]) := fun e se => .mk _ (by simp [Val.names]) (by simp [Val.parts]) (by simp [Val.entries]) (by simp [Val.names]) (fun e' he' => by rw [Ze.1 (show e' ∈ [e] from he')]; exact se) (by simp [Val.parts])
 have hc := Zt4 G hG _ (.mk 0 [] [] [x]) (.mk 0 [] [] [y]) (Y0 _) (hv x sx) (hv y sy)
 rw [Yj9, Y5, Y5] at hc
 simp only [Val.n, Val.names, Val.parts, Val.entries, List.map_nil, List.map_cons, X1 x, X1 y] at hc
 refine Y6 Tryz.func195 rfl (Z1 rfl) hG fun hl0 _ => ?_
 simp only [Tryz.ntmps195]
 have F : _ ∧ _ := ⟨X1 x, X1 y⟩
 repeat' first
  | (with_reducible refine Y7 ?_; first | (refine Ze1 7 (.agg [.v (.int .i64 0), .v (.slice none 0 0), .v (.slice none 0 0), .sl 2 [[.sl 2 (x.clock.map tkX), .v (.string x.name)]]]) (.agg [.v (.int .i64 0), .sl 1 [], .sl 4 [], .sl 2 [[.sl 2 (x.clock.map tkX), .v (.string x.name)]]]) (by with_unfolding_all rfl) (Zj7 X7 X7 (W7 _)) ?_) | (refine Ze1 10 (.agg [.v (.int .i64 0), .v (.slice none 0 0), .v (.slice none 0 0), .sl 2 [[.sl 2 (y.clock.map tkX), .v (.string y.name)]]]) (.agg [.v (.int .i64 0), .sl 1 [], .sl 4 [], .sl 2 [[.sl 2 (y.clock.map tkX), .v (.string y.name)]]]) (by with_unfolding_all rfl) (Zj7 X7 X7 (W7 _)) ?_) | (refine ao_bldP rfl (by (simp only [go_sem, F]; rfl)) (by simp) ?_))
  | refine g0 ?_
  | (with_reducible refine Y7 ?_; refine gc rfl rfl rfl ent_44 (hc _) ?_)
 all_goals first | (exfalso; omega) | exact ⟨.inr rfl, endD (r := .v (.int .i64 (entC x y))) hl0 rfl (by simp) (by simp) rfl (by rw [low]; trivial) ⟨rfl, rfl⟩⟩
theorem mrg1_d (q p : En) (sq : ESm q) (sp : ESm p) (kq : X2 q.clock = true) (hp : X2 p.clock = true) {h : List Ob} {j : Nat} (hj : h[j]? = some (.cells (enX q))) : Does Zd G 192 h [.agg (enX p), .ptr j 0] (fun h' r => h' = h ∧ r = .v (.bool (belE q p))) := by
 have hc := Zj5 G hG q.clock p.clock sq sp
 obtain ⟨hb1, hb2⟩ := Um kq hp
 have hr : belE q p = decide (Xx q.clock p.clock = 1) := by unfold belE; rw [← hb1]; rw [Bool.eq_iff_iff]; simp
 rw [hr]
 clear hb1 hb2 hr
 generalize Xx q.clock p.clock = c at *
 have hj2 : ∀ x, (h ++ x)[j]? = some (.cells (enX q)) := fun x => by rw [List.getElem?_append_left (List.getElem?_eq_some_iff.1 hj).1]; exact hj
 simp only [X1 q] at hj2
 refine Y6 Tryz.func192 rfl (Z1 rfl) hG fun hl0 _ => ?_
 simp only [Tryz.ntmps192]
 have F : _ ∧ _ ∧ _ := ⟨X1 q, X1 p, hj2⟩
 repeat' first
  | refine gg ?_
  | refine Two.mk (fun hq => ?_) fun hq => ?_
  | (with_reducible refine Y7 ?_; refine gc rfl rfl rfl Yp3 (hc _) ?_)
 all_goals first | (exfalso; omega) | exact ⟨.inr rfl, endD (r := .v (.bool _)) hl0 rfl (by simp) (by simp) rfl (by rw [low]; trivial) ⟨rfl, by first | rfl | (simp [hq]; done) | (congr 2; rw [Bool.eq_iff_iff]; simp)⟩⟩
end
section
open Go.RowKit Go.Shelf
attribute [local irreducible] on aOp
attribute [local go_sem] decide_true decide_false Zk Zi
attribute [local simp] byD_len
def ESz (e : En) : Prop := e.clock.length ≤ 9223372036854775807 ∧ e.name.size ≤ 9223372036854775807
theorem sel_take {l : List En} {k : Nat} {x : En} (f : En → Bool) (hx : l[k]? = some x) : (l.take (k + 1)).filter f = (l.take k).filter f ++ if f x then [x] else [] := by
 rw [Zx, hx, List.filter_append]; simp [List.filter_cons]
variable (G : Nat → D) (hG : ∀ g, low 0 (G g))
include hG
theorem sortE_d (L : List En) (hL : ∀ x ∈ L, ESz x) (hsz : L.length ≤ 1000000) {h : List Ob} {i : Nat} (hi : h[i]? = some (.buf 69 2 (L.map enX))) :
 Does Zd G 194 h [.buf i L.length, .fn 195 []] (fun h' r => ∃ l' : List En, l'.Perm L ∧ l'.Pairwise (fun x y => ¬ entC y x < 0) ∧ h' = h.set i (.buf 69 2 (l'.map enX)) ∧ r = .tup []) :=
 sort_does (xX := enX) (okX := ESz) (k := 2) (ρ := Yb2) hG laysSoE Tryz.isAgg69 Tryz.sizeOf69 (by decide) (fun x _ => rfl) (fun x _ => rfl) (fun x => Zu5 0 x) entC_swo (enters_of Tryz.func195 (by kernel_rfl) rfl) (fun x y hx hy => mrg2_d G hG x y hx hy) hL hsz hi
attribute [local go_sem] Zo Zp Zq Zr Zg Zh Z5 Z0 Z3 Z4 Z7 Z8 Zf Zl Za Zb Zm eG_0 eG_app eG_l eG_l1 eG_l2 eG_len eG_s eG_s2 eG_sl
attribute [local go_sem ↓] reduceIte
theorem merged_d (a b : List En) (ha : regB a = true) (hb : regB b = true) (sa : ∀ e ∈ a, ESz e) (sb : ∀ e ∈ b, ESz e) (ca : ∀ e ∈ a, X2 e.clock = true) (cb : ∀ e ∈ b, X2 e.clock = true) (hal : a.length ≤ 100000) (hbl : b.length ≤ 100000) (h : List Ob) : Does Zd G 133 h [.sl 2 (a.map enX), .sl 2 (b.map enX)] (fun h' r => h' = h ∧ r = .sl 2 ((Uw a b).map enX)) := by
 refine Y9 G hG (by simp only [lowL]; exact ⟨Zm4 (m := 0) a, Zm4 (m := 0) b, trivial⟩) (Zm4 (m := 0) _) ?_ h
 clear h
 have hA := fun p hp => covered_d G hG p b (sa p hp).1 (fun q hq => (sb q hq).1) (by omega) (ca p hp) cb
 have hB := fun q hq (h : List Ob) (j : Nat) hj => Yd7 G a (fun p => belE q p) 192 [.ptr j 0] ent_192 (by omega) h (fun p hp => mrg1_d G hG q p (sb q hq).1 (sa p hp).1 (cb q hq) (ca p hp) hj)
 refine Y6 Tryz.func133 rfl (Z1 rfl) hG fun hl0 _ => ?_
 simp only [Tryz.ntmps133]
 repeat' first
  | (with_reducible refine Yc ?_; (refine Zh8 69 2 5 (by with_unfolding_all rfl) ?_))
  | refine g0 ?_
  | fail
 all_goals first | (exfalso; omega) | skip
 refine Yh (fun m e h' => ∃ (k : Nat) (T : List Ob), k ≤ a.length ∧ m = a.length - k ∧ h' = eG ((((a.take k).filter fun p => !b.any fun q => undE p q)).map enX) T ∧ e 0 = .sl 2 (a.map enX) ∧ e 1 = .sl 2 (b.map enX) ∧ e 5 = .buf 0 ((a.take k).filter fun p => !b.any fun q => undE p q).length ∧ e 10 = .sl 2 (a.map enX) ∧ e 11 = .v (.int .i64 a.length) ∧ e 12 = .v (.int .i64 k)) a.length ⟨0, [], Z2 _, rfl, rfl, rfl, rfl, rfl, rfl, rfl, rfl⟩ ?_
 rintro m e h' ⟨k, T, hk, rfl, rfl, e0, e1, e5, e10, e11, e12⟩
 by_cases hlt : k < a.length
 · have hx : a[k]? = some a[k] := Zc hlt
   have hc := hA _ (Zj hlt)
   have hst := sel_take (fun p => !b.any fun q => undE p q) hx
   have hsl : ((a.take k).filter fun p => !b.any fun q => undE p q).length ≤ 100000 := by have := Z9 (fun p => !b.any fun q => undE p q) (a.take k); rw [Zs] at this; omega
   generalize a[k] = x at hx hc hst
   have wk : IntKind.i64.wrap ((k : Int) + 1) = (k : Int) + 1 := IntWalk.i64_in _ (by omega)
   generalize (a.take k).filter (fun p => !b.any fun q => undE p q) = S at *
   have hlr : (S.map enX).length = S.length := Z4 _
   have hro : Yz 2 [enX x] := fun row hr => by rw [Ze.1 hr]; exact ⟨rfl, fun d hd => by simp [X1] at hd; rcases hd with rfl | rfl <;> rfl⟩
   simp only [X1 x] at hc hro
   cases hcb : (b.any fun q => undE x q)
   · rw [hcb] at hc hst
     simp only [Zi, if_true] at hst
     have F : _ ∧ _ ∧ _ ∧ _ ∧ _ ∧ _ ∧ _ ∧ _ := ⟨e0, e1, e5, e10, e11, e12, X1 x, wk⟩
     repeat' first
      | (with_reducible refine Y7 ?_; (refine Xy rfl rfl rfl rfl (by (simp only [go_sem, F]; rfl)) hlr (by simp only [go_sem, F]; rfl) (by (simp only [go_sem, F]; rfl)) (by simp) hro (by first | omega | (simp; omega)) ?_))
      | refine gg ?_
      | refine Two.mk (fun hq => ?_) fun hq => ?_
      | (with_reducible refine Y7 ?_; refine gc rfl rfl rfl Yp5 (hc _) ?_)
      | (exfalso; omega)
     all_goals first | (exfalso; omega) | exact ⟨rfl, a.length - (k + 1), by omega, k + 1, _, hlt, rfl, (by rw [hst, Zu, List.map_cons, List.map_nil, X1 x]), e0, e1, (by rw [hst, Z0]; rfl), e10, e11, rfl⟩
   · rw [hcb] at hc hst
     simp only [Zk, Zo, if_false, Zz] at hst
     have F : _ ∧ _ ∧ _ ∧ _ ∧ _ ∧ _ ∧ _ ∧ _ := ⟨e0, e1, e5, e10, e11, e12, X1 x, wk⟩
     repeat' first
      | refine gg ?_
      | refine Two.mk (fun hq => ?_) fun hq => ?_
      | (with_reducible refine Y7 ?_; refine gc rfl rfl rfl Yp5 (hc _) ?_)
      | (exfalso; omega)
     all_goals first | (exfalso; omega) | exact ⟨rfl, a.length - (k + 1), by omega, k + 1, _, hlt, rfl, (by rw [hst]), e0, e1, (by rw [hst]; exact e5), e10, e11, rfl⟩
 obtain rfl : k = a.length := by omega
 rw [Zt, show (a.filter fun p => !b.any fun q => undE p q) = selA a b from rfl] at *
 have hsA : (selA a b).length ≤ 100000 := by have := Z9 (fun p => !b.any fun q => undE p q) a; unfold selA; omega
 have F : _ ∧ _ ∧ _ ∧ _ ∧ _ ∧ _ := ⟨e0, e1, e5, e10, e11, e12⟩
 repeat' first
  | refine gg ?_
  | refine Two.mk (fun hq => ?_) fun hq => ?_
  | refine Evry.mk fun x hx => ?_
  | (exfalso; omega)
 all_goals first | (exfalso; omega) | skip
 refine Yh (fun m e h' => ∃ (k : Nat) (T : List Ob), k ≤ b.length ∧ m = b.length - k ∧ h' = eG ((selA a b ++ ((b.take k).filter fun q => !a.any fun p => belE q p)).map enX) T ∧ e 0 = .sl 2 (a.map enX) ∧ e 5 = .buf 0 ((selA a b).length + ((b.take k).filter fun q => !a.any fun p => belE q p).length) ∧ e 25 = .sl 2 (b.map enX) ∧ e 26 = .v (.int .i64 b.length) ∧ e 27 = .v (.int .i64 k)) b.length ⟨0, T, Z2 _, rfl, (by rw [List.take_zero, List.filter_nil, Zz]), e0, e5, rfl, rfl, rfl⟩ ?_
 clear e0 e1 e5 e10 e11 e12 hlt hk T hA
 rintro m e h' ⟨k, T, hk, rfl, rfl, e0, e5, e25, e26, e27⟩
 by_cases hlt : k < b.length
 · have hx : b[k]? = some b[k] := Zc hlt
   have hc := hB _ (Zj hlt)
   have hst := sel_take (fun q => !a.any fun p => belE q p) hx
   have hsl : ((b.take k).filter fun q => !a.any fun p => belE q p).length ≤ 100000 := by have := Z9 (fun q => !a.any fun p => belE q p) (b.take k); rw [Zs] at this; omega
   generalize b[k] = x at hx hc hst
   have wk : IntKind.i64.wrap ((k : Int) + 1) = (k : Int) + 1 := IntWalk.i64_in _ (by omega)
   generalize (b.take k).filter (fun q => !a.any fun p => belE q p) = S at *
   generalize selA a b = R at *
   have hlr : ((R ++ S).map enX).length = R.length + S.length := by rw [Z4, Z0]
   have hro : Yz 2 [enX x] := fun row hr => by rw [Ze.1 hr]; exact ⟨rfl, fun d hd => by simp [X1] at hd; rcases hd with rfl | rfl <;> rfl⟩
   simp only [X1 x] at hc hro
   cases hcb : (a.any fun p => belE x p)
   · rw [hcb] at hc hst
     simp only [Zi, if_true] at hst
     have F : _ ∧ _ ∧ _ ∧ _ ∧ _ ∧ _ ∧ _ := ⟨e0, e5, e25, e26, e27, X1 x, wk⟩
     repeat' first
      | (with_reducible refine Y7 ?_; first | (refine ao_mkf rfl rfl ?_) | (refine Xy rfl rfl rfl rfl (by (simp only [go_sem, F]; rfl)) hlr (by simp only [go_sem, F]; rfl) (by (simp only [go_sem, F]; rfl)) (by simp) hro (by first | omega | (simp; omega)) ?_))
      | refine gg ?_
      | refine Two.mk (fun hq => ?_) fun hq => ?_
      | (with_reducible refine Y7 ?_; refine gc rfl rfl rfl ent_184 (hc _ _ eG_l) ?_)
      | (exfalso; omega)
     all_goals first | (exfalso; omega) | exact ⟨rfl, b.length - (k + 1), by omega, k + 1, _, hlt, rfl, (by rw [hst, ← Zh R S [x], Zu (l₁ := R ++ S)]; rfl), e0, (by rw [hst, Z0]; rfl), e25, e26, rfl⟩
   · rw [hcb] at hc hst
     simp only [Zk, Zo, if_false, Zz] at hst
     have F : _ ∧ _ ∧ _ ∧ _ ∧ _ ∧ _ ∧ _ := ⟨e0, e5, e25, e26, e27, X1 x, wk⟩
     repeat' first
      | (with_reducible refine Y7 ?_; (refine ao_mkf rfl rfl ?_))
      | refine gg ?_
      | refine Two.mk (fun hq => ?_) fun hq => ?_
      | (with_reducible refine Y7 ?_; refine gc rfl rfl rfl ent_184 (hc _ _ eG_l) ?_)
      | (exfalso; omega)
     all_goals first | (exfalso; omega) | exact ⟨rfl, b.length - (k + 1), by omega, k + 1, _, hlt, rfl, (by rw [hst]), e0, (by rw [hst]; exact e5), e25, e26, rfl⟩
 obtain rfl : k = b.length := by omega
 rw [Zt, show (b.filter fun q => !a.any fun p => belE q p) = selB a b from rfl] at *
 have hsB : (selB a b).length ≤ 100000 := by have := Z9 (fun q => !a.any fun p => belE q p) b; unfold selB; omega
 have hmm : ∀ x ∈ selA a b ++ selB a b, ESz x := fun x hx => (List.mem_append.1 hx).elim (fun h => sa x (Zv.1 h).1) fun h => sb x (Zv.1 h).1
 have hme := fun l' => merged_eq (l' := l') ha hb
 rw [← Z0] at e5
 have hso := fun (T : List Ob) => sortE_d G hG (selA a b ++ selB a b) hmm (by rw [Z0]; omega) (h := eG ((selA a b ++ selB a b).map enX) T) (i := 0) rfl
 generalize selA a b ++ selB a b = L at *
 have hlo := Zm4 (m := 0) (Uw a b)
 have F : _ ∧ _ ∧ _ ∧ _ ∧ _ := ⟨e0, e5, e25, e26, e27⟩
 repeat' first
  | (with_reducible refine Y7 ?_; (refine Za0 rfl rfl rfl (by kernel_rfl) (hso _) ?_; rintro _ _ ⟨l', hp, hs, rfl, rfl⟩; obtain rfl := hme l' hp hs; have hpl := hp.length_eq))
  | refine gg ?_
  | refine Two.mk (fun hq => ?_) fun hq => ?_
  | refine Evry.mk fun x hx => ?_
  | (exfalso; omega)
 all_goals first | (exfalso; omega) | exact ⟨.inr rfl, endD (ds := [.buf 0 L.length]) (r := .sl 2 ((Uw a b).map enX)) hl0 rfl (by simp) (by simp) (by simp [outD, cvD, cv1, eG, hpl]) hlo ⟨rfl, rfl⟩⟩
end
end Go.Proofs.YtbhkcbidcfofiaaGreat
