/-
  What the statements of the chapter share, part 25: RV9, RT0, RR1, RR2, RR3, RR4, RR5, RR6.
-/
import Derived.Test.YtmdjnaobllajmaaGreatDoorY10
import Derived.Test.YtmdjnaobllajmaaGreatDoorY14
import Derived.Test.YtmdjnaobllajmaaGreatDoorY17
import Derived.Test.YtmdjnaobllajmaaGreatDoorY23
import Derived.Test.YtmdjnaobllajmaaGreatDoorY24
set_option linter.unusedVariables false
set_option linter.unusedSimpArgs false
set_option maxRecDepth 100000
set_option maxHeartbeats 8000000
namespace Go.Proofs.YtmdjnaobllajmaaGreatDoor
open _root_.Bool renaming and_eq_true → Z1, eq_false_iff → Z4, true_and → Z7, false_eq_true → Za, not_false → Zf, not_true → Zj, false_and → Zo
open _root_.Int renaming reduceEq → Zg, reduceLE → Zh, reduceLT → Zi, toNat_natCast → Zp
open _root_.List renaming getElem?_eq_some_iff → Z2, getElem?_eq_getElem → Z8, getElem?_set_self → Z9, drop_eq_getElem_cons → Zb, drop_eq_nil_of_le → Zk, getElem_mem → Zl, length_set → Zm, set_set → Zn, all_eq_true → Zr, drop → Zs
open _root_.Nat renaming le_of_ble_eq_true → Z0, reduceEqDiff → Z5, reduceLeDiff → Z6, reduceAdd → Zc, reduceBEq → Zd, reduceMul → Ze, le_refl → Zq
open _root_.Go.Proofs.Tryz renaming prog → Z3
open Go.RowKit
section
set_option maxHeartbeats 16000000
attribute [local irreducible] on aOp
attribute [local go_sem] decide_true decide_false Zj Zf
attribute [local simp] byD_len
theorem Ris.nodup {l : List ByteArray} (h : Ris l) : l.Nodup := List.Pairwise.imp (fun {a b} q e => by subst e; exact List.lt_irrefl _ (Zj8.1 q)) h
theorem WfL.rules {l : Lat} (h : WfL l) : ∀ r ∈ l.rules, Ris r.cond ∧ r.cond.length ≤ 1000000 := by
 have h1 := h.spell
 have h2 := h.kinds.2.2.2.2.2.2.2.1
 unfold Zj9 at h1
 rw [Bool.not_eq_false', Z1] at h1
 intro r hr
 have h3 := Zr.1 h1.2 r hr
 unfold ruleB at h3
 simp only [Z1] at h3
 have hs := ris_of h3.1.1.2
 refine ⟨hs, ?_⟩
 have hsub : r.cond ⊆ l.names := fun x hx => (Zm4 _ _).1 (Zr.1 h3.1.2 x hx)
 have := List.Nodup.length_le_of_subset hs.nodup hsub
 omega
theorem allowed_len {only list : List ByteArray} (h : Yw only list = true) (ho : only.length ≠ 0) : list.length ≤ only.length := by
 unfold Yw at h
 rw [Z1] at h
 refine List.Nodup.length_le_of_subset (ris_of h.1).nodup fun x hx => ?_
 have := Zr.1 h.2 x hx
 unfold memB at this
 rw [decide_eq_false ho, Bool.false_or, Z1] at this
 exact (Zm4 _ _).1 this.2
theorem Vv (v : Val) (n list parts entries : Bool) : Vf v n list parts entries = true ↔ ((n = true ∨ v.n = 0) ∧ (list = true ∨ v.names.length = 0) ∧ (parts = true ∨ v.parts.length = 0) ∧ (entries = true ∨ v.entries.length = 0)) := by
 unfold Vf
 simp only [Z1, Bool.or_eq_true, decide_eq_true_eq, and_assoc]
theorem Yd5 {l : Lat} {v : Val} (h : l.kind = 1) : Yt l v = true ↔ v.entries.length = 0 ∧ (v.n = 0 ∨ v.n = 1) ∧ v.names.length = 0 ∧ v.parts.length = 0 := by
 rw [el_1 h, Z1, Vv, decide_eq_true_eq]
 grind
theorem Uu {l : Lat} {v : Val} (h : l.kind = 2 ∨ l.kind = 3) : Yt l v = true ↔ v.entries.length = 0 ∧ (l.lo ≤ v.n ∧ v.n ≤ l.hi) ∧ v.names.length = 0 ∧ v.parts.length = 0 := by
 rw [el_23 h, Z1, Vv, decide_eq_true_eq]
 grind
theorem Zp0 {l : Lat} {v : Val} (h : l.kind = 4) : Yt l v = true ↔ v.entries.length = 0 ∧ v.n = 0 ∧ v.parts.length = 0 ∧ Yw l.names v.names = true := by
 rw [el_4 h, Z1, Vv]
 grind
theorem Uv {l : Lat} {v : Val} (h : l.kind = 10) : Yt l v = true ↔ v.entries.length = 0 ∧ v.n = 0 ∧ v.parts.length = 0 ∧ Yw l.names v.names = true ∧ Jk l.rules v.names = true := by
 rw [el_10 h, Z1, Z1, Vv]
 grind
theorem Zo9 {l : Lat} {v : Val} (h : l.kind = 8) : Yt l v = true ↔ v.entries.length = 0 ∧ v.parts.length = 0 ∧ ((v.n = 0 ∨ v.n = 2) ∧ v.names.length = 0 ∨ v.n = 1 ∧ v.names.length = 1 ∧ Yw l.names v.names = true) := by
 rw [el_8 h]
 by_cases h1 : v.n = 0 ∨ v.n = 2
 · rw [if_pos h1, Vv]
   grind
 · rw [if_neg h1]
   by_cases h2 : v.n = 1
   · rw [if_pos h2, Z1, Z1, Vv, decide_eq_true_eq]
     grind
   · rw [if_neg h2]
     grind
theorem Zo8 {l : Lat} {v : Val} (h : l.kind = 9) : Yt l v = true ↔ v.n = 0 ∧ v.names.length = 0 ∧ v.parts.length = 0 ∧ regB v.entries = true := by
 rw [el_9 h, Z1, Vv]
 grind
theorem Yd4 {l : Lat} {v : Val} {p : Lat} (h : l.kind = 5) (hp : l.parts = [p]) : Yt l v = (decide (v.entries.length = 0) && (decide (v.n = 0) && (decide (v.names.length = v.parts.length) && (Yw l.names v.names && v.parts.all fun v => Yt p v && decide (valC v (botV p) ≠ 0))))) := by
  rw [el_5 h, hp, map_one, Bool.eq_iff_iff]
  simp only [Z1, Vv, decide_eq_true_eq]
  grind
theorem Zz1 {l : Lat} {v : Val} (h : l.kind = 6 ∨ l.kind = 7) : Yt l v = (decide (v.entries.length = 0) && (decide (v.n = 0) && (decide (v.names.length = 0) && (decide (v.parts.length = l.parts.length) && Vm l.parts v.parts)))) := by
 rw [el_67 h, Bool.eq_iff_iff]
 simp only [Z1, Vv, decide_eq_true_eq]
 grind
variable (G : Nat → D) (hG : ∀ g, low 0 (G g))
include hG
attribute [local go_sem] Za Zg Zh Zi Zp Int.toNat_zero List.length_map Zc Zd Z5 Z6 Ze vM_0 vM_1 vM_len
attribute [local go_sem ↓] reduceIte
theorem relement_d (f : Nat) : ∀ (l : Lat) (v : Val), SizeOf.sizeOf l ≤ f → WfL l → Sm l → VSm v → ∀ h : List Ob, Does Z3 G 38 h [.agg (latX l), .agg (vaX v)] (fun h' r => h' = h ∧ r = .v (.bool (Yt l v))) := by
 induction f with
 | zero => intro l v hn; cases l; simp at hn
 | succ f ih =>
 intro l v hn hwf hsm hv h
 refine Yk G hG (by simp only [lowL, low]; exact ⟨U4 _ l, Xu _ v, trivial⟩) (by rw [low]; trivial) ?_ h
 clear h
 obtain ⟨hk0, hk5, hk7, hk6, _, _, _, hnl, _, hk10, _⟩ := hwf.kinds
 have hal := rmembers_d G hG l.names v.names hsm.names hv.names hv.texts
 have hrg := rents_d G hG v.entries hv.entries hv.ents
 have hvn := hv.names
 have hvp := hv.parts
 have hve := hv.entries
 have hpp : ∀ p ∈ l.parts, ∀ x ∈ v.parts, ∀ h, Does Z3 G 38 h [.agg (latX p), .agg (vaX x)] (fun h' r => h' = h ∧ r = .v (.bool (Yt p x))) := fun p hp x hx => ih p x (by have := V6 hp; omega) (hwf.part hp) (hsm.part p hp) (hv.part x hx)
 refine Y5 Tryz.func38 rfl (Z0 rfl) hG fun hl0 _ => ?_
 simp only [Tryz.ntmps38]
 by_cases h1 : l.kind = 1
 · skip
   have F : _ ∧ _ ∧ _ := ⟨Y4 l, Ya v, h1⟩
   repeat' first
    | refine g ?_
    | refine Two.mk (fun hq => ?_) fun hq => ?_
   all_goals first | (exfalso; omega) | exact ⟨.inr rfl, endD (r := .v (.bool true)) hl0 rfl (by simp) (by simp) rfl (by rw [low]; trivial) ⟨rfl, by rw [(Yd5 (v := v) h1).2 (by grind)]⟩⟩ | exact ⟨.inr rfl, endD (r := .v (.bool false)) hl0 rfl (by simp) (by simp) rfl (by rw [low]; trivial) ⟨rfl, by rw [show Yt l v = false from Z4.2 (fun q => by have := (Yd5 (v := v) h1).1 q; grind)]⟩⟩
 by_cases h23 : l.kind = 2 ∨ l.kind = 3
 · rcases h23 with h2 | h2
   · skip
     have F : _ ∧ _ ∧ _ := ⟨Y4 l, Ya v, h2⟩
     repeat' first
      | refine g ?_
      | refine Two.mk (fun hq => ?_) fun hq => ?_
     all_goals first | (exfalso; omega) | exact ⟨.inr rfl, endD (r := .v (.bool true)) hl0 rfl (by simp) (by simp) rfl (by rw [low]; trivial) ⟨rfl, by rw [(Uu (v := v) (.inl h2)).2 (by grind)]⟩⟩ | exact ⟨.inr rfl, endD (r := .v (.bool false)) hl0 rfl (by simp) (by simp) rfl (by rw [low]; trivial) ⟨rfl, by rw [show Yt l v = false from Z4.2 (fun q => by have := (Uu (v := v) (.inl h2)).1 q; grind)]⟩⟩
   · skip
     have F : _ ∧ _ ∧ _ := ⟨Y4 l, Ya v, h2⟩
     repeat' first
      | refine g ?_
      | refine Two.mk (fun hq => ?_) fun hq => ?_
     all_goals first | (exfalso; omega) | exact ⟨.inr rfl, endD (r := .v (.bool true)) hl0 rfl (by simp) (by simp) rfl (by rw [low]; trivial) ⟨rfl, by rw [(Uu (v := v) (.inr h2)).2 (by grind)]⟩⟩ | exact ⟨.inr rfl, endD (r := .v (.bool false)) hl0 rfl (by simp) (by simp) rfl (by rw [low]; trivial) ⟨rfl, by rw [show Yt l v = false from Z4.2 (fun q => by have := (Uu (v := v) (.inr h2)).1 q; grind)]⟩⟩
 by_cases h4 : l.kind = 4
 · cases hA : Yw l.names v.names <;> rw [hA] at hal
   all_goals
    have F : _ ∧ _ ∧ _ := ⟨Y4 l, Ya v, h4⟩
    repeat' first
     | refine g ?_
     | refine Two.mk (fun hq => ?_) fun hq => ?_
     | (with_reducible refine Y7 ?_; refine gc rfl rfl rfl Zy4 (hal _) ?_)
    all_goals first | (exfalso; omega) | exact ⟨.inr rfl, endD (r := .v (.bool true)) hl0 rfl (by simp) (by simp) rfl (by rw [low]; trivial) ⟨rfl, by rw [(Zp0 (v := v) h4).2 (by grind)]⟩⟩ | exact ⟨.inr rfl, endD (r := .v (.bool false)) hl0 rfl (by simp) (by simp) rfl (by rw [low]; trivial) ⟨rfl, by rw [show Yt l v = false from Z4.2 (fun q => by have := (Zp0 (v := v) h4).1 q; grind)]⟩⟩
 by_cases h8 : l.kind = 8
 · cases hA : Yw l.names v.names <;> rw [hA] at hal
   all_goals
    have F : _ ∧ _ ∧ _ := ⟨Y4 l, Ya v, h8⟩
    repeat' first
     | refine g ?_
     | refine Two.mk (fun hq => ?_) fun hq => ?_
     | (with_reducible refine Y7 ?_; refine gc rfl rfl rfl Zy4 (hal _) ?_)
     | (exfalso; omega)
    all_goals first | (exfalso; omega) | exact ⟨.inr rfl, endD (r := .v (.bool true)) hl0 rfl (by simp) (by simp) rfl (by rw [low]; trivial) ⟨rfl, by rw [(Zo9 (v := v) h8).2 (by grind)]⟩⟩ | exact ⟨.inr rfl, endD (r := .v (.bool false)) hl0 rfl (by simp) (by simp) rfl (by rw [low]; trivial) ⟨rfl, by rw [show Yt l v = false from Z4.2 (fun q => by have := (Zo9 (v := v) h8).1 q; grind)]⟩⟩
 by_cases h9 : l.kind = 9
 · cases hA : regB v.entries <;> rw [hA] at hrg
   all_goals
    have F : _ ∧ _ ∧ _ := ⟨Y4 l, Ya v, h9⟩
    repeat' first
     | refine g ?_
     | refine Two.mk (fun hq => ?_) fun hq => ?_
     | (with_reducible refine Y7 ?_; refine gc rfl rfl rfl ent_69 (hrg _) ?_)
    all_goals first | (exfalso; omega) | exact ⟨.inr rfl, endD (r := .v (.bool true)) hl0 rfl (by simp) (by simp) rfl (by rw [low]; trivial) ⟨rfl, by rw [(Zo8 (v := v) h9).2 (by grind)]⟩⟩ | exact ⟨.inr rfl, endD (r := .v (.bool false)) hl0 rfl (by simp) (by simp) rfl (by rw [low]; trivial) ⟨rfl, by rw [show Yt l v = false from Z4.2 (fun q => by have := (Zo8 (v := v) h9).1 q; grind)]⟩⟩
 by_cases h10 : l.kind = 10
 · cases hA : Yw l.names v.names <;> rw [hA] at hal
   · skip
     have F : _ ∧ _ ∧ _ := ⟨Y4 l, Ya v, h10⟩
     repeat' first
      | refine g ?_
      | refine Two.mk (fun hq => ?_) fun hq => ?_
      | (with_reducible refine Y7 ?_; refine gc rfl rfl rfl Zy4 (hal _) ?_)
     all_goals first | (exfalso; omega) | exact ⟨.inr rfl, endD (r := .v (.bool true)) hl0 rfl (by simp) (by simp) rfl (by rw [low]; trivial) ⟨rfl, by rw [(Uv (v := v) h10).2 (by grind)]⟩⟩ | exact ⟨.inr rfl, endD (r := .v (.bool false)) hl0 rfl (by simp) (by simp) rfl (by rw [low]; trivial) ⟨rfl, by rw [show Yt l v = false from Z4.2 (fun q => by have := (Uv (v := v) h10).1 q; grind)]⟩⟩
   · have hcl := rclosed_d G hG l.rules v.names hsm.rules hwf.rules (by have := allowed_len hA (by have := hk10 h10; omega); omega)
     cases hC : Jk l.rules v.names <;> rw [hC] at hcl
     all_goals
      have F : _ ∧ _ ∧ _ := ⟨Y4 l, Ya v, h10⟩
      repeat' first
       | refine g ?_
       | refine Two.mk (fun hq => ?_) fun hq => ?_
       | (with_reducible refine Y7 ?_; first | refine gc rfl rfl rfl Zy4 (hal _) ?_ | refine gc rfl rfl rfl ent_70 (hcl _) ?_)
      all_goals first | (exfalso; omega) | exact ⟨.inr rfl, endD (r := .v (.bool true)) hl0 rfl (by simp) (by simp) rfl (by rw [low]; trivial) ⟨rfl, by rw [(Uv (v := v) h10).2 (by grind)]⟩⟩ | exact ⟨.inr rfl, endD (r := .v (.bool false)) hl0 rfl (by simp) (by simp) rfl (by rw [low]; trivial) ⟨rfl, by rw [show Yt l v = false from Z4.2 (fun q => by have := (Uv (v := v) h10).1 q; grind)]⟩⟩
 by_cases h5 : l.kind = 5
 · obtain ⟨p, hp⟩ := List.length_eq_one_iff.1 (hk5 h5)
   have hpm : p ∈ l.parts := by rw [hp]; simp
   have hp0 : l.parts[0]? = some p := by rw [hp]; rfl
   have hpl : (l.parts.length : Int) = 1 := by rw [hp]; rfl
   have hE := Yd4 (v := v) h5 hp
   have hbo := least_d G hG _ p (Zq _) (hwf.part hpm)
   have hvb := vsm_bot _ p (Zq _) (hsm.part p hpm)
   have hpp := hpp p hpm
   clear hp hk10
   simp only [Y4 p] at hbo hpp
   cases hA : Yw l.names v.names <;> rw [hA] at hal hE
   · have e0 : Yt l v = false := by rw [hE]; simp
     rw [e0]
     have F : _ ∧ _ ∧ _ := ⟨Y4 l, Ya v, h5⟩
     repeat' first
      | refine g ?_
      | refine Two.mk (fun hq => ?_) fun hq => ?_
      | (with_reducible refine Y7 ?_; refine gc rfl rfl rfl Zy4 (hal _) ?_)
     all_goals first | (exfalso; omega) | exact ⟨.inr rfl, endD (r := .v (.bool false)) hl0 rfl (by simp) (by simp) rfl (by rw [low]; trivial) ⟨rfl, rfl⟩⟩
   by_cases hb : v.entries.length = 0 ∧ v.n = 0 ∧ v.names.length = v.parts.length
   rotate_left
   · have e0 : Yt l v = false := by
      rw [hE, Z4]; intro q
      simp only [Z1, decide_eq_true_eq] at q
      exact hb ⟨q.1, q.2.1, q.2.2.1⟩
     rw [e0]
     have F : _ ∧ _ ∧ _ := ⟨Y4 l, Ya v, h5⟩
     repeat' first
      | refine g ?_
      | refine Two.mk (fun hq => ?_) fun hq => ?_
      | (with_reducible refine Y7 ?_; refine gc rfl rfl rfl Zy4 (hal _) ?_)
      | (exfalso; omega)
     all_goals first | (exfalso; omega) | exact ⟨.inr rfl, endD (r := .v (.bool false)) hl0 rfl (by simp) (by simp) rfl (by rw [low]; trivial) ⟨rfl, rfl⟩⟩
   rw [decide_eq_true hb.1, decide_eq_true hb.2.1, decide_eq_true hb.2.2, Z7, Z7, Z7, Z7] at hE
   rw [hE]
   generalize hMB : (v.parts.all fun v => Yt p v && decide (valC v (botV p) ≠ 0)) = MB
   have F : _ ∧ _ ∧ _ := ⟨Y4 l, Ya v, h5⟩
   repeat' first
    | refine g ?_
    | refine Two.mk (fun hq => ?_) fun hq => ?_
    | (with_reducible refine Y7 ?_; refine gc rfl rfl rfl Zy4 (hal _) ?_)
    | (exfalso; omega)
   all_goals try (exfalso; omega)
   refine Yn (fun m e h' => ∃ (k : Nat), k ≤ v.parts.length ∧ m = v.parts.length - k ∧ MB = ((v.parts.drop k).all fun v => Yt p v && decide (valC v (botV p) ≠ 0)) ∧ h' = vM (.cells (latX l)) (.cells (vaX v)) [] ∧ e 2 = .ptr 0 0 ∧ e 3 = .ptr 1 0 ∧ e 6 = .v (.int .i64 k)) v.parts.length ⟨0, Nat.zero_le _, rfl, hMB.symm, by rw [Y4 l, Ya v, h5]; rfl, rfl, rfl, rfl⟩ ?_
   rintro m e h' ⟨k, hk, rfl, hh, rfl, e2, e3, e6⟩
   by_cases hlt : k < v.parts.length
   rotate_left
   · rw [Zk (by omega)] at hh
     rw [hh]
     have F : _ ∧ _ ∧ _ ∧ _ := ⟨Ya v, e2, e3, e6⟩
     repeat' first
      | (with_reducible refine Yj ?_; refine Yb mixd (by kernel_rfl) ?_)
      | refine g ?_
      | refine Two.mk (fun hq => ?_) fun hq => ?_
      | (exfalso; omega)
     all_goals first | (exfalso; omega) | exact ⟨.inr rfl, endD (r := .v (.bool true)) hl0 rfl (by simp) (by simp) rfl (by rw [low]; trivial) ⟨rfl, rfl⟩⟩
   have hx : v.parts[k]? = some v.parts[k] := Z8 hlt
   have wk : IntKind.i64.wrap ((k : Int) + 1) = ((k + 1 : Nat) : Int) := IntWalk.i64_in _ (by omega)
   rw [all_go (Zb hlt)] at hh
   have hpx := hpp _ (Zl hlt)
   have heq := requal_va G hG v.parts[k] (botV p) (hv.part _ (Zl hlt)) hvb
   generalize v.parts[k] = x at hx hh hpx heq
   generalize valC x (botV p) = vc at hh heq
   obtain ⟨bp, hbp⟩ : ∃ b, b = botV p := ⟨_, rfl⟩
   simp only [← hbp] at hbo heq
   clear hbp
   generalize Yt p x = ex at hh hpx
   have heq0 : ∀ b : Bool, decide (vc = 0) = b → ∀ h, Does Z3 G 19 h [.agg (vaX x), .agg (vaX bp)] (fun h' r => h' = h ∧ r = .v (.bool b)) := fun b hb h => by rw [← hb]; exact heq h
   clear heq
   simp only [Ya x] at hpx heq0
   cases ex
   · rw [Zo, Zo] at hh
     rw [hh]
     have F : _ ∧ _ ∧ _ ∧ _ ∧ _ ∧ _ ∧ _ ∧ _ := ⟨Y4 l, Ya v, Y4 p, Ya x, e2, e3, e6, wk⟩
     repeat' first
      | (with_reducible refine Yj ?_; refine Yb mixd (by kernel_rfl) ?_)
      | refine g ?_
      | refine Two.mk (fun hq => ?_) fun hq => ?_
      | (with_reducible refine W2 ?_; refine aq2 rfl rfl rfl Zy6 (hpx _) ?_)
      | (exfalso; omega)
     all_goals first | (exfalso; omega) | exact ⟨.inr rfl, endD (r := .v (.bool false)) hl0 rfl (by simp) (by simp) rfl (by rw [low]; trivial) ⟨rfl, rfl⟩⟩
   · by_cases hz : vc = 0
     · rw [decide_eq_false (show ¬ vc ≠ 0 by omega), Bool.and_false, Zo] at hh
       rw [hh]
       have F : _ ∧ _ ∧ _ ∧ _ ∧ _ ∧ _ ∧ _ ∧ _ := ⟨Y4 l, Ya v, Y4 p, Ya x, e2, e3, e6, wk⟩
       repeat' first
        | (with_reducible refine Yj ?_; refine Yb mixd (by kernel_rfl) ?_)
        | refine g ?_
        | refine Two.mk (fun hq => ?_) fun hq => ?_
        | (with_reducible refine W2 ?_; first | refine aq2 rfl rfl rfl Zy6 (hpx _) ?_ | refine aq2 rfl rfl rfl ent_62 (hbo _) ?_ | refine aq2 rfl rfl rfl ent_19 (heq0 true (decide_eq_true hz) _) ?_)
        | (exfalso; omega)
       all_goals first | (exfalso; omega) | exact ⟨.inr rfl, endD (r := .v (.bool false)) hl0 rfl (by simp) (by simp) rfl (by rw [low]; trivial) ⟨rfl, rfl⟩⟩
     · rw [decide_eq_true (show vc ≠ 0 from hz), Bool.and_true, Z7] at hh
       have F : _ ∧ _ ∧ _ ∧ _ ∧ _ ∧ _ ∧ _ ∧ _ := ⟨Y4 l, Ya v, Y4 p, Ya x, e2, e3, e6, wk⟩
       repeat' first
        | (with_reducible refine Yj ?_; refine Yb mixd (by kernel_rfl) ?_)
        | refine g ?_
        | refine Two.mk (fun hq => ?_) fun hq => ?_
        | (with_reducible refine W2 ?_; first | refine aq2 rfl rfl rfl Zy6 (hpx _) ?_ | refine aq2 rfl rfl rfl ent_62 (hbo _) ?_ | refine aq2 rfl rfl rfl ent_19 (heq0 false (decide_eq_false hz) _) ?_)
        | (exfalso; omega)
       all_goals first | (exfalso; omega) | exact ⟨rfl, v.parts.length - (k + 1), by omega, k + 1, hlt, rfl, hh, by rw [Y4 l, Ya v], e2, e3, rfl⟩
 have h67 : l.kind = 6 ∨ l.kind = 7 := by omega
 have hE := Zz1 (v := v) h67
 have hk1 : ¬ l.kind = 1 := h1
 have hk2 : ¬ l.kind = 2 := by omega
 have hk3 : ¬ l.kind = 3 := by omega
 have hlpp := hsm.parts
 clear hk10 hal hrg
 by_cases hb : v.entries.length = 0 ∧ v.n = 0 ∧ v.names.length = 0 ∧ v.parts.length = l.parts.length
 rotate_left
 · have e0 : Yt l v = false := by
    rw [hE, Z4]; intro q
    simp only [Z1, decide_eq_true_eq] at q
    exact hb ⟨q.1, q.2.1, q.2.2.1, q.2.2.2.1⟩
   rw [e0]
   have F : _ ∧ _ ∧ _ ∧ _ ∧ _ ∧ _ ∧ _ ∧ _ ∧ _ ∧ _ := ⟨Y4 l, Ya v, hk1, hk2, hk3, h4, h5, h8, h9, h10⟩
   repeat' first
    | refine g ?_
    | refine Two.mk (fun hq => ?_) fun hq => ?_
    | (exfalso; omega)
   all_goals first | (exfalso; omega) | exact ⟨.inr rfl, endD (r := .v (.bool false)) hl0 rfl (by simp) (by simp) rfl (by rw [low]; trivial) ⟨rfl, rfl⟩⟩
 rw [decide_eq_true hb.1, decide_eq_true hb.2.1, decide_eq_true hb.2.2.1, decide_eq_true hb.2.2.2, Z7, Z7, Z7, Z7] at hE
 rw [hE]
 obtain ⟨hb1, hb2, hb3, hb4⟩ := hb
 have F : _ ∧ _ ∧ _ ∧ _ ∧ _ ∧ _ ∧ _ ∧ _ ∧ _ ∧ _ := ⟨Y4 l, Ya v, hk1, hk2, hk3, h4, h5, h8, h9, h10⟩
 repeat' first
  | refine g ?_
  | refine Two.mk (fun hq => ?_) fun hq => ?_
  | (exfalso; omega)
 all_goals try (exfalso; omega)
 refine Yn (fun m e h' => ∃ (k : Nat), k ≤ v.parts.length ∧ m = v.parts.length - k ∧ Vm l.parts v.parts = Vm (l.parts.drop k) (v.parts.drop k) ∧ h' = vM (.cells (latX l)) (.cells (vaX v)) [] ∧ e 2 = .ptr 0 0 ∧ e 3 = .ptr 1 0 ∧ e 7 = .v (.int .i64 k)) v.parts.length ⟨0, Nat.zero_le _, rfl, rfl, by rw [Y4 l, Ya v]; rfl, rfl, rfl, rfl⟩ ?_
 rintro m e h' ⟨k, hk, rfl, hh, rfl, e2, e3, e7⟩
 by_cases hlt : k < v.parts.length
 rotate_left
 · rw [Zk (show l.parts.length ≤ k by omega), els_nil] at hh
   rw [hh]
   have F : _ ∧ _ ∧ _ ∧ _ := ⟨Ya v, e2, e3, e7⟩
   repeat' first
    | (with_reducible refine Yj ?_; refine Yb mixd (by kernel_rfl) ?_)
    | refine g ?_
    | refine Two.mk (fun hq => ?_) fun hq => ?_
    | (exfalso; omega)
   all_goals first | (exfalso; omega) | exact ⟨.inr rfl, endD (r := .v (.bool true)) hl0 rfl (by simp) (by simp) rfl (by rw [low]; trivial) ⟨rfl, rfl⟩⟩
 have hx : v.parts[k]? = some v.parts[k] := Z8 hlt
 have hltp : k < l.parts.length := by omega
 have hp : l.parts[k]? = some l.parts[k] := Z8 hltp
 have wk : IntKind.i64.wrap ((k : Int) + 1) = ((k + 1 : Nat) : Int) := IntWalk.i64_in _ (by omega)
 rw [els_go (Zb hltp) (Zb hlt)] at hh
 have hpx := hpp _ (Zl hltp) _ (Zl hlt)
 generalize v.parts[k] = x at hx hh hpx
 generalize l.parts[k] = p at hp hh hpx
 generalize Yt p x = ex at hh hpx
 simp only [Ya x, Y4 p] at hpx
 cases ex
 · rw [Zo] at hh
   rw [hh]
   have F : _ ∧ _ ∧ _ ∧ _ ∧ _ ∧ _ ∧ _ ∧ _ := ⟨Y4 l, Ya v, Y4 p, Ya x, e2, e3, e7, wk⟩
   repeat' first
    | (with_reducible refine Yj ?_; refine Yb mixd (by kernel_rfl) ?_)
    | refine g ?_
    | refine Two.mk (fun hq => ?_) fun hq => ?_
    | (with_reducible refine W2 ?_; refine aq2 rfl rfl rfl Zy6 (hpx _) ?_)
    | (exfalso; omega)
   all_goals first | (exfalso; omega) | exact ⟨.inr rfl, endD (r := .v (.bool false)) hl0 rfl (by simp) (by simp) rfl (by rw [low]; trivial) ⟨rfl, rfl⟩⟩
 · rw [Z7] at hh
   have F : _ ∧ _ ∧ _ ∧ _ ∧ _ ∧ _ ∧ _ ∧ _ := ⟨Y4 l, Ya v, Y4 p, Ya x, e2, e3, e7, wk⟩
   repeat' first
    | (with_reducible refine Yj ?_; refine Yb mixd (by kernel_rfl) ?_)
    | refine g ?_
    | refine Two.mk (fun hq => ?_) fun hq => ?_
    | (with_reducible refine W2 ?_; refine aq2 rfl rfl rfl Zy6 (hpx _) ?_)
    | (exfalso; omega)
   all_goals first | (exfalso; omega) | exact ⟨rfl, v.parts.length - (k + 1), by omega, k + 1, hlt, rfl, hh, by rw [Y4 l, Ya v], e2, e3, rfl⟩
end
section

end
section
attribute [local irreducible] on aOp
attribute [local go_sem] decide_true decide_false Zj Zf
attribute [local simp] byD_len
variable (G : Nat → D) (hG : ∀ g, low 0 (G g))
include hG
attribute [local go_sem] Zg Zh Zi Zp Zc Zd Z5 Z6 Ze
attribute [local go_sem ↓] reduceIte
theorem rNum_d (i : Nat) (s : RS) (h : List Ob) (hi : h[i]? = some (Yf s)) (ho : s.Ok) (hl : s.data.length ≤ 1000000000) :
 Does Z3 G 132 h [.ptr i 0] (fun h' r => h' = h ∧ r = s.rawN) := by
 rw [Vw] at hi
 refine Y5 Tryz.func132 rfl (Z0 rfl) hG fun hl0 _ => ?_
 simp only [Tryz.ntmps132]
 repeat' first
  | refine sA rfl ?_
  | refine Yr ?_
  | (refine ao1 rfl rfl fun K HK => ?_; simp only [go_sem, hi] <;> (refine HK _ _ ?_; clear HK K))
 refine Yn (fun m e h' => ∃ (k acc : Nat), m = 10 - k ∧ k ≤ 10 ∧ acc < 2 ^ (7 * k) ∧ rawJ s.pos k acc (s.data.drop (s.pos + k)) = s.rawN ∧ h' = h ∧ e 0 = .ptr i 0 ∧ e 2 = .v (.int .u64 acc) ∧ e 7 = .v (.int .i64 k)) 10 ⟨0, 0, rfl, by omega, by decide, rfl, rfl, rfl, rfl, rfl⟩ ?_
 rintro m e h' ⟨k, acc, rfl, hk, ha, hJ, rfl, e0, e2, e7⟩
 have hp := ho.pos
 have w1 : IntKind.i64.wrap ((s.pos : Int) + (k : Int)) = ((s.pos + k : Nat) : Int) := IntWalk.i64_in _ (by omega)
 by_cases hk9 : k = 10
 · subst hk9
   have hR : rawJ s.pos 10 acc (Zs (s.pos + 10) s.data) = .tup [.v (.int .u64 (0 : Int)), .v (.int .i64 (0 : Int)), .v (.bool false)] := by
    unfold rawJ; split
    · rfl
    · rw [if_pos (by omega)]
   repeat' first
    | refine sA rfl ?_ | refine sI rfl rfl ?_ | refine sT rfl ?_ | refine sB rfl ?_
    | refine Yr ?_
    | ((first | refine ao1 rfl rfl fun K HK => ?_ | refine aq1 rfl rfl fun K HK => ?_); (first | refine Yh rfl ?_ | skip); simp only [go_sem, e0, e2, e7, hi]; (first | refine X1 (fun hq => ?_) (fun hq => ?_) | (refine ⟨by omega, by omega, ?_⟩; intro row hrow; obtain ⟨x, hx, rfl⟩ := Ui hrow; clear hrow) | skip) <;> ((first | refine HK _ _ ?_ | refine HK _ _ rfl ?_); clear HK K))
    | refine Jd ?_
    | (refine Yb mixd (by kernel_rfl) ?_)
    | refine ao0 rfl rfl ?_
    | (exfalso; omega)
   exact ⟨.inr rfl, endD (r := .tup [.v (.int .u64 (0 : Int)), .v (.int .i64 (0 : Int)), .v (.bool false)]) hl0 rfl (by simp) (by simp) rfl (by simp [low, lowL]) ⟨rfl, hR.symm.trans hJ⟩⟩
 by_cases hlt : s.pos + k < s.data.length
 rotate_left
 · have hR : rawJ s.pos k acc (Zs (s.pos + k) s.data) = .tup [.v (.int .u64 (0 : Int)), .v (.int .i64 (0 : Int)), .v (.bool false)] := by
    rw [Zk (by omega)]; rfl
   repeat' first
    | refine sA rfl ?_ | refine sI rfl rfl ?_ | refine sT rfl ?_ | refine sB rfl ?_
    | refine Yr ?_
    | ((first | refine ao1 rfl rfl fun K HK => ?_ | refine aq1 rfl rfl fun K HK => ?_); (first | refine Yh rfl ?_ | skip); simp only [go_sem, e0, e2, e7, hi, w1]; (first | refine X1 (fun hq => ?_) (fun hq => ?_) | (refine ⟨by omega, by omega, ?_⟩; intro row hrow; obtain ⟨x, hx, rfl⟩ := Ui hrow; clear hrow) | skip) <;> ((first | refine HK _ _ ?_ | refine HK _ _ rfl ?_); clear HK K))
    | refine Jd ?_
    | (refine Yb mixd (by kernel_rfl) ?_)
    | refine ao0 rfl rfl ?_
    | (exfalso; omega)
   exact ⟨.inr rfl, endD (r := .tup [.v (.int .u64 (0 : Int)), .v (.int .i64 (0 : Int)), .v (.bool false)]) hl0 rfl (by simp) (by simp) rfl (by simp [low, lowL]) ⟨rfl, hR.symm.trans hJ⟩⟩
 have hx : s.data[s.pos + k]? = some s.data[s.pos + k] := Z8 hlt
 rw [Zb hlt] at hJ
 generalize s.data[s.pos + k] = x at hx hJ
 have hxl := x.toNat_lt
 by_cases h9 : k = 9 ∧ 1 < x.toNat
 · have hR : rawJ s.pos k acc (x :: Zs (s.pos + k + 1) s.data) = .tup [.v (.int .u64 (0 : Int)), .v (.int .i64 (0 : Int)), .v (.bool false)] := by
    rw [rawJ, if_neg (by omega), if_pos h9]
   obtain ⟨rfl, h9⟩ := h9
   repeat' first
    | refine sA rfl ?_ | refine sI rfl rfl ?_ | refine sT rfl ?_ | refine sB rfl ?_
    | refine Yr ?_
    | ((first | refine ao1 rfl rfl fun K HK => ?_ | refine aq1 rfl rfl fun K HK => ?_); (first | refine Yh rfl ?_ | skip); simp only [go_sem, e0, e2, e7, hi, w1]; (first | refine X1 (fun hq => ?_) (fun hq => ?_) | (refine ⟨by omega, by omega, ?_⟩; refine W9 (by assumption) ?_) | skip) <;> ((first | refine HK _ _ ?_ | refine HK _ _ rfl ?_); clear HK K))
    | refine Jd ?_
    | (refine Yb mixd (by kernel_rfl) ?_)
    | refine ao0 rfl rfl ?_
    | (exfalso; omega)
   exact ⟨.inr rfl, endD (r := .tup [.v (.int .u64 (0 : Int)), .v (.int .i64 (0 : Int)), .v (.bool false)]) hl0 rfl (by simp) (by simp) rfl (by simp [low, lowL]) ⟨rfl, hR.symm.trans hJ⟩⟩
 obtain ⟨s1, s2, s3⟩ := Yf5 ha (by omega) h9 hxl
 have w2 : IntKind.i64.wrap (7 * (k : Int)) = ((7 * k : Nat) : Int) := IntWalk.i64_in _ (by omega)
 have w3 : decide (0 ≤ ((7 * k : Nat) : Int)) = true := decide_eq_true (by omega)
 have hV := num_val (x := x) ha (by omega) h9
 have w6 : IntKind.i64.wrap (((s.pos + k : Nat) : Int) + 1) = ((s.pos + k + 1 : Nat) : Int) := IntWalk.i64_in _ (by omega)
 have w7 : IntKind.i64.wrap ((k : Int) + 1) = ((k + 1 : Nat) : Int) := IntWalk.i64_in _ (by omega)
 repeat' first
  | refine sA rfl ?_ | refine sI rfl rfl ?_ | refine sT rfl ?_ | refine sB rfl ?_
  | refine Yr ?_
  | ((first | refine ao1 rfl rfl fun K HK => ?_ | refine aq1 rfl rfl fun K HK => ?_); (first | refine Yh rfl ?_ | skip); simp only [go_sem, e0, e2, e7, hi, w1, w2, w3, w6, w7, Za]; (first | refine X1 (fun hq => ?_) (fun hq => ?_) | refine Zu2 (fun hq => ?_) (fun hq => ?_) | (refine ⟨by omega, by omega, ?_⟩; refine W9 (by assumption) ?_) | skip) <;> ((first | refine HK _ _ ?_ | refine HK _ _ rfl ?_); clear HK K))
  | refine aq0 rfl rfl ?_
  | refine Jd ?_
  | (refine Yb mixd (by kernel_rfl) ?_)
  | refine ao0 rfl rfl ?_
  | (exfalso; omega)
 all_goals first
 | (have hR : rawJ s.pos k acc (x :: Zs (s.pos + k + 1) s.data) = .tup [.v (.int .u64 ((acc + x.toNat % 128 * 2 ^ (7 * k) : Nat) : Int)), .v (.int .i64 ((s.pos + k + 1 : Nat) : Int)), .v (.bool true)] := by (rw [rawJ, if_neg (by omega), if_neg h9, if_pos (by omega), decide_eq_true (by omega)])
    exact ⟨.inr rfl, endD (r := .tup [.v (.int .u64 ((acc + x.toNat % 128 * 2 ^ (7 * k) : Nat) : Int)), .v (.int .i64 ((s.pos + k + 1 : Nat) : Int)), .v (.bool true)]) hl0 rfl (by simp) (by simp) (congrArg (fun z : Int => D.tup [.v (.int .u64 z), .v (.int .i64 ((s.pos + k + 1 : Nat) : Int)), .v (.bool true)]) hV) (by simp [low, lowL]) ⟨rfl, hR.symm.trans hJ⟩⟩)
 | (have hR : rawJ s.pos k acc (x :: Zs (s.pos + k + 1) s.data) = .tup [.v (.int .u64 ((acc + x.toNat % 128 * 2 ^ (7 * k) : Nat) : Int)), .v (.int .i64 ((s.pos + k + 1 : Nat) : Int)), .v (.bool false)] := by (rw [rawJ, if_neg (by omega), if_neg h9, if_pos (by omega), decide_eq_false (by omega)])
    exact ⟨.inr rfl, endD (r := .tup [.v (.int .u64 ((acc + x.toNat % 128 * 2 ^ (7 * k) : Nat) : Int)), .v (.int .i64 ((s.pos + k + 1 : Nat) : Int)), .v (.bool false)]) hl0 rfl (by simp) (by simp) (congrArg (fun z : Int => D.tup [.v (.int .u64 z), .v (.int .i64 ((s.pos + k + 1 : Nat) : Int)), .v (.bool false)]) hV) (by simp [low, lowL]) ⟨rfl, hR.symm.trans hJ⟩⟩)
 | (rw [rawJ, if_neg (by omega), if_neg h9, if_neg (by omega)] at hJ
    refine ⟨rfl, 10 - (k + 1), by omega, k + 1, acc + x.toNat % 128 * 2 ^ (7 * k), rfl, by omega, s3, hJ, rfl, ?_, congrArg (fun z : Int => D.v (.int .u64 z)) hV, rfl⟩
    simp [upd, e0])
end
section
attribute [local irreducible] on aOp
attribute [local go_sem] decide_true decide_false Zj Zf
attribute [local simp] byD_len
variable (G : Nat → D) (hG : ∀ g, low 0 (G g))
include hG
theorem Zw1 {s : RS} {d : D} (q : s.rawN = d) {i : Nat} {h : List Ob} (hi : h[i]? = some (Yf s)) (ho : s.Ok) (hl : s.data.length ≤ 1000000000) :
 Does Z3 G 132 h [.ptr i 0] (fun h' r => h' = h ∧ r = d) := q ▸ rNum_d G hG i s h hi ho hl
attribute [local go_sem] Zg Zh Zi Zc Zd Z5 Z6 Ze
attribute [local go_sem ↓] reduceIte
theorem rBegin_d (i : Nat) (s : RS) (h : List Ob) (hi : h[i]? = some (Yf s)) :
 Does Z3 G 130 h [.ptr i 0] (fun h' r => h' = h.set i (Yf (if s.err = 0 then s.begun else s)) ∧ r = .v (.bool (decide (s.err = 0)))) := by
 have hil := (Z2.1 hi).1
 have hi0 := hi
 rw [Vw] at hi
 obtain ⟨g1, g2, g3, g4, g5⟩ := Wf hi
 refine Y5 Tryz.func130 rfl (Z0 rfl) hG fun hl0 _ => ?_
 simp only [Tryz.ntmps130]
 by_cases hb : s.err = 0
 · rw [if_pos hb, decide_eq_true hb]
   rw [hb] at hi
   have F : _ ∧ _ := ⟨hi, g1⟩
   repeat' first
    | refine g0 ?_
    | fail
   exact ⟨.inr rfl, endS (i := i) (ob := Yf s.begun) (r := .v (.bool true)) hl0 (Xm _ _) rfl (by simp [Yf, RS.begun, hb, putL_succ, putL_zero, Yd]) (by simp) rfl (by rw [low]; trivial) ⟨rfl, rfl⟩⟩
 · rw [if_neg hb, decide_eq_false hb]
   have F : _ ∧ _ ∧ _ := ⟨hi, g1, hb⟩
   repeat' first
    | refine g0 ?_
    | fail
   exact ⟨.inr rfl, endS (i := i) (ob := Yf s) (r := .v (.bool false)) hl0 (Xm _ _) rfl (by simp [Wc hi0]) (by simp) rfl (by rw [low]; trivial) ⟨rfl, rfl⟩⟩
theorem rBegin_ok {i : Nat} {s : RS} {h : List Ob} (hb : s.err = 0) (hi : h[i]? = some (Yf s)) :
 Does Z3 G 130 h [.ptr i 0] (fun h' r => h' = h.set i (Yf s.begun) ∧ r = .v (.bool true)) := by
 have := rBegin_d G hG i s h hi
 rwa [if_pos hb, decide_eq_true hb] at this
theorem Um {i : Nat} {s : RS} {h h1 : List Ob} (q : h.set i (Yf s.begun) = h1) (hb : s.err = 0) (hi : h[i]? = some (Yf s)) :
 Does Z3 G 130 h [.ptr i 0] (fun h' r => h' = h1 ∧ r = .v (.bool true)) := q ▸ rBegin_ok G hG hb hi
theorem Zk7 {i : Nat} {s : RS} {h : List Ob} (hb : ¬ s.err = 0) (hi : h[i]? = some (Yf s)) :
 Does Z3 G 130 h [.ptr i 0] (fun h' r => h' = h ∧ r = .v (.bool false)) := by
 have := rBegin_d G hG i s h hi
 rw [if_neg hb, decide_eq_false hb, Wc hi] at this
 exact this
theorem rFail_d (i : Nat) (s : RS) (h : List Ob) (hi : h[i]? = some (Yf s)) :
 Does Z3 G 134 h [.ptr i 0] (fun h' r => h' = h.set i (Yf s.fail) ∧ r = .tup []) := by
 have hil := (Z2.1 hi).1
 have hi0 := hi
 rw [Vw] at hi
 obtain ⟨g1, g2, g3, g4, g5⟩ := Wf hi
 refine Y5 Tryz.func134 rfl (Z0 rfl) hG fun hl0 _ => ?_
 simp only [Tryz.ntmps134]
 by_cases hb : s.err = 0
 · rw [hb] at hi
   have F : _ ∧ _ := ⟨hi, g1⟩
   repeat' first
    | refine g0 ?_
    | fail
   have hR : s.fail = ⟨s.data, s.item, s.item, 2⟩ := by unfold RS.fail; rw [if_pos hb]
   exact ⟨by simp, endS (i := i) (ob := Yf s.fail) (r := .tup []) hl0 (Xm _ _) rfl (by simp [hR, Yf, putL_succ, putL_zero, Yd]) (by simp) rfl (by rw [low, lowL]; trivial) ⟨rfl, rfl⟩⟩
 · skip
   have F : _ ∧ _ ∧ _ := ⟨hi, g1, hb⟩
   repeat' first
    | refine g0 ?_
    | fail
   have hR : s.fail = s := by unfold RS.fail; rw [if_neg hb]
   exact ⟨by simp, endS (i := i) (ob := Yf s.fail) (r := .tup []) hl0 (Xm _ _) rfl (by simp [hR, Wc hi0]) (by simp) rfl (by rw [low, lowL]; trivial) ⟨rfl, rfl⟩⟩
theorem rUint_d (i : Nat) (s : RS) (h : List Ob) (hi : h[i]? = some (Yf s)) (ho : s.Ok) (hl : s.data.length ≤ 1000000000) :
 Does Z3 G 131 h [.ptr i 0] (fun h' r => h' = h.set i (Yf (Yq s).2) ∧ r = .v (.int .u64 (Yq s).1)) := by
 have hil := (Z2.1 hi).1
 have g1 := fun ob => Z9 (a := ob) hil
 refine Y5 Tryz.func131 rfl (Z0 rfl) hG fun hl0 _ => ?_
 simp only [Tryz.ntmps131]
 by_cases hb : s.err = 0
 rotate_left
 · skip
   have F := g1
   repeat' first
    | refine g0 ?_
    | (with_reducible refine Y7 ?_; refine gc rfl rfl rfl U5 (Zk7 G hG hb hi) ?_)
   have hR : Yq s = (0, s) := by unfold Yq; rw [if_pos hb]
   exact ⟨by simp, endS (i := i) (ob := Yf s) (r := .v (.int .u64 (0 : Int))) hl0 (Xm _ _) rfl (by simp [Wc hi]) (by simp) rfl (by rw [low]; trivial) ⟨by rw [hR], by rw [hR]; rfl⟩⟩
 have hO : s.begun.Ok := ⟨ho.pos, Zq _, ho.err⟩
 obtain ⟨h1, hh⟩ : ∃ h1, h.set i (Yf s.begun) = h1 := ⟨_, rfl⟩
 have hB : h1[i]? = some (Yf s.begun) := hh ▸ g1 _
 have hS : ∀ x, h1.set i x = h.set i x := fun x => by rw [← hh, Zn]
 have hT : ∀ x, (h1.set i x).take h.length = h.set i x := fun x => by rw [hS]; exact Yd
 have hL : h1.length = h.length := by rw [← hh, Zm]
 have hB2 := hB
 rw [Vw] at hB2
 obtain ⟨k1, k2, k3, k4, k5⟩ := Wf hB2
 rcases hN : s.num with _ | ⟨m, c⟩
 · obtain ⟨a, b, hr⟩ := Zv7 (s := s.begun) hN
   have F : _ ∧ _ := ⟨hB2, k1⟩
   repeat' first
    | refine g0 ?_
    | (with_reducible refine Y7 ?_; refine gc rfl rfl rfl U5 (Um G hG hh hb hi) ?_)
    | ((with_reducible refine Y7 ?_); first | refine gc rfl rfl rfl Zi2 (Zw1 G hG hr hB hO hl) ?_)
   have hR : Yq s = (0, s.bad) := by unfold Yq; rw [if_neg (fun h => h hb), hN]
   exact ⟨by simp, endS (i := i) (ob := Yf s.bad) (r := .v (.int .u64 (0 : Int))) hl0 (Xm _ _) rfl (by simp [Yf, RS.bad, RS.begun, putL_succ, putL_zero, hT]) (by simp [hL]) rfl (by rw [low]; trivial) ⟨by rw [hR], by rw [hR]; rfl⟩⟩
 · have hr := Zv6 (s := s.begun) hN
   have F : _ ∧ _ := ⟨hB2, k1⟩
   repeat' first
    | refine g0 ?_
    | (with_reducible refine Y7 ?_; refine gc rfl rfl rfl U5 (Um G hG hh hb hi) ?_)
    | ((with_reducible refine Y7 ?_); first | refine gc rfl rfl rfl Zi2 (Zw1 G hG hr hB hO hl) ?_)
   have hR : Yq s = (m, s.go c) := by unfold Yq; rw [if_neg (fun h => h hb), hN]
   exact ⟨by simp, endS (i := i) (ob := Yf (s.go c)) (r := .v (.int .u64 (m : Int))) hl0 (Xm _ _) rfl (by simp [Yf, RS.go, RS.begun, putL_succ, putL_zero, hT]) (by simp [hL]) rfl (by rw [low]; trivial) ⟨by rw [hR], by rw [hR]⟩⟩
theorem rLeft_d (i : Nat) (s : RS) (h : List Ob) (hi : h[i]? = some (Yf s)) (ho : s.Ok) (hl : s.data.length ≤ 1000000000) :
 Does Z3 G 94 h [.ptr i 0] (fun h' r => h' = h ∧ r = .v (.int .i64 ((s.data.length - s.pos : Nat) : Int))) := by
 rw [Vw] at hi
 refine Y5 Tryz.func94 rfl (Z0 rfl) hG fun hl0 _ => ?_
 simp only [Tryz.ntmps94]
 have hp := ho.pos
 have w1 : IntKind.i64.wrap ((s.data.length : Int) - (s.pos : Int)) = ((s.data.length - s.pos : Nat) : Int) := by rw [← Int.ofNat_sub hp]; exact IntWalk.i64_in _ (by omega)
 have F : _ ∧ _ := ⟨hi, w1⟩
 repeat' first
  | (with_reducible refine Yj ?_; refine Yb mixd (by kernel_rfl) ?_)
  | refine g0 ?_
  | fail
 exact ⟨.inr rfl, endD (r := .v (.int .i64 ((s.data.length - s.pos : Nat) : Int))) hl0 rfl (by simp) (by simp) rfl (by rw [low]; trivial) ⟨rfl, rfl⟩⟩
end
section
attribute [local irreducible] on aOp
attribute [local go_sem] decide_true decide_false Zj Zf
attribute [local simp] byD_len
theorem i64_xor_zero (a : Nat) (h : a ≤ 9223372036854775807) : bits .xor .i64 (a : Int) 0 = (a : Int) := by
 show IntKind.i64.wrap ((BitVec.ofInt 64 (a : Int) ^^^ BitVec.ofInt 64 0).toNat : Int) = _
 have e0 : BitVec.ofInt 64 0 = 0#64 := rfl
 rw [e0, BitVec.xor_zero, BitVec.ofInt_natCast, BitVec.toNat_ofNat, IntKind.wrap_i64]
 omega
theorem unzz_bits (n : Nat) (h : n < 18446744073709551616) : bits .xor .i64 ((n : Int) / 2) (-((n : Int) % 2)) = unzz n := by
 unfold unzz
 by_cases h0 : n % 2 = 0
 · rw [if_pos h0]
   have e : -((n : Int) % 2) = 0 := by omega
   rw [e]
   have e2 : (n : Int) / 2 = ((n / 2 : Nat) : Int) := by omega
   rw [e2]
   exact i64_xor_zero (n / 2) (by omega)
 · rw [if_neg h0]
   have e : -((n : Int) % 2) = -1 := by omega
   rw [e]
   have e2 : (n : Int) / 2 = ((n / 2 : Nat) : Int) := by omega
   rw [e2]
   have hc : bits .xor .i64 ((n / 2 : Nat) : Int) (-1) = bits .xor .i64 (-1) ((n / 2 : Nat) : Int) := by
    unfold bits
    simp only
    rw [BitVec.xor_comm]
   rw [hc, Lib.i64_not _ (by omega)]
theorem and_one' (m : Nat) (h : m < 18446744073709551616) : IntKind.u64.wrap ((BitVec.ofInt 64 (m : Int) &&& BitVec.ofInt 64 1).toNat : Int) = ((m : Int) % 2) := by
 have e : BitVec.ofInt 64 (m : Int) &&& BitVec.ofInt 64 1 = BitVec.ofNat 64 (m % 2) := by
  apply BitVec.eq_of_toNat_eq
  have e1 : (BitVec.ofInt 64 1).toNat = 1 := rfl
  rw [BitVec.toNat_and, BitVec.ofInt_natCast, BitVec.toNat_ofNat, e1, Nat.and_one_is_mod, BitVec.toNat_ofNat]
  omega
 rw [e, BitVec.toNat_ofNat, IntKind.wrap_u64]; omega
theorem int_val (m : Nat) (h : m < 18446744073709551616) : IntKind.i64.wrap ((BitVec.ofInt 64 (IntKind.i64.wrap ((m : Int).fdiv (2 ^ min (Int.toNat 1) 64))) ^^^ BitVec.ofInt 64 (IntKind.i64.wrap (0 - IntKind.i64.wrap (IntKind.u64.wrap ((BitVec.ofInt 64 (m : Int) &&& BitVec.ofInt 64 1).toNat : Int))))).toNat : Int) = unzz m := by
 have e1 : (m : Int).fdiv (2 ^ min (Int.toNat 1) 64) = (m : Int) / 2 := by
  rw [show (2 : Int) ^ min (Int.toNat 1) 64 = 2 by decide, Int.fdiv_eq_ediv_of_nonneg _ (by omega)]
 have w1 : IntKind.i64.wrap ((m : Int) / 2) = (m : Int) / 2 := IntWalk.i64_in _ (by omega)
 have w2 : IntKind.i64.wrap ((m : Int) % 2) = (m : Int) % 2 := IntWalk.i64_in _ (by omega)
 have w3 : IntKind.i64.wrap (0 - (m : Int) % 2) = -((m : Int) % 2) := by rw [Int.zero_sub]; exact IntWalk.i64_in _ (by omega)
 rw [e1, w1, and_one' m h, w2, w3]
 exact unzz_bits m h
variable (G : Nat → D) (hG : ∀ g, low 0 (G g))
include hG
attribute [local go_sem] Za Zg Zh Zi Zc Zd Z5 Z6 Ze
attribute [local go_sem ↓] reduceIte
theorem rInt_d (i : Nat) (s : RS) (h : List Ob) (hi : h[i]? = some (Yf s)) (ho : s.Ok) (hl : s.data.length ≤ 1000000000) :
 Does Z3 G 89 h [.ptr i 0] (fun h' r => h' = h.set i (Yf (Wy s).2) ∧ r = .v (.int .i64 (Wy s).1)) := by
 have hlt := (Us ho).2.2
 have hc := rUint_d G hG i s h hi ho hl
 have hI : Wy s = (unzz (Yq s).1, (Yq s).2) := rfl
 rw [hI]
 generalize Yq s = ru at hc hlt ⊢
 obtain ⟨m, t⟩ := ru
 simp only at hc hlt ⊢
 refine Y5 Tryz.func89 rfl (Z0 rfl) hG fun hl0 _ => ?_
 simp only [Tryz.ntmps89]
 repeat' first
  | refine g0 ?_
  | (with_reducible refine Y7 ?_; refine gc rfl rfl rfl ent_131 (hc) ?_)
 exact ⟨.inr rfl, endS (i := i) (ob := Yf t) (r := .v (.int .i64 (unzz m))) hl0 (Xm _ _) rfl (by simp [Yd]) (by simp) (congrArg (fun z : Int => D.v (.int .i64 z)) (int_val m hlt)) (by rw [low]; trivial) ⟨rfl, rfl⟩⟩
theorem rEnd_d (i : Nat) (s : RS) (h : List Ob) (hi : h[i]? = some (Yf s)) (ho : s.Ok) (hl : s.data.length ≤ 1000000000) :
 Does Z3 G 55 h [.ptr i 0] (fun h' r => h' = h ∧ r = .v (.int .i64 s.ends)) := by
 have hL := rLeft_d G hG i s h hi ho hl
 rw [Vw] at hi
 refine Y5 Tryz.func55 rfl (Z0 rfl) hG fun hl0 _ => ?_
 simp only [Tryz.ntmps55]
 by_cases hb : s.err = 0
 · rw [hb] at hi
   by_cases hp : s.pos < s.data.length
   · have w1 : decide (((s.data.length - s.pos : Nat) : Int) > 0) = true := decide_eq_true (by omega)
     have w2 : decide (0 < ((s.data.length - s.pos : Nat) : Int)) = true := decide_eq_true (by omega)
     have F : _ ∧ _ ∧ _ := ⟨hi, w1, w2⟩
     repeat' first
      | refine g0 ?_
      | (with_reducible refine Y7 ?_; refine gc rfl rfl rfl ent_94 (hL) ?_)
     have hE : s.ends = 2 := by unfold RS.ends; rw [if_pos ⟨hb, hp⟩]
     exact ⟨.inr rfl, endD (r := .v (.int .i64 2)) hl0 rfl (by simp) (by simp) rfl (by rw [low]; trivial) ⟨rfl, by rw [hE]⟩⟩
   · have w1 : s.data.length - s.pos = 0 := by omega
     rw [w1] at hL
     have F := hi
     repeat' first
      | refine g ?_
      | refine Two.mk (fun hq => ?_) fun hq => ?_
      | (with_reducible refine Y7 ?_; refine gc rfl rfl rfl ent_94 (hL) ?_)
      | (exfalso; omega)
     have hE : s.ends = 0 := by unfold RS.ends; rw [if_neg (fun h => hp h.2), hb]
     exact ⟨.inr rfl, endD (r := .v (.int .i64 0)) hl0 rfl (by simp) (by simp) rfl (by rw [low]; trivial) ⟨rfl, by rw [hE]⟩⟩
 · skip
   have F : _ ∧ _ := ⟨hi, hb⟩
   repeat' first
    | refine g0 ?_
    | fail
   have hE : s.ends = s.err := by unfold RS.ends; rw [if_neg (fun h => hb h.1)]
   exact ⟨.inr rfl, endD (r := .v (.int .i64 s.err)) hl0 rfl (by simp) (by simp) rfl (by rw [low]; trivial) ⟨rfl, by rw [hE]⟩⟩
theorem Zs2 (i : Nat) (s : RS) (h : List Ob) (hi : h[i]? = some (Yf s)) (ho : s.Ok) (hl : s.data.length ≤ 1000000000) :
 Does Z3 G 90 h [.ptr i 0] (fun h' r => h' = h.set i (Yf (Y6 s).2) ∧ r = .v (.int .i64 ((Y6 s).1 : Nat))) := by
 have hil := (Z2.1 hi).1
 have g1 := fun ob => Z9 (a := ob) hil
 refine Y5 Tryz.func90 rfl (Z0 rfl) hG fun hl0 _ => ?_
 simp only [Tryz.ntmps90]
 have hp := ho.pos
 by_cases hb : s.err = 0
 rotate_left
 · skip
   have F := g1
   repeat' first
    | refine g0 ?_
    | (with_reducible refine Y7 ?_; refine gc rfl rfl rfl U5 (Zk7 G hG hb hi) ?_)
   have hR : Y6 s = (0, s) := by unfold Y6; rw [if_pos hb]
   exact ⟨by simp, endS (i := i) (ob := Yf s) (r := .v (.int .i64 (0 : Int))) hl0 (Xm _ _) rfl (by simp [Wc hi]) (by simp) rfl (by rw [low]; trivial) ⟨by rw [hR], by rw [hR]; rfl⟩⟩
 have hO : s.begun.Ok := ⟨ho.pos, Zq _, ho.err⟩
 obtain ⟨h1, hh⟩ : ∃ h1, h.set i (Yf s.begun) = h1 := ⟨_, rfl⟩
 have hB : h1[i]? = some (Yf s.begun) := hh ▸ g1 _
 have hS : ∀ x, h1.set i x = h.set i x := fun x => by rw [← hh, Zn]
 have hT : ∀ x, (h1.set i x).take h.length = h.set i x := fun x => by rw [hS]; exact Yd
 have hL : h1.length = h.length := by rw [← hh, Zm]
 have hB2 := hB
 rw [Vw] at hB2
 have hB2 : h1[i]? = some (.cells [.sl 1 (byD s.data), .v (.int .i64 s.pos), .v (.int .i64 s.pos), .v (.int .i64 s.err)]) := hB2
 obtain ⟨k1, k2, k3, k4, k5⟩ := Wf hB2
 rcases hN : s.num with _ | ⟨m, c⟩
 · obtain ⟨a, b, hr⟩ := Zv7 (s := s.begun) hN
   have F : _ ∧ _ := ⟨hB2, k1⟩
   repeat' first
    | refine g0 ?_
    | (with_reducible refine Y7 ?_; refine gc rfl rfl rfl U5 (Um G hG hh hb hi) ?_)
    | ((with_reducible refine Y7 ?_); first | refine gc rfl rfl rfl Zi2 (Zw1 G hG hr hB hO hl) ?_)
   have hR : Y6 s = (0, s.bad) := by unfold Y6; rw [if_neg (fun h => h hb), hN]
   exact ⟨by simp, endS (i := i) (ob := Yf s.bad) (r := .v (.int .i64 (0 : Int))) hl0 (Xm _ _) rfl (by simp [Yf, RS.bad, putL_succ, putL_zero, hT]) (by simp [hL]) rfl (by rw [low]; trivial) ⟨by rw [hR], by rw [hR]; rfl⟩⟩
 · have hr := Zv6 (s := s.begun) hN
   have hr : s.begun.rawN = .tup [.v (.int .u64 m), .v (.int .i64 ((s.pos : Int) + (c : Int))), .v (.bool true)] := hr
   obtain ⟨hn1, hn2, hn3, hn4⟩ := RS.num_some hN hp
   have w1 : IntKind.i64.wrap ((s.data.length : Int) - ((s.pos : Int) + (c : Int))) = (s.data.length : Int) - ((s.pos : Int) + (c : Int)) := IntWalk.i64_in _ (by omega)
   have w2 : IntKind.u64.wrap ((s.data.length : Int) - ((s.pos : Int) + (c : Int))) = (s.data.length : Int) - ((s.pos : Int) + (c : Int)) := by rw [IntKind.wrap_u64]; omega
   have w3 : m ≤ 1000000000 → IntKind.i64.wrap (m : Int) = (m : Int) := fun h => IntWalk.i64_in _ (by omega)
   have hR : Y6 s = (if s.data.length - (s.pos + c) < m then (0, s.bad) else (m, s.go c)) := by unfold Y6; rw [if_neg (fun h => h hb), hN]
   have F : _ ∧ _ ∧ _ ∧ _ := ⟨hB2, k1, w1, w2⟩
   repeat' first
    | refine g ?_
    | refine Two.mk (fun hq => ?_) fun hq => ?_
    | (with_reducible refine Y7 ?_; refine gc rfl rfl rfl U5 (Um G hG hh hb hi) ?_)
    | ((with_reducible refine Y7 ?_); first | refine gc rfl rfl rfl Zi2 (Zw1 G hG hr hB hO hl) ?_)
   all_goals
    first
    | (have hR2 : Y6 s = (0, s.bad) := by (rw [hR, if_pos (by omega)])
       exact ⟨by simp, endS (i := i) (ob := Yf s.bad) (r := .v (.int .i64 (0 : Int))) hl0 (Xm _ _) rfl (by simp [Yf, RS.bad, putL_succ, putL_zero, hT]) (by simp [hL]) rfl (by rw [low]; trivial) ⟨by rw [hR2], by rw [hR2]; rfl⟩⟩)
    | (have hR2 : Y6 s = (m, s.go c) := by (rw [hR, if_neg (by omega)])
       exact ⟨by simp, endS (i := i) (ob := Yf (s.go c)) (r := .v (.int .i64 (m : Int))) hl0 (Xm _ _) rfl (by simp [Yf, RS.go, putL_succ, putL_zero, hT]) (by simp [hL]) (congrArg (fun z : Int => D.v (.int .i64 z)) (w3 (by omega))) (by rw [low]; trivial) ⟨by rw [hR2], by rw [hR2]⟩⟩)
end
section
attribute [local irreducible] on aOp
attribute [local go_sem] decide_true decide_false Zj Zf
attribute [local simp] byD_len
variable (G : Nat → D) (hG : ∀ g, low 0 (G g))
include hG
attribute [local go_sem] Za Zg Zh Zi Zc Zd Z5 Z6 Ze
attribute [local go_sem ↓] reduceIte
theorem rBytes_d (i : Nat) (s : RS) (h : List Ob) (hi : h[i]? = some (Yf s)) (ho : s.Ok) (hl : s.data.length ≤ 1000000000) :
 Does Z3 G 133 h [.ptr i 0] (fun h' r => h' = h.set i (Yf (X3 s).2) ∧ r = .sl 1 (byD (X3 s).1)) := by
 have hil := (Z2.1 hi).1
 have g1 := fun ob => Z9 (a := ob) hil
 apply Does.weak
 refine Y5 Tryz.func133 rfl (Z0 rfl) hG fun hl0 _ => ?_
 simp only [Tryz.ntmps133]
 have hp := ho.pos
 by_cases hb : s.err = 0
 rotate_left
 · skip
   have F := g1
   repeat' first
    | refine g0 ?_
    | (with_reducible refine Y7 ?_; refine gc rfl rfl rfl U5 (Zk7 G hG hb hi) ?_)
   have hR : X3 s = ([], s) := by unfold X3; rw [if_pos hb]
   exact ⟨by simp, endS (i := i) (ob := Yf s) (r := .v _) hl0 (Xm _ _) rfl (by simp [Wc hi]) (by simp) rfl (by rw [low]; trivial) ⟨_, ⟨by rw [hR], by rw [hR]; rfl⟩, Zw7⟩⟩
 have hO : s.begun.Ok := ⟨ho.pos, Zq _, ho.err⟩
 obtain ⟨h1, hh⟩ : ∃ h1, h.set i (Yf s.begun) = h1 := ⟨_, rfl⟩
 have hB : h1[i]? = some (Yf s.begun) := hh ▸ g1 _
 have hS : ∀ x, h1.set i x = h.set i x := fun x => by rw [← hh, Zn]
 have hT : ∀ x, (h1.set i x).take h.length = h.set i x := fun x => by rw [hS]; exact Yd
 have hT2 : ∀ x (l : List Ob), (h1.set i x ++ l).take h.length = h.set i x := fun x l => by rw [hS]; exact Yc
 have hL : h1.length = h.length := by rw [← hh, Zm]
 have hB2 := hB
 rw [Vw] at hB2
 have hB2 : h1[i]? = some (.cells [.sl 1 (byD s.data), .v (.int .i64 s.pos), .v (.int .i64 s.pos), .v (.int .i64 s.err)]) := hB2
 obtain ⟨k1, k2, k3, k4, k5⟩ := Wf hB2
 rcases hN : s.num with _ | ⟨m, c⟩
 · obtain ⟨a, b, hr⟩ := Zv7 (s := s.begun) hN
   have F : _ ∧ _ := ⟨hB2, k1⟩
   repeat' first
    | refine g0 ?_
    | (with_reducible refine Y7 ?_; refine gc rfl rfl rfl U5 (Um G hG hh hb hi) ?_)
    | ((with_reducible refine Y7 ?_); first | refine gc rfl rfl rfl Zi2 (Zw1 G hG hr hB hO hl) ?_)
   have hR : X3 s = ([], s.bad) := by unfold X3; rw [if_neg (fun h => h hb), hN]
   exact ⟨by simp, endS (i := i) (ob := Yf s.bad) (r := .v _) hl0 (Xm _ _) rfl (by simp [Yf, RS.bad, putL_succ, putL_zero, hT]) (by simp [hL]) rfl (by rw [low]; trivial) ⟨_, ⟨by rw [hR], by rw [hR]; rfl⟩, Zw7⟩⟩
 · have hr := Zv6 (s := s.begun) hN
   have hr : s.begun.rawN = .tup [.v (.int .u64 m), .v (.int .i64 ((s.pos : Int) + (c : Int))), .v (.bool true)] := hr
   obtain ⟨hn1, hn2, hn3, hn4⟩ := RS.num_some hN hp
   have w1 : IntKind.i64.wrap ((s.data.length : Int) - ((s.pos : Int) + (c : Int))) = (s.data.length : Int) - ((s.pos : Int) + (c : Int)) := IntWalk.i64_in _ (by omega)
   have w2 : IntKind.u64.wrap ((s.data.length : Int) - ((s.pos : Int) + (c : Int))) = (s.data.length : Int) - ((s.pos : Int) + (c : Int)) := by rw [IntKind.wrap_u64]; omega
   have hR : X3 s = (if s.data.length - (s.pos + c) < m then ([], s.bad) else ((s.data.drop (s.pos + c)).take m, s.go (c + m))) := by unfold X3; rw [if_neg (fun h => h hb), hN]
   by_cases hm : s.data.length - (s.pos + c) < m
   · have hR2 : X3 s = ([], s.bad) := by rw [hR, if_pos hm]
     have F : _ ∧ _ ∧ _ ∧ _ := ⟨hB2, k1, w1, w2⟩
     repeat' first
      | (with_reducible refine Yj ?_; refine Yb mixd (by kernel_rfl) ?_)
      | refine g ?_
      | refine Two.mk (fun hq => ?_) fun hq => ?_
      | (with_reducible refine Y7 ?_; refine gc rfl rfl rfl U5 (Um G hG hh hb hi) ?_)
      | ((with_reducible refine Y7 ?_); first | refine gc rfl rfl rfl Zi2 (Zw1 G hG hr hB hO hl) ?_)
      | (exfalso; omega)
     exact ⟨by simp, endS (i := i) (ob := Yf s.bad) (r := .v _) hl0 (Xm _ _) rfl (by simp [Yf, RS.bad, putL_succ, putL_zero, hT]) (by simp [hL]) rfl (by rw [low]; trivial) ⟨_, ⟨by rw [hR2], by rw [hR2]; rfl⟩, Zw7⟩⟩
   · have w3 : IntKind.i64.wrap (m : Int) = (m : Int) := IntWalk.i64_in _ (by omega)
     have w4 : IntKind.i64.wrap ((s.pos : Int) + (c : Int) + (m : Int)) = (s.pos : Int) + (c : Int) + (m : Int) := IntWalk.i64_in _ (by omega)
     have hR2 : X3 s = ((s.data.drop (s.pos + c)).take m, s.go (c + m)) := by rw [hR, if_neg hm]
     have F : _ ∧ _ ∧ _ ∧ _ ∧ _ ∧ _ ∧ _ ∧ _ ∧ _ ∧ _ := ⟨hB2, k1, k2, k3, k4, k5, w1, w2, w3, w4⟩
     repeat' first
      | (with_reducible refine Yj ?_; refine X7 mixd (by kernel_rfl) ?_)
      | ((with_reducible refine Uc ?_); first | (refine aS1 rfl rfl fun K HK => ?_; (first | refine Yh rfl ?_ | skip); simp only [go_sem, F]; (first | refine X1 (fun hq => ?_) (fun hq => ?_) | (refine Ya8 (by simp only [go_sem, F]) rfl rfl (by first | omega | simp) (by first | omega | simp) (by simp only [go_sem, F]; omega) ?_) | skip) <;> (refine HK _ _ rfl ?_; clear HK K)) | refine Xg rfl rfl rfl (by (first | assumption | (simp only [go_sem, F]; rfl))) (by rw [getD_one (by simp only [go_sem, F])]; rfl) ?_ | refine Vn rfl rfl (by simp only [litD, Xf, go_sem, List.length_cons, List.length_nil, Option.map_some, Option.bind_some, and_self, ↓reduceIte, Z5, Zc, Z6, Zd, Ze, Zg, Zi, Zh, hB2, k1, k2, k3, k4, k5, w1, w2, w3, w4, Za]; rfl) ?_ | refine aS_appR rfl rfl rfl (by (first | assumption | (simp only [go_sem, F]; rfl))) (by simp) (by simp only [go_sem, F]; rfl) rfl (by (rw [Zp3]; exact Zc7 _)) (by (simp; omega)) ?_ | refine V4 (by simp only [List.reverse_cons, List.reverse_nil, List.nil_append, List.cons_append, W5, chk1]; repeat' (first | exact trivial | refine And.intro ?_ ?_ | exact .inr X2 | exact .inr X4 | exact .inr Xj | (refine .inr ?_; simp [compat, Xw, Wa, Ws, nop] <;> omega) | exact .inl (by kernel_rfl))) ?_)
      | refine g ?_
      | refine Two.mk (fun hq => ?_) fun hq => ?_
      | (with_reducible refine Y7 ?_; refine gc rfl rfl rfl U5 (Um G hG hh hb hi) ?_)
      | ((with_reducible refine Y7 ?_); first | refine gc rfl rfl rfl Zi2 (Zw1 G hG hr hB hO hl) ?_)
      | (exfalso; omega)
     have e2 : ((s.pos : Int) + (c : Int) + (m : Int)).toNat = s.pos + c + m := by omega
     have e1 : ((s.pos : Int) + (c : Int)).toNat = s.pos + c := by omega
     refine ⟨by simp, endS (i := i) (ob := Yf (s.go (c + m))) (r := .sl 1 _) hl0 (Xm _ _) rfl (by simp [Yf, RS.go, putL_succ, putL_zero, hT, hT2, Int.add_assoc]) (by simp [hL]) (by simp [outD, cvD, cv1, upd_app, hL]; rfl) ?_ ⟨_, ⟨by rw [hR2], rfl⟩, ?_⟩⟩
     · rw [Zp3, e1, e2]; exact Ja _ _
     · rw [Zp3, e1, e2, hR2, show (s.data.take (s.pos + c + m)).drop (s.pos + c) = (s.data.drop (s.pos + c)).take m by rw [List.drop_take]; congr 1; omega]
       exact fun _ _ _ _ h => h
end
section
attribute [local irreducible] on aOp
attribute [local go_sem] decide_true decide_false Zj Zf
attribute [local simp] byD_len
section
variable {P : Program} {G : Nat → D} {n : Nat} {e : Nat → D} {h : List Ob} {ops : Array Oper} {rest : List Oper} {Q : S → Prop} {t : Option Nat} {ty : TypeId} {pos : String} {aft : Array Edge}
theorem ao_bldG {u t' j n1 E1 k1 : Nat} {xs : List (List D)} (hx : e t' = .buf j n1) (hj : h[j]? = some (.buf E1 k1 xs)) (hn : xs.length = n1)
 (q : ao P G ops (⟨t, .build u #[(0, .tmp t')], ty, pos, aft, none⟩ :: rest) Q ⟨n, upd e t' (.sl k1 xs), h.set j .dead⟩) : ao P G ops (⟨t, .build u #[(0, .tmp t')], ty, pos, aft, none⟩ :: rest) Q ⟨n, e, h⟩ := by
 refine ao_give j t' ?_
 have e1 : cvD (fun i => i == j) h (e t') = .sl k1 xs := by rw [hx]; simp [cvD, cv1, hj, hn]
 rw [e1]
 exact q
end
variable (G : Nat → D) (hG : ∀ g, low 0 (G g))
include hG
attribute [local go_sem] Za Zg Zh Zi Zp Zc Zd Z5 Z6 Ze
attribute [local go_sem ↓] reduceIte
theorem newReader0 (l : List UInt8) (hl : l.length ≤ 1000000000) : Does Z3 G 53 [] [.sl 1 (byD l)] (fun h' r => h' = [.dead, Yf ⟨l, 0, 0, 0⟩] ∧ r = .ptr 1 0) := by
 refine Y5 Tryz.func53 rfl (Z0 rfl) hG fun hl0 _ => ?_
 simp only [Tryz.ntmps53]
 repeat' first
  | (refine ao_bldG rfl rfl (by first | rfl | (simp; done) | (simp; omega)) ?_)
  | refine sA rfl ?_
  | refine Yr ?_
  | (refine ao1 rfl rfl fun K HK => ?_; simp only [go_sem] <;> (refine HK _ _ ?_; clear HK K))
  | refine ao_appR rfl rfl rfl (by (simp only [go_sem]; rfl)) (by simp) (by simp only [go_sem]; rfl) rfl (by exact Zc7 _) (by (simp; omega)) ?_
 refine ⟨.inr rfl, [.ptr 1 0], 2, rfl, by simp, by simp, ?_, ?_, ?_, ?_⟩
 · intro x hx
   have hx : x ∈ [Ob.dead, Yf ⟨l, 0, 0, 0⟩] := hx
   simp at hx
   rcases hx with rfl | rfl
   · trivial
   · exact Xm _ _
 · simp [outD, cvD, cv1, low]
 · rfl
 · simp [outD, cvD, cv1]
theorem newReader1 (l : List UInt8) (hl : l.length ≤ 1000000000) : Does Z3 G 53 [] [.sl 1 (byD l)] (fun h' r => h' = [Yf ⟨l, 0, 0, 0⟩] ∧ r = .ptr 0 0) := by
 refine (newReader0 G hG l hl).shrink hG ?_
 rintro _ _ ⟨rfl, rfl⟩
 refine ⟨[Yf ⟨l, 0, 0, 0⟩], .ptr 0 0, ⟨[1], ?_, rfl, ?_, Nat.zero_le _, fun k hk => by simp at hk⟩, rfl, rfl⟩
 · have e : rnR [1] (byD l) = some (byD l) := Zr3 _ _ (by have := Ja 0 l; rwa [low] at this)
   simp [rnH, Yf, rnOb, rnL, rnO, e]
 · simp [rnO, pos]
theorem newReader_d (l : List UInt8) (hl : l.length ≤ 1000000000) (h : List Ob) : Does Z3 G 53 h [.sl 1 (byD l)] (fun h' r => h' = h ++ [Yf ⟨l, 0, 0, 0⟩] ∧ r = .ptr h.length 0) := by
 have la : lowL 0 [D.sl 1 (byD l)] := by rw [lowL, lowL]; exact ⟨Ja _ _, trivial⟩
 have lo : lowL 0 [D.sl 1 (byD l), .v (.int .i64 (0 : Int)), .v (.int .i64 (0 : Int)), .v (.int .i64 (0 : Int))] := by
  simp only [lowL]; exact ⟨Ja _ _, by simp [low], by simp [low], by simp [low], trivial⟩
 refine Does.holes 1 ?_
 have L : Lies (fun _ => h.length) [] (h ++ holes 1) := ⟨fun i ob q => by simp at q, fun i j q => by simp at q, fun ob q => by simp at q⟩
 have F := Does.frame hG L (args := [.sl 1 (byD l)]) la (K1 := fun h' r => h' = [Yf ⟨l, 0, 0, 0⟩] ∧ r = .ptr 0 0) (by
  rintro _ _ ⟨rfl, _⟩
  refine ⟨fun i j hi hj _ => by simp at hi hj; omega, fun j _ hj => ?_⟩
  simp [holes]) (newReader1 G hG l hl)
 rw [W4 _ _ la] at F
 refine F.mono ?_
 rintro _ _ ⟨_, _, ⟨rfl, rfl⟩, rfl, rfl⟩
 have e1 := W4 (fun _ => h.length) _ lo
 simp [plc, Va, ren, holes, Yf, e1]
theorem rBool_d (i : Nat) (s : RS) (h : List Ob) (hi : h[i]? = some (Yf s)) (ho : s.Ok) (hl : s.data.length ≤ 1000000000) :
 Does Z3 G 88 h [.ptr i 0] (fun h' r => h' = h.set i (Yf (Yx s).2) ∧ r = .v (.bool (Yx s).1)) := by
 have hil := (Z2.1 hi).1
 have g1 := fun ob => Z9 (a := ob) hil
 refine Y5 Tryz.func88 rfl (Z0 rfl) hG fun hl0 _ => ?_
 simp only [Tryz.ntmps88]
 have hp := ho.pos
 by_cases hb : s.err = 0
 rotate_left
 · skip
   repeat' first
    | refine sA rfl ?_ | refine sI rfl rfl ?_ | refine sT rfl ?_
    | refine Yr ?_
    | (refine ao1 rfl rfl fun K HK => ?_; simp only [go_sem, g1] <;> (refine HK _ _ ?_; clear HK K))
    | (refine ao2 rfl rfl rfl U5 (Zk7 G hG hb hi) ?_; rintro _ _ ⟨rfl, rfl⟩)
   have hR : Yx s = (false, s) := by unfold Yx; rw [if_pos hb]
   exact ⟨by simp, endS (i := i) (ob := Yf s) (r := .v (.bool false)) hl0 (Xm _ _) rfl (by simp [Wc hi]) (by simp) rfl (by rw [low]; trivial) ⟨by rw [hR], by rw [hR]⟩⟩
 obtain ⟨h1, hh⟩ : ∃ h1, h.set i (Yf s.begun) = h1 := ⟨_, rfl⟩
 have hB : h1[i]? = some (Yf s.begun) := hh ▸ g1 _
 have hS : ∀ x, h1.set i x = h.set i x := fun x => by rw [← hh, Zn]
 have hT : ∀ x, (h1.set i x).take h.length = h.set i x := fun x => by rw [hS]; exact Yd
 have hL : h1.length = h.length := by rw [← hh, Zm]
 have hB2 := hB
 rw [Vw] at hB2
 have hB2 : h1[i]? = some (.cells [.sl 1 (byD s.data), .v (.int .i64 s.pos), .v (.int .i64 s.pos), .v (.int .i64 s.err)]) := hB2
 obtain ⟨k1, k2, k3, k4, k5⟩ := Wf hB2
 by_cases hlt : s.pos < s.data.length
 rotate_left
 · have hR : Yx s = (false, s.bad) := by unfold Yx; rw [if_neg (fun h => h hb), List.getElem?_eq_none (by omega)]
   have w0 : s.data.length = s.pos := by omega
   repeat' first
    | refine sA rfl ?_ | refine sI rfl rfl ?_ | refine sT rfl ?_
    | refine Yr ?_
    | ((first | refine ao1 rfl rfl fun K HK => ?_ | refine aq1 rfl rfl fun K HK => ?_); (first | refine Yh rfl ?_ | skip); simp only [go_sem, hB2, k1, w0] <;> ((first | refine HK _ _ ?_ | refine HK _ _ rfl ?_); clear HK K))
    | refine aq0 rfl rfl ?_
    | refine Jd ?_
    | (refine Yb mixd (by kernel_rfl) ?_)
    | (refine ao2 rfl rfl rfl U5 (Um G hG hh hb hi) ?_; rintro _ _ ⟨rfl, rfl⟩)
    | (refine ao1' rfl fun K HK => ?_; simp only [go_sem, hB2, k1, w0]; refine HK _ _ ?_; clear HK K)
   all_goals first
   | exact ⟨by simp, endS (i := i) (ob := Yf s.bad) (r := .v (.bool false)) hl0 (Xm _ _) rfl (by simp [Yf, RS.bad, putL_succ, putL_zero, hT]) (by simp [hL]) rfl (by rw [low]; trivial) ⟨by rw [hR], by rw [hR]⟩⟩
   | (exfalso; omega)
 have hx : s.data[s.pos]? = some s.data[s.pos] := Z8 hlt
 generalize s.data[s.pos] = x at hx
 have w1 : IntKind.i64.wrap ((s.pos : Int) + 1) = (s.pos : Int) + 1 := IntWalk.i64_in _ (by omega)
 repeat' first
  | refine sA rfl ?_ | refine sI rfl rfl ?_ | refine sT rfl ?_
  | refine Yr ?_
  | ((first | refine ao1 rfl rfl fun K HK => ?_ | refine aq1 rfl rfl fun K HK => ?_); (first | refine Yh rfl ?_ | skip); simp only [go_sem, hB2, k1, w1]; (first | refine X1 (fun hq => ?_) (fun hq => ?_) | (refine ⟨by omega, by omega, ?_⟩; refine W9 (by assumption) ?_) | skip) <;> ((first | refine HK _ _ ?_ | refine HK _ _ rfl ?_); clear HK K))
  | refine aq0 rfl rfl ?_
  | refine Jd ?_
  | (refine Yb mixd (by kernel_rfl) ?_)
  | (refine ao2 rfl rfl rfl U5 (Um G hG hh hb hi) ?_; rintro _ _ ⟨rfl, rfl⟩)
  | (refine ao1' rfl fun K HK => ?_; simp only [go_sem, hB2, k1, w1]; refine HK _ _ ?_; clear HK K)
  | (exfalso; omega)
 all_goals
  have hR : Yx s = (if 1 < x.toNat then (false, s.bad) else (decide (x.toNat = 1), s.go 1)) := by unfold Yx; rw [if_neg (fun h => h hb), hx]
  first
  | (exfalso; omega)
  | (have hR2 : Yx s = (false, s.bad) := by (rw [hR, if_pos (by omega)])
     exact ⟨by simp, endS (i := i) (ob := Yf s.bad) (r := .v (.bool false)) hl0 (Xm _ _) rfl (by simp [Yf, RS.bad, putL_succ, putL_zero, hT]) (by simp [hL]) rfl (by rw [low]; trivial) ⟨by rw [hR2], by rw [hR2]⟩⟩)
  | (have hR2 : Yx s = (true, s.go 1) := by (rw [hR, if_neg (by omega), decide_eq_true (by omega)])
     exact ⟨by simp, endS (i := i) (ob := Yf (s.go 1)) (r := .v (.bool true)) hl0 (Xm _ _) rfl (by simp [Yf, RS.go, putL_succ, putL_zero, hT]) (by simp [hL]) rfl (by rw [low]; trivial) ⟨by rw [hR2], by rw [hR2]⟩⟩)
  | (have hR2 : Yx s = (false, s.go 1) := by (rw [hR, if_neg (by omega), decide_eq_false (by omega)])
     exact ⟨by simp, endS (i := i) (ob := Yf (s.go 1)) (r := .v (.bool false)) hl0 (Xm _ _) rfl (by simp [Yf, RS.go, putL_succ, putL_zero, hT]) (by simp [hL]) rfl (by rw [low]; trivial) ⟨by rw [hR2], by rw [hR2]⟩⟩)
theorem Yh2 (i : Nat) (s : RS) (h : List Ob) (hi : h[i]? = some (Yf s)) (ho : s.Ok) (hl : s.data.length ≤ 1000000000) :
 Does Z3 G 92 h [.ptr i 0] (fun h' r => h' = h.set i (Yf (X3 s).2) ∧ r = .v (.string ⟨(X3 s).1.toArray⟩)) := by
 have hil := (Z2.1 hi).1
 refine Y5 Tryz.func92 rfl (Z0 rfl) hG fun hl0 _ => ?_
 simp only [Tryz.ntmps92]
 repeat' first
  | refine sA rfl ?_
  | refine Yr ?_
  | (refine ao1 rfl rfl fun K HK => ?_; simp only [go_sem, hi] <;> (refine HK _ _ ?_; clear HK K))
  | (refine ao2 rfl rfl rfl ent_133 (rBytes_d G hG _ _ _ hi ho hl) ?_; rintro _ _ ⟨rfl, rfl⟩)
 refine ao1 rfl rfl fun K HK => ?_
 simp only [go_sem]
 refine bst_by (by simp only [go_sem]) (by simp only [go_sem]) ?_
 refine HK _ _ ?_; clear HK K
 repeat' first
  | refine Yr ?_
  | (refine ao1 rfl rfl fun K HK => ?_; simp only [go_sem, hi] <;> (refine HK _ _ ?_; clear HK K))
  | refine sA rfl ?_
 exact ⟨by simp, endS (i := i) (ob := Yf (X3 s).2) (r := .v _) hl0 (Xm _ _) rfl (by simp [Yd]) (by simp) rfl (by rw [low]; trivial) ⟨rfl, rfl⟩⟩
end
section
attribute [local irreducible] on aOp
attribute [local go_sem] decide_true decide_false Zj Zf
attribute [local simp] byD_len
variable (G : Nat → D) (hG : ∀ g, low 0 (G g))
def rdSm (m : Nat) (s : RS) : Nat × RS := (if m < (Yq s).1 then 0 else (Yq s).1, if m < (Yq s).1 then (Yq s).2.fail else (Yq s).2)
include hG
attribute [local go_sem] Zg Zh Zi Zc Zd Z5 Z6 Ze
attribute [local go_sem ↓] reduceIte
theorem small_d (i m : Nat) (s : RS) (h : List Ob) (hm : m ≤ 9223372036854775807) (hi : h[i]? = some (Yf s)) (ho : s.Ok) (hl : s.data.length ≤ 1000000000) :
 Does Z3 G 93 h [.ptr i 0, .v (.int .u64 m)] (fun h' r => h' = h.set i (Yf (rdSm m s).2) ∧ r = .v (.int .i64 ((rdSm m s).1 : Nat))) := by
 have hil := (Z2.1 hi).1
 have hc := rUint_d G hG i s h hi ho hl
 have hR : rdSm m s = (if m < (Yq s).1 then 0 else (Yq s).1, if m < (Yq s).1 then (Yq s).2.fail else (Yq s).2) := rfl
 rw [hR]
 generalize Yq s = ru at hc ⊢
 obtain ⟨n, t⟩ := ru
 simp only at hc ⊢
 obtain ⟨h1, hh⟩ : ∃ h1, h.set i (Yf t) = h1 := ⟨_, rfl⟩
 have hB : h1[i]? = some (Yf t) := by rw [← hh]; exact Z9 hil
 have hF := rFail_d G hG i t h1 hB
 have hS : h1.set i (Yf t.fail) = h.set i (Yf t.fail) := by rw [← hh, Zn]
 rw [hh] at hc
 rw [hS] at hF
 refine Y5 Tryz.func93 rfl (Z0 rfl) hG fun hl0 _ => ?_
 simp only [Tryz.ntmps93]
 by_cases hq0 : m < n
 · rw [if_pos hq0, if_pos hq0]
   have w1 : ((n : Nat) : Int) > ((m : Nat) : Int) := by omega
   have w2 : decide (((m : Nat) : Int) < ((n : Nat) : Int)) = true := decide_eq_true (by omega)
   have F := w2
   repeat' first
    | refine g0 ?_
    | (with_reducible refine Y7 ?_; first | refine gc rfl rfl rfl ent_131 (hc) ?_ | refine gc rfl rfl rfl ent_134 (hF) ?_)
   exact ⟨by simp, endS (i := i) (ob := Yf t.fail) (r := .v (.int .i64 (0 : Int))) hl0 (Xm _ _) rfl (by simp [Yd]) (by simp) rfl (by rw [low]; trivial) ⟨rfl, rfl⟩⟩
 · rw [if_neg hq0, if_neg hq0]
   have w2 : decide (((m : Nat) : Int) < ((n : Nat) : Int)) = false := decide_eq_false (by omega)
   have w3 : IntKind.i64.wrap (n : Int) = (n : Int) := IntWalk.i64_in _ (by omega)
   have F : _ ∧ _ := ⟨w2, w3⟩
   repeat' first
    | refine g0 ?_
    | (with_reducible refine Y7 ?_; refine gc rfl rfl rfl ent_131 (hc) ?_)
   exact ⟨by simp, endS (i := i) (ob := Yf t) (r := .v (.int .i64 (n : Int))) hl0 (Xm _ _) rfl (by simp [← hh, Yd]) (by simp [← hh]) rfl (by rw [low]; trivial) ⟨rfl, rfl⟩⟩
end
end Go.Proofs.YtmdjnaobllajmaaGreatDoor
