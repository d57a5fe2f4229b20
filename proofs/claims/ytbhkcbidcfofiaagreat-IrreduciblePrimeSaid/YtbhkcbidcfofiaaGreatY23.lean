/-
  What the statements of the chapter share, part 23: RV9.
-/
import Derived.Test.YtbhkcbidcfofiaaGreatY14
import Derived.Test.YtbhkcbidcfofiaaGreatY21
import Derived.Test.YtbhkcbidcfofiaaGreatY22
set_option linter.unusedVariables false
set_option linter.unusedSimpArgs false
set_option maxRecDepth 100000
set_option maxHeartbeats 8000000
namespace Go.Proofs.YtbhkcbidcfofiaaGreat
open _root_.Bool renaming and_eq_true → Z0, eq_false_iff → Z1, true_and → Z2, false_and → Z6
open _root_.List renaming drop_eq_getElem_cons → Z3, getElem?_eq_getElem → Z4, getElem_mem → Z5, all_eq_true → Z7
open Go.RowKit
section
set_option maxHeartbeats 16000000
attribute [local irreducible] on aOp
attribute [local go_sem] decide_true decide_false Bool.not_true Bool.not_false
attribute [local simp] byD_len
theorem Ris.nodup {l : List ByteArray} (h : Ris l) : l.Nodup := List.Pairwise.imp (fun {a b} q e => by subst e; exact List.lt_irrefl _ (Zo0.1 q)) h
theorem WfL.rules {l : Lat} (h : WfL l) : ∀ r ∈ l.rules, Ris r.cond ∧ r.cond.length ≤ 1000000 := by
 have h1 := h.spell
 have h2 := h.kinds.2.2.2.2.2.2.2.1
 unfold Zk0 at h1
 rw [Bool.not_eq_false', Z0] at h1
 intro r hr
 have h3 := Z7.1 h1.2 r hr
 unfold ruleB at h3
 simp only [Z0] at h3
 have hs := ris_of h3.1.1.2
 refine ⟨hs, ?_⟩
 have hsub : r.cond ⊆ l.names := fun x hx => (Xn _ _).1 (Z7.1 h3.1.2 x hx)
 have := List.Nodup.length_le_of_subset hs.nodup hsub
 omega
theorem allowed_len {only list : List ByteArray} (h : Yf only list = true) (ho : only.length ≠ 0) : list.length ≤ only.length := by
 unfold Yf at h
 rw [Z0] at h
 refine List.Nodup.length_le_of_subset (ris_of h.1).nodup fun x hx => ?_
 have := Z7.1 h.2 x hx
 unfold memB at this
 rw [decide_eq_false ho, Bool.false_or, Z0] at this
 exact (Xn _ _).1 this.2
theorem Vz (v : Val) (n list parts entries : Bool) : Vi v n list parts entries = true ↔ ((n = true ∨ v.n = 0) ∧ (list = true ∨ v.names.length = 0) ∧ (parts = true ∨ v.parts.length = 0) ∧ (entries = true ∨ v.entries.length = 0)) := by
 unfold Vi
 simp only [Z0, Bool.or_eq_true, decide_eq_true_eq, and_assoc]
theorem Yi8 {l : Lat} {v : Val} (h : l.kind = 1) : Ya l v = true ↔ v.entries.length = 0 ∧ (v.n = 0 ∨ v.n = 1) ∧ v.names.length = 0 ∧ v.parts.length = 0 := by
 rw [el_1 h, Z0, Vz, decide_eq_true_eq]
 grind
theorem Zc8 {l : Lat} {v : Val} (h : l.kind = 2 ∨ l.kind = 3) : Ya l v = true ↔ v.entries.length = 0 ∧ (l.lo ≤ v.n ∧ v.n ≤ l.hi) ∧ v.names.length = 0 ∧ v.parts.length = 0 := by
 rw [el_23 h, Z0, Vz, decide_eq_true_eq]
 grind
theorem Yi7 {l : Lat} {v : Val} (h : l.kind = 4) : Ya l v = true ↔ v.entries.length = 0 ∧ v.n = 0 ∧ v.parts.length = 0 ∧ Yf l.names v.names = true := by
 rw [el_4 h, Z0, Vz]
 grind
theorem Zc9 {l : Lat} {v : Val} (h : l.kind = 10) : Ya l v = true ↔ v.entries.length = 0 ∧ v.n = 0 ∧ v.parts.length = 0 ∧ Yf l.names v.names = true ∧ V4 l.rules v.names = true := by
 rw [el_10 h, Z0, Z0, Vz]
 grind
theorem Yi6 {l : Lat} {v : Val} (h : l.kind = 8) : Ya l v = true ↔ v.entries.length = 0 ∧ v.parts.length = 0 ∧ ((v.n = 0 ∨ v.n = 2) ∧ v.names.length = 0 ∨ v.n = 1 ∧ v.names.length = 1 ∧ Yf l.names v.names = true) := by
 rw [el_8 h]
 by_cases h1 : v.n = 0 ∨ v.n = 2
 · rw [if_pos h1, Vz]
   grind
 · rw [if_neg h1]
   by_cases h2 : v.n = 1
   · rw [if_pos h2, Z0, Z0, Vz, decide_eq_true_eq]
     grind
   · rw [if_neg h2]
     grind
theorem Yi5 {l : Lat} {v : Val} (h : l.kind = 9) : Ya l v = true ↔ v.n = 0 ∧ v.names.length = 0 ∧ v.parts.length = 0 ∧ regB v.entries = true := by
 rw [el_9 h, Z0, Vz]
 grind
theorem elem_iff_5 {l : Lat} {v : Val} {p : Lat} (h : l.kind = 5) (hp : l.parts = [p]) : Ya l v = (decide (v.entries.length = 0) && (decide (v.n = 0) && (decide (v.names.length = v.parts.length) && (Yf l.names v.names && v.parts.all fun v => Ya p v && decide (valC v (botV p) ≠ 0))))) := by
  rw [el_5 h, hp, map_one, Bool.eq_iff_iff]
  simp only [Z0, Vz, decide_eq_true_eq]
  grind
theorem elem_iff_67 {l : Lat} {v : Val} (h : l.kind = 6 ∨ l.kind = 7) : Ya l v = (decide (v.entries.length = 0) && (decide (v.n = 0) && (decide (v.names.length = 0) && (decide (v.parts.length = l.parts.length) && Vx l.parts v.parts)))) := by
 rw [el_67 h, Bool.eq_iff_iff]
 simp only [Z0, Vz, decide_eq_true_eq]
 grind
variable (G : Nat → D) (hG : ∀ g, low 0 (G g))
include hG
attribute [local go_sem] Bool.false_eq_true Int.reduceEq Int.reduceLE Int.reduceLT Int.toNat_natCast Int.toNat_zero List.length_map Nat.reduceAdd Nat.reduceBEq Nat.reduceEqDiff Nat.reduceLeDiff Nat.reduceMul vM_0 vM_1 vM_len
attribute [local go_sem ↓] reduceIte
theorem relement_d (f : Nat) : ∀ (l : Lat) (v : Val), SizeOf.sizeOf l ≤ f → WfL l → Sm l → VSm v → ∀ h : List Ob, Does Tryz.prog G 78 h [.agg (latX l), .agg (vaX v)] (fun h' r => h' = h ∧ r = .v (.bool (Ya l v))) := by
 induction f with
 | zero => intro l v hn; cases l; simp at hn
 | succ f ih =>
 intro l v hn hwf hsm hv h
 refine Y9 G hG (by simp only [lowL, low]; exact ⟨Yp _ l, Yb _ v, trivial⟩) (by rw [low]; trivial) ?_ h
 clear h
 obtain ⟨hk0, hk5, hk7, hk6, _, _, _, hnl, _, hk10, _⟩ := hwf.kinds
 have hal := rmembers_d G hG l.names v.names hsm.names hv.names hv.texts
 have hrg := rents_d G hG v.entries hv.entries hv.ents
 have hvn := hv.names
 have hvp := hv.parts
 have hve := hv.entries
 have hpp : ∀ p ∈ l.parts, ∀ x ∈ v.parts, ∀ h, Does Tryz.prog G 78 h [.agg (latX p), .agg (vaX x)] (fun h' r => h' = h ∧ r = .v (.bool (Ya p x))) := fun p hp x hx => ih p x (by have := Yu hp; omega) (hwf.part hp) (hsm.part p hp) (hv.part x hx)
 refine Y6 Tryz.func78 rfl (Nat.le_of_ble_eq_true rfl) hG fun hl0 _ => ?_
 simp only [Tryz.ntmps78]
 by_cases h1 : l.kind = 1
 · skip
   have F : _ ∧ _ ∧ _ := ⟨Y4 l, Y5 v, h1⟩
   repeat' first
    | refine gg ?_
    | refine Two.mk (fun hq => ?_) fun hq => ?_
   all_goals first | (exfalso; omega) | exact ⟨.inr rfl, endD (r := .v (.bool true)) hl0 rfl (by simp) (by simp) rfl (by rw [low]; trivial) ⟨rfl, by rw [(Yi8 (v := v) h1).2 (by grind)]⟩⟩ | exact ⟨.inr rfl, endD (r := .v (.bool false)) hl0 rfl (by simp) (by simp) rfl (by rw [low]; trivial) ⟨rfl, by rw [show Ya l v = false from Z1.2 (fun q => by have := (Yi8 (v := v) h1).1 q; grind)]⟩⟩
 by_cases h23 : l.kind = 2 ∨ l.kind = 3
 · rcases h23 with h2 | h2
   · skip
     have F : _ ∧ _ ∧ _ := ⟨Y4 l, Y5 v, h2⟩
     repeat' first
      | refine gg ?_
      | refine Two.mk (fun hq => ?_) fun hq => ?_
     all_goals first | (exfalso; omega) | exact ⟨.inr rfl, endD (r := .v (.bool true)) hl0 rfl (by simp) (by simp) rfl (by rw [low]; trivial) ⟨rfl, by rw [(Zc8 (v := v) (.inl h2)).2 (by grind)]⟩⟩ | exact ⟨.inr rfl, endD (r := .v (.bool false)) hl0 rfl (by simp) (by simp) rfl (by rw [low]; trivial) ⟨rfl, by rw [show Ya l v = false from Z1.2 (fun q => by have := (Zc8 (v := v) (.inl h2)).1 q; grind)]⟩⟩
   · skip
     have F : _ ∧ _ ∧ _ := ⟨Y4 l, Y5 v, h2⟩
     repeat' first
      | refine gg ?_
      | refine Two.mk (fun hq => ?_) fun hq => ?_
     all_goals first | (exfalso; omega) | exact ⟨.inr rfl, endD (r := .v (.bool true)) hl0 rfl (by simp) (by simp) rfl (by rw [low]; trivial) ⟨rfl, by rw [(Zc8 (v := v) (.inr h2)).2 (by grind)]⟩⟩ | exact ⟨.inr rfl, endD (r := .v (.bool false)) hl0 rfl (by simp) (by simp) rfl (by rw [low]; trivial) ⟨rfl, by rw [show Ya l v = false from Z1.2 (fun q => by have := (Zc8 (v := v) (.inr h2)).1 q; grind)]⟩⟩
 by_cases h4 : l.kind = 4
 · cases hA : Yf l.names v.names <;> rw [hA] at hal
   all_goals
    have F : _ ∧ _ ∧ _ := ⟨Y4 l, Y5 v, h4⟩
    repeat' first
     | refine gg ?_
     | refine Two.mk (fun hq => ?_) fun hq => ?_
     | (with_reducible refine Y7 ?_; refine gc rfl rfl rfl Zm9 (hal _) ?_)
    all_goals first | (exfalso; omega) | exact ⟨.inr rfl, endD (r := .v (.bool true)) hl0 rfl (by simp) (by simp) rfl (by rw [low]; trivial) ⟨rfl, by rw [(Yi7 (v := v) h4).2 (by grind)]⟩⟩ | exact ⟨.inr rfl, endD (r := .v (.bool false)) hl0 rfl (by simp) (by simp) rfl (by rw [low]; trivial) ⟨rfl, by rw [show Ya l v = false from Z1.2 (fun q => by have := (Yi7 (v := v) h4).1 q; grind)]⟩⟩
 by_cases h8 : l.kind = 8
 · cases hA : Yf l.names v.names <;> rw [hA] at hal
   all_goals
    have F : _ ∧ _ ∧ _ := ⟨Y4 l, Y5 v, h8⟩
    repeat' first
     | refine gg ?_
     | refine Two.mk (fun hq => ?_) fun hq => ?_
     | (with_reducible refine Y7 ?_; refine gc rfl rfl rfl Zm9 (hal _) ?_)
     | (exfalso; omega)
    all_goals first | (exfalso; omega) | exact ⟨.inr rfl, endD (r := .v (.bool true)) hl0 rfl (by simp) (by simp) rfl (by rw [low]; trivial) ⟨rfl, by rw [(Yi6 (v := v) h8).2 (by grind)]⟩⟩ | exact ⟨.inr rfl, endD (r := .v (.bool false)) hl0 rfl (by simp) (by simp) rfl (by rw [low]; trivial) ⟨rfl, by rw [show Ya l v = false from Z1.2 (fun q => by have := (Yi6 (v := v) h8).1 q; grind)]⟩⟩
 by_cases h9 : l.kind = 9
 · cases hA : regB v.entries <;> rw [hA] at hrg
   all_goals
    have F : _ ∧ _ ∧ _ := ⟨Y4 l, Y5 v, h9⟩
    repeat' first
     | refine gg ?_
     | refine Two.mk (fun hq => ?_) fun hq => ?_
     | (with_reducible refine Y7 ?_; refine gc rfl rfl rfl ent_136 (hrg _) ?_)
    all_goals first | (exfalso; omega) | exact ⟨.inr rfl, endD (r := .v (.bool true)) hl0 rfl (by simp) (by simp) rfl (by rw [low]; trivial) ⟨rfl, by rw [(Yi5 (v := v) h9).2 (by grind)]⟩⟩ | exact ⟨.inr rfl, endD (r := .v (.bool false)) hl0 rfl (by simp) (by simp) rfl (by rw [low]; trivial) ⟨rfl, by rw [show Ya l v = false from Z1.2 (fun q => by have := (Yi5 (v := v) h9).1 q; grind)]⟩⟩
 by_cases h10 : l.kind = 10
 · cases hA : Yf l.names v.names <;> rw [hA] at hal
   · skip
     have F : _ ∧ _ ∧ _ := ⟨Y4 l, Y5 v, h10⟩
     repeat' first
      | refine gg ?_
      | refine Two.mk (fun hq => ?_) fun hq => ?_
      | (with_reducible refine Y7 ?_; refine gc rfl rfl rfl Zm9 (hal _) ?_)
     all_goals first | (exfalso; omega) | exact ⟨.inr rfl, endD (r := .v (.bool true)) hl0 rfl (by simp) (by simp) rfl (by rw [low]; trivial) ⟨rfl, by rw [(Zc9 (v := v) h10).2 (by grind)]⟩⟩ | exact ⟨.inr rfl, endD (r := .v (.bool false)) hl0 rfl (by simp) (by simp) rfl (by rw [low]; trivial) ⟨rfl, by rw [show Ya l v = false from Z1.2 (fun q => by have := (Zc9 (v := v) h10).1 q; grind)]⟩⟩
   · have hcl := rclosed_d G hG l.rules v.names hsm.rules hwf.rules (by have := allowed_len hA (by have := hk10 h10; omega); omega)
     cases hC : V4 l.rules v.names <;> rw [hC] at hcl
     all_goals
      have F : _ ∧ _ ∧ _ := ⟨Y4 l, Y5 v, h10⟩
      repeat' first
       | refine gg ?_
       | refine Two.mk (fun hq => ?_) fun hq => ?_
       | (with_reducible refine Y7 ?_; first | refine gc rfl rfl rfl Zm9 (hal _) ?_ | refine gc rfl rfl rfl ent_137 (hcl _) ?_)
      all_goals first | (exfalso; omega) | exact ⟨.inr rfl, endD (r := .v (.bool true)) hl0 rfl (by simp) (by simp) rfl (by rw [low]; trivial) ⟨rfl, by rw [(Zc9 (v := v) h10).2 (by grind)]⟩⟩ | exact ⟨.inr rfl, endD (r := .v (.bool false)) hl0 rfl (by simp) (by simp) rfl (by rw [low]; trivial) ⟨rfl, by rw [show Ya l v = false from Z1.2 (fun q => by have := (Zc9 (v := v) h10).1 q; grind)]⟩⟩
 by_cases h5 : l.kind = 5
 · obtain ⟨p, hp⟩ := List.length_eq_one_iff.1 (hk5 h5)
   have hpm : p ∈ l.parts := by rw [hp]; simp
   have hp0 : l.parts[0]? = some p := by rw [hp]; rfl
   have hpl : (l.parts.length : Int) = 1 := by rw [hp]; rfl
   have hE := elem_iff_5 (v := v) h5 hp
   have hbo := least_d G hG _ p (Nat.le_refl _) (hwf.part hpm)
   have hvb := Yj7 _ p (Nat.le_refl _) (hsm.part p hpm)
   have hpp := hpp p hpm
   clear hp hk10
   simp only [Y4 p] at hbo hpp
   cases hA : Yf l.names v.names <;> rw [hA] at hal hE
   · have e0 : Ya l v = false := by rw [hE]; simp
     rw [e0]
     have F : _ ∧ _ ∧ _ := ⟨Y4 l, Y5 v, h5⟩
     repeat' first
      | refine gg ?_
      | refine Two.mk (fun hq => ?_) fun hq => ?_
      | (with_reducible refine Y7 ?_; refine gc rfl rfl rfl Zm9 (hal _) ?_)
     all_goals first | (exfalso; omega) | exact ⟨.inr rfl, endD (r := .v (.bool false)) hl0 rfl (by simp) (by simp) rfl (by rw [low]; trivial) ⟨rfl, rfl⟩⟩
   by_cases hb : v.entries.length = 0 ∧ v.n = 0 ∧ v.names.length = v.parts.length
   rotate_left
   · have e0 : Ya l v = false := by
      rw [hE, Z1]; intro q
      simp only [Z0, decide_eq_true_eq] at q
      exact hb ⟨q.1, q.2.1, q.2.2.1⟩
     rw [e0]
     have F : _ ∧ _ ∧ _ := ⟨Y4 l, Y5 v, h5⟩
     repeat' first
      | refine gg ?_
      | refine Two.mk (fun hq => ?_) fun hq => ?_
      | (with_reducible refine Y7 ?_; refine gc rfl rfl rfl Zm9 (hal _) ?_)
      | (exfalso; omega)
     all_goals first | (exfalso; omega) | exact ⟨.inr rfl, endD (r := .v (.bool false)) hl0 rfl (by simp) (by simp) rfl (by rw [low]; trivial) ⟨rfl, rfl⟩⟩
   rw [decide_eq_true hb.1, decide_eq_true hb.2.1, decide_eq_true hb.2.2, Z2, Z2, Z2, Z2] at hE
   rw [hE]
   generalize hMB : (v.parts.all fun v => Ya p v && decide (valC v (botV p) ≠ 0)) = MB
   have F : _ ∧ _ ∧ _ := ⟨Y4 l, Y5 v, h5⟩
   repeat' first
    | refine gg ?_
    | refine Two.mk (fun hq => ?_) fun hq => ?_
    | (with_reducible refine Y7 ?_; refine gc rfl rfl rfl Zm9 (hal _) ?_)
    | (exfalso; omega)
   all_goals try (exfalso; omega)
   refine Yh (fun m e h' => ∃ (k : Nat), k ≤ v.parts.length ∧ m = v.parts.length - k ∧ MB = ((v.parts.drop k).all fun v => Ya p v && decide (valC v (botV p) ≠ 0)) ∧ h' = vM (.cells (latX l)) (.cells (vaX v)) [] ∧ e 2 = .ptr 0 0 ∧ e 3 = .ptr 1 0 ∧ e 6 = .v (.int .i64 k)) v.parts.length ⟨0, Nat.zero_le _, rfl, hMB.symm, by rw [Y4 l, Y5 v, h5]; rfl, rfl, rfl, rfl⟩ ?_
   rintro m e h' ⟨k, hk, rfl, hh, rfl, e2, e3, e6⟩
   by_cases hlt : k < v.parts.length
   rotate_left
   · rw [List.drop_eq_nil_of_le (by omega)] at hh
     rw [hh]
     have F : _ ∧ _ ∧ _ ∧ _ := ⟨Y5 v, e2, e3, e6⟩
     repeat' first
      | (with_reducible refine Yc ?_; refine Y8 mixd (by kernel_rfl) ?_)
      | refine gg ?_
      | refine Two.mk (fun hq => ?_) fun hq => ?_
      | (exfalso; omega)
     all_goals first | (exfalso; omega) | exact ⟨.inr rfl, endD (r := .v (.bool true)) hl0 rfl (by simp) (by simp) rfl (by rw [low]; trivial) ⟨rfl, rfl⟩⟩
   have hx : v.parts[k]? = some v.parts[k] := Z4 hlt
   have wk : IntKind.i64.wrap ((k : Int) + 1) = ((k + 1 : Nat) : Int) := IntWalk.i64_in _ (by omega)
   rw [all_go (Z3 hlt)] at hh
   have hpx := hpp _ (Z5 hlt)
   have heq := requal_va G hG v.parts[k] (botV p) (hv.part _ (Z5 hlt)) hvb
   generalize v.parts[k] = x at hx hh hpx heq
   generalize valC x (botV p) = vc at hh heq
   obtain ⟨bp, hbp⟩ : ∃ b, b = botV p := ⟨_, rfl⟩
   simp only [← hbp] at hbo heq
   clear hbp
   generalize Ya p x = ex at hh hpx
   have heq0 : ∀ b : Bool, decide (vc = 0) = b → ∀ h, Does Tryz.prog G 23 h [.agg (vaX x), .agg (vaX bp)] (fun h' r => h' = h ∧ r = .v (.bool b)) := fun b hb h => by rw [← hb]; exact heq h
   clear heq
   simp only [Y5 x] at hpx heq0
   cases ex
   · rw [Z6, Z6] at hh
     rw [hh]
     have F : _ ∧ _ ∧ _ ∧ _ ∧ _ ∧ _ ∧ _ ∧ _ := ⟨Y4 l, Y5 v, Y4 p, Y5 x, e2, e3, e6, wk⟩
     repeat' first
      | (with_reducible refine Yc ?_; refine Y8 mixd (by kernel_rfl) ?_)
      | refine gg ?_
      | refine Two.mk (fun hq => ?_) fun hq => ?_
      | (with_reducible refine X6 ?_; refine aq2 rfl rfl rfl Yi4 (hpx _) ?_)
      | (exfalso; omega)
     all_goals first | (exfalso; omega) | exact ⟨.inr rfl, endD (r := .v (.bool false)) hl0 rfl (by simp) (by simp) rfl (by rw [low]; trivial) ⟨rfl, rfl⟩⟩
   · by_cases hz : vc = 0
     · rw [decide_eq_false (show ¬ vc ≠ 0 by omega), Bool.and_false, Z6] at hh
       rw [hh]
       have F : _ ∧ _ ∧ _ ∧ _ ∧ _ ∧ _ ∧ _ ∧ _ := ⟨Y4 l, Y5 v, Y4 p, Y5 x, e2, e3, e6, wk⟩
       repeat' first
        | (with_reducible refine Yc ?_; refine Y8 mixd (by kernel_rfl) ?_)
        | refine gg ?_
        | refine Two.mk (fun hq => ?_) fun hq => ?_
        | (with_reducible refine X6 ?_; first | refine aq2 rfl rfl rfl Yi4 (hpx _) ?_ | refine aq2 rfl rfl rfl ent_68 (hbo _) ?_ | refine aq2 rfl rfl rfl ent_23 (heq0 true (decide_eq_true hz) _) ?_)
        | (exfalso; omega)
       all_goals first | (exfalso; omega) | exact ⟨.inr rfl, endD (r := .v (.bool false)) hl0 rfl (by simp) (by simp) rfl (by rw [low]; trivial) ⟨rfl, rfl⟩⟩
     · rw [decide_eq_true (show vc ≠ 0 from hz), Bool.and_true, Z2] at hh
       have F : _ ∧ _ ∧ _ ∧ _ ∧ _ ∧ _ ∧ _ ∧ _ := ⟨Y4 l, Y5 v, Y4 p, Y5 x, e2, e3, e6, wk⟩
       repeat' first
        | (with_reducible refine Yc ?_; refine Y8 mixd (by kernel_rfl) ?_)
        | refine gg ?_
        | refine Two.mk (fun hq => ?_) fun hq => ?_
        | (with_reducible refine X6 ?_; first | refine aq2 rfl rfl rfl Yi4 (hpx _) ?_ | refine aq2 rfl rfl rfl ent_68 (hbo _) ?_ | refine aq2 rfl rfl rfl ent_23 (heq0 false (decide_eq_false hz) _) ?_)
        | (exfalso; omega)
       all_goals first | (exfalso; omega) | exact ⟨rfl, v.parts.length - (k + 1), by omega, k + 1, hlt, rfl, hh, by rw [Y4 l, Y5 v], e2, e3, rfl⟩
 have h67 : l.kind = 6 ∨ l.kind = 7 := by omega
 have hE := elem_iff_67 (v := v) h67
 have hk1 : ¬ l.kind = 1 := h1
 have hk2 : ¬ l.kind = 2 := by omega
 have hk3 : ¬ l.kind = 3 := by omega
 have hlpp := hsm.parts
 clear hk10 hal hrg
 by_cases hb : v.entries.length = 0 ∧ v.n = 0 ∧ v.names.length = 0 ∧ v.parts.length = l.parts.length
 rotate_left
 · have e0 : Ya l v = false := by
    rw [hE, Z1]; intro q
    simp only [Z0, decide_eq_true_eq] at q
    exact hb ⟨q.1, q.2.1, q.2.2.1, q.2.2.2.1⟩
   rw [e0]
   have F : _ ∧ _ ∧ _ ∧ _ ∧ _ ∧ _ ∧ _ ∧ _ ∧ _ ∧ _ := ⟨Y4 l, Y5 v, hk1, hk2, hk3, h4, h5, h8, h9, h10⟩
   repeat' first
    | refine gg ?_
    | refine Two.mk (fun hq => ?_) fun hq => ?_
    | (exfalso; omega)
   all_goals first | (exfalso; omega) | exact ⟨.inr rfl, endD (r := .v (.bool false)) hl0 rfl (by simp) (by simp) rfl (by rw [low]; trivial) ⟨rfl, rfl⟩⟩
 rw [decide_eq_true hb.1, decide_eq_true hb.2.1, decide_eq_true hb.2.2.1, decide_eq_true hb.2.2.2, Z2, Z2, Z2, Z2] at hE
 rw [hE]
 obtain ⟨hb1, hb2, hb3, hb4⟩ := hb
 have F : _ ∧ _ ∧ _ ∧ _ ∧ _ ∧ _ ∧ _ ∧ _ ∧ _ ∧ _ := ⟨Y4 l, Y5 v, hk1, hk2, hk3, h4, h5, h8, h9, h10⟩
 repeat' first
  | refine gg ?_
  | refine Two.mk (fun hq => ?_) fun hq => ?_
  | (exfalso; omega)
 all_goals try (exfalso; omega)
 refine Yh (fun m e h' => ∃ (k : Nat), k ≤ v.parts.length ∧ m = v.parts.length - k ∧ Vx l.parts v.parts = Vx (l.parts.drop k) (v.parts.drop k) ∧ h' = vM (.cells (latX l)) (.cells (vaX v)) [] ∧ e 2 = .ptr 0 0 ∧ e 3 = .ptr 1 0 ∧ e 7 = .v (.int .i64 k)) v.parts.length ⟨0, Nat.zero_le _, rfl, rfl, by rw [Y4 l, Y5 v]; rfl, rfl, rfl, rfl⟩ ?_
 rintro m e h' ⟨k, hk, rfl, hh, rfl, e2, e3, e7⟩
 by_cases hlt : k < v.parts.length
 rotate_left
 · rw [List.drop_eq_nil_of_le (show l.parts.length ≤ k by omega), els_nil] at hh
   rw [hh]
   have F : _ ∧ _ ∧ _ ∧ _ := ⟨Y5 v, e2, e3, e7⟩
   repeat' first
    | (with_reducible refine Yc ?_; refine Y8 mixd (by kernel_rfl) ?_)
    | refine gg ?_
    | refine Two.mk (fun hq => ?_) fun hq => ?_
    | (exfalso; omega)
   all_goals first | (exfalso; omega) | exact ⟨.inr rfl, endD (r := .v (.bool true)) hl0 rfl (by simp) (by simp) rfl (by rw [low]; trivial) ⟨rfl, rfl⟩⟩
 have hx : v.parts[k]? = some v.parts[k] := Z4 hlt
 have hltp : k < l.parts.length := by omega
 have hp : l.parts[k]? = some l.parts[k] := Z4 hltp
 have wk : IntKind.i64.wrap ((k : Int) + 1) = ((k + 1 : Nat) : Int) := IntWalk.i64_in _ (by omega)
 rw [els_go (Z3 hltp) (Z3 hlt)] at hh
 have hpx := hpp _ (Z5 hltp) _ (Z5 hlt)
 generalize v.parts[k] = x at hx hh hpx
 generalize l.parts[k] = p at hp hh hpx
 generalize Ya p x = ex at hh hpx
 simp only [Y5 x, Y4 p] at hpx
 cases ex
 · rw [Z6] at hh
   rw [hh]
   have F : _ ∧ _ ∧ _ ∧ _ ∧ _ ∧ _ ∧ _ ∧ _ := ⟨Y4 l, Y5 v, Y4 p, Y5 x, e2, e3, e7, wk⟩
   repeat' first
    | (with_reducible refine Yc ?_; refine Y8 mixd (by kernel_rfl) ?_)
    | refine gg ?_
    | refine Two.mk (fun hq => ?_) fun hq => ?_
    | (with_reducible refine X6 ?_; refine aq2 rfl rfl rfl Yi4 (hpx _) ?_)
    | (exfalso; omega)
   all_goals first | (exfalso; omega) | exact ⟨.inr rfl, endD (r := .v (.bool false)) hl0 rfl (by simp) (by simp) rfl (by rw [low]; trivial) ⟨rfl, rfl⟩⟩
 · rw [Z2] at hh
   have F : _ ∧ _ ∧ _ ∧ _ ∧ _ ∧ _ ∧ _ ∧ _ := ⟨Y4 l, Y5 v, Y4 p, Y5 x, e2, e3, e7, wk⟩
   repeat' first
    | (with_reducible refine Yc ?_; refine Y8 mixd (by kernel_rfl) ?_)
    | refine gg ?_
    | refine Two.mk (fun hq => ?_) fun hq => ?_
    | (with_reducible refine X6 ?_; refine aq2 rfl rfl rfl Yi4 (hpx _) ?_)
    | (exfalso; omega)
   all_goals first | (exfalso; omega) | exact ⟨rfl, v.parts.length - (k + 1), by omega, k + 1, hlt, rfl, hh, by rw [Y4 l, Y5 v], e2, e3, rfl⟩
end
end Go.Proofs.YtbhkcbidcfofiaaGreat
