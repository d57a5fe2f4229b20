/-
  What the statements of the chapter share, part 33: QD9, AWY.
-/
import Derived.Test.YtbhkcbidcfofiaaGreatY14
import Derived.Test.YtbhkcbidcfofiaaGreatY29
import Derived.Test.YtbhkcbidcfofiaaGreatY32
import Derived.Sort.Walk0
set_option linter.unusedVariables false
set_option linter.unusedSimpArgs false
set_option maxRecDepth 100000
set_option maxHeartbeats 8000000
namespace Go.Proofs.YtbhkcbidcfofiaaGreat
open Go.RowKit
section
open Go.RowKit Go.Shelf
attribute [local irreducible] on aOp
attribute [local go_sem] decide_true decide_false Bool.not_true Bool.not_false
attribute [local simp] byD_len
variable (G : Nat → D) (hG : ∀ g, low 0 (G g))
include hG
theorem sortV_d (L : List Val) (hL : ∀ x ∈ L, VSm x) (hsz : L.length ≤ 1000000) {h : List Ob} {i : Nat} (hi : h[i]? = some (.buf 30 4 (L.map vaX))) :
 Does Tryz.prog G 43 h [.buf i L.length, .fn 44 []] (fun h' r => h' = h.set i (.buf 30 4 ((srtV L).map vaX)) ∧ r = .tup []) :=
 (sort_does (xX := vaX) (okX := VSm) (k := 4) (ρ := Zu8) hG laysSort Tryz.isAgg30 Tryz.sizeOf30 (by decide) (fun x _ => V9 x) (fun x _ => Zv6 x) (fun x => Yb 0 x) Zv5 (enters_of Tryz.func44 (by kernel_rfl) rfl) (fun x y hx hy => Zt4 G hG _ x y (Nat.le_refl _) hx hy []) hL hsz hi).mono fun h' r ⟨l', h1, h2, h3, h4⟩ => by
  rw [srt_is h1 h2] at h3
  exact ⟨h3, h4⟩
def decE (l : Lat) (v : Val) : Int := if errF l [v] ≠ 0 then errF l [v] else if W3 l = false then 9 else 0
attribute [local go_sem] Bool.false_eq_true Int.reduceEq Int.reduceLE Int.reduceLT Nat.reduceAdd Nat.reduceBEq Nat.reduceEqDiff Nat.reduceLeDiff Nat.reduceMul
attribute [local go_sem ↓] reduceIte
theorem idecompose_w (l : Lat) (hsm : Sm l) (v : Val) (hv : VSm v) (hno : Vv v ≤ 1000) (hD : errF l [v] = 0 → W3 l = true → DecOk G l v) (h : List Ob) : Does Tryz.prog G 19 h [.agg (latX l), .agg (vaX v)] (fun h' r => h' = h ∧ r = if decE l v = 0 then .tup [.sl 4 ((srtV (decV l v)).map vaX), .v (.int .i64 0)] else .tup [.v (.slice none 0 0), .v (.int .i64 (decE l v))]) := by
 refine Y9 G hG (by simp only [lowL, low]; exact ⟨Yp _ l, Yb _ v, trivial⟩) (by split <;> simp only [low, lowL] <;> first | exact ⟨Ji 0 _, trivial, trivial⟩ | trivial | exact ⟨trivial, trivial, trivial⟩) ?_ h
 clear h
 have hck : ∀ (h : List Ob) (i : Nat), h[i]? = some (.buf 30 4 [vaX v]) → Does Tryz.prog G 40 h [.agg (latX l), .buf i 1] (fun h' r => h' = h ∧ r = .v (.int .i64 (errF l [v]))) := fun h i hi => Does.borrow2 hG hi rfl (by rw [low]; exact Yp _ l) (Wz [v]) (Yo5 G hG l hsm [v] (fun x hx => by rw [List.mem_singleton.1 hx]; exact hv) (by simp) [])
 simp only [Y4 l, Y5 v] at hck
 unfold decE
 refine Y6 Tryz.func19 rfl (Nat.le_of_ble_eq_true rfl) hG fun hl0 _ => ?_
 simp only [Tryz.ntmps19]
 generalize he : errF l [v] = E at *
 by_cases h0 : E = 0
 rotate_left
 · simp only [ne_eq, h0, not_false_eq_true, if_true, if_false]
   repeat' first
    | (with_reducible first | refine sA rfl ?_ | refine sI rfl rfl ?_ | refine sT rfl ?_)
    | (with_reducible refine Y7 ?_; first | refine Yn ?_ | (refine ao1 rfl rfl fun K HK => ?_; simp only [go_sem, Y4 l, Y5 v, h0, not_false_eq_true, ne_eq] <;> (refine HK _ _ ?_; clear HK K)) | (refine ao2 rfl rfl rfl Yc7 (hck _ _ rfl) ?_; rintro _ _ ⟨rfl, rfl⟩))
   all_goals first | (exfalso; omega) | exact ⟨.inr rfl, endD (r := .tup [.v (.slice none 0 0), .v (.int .i64 E)]) hl0 rfl (by simp) (by simp) rfl (by simp only [low, lowL]; trivial) ⟨rfl, rfl⟩⟩
 subst h0
 simp only [ne_eq, not_true_eq_false, if_false]
 obtain ⟨hc, hev⟩ := Zt0.1 he
 have hel := hev v (by simp)
 have hwf := Ut hc
 have hdi := dist_d G hG _ l (Nat.le_refl _) hwf
 simp only [Y4 l] at hdi
 cases hd : W3 l
 · rw [hd] at hdi
   simp only [if_true, Int.reduceEq, if_false]
   have F : _ ∧ _ := ⟨Y4 l, Y5 v⟩
   repeat' first
    | refine g0 ?_
    | (with_reducible refine Y7 ?_; first | refine gc rfl rfl rfl Yc7 (hck _ _ rfl) ?_ | refine gc rfl rfl rfl ent_41 (hdi _) ?_)
   all_goals first | (exfalso; omega) | exact ⟨.inr rfl, endD (r := .tup [.v (.slice none 0 0), .v (.int .i64 9)]) hl0 rfl (by simp) (by simp) rfl (by simp only [low, lowL]; trivial) ⟨rfl, rfl⟩⟩
 rw [hd] at hdi
 simp only [Bool.true_eq_false, if_false, if_true]
 have hown := (hD rfl hd).own G hG
 have hvs := dec_vsm _ l v (Nat.le_refl _) hsm hwf hv hel
 have hsl : (decV l v).length ≤ 1000000 := by have := Yp9 l v; omega
 have hso := fun {h : List Ob} {i : Nat} (hi : h[i]? = some (.buf 30 4 ((decV l v).map vaX))) => sortV_d G hG (decV l v) hvs hsl hi
 unfold dB at hown
 have hll : (srtV (decV l v)).length = (decV l v).length := (Zy1 _).length_eq
 have hlo := Ji 0 (srtV (decV l v))
 generalize decV l v = L at *
 generalize srtV L = M at *
 simp only [Y4 l, Y5 v] at hown
 repeat' first
  | (with_reducible first | refine sA rfl ?_ | refine sI rfl rfl ?_ | refine sT rfl ?_)
  | (with_reducible refine Y7 ?_; first | refine Yn ?_ | (refine ao1 rfl rfl fun K HK => ?_; simp only [go_sem, Y4 l, Y5 v, List.cons_append, List.nil_append, List.length_cons, List.length_nil] <;> (refine HK _ _ ?_; clear HK K)) | (refine ao2 rfl rfl rfl Yc7 (hck _ _ rfl) ?_; rintro _ _ ⟨rfl, rfl⟩) | (refine ao2 rfl rfl rfl ent_41 (hdi _) ?_; rintro _ _ ⟨rfl, rfl⟩) | (refine ao2 rfl rfl rfl ent_42 (hown _) ?_; rintro _ _ ⟨rfl, rfl⟩) | (refine ao2 rfl rfl rfl ent_43 (hso rfl) ?_; rintro _ _ ⟨rfl, rfl⟩))
 all_goals first | (exfalso; omega) | exact ⟨.inr rfl, endD (ds := [.buf 5 L.length, .v (.int .i64 0)]) (r := .tup [.sl 4 (M.map vaX), .v (.int .i64 0)]) hl0 rfl (by simp) (by simp) (by simp [outD, cvD, cv1, hll]) (by simp only [low, lowL]; rw [low] at hlo; exact ⟨hlo, trivial, trivial⟩) ⟨rfl, rfl⟩⟩
end
section
theorem awake1 (h : List Ob) : Does Tryz.prog G0 15 h [] (fun h' r => h' = h ∧ r = .v (.bool true)) :=
 awake_x G0 G0_low (fun h => ⟨srtV (decV lE (vE [tX, tY])), by kernel_rfl, by
  have hn : Vv (vE [tX, tY]) ≤ 1000 := by rw [show Vv (vE [tX, tY]) = 3 by kernel_rfl]; decide
  have q := idecompose_w G0 G0_low lE sm_E (vE [tX, tY]) vsm_xy hn (fun _ _ => dec_set G0 G0_low lE (vE [tX, tY]) rfl vsm_xy hn) h
  rw [show decE lE (vE [tX, tY]) = 0 by kernel_rfl, if_pos rfl, lE_eq, vE_eq] at q
  exact q⟩) h
end
end Go.Proofs.YtbhkcbidcfofiaaGreat
