/-
  What the statements of the chapter share, part 40: QLP.
-/
import Derived.Test.YtbhkcbidcfofiaaGreatY14
import Derived.Test.YtbhkcbidcfofiaaGreatY27
import Derived.Test.YtbhkcbidcfofiaaGreatY35
import Derived.Test.YtbhkcbidcfofiaaGreatY39
set_option linter.unusedVariables false
set_option linter.unusedSimpArgs false
set_option maxRecDepth 100000
set_option maxHeartbeats 8000000
namespace Go.Proofs.YtbhkcbidcfofiaaGreat
open _root_.Bool renaming true_and → Z3
open _root_.List renaming mem_singleton → Z1, cons_append → Z4, nil_append → Z5, mem_cons → Z6
open _root_.Nat renaming le_of_ble_eq_true → Z0, le_refl → Z2
open Go.RowKit
section
attribute [local irreducible] on aOp
attribute [local go_sem] decide_true decide_false Bool.not_true Bool.not_false
attribute [local simp] byD_len
theorem errF_14' {l : Lat} {L : List Val} (h : errF l L ≠ 0) : errF l L = 1 ∨ errF l L = 4 := by
 unfold errF at h ⊢
 by_cases hc : chkE l ≠ 0
 · rw [if_pos hc]; exact .inl rfl
 · rw [if_neg hc] at h ⊢
   by_cases ha : L.all (Ya l) = true
   · rw [if_pos ha] at h; exact absurd rfl h
   · rw [if_neg ha]; exact .inr rfl
theorem errF_of {l : Lat} {L : List Val} (hc : chkE l = 0) (h : ∀ v ∈ L, Ya l v = true) : errF l L = 0 := Zt0.2 ⟨hc, h⟩
theorem joinL_2 {l : Lat} (hwf : WfL l) {a b : Val} (ha : Ya l a = true) : Zg5 l [a, b] = Xa l a b := by
 unfold Zg5
 rw [List.foldl_cons, List.foldl_cons, List.foldl_nil, hwf.jl.of_le hwf.jl.bmem ha (hwf.jl.bot a ha)]
theorem Zv9 {L : List Val} (h : Zu1 L = true) {v : Val} (hv : v ∈ L) : Bd 40 v := (bd_nodes _ v (Z2 _)).up (by
 have := List.all_eq_true.1 h v hv
 simp at this; omega)
theorem Uv {P : Program} {G : Nat → D} {n : Nat} {e : Nat → D} {h : List Ob} {ops : Array Oper} {rest : List Oper} {Q : S → Prop} {t : Nat} {ty : TypeId} {pos : String} {aft : Array Edge} {gd : Option (Nat × Bool)} {u : TypeId} {x y : Operand} {i o ln z el : Nat} {κ : IntKind} {m : Int} (k : Nat) (hw : Yg ops gd e = some true) (ht : decide (t < n) = true) (hx : ev G e x = .ptr i o) (hy : ev G e y = .v (.int κ m)) (hA : arrT P u = some (ln, el)) (hz : szT P el = some z) (h0 : 0 ≤ m) (h1 : m < (ln : Int)) (hk : o + m.toNat * z = k)
 (q : ao P G ops rest Q ⟨n, upd e t (.ptr i k), h⟩) : ao P G ops (⟨some t, .indexAddr u x y, ty, pos, aft, gd⟩ :: rest) Q ⟨n, e, h⟩ := by
 refine ao1 hw ht fun K HK => ?_
 rw [aOp_iaddr, hx, hy]
 exact ⟨ln, el, z, hA, hz, h0, h1, by rw [hk]; exact HK _ _ q⟩
def va3 (a b c : Val) : List D := vaX a ++ (vaX b ++ vaX c)
theorem low_va3 (m : Nat) (a b c : Val) : lowL m (va3 a b c) := by
 have h1 := Yb m a
 have h2 := Yb m b
 have h3 := Yb m c
 rw [va3]
 simp only [Y5] at *
 simp only [Z4, Z5, lowL] at *
 exact ⟨h1.1, h1.2.1, h1.2.2.1, h1.2.2.2.1, h2.1, h2.2.1, h2.2.2.1, h2.2.2.2.1, h3⟩
variable (G : Nat → D) (hG : ∀ g, low 0 (G g))
include hG
attribute [local go_sem] Bool.false_eq_true Int.reduceEq Int.reduceLE Int.reduceLT Z4 List.length_cons List.length_nil Z5 Nat.reduceAdd Nat.reduceBEq Nat.reduceEqDiff Nat.reduceLeDiff Nat.reduceMul
attribute [local go_sem ↓] reduceIte
theorem lawPrime (aw : ∀ h : List Ob, Does Tryz.prog G 15 h [] (fun h' r => h' = h ∧ r = .v (.bool true))) (l : Lat) (hsm : Sm l) (a b c : Val) (sa : VSm a) (sb : VSm b) (sc : VSm c) (h : List Ob) : Does Tryz.prog G 12 h [.agg (latX l), .agg (va3 a b c)] (fun h' r => h' = h ∧ r = .v (.bool true)) := by
 refine Y9 G hG (by simp only [lowL, low]; exact ⟨Yp _ l, low_va3 _ a b c, trivial⟩) (by rw [low]; trivial) ?_ h
 clear h
 have h3 : ∀ x ∈ [a, b, c], VSm x := fun x hx => by
  simp only [Z6, List.not_mem_nil, or_false] at hx
  rcases hx with rfl | rfl | rfl <;> assumption
 have hsl : ∀ (h : List Ob) (i : Nat), h[i]? = some (.buf 30 4 [vaX a, vaX b, vaX c]) → Does Tryz.prog G 16 h [.buf i 3] (fun h' r => h' = h ∧ r = .v (.bool (Zu1 [a, b, c]))) := fun h i hi => Does.borrow hG hi rfl (by rw [lowL]; trivial) (Wz [a, b, c]) (small12_d G hG [a, b, c] h3 (by simp) [])
 have hfa : ∀ (h : List Ob) (i : Nat), h[i]? = some (.buf 30 4 [vaX a, vaX b, vaX c]) → Does Tryz.prog G 17 h [.agg (latX l), .buf i 3] (fun h' r => h' = h ∧ r = .v (.int .i64 (errF l [a, b, c]))) := fun h i hi => Does.borrow2 hG hi rfl (by rw [low]; exact Yp _ l) (Wz [a, b, c]) (fault_d G hG l hsm [a, b, c] h3 (by simp) [])
 simp only [va3, Y4 l, Y5 a, Y5 b, Y5 c, Z4, Z5] at hsl hfa ⊢
 cases hs : Zu1 [a, b, c]
 · rw [hs] at hsl
   refine Y6 Tryz.func12 rfl (Z0 rfl) hG fun hl0 _ => ?_
   simp only [Tryz.ntmps12]
   repeat' first
    | (with_reducible refine Y7 ?_; first | (refine Uv 0 rfl rfl rfl rfl arrT_51 szT_30 (by decide) (by decide) (by decide) ?_) | (refine Uv 4 rfl rfl rfl rfl arrT_51 szT_30 (by decide) (by decide) (by decide) ?_) | (refine Uv 8 rfl rfl rfl rfl arrT_51 szT_30 (by decide) (by decide) (by decide) ?_))
    | refine g0 ?_
    | (with_reducible refine Y7 ?_; first | refine gc rfl rfl rfl ent_15 (aw _) ?_ | refine gc rfl rfl rfl ent_16 (hsl _ _ rfl) ?_)
   all_goals first | (exfalso; omega) | exact ⟨.inr rfl, endD (r := .v (.bool true)) hl0 rfl (by simp) (by simp) rfl (by rw [low]; trivial) ⟨rfl, rfl⟩⟩
 rw [hs] at hsl
 by_cases h0 : errF l [a, b, c] = 0
 rotate_left
 · rcases errF_14' h0 with e | e
   all_goals
    rw [e] at hfa
    refine Y6 Tryz.func12 rfl (Z0 rfl) hG fun hl0 _ => ?_
    simp only [Tryz.ntmps12]
    repeat' first
     | (with_reducible refine Y7 ?_; first | (refine Uv 0 rfl rfl rfl rfl arrT_51 szT_30 (by decide) (by decide) (by decide) ?_) | (refine Uv 4 rfl rfl rfl rfl arrT_51 szT_30 (by decide) (by decide) (by decide) ?_) | (refine Uv 8 rfl rfl rfl rfl arrT_51 szT_30 (by decide) (by decide) (by decide) ?_))
     | refine g0 ?_
     | (with_reducible refine Y7 ?_; first | refine gc rfl rfl rfl ent_15 (aw _) ?_ | refine gc rfl rfl rfl ent_16 (hsl _ _ rfl) ?_ | refine gc rfl rfl rfl ent_17 (hfa _ _ rfl) ?_)
    all_goals first | (exfalso; omega) | exact ⟨.inr rfl, endD (r := .v (.bool true)) hl0 rfl (by simp) (by simp) rfl (by rw [low]; trivial) ⟨rfl, rfl⟩⟩
 rw [h0] at hfa
 obtain ⟨hc, hev⟩ := Zt0.1 h0
 have hwf := Ut hc
 have hrr := rdist_d G hG _ l (Z2 _) hwf
 simp only [Y4 l] at hrr
 cases hr : W3 l
 · rw [hr] at hrr
   refine Y6 Tryz.func12 rfl (Z0 rfl) hG fun hl0 _ => ?_
   simp only [Tryz.ntmps12]
   repeat' first
    | (with_reducible refine Y7 ?_; first | (refine Uv 0 rfl rfl rfl rfl arrT_51 szT_30 (by decide) (by decide) (by decide) ?_) | (refine Uv 4 rfl rfl rfl rfl arrT_51 szT_30 (by decide) (by decide) (by decide) ?_) | (refine Uv 8 rfl rfl rfl rfl arrT_51 szT_30 (by decide) (by decide) (by decide) ?_))
    | refine g0 ?_
    | (with_reducible refine Y7 ?_; first | refine gc rfl rfl rfl ent_15 (aw _) ?_ | refine gc rfl rfl rfl ent_16 (hsl _ _ rfl) ?_ | refine gc rfl rfl rfl ent_17 (hfa _ _ rfl) ?_ | refine gc rfl rfl rfl ent_18 (hrr _) ?_)
   all_goals first | (exfalso; omega) | exact ⟨.inr rfl, endD (r := .v (.bool true)) hl0 rfl (by simp) (by simp) rfl (by rw [low]; trivial) ⟨rfl, rfl⟩⟩
 rw [hr] at hrr
 have ea := hev a (by simp)
 have eb := hev b (by simp)
 have ec := hev c (by simp)
 have hir := iirr_d G hG l hsm a sa (fun _ => .inl hr)
 rw [errF_of hc (L := [a]) (fun v hv => by rw [Z1.1 hv]; exact ea), decide_eq_true rfl, Z3] at hir
 have hjo := Join_d G hG l hsm (fun _ => .inl hr) b c sb sc (Zv9 hs (by simp)) (Zv9 hs (by simp)) (by decide)
 have hej : Ya l (Xa l b c) = true := hwf.jl.mem b c eb ec
 have sj : VSm (Xa l b c) := vsm_bd (n := 104) (by decide) _ l _ (Z2 _) hwf hej (bd_join (n := 64) (m := 40) (Z2 _) _ l b c (Z2 _) hwf ((Zv9 hs (by simp)).up (by decide)) (Zv9 hs (by simp)))
 unfold jaD at hjo
 rw [errF_of hc (L := [b, c]) (fun v hv => by rcases Z6.1 hv with rfl | hv; exact eb; rw [Z1.1 hv]; exact ec), if_pos rfl, joinL_2 hwf eb] at hjo
 have two : ∀ x y, Ya l x = true → Ya l y = true → errF l [x, y] = 0 := fun x y hx hy => errF_of hc fun v hv => by rcases Z6.1 hv with rfl | hv; exact hx; rw [Z1.1 hv]; exact hy
 have q1 := Leq_d G hG l hsm a (Xa l b c) sa sj
 have q2 := Leq_d G hG l hsm a b sa sb
 have q3 := Leq_d G hG l hsm a c sa sc
 rw [two _ _ ea hej, decide_eq_true rfl, Z3] at q1
 rw [two _ _ ea eb, decide_eq_true rfl, Z3] at q2
 rw [two _ _ ea ec, decide_eq_true rfl, Z3] at q3
 have hpr : irrV l a = true → leqV l a (Xa l b c) = true → leqV l a b = true ∨ leqV l a c = true := fun h1 h2 => prime hwf hr ea eb ec h1 h2
 generalize Xa l b c = j at *
 simp only [Y4 l, Y5 a, Y5 b, Y5 c, Y5 j] at hir hjo q1 q2 q3
 generalize leqV l a j = B1 at *
 generalize leqV l a b = B2 at *
 generalize leqV l a c = B3 at *
 generalize irrV l a = B0 at *
 refine Y6 Tryz.func12 rfl (Z0 rfl) hG fun hl0 _ => ?_
 simp only [Tryz.ntmps12]
 cases B0 <;> cases B1 <;> cases B2 <;> cases B3
 all_goals first | (exfalso; simp at hpr; done) | skip
 all_goals
  repeat' first
   | (with_reducible refine Y7 ?_; first | (refine Uv 0 rfl rfl rfl rfl arrT_51 szT_30 (by decide) (by decide) (by decide) ?_) | (refine Uv 4 rfl rfl rfl rfl arrT_51 szT_30 (by decide) (by decide) (by decide) ?_) | (refine Uv 8 rfl rfl rfl rfl arrT_51 szT_30 (by decide) (by decide) (by decide) ?_))
   | refine g0 ?_
   | (with_reducible refine Y7 ?_; first | refine gc rfl rfl rfl ent_15 (aw _) ?_ | refine gc rfl rfl rfl ent_16 (hsl _ _ rfl) ?_ | refine gc rfl rfl rfl ent_17 (hfa _ _ rfl) ?_ | refine gc rfl rfl rfl ent_18 (hrr _) ?_ | refine gc rfl rfl rfl ent_28 (hir _) ?_ | refine gc rfl rfl rfl ent_30 (hjo _) ?_ | refine gc rfl rfl rfl ent_31 (q1 _) ?_ | refine gc rfl rfl rfl ent_31 (q2 _) ?_ | refine gc rfl rfl rfl ent_31 (q3 _) ?_)
  all_goals first | (exfalso; omega) | exact ⟨.inr rfl, endD (r := .v (.bool true)) hl0 rfl (by simp) (by simp) rfl (by rw [low]; trivial) ⟨rfl, rfl⟩⟩
end
end Go.Proofs.YtbhkcbidcfofiaaGreat
