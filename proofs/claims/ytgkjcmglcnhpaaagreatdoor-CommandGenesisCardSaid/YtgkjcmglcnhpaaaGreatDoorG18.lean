/-
  What the statements of the chapter share, part 18: LG3, WK, LG4, K1, K2, K3, K4.
-/
import Derived.Test.YtgkjcmglcnhpaaaGreatDoorG07
import Derived.Test.YtgkjcmglcnhpaaaGreatDoorG12
import Derived.Test.YtgkjcmglcnhpaaaGreatDoorG17
set_option linter.unusedVariables false
set_option linter.unusedSimpArgs false
set_option maxRecDepth 100000
set_option maxHeartbeats 8000000
namespace Go.Proofs.YtgkjcmglcnhpaaaGreatDoor
open Go.RowKit
section
set_option maxRecDepth 100000
set_option maxHeartbeats 8000000
attribute [local irreducible] on aOp
attribute [local go_sem] decide_true decide_false Bool.not_true Bool.not_false
attribute [local simp] byD_len
variable (G : Nat → D) (hG : ∀ g, low 0 (G g))
include hG
theorem rgenesis_d (g : GenL) (hg : GSm g) (h : List Ob) : Does Tryz.prog G 15 h [.agg (gnX g)] (fun h' r => h' = h ∧ r = .v (.int .i64 (genE g))) := by
 refine does_any G hG (by rw [lowL, lowL, low]; exact ⟨low_gn _ g, trivial⟩) (by rw [low]; trivial) ?_ h
 clear h
 have hfo := rrising_d G hG g.founders g.replicas hg.fo
 have had := rrising_d G hG g.admins g.clients hg.ad
 have hfl := hg.fo
 have hal := hg.ad
 have hol := hg.ob
 have bad1 : genBad g → genE g = 1 := fun q => by unfold genE; rw [if_pos q]
 have good1 : ¬ genBad g → genE g = if 64 < g.objects.length then 6 else if risingB (g.objects.map (·.1)) = false then 3 else latsE g.objects := fun q => by unfold genE; rw [if_neg q]
 unfold genBad at bad1 good1
 generalize risP g.replicas (-1) g.founders = rf at *
 generalize risP g.clients (-1) g.admins = ra at *
 generalize genE g = ge at *
 refine does_of_aw Tryz.func15 rfl (Nat.le_of_ble_eq_true rfl) hG fun hl0 _ => ?_
 simp only [Tryz.ntmps15]
 by_cases hb : (g.mode ≠ 1 ∧ g.mode ≠ 2) ∨ g.replicas < 1 ∨ 12 < g.replicas ∨ g.clients < 1 ∨ 6 < g.clients ∨ g.founders.length = 0 ∨ rf = false ∨ ra = false
 · obtain rfl := bad1 hb
   clear bad1 good1
   cases rf
   · skip
     repeat' first
      | (with_reducible refine gd_aw ?_; first
       | refine aw_seq' ?_
       | refine aw_region' ?_
       | refine aw_if1 rfl ?_
       | refine aw_ret ?_)
      | (with_reducible refine gd_ao ?_; first
       | refine ao_nil ?_
       | (refine ao1 rfl rfl fun K HK => ?_; (first | refine aOp_pick rfl ?_ | skip); simp only [go_sem, ↓reduceIte, Nat.reduceEqDiff, Nat.reduceAdd, Nat.reduceLeDiff, Nat.reduceBEq, Nat.reduceMul, Int.reduceEq, Int.reduceLT, Int.reduceLE, gnX_eq g, List.length_map, Bool.false_eq_true]; (first | refine splitB (fun hq => ?_) (fun hq => ?_) | refine splitN (fun hq => ?_) (fun hq => ?_) | skip) <;> (refine HK _ _ ?_; clear HK K))
       | refine ao0 rfl rfl ?_
       | (refine ao2 rfl rfl rfl ent_40 (hfo _) ?_; rintro _ _ ⟨rfl, rfl⟩))
      | (with_reducible refine gd_th ?_; first
       | refine thenS_n ?_
       | refine thenS_r ?_)
     all_goals first
     | (exfalso; omega)
     | exact ⟨.inr rfl, endD (r := .v _) hl0 rfl (by simp) (by simp) rfl (by rw [low]; trivial) ⟨rfl, rfl⟩⟩
   · cases ra
     · skip
       repeat' first
        | (with_reducible refine gd_aw ?_; first
         | refine aw_seq' ?_
         | refine aw_region' ?_
         | refine aw_if1 rfl ?_
         | refine aw_ret ?_)
        | (with_reducible refine gd_ao ?_; first
         | refine ao_nil ?_
         | (refine ao1 rfl rfl fun K HK => ?_; (first | refine aOp_pick rfl ?_ | skip); simp only [go_sem, ↓reduceIte, Nat.reduceEqDiff, Nat.reduceAdd, Nat.reduceLeDiff, Nat.reduceBEq, Nat.reduceMul, Int.reduceEq, Int.reduceLT, Int.reduceLE, gnX_eq g, List.length_map, Bool.false_eq_true]; (first | refine splitB (fun hq => ?_) (fun hq => ?_) | refine splitN (fun hq => ?_) (fun hq => ?_) | skip) <;> (refine HK _ _ ?_; clear HK K))
         | refine ao0 rfl rfl ?_
         | (refine ao2 rfl rfl rfl ent_40 (hfo _) ?_; rintro _ _ ⟨rfl, rfl⟩)
         | (refine ao2 rfl rfl rfl ent_40 (had _) ?_; rintro _ _ ⟨rfl, rfl⟩))
        | (with_reducible refine gd_th ?_; first
         | refine thenS_n ?_
         | refine thenS_r ?_)
       all_goals first
       | (exfalso; omega)
       | exact ⟨.inr rfl, endD (r := .v _) hl0 rfl (by simp) (by simp) rfl (by rw [low]; trivial) ⟨rfl, rfl⟩⟩
     · have hb : (g.mode ≠ 1 ∧ g.mode ≠ 2) ∨ g.replicas < 1 ∨ 12 < g.replicas ∨ g.clients < 1 ∨ 6 < g.clients ∨ g.founders.length = 0 := by
        rcases hb with h | h | h | h | h | h | h | h
        all_goals first | omega | cases h
       repeat' first
        | (with_reducible refine gd_aw ?_; first
         | refine aw_seq' ?_
         | refine aw_region' ?_
         | refine aw_block ?_
         | refine aw_if1 rfl ?_
         | refine aw_if0 rfl ?_
         | refine aw_skip ?_
         | refine aw_ret ?_)
        | (with_reducible refine gd_ao ?_; first
         | refine ao_nil ?_
         | (refine ao1 rfl rfl fun K HK => ?_; (first | refine aOp_pick rfl ?_ | skip); simp only [go_sem, ↓reduceIte, Nat.reduceEqDiff, Nat.reduceAdd, Nat.reduceLeDiff, Nat.reduceBEq, Nat.reduceMul, Int.reduceEq, Int.reduceLT, Int.reduceLE, gnX_eq g, List.length_map, Bool.false_eq_true]; (first | refine splitB (fun hq => ?_) (fun hq => ?_) | refine splitN (fun hq => ?_) (fun hq => ?_) | skip) <;> (refine HK _ _ ?_; clear HK K))
         | refine ao0 rfl rfl ?_
         | (refine ao2 rfl rfl rfl ent_40 (hfo _) ?_; rintro _ _ ⟨rfl, rfl⟩)
         | (refine ao2 rfl rfl rfl ent_40 (had _) ?_; rintro _ _ ⟨rfl, rfl⟩))
        | (with_reducible refine gd_th ?_; first
         | refine thenS_n ?_
         | refine thenS_r ?_)
        | (exfalso; omega)
       all_goals first
       | (exfalso; omega)
       | exact ⟨.inr rfl, endD (r := .v _) hl0 rfl (by simp) (by simp) rfl (by rw [low]; trivial) ⟨rfl, rfl⟩⟩
 have hge := good1 hb
 clear bad1 good1
 obtain rfl : rf = true := by cases rf <;> simp_all
 obtain rfl : ra = true := by cases ra <;> simp_all
 have hb1 : (g.mode = 1 ∨ g.mode = 2) ∧ 1 ≤ g.replicas ∧ g.replicas ≤ 12 ∧ 1 ≤ g.clients ∧ g.clients ≤ 6 ∧ g.founders.length ≠ 0 := by
  refine ⟨?_, ?_, ?_, ?_, ?_, ?_⟩ <;> (by_cases hz : g.mode = 1 <;> by_cases hy : g.mode = 2 <;> simp_all <;> omega)
 clear hb
 by_cases h64 : 64 < g.objects.length
 · rw [if_pos h64] at hge
   repeat' first
    | (with_reducible refine gd_aw ?_; first
     | refine aw_seq' ?_
     | refine aw_region' ?_
     | refine aw_block ?_
     | refine aw_if1 rfl ?_
     | refine aw_if0 rfl ?_
     | refine aw_skip ?_
     | refine aw_ret ?_)
    | (with_reducible refine gd_ao ?_; first
     | refine ao_nil ?_
     | (refine ao1 rfl rfl fun K HK => ?_; (first | refine aOp_pick rfl ?_ | skip); simp only [go_sem, ↓reduceIte, Nat.reduceEqDiff, Nat.reduceAdd, Nat.reduceLeDiff, Nat.reduceBEq, Nat.reduceMul, Int.reduceEq, Int.reduceLT, Int.reduceLE, gnX_eq g, List.length_map, Bool.false_eq_true]; (first | refine splitB (fun hq => ?_) (fun hq => ?_) | refine splitN (fun hq => ?_) (fun hq => ?_) | skip) <;> (refine HK _ _ ?_; clear HK K))
     | refine ao0 rfl rfl ?_
     | (refine ao2 rfl rfl rfl ent_40 (hfo _) ?_; rintro _ _ ⟨rfl, rfl⟩)
     | (refine ao2 rfl rfl rfl ent_40 (had _) ?_; rintro _ _ ⟨rfl, rfl⟩))
    | (with_reducible refine gd_th ?_; first
     | refine thenS_n ?_
     | refine thenS_r ?_)
    | (exfalso; omega)
   all_goals first
   | (exfalso; omega)
   | exact ⟨.inr rfl, endD (r := .v (.int .i64 6)) hl0 rfl (by simp) (by simp) rfl (by rw [low]; trivial) ⟨rfl, by rw [hge]⟩⟩
 rw [if_neg h64] at hge
 have m1 : ¬ (g.mode ≠ 1 ∧ g.mode ≠ 2) := by omega
 have step : ∀ (P : Prop), P → P := fun _ h => h
 repeat' first
  | (with_reducible refine gd_aw ?_; first
   | refine aw_seq' ?_
   | refine aw_region' ?_
   | refine aw_block ?_
   | refine aw_if1 rfl ?_
   | refine aw_if0 rfl ?_
   | refine aw_skip ?_
   | refine aw_ret ?_)
  | (with_reducible refine gd_ao ?_; first
   | refine ao_nil ?_
   | (refine ao1 rfl rfl fun K HK => ?_; (first | refine aOp_pick rfl ?_ | skip); simp only [go_sem, ↓reduceIte, Nat.reduceEqDiff, Nat.reduceAdd, Nat.reduceLeDiff, Nat.reduceBEq, Nat.reduceMul, Int.reduceEq, Int.reduceLT, Int.reduceLE, gnX_eq g, List.length_map, Bool.false_eq_true]; (first | refine splitB (fun hq => ?_) (fun hq => ?_) | refine splitN (fun hq => ?_) (fun hq => ?_) | skip) <;> (refine HK _ _ ?_; clear HK K))
   | refine ao0 rfl rfl ?_
   | (refine ao2 rfl rfl rfl ent_40 (hfo _) ?_; rintro _ _ ⟨rfl, rfl⟩)
   | (refine ao2 rfl rfl rfl ent_40 (had _) ?_; rintro _ _ ⟨rfl, rfl⟩))
  | (with_reducible refine gd_th ?_; first
   | refine thenS_n ?_
   | refine thenS_r ?_)
  | (exfalso; omega)
 all_goals try (exfalso; omega)
 all_goals
  refine aw_for (fun m e h' => ∃ k : Nat, k ≤ g.objects.length ∧ m = g.objects.length - k ∧ risingFrom (g.objects.map (·.1)) 0 = risingFrom (g.objects.map (·.1)) k ∧ h' = [.cells (gnX g)] ∧ e 1 = .ptr 0 0 ∧ e 3 = .v (.int .i64 k)) g.objects.length ⟨0, Nat.zero_le _, rfl, rfl, rfl, rfl, rfl⟩ ?_
  rintro m e h' ⟨k, hk, rfl, ho, rfl, e1, e3⟩
  by_cases hlt : k < g.objects.length
  · have hx : g.objects[k]? = some g.objects[k] := List.getElem?_eq_getElem hlt
    have hxn := names_at hx
    have wk : IntKind.i64.wrap ((k : Int) + 1) = ((k + 1 : Nat) : Int) := IntWalk.i64_in _ (by omega)
    have hn := rName_d G hG g.objects[k].1 (hg.na _ (List.getElem_mem hlt))
    generalize g.objects[k] = x at hx hn hxn
    rcases Nat.eq_zero_or_pos k with h0 | h0
    · subst h0
      have ho2 := ris_0 hxn
      cases hnb : nameB x.1 <;> rw [hnb] at hn ho2
      · have e0 : risingB (g.objects.map (·.1)) = false := by rw [← rising_zero, ho2]; rfl
        rw [if_pos e0] at hge
        repeat' first
         | (with_reducible refine gd_aw ?_; first
          | refine aw_seq' ?_
          | refine aw_region' ?_
          | refine aw_block ?_
          | refine aw_if1 rfl ?_
          | refine aw_if0 rfl ?_
          | refine aw_skip ?_
          | refine aw_exit ?_
          | refine aw_ret ?_
          | refine aw_draw mixd (by kernel_rfl) ?_)
         | (with_reducible refine gd_ao ?_; first
          | refine ao_nil ?_
          | (refine ao1 rfl rfl fun K HK => ?_; (first | refine aOp_pick rfl ?_ | skip); simp only [go_sem, ↓reduceIte, Nat.reduceEqDiff, Nat.reduceAdd, Nat.reduceLeDiff, Nat.reduceBEq, Nat.reduceMul, Int.reduceEq, Int.reduceLT, Int.reduceLE, gnX_eq g, gobX_eq x, e1, e3, List.length_map, Int.toNat_natCast, wk, Bool.false_eq_true]; (first | refine splitB (fun hq => ?_) (fun hq => ?_) | (refine ⟨by omega, by omega, ?_⟩; refine row_at (by assumption) ?_) | skip) <;> (refine HK _ _ ?_; clear HK K)))
         | (with_reducible refine gd_aq ?_; first
          | (refine aq1 rfl rfl fun K HK => ?_; (first | refine aOp_pick rfl ?_ | skip); simp only [go_sem, ↓reduceIte, Nat.reduceEqDiff, Nat.reduceAdd, Nat.reduceLeDiff, Nat.reduceBEq, Nat.reduceMul, Int.reduceEq, Int.reduceLT, Int.reduceLE, gnX_eq g, gobX_eq x, e1, e3, List.length_map, Int.toNat_natCast, wk, Bool.false_eq_true]; (first | refine splitB (fun hq => ?_) (fun hq => ?_) | (refine ⟨by omega, by omega, ?_⟩; refine row_at (by assumption) ?_) | skip) <;> (refine HK _ _ rfl ?_; clear HK K))
          | refine aq0 rfl rfl ?_
          | refine aq_nil ?_
          | refine aq2 rfl rfl rfl ent_41 (hn _) ?_)
         | (with_reducible refine gd_th ?_; first
          | refine thenS_n ?_
          | refine thenS_x ?_
          | refine thenS_r ?_)
         | (with_reducible refine gd_iB ?_; first
          | refine inB_r ?_
          | refine inB_x ?_)
         | (exfalso; omega)
        exact ⟨.inr rfl, endD (r := .v (.int .i64 3)) hl0 rfl (by simp) (by simp) rfl (by rw [low]; trivial) ⟨rfl, by rw [hge]⟩⟩
      · skip
        repeat' first
         | (with_reducible refine gd_aw ?_; first
          | refine aw_seq' ?_
          | refine aw_region' ?_
          | refine aw_block ?_
          | refine aw_if1 rfl ?_
          | refine aw_if0 rfl ?_
          | refine aw_skip ?_
          | refine aw_exit ?_
          | refine aw_draw mixd (by kernel_rfl) ?_)
         | (with_reducible refine gd_ao ?_; first
          | refine ao_nil ?_
          | (refine ao1 rfl rfl fun K HK => ?_; (first | refine aOp_pick rfl ?_ | skip); simp only [go_sem, ↓reduceIte, Nat.reduceEqDiff, Nat.reduceAdd, Nat.reduceLeDiff, Nat.reduceBEq, Nat.reduceMul, Int.reduceEq, Int.reduceLT, Int.reduceLE, gnX_eq g, gobX_eq x, e1, e3, List.length_map, Int.toNat_natCast, wk, Bool.false_eq_true]; (first | refine splitB (fun hq => ?_) (fun hq => ?_) | (refine ⟨by omega, by omega, ?_⟩; refine row_at (by assumption) ?_) | (refine ⟨by omega, by omega, ?_⟩; intro row hrow; obtain ⟨x, hx, rfl⟩ := row_inv hrow; clear hrow) | skip) <;> (refine HK _ _ ?_; clear HK K)))
         | (with_reducible refine gd_aq ?_; first
          | (refine aq1 rfl rfl fun K HK => ?_; (first | refine aOp_pick rfl ?_ | skip); simp only [go_sem, ↓reduceIte, Nat.reduceEqDiff, Nat.reduceAdd, Nat.reduceLeDiff, Nat.reduceBEq, Nat.reduceMul, Int.reduceEq, Int.reduceLT, Int.reduceLE, gnX_eq g, gobX_eq x, e1, e3, List.length_map, Int.toNat_natCast, wk, Bool.false_eq_true]; (first | refine splitB (fun hq => ?_) (fun hq => ?_) | (refine ⟨by omega, by omega, ?_⟩; refine row_at (by assumption) ?_) | (refine ⟨by omega, by omega, ?_⟩; intro row hrow; obtain ⟨x, hx, rfl⟩ := row_inv hrow; clear hrow) | skip) <;> (refine HK _ _ rfl ?_; clear HK K))
          | refine aq0 rfl rfl ?_
          | refine aq_nil ?_
          | refine aq2 rfl rfl rfl ent_41 (hn _) ?_)
         | (with_reducible refine gd_th ?_; first
          | refine thenS_n ?_
          | refine thenS_x ?_)
         | (with_reducible refine gd_iB ?_; first
          | refine inB_n ?_
          | refine inB_x ?_)
         | (exfalso; omega)
        exact ⟨rfl, g.objects.length - 1, by omega, 1, hlt, rfl, ho2, rfl, e1, rfl⟩
    · obtain ⟨j, rfl⟩ : ∃ j, k = j + 1 := ⟨k - 1, by omega⟩
      have hy : g.objects[j]? = some g.objects[j] := List.getElem?_eq_getElem (by omega)
      have hyn := names_at hy
      rw [ris_s hyn hxn] at ho
      generalize g.objects[j] = y at hy hyn ho
      have wm : IntKind.i64.wrap (((j + 1 : Nat) : Int) - 1) = (j : Int) := by rw [show ((j + 1 : Nat) : Int) - 1 = (j : Int) by omega]; exact IntWalk.i64_in _ (by omega)
      have gp : decide ((0 : Int) < ((j + 1 : Nat) : Int)) = true := decide_eq_true (by omega)
      unfold strLt at ho
      cases hnb : nameB x.1 <;> rw [hnb] at hn ho
      · have e0 : risingB (g.objects.map (·.1)) = false := by rw [← rising_zero, ho]; rfl
        rw [if_pos e0] at hge
        repeat' first
         | (with_reducible refine gd_aw ?_; first
          | refine aw_seq' ?_
          | refine aw_region' ?_
          | refine aw_block ?_
          | refine aw_if1 rfl ?_
          | refine aw_if0 rfl ?_
          | refine aw_skip ?_
          | refine aw_exit ?_
          | refine aw_ret ?_
          | refine aw_draw mixd (by kernel_rfl) ?_)
         | (with_reducible refine gd_ao ?_; first
          | refine ao_nil ?_
          | (refine ao1 rfl rfl fun K HK => ?_; (first | refine aOp_pick rfl ?_ | skip); simp only [go_sem, ↓reduceIte, Nat.reduceEqDiff, Nat.reduceAdd, Nat.reduceLeDiff, Nat.reduceBEq, Nat.reduceMul, Int.reduceEq, Int.reduceLT, Int.reduceLE, gnX_eq g, gobX_eq x, e1, e3, List.length_map, Int.toNat_natCast, wk, Bool.false_eq_true]; (first | refine splitB (fun hq => ?_) (fun hq => ?_) | (refine ⟨by omega, by omega, ?_⟩; refine row_at (by assumption) ?_) | skip) <;> (refine HK _ _ ?_; clear HK K)))
         | (with_reducible refine gd_aq ?_; first
          | (refine aq1 rfl rfl fun K HK => ?_; (first | refine aOp_pick rfl ?_ | skip); simp only [go_sem, ↓reduceIte, Nat.reduceEqDiff, Nat.reduceAdd, Nat.reduceLeDiff, Nat.reduceBEq, Nat.reduceMul, Int.reduceEq, Int.reduceLT, Int.reduceLE, gnX_eq g, gobX_eq x, e1, e3, List.length_map, Int.toNat_natCast, wk, Bool.false_eq_true]; (first | refine splitB (fun hq => ?_) (fun hq => ?_) | (refine ⟨by omega, by omega, ?_⟩; refine row_at (by assumption) ?_) | skip) <;> (refine HK _ _ rfl ?_; clear HK K))
          | refine aq0 rfl rfl ?_
          | refine aq_nil ?_
          | refine aq2 rfl rfl rfl ent_41 (hn _) ?_)
         | (with_reducible refine gd_th ?_; first
          | refine thenS_n ?_
          | refine thenS_x ?_
          | refine thenS_r ?_)
         | (with_reducible refine gd_iB ?_; first
          | refine inB_r ?_
          | refine inB_x ?_)
         | (exfalso; omega)
        exact ⟨.inr rfl, endD (r := .v (.int .i64 3)) hl0 rfl (by simp) (by simp) rfl (by rw [low]; trivial) ⟨rfl, by rw [hge]⟩⟩
      · cases hlt2 : Op.bytesLess y.1.toList x.1.toList
        · have e0 : risingB (g.objects.map (·.1)) = false := by rw [← rising_zero, ho, hlt2]; rfl
          rw [if_pos e0] at hge
          repeat' first
           | (with_reducible refine gd_aw ?_; first
            | refine aw_seq' ?_
            | refine aw_region' ?_
            | refine aw_block ?_
            | refine aw_if1 rfl ?_
            | refine aw_if0 rfl ?_
            | refine aw_skip ?_
            | refine aw_exit ?_
            | refine aw_ret ?_
            | refine aw_draw mixd (by kernel_rfl) ?_)
           | (with_reducible refine gd_ao ?_; first
            | refine ao_nil ?_
            | (refine ao1 rfl rfl fun K HK => ?_; (first | refine aOp_pick rfl ?_ | skip); simp only [go_sem, ↓reduceIte, Nat.reduceEqDiff, Nat.reduceAdd, Nat.reduceLeDiff, Nat.reduceBEq, Nat.reduceMul, Int.reduceEq, Int.reduceLT, Int.reduceLE, gnX_eq g, gobX_eq x, gobX_eq y, e1, e3, List.length_map, Int.toNat_natCast, wk, wm, gp, hlt2, Bool.false_eq_true]; (first | refine splitB (fun hq => ?_) (fun hq => ?_) | (refine ⟨by omega, by omega, ?_⟩; refine row_at (by assumption) ?_) | skip) <;> (refine HK _ _ ?_; clear HK K)))
           | (with_reducible refine gd_aq ?_; first
            | (refine aq1 rfl rfl fun K HK => ?_; (first | refine aOp_pick rfl ?_ | skip); simp only [go_sem, ↓reduceIte, Nat.reduceEqDiff, Nat.reduceAdd, Nat.reduceLeDiff, Nat.reduceBEq, Nat.reduceMul, Int.reduceEq, Int.reduceLT, Int.reduceLE, gnX_eq g, gobX_eq x, gobX_eq y, e1, e3, List.length_map, Int.toNat_natCast, wk, wm, gp, hlt2, Bool.false_eq_true]; (first | refine splitB (fun hq => ?_) (fun hq => ?_) | (refine ⟨by omega, by omega, ?_⟩; refine row_at (by assumption) ?_) | skip) <;> (refine HK _ _ rfl ?_; clear HK K))
            | refine aq_nil ?_
            | refine aq2 rfl rfl rfl ent_41 (hn _) ?_)
           | (with_reducible refine gd_th ?_; first
            | refine thenS_n ?_
            | refine thenS_x ?_
            | refine thenS_r ?_)
           | (with_reducible refine gd_iB ?_; first
            | refine inB_r ?_
            | refine inB_x ?_)
           | (exfalso; omega)
          exact ⟨.inr rfl, endD (r := .v (.int .i64 3)) hl0 rfl (by simp) (by simp) rfl (by rw [low]; trivial) ⟨rfl, by rw [hge]⟩⟩
        · skip
          repeat' first
           | (with_reducible refine gd_aw ?_; first
            | refine aw_seq' ?_
            | refine aw_region' ?_
            | refine aw_block ?_
            | refine aw_if1 rfl ?_
            | refine aw_if0 rfl ?_
            | refine aw_skip ?_
            | refine aw_exit ?_
            | refine aw_draw mixd (by kernel_rfl) ?_)
           | (with_reducible refine gd_ao ?_; first
            | refine ao_nil ?_
            | (refine ao1 rfl rfl fun K HK => ?_; (first | refine aOp_pick rfl ?_ | skip); simp only [go_sem, ↓reduceIte, Nat.reduceEqDiff, Nat.reduceAdd, Nat.reduceLeDiff, Nat.reduceBEq, Nat.reduceMul, Int.reduceEq, Int.reduceLT, Int.reduceLE, gnX_eq g, gobX_eq x, gobX_eq y, e1, e3, List.length_map, Int.toNat_natCast, wk, wm, gp, hlt2, Bool.false_eq_true]; (first | refine splitB (fun hq => ?_) (fun hq => ?_) | (refine ⟨by omega, by omega, ?_⟩; refine row_at (by assumption) ?_) | skip) <;> (refine HK _ _ ?_; clear HK K)))
           | (with_reducible refine gd_aq ?_; first
            | (refine aq1 rfl rfl fun K HK => ?_; (first | refine aOp_pick rfl ?_ | skip); simp only [go_sem, ↓reduceIte, Nat.reduceEqDiff, Nat.reduceAdd, Nat.reduceLeDiff, Nat.reduceBEq, Nat.reduceMul, Int.reduceEq, Int.reduceLT, Int.reduceLE, gnX_eq g, gobX_eq x, gobX_eq y, e1, e3, List.length_map, Int.toNat_natCast, wk, wm, gp, hlt2, Bool.false_eq_true]; (first | refine splitB (fun hq => ?_) (fun hq => ?_) | (refine ⟨by omega, by omega, ?_⟩; refine row_at (by assumption) ?_) | skip) <;> (refine HK _ _ rfl ?_; clear HK K))
            | refine aq_nil ?_
            | refine aq2 rfl rfl rfl ent_41 (hn _) ?_)
           | (with_reducible refine gd_th ?_; first
            | refine thenS_n ?_
            | refine thenS_x ?_)
           | (with_reducible refine gd_iB ?_; first
            | refine inB_n ?_
            | refine inB_x ?_)
           | (exfalso; omega)
          exact ⟨rfl, g.objects.length - (j + 2), by omega, j + 2, by omega, rfl, by rw [ho, hlt2]; rfl, rfl, e1, rfl⟩
  have e0 : risingB (g.objects.map (·.1)) = true := by rw [← rising_zero, ho, rising_end _ _ (by rw [List.length_map]; omega)]
  rw [if_neg (by rw [e0]; decide)] at hge
  repeat' first
   | (with_reducible refine gd_aw ?_; first
    | refine aw_seq' ?_
    | refine aw_region' ?_
    | refine aw_block ?_
    | refine aw_if1 rfl ?_
    | refine aw_if0 rfl ?_
    | refine aw_skip ?_
    | refine aw_exit ?_
    | refine aw_draw mixd (by kernel_rfl) ?_)
   | (with_reducible refine gd_ao ?_; first
    | refine ao_nil ?_
    | (refine ao1 rfl rfl fun K HK => ?_; simp only [go_sem, ↓reduceIte, Nat.reduceEqDiff, Nat.reduceAdd, Nat.reduceLeDiff, Nat.reduceBEq, Nat.reduceMul, Int.reduceEq, Int.reduceLT, Int.reduceLE, gnX_eq g, e1, e3, List.length_map, Bool.false_eq_true]; (first | refine splitB (fun hq => ?_) (fun hq => ?_) | (refine ⟨by omega, by omega, ?_⟩; intro row hrow; obtain ⟨x, hx, rfl⟩ := row_inv hrow; clear hrow) | skip) <;> (refine HK _ _ ?_; clear HK K)))
   | (with_reducible refine gd_aq ?_; first
    | (refine aq1 rfl rfl fun K HK => ?_; simp only [go_sem, ↓reduceIte, Nat.reduceEqDiff, Nat.reduceAdd, Nat.reduceLeDiff, Nat.reduceBEq, Nat.reduceMul, Int.reduceEq, Int.reduceLT, Int.reduceLE, gnX_eq g, e1, e3, List.length_map, Bool.false_eq_true]; (first | refine splitB (fun hq => ?_) (fun hq => ?_) | (refine ⟨by omega, by omega, ?_⟩; intro row hrow; obtain ⟨x, hx, rfl⟩ := row_inv hrow; clear hrow) | skip) <;> (refine HK _ _ rfl ?_; clear HK K)))
   | (with_reducible refine gd_th ?_; first
    | refine thenS_n ?_
    | refine thenS_x ?_)
   | (with_reducible refine gd_iB ?_; first
    | refine inB_x ?_)
   | (exfalso; omega)
  refine aw_for (fun m e h' => ∃ k : Nat, k ≤ g.objects.length ∧ m = g.objects.length - k ∧ latsE g.objects = latsE (g.objects.drop k) ∧ h' = [.cells (gnX g)] ∧ e 1 = .ptr 0 0 ∧ e 4 = .v (.int .i64 k)) g.objects.length ⟨0, Nat.zero_le _, rfl, rfl, rfl, e1, rfl⟩ ?_
  clear e1 e3 ho hlt
  rintro m e h' ⟨k, hk, rfl, ho, rfl, e1, e4⟩
  by_cases hlt : k < g.objects.length
  · have hx : g.objects[k]? = some g.objects[k] := List.getElem?_eq_getElem hlt
    have wk : IntKind.i64.wrap ((k : Int) + 1) = ((k + 1 : Nat) : Int) := IntWalk.i64_in _ (by omega)
    have hc := rCheck_d G hG g.objects[k].2 (hg.la _ (List.getElem_mem hlt))
    rw [latsE_go (List.drop_eq_getElem_cons hlt)] at ho
    generalize g.objects[k] = x at hx hc ho
    simp only [latX_eq] at hc
    generalize chkE x.2 = ce at hc ho
    by_cases hz : ce = 0
    · rw [if_neg (fun q => q hz)] at ho
      repeat' first
       | (with_reducible refine gd_aw ?_; first
        | refine aw_seq' ?_
        | refine aw_region' ?_
        | refine aw_block ?_
        | refine aw_if1 rfl ?_
        | refine aw_if0 rfl ?_
        | refine aw_skip ?_
        | refine aw_exit ?_
        | refine aw_ret ?_)
       | (with_reducible refine gd_ao ?_; first
        | refine ao_nil ?_
        | (refine ao1 rfl rfl fun K HK => ?_; simp only [go_sem, ↓reduceIte, Nat.reduceEqDiff, Nat.reduceAdd, Nat.reduceLeDiff, Nat.reduceBEq, Nat.reduceMul, Int.reduceEq, Int.reduceLT, Int.reduceLE, gnX_eq g, gobX_eq x, e1, e4, hz, List.length_map, Int.toNat_natCast, wk, Bool.false_eq_true]; (first | refine splitB (fun hq => ?_) (fun hq => ?_) | (refine ⟨by omega, by omega, ?_⟩; refine row_at (by assumption) ?_) | skip) <;> (refine HK _ _ ?_; clear HK K))
        | (refine ao2 rfl rfl rfl ent_42 (hc _) ?_; rintro _ _ ⟨rfl, rfl⟩))
       | (with_reducible refine gd_th ?_; first
        | refine thenS_n ?_
        | refine thenS_x ?_)
       | (with_reducible refine gd_iB ?_; first
        | refine inB_n ?_
        | refine inB_x ?_)
       | (exfalso; omega)
      exact ⟨rfl, g.objects.length - (k + 1), by omega, k + 1, hlt, rfl, ho, rfl, e1, rfl⟩
    · rw [if_pos hz] at ho
      repeat' first
       | (with_reducible refine gd_aw ?_; first
        | refine aw_seq' ?_
        | refine aw_region' ?_
        | refine aw_block ?_
        | refine aw_if1 rfl ?_
        | refine aw_if0 rfl ?_
        | refine aw_skip ?_
        | refine aw_exit ?_
        | refine aw_ret ?_)
       | (with_reducible refine gd_ao ?_; first
        | refine ao_nil ?_
        | (refine ao1 rfl rfl fun K HK => ?_; simp only [go_sem, ↓reduceIte, Nat.reduceEqDiff, Nat.reduceAdd, Nat.reduceLeDiff, Nat.reduceBEq, Nat.reduceMul, Int.reduceEq, Int.reduceLT, Int.reduceLE, gnX_eq g, gobX_eq x, e1, e4, hz, List.length_map, Int.toNat_natCast, wk, Bool.false_eq_true]; (first | refine splitB (fun hq => ?_) (fun hq => ?_) | (refine ⟨by omega, by omega, ?_⟩; refine row_at (by assumption) ?_) | skip) <;> (refine HK _ _ ?_; clear HK K))
        | (refine ao2 rfl rfl rfl ent_42 (hc _) ?_; rintro _ _ ⟨rfl, rfl⟩))
       | (with_reducible refine gd_th ?_; first
        | refine thenS_n ?_
        | refine thenS_x ?_
        | refine thenS_r ?_)
       | (with_reducible refine gd_iB ?_; first
        | refine inB_r ?_
        | refine inB_x ?_)
       | (exfalso; omega)
      exact ⟨.inr rfl, endD (r := .v (.int .i64 ce)) hl0 rfl (by simp) (by simp) rfl (by rw [low]; trivial) ⟨rfl, by rw [hge, ho]⟩⟩
  · have e2 : latsE g.objects = 0 := by rw [ho, List.drop_eq_nil_of_le (by omega)]; rfl
    rw [e2] at hge
    repeat' first
     | (with_reducible refine gd_aw ?_; first
      | refine aw_seq' ?_
      | refine aw_region' ?_
      | refine aw_block ?_
      | refine aw_if1 rfl ?_
      | refine aw_if0 rfl ?_
      | refine aw_skip ?_
      | refine aw_exit ?_
      | refine aw_ret ?_)
     | (with_reducible refine gd_ao ?_; first
      | refine ao_nil ?_
      | (refine ao1 rfl rfl fun K HK => ?_; simp only [go_sem, ↓reduceIte, Nat.reduceEqDiff, Nat.reduceAdd, Nat.reduceLeDiff, Nat.reduceBEq, Nat.reduceMul, Int.reduceEq, Int.reduceLT, Int.reduceLE, gnX_eq g, e1, e4, List.length_map, Bool.false_eq_true]; (first | refine splitB (fun hq => ?_) (fun hq => ?_) | (refine ⟨by omega, by omega, ?_⟩; intro row hrow; obtain ⟨x, hx, rfl⟩ := row_inv hrow; clear hrow) | skip) <;> (refine HK _ _ ?_; clear HK K)))
     | (with_reducible refine gd_th ?_; first
      | refine thenS_n ?_
      | refine thenS_x ?_)
     | (with_reducible refine gd_iB ?_; first
      | refine inB_x ?_)
     | (exfalso; omega)
    exact ⟨.inr rfl, endD (r := .v (.int .i64 0)) hl0 rfl (by simp) (by simp) rfl (by rw [low]; trivial) ⟨rfl, by rw [hge]⟩⟩
end
section
def Wk (d d' : D) : Prop := ∀ hd hh W u, rd hd hh W d u → rd hd hh W d' u
def WkL (d d' : List D) : Prop := ∀ hd hh W u, rdL hd hh W d u → rdL hd hh W d' u
theorem wk_refl (d : D) : Wk d d := fun _ _ _ _ q => q
theorem wk_nil {k : Nat} : Wk (.v (.slice none 0 0)) (.sl k []) := nil_sl
theorem wkL_nil : WkL [] [] := fun _ _ _ _ q => q
theorem wkL_cons {d d' : D} {l l' : List D} (q : Wk d d') (r : WkL l l') : WkL (d :: l) (d' :: l') := fun hd hh W u k => by
 rw [rdL] at k ⊢
 obtain ⟨a, t, h1, h2, h3⟩ := k
 exact ⟨a, t, h1, q _ _ _ _ h2, r _ _ _ _ h3⟩
theorem wk_agg {l l' : List D} (q : WkL l l') : Wk (.agg l) (.agg l') := fun hd hh W u k => by
 rw [rd] at k ⊢
 obtain ⟨cs, h1, h2⟩ := k
 exact ⟨cs, h1, q _ _ _ _ h2⟩
theorem wk_tup {l l' : List D} (q : WkL l l') : Wk (.tup l) (.tup l') := fun hd hh W u k => by
 rw [rd] at k ⊢
 obtain ⟨cs, h1, h2⟩ := k
 exact ⟨cs, h1, q _ _ _ _ h2⟩
end
section
set_option maxRecDepth 100000
set_option maxHeartbeats 8000000
attribute [local irreducible] on aOp
attribute [local go_sem] decide_true decide_false Bool.not_true Bool.not_false
attribute [local simp] byD_len
def zeroL : Lat := .mk 0 0 0 [] [] []
def objL (name : ByteArray) : List (ByteArray × Lat) → Lat × Bool
 | [] => (zeroL, false)
 | o :: t => if o.1 = name then (o.2, true) else objL name t
theorem objL_go {name : ByteArray} {l : List (ByteArray × Lat)} {k : Nat} {o : ByteArray × Lat} (h : l.drop k = o :: l.drop (k + 1)) : objL name (l.drop k) = if o.1 = name then (o.2, true) else objL name (l.drop (k + 1)) := by rw [h, objL]
def nilL : List D := [.v (.int .i64 0), .v (.int .i64 0), .v (.int .i64 0), .v (.slice none 0 0), .v (.slice none 0 0), .v (.slice none 0 0)]
theorem nilL_eq : nilL = [.v (.int .i64 0), .v (.int .i64 0), .v (.int .i64 0), .v (.slice none 0 0), .v (.slice none 0 0), .v (.slice none 0 0)] := rfl
theorem zero_eq : latX zeroL = [.v (.int .i64 0), .v (.int .i64 0), .v (.int .i64 0), .sl 1 [], .sl 6 [], .sl 2 []] := by rw [latX_eq]; rfl
theorem wk_zero (b : Bool) : Wk (.tup [.agg nilL, .v (.bool b)]) (.tup [.agg (latX zeroL), .v (.bool b)]) := by
 rw [zero_eq]
 exact wk_tup (wkL_cons (wk_agg (wkL_cons (wk_refl _) (wkL_cons (wk_refl _) (wkL_cons (wk_refl _) (wkL_cons wk_nil (wkL_cons wk_nil (wkL_cons wk_nil wkL_nil))))))) (wkL_cons (wk_refl _) wkL_nil))
def oM (A B : Ob) (T : List Ob) : List Ob := A :: B :: T
section
variable {A B y y' : Ob} {T l : List Ob}
theorem oM_0 : (oM A B T)[0]? = some A := rfl
theorem oM_1 : (oM A B T)[1]? = some B := rfl
theorem oM_s1 : (oM A B T).set 1 y = oM A y T := rfl
theorem oM_len : (oM A B T).length = T.length + 2 := rfl
theorem oM_app : oM A B T ++ l = oM A B (T ++ l) := rfl
theorem oM_l : (oM A B (T ++ [y]))[T.length + 2]? = some y := by simp [oM]
theorem oM_sl : (oM A B (T ++ [y])).set (T.length + 2) y' = oM A B (T ++ [y']) := by simp [oM]
end
variable (G : Nat → D) (hG : ∀ g, low 0 (G g))
include hG
theorem object_d (g : GenL) (hg : GSm g) (name : ByteArray) (h : List Ob) : Does Tryz.prog G 12 h [.agg (gnX g), .v (.string name)] (fun h' r => h' = h ∧ r = .tup [.agg (latX (objL name g.objects).1), .v (.bool (objL name g.objects).2)]) := by
 refine does_any G hG (by rw [lowL, lowL, lowL, low, low]; exact ⟨low_gn _ g, trivial, trivial⟩) (by rw [low, lowL, lowL, lowL, low, low]; exact ⟨low_lat _ _, trivial, trivial⟩) ?_ h
 clear h
 apply Does.weak
 have hol := hg.ob
 refine does_of_aw Tryz.func12 rfl (Nat.le_of_ble_eq_true rfl) hG fun hl0 _ => ?_
 simp only [Tryz.ntmps12]
 repeat' first
  | (with_reducible refine gd_aw ?_; first
   | refine aw_seq' ?_
   | refine aw_region' ?_
   | refine aw_block ?_)
  | (with_reducible refine gd_ao ?_; first
   | refine ao_nil ?_
   | (refine ao1 rfl rfl fun K HK => ?_; simp only [go_sem, ↓reduceIte, Nat.reduceEqDiff, Nat.reduceAdd, Nat.reduceLeDiff, Nat.reduceBEq, Nat.reduceMul, Int.reduceEq, Int.reduceLT, Int.reduceLE, gnX_eq g, List.length_map] <;> (refine HK _ _ ?_; clear HK K)))
  | (with_reducible refine gd_th ?_; first
   | refine thenS_n ?_)
 refine aw_for (fun m e h' => ∃ (k : Nat) (T : List Ob), k ≤ g.objects.length ∧ m = g.objects.length - k ∧ objL name g.objects = objL name (g.objects.drop k) ∧ h' = oM (.cells (gnX g)) (.cells nilL) T ∧ e 1 = .v (.string name) ∧ e 2 = .ptr 0 0 ∧ e 4 = .ptr 1 0 ∧ e 9 = .sl 7 (g.objects.map gobX) ∧ e 10 = .v (.int .i64 g.objects.length) ∧ e 11 = .v (.int .i64 k)) g.objects.length ⟨0, [], Nat.zero_le _, rfl, rfl, rfl, rfl, rfl, rfl, rfl, rfl, rfl⟩ ?_
 rintro m e h' ⟨k, T, hk, rfl, ho, rfl, e1, e2, e4, e9, e10, e11⟩
 by_cases hlt : k < g.objects.length
 · have hx : g.objects[k]? = some g.objects[k] := List.getElem?_eq_getElem hlt
   have wk : IntKind.i64.wrap ((k : Int) + 1) = ((k + 1 : Nat) : Int) := IntWalk.i64_in _ (by omega)
   rw [objL_go (List.drop_eq_getElem_cons hlt)] at ho
   generalize g.objects[k] = x at hx ho
   by_cases hn : x.1 = name
   · rw [if_pos hn] at ho
     rw [ho]
     repeat' first
      | (with_reducible refine gd_aw ?_; first
       | refine aw_seq' ?_
       | refine aw_region' ?_
       | refine aw_block ?_
       | refine aw_if1 rfl ?_
       | refine aw_if0 rfl ?_
       | refine aw_skip ?_
       | refine aw_exit ?_
       | refine aw_ret ?_)
      | (with_reducible refine gd_ao ?_; first
       | refine ao_nil ?_
       | (refine ao1 rfl rfl fun K HK => ?_; simp only [go_sem, ↓reduceIte, Nat.reduceEqDiff, Nat.reduceAdd, Nat.reduceLeDiff, Nat.reduceBEq, Nat.reduceMul, Int.reduceEq, Int.reduceLT, Int.reduceLE, gobX_eq x, hn, nilL_eq, e1, e2, e4, e9, e10, e11, List.length_map, Int.toNat_natCast, wk, oM_0, oM_1, oM_s1, oM_len, oM_app, oM_l, oM_sl]; (first | refine splitB (fun hq => ?_) (fun hq => ?_) | (refine ⟨by omega, by omega, ?_⟩; refine row_at (by assumption) ?_) | skip) <;> (refine HK _ _ ?_; clear HK K))
       | (refine ao1' rfl fun K HK => ?_; simp only [go_sem, ↓reduceIte, Nat.reduceEqDiff, Nat.reduceAdd, Nat.reduceLeDiff, Nat.reduceBEq, Nat.reduceMul, Int.reduceEq, Int.reduceLT, Int.reduceLE, gobX_eq x, hn, nilL_eq, e1, e2, e4, e9, e10, e11, List.length_map, Int.toNat_natCast, wk, oM_0, oM_1, oM_s1, oM_len, oM_app, oM_l, oM_sl]; refine HK _ _ ?_; clear HK K))
      | (with_reducible refine gd_th ?_; first
       | refine thenS_n ?_
       | refine thenS_x ?_
       | refine thenS_r ?_)
      | (with_reducible refine gd_iB ?_; first
       | refine inB_r ?_
       | refine inB_x ?_)
      | (exfalso; omega)
     refine ⟨.inr rfl, endD (ds := [.agg [.v (.int .i64 x.2.kind), .v (.int .i64 x.2.lo), .v (.int .i64 x.2.hi), .sl 1 (x.2.names.map strX), .sl 6 (x.2.parts.map latX), .sl 2 (x.2.rules.map ruleX)], .v (.bool true)]) (r := .tup [.agg (latX x.2), .v (.bool true)]) hl0 (by simp only [resD, Tryz.results12, go_sem, ↓reduceIte, Nat.reduceEqDiff, Nat.reduceAdd, Nat.reduceLeDiff, e1, e2, e4, nilL_eq, oM_1, oM_s1]) (by simp) (by simp) ?_ (by rw [low, lowL, lowL, lowL, low, low]; exact ⟨low_lat _ _, trivial, trivial⟩) ⟨_, ⟨rfl, rfl⟩, wk_refl _⟩⟩
     rw [latX_eq x.2]; simp [outD, cvD, cv1]
   · rw [if_neg hn] at ho
     repeat' first
      | (with_reducible refine gd_aw ?_; first
       | refine aw_seq' ?_
       | refine aw_region' ?_
       | refine aw_block ?_
       | refine aw_if1 rfl ?_
       | refine aw_if0 rfl ?_
       | refine aw_skip ?_
       | refine aw_exit ?_)
      | (with_reducible refine gd_ao ?_; first
       | refine ao_nil ?_
       | (refine ao1 rfl rfl fun K HK => ?_; simp only [go_sem, ↓reduceIte, Nat.reduceEqDiff, Nat.reduceAdd, Nat.reduceLeDiff, Nat.reduceBEq, Nat.reduceMul, Int.reduceEq, Int.reduceLT, Int.reduceLE, gobX_eq x, hn, e1, e2, e4, e9, e10, e11, List.length_map, Int.toNat_natCast, wk, oM_0, oM_1, oM_s1, oM_len, oM_app, oM_l, oM_sl]; (first | refine splitB (fun hq => ?_) (fun hq => ?_) | (refine ⟨by omega, by omega, ?_⟩; refine row_at (by assumption) ?_) | skip) <;> (refine HK _ _ ?_; clear HK K))
       | (refine ao1' rfl fun K HK => ?_; simp only [go_sem, ↓reduceIte, Nat.reduceEqDiff, Nat.reduceAdd, Nat.reduceLeDiff, Nat.reduceBEq, Nat.reduceMul, Int.reduceEq, Int.reduceLT, Int.reduceLE, gobX_eq x, hn, e1, e2, e4, e9, e10, e11, List.length_map, Int.toNat_natCast, wk, oM_0, oM_1, oM_s1, oM_len, oM_app, oM_l, oM_sl]; refine HK _ _ ?_; clear HK K))
      | (with_reducible refine gd_th ?_; first
       | refine thenS_n ?_
       | refine thenS_x ?_)
      | (with_reducible refine gd_iB ?_; first
       | refine inB_n ?_
       | refine inB_x ?_)
      | (exfalso; omega)
     exact ⟨rfl, g.objects.length - (k + 1), by omega, k + 1, _, hlt, rfl, ho, rfl, e1, e2, e4, e9, e10, rfl⟩
 · have e0 : objL name g.objects = (zeroL, false) := by rw [ho, List.drop_eq_nil_of_le (by omega)]; rfl
   rw [e0]
   repeat' first
    | (with_reducible refine gd_aw ?_; first
     | refine aw_seq' ?_
     | refine aw_region' ?_
     | refine aw_block ?_
     | refine aw_if1 rfl ?_
     | refine aw_if0 rfl ?_
     | refine aw_skip ?_
     | refine aw_exit ?_
     | refine aw_ret ?_)
    | (with_reducible refine gd_ao ?_; first
     | refine ao_nil ?_
     | (refine ao1 rfl rfl fun K HK => ?_; simp only [go_sem, ↓reduceIte, Nat.reduceEqDiff, Nat.reduceAdd, Nat.reduceLeDiff, Nat.reduceBEq, Nat.reduceMul, Int.reduceEq, Int.reduceLT, Int.reduceLE, nilL_eq, e1, e2, e4, e9, e10, e11, List.length_map, oM_0, oM_1, oM_s1, oM_len, oM_app, oM_l, oM_sl]; (first | refine splitB (fun hq => ?_) (fun hq => ?_) | (refine ⟨by omega, by omega, ?_⟩; intro row hrow; obtain ⟨x, hx, rfl⟩ := row_inv hrow; clear hrow) | skip) <;> (refine HK _ _ ?_; clear HK K))
     | (refine ao1' rfl fun K HK => ?_; simp only [go_sem, ↓reduceIte, Nat.reduceEqDiff, Nat.reduceAdd, Nat.reduceLeDiff, Nat.reduceBEq, Nat.reduceMul, Int.reduceEq, Int.reduceLT, Int.reduceLE, nilL_eq, e1, e2, e4, e9, e10, e11, List.length_map, oM_0, oM_1, oM_s1, oM_len, oM_app, oM_l, oM_sl]; refine HK _ _ ?_; clear HK K))
    | (with_reducible refine gd_th ?_; first
     | refine thenS_n ?_
     | refine thenS_x ?_)
    | (with_reducible refine gd_iB ?_; first
     | refine inB_x ?_)
    | (exfalso; omega)
   exact ⟨.inr rfl, endD (ds := [.agg nilL, .v (.bool false)]) (r := .tup [.agg nilL, .v (.bool false)]) hl0 (by simp only [resD, Tryz.results12, go_sem, ↓reduceIte, Nat.reduceEqDiff, Nat.reduceAdd, Nat.reduceLeDiff, e1, e2, e4, nilL_eq, oM_1, oM_s1]) (by simp) (by simp) (by simp [outD, cvD, cv1, nilL]) (by simp [low, lowL, nilL]) ⟨_, ⟨rfl, rfl⟩, wk_zero _⟩⟩
theorem robject_d (g : GenL) (hg : GSm g) (name : ByteArray) (h : List Ob) : Does Tryz.prog G 13 h [.agg (gnX g), .v (.string name)] (fun h' r => h' = h ∧ r = .tup [.agg (latX (objL name g.objects).1), .v (.bool (objL name g.objects).2)]) := by
 refine does_any G hG (by rw [lowL, lowL, lowL, low, low]; exact ⟨low_gn _ g, trivial, trivial⟩) (by rw [low, lowL, lowL, lowL, low, low]; exact ⟨low_lat _ _, trivial, trivial⟩) ?_ h
 clear h
 apply Does.weak
 have hol := hg.ob
 refine does_of_aw Tryz.func13 rfl (Nat.le_of_ble_eq_true rfl) hG fun hl0 _ => ?_
 simp only [Tryz.ntmps13]
 repeat' first
  | (with_reducible refine gd_aw ?_; first
   | refine aw_seq' ?_
   | refine aw_region' ?_
   | refine aw_block ?_)
  | (with_reducible refine gd_ao ?_; first
   | refine ao_nil ?_
   | (refine ao1 rfl rfl fun K HK => ?_; simp only [go_sem, ↓reduceIte, Nat.reduceEqDiff, Nat.reduceAdd, Nat.reduceLeDiff, Nat.reduceBEq, Nat.reduceMul, Int.reduceEq, Int.reduceLT, Int.reduceLE, gnX_eq g, List.length_map] <;> (refine HK _ _ ?_; clear HK K)))
  | (with_reducible refine gd_th ?_; first
   | refine thenS_n ?_)
 refine aw_for (fun m e h' => ∃ k : Nat, k ≤ g.objects.length ∧ m = g.objects.length - k ∧ objL name g.objects = objL name (g.objects.drop k) ∧ h' = oM (.cells (gnX g)) (.cells nilL) [] ∧ e 1 = .v (.string name) ∧ e 2 = .ptr 0 0 ∧ e 4 = .ptr 1 0 ∧ e 6 = .v (.int .i64 k)) g.objects.length ⟨0, Nat.zero_le _, rfl, rfl, rfl, rfl, rfl, rfl, rfl⟩ ?_
 rintro m e h' ⟨k, hk, rfl, ho, rfl, e1, e2, e4, e6⟩
 by_cases hlt : k < g.objects.length
 · have hx : g.objects[k]? = some g.objects[k] := List.getElem?_eq_getElem hlt
   have wk : IntKind.i64.wrap ((k : Int) + 1) = ((k + 1 : Nat) : Int) := IntWalk.i64_in _ (by omega)
   rw [objL_go (List.drop_eq_getElem_cons hlt)] at ho
   generalize g.objects[k] = x at hx ho
   by_cases hn : x.1 = name
   · rw [if_pos hn] at ho
     rw [ho]
     repeat' first
      | (with_reducible refine gd_aw ?_; first
       | refine aw_seq' ?_
       | refine aw_region' ?_
       | refine aw_block ?_
       | refine aw_if1 rfl ?_
       | refine aw_if0 rfl ?_
       | refine aw_skip ?_
       | refine aw_exit ?_
       | refine aw_ret ?_)
      | (with_reducible refine gd_ao ?_; first
       | refine ao_nil ?_
       | (refine ao1 rfl rfl fun K HK => ?_; simp only [go_sem, ↓reduceIte, Nat.reduceEqDiff, Nat.reduceAdd, Nat.reduceLeDiff, Nat.reduceBEq, Nat.reduceMul, Int.reduceEq, Int.reduceLT, Int.reduceLE, gobX_eq x, hn, nilL_eq, gnX_eq g, e1, e2, e4, e6, List.length_map, Int.toNat_natCast, wk, oM_0, oM_1, oM_s1, oM_len, oM_app, oM_l, oM_sl]; (first | refine splitB (fun hq => ?_) (fun hq => ?_) | (refine ⟨by omega, by omega, ?_⟩; refine row_at (by assumption) ?_) | skip) <;> (refine HK _ _ ?_; clear HK K))
       | (refine ao1' rfl fun K HK => ?_; simp only [go_sem, ↓reduceIte, Nat.reduceEqDiff, Nat.reduceAdd, Nat.reduceLeDiff, Nat.reduceBEq, Nat.reduceMul, Int.reduceEq, Int.reduceLT, Int.reduceLE, gobX_eq x, hn, nilL_eq, gnX_eq g, e1, e2, e4, e6, List.length_map, Int.toNat_natCast, wk, oM_0, oM_1, oM_s1, oM_len, oM_app, oM_l, oM_sl]; refine HK _ _ ?_; clear HK K))
      | (with_reducible refine gd_th ?_; first
       | refine thenS_n ?_
       | refine thenS_x ?_
       | refine thenS_r ?_)
      | (with_reducible refine gd_iB ?_; first
       | refine inB_r ?_
       | refine inB_x ?_)
      | (exfalso; omega)
     refine ⟨.inr rfl, endD (ds := [.agg [.v (.int .i64 x.2.kind), .v (.int .i64 x.2.lo), .v (.int .i64 x.2.hi), .sl 1 (x.2.names.map strX), .sl 6 (x.2.parts.map latX), .sl 2 (x.2.rules.map ruleX)], .v (.bool true)]) (r := .tup [.agg (latX x.2), .v (.bool true)]) hl0 (by simp only [resD, Tryz.results13, go_sem, ↓reduceIte, Nat.reduceEqDiff, Nat.reduceAdd, Nat.reduceLeDiff, e1, e2, e4, nilL_eq, oM_1, oM_s1]) (by simp) (by simp) ?_ (by rw [low, lowL, lowL, lowL, low, low]; exact ⟨low_lat _ _, trivial, trivial⟩) ⟨_, ⟨rfl, rfl⟩, wk_refl _⟩⟩
     rw [latX_eq x.2]; simp [outD, cvD, cv1]
   · rw [if_neg hn] at ho
     repeat' first
      | (with_reducible refine gd_aw ?_; first
       | refine aw_seq' ?_
       | refine aw_region' ?_
       | refine aw_block ?_
       | refine aw_if1 rfl ?_
       | refine aw_if0 rfl ?_
       | refine aw_skip ?_
       | refine aw_exit ?_)
      | (with_reducible refine gd_ao ?_; first
       | refine ao_nil ?_
       | (refine ao1 rfl rfl fun K HK => ?_; simp only [go_sem, ↓reduceIte, Nat.reduceEqDiff, Nat.reduceAdd, Nat.reduceLeDiff, Nat.reduceBEq, Nat.reduceMul, Int.reduceEq, Int.reduceLT, Int.reduceLE, gobX_eq x, hn, gnX_eq g, e1, e2, e4, e6, List.length_map, Int.toNat_natCast, wk, oM_0, oM_1, oM_s1, oM_len, oM_app, oM_l, oM_sl]; (first | refine splitB (fun hq => ?_) (fun hq => ?_) | (refine ⟨by omega, by omega, ?_⟩; refine row_at (by assumption) ?_) | skip) <;> (refine HK _ _ ?_; clear HK K)))
      | (with_reducible refine gd_th ?_; first
       | refine thenS_n ?_
       | refine thenS_x ?_)
      | (with_reducible refine gd_iB ?_; first
       | refine inB_n ?_
       | refine inB_x ?_)
      | (exfalso; omega)
     exact ⟨rfl, g.objects.length - (k + 1), by omega, k + 1, hlt, rfl, ho, (by rw [gnX_eq g]), e1, e2, e4, rfl⟩
 · have e0 : objL name g.objects = (zeroL, false) := by rw [ho, List.drop_eq_nil_of_le (by omega)]; rfl
   rw [e0]
   repeat' first
    | (with_reducible refine gd_aw ?_; first
     | refine aw_seq' ?_
     | refine aw_region' ?_
     | refine aw_block ?_
     | refine aw_if1 rfl ?_
     | refine aw_if0 rfl ?_
     | refine aw_skip ?_
     | refine aw_exit ?_
     | refine aw_ret ?_)
    | (with_reducible refine gd_ao ?_; first
     | refine ao_nil ?_
     | (refine ao1 rfl rfl fun K HK => ?_; simp only [go_sem, ↓reduceIte, Nat.reduceEqDiff, Nat.reduceAdd, Nat.reduceLeDiff, Nat.reduceBEq, Nat.reduceMul, Int.reduceEq, Int.reduceLT, Int.reduceLE, nilL_eq, gnX_eq g, e1, e2, e4, e6, List.length_map, oM_0, oM_1, oM_s1, oM_len, oM_app, oM_l, oM_sl]; (first | refine splitB (fun hq => ?_) (fun hq => ?_) | (refine ⟨by omega, by omega, ?_⟩; intro row hrow; obtain ⟨x, hx, rfl⟩ := row_inv hrow; clear hrow) | skip) <;> (refine HK _ _ ?_; clear HK K))
     | (refine ao1' rfl fun K HK => ?_; simp only [go_sem, ↓reduceIte, Nat.reduceEqDiff, Nat.reduceAdd, Nat.reduceLeDiff, Nat.reduceBEq, Nat.reduceMul, Int.reduceEq, Int.reduceLT, Int.reduceLE, nilL_eq, gnX_eq g, e1, e2, e4, e6, List.length_map, oM_0, oM_1, oM_s1, oM_len, oM_app, oM_l, oM_sl]; refine HK _ _ ?_; clear HK K))
    | (with_reducible refine gd_th ?_; first
     | refine thenS_n ?_
     | refine thenS_x ?_)
    | (with_reducible refine gd_iB ?_; first
     | refine inB_x ?_)
    | (exfalso; omega)
   exact ⟨.inr rfl, endD (ds := [.agg nilL, .v (.bool false)]) (r := .tup [.agg nilL, .v (.bool false)]) hl0 (by simp only [resD, Tryz.results13, go_sem, ↓reduceIte, Nat.reduceEqDiff, Nat.reduceAdd, Nat.reduceLeDiff, e1, e2, e4, nilL_eq, oM_1, oM_s1]) (by simp) (by simp) (by simp [outD, cvD, cv1, nilL]) (by simp [low, lowL, nilL]) ⟨_, ⟨rfl, rfl⟩, wk_zero _⟩⟩
end
section
noncomputable def bc {α : Type} (b : Bool) (x y : α) : α := @Bool.rec (fun _ => α) y x b
theorem bc_eq {α : Type} (b : Bool) (x y : α) : bc b x y = bif b then x else y := by cases b <;> rfl
noncomputable def nthK {α : Type} (l : List α) : Nat → Option α := @List.rec α (fun _ => Nat → Option α) (fun _ => none) (fun a _ ih i => @Bool.rec (fun _ => Option α) (ih (Nat.sub i 1)) (some a) (Nat.beq i 0)) l
theorem nthK_eq {α : Type} : ∀ (l : List α) (i : Nat), nthK l i = l[i]?
 | [], _ => rfl
 | a :: t, 0 => rfl
 | a :: t, i + 1 => by show nthK t i = _; rw [nthK_eq t i]; rfl
noncomputable def lenK {α : Type} (l : List α) : Nat → Nat := @List.rec α (fun _ => Nat → Nat) (fun n => n) (fun _ _ ih n => ih (Nat.add n 1)) l
theorem lenK_eq {α : Type} : ∀ (l : List α) (n : Nat), lenK l n = n + l.length
 | [], _ => rfl
 | a :: t, n => by show lenK t (n + 1) = _; rw [lenK_eq t]; simp; omega
noncomputable def getK (t : Tr) : Nat → D := @Tr.rec (fun _ => Nat → D) (fun _ => .any) (fun d _ _ gl gr i => @Bool.rec (fun _ => D) (@Bool.rec (fun _ => D) (gr (Nat.sub (Nat.div i 2) 1)) (gl (Nat.div i 2)) (Nat.beq (Nat.mod i 2) 1)) d (Nat.beq i 0)) t
theorem getK_eq : ∀ (t : Tr) (i : Nat), getK t i = t.get i
 | .leaf, _ => rfl
 | .node d l r, i => by
  show @Bool.rec (fun _ => D) (@Bool.rec (fun _ => D) (getK r (i / 2 - 1)) (getK l (i / 2)) (Nat.beq (i % 2) 1)) d (Nat.beq i 0) = _
  rw [getK_eq l, getK_eq r, Tr.get]
  cases Nat.beq i 0 <;> cases Nat.beq (i % 2) 1 <;> rfl
theorem getK_fun (t : Tr) : getK t = t.get := funext fun i => getK_eq t i
noncomputable def setK (t : Tr) : Nat → D → Tr := @Tr.rec (fun _ => Nat → D → Tr) (fun i d => Tr.set 12 .leaf i d)
 (fun d0 l r sl sr i d => @Bool.rec (fun _ => Tr) (@Bool.rec (fun _ => Tr) (.node d0 l (sr (Nat.sub (Nat.div i 2) 1) d)) (.node d0 (sl (Nat.div i 2) d) r) (Nat.beq (Nat.mod i 2) 1)) (.node d l r) (Nat.beq i 0)) t
theorem setK_get : ∀ (t : Tr) (i : Nat) (d : D) (j : Nat), i < 4095 → (setK t i d).get j = if j = i then d else t.get j
 | .leaf, i, d, j, h => Tr.get_set 12 .leaf i d j (by omega)
 | .node d0 l r, i, d, j, h => by
  show (@Bool.rec (fun _ => Tr) (@Bool.rec (fun _ => Tr) (.node d0 l (setK r (i / 2 - 1) d)) (.node d0 (setK l (i / 2) d) r) (Nat.beq (i % 2) 1)) (.node d l r) (Nat.beq i 0)).get j = _
  rw [bqE, bqE]
  by_cases h0 : i = 0
  · subst h0
    by_cases hj : j = 0 <;> simp [hj, Tr.get, bqE]
  · by_cases h1 : i % 2 = 1
    · simp only [h0, h1, decide_false, decide_true, Tr.get, bqE]
      rw [setK_get l (i / 2) d (j / 2) (by omega)]
      by_cases hj0 : j = 0
      · subst hj0; simp [Ne.symm h0]
      · by_cases hj1 : j % 2 = 1
        · simp only [hj0, hj1, decide_false, decide_true, cond_false, cond_true]
          by_cases hji : j = i
          · subst hji; simp
          · rw [if_neg (by omega), if_neg hji]
        · simp only [hj0, hj1, decide_false, cond_false]
          rw [if_neg (by omega)]
    · simp only [h0, h1, decide_false, Tr.get, bqE]
      rw [setK_get r (i / 2 - 1) d (j / 2 - 1) (by omega)]
      by_cases hj0 : j = 0
      · subst hj0; simp [Ne.symm h0]
      · by_cases hj1 : j % 2 = 1
        · simp only [hj0, hj1, decide_false, decide_true, cond_false, cond_true]
          rw [if_neg (by omega)]
        · simp only [hj0, hj1, decide_false, cond_false]
          by_cases hji : j = i
          · subst hji; simp
          · rw [if_neg (by omega), if_neg hji]
noncomputable def mkT (k : Nat) : Tr := @Nat.rec (fun _ => Tr) .leaf (fun _ t => .node .any t t) k
theorem mkT_get : ∀ (k j : Nat), (mkT k).get j = .any
 | 0, _ => rfl
 | k + 1, j => by
  show (Tr.node .any (mkT k) (mkT k)).get j = _
  rw [Tr.get, mkT_get k, mkT_get k]
  cases Nat.beq j 0 <;> cases Nat.beq (j % 2) 1 <;> rfl
noncomputable def evK (G : Nat → D) (t : Tr) (x : Operand) : D := @Operand.casesOn (fun _ => D) x (fun i => getK t i) (fun v => .v v) (fun g => G g) (fun f => .fn f [])
theorem evK_eq (G : Nat → D) (t : Tr) (x : Operand) : evK G t x = ev G t.get x := by
 cases x <;> first | rfl | exact getK_eq t _
/-! Whole numbers. -/
noncomputable def ieq (a b : Int) : Bool := @Int.rec (fun _ => Bool) (fun m => @Int.rec (fun _ => Bool) (fun n => Nat.beq m n) (fun _ => false) b) (fun m => @Int.rec (fun _ => Bool) (fun _ => false) (fun n => Nat.beq m n) b) a
theorem ieq_eq (a b : Int) : ieq a b = decide (a = b) := by
 rcases a with m | m <;> rcases b with n | n
 · show Nat.beq m n = _; rw [bqE]; congr 1; exact propext ⟨fun h => by rw [h], fun h => by injection h⟩
 · show false = _; rw [decide_eq_false]; intro h; cases h
 · show false = _; rw [decide_eq_false]; intro h; cases h
 · show Nat.beq m n = _; rw [bqE]; congr 1; exact propext ⟨fun h => by rw [h], fun h => by injection h⟩
noncomputable def ilt (a b : Int) : Bool := @Int.rec (fun _ => Bool) (fun m => @Int.rec (fun _ => Bool) (fun n => Nat.ble (Nat.succ m) n) (fun _ => false) b) (fun m => @Int.rec (fun _ => Bool) (fun _ => true) (fun n => Nat.ble (Nat.succ n) m) b) a
theorem bleE (a b : Nat) : Nat.ble a b = decide (a ≤ b) := by rw [Bool.eq_iff_iff, Nat.ble_eq, decide_eq_true_eq]
theorem ilt_eq (a b : Int) : ilt a b = decide (a < b) := by
 rcases a with m | m <;> rcases b with n | n
 · show Nat.ble (m + 1) n = _; rw [bleE]; congr 1; simp only [Int.ofNat_eq_natCast]; exact propext (by omega)
 · show false = _; rw [decide_eq_false]; simp only [Int.ofNat_eq_natCast]; omega
 · show true = _; rw [decide_eq_true]; simp only [Int.ofNat_eq_natCast]; omega
 · show Nat.ble (n + 1) m = _; rw [bleE]; congr 1; exact propext (by omega)
noncomputable def wrK (k : IntKind) (n : Int) : Int := @IntKind.casesOn (fun _ => Int) k (k.wrap n) (k.wrap n) (k.wrap n)
 (@Int.rec (fun _ => Int) (fun m => @Bool.rec (fun _ => Int) (k.wrap n) (Int.ofNat m) (Nat.ble m 9223372036854775807)) (fun m => @Bool.rec (fun _ => Int) (k.wrap n) (Int.negSucc m) (Nat.ble m 9223372036854775807)) n)
 (@Int.rec (fun _ => Int) (fun m => @Bool.rec (fun _ => Int) (k.wrap n) (Int.ofNat m) (Nat.ble m 255)) (fun _ => k.wrap n) n)
 (k.wrap n)
 (@Int.rec (fun _ => Int) (fun m => @Bool.rec (fun _ => Int) (k.wrap n) (Int.ofNat m) (Nat.ble m 4294967295)) (fun _ => k.wrap n) n)
 (@Int.rec (fun _ => Int) (fun m => @Bool.rec (fun _ => Int) (k.wrap n) (Int.ofNat m) (Nat.ble m 18446744073709551615)) (fun _ => k.wrap n) n)
theorem wrK_eq (k : IntKind) (n : Int) : wrK k n = k.wrap n := by
 cases k <;> try rfl
 · rcases n with m | m
   · show @Bool.rec (fun _ => Int) (IntKind.i64.wrap (.ofNat m)) (Int.ofNat m) (Nat.ble m 9223372036854775807) = _
     rw [bleE]
     by_cases h : m ≤ 9223372036854775807
     · rw [decide_eq_true h, IntKind.wrap_i64]; simp only [Int.ofNat_eq_natCast]; omega
     · rw [decide_eq_false h]
   · show @Bool.rec (fun _ => Int) (IntKind.i64.wrap (.negSucc m)) (Int.negSucc m) (Nat.ble m 9223372036854775807) = _
     rw [bleE]
     by_cases h : m ≤ 9223372036854775807
     · rw [decide_eq_true h, IntKind.wrap_i64]; show Int.negSucc m = _; omega
     · rw [decide_eq_false h]
 · rcases n with m | m
   · show @Bool.rec (fun _ => Int) (IntKind.u8.wrap (.ofNat m)) (Int.ofNat m) (Nat.ble m 255) = _
     rw [bleE]
     by_cases h : m ≤ 255
     · rw [decide_eq_true h]; simp only [IntKind.wrap, IntKind.bits, IntKind.signed, Int.ofNat_eq_natCast]; simp; omega
     · rw [decide_eq_false h]
   · rfl
 · rcases n with m | m
   · show @Bool.rec (fun _ => Int) (IntKind.u32.wrap (.ofNat m)) (Int.ofNat m) (Nat.ble m 4294967295) = _
     rw [bleE]
     by_cases h : m ≤ 4294967295
     · rw [decide_eq_true h]; simp only [IntKind.wrap, IntKind.bits, IntKind.signed, Int.ofNat_eq_natCast]; simp; omega
     · rw [decide_eq_false h]
   · rfl
 · rcases n with m | m
   · show @Bool.rec (fun _ => Int) (IntKind.u64.wrap (.ofNat m)) (Int.ofNat m) (Nat.ble m 18446744073709551615) = _
     rw [bleE]
     by_cases h : m ≤ 18446744073709551615
     · rw [decide_eq_true h]; simp only [IntKind.wrap, IntKind.bits, IntKind.signed, Int.ofNat_eq_natCast]; simp; omega
     · rw [decide_eq_false h]
   · rfl
noncomputable def kix (k : IntKind) : Nat := @IntKind.casesOn (fun _ => Nat) k 0 1 2 3 4 5 6 7
theorem kix_inj {a b : IntKind} (h : kix a = kix b) : a = b := by cases a <;> cases b <;> first | rfl | (simp [kix] at h)
end
section
inductive Kd where
 | pu (d : D)
 | re (i : Nat) (d : D)
 | st (i : Nat) (ob : Ob)
 | gen
noncomputable def ok {α : Type} (o : Option α) (f : α → Kd) : Kd := @Option.rec α (fun _ => Kd) .gen f o
noncomputable def puO (o : Option D) : Kd := ok o .pu
noncomputable def valK (d : D) (f : Value → Kd) : Kd := @D.casesOn (fun _ => Kd) d .gen (fun x => f x) (fun _ _ => .gen) (fun _ => .gen) (fun _ => .gen) (fun _ => .gen) (fun _ _ => .gen) (fun _ _ => .gen) (fun _ _ _ _ => .gen) (fun _ _ _ _ => .gen) (fun _ _ _ _ _ => .gen) (fun _ => .gen) .gen (fun _ _ => .gen)
noncomputable def intK (x : Value) (f : IntKind → Int → Kd) : Kd := @Value.casesOn (fun _ => Kd) x (fun _ => .gen) (fun k n => f k n) (fun _ _ => .gen) (fun _ _ _ => .gen) (fun _ => .gen) (fun _ => .gen) (fun _ _ _ => .gen) (fun _ => .gen) (fun _ => .gen) (fun _ _ _ => .gen) .gen (fun _ _ => .gen) .gen (fun _ => .gen) (fun _ => .gen)
noncomputable def opI (op : BinOp) (k : IntKind) (a b : Int) : Kd := @BinOp.casesOn (fun _ => IntKind → Int → Int → Kd) op
 (fun k a b => .pu (.v (.int k (wrK k (Int.add a b))))) (fun k a b => .pu (.v (.int k (wrK k (Int.sub a b))))) (fun k a b => .pu (.v (.int k (wrK k (Int.mul a b))))) (fun _ _ _ => .gen) (fun _ _ _ => .gen) (fun _ _ _ => .gen) (fun _ _ _ => .gen) (fun _ _ _ => .gen) (fun _ _ _ => .gen) (fun _ _ _ => .gen) (fun _ _ _ => .gen)
 (fun _ a b => .pu (.v (.bool (ieq a b)))) (fun _ a b => .pu (.v (.bool (bc (ieq a b) false true)))) (fun _ a b => .pu (.v (.bool (ilt a b)))) (fun _ a b => .pu (.v (.bool (bc (ilt b a) false true)))) (fun _ a b => .pu (.v (.bool (ilt b a)))) (fun _ a b => .pu (.v (.bool (bc (ilt a b) false true)))) k a b
noncomputable def binK (op : BinOp) (x y : D) : Kd := valK x fun X => intK X fun j a => valK y fun Y => intK Y fun k b => bc (Nat.beq (kix j) (kix k)) (opI op j a b) .gen
noncomputable def bolK (x : Value) (f : Bool → Kd) : Kd := @Value.casesOn (fun _ => Kd) x (fun b => f b) (fun _ _ => .gen) (fun _ _ => .gen) (fun _ _ _ => .gen) (fun _ => .gen) (fun _ => .gen) (fun _ _ _ => .gen) (fun _ => .gen) (fun _ => .gen) (fun _ _ _ => .gen) .gen (fun _ _ => .gen) .gen (fun _ => .gen) (fun _ => .gen)
noncomputable def partK (P : Program) (t : TypeId) (ds : List D) (o : Nat) : Option D := @Option.rec Bool (fun _ => Option D) none
 (fun b => @Bool.rec (fun _ => Option D) (nthK ds o) (@Option.rec Nat (fun _ => Option D) none (fun n => bc (Nat.ble (Nat.add o n) (lenK ds 0)) (some (.agg ((ds.drop o).take n))) none) (szT P t)) b) (aggT P t)
theorem partK_eq (P : Program) (t : TypeId) (ds : List D) (o : Nat) : partK P t ds o = getD P t ds o := by
 unfold partK getD
 cases h1 : aggT P t with
 | none => rfl
 | some b =>
  cases b
  · show nthK ds o = _; rw [nthK_eq]
  · cases h2 : szT P t with
    | none => rfl
    | some n =>
     show bc (Nat.ble (o + n) (lenK ds 0)) _ _ = _
     rw [lenK_eq, Nat.zero_add, bc_eq, bleE]
     by_cases h : o + n ≤ ds.length
     · simp [h]
     · simp [h]
noncomputable def cellsK (o : Option Ob) (f : List D → Kd) : Kd := ok o fun ob => @Ob.casesOn (fun _ => Kd) ob (fun ds => f ds) (fun _ _ _ => .gen) (fun _ _ => .gen) (fun _ _ _ _ => .gen) .gen .gen
noncomputable def bufK (o : Option Ob) (f : TypeId → Nat → List (List D) → Kd) : Kd := ok o fun ob => @Ob.casesOn (fun _ => Kd) ob (fun _ => .gen) (fun e k xs => f e k xs) (fun _ _ => .gen) (fun _ _ _ _ => .gen) .gen .gen
noncomputable def loaK (P : Program) (h : List Ob) (t : TypeId) (x : D) : Kd := @D.casesOn (fun _ => Kd) x .gen (fun _ => .gen) (fun _ _ => .gen) (fun _ => .gen) (fun _ => .gen) (fun ds => puO (partK P t ds 0))
 (fun i o => cellsK (nthK h i) fun ds => ok (partK P t ds o) fun d => .re i d) (fun _ _ => .gen)
 (fun i n r j => bufK (nthK h i) fun _ _ xs => bc (Nat.beq (lenK xs 0) n) (ok (nthK xs r) fun row => ok (partK P t row j) fun d => .re i d) .gen) (fun _ _ _ _ => .gen) (fun _ _ _ _ _ => .gen) (fun _ => .gen) .gen (fun _ _ => .gen)
noncomputable def adK (o : Nat) (x : D) : Kd := @D.casesOn (fun _ => Kd) x .gen (fun _ => .gen) (fun _ _ => .gen) (fun _ => .gen) (fun _ => .gen) (fun ds => .pu (.rp (ds.drop o))) (fun i q => .pu (.ptr i (Nat.add q o))) (fun _ _ => .gen) (fun i n r j => .pu (.bp i n r (Nat.add j o))) (fun _ _ _ _ => .gen) (fun _ _ _ _ _ => .gen) (fun _ => .gen) .gen (fun _ _ => .gen)
def fofT (P : Program) (t f : Nat) : Option Nat := match fldT P t f with
 | some q => if nzT P q.2 then some q.1 else none
 | none => none
noncomputable def faK (P : Program) (t f : Nat) (x : D) : Kd := ok (fofT P t f) fun o => adK o x
def elsT (P : Program) (t : TypeId) : Option Nat := (elT P t).bind (szT P)
noncomputable def ixK (P : Program) (h : List Ob) (t : TypeId) (x i : D) : Kd := valK i fun I => intK I fun _ m => @Int.rec (fun _ => Kd) (fun m => @D.casesOn (fun _ => Kd) x .gen (fun _ => .gen)
  (fun k xs => ok (elsT P t) fun k' => bc (Nat.beq k' k) (ok (nthK xs m) fun row => .pu (.rp row)) .gen) (fun _ => .gen) (fun _ => .gen) (fun _ => .gen) (fun _ _ => .gen)
  (fun b n => bufK (nthK h b) fun _ k xs => ok (elsT P t) fun k' => bc (Nat.beq k' k) (bc (Nat.beq (lenK xs 0) n) (bc (Nat.ble (Nat.succ m) n) (.re b (.bp b n m 0)) .gen) .gen) .gen)
  (fun _ _ _ _ => .gen) (fun _ _ _ _ => .gen) (fun _ _ _ _ _ => .gen) (fun _ => .gen) .gen (fun _ _ => .gen)) (fun _ => .gen) m
noncomputable def leK (P : Program) (t : TypeId) (x : D) : Kd := bc (slT P t) (@D.casesOn (fun _ => Kd) x .gen (fun X => @Value.casesOn (fun _ => Kd) X (fun _ => .gen) (fun _ _ => .gen) (fun _ _ => .gen) (fun _ _ _ => .gen) (fun _ => .gen) (fun _ => .gen) (fun a n c => @Option.rec Addr (fun _ => Kd) (bc (Nat.beq n 0) (bc (Nat.beq c 0) (.pu (.v (.int .i64 (Int.ofNat 0)))) .gen) .gen) (fun _ => .gen) a) (fun _ => .gen) (fun _ => .gen) (fun _ _ _ => .gen) .gen (fun _ _ => .gen) .gen (fun _ => .gen) (fun _ => .gen))
  (fun _ xs => .pu (.v (.int .i64 (Int.ofNat (lenK xs 0))))) (fun _ => .gen) (fun _ => .gen) (fun _ => .gen) (fun _ _ => .gen) (fun _ n => .pu (.v (.int .i64 (Int.ofNat n)))) (fun _ _ _ _ => .gen) (fun _ _ _ _ => .gen) (fun _ _ _ _ _ => .gen) (fun _ => .gen) .gen (fun _ _ => .gen)) .gen
noncomputable def stK (P : Program) (h : List Ob) (t : TypeId) (x y : D) : Kd := ok (szT P t) fun n => ok y.cells fun es => bc (Nat.beq (lenK es 0) n) (bc (es.all D.one) (@D.casesOn (fun _ => Kd) x .gen (fun _ => .gen) (fun _ _ => .gen) (fun _ => .gen) (fun _ => .gen) (fun _ => .gen)
  (fun i o => cellsK (nthK h i) fun ds => bc (Nat.ble (Nat.add o n) (lenK ds 0)) (.st i (.cells (putL ds o es))) .gen) (fun _ _ => .gen)
  (fun i m r j => bufK (nthK h i) fun e k xs => ok (nthK xs r) fun row => bc (Nat.beq (lenK xs 0) m) (bc (Nat.ble (Nat.add j n) (lenK row 0)) (.st i (.buf e k (xs.set r (putL row j es)))) .gen) .gen)
  (fun _ _ _ _ => .gen) (fun _ _ _ _ _ => .gen) (fun _ => .gen) .gen (fun _ _ => .gen)) .gen) .gen
noncomputable def g0 : Program → (Nat → D) → Tr → List Ob → Kd := fun _ _ _ _ => .gen
noncomputable def dispK (op : Op) : Program → (Nat → D) → Tr → List Ob → Kd := @Op.casesOn (fun _ => Program → (Nat → D) → Tr → List Ob → Kd) op
 (fun x _ G t _ => .pu (evK G t x)) -- move
 (fun x _ G t _ => .pu (evK G t x)) -- assign
 (fun c a b _ G t _ => valK (evK G t c) fun X => bolK X fun s => .pu (bc s (evK G t a) (evK G t b))) -- pick
 (fun _ => g0) -- alloc
 (fun _ _ => g0) -- box
 (fun t ps P G e h => puO (pureF P G e.get (.build t ps))) -- build
 (fun _ _ _ => g0) -- buildSlice
 (fun _ _ _ _ => g0) -- insert
 (fun ty x P G t h => loaK P h ty (evK G t x)) -- load
 (fun ty x y P G t h => stK P h ty (evK G t x) (evK G t y)) -- store
 (fun _ => g0) (fun _ => g0)
 (fun x P G t h => puO (pureF P G t.get (.nilCheck x))) -- nilCheck
 (fun op _ x y _ _ G t _ => binK op (evK G t x) (evK G t y)) -- binOp
 (fun u ty x P G t h => puO (pureF P G t.get (.unOp u ty x))) -- unOp
 (fun s d x P G t h => puO (pureF P G t.get (.convert s d x))) -- convert
 (fun _ _ => g0) (fun _ _ => g0)
 (fun f a b P G t h => puO (pureF P G t.get (.makeFunc f a b))) -- makeFunc
 (fun _ _ => g0) (fun _ _ => g0) (fun _ _ _ => g0)
 (fun ty x l hi m P G t h => puO (pureF P G t.get (.slice ty x l hi m))) -- slice
 (fun ty x f P G t _ => faK P ty f (evK G t x)) -- fieldAddr
 (fun ty x f P G t h => puO (pureF P G t.get (.field ty x f))) -- field
 (fun ty x i P G t h => ixK P h ty (evK G t x) (evK G t i)) -- indexAddr
 (fun ty x i P G t h => puO (pureF P G t.get (.index ty x i))) -- index
 (fun _ _ _ _ => g0) (fun _ _ _ _ => g0) (fun _ _ _ => g0) (fun _ _ _ _ => g0) (fun _ _ => g0) (fun _ _ => g0) (fun _ => g0) (fun _ _ _ _ => g0)
 (fun x i _ G t _ => puO (extrD i (evK G t x))) -- extract
 (fun c P G t h => @Call.casesOn (fun _ => Kd) c fun cal args tys => @Callee.casesOn (fun _ => Kd) cal (fun _ => .gen) (fun _ _ => .gen) (fun b => @Builtin.casesOn (fun _ => Kd) b .gen .gen .gen .gen .gen .gen .gen .gen (ok args.toList.head? fun x => ok tys.toList.head? fun ty => bc (Nat.beq (lenK args.toList 0) 1) (bc (Nat.beq (lenK tys.toList 0) 1) (leK P ty (evK G t x)) .gen) .gen) .gen .gen .gen .gen .gen .gen .gen .gen .gen .gen .gen .gen .gen .gen .gen .gen .gen)) -- call
 (fun _ => g0) (fun _ => g0) (fun _ => g0) (fun _ _ => g0) (fun _ _ _ => g0) (fun _ _ => g0)
/-! That it is right. -/
section
variable {P : Program} {G : Nat → D} {o : Oper} {t : Tr} {h : List Ob}
def KOk (P : Program) (G : Nat → D) (o : Oper) (t : Tr) (h : List Ob) : Kd → Prop
 | .pu d => ∀ h2, OpTri P G o ((opds o.op).map (ev G t.get)) h2 (fun h1 d1 => h1 = h2 ∧ d1 = d)
 | .re i d => ∃ ob, h[i]? = some ob ∧ ∀ h2 : List Ob, h2[i]? = some ob → OpTri P G o ((opds o.op).map (ev G t.get)) h2 (fun h1 d1 => h1 = h2 ∧ d1 = d)
 | .st i ob' => ∃ ob, h[i]? = some ob ∧ ∀ h2 : List Ob, h2[i]? = some ob → OpTri P G o ((opds o.op).map (ev G t.get)) h2 (fun h1 d1 => h1 = h2.set i ob' ∧ d1 = .v undef)
 | .gen => True
theorem kok {α : Type} {x : Option α} {f : α → Kd} (q : ∀ a, x = some a → KOk P G o t h (f a)) : KOk P G o t h (ok x f) := by
 cases x with
 | none => trivial
 | some a => exact q a rfl
theorem kbc {b : Bool} {x y : Kd} (q : b = true → KOk P G o t h x) (r : b = false → KOk P G o t h y) : KOk P G o t h (bc b x y) := by
 cases b
 · exact r rfl
 · exact q rfl
theorem kval {d : D} {f : Value → Kd} (q : ∀ x, d = .v x → KOk P G o t h (f x)) : KOk P G o t h (valK d f) := by cases d <;> first | exact q _ rfl | trivial
theorem kint {x : Value} {f : IntKind → Int → Kd} (q : ∀ k n, x = .int k n → KOk P G o t h (f k n)) : KOk P G o t h (intK x f) := by cases x <;> first | exact q _ _ rfl | trivial
theorem kbol {x : Value} {f : Bool → Kd} (q : ∀ b, x = .bool b → KOk P G o t h (f b)) : KOk P G o t h (bolK x f) := by cases x <;> first | exact q _ rfl | trivial
theorem kcel {x : Option Ob} {f : List D → Kd} (q : ∀ ds, x = some (.cells ds) → KOk P G o t h (f ds)) : KOk P G o t h (cellsK x f) := kok fun ob hb => by cases ob <;> first | exact q _ hb | trivial
theorem kbuf {x : Option Ob} {f : TypeId → Nat → List (List D) → Kd} (q : ∀ e k xs, x = some (.buf e k xs) → KOk P G o t h (f e k xs)) : KOk P G o t h (bufK x f) := kok fun ob hb => by cases ob <;> first | exact q _ _ _ hb | trivial
theorem kpu {d : D} (q : pureF P G t.get o.op = some d) : KOk P G o t h (.pu d) := fun h2 => pureF_sound q h2
theorem kpuO : KOk P G o t h (puO (pureF P G t.get o.op)) := kok fun _ q => kpu q
end
theorem binK_ok {P : Program} {G : Nat → D} {t : Tr} {h : List Ob} {dst : Option Nat} {ty : TypeId} {pos : String} {aft : Array Edge} {gd : Option (Nat × Bool)} {op : BinOp} {t1 t2 : TypeId} {x y : Operand} : KOk P G ⟨dst, .binOp op t1 x y t2, ty, pos, aft, gd⟩ t h (binK op (evK G t x) (evK G t y)) := by
 rw [evK_eq, evK_eq]
 refine kval fun X hX => kint fun j a hj => kval fun Y hY => kint fun k b hk => kbc (fun hjk => ?_) fun _ => trivial
 have hjk := kix_inj (bqT hjk)
 subst hjk; subst hj; subst hk
 have key : ∀ v, binI op j a b = some v → KOk P G ⟨dst, .binOp op t1 x y t2, ty, pos, aft, gd⟩ t h (.pu (.v v)) := fun v hv => kpu (by
  show (match binN op (ev G t.get x) (ev G t.get y) with
   | some d => some d
   | none => match aF P G t.get [] (.binOp op t1 x y t2) with
    | some ([], d) => some d
    | _ => none) = _
  rw [hX, hY]
  simp only [binN, decide_true, cond_true, hv, Option.map_some])
 have nb : ∀ b : Bool, bc b false true = !b := fun b => by cases b <;> rfl
 cases op <;> try trivial
 · refine key (.int j (wrK j (Int.add a b))) ?_; rw [wrK_eq]; rfl
 · refine key (.int j (wrK j (Int.sub a b))) ?_; rw [wrK_eq]; rfl
 · refine key (.int j (wrK j (Int.mul a b))) ?_; rw [wrK_eq]; rfl
 · refine key (.bool (ieq a b)) ?_; rw [ieq_eq]; rfl
 · refine key (.bool (bc (ieq a b) false true)) ?_; rw [ieq_eq, nb]; rfl
 · refine key (.bool (ilt a b)) ?_; rw [ilt_eq]; rfl
 · refine key (.bool (bc (ilt b a) false true)) ?_
   rw [ilt_eq, nb]
   show some (Value.bool (decide (a ≤ b))) = _
   congr 2
   rw [Bool.eq_iff_iff]; simp
 · refine key (.bool (ilt b a)) ?_; rw [ilt_eq]; rfl
 · refine key (.bool (bc (ilt a b) false true)) ?_
   rw [ilt_eq, nb]
   show some (Value.bool (decide (b ≤ a))) = _
   congr 2
   rw [Bool.eq_iff_iff]; simp
end
section
section
variable {P : Program} {G : Nat → D} {t : Tr} {h : List Ob} {dst : Option Nat} {ty : TypeId} {pos : String} {aft : Array Edge} {gd : Option (Nat × Bool)}
theorem kaF {op : Op} {d : D} (q : ∀ h2, aF P G t.get h2 op = some (h2, d)) : KOk P G ⟨dst, op, ty, pos, aft, gd⟩ t h (.pu d) := fun h2 => tri_of_aOp (o := ⟨dst, op, ty, pos, aft, gd⟩) (aF_sound (q h2) ⟨rfl, rfl⟩)
theorem kaR {op : Op} {d : D} {i : Nat} {ob : Ob} (hi : nthK h i = some ob) (q : ∀ h2 : List Ob, h2[i]? = some ob → aF P G t.get h2 op = some (h2, d)) : KOk P G ⟨dst, op, ty, pos, aft, gd⟩ t h (.re i d) := ⟨ob, by rw [← nthK_eq]; exact hi, fun h2 k => tri_of_aOp (o := ⟨dst, op, ty, pos, aft, gd⟩) (aF_sound (q h2 k) ⟨rfl, rfl⟩)⟩
theorem kaS {op : Op} {i : Nat} {ob ob' : Ob} (hi : nthK h i = some ob) (q : ∀ h2 : List Ob, h2[i]? = some ob → aF P G t.get h2 op = some (h2.set i ob', .v undef)) : KOk P G ⟨dst, op, ty, pos, aft, gd⟩ t h (.st i ob') := ⟨ob, by rw [← nthK_eq]; exact hi, fun h2 k => tri_of_aOp (o := ⟨dst, op, ty, pos, aft, gd⟩) (aF_sound (q h2 k) ⟨rfl, rfl⟩)⟩
theorem loaK_ok {u : TypeId} {x : Operand} : KOk P G ⟨dst, .load u x, ty, pos, aft, gd⟩ t h (loaK P h u (evK G t x)) := by
 rw [evK_eq]
 generalize hx : ev G t.get x = X
 cases X <;> try trivial
 case rp ds =>
  refine kok fun d hd => kaF fun h2 => ?_
  rw [partK_eq] at hd
  simp only [aF, keepF, hx, loadD, hd, Option.map_some]
 case ptr i o =>
  refine kcel fun ds hds => kok fun d hd => kaR hds fun h2 hi => ?_
  rw [partK_eq] at hd
  simp only [aF, keepF, hx, loadD, hi, hd, Option.map_some]
 case bp i n r j =>
  refine kbuf fun e k xs hxs => kbc (fun hn => kok fun row hrow => kok fun d hd => kaR hxs fun h2 hi => ?_) fun _ => trivial
  rw [partK_eq] at hd
  rw [nthK_eq] at hrow
  have hn := bqT hn
  rw [lenK_eq, Nat.zero_add] at hn
  simp only [aF, keepF, hx, loadD, hi, if_pos hn, hrow, Option.bind_some, hd, Option.map_some]
theorem faK_ok {u f : Nat} {x : Operand} : KOk P G ⟨dst, .fieldAddr u x f, ty, pos, aft, gd⟩ t h (faK P u f (evK G t x)) := by
 rw [evK_eq]
 refine kok fun o ho => ?_
 have key : ∀ d, addD o (ev G t.get x) = some d → ∀ h2, aF P G t.get h2 (.fieldAddr u x f) = some (h2, d) := fun d hd h2 => by
  unfold fofT at ho
  split at ho
  · rename_i q hq
    split at ho
    · rename_i hz
      cases ho
      simp only [aF, keepF, faddrD, hq, Option.bind_some, if_pos hz, hd, Option.map_some]
    · cases ho
  · cases ho
 generalize ev G t.get x = X at key ⊢
 cases X <;> first | exact kaF (key _ rfl) | trivial
theorem ixK_ok {u : Nat} {x i : Operand} : KOk P G ⟨dst, .indexAddr u x i, ty, pos, aft, gd⟩ t h (ixK P h u (evK G t x) (evK G t i)) := by
 rw [evK_eq, evK_eq]
 refine kval fun I hI => kint fun k0 m hm => ?_
 subst hm
 rcases m with m | m
 rotate_left
 · trivial
 generalize hx : ev G t.get x = X
 cases X <;> try trivial
 case sl k xs =>
  refine kok fun k' hk' => kbc (fun hk => kok fun row hrow => kaF fun h2 => ?_) fun _ => trivial
  have hk := bqT hk
  rw [nthK_eq] at hrow
  have hlt := (List.getElem?_eq_some_iff.1 hrow).1
  subst hk
  have h1 : (elT P u).bind (szT P) = some k' := hk'
  have h2' : (0 : Int) ≤ (m : Int) ∧ (m : Int) < (xs.length : Int) := by omega
  simp only [aF, keepF, hx, hI, idxF, Int.ofNat_eq_natCast, h1, h2', and_self, if_true, Int.toNat_natCast, hrow, Option.map_some]
 case buf b n =>
  refine kbuf fun e k xs hxs => kok fun k' hk' => kbc (fun hk => kbc (fun hn => kbc (fun hlt => kaR hxs fun h2 hi => ?_) fun _ => trivial) fun _ => trivial) fun _ => trivial
  have hk := bqT hk
  have hn := bqT hn
  rw [lenK_eq, Nat.zero_add] at hn
  have hlt := Nat.le_of_ble_eq_true hlt
  subst hk
  have h1 : (elT P u).bind (szT P) = some k' := hk'
  have h2' : (0 : Int) ≤ (m : Int) ∧ (m : Int) < (n : Int) := by omega
  simp only [aF, keepF, hx, hI, idxF, hi, Int.ofNat_eq_natCast, h1, hn, h2', and_self, if_true, Int.toNat_natCast, Option.map_some]
theorem stK_ok {u : Nat} {x y : Operand} : KOk P G ⟨dst, .store u x y, ty, pos, aft, gd⟩ t h (stK P h u (evK G t x) (evK G t y)) := by
 rw [evK_eq, evK_eq]
 refine kok fun n hn => kok fun es hes => kbc (fun hl => kbc (fun hone => ?_) fun _ => trivial) fun _ => trivial
 have hl := bqT hl
 rw [lenK_eq, Nat.zero_add] at hl
 subst hl
 have hc : (es.all D.one && szT P u == some es.length) = true := by simp [hone, hn]
 generalize hx : ev G t.get x = X
 cases X <;> try trivial
 case ptr i o =>
  refine kcel fun ds hds => kbc (fun hle => kaS hds fun h2 hi => ?_) fun _ => trivial
  have hle := Nat.le_of_ble_eq_true hle
  rw [lenK_eq, Nat.zero_add] at hle
  simp only [aF, hx, storeD, hes, hc, if_true, hi, if_pos (show o + es.length ≤ ds.length from hle), Option.map_some]
 case bp i m r j =>
  refine kbuf fun e k xs hxs => kok fun row hrow => kbc (fun hm => kbc (fun hle => kaS hxs fun h2 hi => ?_) fun _ => trivial) fun _ => trivial
  have hm := bqT hm
  rw [lenK_eq, Nat.zero_add] at hm
  rw [nthK_eq] at hrow
  have hle := Nat.le_of_ble_eq_true hle
  rw [lenK_eq, Nat.zero_add] at hle
  simp only [aF, hx, storeD, hes, hc, if_true, hi, if_pos hm, hrow, if_pos (show j + es.length ≤ row.length from hle), Option.map_some]
theorem leK_ok {u : Nat} {x : Operand} : KOk P G ⟨dst, .call ⟨.builtin .len, #[x], #[u]⟩, ty, pos, aft, gd⟩ t h (leK P u (evK G t x)) := by
 rw [evK_eq]
 refine kbc (fun hs => ?_) fun _ => trivial
 have key : ∀ d, lenD P u (ev G t.get x) = some d → KOk P G ⟨dst, .call ⟨.builtin .len, #[x], #[u]⟩, ty, pos, aft, gd⟩ t h (.pu d) := fun d hd => kaF fun h2 => by
  show keepF h2 (lenD P u (ev G t.get x)) = _
  rw [hd]; rfl
 generalize hx : ev G t.get x = X
 rw [hx] at key
 cases X <;> try trivial
 case v X =>
  cases X <;> try trivial
  case slice a n c =>
   cases a
   · refine kbc (fun hn => kbc (fun hc => ?_) fun _ => trivial) fun _ => trivial
     have hn := bqT hn
     have hc := bqT hc
     subst hn; subst hc
     exact key _ (lenD_nil hs)
   · trivial
 case sl k xs =>
  refine key _ ?_
  rw [lenK_eq, Nat.zero_add]; exact lenD_sl hs
 case buf i n => exact key _ (lenD_buf hs)
theorem dispK_ok {op : Op} : KOk P G ⟨dst, op, ty, pos, aft, gd⟩ t h (dispK op P G t h) := by
 cases op <;> try trivial
 case move x => exact kaF fun h2 => by show some (h2, ev G t.get x) = _; rw [evK_eq]
 case assign x => exact kaF fun h2 => by show some (h2, ev G t.get x) = _; rw [evK_eq]
 case pick c x y =>
  show KOk _ _ _ _ _ (valK (evK G t c) fun X => bolK X fun s => .pu (bc s (evK G t x) (evK G t y)))
  rw [evK_eq, evK_eq, evK_eq]
  refine kval fun X hX => kbol fun s hs => kaF fun h2 => ?_
  subst hs
  simp only [aF, hX]
  cases s <;> rfl
 case build t ps => exact kpuO (o := ⟨dst, _, ty, pos, aft, gd⟩)
 case load u x => exact loaK_ok
 case store u x y => exact stK_ok
 case nilCheck x => exact kpuO (o := ⟨dst, _, ty, pos, aft, gd⟩)
 case binOp op t1 x y t2 => exact binK_ok
 case unOp op u x => exact kpuO (o := ⟨dst, _, ty, pos, aft, gd⟩)
 case convert u v x => exact kpuO (o := ⟨dst, _, ty, pos, aft, gd⟩)
 case makeFunc f a b => exact kpuO (o := ⟨dst, _, ty, pos, aft, gd⟩)
 case slice u x l hi m => exact kpuO (o := ⟨dst, _, ty, pos, aft, gd⟩)
 case fieldAddr u x f => exact faK_ok
 case field u x f => exact kpuO (o := ⟨dst, _, ty, pos, aft, gd⟩)
 case indexAddr u x i => exact ixK_ok
 case index u x i => exact kpuO (o := ⟨dst, _, ty, pos, aft, gd⟩)
 case extract x i =>
  show KOk _ _ _ _ _ (puO (extrD i (evK G t x)))
  rw [evK_eq]
  exact kok fun d hd => kaF fun h2 => by simp only [aF, keepF, hd, Option.map_some]
 case call c =>
  obtain ⟨cal, args, tys⟩ := c
  cases cal <;> try trivial
  case builtin b =>
  cases b <;> try trivial
  case len =>
   refine kok fun x hx => kok fun u hu => kbc (fun h1 => kbc (fun h2 => ?_) fun _ => trivial) fun _ => trivial
   have h1 := bqT h1
   have h2 := bqT h2
   rw [lenK_eq, Nat.zero_add] at h1 h2
   have e1 : args = #[x] := by
    obtain ⟨l⟩ := args
    match l, hx, h1 with
    | [a], hx, _ => cases hx; rfl
   have e2 : tys = #[u] := by
    obtain ⟨l⟩ := tys
    match l, hu, h2 with
    | [a], hu, _ => cases hu; rfl
   subst e1; subst e2
   exact leK_ok
end
end
section
noncomputable def posK (i : Nat) (R : List Nat) : Nat → Option Nat := @List.rec Nat (fun _ => Nat → Option Nat) (fun _ => none) (fun a _ ih j => bc (Nat.beq a i) (some j) (ih (Nat.add j 1))) R
theorem posK_eq (i : Nat) : ∀ (R : List Nat) (j : Nat), posK i R j = (pos i R).map (· + j)
 | [], _ => rfl
 | a :: t, j => by
  show bc (Nat.beq a i) (some j) (posK i t (j + 1)) = _
  rw [bc_eq, posK_eq i t, pos]
  cases Nat.beq a i
  · simp only [cond_false]
    cases pos i t with
    | none => rfl
    | some k => simp; omega
  · simp
theorem posK_0 (i : Nat) (R : List Nat) : posK i R 0 = pos i R := by rw [posK_eq]; cases pos i R <;> rfl
noncomputable def refsK (d : D) : List Nat → List Nat := @D.rec (fun _ => List Nat → List Nat) (fun _ => List Nat → List Nat) (fun _ => List Nat → List Nat) (fun a => a) (fun _ a => a) (fun _ _ ih => ih) (fun _ ih => ih) (fun _ ih => ih) (fun _ ih => ih) (fun i _ a => i :: a) (fun i _ a => i :: a) (fun i _ _ _ a => i :: a) (fun i _ _ _ a => i :: a) (fun i _ _ _ _ a => i :: a) (fun i a => i :: a) (fun a => a) (fun _ _ ih => ih) (fun a => a) (fun _ _ ih1 ih2 a => ih1 (ih2 a)) (fun a => a) (fun _ _ ih1 ih2 a => ih1 (ih2 a)) d
noncomputable def refsLK (l : List D) : List Nat → List Nat := @List.rec D (fun _ => List Nat → List Nat) (fun a => a) (fun d _ ih a => refsK d (ih a)) l
noncomputable def noR (d : D) : Bool := @D.rec (fun _ => Bool) (fun _ => Bool) (fun _ => Bool) true (fun _ => true) (fun _ _ ih => ih) (fun _ ih => ih) (fun _ ih => ih) (fun _ ih => ih) (fun _ _ => false) (fun _ _ => false) (fun _ _ _ _ => false) (fun _ _ _ _ => false) (fun _ _ _ _ _ => false) (fun _ => false) true (fun _ _ ih => ih) true (fun _ _ ih1 ih2 => @Bool.rec (fun _ => Bool) false ih2 ih1) true (fun _ _ ih1 ih2 => @Bool.rec (fun _ => Bool) false ih2 ih1) d
noncomputable def noR2 (d : List (List D)) : Bool := @D.rec_1 (fun _ => Bool) (fun _ => Bool) (fun _ => Bool) true (fun _ => true) (fun _ _ ih => ih) (fun _ ih => ih) (fun _ ih => ih) (fun _ ih => ih) (fun _ _ => false) (fun _ _ => false) (fun _ _ _ _ => false) (fun _ _ _ _ => false) (fun _ _ _ _ _ => false) (fun _ => false) true (fun _ _ ih => ih) true (fun _ _ ih1 ih2 => @Bool.rec (fun _ => Bool) false ih2 ih1) true (fun _ _ ih1 ih2 => @Bool.rec (fun _ => Bool) false ih2 ih1) d
noncomputable def noR3 (d : List D) : Bool := @D.rec_2 (fun _ => Bool) (fun _ => Bool) (fun _ => Bool) true (fun _ => true) (fun _ _ ih => ih) (fun _ ih => ih) (fun _ ih => ih) (fun _ ih => ih) (fun _ _ => false) (fun _ _ => false) (fun _ _ _ _ => false) (fun _ _ _ _ => false) (fun _ _ _ _ _ => false) (fun _ => false) true (fun _ _ ih => ih) true (fun _ _ ih1 ih2 => @Bool.rec (fun _ => Bool) false ih2 ih1) true (fun _ _ ih1 ih2 => @Bool.rec (fun _ => Bool) false ih2 ih1) d
theorem rec_and {a b : Bool} (h : @Bool.rec (fun _ => Bool) false b a = true) : a = true ∧ b = true := by cases a <;> cases b <;> first | exact ⟨rfl, rfl⟩ | cases h
mutual
theorem noR_low : ∀ d, noR d = true → low 0 d
 | .any, _ => by rw [low]; trivial
 | .v _, _ => by rw [low]; trivial
 | .sl _ xs, h => by rw [low]; exact noR2_low xs h
 | .agg ds, h => by rw [low]; exact noR3_low ds h
 | .tup ds, h => by rw [low]; exact noR3_low ds h
 | .rp ds, h => by rw [low]; exact noR3_low ds h
 | .ptr _ _, h => by cases h
 | .buf _ _, h => by cases h
 | .bp _ _ _ _, h => by cases h
 | .win _ _ _ _, h => by cases h
 | .arr _ _ _ _ _, h => by cases h
 | .mp _, h => by cases h
 | .e0, _ => by rw [low]; trivial
 | .fn _ ds, h => by rw [low]; exact noR3_low ds h
theorem noR3_low : ∀ d, noR3 d = true → lowL 0 d
 | [], _ => by rw [lowL]; trivial
 | d :: t, h => by rw [lowL]; exact ⟨noR_low d (rec_and h).1, noR3_low t (rec_and h).2⟩
theorem noR2_low : ∀ d, noR2 d = true → lowR 0 d
 | [], _ => by rw [lowR]; trivial
 | d :: t, h => by rw [lowR]; exact ⟨noR3_low d (rec_and h).1, noR2_low t (rec_and h).2⟩
end
noncomputable def rnK (R : List Nat) (d : D) : Option D := @D.rec (fun _ => Option D) (fun _ => Option (List (List D))) (fun _ => Option (List D)) (some .any) (fun x => some (.v x)) (fun k _ ih => @Option.rec (List (List D)) (fun _ => Option D) none (fun ys => some (.sl k ys)) ih) (fun _ ih => @Option.rec (List D) (fun _ => Option D) none (fun ys => some (.agg ys)) ih) (fun _ ih => @Option.rec (List D) (fun _ => Option D) none (fun ys => some (.tup ys)) ih) (fun _ ih => @Option.rec (List D) (fun _ => Option D) none (fun ys => some (.rp ys)) ih) (fun i o => @Option.rec Nat (fun _ => Option D) none (fun z => some (.ptr z o)) (posK i R 0)) (fun i n => @Option.rec Nat (fun _ => Option D) none (fun z => some (.buf z n)) (posK i R 0)) (fun i n r j => @Option.rec Nat (fun _ => Option D) none (fun z => some (.bp z n r j)) (posK i R 0)) (fun i n a b => @Option.rec Nat (fun _ => Option D) none (fun z => some (.win z n a b)) (posK i R 0)) (fun i o n c k => @Option.rec Nat (fun _ => Option D) none (fun z => some (.arr z o n c k)) (posK i R 0)) (fun i => @Option.rec Nat (fun _ => Option D) none (fun z => some (.mp z)) (posK i R 0)) (some .e0) (fun f _ ih => @Option.rec (List D) (fun _ => Option D) none (fun ys => some (.fn f ys)) ih) (some []) (fun _ _ ih1 ih2 => @Option.rec (List D) (fun _ => Option (List (List D))) none (fun x => @Option.rec (List (List D)) (fun _ => Option (List (List D))) none (fun y => some (x :: y)) ih2) ih1) (some []) (fun _ _ ih1 ih2 => @Option.rec D (fun _ => Option (List D)) none (fun x => @Option.rec (List D) (fun _ => Option (List D)) none (fun y => some (x :: y)) ih2) ih1) d
noncomputable def rnK2 (R : List Nat) (d : List (List D)) : Option (List (List D)) := @D.rec_1 (fun _ => Option D) (fun _ => Option (List (List D))) (fun _ => Option (List D)) (some .any) (fun x => some (.v x)) (fun k _ ih => @Option.rec (List (List D)) (fun _ => Option D) none (fun ys => some (.sl k ys)) ih) (fun _ ih => @Option.rec (List D) (fun _ => Option D) none (fun ys => some (.agg ys)) ih) (fun _ ih => @Option.rec (List D) (fun _ => Option D) none (fun ys => some (.tup ys)) ih) (fun _ ih => @Option.rec (List D) (fun _ => Option D) none (fun ys => some (.rp ys)) ih) (fun i o => @Option.rec Nat (fun _ => Option D) none (fun z => some (.ptr z o)) (posK i R 0)) (fun i n => @Option.rec Nat (fun _ => Option D) none (fun z => some (.buf z n)) (posK i R 0)) (fun i n r j => @Option.rec Nat (fun _ => Option D) none (fun z => some (.bp z n r j)) (posK i R 0)) (fun i n a b => @Option.rec Nat (fun _ => Option D) none (fun z => some (.win z n a b)) (posK i R 0)) (fun i o n c k => @Option.rec Nat (fun _ => Option D) none (fun z => some (.arr z o n c k)) (posK i R 0)) (fun i => @Option.rec Nat (fun _ => Option D) none (fun z => some (.mp z)) (posK i R 0)) (some .e0) (fun f _ ih => @Option.rec (List D) (fun _ => Option D) none (fun ys => some (.fn f ys)) ih) (some []) (fun _ _ ih1 ih2 => @Option.rec (List D) (fun _ => Option (List (List D))) none (fun x => @Option.rec (List (List D)) (fun _ => Option (List (List D))) none (fun y => some (x :: y)) ih2) ih1) (some []) (fun _ _ ih1 ih2 => @Option.rec D (fun _ => Option (List D)) none (fun x => @Option.rec (List D) (fun _ => Option (List D)) none (fun y => some (x :: y)) ih2) ih1) d
noncomputable def rnK3 (R : List Nat) (d : List D) : Option (List D) := @D.rec_2 (fun _ => Option D) (fun _ => Option (List (List D))) (fun _ => Option (List D)) (some .any) (fun x => some (.v x)) (fun k _ ih => @Option.rec (List (List D)) (fun _ => Option D) none (fun ys => some (.sl k ys)) ih) (fun _ ih => @Option.rec (List D) (fun _ => Option D) none (fun ys => some (.agg ys)) ih) (fun _ ih => @Option.rec (List D) (fun _ => Option D) none (fun ys => some (.tup ys)) ih) (fun _ ih => @Option.rec (List D) (fun _ => Option D) none (fun ys => some (.rp ys)) ih) (fun i o => @Option.rec Nat (fun _ => Option D) none (fun z => some (.ptr z o)) (posK i R 0)) (fun i n => @Option.rec Nat (fun _ => Option D) none (fun z => some (.buf z n)) (posK i R 0)) (fun i n r j => @Option.rec Nat (fun _ => Option D) none (fun z => some (.bp z n r j)) (posK i R 0)) (fun i n a b => @Option.rec Nat (fun _ => Option D) none (fun z => some (.win z n a b)) (posK i R 0)) (fun i o n c k => @Option.rec Nat (fun _ => Option D) none (fun z => some (.arr z o n c k)) (posK i R 0)) (fun i => @Option.rec Nat (fun _ => Option D) none (fun z => some (.mp z)) (posK i R 0)) (some .e0) (fun f _ ih => @Option.rec (List D) (fun _ => Option D) none (fun ys => some (.fn f ys)) ih) (some []) (fun _ _ ih1 ih2 => @Option.rec (List D) (fun _ => Option (List (List D))) none (fun x => @Option.rec (List (List D)) (fun _ => Option (List (List D))) none (fun y => some (x :: y)) ih2) ih1) (some []) (fun _ _ ih1 ih2 => @Option.rec D (fun _ => Option (List D)) none (fun x => @Option.rec (List D) (fun _ => Option (List D)) none (fun y => some (x :: y)) ih2) ih1) d
section
variable (R : List Nat)
mutual
theorem rnK_eq : ∀ d, rnK R d = rnO R d
 | .any => by rw [rnO]; rfl
 | .v _ => by rw [rnO]; rfl
 | .e0 => by rw [rnO]; rfl
 | .sl k xs => by rw [rnO, ← rnK2_eq xs]; show @Option.rec _ _ _ _ (rnK2 R xs) = _; cases rnK2 R xs <;> rfl
 | .agg xs => by rw [rnO, ← rnK3_eq xs]; show @Option.rec _ _ _ _ (rnK3 R xs) = _; cases rnK3 R xs <;> rfl
 | .tup xs => by rw [rnO, ← rnK3_eq xs]; show @Option.rec _ _ _ _ (rnK3 R xs) = _; cases rnK3 R xs <;> rfl
 | .rp xs => by rw [rnO, ← rnK3_eq xs]; show @Option.rec _ _ _ _ (rnK3 R xs) = _; cases rnK3 R xs <;> rfl
 | .fn f xs => by rw [rnO, ← rnK3_eq xs]; show @Option.rec _ _ _ _ (rnK3 R xs) = _; cases rnK3 R xs <;> rfl
 | .ptr i o => by rw [rnO, ← posK_0]; show @Option.rec _ _ _ _ (posK i R 0) = _; cases posK i R 0 <;> rfl
 | .buf i o => by rw [rnO, ← posK_0]; show @Option.rec _ _ _ _ (posK i R 0) = _; cases posK i R 0 <;> rfl
 | .bp i n r c => by rw [rnO, ← posK_0]; show @Option.rec _ _ _ _ (posK i R 0) = _; cases posK i R 0 <;> rfl
 | .win i n r c => by rw [rnO, ← posK_0]; show @Option.rec _ _ _ _ (posK i R 0) = _; cases posK i R 0 <;> rfl
 | .arr i o n c k => by rw [rnO, ← posK_0]; show @Option.rec _ _ _ _ (posK i R 0) = _; cases posK i R 0 <;> rfl
 | .mp i => by rw [rnO, ← posK_0]; show @Option.rec _ _ _ _ (posK i R 0) = _; cases posK i R 0 <;> rfl
theorem rnK3_eq : ∀ d, rnK3 R d = rnL R d
 | [] => by rw [rnL]; rfl
 | d :: t => by
  rw [rnL, ← rnK_eq d, ← rnK3_eq t]
  show @Option.rec _ _ _ _ (rnK R d) = _
  cases rnK R d with
  | none => rfl
  | some x => show @Option.rec _ _ _ _ (rnK3 R t) = _; cases rnK3 R t <;> rfl
theorem rnK2_eq : ∀ d, rnK2 R d = rnR R d
 | [] => by rw [rnR]; rfl
 | d :: t => by
  rw [rnR, ← rnK3_eq d, ← rnK2_eq t]
  show @Option.rec _ _ _ _ (rnK3 R d) = _
  cases rnK3 R d with
  | none => rfl
  | some x => show @Option.rec _ _ _ _ (rnK2 R t) = _; cases rnK2 R t <;> rfl
end
end
noncomputable def rnObK (R : List Nat) (o : Ob) : Option Ob := @Ob.casesOn (fun _ => Option Ob) o (fun ds => @Option.rec (List D) (fun _ => Option Ob) none (fun ys => some (.cells ys)) (rnK3 R ds)) (fun e k xs => @Option.rec (List (List D)) (fun _ => Option Ob) none (fun ys => some (.buf e k ys)) (rnK2 R xs))
 (fun es c => rnOb R (.map es c)) (fun m s l a => rnOb R (.iter m s l a)) (some .hole) (some .dead)
theorem rnObK_eq (R : List Nat) (o : Ob) : rnObK R o = rnOb R o := by
 cases o with
 | cells ds => rw [rnOb, ← rnK3_eq]; show @Option.rec _ _ _ _ (rnK3 R ds) = _; cases rnK3 R ds <;> rfl
 | buf e k xs => rw [rnOb, ← rnK2_eq]; show @Option.rec _ _ _ _ (rnK2 R xs) = _; cases rnK2 R xs <;> rfl
 | _ => rfl
noncomputable def rnHK (R : List Nat) (h : List Ob) (l : List Nat) : Option (List Ob) := @List.rec Nat (fun _ => Option (List Ob)) (some []) (fun i _ ih => @Option.rec Ob (fun _ => Option (List Ob)) none (fun ob => @Option.rec Ob (fun _ => Option (List Ob)) none (fun ob' => @Option.rec (List Ob) (fun _ => Option (List Ob)) none (fun t => some (ob' :: t)) ih) (rnObK R ob)) (nthK h i)) l
theorem rnHK_eq (R : List Nat) (h : List Ob) : ∀ l, rnHK R h l = rnH R h l
 | [] => by rw [rnH]; rfl
 | i :: t => by
  rw [rnH, ← rnHK_eq R h t, ← nthK_eq]
  show @Option.rec _ _ _ _ (nthK h i) = _
  cases nthK h i with
  | none => rfl
  | some ob =>
   simp only
   rw [← rnObK_eq]
   show @Option.rec _ _ _ _ (rnObK R ob) = _
   cases rnObK R ob with
   | none => rfl
   | some ob' => show @Option.rec _ _ _ _ (rnHK R h t) = _; cases rnHK R h t <;> rfl
noncomputable def memK (i : Nat) (l : List Nat) : Bool := @List.rec Nat (fun _ => Bool) false (fun a _ ih => bc (Nat.beq a i) true ih) l
theorem memK_eq (i : Nat) : ∀ l, memK i l = memN i l
 | [] => rfl
 | a :: t => by show bc (Nat.beq a i) true (memK i t) = _; rw [bc_eq, memK_eq i t, memN]
noncomputable def nodupK (l : List Nat) : Bool := @List.rec Nat (fun _ => Bool) true (fun a t ih => bc (memK a t) false ih) l
theorem nodupK_eq : ∀ l, nodupK l = nodupB l
 | [] => rfl
 | a :: t => by show bc (memK a t) false (nodupK t) = _; rw [bc_eq, memK_eq, nodupK_eq t, nodupB]
noncomputable def addK (l R : List Nat) : List Nat := @List.rec Nat (fun _ => List Nat → List Nat) (fun R => R) (fun i _ ih R => bc (memK i R) (ih R) (ih (R ++ [i]))) l R
noncomputable def refsObK (o : Ob) : List Nat := @Ob.casesOn (fun _ => List Nat) o (fun ds => refsLK ds []) (fun _ _ xs => refsK (.sl 0 xs) []) (fun es _ => refsOb (.map es 0)) (fun m _ _ _ => [m]) [] []
noncomputable def closeK (h : List Ob) (k : Nat) : Nat → List Nat → List Nat := @Nat.rec (fun _ => Nat → List Nat → List Nat) (fun _ R => R) (fun _ ih j R => @Option.rec Nat (fun _ => List Nat) R (fun i => @Option.rec Ob (fun _ => List Nat) (ih (Nat.add j 1) R) (fun ob => ih (Nat.add j 1) (addK (refsObK ob) R)) (nthK h i)) (nthK R j)) k
end
end Go.Proofs.YtgkjcmglcnhpaaaGreatDoor
