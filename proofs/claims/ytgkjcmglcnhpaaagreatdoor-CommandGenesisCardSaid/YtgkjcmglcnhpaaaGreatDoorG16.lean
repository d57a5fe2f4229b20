/-
  What the statements of the chapter share, part 16: LB3, RSpec, RR0, RB0, SHS, CL0, CL2, AL, OF0, AR, OF2, AL2.
-/
import Derived.Test.YtgkjcmglcnhpaaaGreatDoorG07
import Derived.Test.YtgkjcmglcnhpaaaGreatDoorG09
import Derived.Test.YtgkjcmglcnhpaaaGreatDoorG10
import Derived.Test.YtgkjcmglcnhpaaaGreatDoorG11
import Derived.Test.YtgkjcmglcnhpaaaGreatDoorG15
import Derived.Laws.CopyRow
set_option linter.unusedVariables false
set_option linter.unusedSimpArgs false
set_option maxRecDepth 100000
set_option maxHeartbeats 8000000
namespace Go.Proofs.YtgkjcmglcnhpaaaGreatDoor
open Go.RowKit
section
set_option maxRecDepth 100000
set_option maxHeartbeats 8000000
attribute [local irreducible] on aOp
attribute [local go_sem] decide_true decide_false Bool.not_true Bool.not_false
attribute [local simp] byD_len
variable (G : Nat → D) (hG : ∀ g, low 0 (G g))
include hG
theorem spelling_d (l : Lat) (hsm : Sm l) (h : List Ob) : Does Tryz.prog G 105 h [.agg (latX l)] (fun h' r => h' = h ∧ r = .v (.int .i64 (whenI (spellB l) 3))) := by
 refine does_any G hG (low_latL _ l) (by rw [low]; trivial) ?_ h
 clear h
 have hnl := hsm.names
 have hrl := hsm.rules
 have htx := hsm.texts
 have hcd := hsm.conds
 have hso := sortedS_d G hG l.names hnl
 obtain ⟨six, hsix⟩ : ∃ b : Bool, (l.kind == 6) = b := ⟨_, rfl⟩
 have hkd : decide (l.kind = 6) = six := by rw [← hsix]; rfl
 unfold spellB
 rw [hsix]
 refine does_of_aw Tryz.func105 rfl (Nat.le_of_ble_eq_true rfl) hG fun hl0 _ => ?_
 simp only [Tryz.ntmps105]
 repeat' first
  | (with_reducible refine gd_aw ?_; first
   | refine aw_seq' ?_
   | refine aw_region' ?_
   | refine aw_block ?_)
  | (with_reducible refine gd_ao ?_; first
   | refine ao_nil ?_
   | (refine ao1 rfl rfl fun K HK => ?_; simp only [go_sem, ↓reduceIte, Nat.reduceEqDiff, Nat.reduceAdd, Nat.reduceLeDiff, Nat.reduceBEq, Nat.reduceMul, Int.reduceEq, Int.reduceLT, Int.reduceLE, latX_eq l, List.length_map] <;> (refine HK _ _ ?_; clear HK K)))
  | (with_reducible refine gd_th ?_; first
   | refine thenS_n ?_)
 refine aw_for (fun m e h' => ∃ k : Nat, k ≤ l.names.length ∧ m = l.names.length - k ∧ nmGo six l.names 0 l.names = nmGo six l.names k (l.names.drop k) ∧ h' = [.cells (latX l)] ∧ e 1 = .ptr 0 0 ∧ e 8 = .sl 1 (l.names.map strX) ∧ e 9 = .v (.int .i64 l.names.length) ∧ e 10 = .v (.int .i64 k)) l.names.length ⟨0, Nat.zero_le _, rfl, rfl, (by rw [latX_eq l]), rfl, rfl, rfl, rfl⟩ ?_
 rintro m e h' ⟨k, hk, rfl, ho, rfl, e1, e8, e9, e10⟩
 by_cases hlt : k < l.names.length
 · have hx : l.names[k]? = some l.names[k] := List.getElem?_eq_getElem hlt
   have wk : IntKind.i64.wrap ((k : Int) + 1) = (k : Int) + 1 := IntWalk.i64_in _ (by omega)
   rw [nmGo_step six l.names k hlt] at ho
   have hn := nameValid_d G hG l.names[k] (htx _ (List.getElem_mem hlt))
   generalize l.names[k] = x at hx hn ho
   have hin := contS_d G hG (l.names.take k) x (by rw [List.length_take]; omega)
   have hin2 : ∀ (b : Bool), hasS (l.names.take k) x = b → ∀ h, Does Tryz.prog G 125 h [.sl 1 (List.drop (Int.toNat 0) (List.take (Int.toNat (k : Int)) (l.names.map strX))), .v (.string x)] (fun h' r => h' = h ∧ r = .v (.bool b)) := fun b hb h => by
    have := hin h
    rw [hb, List.map_take] at this
    exact this
   clear hin
   cases hnb : nameB x <;> rw [hnb] at hn ho
   · have e0 : (nmGo six l.names 0 l.names) = false := by rw [ho]; rfl
     rw [e0]
     repeat' first
      | (with_reducible refine gd_aw ?_; first
       | refine aw_seq' ?_
       | refine aw_region' ?_
       | refine aw_block ?_
       | refine aw_if1 rfl ?_
       | refine aw_if0 rfl ?_
       | refine aw_skip ?_
       | refine aw_exit ?_
       | refine aw_ret ?_)
      | (with_reducible refine gd_ao ?_; first
       | refine ao_nil ?_
       | (refine ao1 rfl rfl fun K HK => ?_; (first | refine aOp_pick rfl ?_ | skip); simp only [go_sem, ↓reduceIte, Nat.reduceEqDiff, Nat.reduceAdd, Nat.reduceLeDiff, Nat.reduceBEq, Nat.reduceMul, Int.reduceEq, Int.reduceLT, Int.reduceLE, latX_eq l, e1, e8, e9, e10, List.length_map, strX_eq, Int.toNat_natCast, wk, Bool.false_eq_true]; (first | refine splitB (fun hq => ?_) (fun hq => ?_) | refine splitN (fun hq => ?_) (fun hq => ?_) | (refine ⟨by omega, by omega, ?_⟩; refine row_at (by assumption) ?_) | skip) <;> (refine HK _ _ ?_; clear HK K))
       | refine ao0 rfl rfl ?_
       | (refine ao2 rfl rfl rfl ent_38 (hn _) ?_; rintro _ _ ⟨rfl, rfl⟩))
      | (with_reducible refine gd_th ?_; first
       | refine thenS_n ?_
       | refine thenS_x ?_
       | refine thenS_r ?_)
      | (with_reducible refine gd_iB ?_; first
       | refine inB_r ?_
       | refine inB_x ?_)
      | (exfalso; omega)
     exact ⟨.inr rfl, endD (r := .v (.int .i64 3)) hl0 rfl (by simp) (by simp) rfl (by rw [low]; trivial) ⟨rfl, rfl⟩⟩
   · cases six
     · rw [Bool.false_and, Bool.not_false] at ho
       repeat' first
        | (with_reducible refine gd_aw ?_; first
         | refine aw_seq' ?_
         | refine aw_region' ?_
         | refine aw_block ?_
         | refine aw_if1 rfl ?_
         | refine aw_if0 rfl ?_
         | refine aw_skip ?_
         | refine aw_exit ?_)
        | (with_reducible refine gd_ao ?_; first
         | refine ao_nil ?_
         | (refine ao1 rfl rfl fun K HK => ?_; (first | refine aOp_pick rfl ?_ | skip); simp only [go_sem, ↓reduceIte, Nat.reduceEqDiff, Nat.reduceAdd, Nat.reduceLeDiff, Nat.reduceBEq, Nat.reduceMul, Int.reduceEq, Int.reduceLT, Int.reduceLE, latX_eq l, e1, e8, e9, e10, hkd, List.length_map, strX_eq, Int.toNat_natCast, wk, Bool.false_eq_true]; (first | refine splitB (fun hq => ?_) (fun hq => ?_) | (refine ⟨by omega, by omega, ?_⟩; refine row_at (by assumption) ?_) | skip) <;> (refine HK _ _ ?_; clear HK K))
         | refine ao0 rfl rfl ?_
         | (refine ao2 rfl rfl rfl ent_38 (hn _) ?_; rintro _ _ ⟨rfl, rfl⟩))
        | (with_reducible refine gd_th ?_; first
         | refine thenS_n ?_
         | refine thenS_x ?_)
        | (with_reducible refine gd_iB ?_; first
         | refine inB_n ?_
         | refine inB_x ?_)
        | (exfalso; omega)
       exact ⟨rfl, l.names.length - (k + 1), by omega, k + 1, hlt, rfl, by rw [ho]; rfl, by rw [latX_eq l], e1, e8, e9, rfl⟩
     · cases hib : hasS (l.names.take k) x <;> rw [hib] at ho
       · skip
         repeat' first
          | (with_reducible refine gd_aw ?_; first
           | refine aw_seq' ?_
           | refine aw_region' ?_
           | refine aw_block ?_
           | refine aw_if1 rfl ?_
           | refine aw_if0 rfl ?_
           | refine aw_skip ?_
           | refine aw_exit ?_)
          | (with_reducible refine gd_ao ?_; first
           | refine ao_nil ?_
           | (refine ao1 rfl rfl fun K HK => ?_; (first | refine aOp_pick rfl ?_ | skip); simp only [go_sem, ↓reduceIte, Nat.reduceEqDiff, Nat.reduceAdd, Nat.reduceLeDiff, Nat.reduceBEq, Nat.reduceMul, Int.reduceEq, Int.reduceLT, Int.reduceLE, latX_eq l, e1, e8, e9, e10, hkd, List.length_map, strX_eq, Int.toNat_natCast, wk, Bool.false_eq_true]; (first | refine splitB (fun hq => ?_) (fun hq => ?_) | (refine slc_sl (by simp only [go_sem]) rfl rfl (by first | omega | simp) (by first | omega | simp) (by simp only [go_sem]; omega) ?_) | (refine ⟨by omega, by omega, ?_⟩; refine row_at (by assumption) ?_) | skip) <;> (refine HK _ _ ?_; clear HK K))
           | refine ao0 rfl rfl ?_
           | (refine ao2 rfl rfl rfl ent_38 (hn _) ?_; rintro _ _ ⟨rfl, rfl⟩)
           | (refine ao2 rfl rfl rfl ent_125 (hin2 _ hib _) ?_; rintro _ _ ⟨rfl, rfl⟩))
          | (with_reducible refine gd_th ?_; first
           | refine thenS_n ?_
           | refine thenS_x ?_)
          | (with_reducible refine gd_iB ?_; first
           | refine inB_n ?_
           | refine inB_x ?_)
          | (exfalso; omega)
         exact ⟨rfl, l.names.length - (k + 1), by omega, k + 1, hlt, rfl, by rw [ho]; rfl, by rw [latX_eq l], e1, e8, e9, rfl⟩
       · have e0 : (nmGo true l.names 0 l.names) = false := by rw [ho]; rfl
         rw [e0]
         repeat' first
          | (with_reducible refine gd_aw ?_; first
           | refine aw_seq' ?_
           | refine aw_region' ?_
           | refine aw_block ?_
           | refine aw_if1 rfl ?_
           | refine aw_if0 rfl ?_
           | refine aw_skip ?_
           | refine aw_exit ?_
           | refine aw_ret ?_)
          | (with_reducible refine gd_ao ?_; first
           | refine ao_nil ?_
           | (refine ao1 rfl rfl fun K HK => ?_; (first | refine aOp_pick rfl ?_ | skip); simp only [go_sem, ↓reduceIte, Nat.reduceEqDiff, Nat.reduceAdd, Nat.reduceLeDiff, Nat.reduceBEq, Nat.reduceMul, Int.reduceEq, Int.reduceLT, Int.reduceLE, latX_eq l, e1, e8, e9, e10, hkd, List.length_map, strX_eq, Int.toNat_natCast, wk, Bool.false_eq_true]; (first | refine splitB (fun hq => ?_) (fun hq => ?_) | (refine slc_sl (by simp only [go_sem]) rfl rfl (by first | omega | simp) (by first | omega | simp) (by simp only [go_sem]; omega) ?_) | (refine ⟨by omega, by omega, ?_⟩; refine row_at (by assumption) ?_) | skip) <;> (refine HK _ _ ?_; clear HK K))
           | refine ao0 rfl rfl ?_
           | (refine ao2 rfl rfl rfl ent_38 (hn _) ?_; rintro _ _ ⟨rfl, rfl⟩)
           | (refine ao2 rfl rfl rfl ent_125 (hin2 _ hib _) ?_; rintro _ _ ⟨rfl, rfl⟩))
          | (with_reducible refine gd_th ?_; first
           | refine thenS_n ?_
           | refine thenS_x ?_
           | refine thenS_r ?_)
          | (with_reducible refine gd_iB ?_; first
           | refine inB_r ?_
           | refine inB_x ?_)
          | (exfalso; omega)
         exact ⟨.inr rfl, endD (r := .v (.int .i64 3)) hl0 rfl (by simp) (by simp) rfl (by rw [low]; trivial) ⟨rfl, rfl⟩⟩
 have e0 : (nmGo six l.names 0 l.names) = true := by rw [ho, List.drop_eq_nil_of_le (by omega)]; rfl
 rw [e0, Bool.true_and]
 clear ho e0
 by_cases hbad : six = false ∧ sortedB l.names = false
 · obtain ⟨rfl, hsb⟩ := hbad
   rw [hsb] at hso ⊢
   repeat' first
    | (with_reducible refine gd_aw ?_; first
     | refine aw_seq' ?_
     | refine aw_region' ?_
     | refine aw_block ?_
     | refine aw_if1 rfl ?_
     | refine aw_if0 rfl ?_
     | refine aw_skip ?_
     | refine aw_exit ?_
     | refine aw_ret ?_)
    | (with_reducible refine gd_ao ?_; first
     | refine ao_nil ?_
     | (refine ao1 rfl rfl fun K HK => ?_; (first | refine aOp_pick rfl ?_ | skip); simp only [go_sem, ↓reduceIte, Nat.reduceEqDiff, Nat.reduceAdd, Nat.reduceLeDiff, Nat.reduceBEq, Nat.reduceMul, Int.reduceEq, Int.reduceLT, Int.reduceLE, latX_eq l, e1, e8, e9, e10, hkd, List.length_map, Bool.false_eq_true]; (first | refine splitB (fun hq => ?_) (fun hq => ?_) | (refine ⟨by omega, by omega, ?_⟩; intro row hrow; obtain ⟨x, hx, rfl⟩ := row_inv hrow; clear hrow) | skip) <;> (refine HK _ _ ?_; clear HK K))
     | (refine ao2 rfl rfl rfl ent_126 (hso _) ?_; rintro _ _ ⟨rfl, rfl⟩))
    | (with_reducible refine gd_th ?_; first
     | refine thenS_n ?_
     | refine thenS_x ?_
     | refine thenS_r ?_)
    | (with_reducible refine gd_iB ?_; first
     | refine inB_x ?_)
    | (exfalso; omega)
   exact ⟨.inr rfl, endD (r := .v (.int .i64 3)) hl0 rfl (by simp) (by simp) rfl (by rw [low]; trivial) ⟨rfl, rfl⟩⟩
 have e0 : (six || sortedB l.names) = true := by
  cases six
  · cases hsb : sortedB l.names
    · exact absurd ⟨rfl, hsb⟩ hbad
    · rfl
  · rfl
 rw [e0, Bool.true_and]
 have hso2 : six = false → ∀ h, Does Tryz.prog G 126 h [.sl 1 (l.names.map strX)] (fun h' r => h' = h ∧ r = .v (.bool true)) := fun q h => by
  subst q
  have := hso h
  rw [Bool.false_or] at e0
  rwa [e0] at this
 have step : ∃ u : Unit, True := ⟨(), trivial⟩
 clear step hso e0
 cases six
 all_goals
  skip
  repeat' first
   | (with_reducible refine gd_aw ?_; first
    | refine aw_seq' ?_
    | refine aw_region' ?_
    | refine aw_block ?_
    | refine aw_if1 rfl ?_
    | refine aw_if0 rfl ?_
    | refine aw_skip ?_
    | refine aw_exit ?_)
   | (with_reducible refine gd_ao ?_; first
    | refine ao_nil ?_
    | (refine ao1 rfl rfl fun K HK => ?_; (first | refine aOp_pick rfl ?_ | skip); simp only [go_sem, ↓reduceIte, Nat.reduceEqDiff, Nat.reduceAdd, Nat.reduceLeDiff, Nat.reduceBEq, Nat.reduceMul, Int.reduceEq, Int.reduceLT, Int.reduceLE, latX_eq l, e1, e8, e9, e10, hkd, List.length_map, Bool.false_eq_true]; (first | refine splitB (fun hq => ?_) (fun hq => ?_) | (refine ⟨by omega, by omega, ?_⟩; intro row hrow; obtain ⟨x, hx, rfl⟩ := row_inv hrow; clear hrow) | skip) <;> (refine HK _ _ ?_; clear HK K))
    | refine ao0 rfl rfl ?_
    | (refine ao2 rfl rfl rfl ent_126 (hso2 rfl _) ?_; rintro _ _ ⟨rfl, rfl⟩))
   | (with_reducible refine gd_th ?_; first
    | refine thenS_n ?_
    | refine thenS_x ?_)
   | (with_reducible refine gd_iB ?_; first
    | refine inB_x ?_)
   | (exfalso; omega)
  refine aw_for (fun m e h' => ∃ (k : Nat) (T : List Ob), k ≤ l.rules.length ∧ m = l.rules.length - k ∧ rulesB l.names l.rules = rulesB l.names (l.rules.drop k) ∧ h' = gM (.cells (latX l)) T ∧ e 1 = .ptr 0 0 ∧ e 42 = .sl 2 (l.rules.map ruleX) ∧ e 43 = .v (.int .i64 l.rules.length) ∧ e 44 = .v (.int .i64 k)) l.rules.length ⟨0, [], Nat.zero_le _, rfl, rfl, (by rw [latX_eq l]; rfl), e1, rfl, rfl, rfl⟩ ?_
  clear e1 e8 e9 e10
  rintro m e h' ⟨k, T, hk, rfl, ho, rfl, e1, e42, e43, e44⟩
  by_cases hlt : k < l.rules.length
  rotate_left
  · have e0 : rulesB l.names l.rules = true := by rw [ho, List.drop_eq_nil_of_le (by omega)]; rfl
    rw [e0]
    repeat' first
     | (with_reducible refine gd_aw ?_; first
      | refine aw_seq' ?_
      | refine aw_region' ?_
      | refine aw_block ?_
      | refine aw_if1 rfl ?_
      | refine aw_if0 rfl ?_
      | refine aw_skip ?_
      | refine aw_exit ?_
      | refine aw_ret ?_)
     | (with_reducible refine gd_ao ?_; first
      | refine ao_nil ?_
      | (refine ao1 rfl rfl fun K HK => ?_; simp only [go_sem, ↓reduceIte, Nat.reduceEqDiff, Nat.reduceAdd, Nat.reduceLeDiff, Nat.reduceBEq, Nat.reduceMul, Int.reduceEq, Int.reduceLT, Int.reduceLE, latX_eq l, e1, e42, e43, e44, List.length_map, gM_0]; (first | refine splitB (fun hq => ?_) (fun hq => ?_) | (refine ⟨by omega, by omega, ?_⟩; intro row hrow; obtain ⟨x, hx, rfl⟩ := row_inv hrow; clear hrow) | skip) <;> (refine HK _ _ ?_; clear HK K)))
     | (with_reducible refine gd_th ?_; first
      | refine thenS_n ?_
      | refine thenS_x ?_)
     | (with_reducible refine gd_iB ?_; first
      | refine inB_x ?_)
     | (exfalso; omega)
    exact ⟨.inr rfl, endD (r := .v (.int .i64 0)) hl0 rfl (by simp) (by simp) rfl (by rw [low]; trivial) ⟨rfl, rfl⟩⟩
  have hx : l.rules[k]? = some l.rules[k] := List.getElem?_eq_getElem hlt
  have wk : IntKind.i64.wrap ((k : Int) + 1) = (k : Int) + 1 := IntWalk.i64_in _ (by omega)
  rw [rulesB_step _ _ k hlt] at ho
  obtain ⟨hcl, hcs⟩ := hcd _ (List.getElem_mem hlt)
  generalize l.rules[k] = x at hx ho hcl hcs
  have hsx := sortedS_d G hG x.cond hcl
  have hsu := subsetS_d G hG x.cond l.names hcl hnl
  have hha := hasS_d G hG l.names x.concl hnl
  have er : ruleB l.names x = (decide (x.cond.length ≠ 0) && sortedB x.cond && subsetS x.cond l.names && hasS l.names x.concl) := rfl
  by_cases hz : x.cond.length = 0
  · have e0 : rulesB l.names l.rules = false := by rw [ho, er, decide_eq_false (by omega)]; rfl
    rw [e0]
    repeat' first
     | (with_reducible refine gd_aw ?_; first
      | refine aw_seq' ?_
      | refine aw_region' ?_
      | refine aw_block ?_
      | refine aw_if1 rfl ?_
      | refine aw_if0 rfl ?_
      | refine aw_skip ?_
      | refine aw_exit ?_
      | refine aw_ret ?_)
     | (with_reducible refine gd_ao ?_; first
      | refine ao_nil ?_
      | (refine ao1 rfl rfl fun K HK => ?_; (first | refine aOp_pick rfl ?_ | skip); simp only [go_sem, ↓reduceIte, Nat.reduceEqDiff, Nat.reduceAdd, Nat.reduceLeDiff, Nat.reduceBEq, Nat.reduceMul, Int.reduceEq, Int.reduceLT, Int.reduceLE, latX_eq l, e1, e42, e43, e44, List.length_map, ruleX_eq, Int.toNat_natCast, wk, gM_0, gM_len, gM_app, gM_l, gM_sl, hz, Bool.false_eq_true]; (first | refine splitB (fun hq => ?_) (fun hq => ?_) | (refine ⟨by omega, by omega, ?_⟩; refine row_at (by assumption) ?_) | skip) <;> (refine HK _ _ ?_; clear HK K))
      | refine ao0 rfl rfl ?_
      | (refine ao1' rfl fun K HK => ?_; simp only [go_sem, ↓reduceIte, Nat.reduceEqDiff, Nat.reduceAdd, Nat.reduceLeDiff, Nat.reduceBEq, Nat.reduceMul, Int.reduceEq, Int.reduceLT, Int.reduceLE, latX_eq l, e1, e42, e43, e44, List.length_map, ruleX_eq, Int.toNat_natCast, wk, gM_0, gM_len, gM_app, gM_l, gM_sl, hz, Bool.false_eq_true]; refine HK _ _ ?_; clear HK K))
     | (with_reducible refine gd_th ?_; first
      | refine thenS_n ?_
      | refine thenS_x ?_
      | refine thenS_r ?_)
     | (with_reducible refine gd_iB ?_; first
      | refine inB_r ?_
      | refine inB_x ?_)
     | (exfalso; omega)
    all_goals first | (exfalso; omega) | exact ⟨.inr rfl, endD (r := .v (.int .i64 3)) hl0 rfl (by simp) (by simp) rfl (by rw [low]; trivial) ⟨rfl, rfl⟩⟩
  rw [decide_eq_true (by omega), Bool.true_and] at er
  cases hb1 : sortedB x.cond <;> rw [hb1] at hsx er
  · have e0 : rulesB l.names l.rules = false := by rw [ho, er]; rfl
    rw [e0]
    repeat' first
     | (with_reducible refine gd_aw ?_; first
      | refine aw_seq' ?_
      | refine aw_region' ?_
      | refine aw_block ?_
      | refine aw_if1 rfl ?_
      | refine aw_if0 rfl ?_
      | refine aw_skip ?_
      | refine aw_exit ?_
      | refine aw_ret ?_)
     | (with_reducible refine gd_ao ?_; first
      | refine ao_nil ?_
      | (refine ao1 rfl rfl fun K HK => ?_; (first | refine aOp_pick rfl ?_ | skip); simp only [go_sem, ↓reduceIte, Nat.reduceEqDiff, Nat.reduceAdd, Nat.reduceLeDiff, Nat.reduceBEq, Nat.reduceMul, Int.reduceEq, Int.reduceLT, Int.reduceLE, latX_eq l, e1, e42, e43, e44, List.length_map, ruleX_eq, Int.toNat_natCast, wk, gM_0, gM_len, gM_app, gM_l, gM_sl, Bool.false_eq_true]; (first | refine splitB (fun hq => ?_) (fun hq => ?_) | (refine ⟨by omega, by omega, ?_⟩; refine row_at (by assumption) ?_) | skip) <;> (refine HK _ _ ?_; clear HK K))
      | refine ao0 rfl rfl ?_
      | (refine ao2 rfl rfl rfl ent_126 (hsx _) ?_; rintro _ _ ⟨rfl, rfl⟩)
      | (refine ao1' rfl fun K HK => ?_; simp only [go_sem, ↓reduceIte, Nat.reduceEqDiff, Nat.reduceAdd, Nat.reduceLeDiff, Nat.reduceBEq, Nat.reduceMul, Int.reduceEq, Int.reduceLT, Int.reduceLE, latX_eq l, e1, e42, e43, e44, List.length_map, ruleX_eq, Int.toNat_natCast, wk, gM_0, gM_len, gM_app, gM_l, gM_sl, Bool.false_eq_true]; refine HK _ _ ?_; clear HK K))
     | (with_reducible refine gd_th ?_; first
      | refine thenS_n ?_
      | refine thenS_x ?_
      | refine thenS_r ?_)
     | (with_reducible refine gd_iB ?_; first
      | refine inB_r ?_
      | refine inB_x ?_)
     | (exfalso; omega)
    all_goals first | (exfalso; omega) | exact ⟨.inr rfl, endD (r := .v (.int .i64 3)) hl0 rfl (by simp) (by simp) rfl (by rw [low]; trivial) ⟨rfl, rfl⟩⟩
  cases hb2 : subsetS x.cond l.names <;> rw [hb2] at hsu er
  · have e0 : rulesB l.names l.rules = false := by rw [ho, er]; rfl
    rw [e0]
    repeat' first
     | (with_reducible refine gd_aw ?_; first
      | refine aw_seq' ?_
      | refine aw_region' ?_
      | refine aw_block ?_
      | refine aw_if1 rfl ?_
      | refine aw_if0 rfl ?_
      | refine aw_skip ?_
      | refine aw_exit ?_
      | refine aw_ret ?_)
     | (with_reducible refine gd_ao ?_; first
      | refine ao_nil ?_
      | (refine ao1 rfl rfl fun K HK => ?_; (first | refine aOp_pick rfl ?_ | skip); simp only [go_sem, ↓reduceIte, Nat.reduceEqDiff, Nat.reduceAdd, Nat.reduceLeDiff, Nat.reduceBEq, Nat.reduceMul, Int.reduceEq, Int.reduceLT, Int.reduceLE, latX_eq l, e1, e42, e43, e44, List.length_map, ruleX_eq, Int.toNat_natCast, wk, gM_0, gM_len, gM_app, gM_l, gM_sl, Bool.false_eq_true]; (first | refine splitB (fun hq => ?_) (fun hq => ?_) | (refine ⟨by omega, by omega, ?_⟩; refine row_at (by assumption) ?_) | skip) <;> (refine HK _ _ ?_; clear HK K))
      | refine ao0 rfl rfl ?_
      | (refine ao2 rfl rfl rfl ent_126 (hsx _) ?_; rintro _ _ ⟨rfl, rfl⟩)
      | (refine ao2 rfl rfl rfl ent_127 (hsu _) ?_; rintro _ _ ⟨rfl, rfl⟩)
      | (refine ao1' rfl fun K HK => ?_; simp only [go_sem, ↓reduceIte, Nat.reduceEqDiff, Nat.reduceAdd, Nat.reduceLeDiff, Nat.reduceBEq, Nat.reduceMul, Int.reduceEq, Int.reduceLT, Int.reduceLE, latX_eq l, e1, e42, e43, e44, List.length_map, ruleX_eq, Int.toNat_natCast, wk, gM_0, gM_len, gM_app, gM_l, gM_sl, Bool.false_eq_true]; refine HK _ _ ?_; clear HK K))
     | (with_reducible refine gd_th ?_; first
      | refine thenS_n ?_
      | refine thenS_x ?_
      | refine thenS_r ?_)
     | (with_reducible refine gd_iB ?_; first
      | refine inB_r ?_
      | refine inB_x ?_)
     | (exfalso; omega)
    all_goals first | (exfalso; omega) | exact ⟨.inr rfl, endD (r := .v (.int .i64 3)) hl0 rfl (by simp) (by simp) rfl (by rw [low]; trivial) ⟨rfl, rfl⟩⟩
  cases hb3 : hasS l.names x.concl <;> rw [hb3] at hha er
  · have e0 : rulesB l.names l.rules = false := by rw [ho, er]; rfl
    rw [e0]
    repeat' first
     | (with_reducible refine gd_aw ?_; first
      | refine aw_seq' ?_
      | refine aw_region' ?_
      | refine aw_block ?_
      | refine aw_if1 rfl ?_
      | refine aw_if0 rfl ?_
      | refine aw_skip ?_
      | refine aw_exit ?_
      | refine aw_ret ?_)
     | (with_reducible refine gd_ao ?_; first
      | refine ao_nil ?_
      | (refine ao1 rfl rfl fun K HK => ?_; (first | refine aOp_pick rfl ?_ | skip); simp only [go_sem, ↓reduceIte, Nat.reduceEqDiff, Nat.reduceAdd, Nat.reduceLeDiff, Nat.reduceBEq, Nat.reduceMul, Int.reduceEq, Int.reduceLT, Int.reduceLE, latX_eq l, e1, e42, e43, e44, List.length_map, ruleX_eq, Int.toNat_natCast, wk, gM_0, gM_len, gM_app, gM_l, gM_sl, Bool.false_eq_true]; (first | refine splitB (fun hq => ?_) (fun hq => ?_) | (refine ⟨by omega, by omega, ?_⟩; refine row_at (by assumption) ?_) | skip) <;> (refine HK _ _ ?_; clear HK K))
      | refine ao0 rfl rfl ?_
      | (refine ao2 rfl rfl rfl ent_126 (hsx _) ?_; rintro _ _ ⟨rfl, rfl⟩)
      | (refine ao2 rfl rfl rfl ent_127 (hsu _) ?_; rintro _ _ ⟨rfl, rfl⟩)
      | (refine ao2 rfl rfl rfl ent_128 (hha _) ?_; rintro _ _ ⟨rfl, rfl⟩)
      | (refine ao1' rfl fun K HK => ?_; simp only [go_sem, ↓reduceIte, Nat.reduceEqDiff, Nat.reduceAdd, Nat.reduceLeDiff, Nat.reduceBEq, Nat.reduceMul, Int.reduceEq, Int.reduceLT, Int.reduceLE, latX_eq l, e1, e42, e43, e44, List.length_map, ruleX_eq, Int.toNat_natCast, wk, gM_0, gM_len, gM_app, gM_l, gM_sl, Bool.false_eq_true]; refine HK _ _ ?_; clear HK K))
     | (with_reducible refine gd_th ?_; first
      | refine thenS_n ?_
      | refine thenS_x ?_
      | refine thenS_r ?_)
     | (with_reducible refine gd_iB ?_; first
      | refine inB_r ?_
      | refine inB_x ?_)
     | (exfalso; omega)
    all_goals first | (exfalso; omega) | exact ⟨.inr rfl, endD (r := .v (.int .i64 3)) hl0 rfl (by simp) (by simp) rfl (by rw [low]; trivial) ⟨rfl, rfl⟩⟩
  · rw [er, Bool.true_and, Bool.true_and, Bool.true_and] at ho
    repeat' first
     | (with_reducible refine gd_aw ?_; first
      | refine aw_seq' ?_
      | refine aw_region' ?_
      | refine aw_block ?_
      | refine aw_if1 rfl ?_
      | refine aw_if0 rfl ?_
      | refine aw_skip ?_
      | refine aw_exit ?_
      | refine aw_ret ?_)
     | (with_reducible refine gd_ao ?_; first
      | refine ao_nil ?_
      | (refine ao1 rfl rfl fun K HK => ?_; (first | refine aOp_pick rfl ?_ | skip); simp only [go_sem, ↓reduceIte, Nat.reduceEqDiff, Nat.reduceAdd, Nat.reduceLeDiff, Nat.reduceBEq, Nat.reduceMul, Int.reduceEq, Int.reduceLT, Int.reduceLE, latX_eq l, e1, e42, e43, e44, List.length_map, ruleX_eq, Int.toNat_natCast, wk, gM_0, gM_len, gM_app, gM_l, gM_sl, Bool.false_eq_true]; (first | refine splitB (fun hq => ?_) (fun hq => ?_) | (refine ⟨by omega, by omega, ?_⟩; refine row_at (by assumption) ?_) | skip) <;> (refine HK _ _ ?_; clear HK K))
      | refine ao0 rfl rfl ?_
      | (refine ao2 rfl rfl rfl ent_126 (hsx _) ?_; rintro _ _ ⟨rfl, rfl⟩)
      | (refine ao2 rfl rfl rfl ent_127 (hsu _) ?_; rintro _ _ ⟨rfl, rfl⟩)
      | (refine ao2 rfl rfl rfl ent_128 (hha _) ?_; rintro _ _ ⟨rfl, rfl⟩)
      | (refine ao1' rfl fun K HK => ?_; simp only [go_sem, ↓reduceIte, Nat.reduceEqDiff, Nat.reduceAdd, Nat.reduceLeDiff, Nat.reduceBEq, Nat.reduceMul, Int.reduceEq, Int.reduceLT, Int.reduceLE, latX_eq l, e1, e42, e43, e44, List.length_map, ruleX_eq, Int.toNat_natCast, wk, gM_0, gM_len, gM_app, gM_l, gM_sl, Bool.false_eq_true]; refine HK _ _ ?_; clear HK K))
     | (with_reducible refine gd_th ?_; first
      | refine thenS_n ?_
      | refine thenS_x ?_
      | refine thenS_r ?_)
     | (with_reducible refine gd_iB ?_; first
      | refine inB_n ?_
      | refine inB_r ?_
      | refine inB_x ?_)
     | (exfalso; omega)
    all_goals first | (exfalso; omega) | exact ⟨rfl, l.rules.length - (k + 1), by omega, k + 1, _, hlt, rfl, ho, by rw [latX_eq l], e1, e42, e43, rfl⟩
end
section
structure RS where
 data : List UInt8
 pos : Nat
 item : Nat
 err : Int
def RS.begun (s : RS) : RS := { s with item := s.pos }
def RS.bad (s : RS) : RS := { s with item := s.pos, err := 2 }
def RS.go (s : RS) (c : Nat) : RS := { s with item := s.pos, pos := s.pos + c }
def RS.num (s : RS) : Option (Nat × Nat) := numF 0 (s.data.drop s.pos)
def rdUint (s : RS) : Nat × RS := if s.err ≠ 0 then (0, s) else match s.num with
 | none => (0, s.bad)
 | some (n, c) => (n, s.go c)
def rdInt (s : RS) : Int × RS := (unzz (rdUint s).1, (rdUint s).2)
def rdBool (s : RS) : Bool × RS := if s.err ≠ 0 then (false, s) else match s.data[s.pos]? with
 | none => (false, s.bad)
 | some b => if 1 < b.toNat then (false, s.bad) else (decide (b.toNat = 1), s.go 1)
def rdBytes (s : RS) : List UInt8 × RS := if s.err ≠ 0 then ([], s) else match s.num with
 | none => ([], s.bad)
 | some (n, c) => if s.data.length - (s.pos + c) < n then ([], s.bad) else ((s.data.drop (s.pos + c)).take n, s.go (c + n))
def rdCount (s : RS) : Nat × RS := if s.err ≠ 0 then (0, s) else match s.num with
 | none => (0, s.bad)
 | some (n, c) => if s.data.length - (s.pos + c) < n then (0, s.bad) else (n, s.go c)
def RS.fail (s : RS) : RS := if s.err = 0 then { s with err := 2, pos := s.item } else s
def RS.ends (s : RS) : Int := if s.err = 0 ∧ s.pos < s.data.length then 2 else s.err
structure RS.Ok (s : RS) : Prop where
 pos : s.pos ≤ s.data.length
 item : s.item ≤ s.pos
 err : s.err = 0 ∨ s.err = 2
theorem RS.num_some {s : RS} {n c : Nat} (h : s.num = some (n, c)) (ho : s.pos ≤ s.data.length) : s.pos + c ≤ s.data.length ∧ 1 ≤ c ∧ c ≤ 10 ∧ n < 18446744073709551616 := by
 obtain ⟨h1, h2, h3, _, h5, _⟩ := numF_sound _ _ _ _ h
 rw [List.length_drop] at h1
 exact ⟨by omega, h2, by omega, h5⟩
theorem RS.Ok.bad {s : RS} (h : s.Ok) : s.bad.Ok := ⟨h.pos, Nat.le_refl _, .inr rfl⟩
theorem RS.Ok.go {s : RS} (h : s.Ok) {c : Nat} (hc : s.pos + c ≤ s.data.length) : (s.go c).Ok := ⟨hc, Nat.le_add_right _ _, h.err⟩
theorem RS.Ok.fail {s : RS} (h : s.Ok) : s.fail.Ok := by
 unfold RS.fail
 split
 · exact ⟨Nat.le_trans h.item h.pos, Nat.le_refl _, .inr rfl⟩
 · exact h
theorem rdUint_ok {s : RS} (h : s.Ok) : (rdUint s).2.Ok ∧ (rdUint s).2.data = s.data ∧ (rdUint s).1 < 18446744073709551616 := by
 unfold rdUint
 split
 · exact ⟨h, rfl, by show (0 : Nat) < _; omega⟩
 · split
   · exact ⟨h.bad, rfl, by show (0 : Nat) < _; omega⟩
   · rename_i n c hn
     obtain ⟨h1, _, _, h4⟩ := RS.num_some hn h.pos
     exact ⟨h.go h1, rfl, h4⟩
theorem rdInt_ok {s : RS} (h : s.Ok) : (rdInt s).2.Ok ∧ (rdInt s).2.data = s.data ∧ (-9223372036854775808 ≤ (rdInt s).1 ∧ (rdInt s).1 ≤ 9223372036854775807) :=
 ⟨(rdUint_ok h).1, (rdUint_ok h).2.1, unzz_bd _ (rdUint_ok h).2.2⟩
theorem rdBytes_ok {s : RS} (h : s.Ok) : (rdBytes s).2.Ok ∧ (rdBytes s).2.data = s.data ∧ (rdBytes s).1.length ≤ s.data.length := by
 unfold rdBytes
 split
 · exact ⟨h, rfl, Nat.zero_le _⟩
 · split
   · exact ⟨h.bad, rfl, Nat.zero_le _⟩
   · rename_i n c hn
     obtain ⟨h1, _, _, h4⟩ := RS.num_some hn h.pos
     split
     · exact ⟨h.bad, rfl, Nat.zero_le _⟩
     · exact ⟨h.go (by omega), rfl, by simp; omega⟩
theorem rdCount_ok {s : RS} (h : s.Ok) : (rdCount s).2.Ok ∧ (rdCount s).2.data = s.data ∧ (rdCount s).1 ≤ s.data.length := by
 unfold rdCount
 split
 · exact ⟨h, rfl, Nat.zero_le _⟩
 · split
   · exact ⟨h.bad, rfl, Nat.zero_le _⟩
   · rename_i n c hn
     obtain ⟨h1, _, _, h4⟩ := RS.num_some hn h.pos
     split
     · exact ⟨h.bad, rfl, Nat.zero_le _⟩
     · exact ⟨h.go h1, rfl, by omega⟩
/-! What was read is what was written. -/
structure Took (s t : RS) (bs : List UInt8) : Prop where
 data : t.data = s.data
 pos : t.pos = s.pos + bs.length
 err : s.err = 0 ∧ t.err = 0
 read : s.data.drop s.pos = bs ++ t.data.drop t.pos
theorem Took.trans {s t u : RS} {a b : List UInt8} (h : Took s t a) (k : Took t u b) : Took s u (a ++ b) :=
 ⟨k.data.trans h.data, by rw [k.pos, h.pos, List.length_append]; omega, ⟨h.err.1, k.err.2⟩, by rw [h.read, k.read, List.append_assoc]⟩
theorem Took.refl {s : RS} (h : s.err = 0) : Took s s [] := ⟨rfl, by simp, ⟨h, h⟩, by simp⟩
theorem took_go {s : RS} {c : Nat} {bs : List UInt8} (he : s.err = 0) (hc : s.pos + c ≤ s.data.length) (h : (s.data.drop s.pos).take c = bs) : Took s (s.go c) bs := by
 have hl : bs.length = c := by rw [← h, List.length_take, List.length_drop]; omega
 refine ⟨rfl, by rw [hl]; rfl, ⟨he, he⟩, ?_⟩
 rw [← h, show (s.go c).data.drop (s.go c).pos = (s.data.drop s.pos).drop c by rw [List.drop_drop]; rfl, List.take_append_drop]
/-! What was written is read. -/
theorem num_of {s : RS} {n : Nat} {r : List UInt8} (hn : n < 18446744073709551616) (h : s.data.drop s.pos = uintE n ++ r) : s.num = some (n, (uintE n).length) := by
 unfold RS.num
 rw [h]
 exact numF_uintE 64 n 0 r hn hn (by omega) (.inl rfl)
theorem rdUint_of {s : RS} {n : Nat} {r : List UInt8} (he : s.err = 0) (hn : n < 18446744073709551616) (h : s.data.drop s.pos = uintE n ++ r) : rdUint s = (n, s.go (uintE n).length) := by
 unfold rdUint
 rw [if_neg (by simp [he]), num_of hn h]
theorem rdInt_of {s : RS} {n : Int} {r : List UInt8} (he : s.err = 0) (hn : -9223372036854775808 ≤ n ∧ n ≤ 9223372036854775807) (h : s.data.drop s.pos = intE n ++ r) : rdInt s = (n, s.go (intE n).length) := by
 unfold rdInt
 rw [rdUint_of he (zz_lt n hn.1 hn.2) h]
 show (unzz (zz n), _) = _
 rw [unzz_zz]
 rfl
theorem rdCount_of {s : RS} {n : Nat} {r : List UInt8} (he : s.err = 0) (hp : s.pos ≤ s.data.length) (hn : n < 18446744073709551616) (h : s.data.drop s.pos = uintE n ++ r) (hr : n ≤ r.length) : rdCount s = (n, s.go (uintE n).length) := by
 have hl := congrArg List.length h
 rw [List.length_drop, List.length_append] at hl
 unfold rdCount
 rw [if_neg (by simp [he]), num_of hn h]
 exact if_neg (by omega)
theorem rdBytes_of {s : RS} {b r : List UInt8} (he : s.err = 0) (hp : s.pos ≤ s.data.length) (hn : b.length < 18446744073709551616) (h : s.data.drop s.pos = bytesE b ++ r) : rdBytes s = (b, s.go (bytesE b).length) := by
 have h' : s.data.drop s.pos = uintE b.length ++ (b ++ r) := by rw [h]; unfold bytesE; rw [List.append_assoc]
 have hl := congrArg List.length h'
 rw [List.length_drop, List.length_append, List.length_append] at hl
 unfold rdBytes
 rw [if_neg (by simp [he]), num_of hn h']
 show (if _ then _ else _) = _
 rw [if_neg (by omega)]
 have e : s.data.drop (s.pos + (uintE b.length).length) = b ++ r := by rw [← List.drop_drop, h', List.drop_left]
 rw [e, List.take_left]
 unfold bytesE
 rw [List.length_append]
theorem go_pos {s : RS} {a r : List UInt8} (hp : s.pos ≤ s.data.length) (h : s.data.drop s.pos = a ++ r) : (s.go a.length).pos ≤ (s.go a.length).data.length := by
 have hl := congrArg List.length h
 rw [List.length_drop, List.length_append] at hl
 show s.pos + a.length ≤ s.data.length
 omega
end
section
theorem take_set {h : List Ob} {i : Nat} {ob : Ob} : (h.set i ob).take h.length = h.set i ob := List.take_of_length_le (by simp)
theorem take_set_app {h l : List Ob} {i : Nat} {ob : Ob} : (h.set i ob ++ l).take h.length = h.set i ob := by rw [List.take_append_of_le_length (by simp)]; exact take_set
theorem endS {res : Array ResultVar} {h0 : List Ob} {K : List Ob → D → Prop} {s : S} {ds : List D} {r : D} {i : Nat} {ob : Ob} (hl : lowH h0.length h0) (ho : lowOb h0.length ob) (h1 : resD Tryz.prog s res.toList = some ds) (h2 : s.h.take h0.length = h0.set i ob) (h4 : h0.length ≤ s.h.length)
 (h3 : cvD (fun i => decide (h0.length ≤ i)) s.h (outD ds) = r) (h5 : low h0.length r) (hK : K (h0.set i ob) r) : EndD Tryz.prog res h0.length K s := ⟨ds, h0.length, h1, Nat.le_refl _, h4, by rw [h2]; exact lowH_set hl ho, by rw [h3]; exact h5, by rw [h2, h3]; exact hK⟩
def rdrOb (s : RS) : Ob := .cells [.sl 1 (byD s.data), .v (.int .i64 s.pos), .v (.int .i64 s.item), .v (.int .i64 s.err)]
theorem rdrOb_eq (s : RS) : rdrOb s = .cells [.sl 1 (byD s.data), .v (.int .i64 s.pos), .v (.int .i64 s.item), .v (.int .i64 s.err)] := rfl
theorem low_rdr (m : Nat) (s : RS) : lowOb m (rdrOb s) := ⟨low_by m _, by simp [lowL, low]⟩
def rawJ (p i acc : Nat) : List UInt8 → D
 | [] => .tup [.v (.int .u64 (0 : Int)), .v (.int .i64 (0 : Int)), .v (.bool false)]
 | b :: t => if 10 ≤ i then .tup [.v (.int .u64 (0 : Int)), .v (.int .i64 (0 : Int)), .v (.bool false)]
   else if i = 9 ∧ 1 < b.toNat then .tup [.v (.int .u64 (0 : Int)), .v (.int .i64 (0 : Int)), .v (.bool false)]
   else if b.toNat < 128 then .tup [.v (.int .u64 ((acc + b.toNat % 128 * 2 ^ (7 * i) : Nat) : Int)), .v (.int .i64 ((p + i + 1 : Nat) : Int)), .v (.bool (decide (b.toNat ≠ 0 ∨ i = 0)))]
   else rawJ p (i + 1) (acc + b.toNat % 128 * 2 ^ (7 * i)) t
def RS.rawN (s : RS) : D := rawJ s.pos 0 0 (s.data.drop s.pos)
theorem rawJ_spec (p : Nat) : ∀ (l : List UInt8) (i acc : Nat), (match numF i l with
 | none => ∃ a b : Int, rawJ p i acc l = .tup [.v (.int .u64 a), .v (.int .i64 b), .v (.bool false)]
 | some (m, c) => rawJ p i acc l = .tup [.v (.int .u64 ((acc + m * 2 ^ (7 * i) : Nat) : Int)), .v (.int .i64 ((p + i + c : Nat) : Int)), .v (.bool true)])
 | [], i, acc => by rw [numF_nil]; exact ⟨_, _, rfl⟩
 | b :: t, i, acc => by
  by_cases hi : 10 ≤ i
  · rw [numF_ge _ hi]; exact ⟨0, 0, by rw [rawJ, if_pos hi]⟩
  by_cases h9 : i = 9 ∧ 1 < b.toNat
  · rw [numF_big _ h9]; exact ⟨0, 0, by rw [rawJ, if_neg hi, if_pos h9]⟩
  by_cases hb : b.toNat < 128
  · rw [numF_last t (by omega) h9 hb, rawJ, if_neg hi, if_neg h9, if_pos hb]
    by_cases hz : b.toNat = 0 ∧ i ≠ 0
    · rw [if_pos hz, decide_eq_false (by omega)]; exact ⟨_, _, rfl⟩
    · rw [if_neg hz, decide_eq_true (by omega), Nat.mod_eq_of_lt hb]
  · rw [numF_more t (by omega) h9 hb, rawJ, if_neg hi, if_neg h9, if_neg hb]
    have ih := rawJ_spec p t (i + 1) (acc + b.toNat % 128 * 2 ^ (7 * i))
    rcases hr : numF (i + 1) t with _ | ⟨m, c⟩
    · rw [hr] at ih; exact ih
    · rw [hr] at ih
      simp only at ih ⊢
      rw [ih]
      have e1 : acc + b.toNat % 128 * 2 ^ (7 * i) + m * 2 ^ (7 * (i + 1)) = acc + (b.toNat % 128 + 128 * m) * 2 ^ (7 * i) := by
       rw [show 7 * (i + 1) = 7 + 7 * i by omega, Nat.pow_add, Nat.add_mul, Nat.add_assoc, show m * (2 ^ 7 * 2 ^ (7 * i)) = 128 * m * 2 ^ (7 * i) by rw [← Nat.mul_assoc, Nat.mul_comm m]]
      rw [e1, show p + (i + 1) + c = p + i + (c + 1) by omega]
theorem rawN_none {s : RS} (q : s.num = none) : ∃ a b : Int, s.rawN = .tup [.v (.int .u64 a), .v (.int .i64 b), .v (.bool false)] := by
 have h := rawJ_spec s.pos (s.data.drop s.pos) 0 0
 have q : numF 0 (s.data.drop s.pos) = none := q
 rw [q] at h; exact h
theorem rawN_some {s : RS} {n c : Nat} (q : s.num = some (n, c)) : s.rawN = .tup [.v (.int .u64 n), .v (.int .i64 ((s.pos : Int) + (c : Int))), .v (.bool true)] := by
 have h := rawJ_spec s.pos (s.data.drop s.pos) 0 0
 have q : numF 0 (s.data.drop s.pos) = some (n, c) := q
 rw [q] at h
 simpa [RS.rawN] using h
theorem and_byte : ∀ m : Fin 256, IntKind.u8.wrap ((BitVec.ofInt 8 (m.val : Int) &&& BitVec.ofInt 8 127).toNat : Int) = ((m.val % 128 : Nat) : Int) := by decide +kernel
theorem and_byte' (b : UInt8) : IntKind.u8.wrap ((BitVec.ofInt 8 (b.toNat : Int) &&& BitVec.ofInt 8 127).toNat : Int) = ((b.toNat % 128 : Nat) : Int) := and_byte ⟨b.toNat, b.toNat_lt⟩
theorem shl_step {acc b i : Nat} (ha : acc < 2 ^ (7 * i)) (hi : i < 10) (h9 : ¬ (i = 9 ∧ 1 < b)) (hb : b < 256) :
 b % 128 * 2 ^ (7 * i) < 18446744073709551616 ∧ acc < 18446744073709551616 ∧ acc + b % 128 * 2 ^ (7 * i) < 2 ^ (7 * (i + 1)) := by
 have e : 2 ^ (7 * (i + 1)) = 128 * 2 ^ (7 * i) := by rw [show 7 * (i + 1) = 7 + 7 * i by omega, Nat.pow_add]
 have h3 : b % 128 * 2 ^ (7 * i) ≤ 127 * 2 ^ (7 * i) := Nat.mul_le_mul_right _ (by omega)
 refine ⟨?_, ?_, by omega⟩
 · rcases Nat.lt_or_ge i 9 with h | h
   · have h1 : 2 ^ (7 * i) ≤ 2 ^ 56 := Nat.pow_le_pow_right (by omega) (by omega)
     omega
   · have : i = 9 := by omega
     subst this
     have h2 : b % 128 * 2 ^ (7 * 9) ≤ 1 * 2 ^ 63 := Nat.mul_le_mul (by omega) (Nat.le_refl _)
     omega
 · have h1 : 2 ^ (7 * i) ≤ 2 ^ 63 := Nat.pow_le_pow_right (by omega) (by omega)
   omega
theorem shl_val {b i : Nat} (h : b % 128 * 2 ^ (7 * i) < 18446744073709551616) (hi : i < 10) : IntKind.u64.wrap (((b % 128 : Nat) : Int) * 2 ^ min (7 * i) 64) = ((b % 128 * 2 ^ (7 * i) : Nat) : Int) := by
 have e : ((b % 128 : Nat) : Int) * 2 ^ min (7 * i) 64 = ((b % 128 * 2 ^ (7 * i) : Nat) : Int) := by
  rw [Nat.min_eq_left (by omega), Int.natCast_mul, Int.natCast_pow]; rfl
 rw [e, IntKind.wrap_u64]; omega
theorem or_val {acc b i : Nat} (ha : acc < 2 ^ (7 * i)) (h1 : acc < 18446744073709551616) (h2 : b % 128 * 2 ^ (7 * i) < 18446744073709551616) : IntKind.u64.wrap ((BitVec.ofInt 64 (acc : Int) ||| BitVec.ofInt 64 ((b % 128 * 2 ^ (7 * i) : Nat) : Int)).toNat : Int) = ((acc + b % 128 * 2 ^ (7 * i) : Nat) : Int) := by
 have h := u64_or_nat acc (b % 128 * 2 ^ (7 * i)) h1 h2
 refine h.trans ?_
 rw [Nat.or_comm, Nat.mul_comm, ← Nat.two_pow_add_eq_or_of_lt ha, Nat.add_comm]
theorem num_val {acc i : Nat} {x : UInt8} (ha : acc < 2 ^ (7 * i)) (hi : i < 10) (h9 : ¬ (i = 9 ∧ 1 < x.toNat)) : IntKind.u64.wrap ((BitVec.ofInt 64 (acc : Int) ||| BitVec.ofInt 64 (IntKind.u64.wrap (IntKind.u64.wrap (IntKind.u8.wrap ((BitVec.ofInt 8 (x.toNat : Int) &&& BitVec.ofInt 8 127).toNat : Int)) * 2 ^ min (7 * i) 64))).toNat : Int) = ((acc + x.toNat % 128 * 2 ^ (7 * i) : Nat) : Int) := by
 obtain ⟨s1, s2, _⟩ := shl_step ha hi h9 x.toNat_lt
 have w8 : IntKind.u64.wrap ((x.toNat % 128 : Nat) : Int) = ((x.toNat % 128 : Nat) : Int) := by rw [IntKind.wrap_u64]; omega
 rw [and_byte', w8, shl_val s1 hi, or_val ha s2 s1]
end
section
variable {P : Program} {G : Nat → D} {h : List Ob} {f : FuncId} {args : List D}
theorem Does.drop {K K' : List Ob → D → Prop} (hG : ∀ g, low 0 (G g)) (q : Does P G f h args K) (k : ∀ h' r, K h' r → ∃ m, h.length ≤ m ∧ m ≤ h'.length ∧ lowH m (h'.take m) ∧ low m (cvD (fun i => decide (m ≤ i)) h' r) ∧ K' (h'.take m) (cvD (fun i => decide (m ≤ i)) h' r)) : Does P G f h args K' := fun w hd p vs o ha => by
 refine (q w hd p vs o ha).mono ?_
 rintro e w' ⟨v, hd', h', r, p', rfl, hK, ok, hr, ev⟩
 obtain ⟨m, h2, h3, h4, h5, h6⟩ := k _ _ hK
 obtain ⟨p2, o2, ev2, cv⟩ := ok.give fun i => decide (m ≤ i)
 have htk : (killH (fun i => decide (m ≤ i)) h').take m = h'.take m := by
  apply List.ext_getElem?
  intro i
  rw [List.getElem?_take, List.getElem?_take]
  split
  · rename_i hi
    unfold killH
    rw [List.getElem?_mapIdx]
    cases h'[i]? with
    | none => rfl
    | some ob => simp [show ¬ m ≤ i by omega]
  · rfl
 have hlk : (killH (fun i => decide (m ≤ i)) h').length = h'.length := by simp [killH]
 have o3 := o2.take (m := m) (by rw [htk]; exact h4) fun g => low_mono (Nat.zero_le _) _ (hG g)
 have ev3 := (ev.trans ev2).take o h2 (by rw [hlk]; exact h3)
 have q3 := rd_take (m := m) (by rw [hlk, ok.len]) _ _ h5 (cv _ _ hr)
 rw [htk] at o3 ev3 q3
 exact ⟨v, _, _, _, p2, rfl, h6, o3, q3, ev3⟩
end
section
def w32 (z : Int) : Int := IntKind.u32.wrap z
def add32 (a b : Int) : Int := IntKind.u32.wrap (a + b)
def xor32 (a b : Int) : Int := IntKind.u32.wrap ((BitVec.ofInt 32 a ^^^ BitVec.ofInt 32 b).toNat : Int)
def and32 (a b : Int) : Int := IntKind.u32.wrap ((BitVec.ofInt 32 a &&& BitVec.ofInt 32 b).toNat : Int)
def or32 (a b : Int) : Int := IntKind.u32.wrap ((BitVec.ofInt 32 a ||| BitVec.ofInt 32 b).toNat : Int)
def not32 (a : Int) : Int := IntKind.u32.wrap ((BitVec.ofInt 32 4294967295 ^^^ BitVec.ofInt 32 a).toNat : Int)
def shr32 (a : Int) (n : Nat) : Int := a.fdiv (2 ^ n)
def shl32 (a : Int) (n : Nat) : Int := IntKind.u32.wrap (a * 2 ^ n)
def rotrZ (x : Int) (n : Nat) : Int := or32 (x.fdiv (2 ^ min n 32)) (IntKind.u32.wrap (x * 2 ^ min (32 - n) 32))
def zD (z : Int) : D := .v (.int .u32 z)
def be4 (a b c d : UInt8) : Int := or32 (or32 (or32 (shl32 (w32 a.toNat) 24) (shl32 (w32 b.toNat) 16)) (shl32 (w32 c.toNat) 8)) (w32 d.toNat)
def sgZ (x15 x2 x7 x16 : Int) : Int :=
 add32 (add32 (add32 (xor32 (xor32 (rotrZ x2 17) (rotrZ x2 19)) (shr32 x2 10)) x7) (xor32 (xor32 (rotrZ x15 7) (rotrZ x15 18)) (shr32 x15 3))) x16
structure W8 where
 a : Int
 b : Int
 c : Int
 d : Int
 e : Int
 f : Int
 g : Int
 h : Int
def W8.ls (x : W8) : List Int := [x.a, x.b, x.c, x.d, x.e, x.f, x.g, x.h]
def W8.add (x y : W8) : W8 := ⟨add32 x.a y.a, add32 x.b y.b, add32 x.c y.c, add32 x.d y.d, add32 x.e y.e, add32 x.f y.f, add32 x.g y.g, add32 x.h y.h⟩
def t1Z (u : W8) (k w : Int) : Int := add32 (add32 (add32 (add32 u.h (xor32 (xor32 (rotrZ u.e 6) (rotrZ u.e 11)) (rotrZ u.e 25))) (xor32 (and32 u.e u.f) (and32 (not32 u.e) u.g))) k) w
def s0Z (u : W8) : Int := xor32 (xor32 (rotrZ u.a 2) (rotrZ u.a 13)) (rotrZ u.a 22)
def majZ (u : W8) : Int := xor32 (xor32 (and32 u.a u.b) (and32 u.a u.c)) (and32 u.b u.c)
def rndZ (k w : Int) (u : W8) : W8 := ⟨add32 (t1Z u k w) (add32 (s0Z u) (majZ u)), u.a, u.b, u.c, add32 u.d (t1Z u k w), u.e, u.f, u.g⟩
def sch1 (b : List UInt8) : Nat → List Int → List Int
 | 0, W => W
 | n + 1, W => sch1 b n (W.set (15 - n) (be4 (b.getD (4 * (15 - n)) 0) (b.getD (4 * (15 - n) + 1) 0) (b.getD (4 * (15 - n) + 2) 0) (b.getD (4 * (15 - n) + 3) 0)))
def sch2 : Nat → List Int → List Int
 | 0, W => W
 | n + 1, W => sch2 n (W.set (63 - n) (sgZ (W.getD (63 - n - 15) 0) (W.getD (63 - n - 2) 0) (W.getD (63 - n - 7) 0) (W.getD (63 - n - 16) 0)))
def rndsZ (K W : List Int) : Nat → W8 → W8
 | 0, u => u
 | n + 1, u => rndsZ K W n (rndZ (K.getD (63 - n) 0) (W.getD (63 - n) 0) u)
def shaK : List Int := [0x428a2f98, 0x71374491, 0xb5c0fbcf, 0xe9b5dba5, 0x3956c25b, 0x59f111f1, 0x923f82a4, 0xab1c5ed5,
 0xd807aa98, 0x12835b01, 0x243185be, 0x550c7dc3, 0x72be5d74, 0x80deb1fe, 0x9bdc06a7, 0xc19bf174,
 0xe49b69c1, 0xefbe4786, 0x0fc19dc6, 0x240ca1cc, 0x2de92c6f, 0x4a7484aa, 0x5cb0a9dc, 0x76f988da,
 0x983e5152, 0xa831c66d, 0xb00327c8, 0xbf597fc7, 0xc6e00bf3, 0xd5a79147, 0x06ca6351, 0x14292967,
 0x27b70a85, 0x2e1b2138, 0x4d2c6dfc, 0x53380d13, 0x650a7354, 0x766a0abb, 0x81c2c92e, 0x92722c85,
 0xa2bfe8a1, 0xa81a664b, 0xc24b8b70, 0xc76c51a3, 0xd192e819, 0xd6990624, 0xf40e3585, 0x106aa070,
 0x19a4c116, 0x1e376c08, 0x2748774c, 0x34b0bcb5, 0x391c0cb3, 0x4ed8aa4a, 0x5b9cca4f, 0x682e6ff3,
 0x748f82ee, 0x78a5636f, 0x84c87814, 0x8cc70208, 0x90befffa, 0xa4506ceb, 0xbef9a3f7, 0xc67178f2]
def shaIV : W8 := ⟨0x6a09e667, 0xbb67ae85, 0x3c6ef372, 0xa54ff53a, 0x510e527f, 0x9b05688c, 0x1f83d9ab, 0x5be0cd19⟩
def schZ (b : List UInt8) : List Int := sch2 48 (sch1 b 16 (List.replicate 64 0))
def blkZ (v : W8) (b : List UInt8) : W8 := (rndsZ shaK (schZ b) 64 v).add v
def blksZ (v : W8) (l : List UInt8) : W8 := if l.length < 64 then v else blksZ (blkZ v (l.take 64)) (l.drop 64)
termination_by l.length
decreasing_by simp; omega
def zc (m : Nat) : Nat := (119 - m % 64) % 64
def be8 (n : Nat) : List UInt8 := (List.range 8).map fun j => UInt8.ofNat (n / 2 ^ (56 - 8 * j))
def padZ (b : List UInt8) (n : Nat) : List UInt8 := b ++ [128] ++ List.replicate (zc b.length) 0 ++ be8 (8 * n)
def byZ (z : Int) : UInt8 := UInt8.ofNat (IntKind.u8.wrap z).toNat
def outW (z : Int) : List UInt8 := [byZ (z.fdiv (2 ^ 24)), byZ (z.fdiv (2 ^ 16)), byZ (z.fdiv (2 ^ 8)), byZ z]
def outZ (v : W8) : List UInt8 := (v.ls.map outW).flatten
def sumZ (b : List UInt8) : List UInt8 := outZ (blksZ shaIV (padZ b b.length))
theorem sumZ_len (b : List UInt8) : (sumZ b).length = 32 := rfl
theorem wrap8_nn (z : Int) : IntKind.u8.wrap z = z % 256 := by simp [IntKind.wrap, IntKind.bits, IntKind.signed]
theorem byZ_eq (z : Int) : ((byZ z).toNat : Int) = IntKind.u8.wrap z := by
 unfold byZ; rw [wrap8_nn]; simp; omega
theorem blksZ_lt {v : W8} {l : List UInt8} (h : l.length < 64) : blksZ v l = v := by rw [blksZ, if_pos h]
theorem blksZ_ge {v : W8} {l : List UInt8} (h : 64 ≤ l.length) : blksZ v l = blksZ (blkZ v (l.take 64)) (l.drop 64) := by rw [blksZ, if_neg (by omega)]
theorem blksZ_app : ∀ (n : Nat) (v : W8) (x y : List UInt8), x.length = 64 * n → blksZ v (x ++ y) = blksZ (blksZ v x) y
 | 0, v, x, y, h => by
   obtain rfl : x = [] := List.eq_nil_of_length_eq_zero (by omega)
   rw [blksZ_lt (l := []) (by simp)]; rfl
 | n + 1, v, x, y, h => by
   rw [blksZ_ge (l := x ++ y) (by simp; omega), blksZ_ge (l := x) (by omega), List.take_append_of_le_length (by omega), List.drop_append_of_le_length (by omega)]
   exact blksZ_app n _ _ _ (by simp; omega)
def restZ (b : List UInt8) : List UInt8 := b.drop (64 * (b.length / 64))
theorem sumZ_cut (b : List UInt8) : sumZ b = outZ (blksZ (blksZ shaIV b) (padZ (restZ b) b.length)) := by
 unfold sumZ
 have e : padZ b b.length = b.take (64 * (b.length / 64)) ++ padZ (restZ b) b.length := by
  unfold padZ
  have hz : zc b.length = zc (restZ b).length := by unfold zc restZ; rw [List.length_drop]; congr 2; omega
  rw [hz, ← List.append_assoc, ← List.append_assoc, ← List.append_assoc]
  congr 3
  exact (List.take_append_drop _ _).symm
 have e2 : blksZ shaIV b = blksZ shaIV (b.take (64 * (b.length / 64))) := by
  conv => lhs; rw [← List.take_append_drop (64 * (b.length / 64)) b]
  rw [blksZ_app (b.length / 64) _ _ _ (by simp; omega)]
  exact blksZ_lt (by simp; omega)
 rw [e, blksZ_app (b.length / 64) _ _ _ (by simp; omega), e2]
/-! Keyed digests. -/
def keyZ (k : List UInt8) : List UInt8 := let k' := if 64 < k.length then sumZ k else k
 k' ++ List.replicate (64 - k'.length) 0
def xorB (x : UInt8) (k : List UInt8) : List UInt8 := k.map (· ^^^ x)
def tagZ (k m : List UInt8) : List UInt8 := sumZ (xorB 0x5c (keyZ k) ++ sumZ (xorB 0x36 (keyZ k) ++ m))
theorem tagZ_len (k m : List UInt8) : (tagZ k m).length = 32 := rfl
theorem keyZ_len (k : List UInt8) : (keyZ k).length = 64 := by
 unfold keyZ
 split
 · rfl
 · simp; omega
attribute [irreducible] schZ rndsZ blkZ sumZ tagZ
end
section
variable {P : Program} {G : Nat → D} {n : Nat} {e : Nat → D} {h : List Ob} {ops : Array Oper} {rest : List Oper} {Q : S → Prop}
theorem tri_soundE {B : Base} {a : Act} {w : World} {o : Oper} {K : Act → World → Prop} {KD : List Ob → D → Prop} {R : Exit → Act → World → Prop} (q : OpTri P G o ((opds o.op).map (ev G e)) h KD) (r : Sit G B ⟨n, e, h⟩ a w) (k : ∀ h' d, KD h' d → ∀ a' w', Sit G B ⟨n, putE n e o.dst d, h'⟩ a' w' → K a' w') : o.wp P a w K R := by
 obtain ⟨hd, p, r⟩ := r
 refine Oper.wp_mono ?_ (q a w hd p R r.defers r.ok (rdL_map r _))
 rintro a' w' ⟨v, rfl, hd', h'', d', p', hk, o', q', ev'⟩
 have := r.put o' ev' q' o.dst
 rw [put_putE] at this
 exact k _ _ hk _ _ ⟨hd', p', this⟩
theorem ao_ex {o : Oper} {KD : List Ob → D → Prop} (hw : wantedD ops o.guard e = some true) (q : OpTri P G o ((opds o.op).map (ev G e)) h KD) (k : ∀ h' d, KD h' d → ao P G ops rest Q ⟨n, putE n e o.dst d, h'⟩) : ao P G ops (o :: rest) Q ⟨n, e, h⟩ := by
 rintro B a w r R hR
 obtain ⟨hd, p, r'⟩ := id r
 unfold wpList
 rw [if_pos (wantedD_sound (o := o) r' hw)]
 exact .inl (tri_soundE q r fun h' d hk a' w' r2 => k h' d hk B a' w' r2 R hR)
end
section
section
variable {P : Program} {G : Nat → D} {n m0 : Nat} {e : Nat → D} {h : List Ob} {ops : Array Oper} {rest : List Oper} {Q : (Nat → D) → List Ob → Prop} {done : List Eff} {t : Nat} {ty : TypeId} {pos : String} {aft : Array Edge} {gd : Option (Nat × Bool)}
end
end
section
theorem putL_set {W : List Int} {k : Nat} {z : Int} (h : k < W.length) : putL (W.map zD) k [zD z] = (W.set k z).map zD := by
 apply List.ext_getElem?
 intro i
 rw [putL_get (by simp; omega), List.getElem?_map, List.getElem?_map, List.getElem?_set]
 by_cases hi : i = k
 · subst hi; simp [h]
 · rw [if_neg (by simp; omega), if_neg (fun e => hi e.symm)]
theorem aOp_iarr {P : Program} {G : Nat → D} {e : Nat → D} {h : List Ob} {K : List Ob → D → Prop} {u : TypeId} {x y : Operand} {i o k l el : Nat} {κ : IntKind} (hx : ev G e x = .ptr i o) (hy : ev G e y = .v (.int κ (k : Int))) (ha : arrT P u = some (l, el)) (hz : szT P el = some 1) (hk : k < l) (q : K h (.ptr i (o + k))) : aOp P G e h K (.indexAddr u x y) := by
 rw [aOp_iaddr, hx, hy]
 exact ⟨l, el, 1, ha, hz, by omega, by omega, by simpa using q⟩
theorem aOp_larr {P : Program} {G : Nat → D} {e : Nat → D} {h : List Ob} {K : List Ob → D → Prop} {u : TypeId} {x : Operand} {i o : Nat} {ds : List D} {d : D} (hx : ev G e x = .ptr i o) (hi : h[i]? = some (.cells ds)) (hg : getD P u ds o = some d) (q : K h d) : aOp P G e h K (.load u x) := by
 rw [aOp_load, hx]
 simp only [loadD, hi, hg]
 rw [on_some]; exact q
theorem getD_zs {P : Program} {u k : Nat} {W : List Int} {x : Int} (ha : aggT P u = some false) (hx : W[k]? = some x) : getD P u (W.map zD) (0 + k) = some (.v (.int .u32 x)) := by
 rw [getD_one ha, Nat.zero_add, List.getElem?_map, hx]; rfl
theorem putL_set0 {W : List Int} {k : Nat} {z : Int} (h : k < W.length) : putL (W.map zD) (0 + k) [.v (.int .u32 z)] = (W.set k z).map zD := by
 rw [Nat.zero_add]; exact putL_set h
theorem aOp_ilit {P : Program} {G : Nat → D} {e : Nat → D} {h : List Ob} {K : List Ob → D → Prop} {u : TypeId} {x y : Operand} {i o l el : Nat} {κ : IntKind} {z : Int} (hx : ev G e x = .ptr i o) (hy : ev G e y = .v (.int κ z)) (ha : arrT P u = some (l, el)) (hz : szT P el = some 1) (h0 : 0 ≤ z) (hk : z < (l : Int)) (q : K h (.ptr i (o + z.toNat))) : aOp P G e h K (.indexAddr u x y) := by
 rw [aOp_iaddr, hx, hy]
 exact ⟨l, el, 1, ha, hz, h0, hk, by simpa using q⟩
theorem aOp_irp {P : Program} {G : Nat → D} {e : Nat → D} {h : List Ob} {K : List Ob → D → Prop} {u : TypeId} {x y : Operand} {ds : List D} {k l el : Nat} {κ : IntKind} (hx : ev G e x = .rp ds) (hy : ev G e y = .v (.int κ (k : Int))) (ha : arrT P u = some (l, el)) (hz : szT P el = some 1) (hk : k < l) (q : K h (.rp (ds.drop k))) : aOp P G e h K (.indexAddr u x y) := by
 rw [aOp_iaddr, hx, hy]
 exact ⟨l, el, 1, ha, hz, by omega, by omega, by simpa using q⟩
theorem aOp_lrp {P : Program} {G : Nat → D} {e : Nat → D} {h : List Ob} {K : List Ob → D → Prop} {u : TypeId} {x : Operand} {ds : List D} {d : D} (hx : ev G e x = .rp ds) (hg : getD P u ds 0 = some d) (q : K h d) : aOp P G e h K (.load u x) := by
 rw [aOp_load, hx, loadD_rp, hg, on_some]; exact q
theorem getD_zd {P : Program} {u k : Nat} {W : List Int} {x : Int} (ha : aggT P u = some false) (hx : W[k]? = some x) : getD P u ((W.map zD).drop k) 0 = some (.v (.int .u32 x)) := by
 rw [getD_one ha, List.getElem?_drop, Nat.add_zero, List.getElem?_map, hx]; rfl
theorem getD_ws {P : Program} {u : TypeId} {v : W8} (ha : aggT P u = some true) (hs : szT P u = some 8) : getD P u (v.ls.map zD) 0 = some (.agg (v.ls.map zD)) := by
 rw [getD_agg ha hs (Nat.le_refl _)]; rfl
theorem aOp_stw {P : Program} {G : Nat → D} {e : Nat → D} {h : List Ob} {K : List Ob → D → Prop} {u : TypeId} {x y : Operand} {i : Nat} {ds es : List D} (hx : ev G e x = .ptr i 0) (hi : h[i]? = some (.cells ds)) (hy : ev G e y = .agg es) (hc : (es.all D.one && szT P u == some es.length) = true) (hl : es.length = ds.length) (q : K (h.set i (.cells es)) (.v undef)) : aOp P G e h K (.store u x y) := by
 rw [aOp_store, hx, hy]
 have e1 : storeD P h u (.ptr i 0) (.agg es) = some (h.set i (.cells es)) := by
  simp only [storeD, D.cells, hi, hc, if_true]
  rw [if_pos (by omega)]
  congr 3
  simp [putL, hl]
 rw [e1]; exact q
theorem aOp_lz {P : Program} {G : Nat → D} {e : Nat → D} {h : List Ob} {K : List Ob → D → Prop} {u : TypeId} {x : Operand} {i o : Nat} {ds : List D} {z : Int} (hx : ev G e x = .ptr i o) (hi : h[i]? = some (.cells ds)) (hg : getD P u ds o = some (zD z)) (q : K h (.v (.int .u32 z))) : aOp P G e h K (.load u x) := aOp_larr hx hi hg q
theorem aOp_unx {P : Program} {G : Nat → D} {e : Nat → D} {h : List Ob} {K : List Ob → D → Prop} {u : TypeId} {x : Operand} {z : Int} (hx : ev G e x = .v (.int .u32 z)) (q : K h (.v (.int .u32 (not32 z)))) : aOp P G e h K (.unOp .xor u x) := by
 have e1 : aOp P G e h K (.unOp .xor u x) = on (unD P .xor (ev G e x)) (K h) := rfl
 rw [e1, hx]
 exact q
theorem cv1_zs (S : Nat → Bool) (h : List Ob) : ∀ l : List Int, (l.map zD).map (cv1 S h) = l.map zD
 | [] => rfl
 | a :: l => by rw [List.map_cons, List.map_cons, cv1_zs S h l]; rfl
theorem cvD_zs (S : Nat → Bool) (h : List Ob) (l : List Int) : cvD S h (.agg (l.map zD)) = .agg (l.map zD) := by
 simp only [cvD, cv1_zs]
theorem resD_cell1 {P : Program} {s : S} {c t i o : Nat} {ds : List D} {d : D} (hx : s.env c = .ptr i o) (hi : s.h[i]? = some (.cells ds)) (hg : getD P t ds o = some d) : resD P s [.cell c t] = some [d] := by
 simp [resD, hx, loadD, hi, hg]
theorem all_zs : ∀ l : List Int, (l.map zD).all D.one = true
 | [] => rfl
 | a :: l => by rw [List.map_cons, List.all_cons, all_zs l]; rfl
theorem aOp_stv {P : Program} {G : Nat → D} {e : Nat → D} {h : List Ob} {K : List Ob → D → Prop} {u : TypeId} {x y : Operand} {i : Nat} {ds : List D} {v : W8} (hx : ev G e x = .ptr i 0) (hi : h[i]? = some (.cells ds)) (hy : ev G e y = .agg (v.ls.map zD)) (hs : szT P u = some 8) (hl : ds.length = 8) (q : K (h.set i (.cells (v.ls.map zD))) (.v undef)) : aOp P G e h K (.store u x y) :=
 aOp_stw hx hi hy (by rw [all_zs, hs]; rfl) (by rw [hl]; rfl) q
def addJ (V : List Int) : Nat → List Int → List Int
 | 0, U => U
 | n + 1, U => addJ V n (U.set (7 - n) (add32 (U.getD (7 - n) 0) (V.getD (7 - n) 0)))
theorem addJ_eq (u v : W8) : addJ v.ls 8 u.ls = (u.add v).ls := rfl
theorem low_zs (m : Nat) : ∀ l : List Int, lowL m (l.map zD)
 | [] => by rw [List.map_nil, lowL]; trivial
 | a :: l => by rw [List.map_cons, lowL]; exact ⟨by rw [zD, low]; trivial, low_zs m l⟩
theorem low_ws (m : Nat) (v : W8) : low m (.agg (v.ls.map zD)) := by rw [low]; exact low_zs m _
end
section
section
variable {P : Program} {G : Nat → D} {n : Nat} {e : Nat → D} {h : List Ob} {ops : Array Oper} {rest : List Oper} {Q : S → Prop} {t : Nat} {ty : TypeId} {pos : String} {aft : Array Edge} {gd : Option (Nat × Bool)}
theorem ao_make {u el k by' : Nat} {x y : Operand} {m : Nat} {zs : List D} (hw : wantedD ops gd e = some true) (ht : decide (t < n) = true) (hx : ev G e x = .v (.int .i64 m)) (hy : ev G e y = .v (.int .i64 m)) (ha : apT P u = some (el, k, by')) (hz : zeroD P el = some zs) (hk : zs.length = k) (hb : (by' : Int) * m ≤ 281474976710656) (hm : m ≤ 1000000)
 (q : ao P G ops rest Q ⟨n, upd e t (.buf h.length m), h ++ [.buf el k (List.replicate m zs)]⟩) : ao P G ops (⟨some t, .makeSlice u x y, ty, pos, aft, gd⟩ :: rest) Q ⟨n, e, h⟩ := by
 have hN : nF P G e h (.makeSlice u x y) = some (h ++ [.buf el k (List.replicate m zs)], .buf h.length m) := by
  show makF P h u (ev G e x) (ev G e y) = _
  rw [hx, hy]
  have c1 : decide ((0 : Int) ≤ (m : Int)) = true := decide_eq_true (by omega)
  have c2 : decide ((m : Int) ≤ (m : Int)) = true := decide_eq_true (by omega)
  have c3 : decide ((by' : Int) * (m : Int) ≤ 281474976710656) = true := decide_eq_true hb
  have c4 : decide ((m : Int) ≤ 281474976710656) = true := decide_eq_true (by omega)
  have c5 : decide (zs.length = k) = true := decide_eq_true hk
  simp only [makF, ha, hz, c1, c2, c3, c4, c5, Bool.and_self, cond_true, Int.toNat_natCast]
 refine ao_tri hw (nF_sound hN) ?_
 unfold putE
 simp only [if_pos (of_decide_eq_true ht)]
 exact q
end
end
section
section
variable {P : Program} {G : Nat → D} {e : Nat → D} {h : List Ob}
theorem sl_news {k : Nat} {W : World} {hd : List Value} {ys : List (List D)} {u : Value} (q : rd hd h W (.sl k ys) u) : ∃ ad cap news, u = .slice ad ys.length cap ∧ (ad = none → cap = 0 ∧ ys = []) ∧ rdL hd h W ys.flatten news ∧ news.length = ys.length * k ∧ ys.length ≤ cap ∧ ∀ a, ad = some a → ys ≠ [] → a.spot = none ∧ ∀ (j : Nat) v, news[j]? = some v → W.cell? ⟨a.block, a.off + j, none⟩ = some v := by
 rw [rd] at q
 obtain ⟨ad, cap, rfl, ⟨h1, h1'⟩, h2, h3⟩ := q
 obtain ⟨news, n1, n2, n3⟩ := rows_news ad ys 0 h3
 refine ⟨ad, cap, news, rfl, fun h => ⟨h1 h, List.eq_nil_of_length_eq_zero (by have := h1 h; omega)⟩, n1, n2, h1', fun a ha hne => ?_⟩
 subst ha
 cases ys with
 | nil => exact absurd rfl hne
 | cons row t =>
  rw [rdRows] at h3
  obtain ⟨⟨b, q0, e, _⟩, _⟩ := h3
  cases e
  exact ⟨rfl, fun j v hj => by have := n3 b q0 rfl j v hj; simpa using this⟩
theorem addr_at {a : Addr} (h : a.spot = none) (n : Nat) : a.add n = ⟨a.block, a.off + n, none⟩ := by
 unfold Addr.add
 split
 · rename_i h0; subst h0; cases a; simp_all
 · rfl
theorem tri_cpArr {dst : Option Nat} {t u ty : TypeId} {x y : Operand} {pos : String} {aft : Array Edge} {gd : Option (Nat × Bool)} {i o n c : Nat} {ds : List D} {ys : List (List D)}
 (hx : ev G e x = .arr i o n c 1) (hy : ev G e y = .sl 1 ys) (he : (elT P t).bind (szT P) = some 1) (hi : h[i]? = some (.cells ds)) (hn : ys.length ≤ n) (hf : o + n ≤ ds.length) (ho : rowsOk 1 ys) :
 OpTri P G ⟨dst, .call ⟨.builtin .copy, #[x, y], #[t, u]⟩, ty, pos, aft, gd⟩ ((opds (.call ⟨.builtin .copy, #[x, y], #[t, u]⟩)).map (ev G e)) h (fun h' r => h' = h.set i (.cells (putL ds o ys.flatten)) ∧ r = .v (.int .i64 ys.length)) :=
 tri_intro fun a w hd p ok ha => by
 have hox : opds (.call ⟨.builtin .copy, #[x, y], #[t, u]⟩) = [x, y] := by simp [opds, Op.operands, Call.operands]
 have q1 := ha x (by rw [hox]; simp)
 have q2 := ha y (by rw [hox]; simp)
 rw [hx, rd] at q1
 obtain ⟨B, hB, e1⟩ := q1
 rw [hy] at q2
 obtain ⟨ad, cap, news, e2, g1, g2, g3, g4, g5⟩ := sl_news q2
 obtain ⟨B', cs, tt, hB', o2, o3, o4⟩ := ok.ob i _ _ hi hB
 cases hB'
 obtain ⟨el, h1, h2⟩ := el_bind he
 have hu := elT_spec h1
 have hs : (P.info? el).map (·.size) = some 1 := by
  unfold szT at h2; exact h2
 have hl3 : ds.length = cs.size := by simpa using rdL_len o3
 have hnl : news.length = ys.length := by omega
 have ones := rowsOk_ones ho
 have hones := rdL_ones g2 ones
 have hfl : ys.flatten.length = ys.length := by rw [rdL_len g2, hnl]
 have res := ok.repl (w' := w.setRow B (putL cs.toList o news).toArray) (ob' := .cells (putL ds o ys.flatten)) (u' := .pointer (some ⟨B, 0, none⟩)) hi hB rfl setRow_same.1 setRow_same.2.1 setRow_same.2.2.1 (Nat.le_of_eq setRow_same.2.2.2.1.symm) (fun b _ hb => setRow_same.2.2.2.2 b fun e => hb (by rw [e]; rfl)) (fun b hb => .inl hb) (fun _ _ => rfl) (fun _ _ _ e => by cases e) fun c sb => by
  exact ⟨B, _, tt, rfl, setRow_at o2, rdL_carry c sb _ _ (rdL_putL o3 g2 o), by simp [o4]⟩
 rw [show hd.set i (Value.pointer (some ⟨B, 0, none⟩)) = hd.set i (Value.pointer (some ⟨B, 0, none⟩)) from rfl] at res
 refine ⟨goInt ys.length, _, .inl (?_ : (execOp a.eval _).run P w = .ok (.value (goInt ys.length)) (w.setRow B (putL cs.toList o news).toArray)), _, _, _, _, ⟨rfl, rfl⟩, res.1, by rw [rd]; rfl, res.2⟩
 have hrun : (Builtin.copy_ #[t, u] ty #[.slice (some ⟨B, o, none⟩) n c, .slice ad ys.length cap]).run P w = .ok (goInt ys.length) (w.setRow B (putL cs.toList o news).toArray) := by
  cases ad with
  | none =>
   obtain ⟨rfl, rfl⟩ := g1 rfl
   obtain rfl : news = [] := List.eq_nil_of_length_eq_zero (by simpa using g3)
   have e0 : (putL cs.toList o ([] : List Value)).toArray = cs := by simp [putL]
   rw [e0, setRow_self w B cs tt (0, 0) o2]
   exact run_copy_nil P w t u ty el _ n c hu (by rw [hs]; rfl)
  | some a =>
   cases hys : ys with
   | nil =>
    subst hys
    obtain rfl : news = [] := List.eq_nil_of_length_eq_zero (by simpa using g3)
    have := run_copy_row (P := P) w t u ty el B o n c a 0 cap cs tt [] hu hs o2 (by simp) (by simp) (by simp; omega) (by simp)
    simpa [putL] using this
   | cons row tl =>
    rw [← hys]
    obtain ⟨k1, k2⟩ := g5 a rfl (by rw [hys]; simp)
    have := run_copy_row (P := P) w t u ty el B o n c a ys.length cap cs tt news hu hs o2 (by rw [hnl]; exact (Nat.min_eq_left hn).symm) (fun j v hj => by
     rw [addr_at k1]
     have := k2 j v hj
     rw [only_cell] at this
     split at this
     · exact this
     · cases this) (by omega) hones
    rw [hnl] at this
    unfold putL
    rw [hnl]
    exact this
 simp [execOp, resolve, invoke, builtin, e1, e2, hrun]
theorem tri_apArr {dst : Option Nat} {t ty E by' : TypeId} {x y : Operand} {pos : String} {aft : Array Edge} {gd : Option (Nat × Bool)} {i o n : Nat} {ds : List D} {ys : List (List D)}
 (hx : ev G e x = .arr i o n n 1) (hy : ev G e y = .sl 1 ys) (ha : apT P t = some (E, 1, by')) (hi : h[i]? = some (.cells ds)) (h0 : ys ≠ []) (hf : o + n ≤ ds.length) (ho : rowsOk 1 ys) (hb : (n + ys.length) * (by' + 1) ≤ 140737488355328) :
 OpTri P G ⟨dst, .call ⟨.builtin .append, #[x, y], #[t, t]⟩, ty, pos, aft, gd⟩ ((opds (.call ⟨.builtin .append, #[x, y], #[t, t]⟩)).map (ev G e)) h (fun h' r => h' = h ++ [.buf E 1 (((ds.drop o).take n).map (fun d => [d]) ++ ys)] ∧ r = .buf h.length (n + ys.length)) :=
 tri_intro fun a w hd p ok hh => by
 have hox : opds (.call ⟨.builtin .append, #[x, y], #[t, t]⟩) = [x, y] := by simp [opds, Op.operands, Call.operands]
 have q1 := hh x (by rw [hox]; simp)
 have q2 := hh y (by rw [hox]; simp)
 rw [hx, rd] at q1
 obtain ⟨B, hB, e1⟩ := q1
 rw [hy] at q2
 obtain ⟨ad, cap, news, e2, g1, g2, g3, g4, g5⟩ := sl_news q2
 obtain ⟨B', cs, tt, hB', o2, o3, o4⟩ := ok.ob i _ _ hi hB
 cases hB'
 obtain ⟨hu, inf, z, hinf, hz, hsz, hby, hzs, hpos⟩ := apT_spec ha
 have hnl : news.length = ys.length := by omega
 have hl3 : ds.length = cs.size := by simpa using rdL_len o3
 cases ad with
 | none => exact absurd (g1 rfl).2 h0
 | some ad =>
 obtain ⟨k1, k2⟩ := g5 ad rfl h0
 have hol : ((cs.toList.drop o).take n).length = n := by simp; omega
 have hy0 : 0 < ys.length := List.length_pos_iff.2 h0
 have hbs : n + ys.length ≤ 140737488355328 := Nat.le_trans (Nat.le_mul_of_pos_right _ (Nat.succ_pos _)) hb
 have hrun := run_append_grow (P := P) w t ty E inf z hu hinf hz ⟨B, o, none⟩ n n ((cs.toList.drop o).take n) (by rw [hol, hsz]; omega) (fun j v hj => by
   rw [addr_at rfl]
   rw [List.getElem?_take] at hj
   split at hj
   · rw [List.getElem?_drop] at hj
     simp [World.cell?, o2]
     simpa using hj
   · cases hj) ad ys.length cap news (by rw [hnl, hsz]; omega) (fun j v hj => by
   rw [addr_at k1]
   have := k2 j v hj
   rw [only_cell] at this
   split at this
   · exact this
   · cases this) (by omega) (by omega) (growslice_fits (by omega) (by rw [hby]; exact Nat.le_trans (Nat.mul_le_mul_left _ (Nat.le_succ _)) hb))
 have hrd : rdL hd h (only p w) (((ds.drop o).take n).map (fun d => [d]) ++ ys).flatten ((cs.toList.drop o).take n ++ news) := by
  rw [List.flatten_append, show (((ds.drop o).take n).map (fun d => [d])).flatten = (ds.drop o).take n by
   generalize (ds.drop o).take n = l
   induction l with
   | nil => rfl
   | cons a t ih => simp [ih]]
  exact rdL_append (rdL_take (rdL_drop o3 o) n) g2
 have hge := grownCap_ge w (n + ys.length) n E
 have hcm : grownCap w (n + ys.length) n E ≤ maxLen := grownCap_le_maxLen w (n + ys.length) n E (by simp only [maxLen]; omega)
 have res := ok.grow (w' := w.drew.alloc (.cells (((cs.toList.drop o).take n).toArray ++ news.toArray ++ Builtin.zeroCells z.cells (grownCap w (n + ys.length) n E - (n + ys.length))) E)) (ob := .buf E 1 (((ds.drop o).take n).map (fun d => [d]) ++ ys)) (u := .slice (some ⟨w.heap.size, 0, none⟩) (n + ys.length) (grownCap w (n + ys.length) n E)) (h1 := rfl) (h2 := rfl) (h3 := rfl) (h0 := run_drawn_ok hrun) (by simp) (fun b hb => heap_alloc_at w.drew _ hb) (fun b hb => by cases hb; rfl)
  (fun c sb => ⟨(cs.toList.drop o).take n ++ news, ⟨by simp only [List.length_append, List.length_map, hol, hnl]; simp; omega, .inr ⟨w.heap.size, _, _, by simp; omega, Nat.zero_le _, heap_alloc_new w.drew _, by simp; omega, hcm, by
    simp only [Array.size_append, List.size_toArray, size_zeroCells, hzs, hol, hnl]; omega, by
    simp only [Array.toList_append, List.append_assoc]
    rw [← List.append_assoc, List.take_append_of_le_length (by simp; omega), List.take_of_length_le (by simp; omega)]⟩⟩, rdL_carry c sb _ _ hrd, fun row hr => by
    rcases List.mem_append.1 hr with hr | hr
    · obtain ⟨d, _, rfl⟩ := List.mem_map.1 hr; rfl
    · exact (ho row hr).1, fun g hg => by cases hg; simp⟩)
 refine ⟨_, _, .inl (by simp [execOp, resolve, invoke, builtin, e1, e2, hrun]; rfl), _, _, _, _, ⟨rfl, rfl⟩, res.1, ?_, res.2⟩
 rw [rd]
 refine ⟨⟨_, _, rfl⟩, .of (ob := .buf E 1 (((ds.drop o).take n).map (fun d => [d]) ++ ys)) (by simp) rfl, fun e' k' xs' hx' => ?_⟩
 simp at hx'
 obtain ⟨rfl, rfl, rfl⟩ := hx'
 exact ⟨by simp; omega, fun _ => by rw [← ok.len]; simp⟩
theorem tri_cpBuf {dst : Option Nat} {t u ty E : TypeId} {x y : Operand} {pos : String} {aft : Array Edge} {gd : Option (Nat × Bool)} {i n : Nat} {xs ys : List (List D)}
 (hx : ev G e x = .buf i n) (hy : ev G e y = .sl 1 ys) (he : (elT P t).bind (szT P) = some 1) (hi : h[i]? = some (.buf E 1 xs)) (hxs : xs.length = n) (hn : ys.length = n) (ho : rowsOk 1 ys) :
 OpTri P G ⟨dst, .call ⟨.builtin .copy, #[x, y], #[t, u]⟩, ty, pos, aft, gd⟩ ((opds (.call ⟨.builtin .copy, #[x, y], #[t, u]⟩)).map (ev G e)) h (fun h' r => h' = h.set i (.buf E 1 ys) ∧ r = .v (.int .i64 n)) :=
 tri_intro fun a w hd p ok ha => by
 have hox : opds (.call ⟨.builtin .copy, #[x, y], #[t, u]⟩) = [x, y] := by simp [opds, Op.operands, Call.operands]
 have q1 := ha x (by rw [hox]; simp)
 have q2 := ha y (by rw [hox]; simp)
 rw [hx, rd] at q1
 obtain ⟨_, _, q1⟩ := q1
 have hv := (q1 E 1 xs hi).2 hxs
 rw [hy] at q2
 obtain ⟨ad, cap, news, e2, g1, g2, g3, g4, g5⟩ := sl_news q2
 obtain ⟨el, h1, h2⟩ := el_bind he
 have hu := elT_spec h1
 have hs : (P.info? el).map (·.size) = some 1 := by unfold szT at h2; exact h2
 obtain ⟨cs, o1, o2, o3, o4⟩ := ok.ob i _ _ hi hv
 rw [hxs] at o1
 have hnl : news.length = n := by omega
 have hones := rdL_ones g2 (rowsOk_ones ho)
 obtain ⟨inf, hinf, hisz⟩ : ∃ inf, P.info? el = some inf ∧ inf.size = 1 := by
  cases hq : P.info? el with
  | none => rw [hq] at hs; cases hs
  | some inf => rw [hq] at hs; exact ⟨inf, rfl, by simpa using hs⟩
 by_cases hn0 : n = 0
 · subst hn0
   obtain rfl : ys = [] := List.eq_nil_of_length_eq_zero hn
   obtain rfl : xs = [] := List.eq_nil_of_length_eq_zero hxs
   obtain rfl : news = [] := List.eq_nil_of_length_eq_zero hnl
   have hset : h.set i (.buf E 1 []) = h := by
    apply List.ext_getElem?
    intro j
    by_cases hij : i = j
    · subst hij; rw [List.getElem?_set_self (List.getElem?_eq_some_iff.1 hi).1, hi]
    · rw [List.getElem?_set_ne hij]
   refine ⟨goInt 0, w, .inl ?_, .same ok ⟨hset.symm, rfl⟩ (d := .v (.int .i64 0)) (by rw [rd]; rfl)⟩
   have hrun : (Builtin.copy_ #[t, u] ty #[a.eval x, .slice ad 0 cap]).run P w = .ok (goInt 0) w := by
    obtain ⟨a0, c0, e1⟩ : ∃ a0 c0, a.eval x = .slice a0 0 c0 := owns_shape o1
    rw [e1]
    cases a0 <;> cases ad <;> simp [Builtin.copy_, run_underlying hu, Builtin.lenOf, Builtin.firstCells, sizeOf, typeInfo, hinf, storeCells, loadCells, loadCellsFrom]
   have e3 : a.eval y = .slice ad 0 cap := e2
   simp [execOp, resolve, invoke, builtin, e3, hrun]
 · rcases id o1.2 with ⟨_, hz⟩ | ⟨g, cap', cur, h5, hb0, hg, hnc, hcm, hcs, htake⟩
   · exact absurd hz hn0
   cases ad with
   | none =>
    have := (g1 rfl).2
    subst this
    exact absurd hn.symm hn0
   | some aa =>
   obtain ⟨k1, k2⟩ := g5 aa rfl (by intro h; subst h; exact hn0 hn.symm)
   have hrun := run_copy_row (P := P) w t u ty el g 0 n cap' aa ys.length cap cur E news hu hs hg (by rw [hnl, hn]; exact (Nat.min_self n).symm) (fun j v hj => by
    rw [addr_at k1]
    have := k2 j v hj
    rw [only_cell] at this
    split at this
    · exact this
    · cases this) (by rw [hnl, hcs]; omega) hones
   rw [hnl] at hrun
   have e0 : (cur.toList.take 0 ++ news ++ cur.toList.drop (0 + n)) = putL cur.toList 0 news := by unfold putL; rw [hnl]
   rw [e0] at hrun
   have hfl : ys.flatten.length = n := by rw [rdL_len g2, hnl]
   have res := ok.repl (w' := w.setRow g (putL cur.toList 0 news).toArray) (ob' := .buf E 1 ys) (u' := a.eval x) hi hv rfl setRow_same.1 setRow_same.2.1 setRow_same.2.2.1 (Nat.le_of_eq setRow_same.2.2.2.1.symm) (fun b _ hb => setRow_same.2.2.2.2 b fun e => hb (by rw [h5, e]; rfl)) (fun b hb => .inl hb) (fun _ _ => rfl)
    (fun e' k' xs' e => by cases e; exact ⟨E, xs, rfl, by omega, fun _ => rfl⟩) fun c sb => ⟨news, ⟨by rw [hnl, hn]; omega, .inr ⟨g, cap', _, by rw [h5, hn], hb0, setRow_at hg, by omega, hcm, by rw [List.size_toArray, putL_len (by simp; omega)]; simpa using hcs, by
      rw [List.toList_toArray, hn, ← hnl]; simp [putL]⟩⟩, rdL_carry c sb _ _ g2, fun row hr => (ho row hr).1, fun g' hg' => by have := o4 g' hg'; simp [this]⟩
   refine ⟨goInt n, _, .inl ?_, _, _, _, _, ⟨rfl, rfl⟩, res.1, by rw [rd]; rfl, res.2⟩
   have e3 : a.eval x = .slice (some ⟨g, 0, none⟩) n cap' := h5
   simp [execOp, resolve, invoke, builtin, e3, e2, hrun]
theorem tri_slcArr {dst : Option Nat} {t ty el k n : Nat} {x : Operand} {pos : String} {aft : Array Edge} {gd : Option (Nat × Bool)} {i o : Nat}
 (hx : ev G e x = .ptr i o) (ha : arrT P t = some (n, el)) (hs : szT P el = some k) :
 OpTri P G ⟨dst, .slice t x none none none, ty, pos, aft, gd⟩ ((opds (.slice t x none none none)).map (ev G e)) h (fun h' r => h' = h ∧ r = .arr i o n n k) :=
 tri_val fun a w hd p ok hh => by
 have hox : opds (.slice t x none none none) = [x] := by simp [opds, Op.operands]
 have q1 := hh x (by rw [hox]; simp)
 rw [hx, rd] at q1
 obtain ⟨B, hB, e1⟩ := q1
 have hu : P.underlying t = some (.array n el) := by
  unfold arrT at ha
  split at ha
  · rename_i e0; cases ha; exact e0
  · cases ha
 refine ⟨.slice (some ⟨B, o, none⟩) n n, ?_, by rw [rd]; exact ⟨B, hB, rfl⟩⟩
 have h0 : (⟨B, o, none⟩ : Addr).add (0 * k) = ⟨B, o, none⟩ := by rw [Nat.zero_mul]; rfl
 simp [execOp, e1, Instr.sliceAt, run_underlying hu, Instr.sureAddr, Instr.sliceBounds, dr_size hs]
 intro _; rfl
theorem cvL {hd : List Value} {w w' : World} {p p' : Nat → Bool} {h h' : List Ob} {g : D → D} (c : ∀ d u, rd hd h (only p w) d u → rd hd h' (only p' w') (g d) u) {ds : List D} {us : List Value} (q : rdL hd h (only p w) ds us) : rdL hd h' (only p' w') (ds.map g) us := by
 obtain ⟨h1, h2⟩ := (rdL_iff _ _).1 q
 refine (rdL_iff _ _).2 ⟨by simpa using h1, fun j d hd' => ?_⟩
 rw [List.getElem?_map, Option.map_eq_some_iff] at hd'
 obtain ⟨d0, hd0, rfl⟩ := hd'
 obtain ⟨u, hu, hr⟩ := h2 j d0 hd0
 exact ⟨u, hu, c _ _ hr⟩
theorem Does.gaveIn {f : FuncId} {args : List D} {K K' : List Ob → D → Prop} (q : Does P G f h args K) (c : ∀ h' r, K h' r → ∃ i j ds, i ≠ j ∧ h'[i]? = some (.cells ds) ∧ K' ((h'.set j .dead).set i (.cells (ds.map (cvD (fun x => x == j) h')))) r) : Does P G f h args K' := fun w hd p vs o ha => by
 refine (q w hd p vs o ha).mono ?_
 rintro e w' ⟨v, hd', h', r, p', rfl, hK, ok, hr, ev⟩
 obtain ⟨i, j, ds, hij, hi, hk⟩ := c _ _ hK
 obtain ⟨p2, o2, ev2, cv⟩ := ok.give (fun x => x == j)
 rw [killH_one] at o2 ev2 cv
 have hil := (List.getElem?_eq_some_iff.1 hi).1
 have hil' : i < hd'.length := by rw [ok.len]; exact hil
 have hu : hd'[i]? = some hd'[i] := List.getElem?_eq_getElem hil'
 have hi2 : (h'.set j .dead)[i]? = some (.cells ds) := by rw [List.getElem?_set_ne (Ne.symm hij)]; exact hi
 obtain ⟨B, cs, t, e1, e2, e3, e4⟩ := ok.ob i _ _ hi hu
 have e5 := o2.ob i _ _ hi2 hu
 obtain ⟨B', cs', t', e1', e2', e3', e4'⟩ := e5
 have hBB : B' = B := by rw [e1] at e1'; cases e1'; rfl
 subst hBB
 have e6 := cvL cv e3
 have res := o2.repl (w' := w') (ob' := .cells (ds.map (cvD (fun x => x == j) h'))) (u' := hd'[i]) hi2 hu rfl rfl rfl rfl (Nat.le_refl _) (fun _ _ _ => rfl) (fun b hb => .inl hb) (fun _ _ => rfl) (fun _ _ _ e => by cases e) fun c sb => ⟨B', cs, t, e1, e2, rdL_carry c sb _ _ e6, by simp [e4']⟩
 have ev3 := ev2.trans res.2
 exact ⟨v, _, _, r, _, rfl, hk, res.1, ev3.rd ok hr, ev.trans ev3⟩
end
end
section
variable {P : Program} {G : Nat → D} {f : FuncId} {h : List Ob} {args : List D}
theorem Does.reown {K K' : List Ob → D → Prop} (q : Does P G f h args K) (c : ∀ h' r, K h' r → K' h' r ∨ ∃ i n b E k xs, h'[i]? = some (.buf E k xs) ∧ xs.length = n ∧ b ≤ n ∧ r = .win i n 0 b ∧ K' (h'.set i .dead ++ [.buf E k (xs.take b)]) (.buf h'.length b)) : Does P G f h args K' := fun w hd p vs o ha => by
 refine (q w hd p vs o ha).mono ?_
 rintro e w' ⟨v, hd', h', r, p', rfl, hK, ok, hr, ev⟩
 rcases c _ _ hK with hk | ⟨i, n, b, E, k, xs, hi, hn, hb, rfl, hk⟩
 · exact ⟨v, hd', h', r, p', rfl, hk, ok, hr, ev⟩
 · obtain ⟨o2, ev2, hr2⟩ := ok.reown hi hn hb hr
   exact ⟨v, _, _, _, _, rfl, hk, o2, hr2, ev.trans ev2⟩
mutual
theorem rnO_low0 (R : List Nat) : ∀ d, low 0 d → rnO R d = some d
 | .any, _ => by rw [rnO]
 | .v _, _ => by rw [rnO]
 | .e0, _ => by rw [rnO]
 | .sl k xs, l => by rw [low] at l; rw [rnO, rnR_low0 R xs l]
 | .agg ds, l => by rw [low] at l; rw [rnO, rnL_low0 R ds l]
 | .tup ds, l => by rw [low] at l; rw [rnO, rnL_low0 R ds l]
 | .rp ds, l => by rw [low] at l; rw [rnO, rnL_low0 R ds l]
 | .fn f ds, l => by rw [low] at l; rw [rnO, rnL_low0 R ds l]
 | .ptr i o, l => by rw [low] at l; omega
 | .buf i n, l => by rw [low] at l; omega
 | .bp i n r c, l => by rw [low] at l; omega
 | .win i n a b, l => by rw [low] at l; omega
 | .arr i o n c k, l => by rw [low] at l; omega
 | .mp i, l => by rw [low] at l; omega
theorem rnL_low0 (R : List Nat) : ∀ d, lowL 0 d → rnL R d = some d
 | [], _ => by rw [rnL]
 | d :: t, l => by rw [lowL] at l; rw [rnL, rnO_low0 R d l.1, rnL_low0 R t l.2]
theorem rnR_low0 (R : List Nat) : ∀ d, lowR 0 d → rnR R d = some d
 | [], _ => by rw [rnR]
 | d :: t, l => by rw [lowR] at l; rw [rnR, rnL_low0 R d l.1, rnR_low0 R t l.2]
end
end
section
def stL (v : W8) (r : D) (n : Nat) : List D := v.ls.map zD ++ [r, .v (.int .i64 n)]
section
variable {P : Program} {G : Nat → D} {e : Nat → D} {h : List Ob} {K : List Ob → D → Prop} {u : TypeId} {x y : Operand} {i n m : Nat} {v v' : W8} {r r' : D}
theorem getD_wS (ha : aggT P u = some true) (hs : szT P u = some 8) : getD P u (stL v r n) 0 = some (.agg (v.ls.map zD)) := by
 rw [getD_agg ha hs (by simp [stL, W8.ls])]; rfl
theorem getD_rS (ha : aggT P u = some false) : getD P u (stL v r n) 8 = some r := by rw [getD_one ha]; rfl
theorem getD_nS (ha : aggT P u = some false) : getD P u (stL v r n) 9 = some (.v (.int .i64 n)) := by rw [getD_one ha]; rfl
theorem aOp_stA {o : Nat} {ds es ds' : List D} (hx : ev G e x = .ptr i o) (hi : h[i]? = some (.cells ds)) (hy : (ev G e y).cells = some es) (hc : (es.all D.one && szT P u == some es.length) = true) (hl : o + es.length ≤ ds.length) (hp : putL ds o es = ds') (q : K (h.set i (.cells ds')) (.v undef)) : aOp P G e h K (.store u x y) := by
 rw [aOp_store, hx]
 have e1 : storeD P h u (.ptr i o) (ev G e y) = some (h.set i (.cells ds')) := by
  simp only [storeD, hy, hi, hc, if_true]
  rw [if_pos hl, hp]
 rw [e1]; exact q
theorem aOp_str8 (hx : ev G e x = .ptr i 8) (hi : h[i]? = some (.cells (stL v r n))) (hy : (ev G e y).cells = some [r']) (hc : r'.one = true) (hs : szT P u = some 1) (q : K (h.set i (.cells (stL v r' n))) (.v undef)) : aOp P G e h K (.store u x y) :=
 aOp_stA (es := [r']) hx hi hy (by rw [hs]; simp [hc]) (by simp [stL, W8.ls]) rfl q
theorem aOp_stn8 (hx : ev G e x = .ptr i 9) (hi : h[i]? = some (.cells (stL v r n))) (hy : ev G e y = .v (.int .i64 m)) (hs : szT P u = some 1) (q : K (h.set i (.cells (stL v r m))) (.v undef)) : aOp P G e h K (.store u x y) :=
 aOp_stA (es := [.v (.int .i64 m)]) hx hi (by rw [hy]; rfl) (by rw [hs]; rfl) (by simp [stL, W8.ls]) rfl q
end
section
variable {P : Program} {G : Nat → D} {n : Nat} {e : Nat → D} {h : List Ob} {ops : Array Oper} {rest : List Oper} {Q : S → Prop} {t : Nat} {ty : TypeId} {pos : String} {aft : Array Edge} {gd : Option (Nat × Bool)}
theorem ao_nFc {op : Op} {h' : List Ob} {d : D} (hw : wantedD ops gd e = some true) (ht : decide (t < n) = true) (hN : nF P G e h op = some (h', d)) (q : ao P G ops rest Q ⟨n, upd e t d, h'⟩) : ao P G ops (⟨some t, op, ty, pos, aft, gd⟩ :: rest) Q ⟨n, e, h⟩ := by
 refine ao_tri hw (nF_sound hN) ?_
 unfold putE
 simp only [if_pos (of_decide_eq_true ht)]
 exact q
theorem ao_make0 {u el k by' : Nat} {x y : Operand} {m : Nat} {zs : List D} (hw : wantedD ops gd e = some true) (ht : decide (t < n) = true) (hx : ev G e x = .v (.int .i64 0)) (hy : ev G e y = .v (.int .i64 m)) (ha : apT P u = some (el, k, by')) (hz : zeroD P el = some zs) (hk : zs.length = k) (hb : (by' : Int) * m ≤ 281474976710656) (hm : m ≤ 1000000)
 (q : ao P G ops rest Q ⟨n, upd e t (.buf h.length 0), h ++ [.buf el k []]⟩) : ao P G ops (⟨some t, .makeSlice u x y, ty, pos, aft, gd⟩ :: rest) Q ⟨n, e, h⟩ := by
 have hN : nF P G e h (.makeSlice u x y) = some (h ++ [.buf el k []], .buf h.length 0) := by
  show makF P h u (ev G e x) (ev G e y) = _
  rw [hx, hy]
  have c2 : decide ((0 : Int) ≤ (m : Int)) = true := decide_eq_true (by omega)
  have c3 : decide ((by' : Int) * (m : Int) ≤ 281474976710656) = true := decide_eq_true hb
  have c4 : decide ((m : Int) ≤ 281474976710656) = true := decide_eq_true (by omega)
  have c5 : decide (zs.length = k) = true := decide_eq_true hk
  simp only [makF, ha, hz, c2, c3, c4, c5]
  simp
 exact ao_nFc hw ht hN q
end
theorem aOp_sfrom64 {P : Program} {G : Nat → D} {e : Nat → D} {h : List Ob} {K : List Ob → D → Prop} {u : TypeId} {x : Operand} {c : List UInt8} (hx : ev G e x = .sl 1 (byD c)) (he : (elT P u).bind (szT P) = some 1) (hl : 64 ≤ c.length) (q : K h (.sl 1 (byD (c.drop 64)))) : aOp P G e h K (.slice u x (some (.const (.int .i64 64))) none none) := by
 have e1 : aOp P G e h K (.slice u x (some (.const (.int .i64 64))) none none) = slcA P u (ev G e x) (some (.v (.int .i64 64))) none (K h) := rfl
 rw [e1, hx]
 refine slc_sl he (l := 64) (r := (byD c).length) rfl rfl (by omega) (by rw [byD_len]; omega) (by omega) ?_
 have e2 : ((byD c).take (((byD c).length : Int)).toNat).drop (64 : Int).toNat = byD (c.drop 64) := by
  rw [byD_cut, Int.toNat_natCast, byD_len, List.take_of_length_le (Nat.le_refl _)]; rfl
 rw [e2]; exact q
theorem aOp_supto64 {P : Program} {G : Nat → D} {e : Nat → D} {h : List Ob} {K : List Ob → D → Prop} {u : TypeId} {x : Operand} {c : List UInt8} (hx : ev G e x = .sl 1 (byD c)) (he : (elT P u).bind (szT P) = some 1) (hl : 64 ≤ c.length) (q : K h (.sl 1 (byD (c.take 64)))) : aOp P G e h K (.slice u x none (some (.const (.int .i64 64))) none) := by
 have e1 : aOp P G e h K (.slice u x none (some (.const (.int .i64 64))) none) = slcA P u (ev G e x) none (some (.v (.int .i64 64))) (K h) := rfl
 rw [e1, hx]
 refine slc_sl he (l := 0) (r := 64) rfl rfl (by omega) (by omega) (by rw [byD_len]; omega) ?_
 have e2 : ((byD c).take (64 : Int).toNat).drop (0 : Int).toNat = byD (c.take 64) := by
  rw [byD_cut]; rfl
 rw [e2]; exact q
theorem aOp_bld0 {P : Program} {G : Nat → D} {e : Nat → D} {h : List Ob} {K : List Ob → D → Prop} {u : TypeId} {x : Operand} {v : W8} {z : List D} (hx : ev G e x = .agg (v.ls.map zD)) (h1 : allSz P u = true) (h2 : zeroD P u = some z) (h3 : plT P u 0 = some (0, 8)) (hz : z.length = 10) (h8 : z[8]? = some (.v (.slice none 0 0))) (h9 : z[9]? = some (.v (.int .i64 0))) (q : K h (.agg (stL v (.v (.slice none 0 0)) 0))) : aOp P G e h K (.build u #[(0, x)]) := by
 have e1 : aOp P G e h K (.build u #[(0, x)]) = on (buildD P u [(0, ev G e x)]) fun ds => K h (.agg ds) := rfl
 rw [e1, hx]
 have e2 : buildD P u [(0, .agg (v.ls.map zD))] = some (stL v (.v (.slice none 0 0)) 0) := by
  rw [buildD, if_pos h1, h2, Option.bind_some]
  simp only [fillD, h3, D.cells]
  obtain ⟨a0, a1, a2, a3, a4, a5, a6, a7, a8, a9, rfl⟩ : ∃ a0 a1 a2 a3 a4 a5 a6 a7 a8 a9, z = [a0, a1, a2, a3, a4, a5, a6, a7, a8, a9] := by
   match z, hz with
   | [a0, a1, a2, a3, a4, a5, a6, a7, a8, a9], _ => exact ⟨a0, a1, a2, a3, a4, a5, a6, a7, a8, a9, rfl⟩
  cases h8; cases h9
  rfl
 rw [e2]; exact q
theorem low_stL {m : Nat} {v : W8} {r : D} {n : Nat} (hr : low m r) : lowL m (stL v r n) := by
 rw [lowL_iff]
 intro d hd
 unfold stL at hd
 rcases List.mem_append.1 hd with h | h
 · exact (lowL_iff m _).1 (low_zs m v.ls) d h
 · simp at h
   rcases h with rfl | rfl
   · exact hr
   · rw [low]; trivial
theorem endX {P : Program} {res : Array ResultVar} {m0 : Nat} {K : List Ob → D → Prop} {s : S} (ds : List D) (M T : List Ob) (r : D) (h1 : resD P s res.toList = some ds) (h2 : s.h = M ++ T) (h0 : m0 ≤ M.length) (lM : lowH M.length M) (lr : low M.length r) (hr : cvD (fun i => decide (M.length ≤ i)) (M ++ T) (outD ds) = r) (hK : K M r) : EndD P res m0 K s := by
 have e : s.h.take M.length = M := by rw [h2]; simp
 refine ⟨ds, M.length, h1, h0, by rw [h2]; simp, by rw [e]; exact lM, by rw [h2, hr]; exact lr, by rw [e, h2, hr]; exact hK⟩
def sM (A B x : Ob) (T : List Ob) : List Ob := A :: B :: x :: T
section
variable {A B x y : Ob} {T l : List Ob}
theorem sM_0 : (sM A B x T)[0]? = some A := rfl
theorem sM_1 : (sM A B x T)[1]? = some B := rfl
theorem sM_2 : (sM A B x T)[2]? = some x := rfl
theorem sM_a0 : (sM A B x T ++ l)[0]? = some A := rfl
theorem sM_a1 : (sM A B x T ++ l)[1]? = some B := rfl
theorem sM_a2 : (sM A B x T ++ l)[2]? = some x := rfl
theorem sM_s2 : (sM A B x T).set 2 y = sM A B y T := rfl
theorem sM_b2 : (sM A B x T ++ l).set 2 y = sM A B y (T ++ l) := rfl
theorem sM_len : (sM A B x T).length = T.length + 3 := rfl
theorem sM_last : (sM A B x T ++ [y])[T.length + 3]? = some y := by simp [sM]
end
theorem sM_l {A B x y : Ob} {T : List Ob} : (sM A B x (T ++ [y]))[T.length + 3]? = some y := by simp [sM]
theorem sM_sl {A B x y z : Ob} {T : List Ob} : (sM A B x (T ++ [y])).set (T.length + 3) z = sM A B x (T ++ [z]) := by simp [sM]
theorem sM_m {A B x y : Ob} {T U : List Ob} : (sM A B x (T ++ y :: U))[T.length + 3]? = some y := by simp [sM]
theorem sM_ma {A B x y : Ob} {T U l : List Ob} : (sM A B x (T ++ y :: U) ++ l)[T.length + 3]? = some y := by simp [sM]
theorem sM_ms {A B x y z : Ob} {T U : List Ob} : (sM A B x (T ++ y :: U)).set (T.length + 3) z = sM A B x (T ++ z :: U) := by simp [sM]
theorem sM_mas {A B x y z : Ob} {T U l : List Ob} : (sM A B x (T ++ y :: U) ++ l).set (T.length + 3) z = sM A B x (T ++ z :: (U ++ l)) := by simp [sM]
theorem sM_mll {A B x y z : Ob} {T U : List Ob} : (sM A B x (T ++ y :: U) ++ [z])[T.length + (U.length + 1) + 3]? = some z := by simp [sM]
theorem aOp_ind8 {P : Program} {G : Nat → D} {e : Nat → D} {h : List Ob} {K : List Ob → D → Prop} {u : TypeId} {x y : Operand} {W : List Int} {k l el : Nat} {κ : IntKind} {z : Int} (hx : ev G e x = .agg (W.map zD)) (hy : ev G e y = .v (.int κ (k : Int))) (ha : arrT P u = some (l, el)) (hz : szT P el = some 1) (hg : aggT P el = some false) (hk : k < l) (hW : W[k]? = some z) (q : K h (.v (.int .u32 z))) : aOp P G e h K (.index u x y) := by
 have e1 : aOp P G e h K (.index u x y) = indA P u (ev G e x) (ev G e y) (K h) := rfl
 rw [e1, hx, hy]
 exact ⟨l, el, 1, .v (.int .u32 z), ha, hz, by omega, by omega, by rw [getD_one hg]; simp [hW, zD], q⟩
theorem padZ_len (q : List UInt8) (n : Nat) : (padZ q n).length % 64 = 0 := by
 unfold padZ zc
 simp [be8]
 omega
theorem outW_rows (z : Int) : ([[.v (.int .u8 (IntKind.u8.wrap (z.fdiv (2 ^ min (Int.toNat 24) 32))))], [.v (.int .u8 (IntKind.u8.wrap (z.fdiv (2 ^ min (Int.toNat 16) 32))))], [.v (.int .u8 (IntKind.u8.wrap (z.fdiv (2 ^ min (Int.toNat 8) 32))))], [.v (.int .u8 (IntKind.u8.wrap z))]] : List (List D)) = byD (outW z) := by
 simp only [byD, outW, List.map_cons, List.map_nil, byZ_eq]
 rfl
theorem be8_val (m i : Nat) (hi : i ≤ 64) : IntKind.u8.wrap ((m : Int).fdiv (2 ^ min i 64)) = ((UInt8.ofNat (m / 2 ^ i)).toNat : Int) := by
 rw [Nat.min_eq_left hi, wrap8_nn, Int.fdiv_eq_ediv_of_nonneg _ (Int.le_of_lt (Int.pow_pos (by omega)))]
 simp
theorem aOp_bst {P : Program} {G : Nat → D} {e : Nat → D} {h : List Ob} {K : List Ob → D → Prop} {t u E : TypeId} {x : Operand} {i n : Nat} {bs : List UInt8} (hx : ev G e x = .buf i n) (hi : h[i]? = some (.buf E 1 (byD bs))) (hn : bs.length = n) (h1 : byT P t = true) (h2 : strT P u = true) (q : K h (.v (.string ⟨bs.toArray⟩))) : aOp P G e h K (.convert t u x) := by
 have e1 : aOp P G e h K (.convert t u x) = cvA P h t u (ev G e x) K := rfl
 rw [e1, hx]
 exact ⟨h1, h2, E, byD bs, bs, hi, by rw [byD_len, hn], rfl, q⟩
theorem aOp_cvs {P : Program} {G : Nat → D} {e : Nat → D} {h : List Ob} {K : List Ob → D → Prop} {t u : TypeId} {x : Operand} {l : List UInt8} (hx : ev G e x = .v (.string ⟨l.toArray⟩)) (h1 : byT P u = true) (h2 : (P.underlying t).isSome = true) (h3 : l.length ≤ 140737488355328) (q : K h (.sl 1 (byD l))) : aOp P G e h K (.convert t u x) := by
 have e1 : aOp P G e h K (.convert t u x) = cvA P h t u (ev G e x) K := rfl
 rw [e1, hx]
 exact .inl ⟨h1, h2, h3, q⟩
theorem resD_cell2 {P : Program} {s : S} {c t t2 i o : Nat} {ds : List D} {d d2 : D} (hx : s.env c = .ptr i o) (hi : s.h[i]? = some (.cells ds)) (hg : getD P t ds o = some d) (h2 : s.env t2 = d2) : resD P s [.cell c t, .tmp t2] = some [d, d2] := by
 simp [resD, hx, loadD, hi, hg, h2]
theorem ao_ldgive {P : Program} {G : Nat → D} {n : Nat} {e : Nat → D} {h : List Ob} {ops : Array Oper} {rest : List Oper} {Q : S → Prop} {t : Nat} {ty : TypeId} {pos : String} {aft : Array Edge} {gd : Option (Nat × Bool)} {u : TypeId} {x : Operand} {i j o : Nat} {ds : List D} {d d' : D} (hw : wantedD ops gd e = some true) (ht : decide (t < n) = true) (hx : ev G e x = .ptr i o) (hi : h[i]? = some (.cells ds)) (hg : getD P u ds o = some d) (hc : cvD (fun y => y == j) h d = d')
 (q : ao P G ops rest Q ⟨n, upd e t d', h.set j .dead⟩) : ao P G ops (⟨some t, .load u x, ty, pos, aft, gd⟩ :: rest) Q ⟨n, e, h⟩ := by
 refine ao1 hw ht fun K HK => ?_
 refine aOp_larr hx hi hg ?_
 refine HK _ _ ?_
 refine ao_give j t ?_
 have e1 : upd (upd e t d) t (cvD (fun i => i == j) h (upd e t d t)) = upd e t d' := by
  funext k
  unfold upd
  by_cases hk : k = t
  · simp [hk, hc]
  · simp [hk]
 rw [e1]; exact q
theorem be8_get (n : Nat) : be8 n = (List.range 8).map fun j => UInt8.ofNat (n / 2 ^ (56 - 8 * j)) := rfl
theorem be8_take (n : Nat) {j : Nat} (h : j < 8) : (be8 n).take (j + 1) = (be8 n).take j ++ [UInt8.ofNat (n / 2 ^ (56 - 8 * j))] := by
 rw [be8_get, List.take_add_one, List.getElem?_map, List.getElem?_range h]; rfl
theorem restZ_ge {b : List UInt8} (h : 64 ≤ b.length) : restZ (b.drop 64) = restZ b := by
 unfold restZ
 rw [List.drop_drop, List.length_drop]
 congr 1
 omega
theorem restZ_lt {b : List UInt8} (h : b.length < 64) : restZ b = b := by
 unfold restZ; rw [Nat.div_eq_of_lt h]; rfl
theorem restZ_len (b : List UInt8) : (restZ b).length < 64 := by unfold restZ; rw [List.length_drop]; omega
end
end Go.Proofs.YtgkjcmglcnhpaaaGreatDoor
