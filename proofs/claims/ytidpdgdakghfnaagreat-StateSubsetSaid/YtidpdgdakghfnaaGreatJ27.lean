/-
  What the statements of the chapter share, part 27: LW1, AW.
-/
import Derived.Test.YtidpdgdakghfnaaGreatJ11
import Derived.Test.YtidpdgdakghfnaaGreatJ26
set_option linter.unusedVariables false
set_option linter.unusedSimpArgs false
set_option maxRecDepth 100000
set_option maxHeartbeats 8000000
namespace Go.Proofs.YtidpdgdakghfnaaGreat
open Go.RowKit
section
set_option maxRecDepth 100000
set_option maxHeartbeats 2000000
attribute [local irreducible] on aOp
attribute [local simp] byD_len
@[go_sem] theorem b_beql {x y : Operand} {a c : Bool} : binV Tryz.prog .eql 4 x y (.bool a) (.bool c) = some (.v (.bool (decide (a = c)))) := by cases a <;> cases c <;> kernel_rfl
@[go_sem] theorem b_bneq {x y : Operand} {a c : Bool} : binV Tryz.prog .neq 4 x y (.bool a) (.bool c) = some (.v (.bool (!decide (a = c)))) := by cases a <;> cases c <;> kernel_rfl
def Nums (c : Cmd) : Prop := I64 c.client ∧ I64 c.seq ∧ I64 c.kind ∧ I64 c.replica
theorem ok_of_small {c : Cmd} (h : Nums c) (s : smallC c) : c.Ok := ⟨h.1, h.2.1, h.2.2.1, h.2.2.2, by have := s.1; omega, fun x hx => by have := s.2.2 x hx; unfold smallW at this; omega, by have := s.2.1; omega⟩
theorem okL_of_small {l : List Cmd} {m : Nat} (h : ∀ c ∈ l, Nums c) (s : SmallL l m) : OkL l := fun c hc => ok_of_small (h c hc) (s.2 c hc)
theorem joinL_len (a b : List Cmd) : (joinL a b).length ≤ a.length + b.length := by have := ofL_len (a ++ b); rwa [List.length_append] at this
theorem minusL_len (a b : List Cmd) : (minusL a b).length ≤ a.length := Nat.le_trans (List.length_filter_le _ _) (ofL_len a)
section
variable {a b c : List Cmd} (ha : OkL a) (hb : OkL b) (hc : OkL c)
include ha hb
theorem join_comm : joinL a b = joinL b a := sorted_ext (joinL_sorted _ _) (joinL_sorted _ _) fun x => by rw [mem_joinL ha hb, mem_joinL hb ha, or_comm]
theorem minus_join : minusL (joinL a b) b = minusL a b := sorted_ext (minusL_sorted _ _) (minusL_sorted _ _) fun x => by
 rw [mem_minusL (joinL_ok ha hb) hb, mem_minusL ha hb, mem_joinL ha hb]
 constructor
 · rintro ⟨h1 | h1, h2⟩
   · exact ⟨h1, h2⟩
   · exact absurd h1 h2
 · exact fun h => ⟨.inl h.1, h.2⟩
theorem join_minus : joinL (minusL a b) b = joinL a b := sorted_ext (joinL_sorted _ _) (joinL_sorted _ _) fun x => by
 rw [mem_joinL (minusL_ok ha) hb, mem_joinL ha hb, mem_minusL ha hb]
 constructor
 · rintro (h | h)
   · exact .inl h.1
   · exact .inr h
 · rintro (h | h)
   · rcases Classical.em (x ∈ b) with hx | hx
     · exact .inr hx
     · exact .inl ⟨h, hx⟩
   · exact .inr h
theorem minus_nil : (minusL a b).length = 0 ↔ ∀ x ∈ a, x ∈ b := by
 rw [List.length_eq_zero_iff]
 constructor
 · intro h x hx
   refine Classical.byContradiction fun hn => ?_
   have : x ∈ minusL a b := (mem_minusL ha hb).2 ⟨hx, hn⟩
   rw [h] at this; cases this
 · intro h
   cases hm : minusL a b with
   | nil => rfl
   | cons y t =>
    have : y ∈ minusL a b := by rw [hm]; simp
    have := (mem_minusL ha hb).1 this
    exact absurd (h y this.1) this.2
theorem sub_join : joinL a b = ofL b ↔ ∀ x ∈ a, x ∈ b := by
 constructor
 · intro h x hx
   have : x ∈ joinL a b := (mem_joinL ha hb).2 (.inl hx)
   rw [h] at this; exact ofL_sub _ _ this
 · intro h
   refine sorted_ext (joinL_sorted _ _) (ofL_sorted _) fun x => ?_
   rw [mem_joinL ha hb, mem_ofL hb]
   exact ⟨fun q => q.elim (h x) id, .inr⟩
theorem of_eq : ofL a = ofL b ↔ (∀ x ∈ a, x ∈ b) ∧ ∀ x ∈ b, x ∈ a := by
 constructor
 · intro h
   exact ⟨fun x hx => by rw [← mem_ofL hb, ← h, mem_ofL ha]; exact hx, fun x hx => by rw [← mem_ofL ha, h, mem_ofL hb]; exact hx⟩
 · rintro ⟨h1, h2⟩
   exact sorted_ext (ofL_sorted _) (ofL_sorted _) fun x => by rw [mem_ofL ha, mem_ofL hb]; exact ⟨h1 x, h2 x⟩
include hc
theorem join_assoc : joinL (joinL a b) c = joinL a (joinL b c) := sorted_ext (joinL_sorted _ _) (joinL_sorted _ _) fun x => by
 rw [mem_joinL (joinL_ok ha hb) hc, mem_joinL ha (joinL_ok hb hc), mem_joinL ha hb, mem_joinL hb hc, or_assoc]
end
theorem join_self {a : List Cmd} (ha : OkL a) : joinL a a = ofL a := sorted_ext (joinL_sorted _ _) (ofL_sorted _) fun x => by rw [mem_joinL ha ha, mem_ofL ha, or_self]
theorem sameL_of {x y : List Cmd} (h : x = y) : sameL x y = true := by rw [h]; exact sameL_refl y
theorem sameL_dec {x y : List Cmd} (hx : OkL x) (hy : OkL y) {p : Prop} [Decidable p] (h : x = y ↔ p) : sameL x y = decide p := by
 rw [Bool.eq_iff_iff, sameL_eq hx hy, h, decide_eq_true_eq]
variable (G : Nat → D) (hG : ∀ g, low 0 (G g))
include hG
theorem small_y {l : List Cmd} {most : Nat} (hm : most ≤ 1000) (s : SmallL l most) (h : List Ob) : Does Tryz.prog G 10 h [.sl 6 (l.map cmdX), .v (.int .i64 most)] (fun h' r => h' = h ∧ r = .v (.bool true)) := (small_d G hG l most hm h).mono fun h' r ⟨h1, b, h2, h3⟩ => ⟨h1, by rw [h2, h3.2 s]⟩
theorem small_n {l : List Cmd} {most : Nat} (hm : most ≤ 1000) (s : ¬ SmallL l most) (h : List Ob) : Does Tryz.prog G 10 h [.sl 6 (l.map cmdX), .v (.int .i64 most)] (fun h' r => h' = h ∧ r = .v (.bool false)) := (small_d G hG l most hm h).mono fun h' r ⟨h1, b, h2, h3⟩ => ⟨h1, by
 cases b
 · exact h2
 · exact absurd (h3.1 rfl) s⟩
def Awake (G : Nat → D) : Prop := ∀ h, Does Tryz.prog G 11 h [] (fun h' r => h' = h ∧ r = .v (.bool true))
theorem lawJoin (aw : Awake G) (a b c : List Cmd) (na : ∀ x ∈ a, Nums x) (nb : ∀ x ∈ b, Nums x) (nc : ∀ x ∈ c, Nums x) (h : List Ob) : Does Tryz.prog G 3 h [.sl 6 (a.map cmdX), .sl 6 (b.map cmdX), .sl 6 (c.map cmdX)] (fun h' r => h' = h ∧ r = .v (.bool true)) := by
 refine does_any G hG (by rw [lowL, lowL, lowL, lowL]; exact ⟨low_cms _ _, low_cms _ _, low_cms _ _, trivial⟩) (by rw [low]; trivial) ?_ h
 refine does_of_aw Tryz.func3 rfl (Nat.le_of_ble_eq_true rfl) hG fun hl0 _ => ?_
 simp only [Tryz.ntmps3]
 by_cases sa : SmallL a 12
 rotate_left
 · have q := small_n G hG (by decide) sa
   repeat' first
    | refine aw_seq' ?_
    | refine aw_region' ?_
    | refine aw_block ?_
    | refine ao_nil ?_
    | (refine ao1 rfl rfl fun K HK => ?_; (try refine aOp_pick rfl ?_); simp only [go_sem, ↓reduceIte, Nat.reduceEqDiff, Nat.reduceAdd, Nat.reduceLeDiff, Nat.reduceBEq, Nat.reduceMul, Int.reduceEq, Int.reduceLT, Int.reduceLE, decide_true, decide_false, Bool.not_true, Bool.not_false]; (first | refine splitB (fun hq => ?_) (fun hq => ?_) | refine splitN (fun hq => ?_) (fun hq => ?_) | (refine slc_sl (by simp only [go_sem]) rfl rfl (by first | omega | simp) (by first | omega | simp) (by simp only [go_sem]; omega) ?_) | (refine ⟨by omega, by omega, ?_⟩; first | refine row_at (by assumption) ?_ | (intro row hrow; obtain ⟨x, hx, rfl⟩ := row_inv hrow; clear hrow) | (intro row hrow)) | (refine ⟨by omega, ?_⟩; refine row_at (by assumption) ?_) | skip) <;> (refine HK _ _ ?_; clear HK K))
    | (refine aq1 rfl rfl fun K HK => ?_; (try refine aOp_pick rfl ?_); simp only [go_sem, ↓reduceIte, Nat.reduceEqDiff, Nat.reduceAdd, Nat.reduceLeDiff, Nat.reduceBEq, Nat.reduceMul, Int.reduceEq, Int.reduceLT, Int.reduceLE, decide_true, decide_false, Bool.not_true, Bool.not_false]; (first | refine splitB (fun hq => ?_) (fun hq => ?_) | refine splitN (fun hq => ?_) (fun hq => ?_) | (refine slc_sl (by simp only [go_sem]) rfl rfl (by first | omega | simp) (by first | omega | simp) (by simp only [go_sem]; omega) ?_) | (refine ⟨by omega, by omega, ?_⟩; first | refine row_at (by assumption) ?_ | (intro row hrow; obtain ⟨x, hx, rfl⟩ := row_inv hrow; clear hrow) | (intro row hrow)) | (refine ⟨by omega, ?_⟩; refine row_at (by assumption) ?_) | skip) <;> (refine HK _ _ rfl ?_; clear HK K))
    | refine aq0 rfl rfl ?_
    | refine aq_nil ?_
    | (refine aw_draw mixd (by kernel_rfl) ?_)
    | refine ao_appB rfl rfl rfl rfl (by first | assumption | (simp only [go_sem, ↓reduceIte, Nat.reduceEqDiff, Nat.reduceAdd, Nat.reduceLeDiff, Nat.reduceBEq, Nat.reduceMul, Int.reduceEq, Int.reduceLT, Int.reduceLE, decide_true, decide_false, Bool.not_true, Bool.not_false]; rfl) | (simp only [go_sem, ↓reduceIte, Nat.reduceEqDiff, Nat.reduceAdd, Nat.reduceLeDiff, Nat.reduceBEq, Nat.reduceMul, Int.reduceEq, Int.reduceLT, Int.reduceLE, decide_true, decide_false, Bool.not_true, Bool.not_false]; done)) (by simp) (by simp only [go_sem]; rfl) (by first | assumption | (simp only [go_sem, ↓reduceIte, Nat.reduceEqDiff, Nat.reduceAdd, Nat.reduceLeDiff, Nat.reduceBEq, Nat.reduceMul, Int.reduceEq, Int.reduceLT, Int.reduceLE, decide_true, decide_false, Bool.not_true, Bool.not_false]; rfl) | (simp only [go_sem, ↓reduceIte, Nat.reduceEqDiff, Nat.reduceAdd, Nat.reduceLeDiff, Nat.reduceBEq, Nat.reduceMul, Int.reduceEq, Int.reduceLT, Int.reduceLE, decide_true, decide_false, Bool.not_true, Bool.not_false]; done)) (by simp) (by first | assumption | exact rowsOk_nil _ | exact rowsOk_by _ | (rw [byD_cut]; exact rowsOk_by _) | (simp [rowsOk, D.one, Value.oneCell']; done)) (by first | omega | (simp; done) | (simp; omega) | (simp [byD]; omega)) ?_
    | refine ao_appNB rfl rfl rfl rfl (by simp only [go_sem]; rfl) (by first | assumption | (simp only [go_sem, ↓reduceIte, Nat.reduceEqDiff, Nat.reduceAdd, Nat.reduceLeDiff, Nat.reduceBEq, Nat.reduceMul, Int.reduceEq, Int.reduceLT, Int.reduceLE, decide_true, decide_false, Bool.not_true, Bool.not_false]; rfl) | (simp only [go_sem, ↓reduceIte, Nat.reduceEqDiff, Nat.reduceAdd, Nat.reduceLeDiff, Nat.reduceBEq, Nat.reduceMul, Int.reduceEq, Int.reduceLT, Int.reduceLE, decide_true, decide_false, Bool.not_true, Bool.not_false]; done)) (by simp) (by first | assumption | exact rowsOk_nil _ | exact rowsOk_by _ | (rw [byD_cut]; exact rowsOk_by _) | (simp [rowsOk, D.one, Value.oneCell']; done)) (by first | omega | (simp; done) | (simp; omega) | (simp [byD]; omega)) ?_
    | refine ao_appR rfl rfl rfl (by first | assumption | (simp only [go_sem, ↓reduceIte, Nat.reduceEqDiff, Nat.reduceAdd, Nat.reduceLeDiff, Nat.reduceBEq, Nat.reduceMul, Int.reduceEq, Int.reduceLT, Int.reduceLE, decide_true, decide_false, Bool.not_true, Bool.not_false]; rfl) | (simp only [go_sem, ↓reduceIte, Nat.reduceEqDiff, Nat.reduceAdd, Nat.reduceLeDiff, Nat.reduceBEq, Nat.reduceMul, Int.reduceEq, Int.reduceLT, Int.reduceLE, decide_true, decide_false, Bool.not_true, Bool.not_false]; done)) (by simp) (by simp only [go_sem]; rfl) rfl (by first | assumption | exact rowsOk_nil _ | exact rowsOk_by _ | (rw [byD_cut]; exact rowsOk_by _) | (simp [rowsOk, D.one, Value.oneCell']; done)) (by first | omega | (simp; done) | (simp; omega) | (simp [byD]; omega)) ?_
    | refine ao_appNR rfl rfl rfl (by simp only [go_sem]; rfl) rfl (by first | assumption | exact rowsOk_nil _ | exact rowsOk_by _ | (rw [byD_cut]; exact rowsOk_by _) | (simp [rowsOk, D.one, Value.oneCell']; done)) (by first | omega | (simp; done) | (simp; omega) | (simp [byD]; omega)) ?_
    | refine ao0 rfl rfl ?_
    | refine aq2 rfl rfl rfl ent_10 (q _) ?_
    | (refine ao2 rfl rfl rfl ent_10 (q _) ?_; rintro _ _ ⟨rfl, rfl⟩)
    | refine aq2 rfl rfl rfl ent_11 (aw _) ?_
    | (refine ao2 rfl rfl rfl ent_11 (aw _) ?_; rintro _ _ ⟨rfl, rfl⟩)
    | (refine ao1' rfl fun K HK => ?_; simp only [go_sem, ↓reduceIte, Nat.reduceEqDiff, Nat.reduceAdd, Nat.reduceLeDiff, Nat.reduceBEq, Nat.reduceMul, Int.reduceEq, Int.reduceLT, Int.reduceLE, decide_true, decide_false, Bool.not_true, Bool.not_false]; refine HK _ _ ?_; clear HK K)
    | refine ao0' rfl ?_
    | refine aw_if1 rfl ?_
    | refine aw_if0 rfl ?_
    | refine aw_skip ?_
    | refine aw_exit ?_
    | refine aw_ret ?_
    | refine thenS_n ?_
    | refine thenS_x ?_
    | refine thenS_r ?_
    | refine inB_n ?_
    | refine inB_r ?_
    | refine inB_x ?_
    | refine inB_y rfl ?_
    | (exfalso; omega)
   exact ⟨.inr rfl, endD (r := .v _) hl0 rfl (by simp) (by simp) rfl (by rw [low]; trivial) ⟨rfl, rfl⟩⟩
 have qa := small_y G hG (by decide) sa
 by_cases sb : SmallL b 12
 rotate_left
 · have q := small_n G hG (by decide) sb
   repeat' first
    | refine aw_seq' ?_
    | refine aw_region' ?_
    | refine aw_block ?_
    | refine ao_nil ?_
    | (refine ao1 rfl rfl fun K HK => ?_; (try refine aOp_pick rfl ?_); simp only [go_sem, ↓reduceIte, Nat.reduceEqDiff, Nat.reduceAdd, Nat.reduceLeDiff, Nat.reduceBEq, Nat.reduceMul, Int.reduceEq, Int.reduceLT, Int.reduceLE, decide_true, decide_false, Bool.not_true, Bool.not_false]; (first | refine splitB (fun hq => ?_) (fun hq => ?_) | refine splitN (fun hq => ?_) (fun hq => ?_) | (refine slc_sl (by simp only [go_sem]) rfl rfl (by first | omega | simp) (by first | omega | simp) (by simp only [go_sem]; omega) ?_) | (refine ⟨by omega, by omega, ?_⟩; first | refine row_at (by assumption) ?_ | (intro row hrow; obtain ⟨x, hx, rfl⟩ := row_inv hrow; clear hrow) | (intro row hrow)) | (refine ⟨by omega, ?_⟩; refine row_at (by assumption) ?_) | skip) <;> (refine HK _ _ ?_; clear HK K))
    | (refine aq1 rfl rfl fun K HK => ?_; (try refine aOp_pick rfl ?_); simp only [go_sem, ↓reduceIte, Nat.reduceEqDiff, Nat.reduceAdd, Nat.reduceLeDiff, Nat.reduceBEq, Nat.reduceMul, Int.reduceEq, Int.reduceLT, Int.reduceLE, decide_true, decide_false, Bool.not_true, Bool.not_false]; (first | refine splitB (fun hq => ?_) (fun hq => ?_) | refine splitN (fun hq => ?_) (fun hq => ?_) | (refine slc_sl (by simp only [go_sem]) rfl rfl (by first | omega | simp) (by first | omega | simp) (by simp only [go_sem]; omega) ?_) | (refine ⟨by omega, by omega, ?_⟩; first | refine row_at (by assumption) ?_ | (intro row hrow; obtain ⟨x, hx, rfl⟩ := row_inv hrow; clear hrow) | (intro row hrow)) | (refine ⟨by omega, ?_⟩; refine row_at (by assumption) ?_) | skip) <;> (refine HK _ _ rfl ?_; clear HK K))
    | refine aq0 rfl rfl ?_
    | refine aq_nil ?_
    | (refine aw_draw mixd (by kernel_rfl) ?_)
    | refine ao_appB rfl rfl rfl rfl (by first | assumption | (simp only [go_sem, ↓reduceIte, Nat.reduceEqDiff, Nat.reduceAdd, Nat.reduceLeDiff, Nat.reduceBEq, Nat.reduceMul, Int.reduceEq, Int.reduceLT, Int.reduceLE, decide_true, decide_false, Bool.not_true, Bool.not_false]; rfl) | (simp only [go_sem, ↓reduceIte, Nat.reduceEqDiff, Nat.reduceAdd, Nat.reduceLeDiff, Nat.reduceBEq, Nat.reduceMul, Int.reduceEq, Int.reduceLT, Int.reduceLE, decide_true, decide_false, Bool.not_true, Bool.not_false]; done)) (by simp) (by simp only [go_sem]; rfl) (by first | assumption | (simp only [go_sem, ↓reduceIte, Nat.reduceEqDiff, Nat.reduceAdd, Nat.reduceLeDiff, Nat.reduceBEq, Nat.reduceMul, Int.reduceEq, Int.reduceLT, Int.reduceLE, decide_true, decide_false, Bool.not_true, Bool.not_false]; rfl) | (simp only [go_sem, ↓reduceIte, Nat.reduceEqDiff, Nat.reduceAdd, Nat.reduceLeDiff, Nat.reduceBEq, Nat.reduceMul, Int.reduceEq, Int.reduceLT, Int.reduceLE, decide_true, decide_false, Bool.not_true, Bool.not_false]; done)) (by simp) (by first | assumption | exact rowsOk_nil _ | exact rowsOk_by _ | (rw [byD_cut]; exact rowsOk_by _) | (simp [rowsOk, D.one, Value.oneCell']; done)) (by first | omega | (simp; done) | (simp; omega) | (simp [byD]; omega)) ?_
    | refine ao_appNB rfl rfl rfl rfl (by simp only [go_sem]; rfl) (by first | assumption | (simp only [go_sem, ↓reduceIte, Nat.reduceEqDiff, Nat.reduceAdd, Nat.reduceLeDiff, Nat.reduceBEq, Nat.reduceMul, Int.reduceEq, Int.reduceLT, Int.reduceLE, decide_true, decide_false, Bool.not_true, Bool.not_false]; rfl) | (simp only [go_sem, ↓reduceIte, Nat.reduceEqDiff, Nat.reduceAdd, Nat.reduceLeDiff, Nat.reduceBEq, Nat.reduceMul, Int.reduceEq, Int.reduceLT, Int.reduceLE, decide_true, decide_false, Bool.not_true, Bool.not_false]; done)) (by simp) (by first | assumption | exact rowsOk_nil _ | exact rowsOk_by _ | (rw [byD_cut]; exact rowsOk_by _) | (simp [rowsOk, D.one, Value.oneCell']; done)) (by first | omega | (simp; done) | (simp; omega) | (simp [byD]; omega)) ?_
    | refine ao_appR rfl rfl rfl (by first | assumption | (simp only [go_sem, ↓reduceIte, Nat.reduceEqDiff, Nat.reduceAdd, Nat.reduceLeDiff, Nat.reduceBEq, Nat.reduceMul, Int.reduceEq, Int.reduceLT, Int.reduceLE, decide_true, decide_false, Bool.not_true, Bool.not_false]; rfl) | (simp only [go_sem, ↓reduceIte, Nat.reduceEqDiff, Nat.reduceAdd, Nat.reduceLeDiff, Nat.reduceBEq, Nat.reduceMul, Int.reduceEq, Int.reduceLT, Int.reduceLE, decide_true, decide_false, Bool.not_true, Bool.not_false]; done)) (by simp) (by simp only [go_sem]; rfl) rfl (by first | assumption | exact rowsOk_nil _ | exact rowsOk_by _ | (rw [byD_cut]; exact rowsOk_by _) | (simp [rowsOk, D.one, Value.oneCell']; done)) (by first | omega | (simp; done) | (simp; omega) | (simp [byD]; omega)) ?_
    | refine ao_appNR rfl rfl rfl (by simp only [go_sem]; rfl) rfl (by first | assumption | exact rowsOk_nil _ | exact rowsOk_by _ | (rw [byD_cut]; exact rowsOk_by _) | (simp [rowsOk, D.one, Value.oneCell']; done)) (by first | omega | (simp; done) | (simp; omega) | (simp [byD]; omega)) ?_
    | refine ao0 rfl rfl ?_
    | refine aq2 rfl rfl rfl ent_10 (qa _) ?_
    | (refine ao2 rfl rfl rfl ent_10 (qa _) ?_; rintro _ _ ⟨rfl, rfl⟩)
    | refine aq2 rfl rfl rfl ent_10 (q _) ?_
    | (refine ao2 rfl rfl rfl ent_10 (q _) ?_; rintro _ _ ⟨rfl, rfl⟩)
    | refine aq2 rfl rfl rfl ent_11 (aw _) ?_
    | (refine ao2 rfl rfl rfl ent_11 (aw _) ?_; rintro _ _ ⟨rfl, rfl⟩)
    | (refine ao1' rfl fun K HK => ?_; simp only [go_sem, ↓reduceIte, Nat.reduceEqDiff, Nat.reduceAdd, Nat.reduceLeDiff, Nat.reduceBEq, Nat.reduceMul, Int.reduceEq, Int.reduceLT, Int.reduceLE, decide_true, decide_false, Bool.not_true, Bool.not_false]; refine HK _ _ ?_; clear HK K)
    | refine ao0' rfl ?_
    | refine aw_if1 rfl ?_
    | refine aw_if0 rfl ?_
    | refine aw_skip ?_
    | refine aw_exit ?_
    | refine aw_ret ?_
    | refine thenS_n ?_
    | refine thenS_x ?_
    | refine thenS_r ?_
    | refine inB_n ?_
    | refine inB_r ?_
    | refine inB_x ?_
    | refine inB_y rfl ?_
    | (exfalso; omega)
   exact ⟨.inr rfl, endD (r := .v _) hl0 rfl (by simp) (by simp) rfl (by rw [low]; trivial) ⟨rfl, rfl⟩⟩
 have qb := small_y G hG (by decide) sb
 by_cases sc : SmallL c 12
 rotate_left
 · have q := small_n G hG (by decide) sc
   repeat' first
    | refine aw_seq' ?_
    | refine aw_region' ?_
    | refine aw_block ?_
    | refine ao_nil ?_
    | (refine ao1 rfl rfl fun K HK => ?_; (try refine aOp_pick rfl ?_); simp only [go_sem, ↓reduceIte, Nat.reduceEqDiff, Nat.reduceAdd, Nat.reduceLeDiff, Nat.reduceBEq, Nat.reduceMul, Int.reduceEq, Int.reduceLT, Int.reduceLE, decide_true, decide_false, Bool.not_true, Bool.not_false]; (first | refine splitB (fun hq => ?_) (fun hq => ?_) | refine splitN (fun hq => ?_) (fun hq => ?_) | (refine slc_sl (by simp only [go_sem]) rfl rfl (by first | omega | simp) (by first | omega | simp) (by simp only [go_sem]; omega) ?_) | (refine ⟨by omega, by omega, ?_⟩; first | refine row_at (by assumption) ?_ | (intro row hrow; obtain ⟨x, hx, rfl⟩ := row_inv hrow; clear hrow) | (intro row hrow)) | (refine ⟨by omega, ?_⟩; refine row_at (by assumption) ?_) | skip) <;> (refine HK _ _ ?_; clear HK K))
    | (refine aq1 rfl rfl fun K HK => ?_; (try refine aOp_pick rfl ?_); simp only [go_sem, ↓reduceIte, Nat.reduceEqDiff, Nat.reduceAdd, Nat.reduceLeDiff, Nat.reduceBEq, Nat.reduceMul, Int.reduceEq, Int.reduceLT, Int.reduceLE, decide_true, decide_false, Bool.not_true, Bool.not_false]; (first | refine splitB (fun hq => ?_) (fun hq => ?_) | refine splitN (fun hq => ?_) (fun hq => ?_) | (refine slc_sl (by simp only [go_sem]) rfl rfl (by first | omega | simp) (by first | omega | simp) (by simp only [go_sem]; omega) ?_) | (refine ⟨by omega, by omega, ?_⟩; first | refine row_at (by assumption) ?_ | (intro row hrow; obtain ⟨x, hx, rfl⟩ := row_inv hrow; clear hrow) | (intro row hrow)) | (refine ⟨by omega, ?_⟩; refine row_at (by assumption) ?_) | skip) <;> (refine HK _ _ rfl ?_; clear HK K))
    | refine aq0 rfl rfl ?_
    | refine aq_nil ?_
    | (refine aw_draw mixd (by kernel_rfl) ?_)
    | refine ao_appB rfl rfl rfl rfl (by first | assumption | (simp only [go_sem, ↓reduceIte, Nat.reduceEqDiff, Nat.reduceAdd, Nat.reduceLeDiff, Nat.reduceBEq, Nat.reduceMul, Int.reduceEq, Int.reduceLT, Int.reduceLE, decide_true, decide_false, Bool.not_true, Bool.not_false]; rfl) | (simp only [go_sem, ↓reduceIte, Nat.reduceEqDiff, Nat.reduceAdd, Nat.reduceLeDiff, Nat.reduceBEq, Nat.reduceMul, Int.reduceEq, Int.reduceLT, Int.reduceLE, decide_true, decide_false, Bool.not_true, Bool.not_false]; done)) (by simp) (by simp only [go_sem]; rfl) (by first | assumption | (simp only [go_sem, ↓reduceIte, Nat.reduceEqDiff, Nat.reduceAdd, Nat.reduceLeDiff, Nat.reduceBEq, Nat.reduceMul, Int.reduceEq, Int.reduceLT, Int.reduceLE, decide_true, decide_false, Bool.not_true, Bool.not_false]; rfl) | (simp only [go_sem, ↓reduceIte, Nat.reduceEqDiff, Nat.reduceAdd, Nat.reduceLeDiff, Nat.reduceBEq, Nat.reduceMul, Int.reduceEq, Int.reduceLT, Int.reduceLE, decide_true, decide_false, Bool.not_true, Bool.not_false]; done)) (by simp) (by first | assumption | exact rowsOk_nil _ | exact rowsOk_by _ | (rw [byD_cut]; exact rowsOk_by _) | (simp [rowsOk, D.one, Value.oneCell']; done)) (by first | omega | (simp; done) | (simp; omega) | (simp [byD]; omega)) ?_
    | refine ao_appNB rfl rfl rfl rfl (by simp only [go_sem]; rfl) (by first | assumption | (simp only [go_sem, ↓reduceIte, Nat.reduceEqDiff, Nat.reduceAdd, Nat.reduceLeDiff, Nat.reduceBEq, Nat.reduceMul, Int.reduceEq, Int.reduceLT, Int.reduceLE, decide_true, decide_false, Bool.not_true, Bool.not_false]; rfl) | (simp only [go_sem, ↓reduceIte, Nat.reduceEqDiff, Nat.reduceAdd, Nat.reduceLeDiff, Nat.reduceBEq, Nat.reduceMul, Int.reduceEq, Int.reduceLT, Int.reduceLE, decide_true, decide_false, Bool.not_true, Bool.not_false]; done)) (by simp) (by first | assumption | exact rowsOk_nil _ | exact rowsOk_by _ | (rw [byD_cut]; exact rowsOk_by _) | (simp [rowsOk, D.one, Value.oneCell']; done)) (by first | omega | (simp; done) | (simp; omega) | (simp [byD]; omega)) ?_
    | refine ao_appR rfl rfl rfl (by first | assumption | (simp only [go_sem, ↓reduceIte, Nat.reduceEqDiff, Nat.reduceAdd, Nat.reduceLeDiff, Nat.reduceBEq, Nat.reduceMul, Int.reduceEq, Int.reduceLT, Int.reduceLE, decide_true, decide_false, Bool.not_true, Bool.not_false]; rfl) | (simp only [go_sem, ↓reduceIte, Nat.reduceEqDiff, Nat.reduceAdd, Nat.reduceLeDiff, Nat.reduceBEq, Nat.reduceMul, Int.reduceEq, Int.reduceLT, Int.reduceLE, decide_true, decide_false, Bool.not_true, Bool.not_false]; done)) (by simp) (by simp only [go_sem]; rfl) rfl (by first | assumption | exact rowsOk_nil _ | exact rowsOk_by _ | (rw [byD_cut]; exact rowsOk_by _) | (simp [rowsOk, D.one, Value.oneCell']; done)) (by first | omega | (simp; done) | (simp; omega) | (simp [byD]; omega)) ?_
    | refine ao_appNR rfl rfl rfl (by simp only [go_sem]; rfl) rfl (by first | assumption | exact rowsOk_nil _ | exact rowsOk_by _ | (rw [byD_cut]; exact rowsOk_by _) | (simp [rowsOk, D.one, Value.oneCell']; done)) (by first | omega | (simp; done) | (simp; omega) | (simp [byD]; omega)) ?_
    | refine ao0 rfl rfl ?_
    | refine aq2 rfl rfl rfl ent_10 (qa _) ?_
    | (refine ao2 rfl rfl rfl ent_10 (qa _) ?_; rintro _ _ ⟨rfl, rfl⟩)
    | refine aq2 rfl rfl rfl ent_10 (qb _) ?_
    | (refine ao2 rfl rfl rfl ent_10 (qb _) ?_; rintro _ _ ⟨rfl, rfl⟩)
    | refine aq2 rfl rfl rfl ent_10 (q _) ?_
    | (refine ao2 rfl rfl rfl ent_10 (q _) ?_; rintro _ _ ⟨rfl, rfl⟩)
    | refine aq2 rfl rfl rfl ent_11 (aw _) ?_
    | (refine ao2 rfl rfl rfl ent_11 (aw _) ?_; rintro _ _ ⟨rfl, rfl⟩)
    | (refine ao1' rfl fun K HK => ?_; simp only [go_sem, ↓reduceIte, Nat.reduceEqDiff, Nat.reduceAdd, Nat.reduceLeDiff, Nat.reduceBEq, Nat.reduceMul, Int.reduceEq, Int.reduceLT, Int.reduceLE, decide_true, decide_false, Bool.not_true, Bool.not_false]; refine HK _ _ ?_; clear HK K)
    | refine ao0' rfl ?_
    | refine aw_if1 rfl ?_
    | refine aw_if0 rfl ?_
    | refine aw_skip ?_
    | refine aw_exit ?_
    | refine aw_ret ?_
    | refine thenS_n ?_
    | refine thenS_x ?_
    | refine thenS_r ?_
    | refine inB_n ?_
    | refine inB_r ?_
    | refine inB_x ?_
    | refine inB_y rfl ?_
    | (exfalso; omega)
   exact ⟨.inr rfl, endD (r := .v _) hl0 rfl (by simp) (by simp) rfl (by rw [low]; trivial) ⟨rfl, rfl⟩⟩
 have qc := small_y G hG (by decide) sc
 have oa := okL_of_small na sa
 have ob := okL_of_small nb sb
 have oc := okL_of_small nc sc
 have oab := joinL_ok oa ob
 have obc := joinL_ok ob oc
 have om := minusL_ok (b := b) oa
 have la := sa.1
 have lb := sb.1
 have lc := sc.1
 have lab := joinL_len a b
 have lbc := joinL_len b c
 have lm := minusL_len a b
 have l1 := joinL_len (joinL a b) c
 have l2 := joinL_len b a
 have l3 := joinL_len a a
 have l4 := minusL_len (joinL a b) b
 have l5 := joinL_len (minusL a b) b
 have f1 := sameL_of (join_assoc oa ob oc)
 have f2 := sameL_of (join_comm oa ob)
 have f3 := sameL_of (join_self oa)
 have f4 := sameL_of (minus_join oa ob)
 have f5 := sameL_of (join_minus oa ob)
 have p1 := joinL_ok oab oc
 have p2 := joinL_ok oa obc
 have p3 := joinL_ok ob oa
 have p4 := joinL_ok oa oa
 have p5 := minusL_ok (b := b) oab
 have p6 := joinL_ok om ob
 have p7 := ofL_ok oa
 repeat' first
  | refine aw_seq' ?_
  | refine aw_region' ?_
  | refine aw_block ?_
  | refine ao_nil ?_
  | (refine ao1 rfl rfl fun K HK => ?_; (try refine aOp_pick rfl ?_); simp only [go_sem, ↓reduceIte, Nat.reduceEqDiff, Nat.reduceAdd, Nat.reduceLeDiff, Nat.reduceBEq, Nat.reduceMul, Int.reduceEq, Int.reduceLT, Int.reduceLE, decide_true, decide_false, Bool.not_true, Bool.not_false, f1, f2, f3, f4, f5]; (first | refine splitB (fun hq => ?_) (fun hq => ?_) | refine splitN (fun hq => ?_) (fun hq => ?_) | (refine slc_sl (by simp only [go_sem]) rfl rfl (by first | omega | simp) (by first | omega | simp) (by simp only [go_sem]; omega) ?_) | (refine ⟨by omega, by omega, ?_⟩; first | refine row_at (by assumption) ?_ | (intro row hrow; obtain ⟨x, hx, rfl⟩ := row_inv hrow; clear hrow) | (intro row hrow)) | (refine ⟨by omega, ?_⟩; refine row_at (by assumption) ?_) | skip) <;> (refine HK _ _ ?_; clear HK K))
  | (refine aq1 rfl rfl fun K HK => ?_; (try refine aOp_pick rfl ?_); simp only [go_sem, ↓reduceIte, Nat.reduceEqDiff, Nat.reduceAdd, Nat.reduceLeDiff, Nat.reduceBEq, Nat.reduceMul, Int.reduceEq, Int.reduceLT, Int.reduceLE, decide_true, decide_false, Bool.not_true, Bool.not_false, f1, f2, f3, f4, f5]; (first | refine splitB (fun hq => ?_) (fun hq => ?_) | refine splitN (fun hq => ?_) (fun hq => ?_) | (refine slc_sl (by simp only [go_sem]) rfl rfl (by first | omega | simp) (by first | omega | simp) (by simp only [go_sem]; omega) ?_) | (refine ⟨by omega, by omega, ?_⟩; first | refine row_at (by assumption) ?_ | (intro row hrow; obtain ⟨x, hx, rfl⟩ := row_inv hrow; clear hrow) | (intro row hrow)) | (refine ⟨by omega, ?_⟩; refine row_at (by assumption) ?_) | skip) <;> (refine HK _ _ rfl ?_; clear HK K))
  | refine aq0 rfl rfl ?_
  | refine aq_nil ?_
  | (refine aw_draw mixd (by kernel_rfl) ?_)
  | refine ao_appB rfl rfl rfl rfl (by first | assumption | (simp only [go_sem, ↓reduceIte, Nat.reduceEqDiff, Nat.reduceAdd, Nat.reduceLeDiff, Nat.reduceBEq, Nat.reduceMul, Int.reduceEq, Int.reduceLT, Int.reduceLE, decide_true, decide_false, Bool.not_true, Bool.not_false, f1, f2, f3, f4, f5]; rfl) | (simp only [go_sem, ↓reduceIte, Nat.reduceEqDiff, Nat.reduceAdd, Nat.reduceLeDiff, Nat.reduceBEq, Nat.reduceMul, Int.reduceEq, Int.reduceLT, Int.reduceLE, decide_true, decide_false, Bool.not_true, Bool.not_false, f1, f2, f3, f4, f5]; done)) (by simp) (by simp only [go_sem]; rfl) (by first | assumption | (simp only [go_sem, ↓reduceIte, Nat.reduceEqDiff, Nat.reduceAdd, Nat.reduceLeDiff, Nat.reduceBEq, Nat.reduceMul, Int.reduceEq, Int.reduceLT, Int.reduceLE, decide_true, decide_false, Bool.not_true, Bool.not_false, f1, f2, f3, f4, f5]; rfl) | (simp only [go_sem, ↓reduceIte, Nat.reduceEqDiff, Nat.reduceAdd, Nat.reduceLeDiff, Nat.reduceBEq, Nat.reduceMul, Int.reduceEq, Int.reduceLT, Int.reduceLE, decide_true, decide_false, Bool.not_true, Bool.not_false, f1, f2, f3, f4, f5]; done)) (by simp) (by first | assumption | exact rowsOk_nil _ | exact rowsOk_by _ | (rw [byD_cut]; exact rowsOk_by _) | (simp [rowsOk, D.one, Value.oneCell']; done)) (by first | omega | (simp; done) | (simp; omega) | (simp [byD]; omega)) ?_
  | refine ao_appNB rfl rfl rfl rfl (by simp only [go_sem]; rfl) (by first | assumption | (simp only [go_sem, ↓reduceIte, Nat.reduceEqDiff, Nat.reduceAdd, Nat.reduceLeDiff, Nat.reduceBEq, Nat.reduceMul, Int.reduceEq, Int.reduceLT, Int.reduceLE, decide_true, decide_false, Bool.not_true, Bool.not_false, f1, f2, f3, f4, f5]; rfl) | (simp only [go_sem, ↓reduceIte, Nat.reduceEqDiff, Nat.reduceAdd, Nat.reduceLeDiff, Nat.reduceBEq, Nat.reduceMul, Int.reduceEq, Int.reduceLT, Int.reduceLE, decide_true, decide_false, Bool.not_true, Bool.not_false, f1, f2, f3, f4, f5]; done)) (by simp) (by first | assumption | exact rowsOk_nil _ | exact rowsOk_by _ | (rw [byD_cut]; exact rowsOk_by _) | (simp [rowsOk, D.one, Value.oneCell']; done)) (by first | omega | (simp; done) | (simp; omega) | (simp [byD]; omega)) ?_
  | refine ao_appR rfl rfl rfl (by first | assumption | (simp only [go_sem, ↓reduceIte, Nat.reduceEqDiff, Nat.reduceAdd, Nat.reduceLeDiff, Nat.reduceBEq, Nat.reduceMul, Int.reduceEq, Int.reduceLT, Int.reduceLE, decide_true, decide_false, Bool.not_true, Bool.not_false, f1, f2, f3, f4, f5]; rfl) | (simp only [go_sem, ↓reduceIte, Nat.reduceEqDiff, Nat.reduceAdd, Nat.reduceLeDiff, Nat.reduceBEq, Nat.reduceMul, Int.reduceEq, Int.reduceLT, Int.reduceLE, decide_true, decide_false, Bool.not_true, Bool.not_false, f1, f2, f3, f4, f5]; done)) (by simp) (by simp only [go_sem]; rfl) rfl (by first | assumption | exact rowsOk_nil _ | exact rowsOk_by _ | (rw [byD_cut]; exact rowsOk_by _) | (simp [rowsOk, D.one, Value.oneCell']; done)) (by first | omega | (simp; done) | (simp; omega) | (simp [byD]; omega)) ?_
  | refine ao_appNR rfl rfl rfl (by simp only [go_sem]; rfl) rfl (by first | assumption | exact rowsOk_nil _ | exact rowsOk_by _ | (rw [byD_cut]; exact rowsOk_by _) | (simp [rowsOk, D.one, Value.oneCell']; done)) (by first | omega | (simp; done) | (simp; omega) | (simp [byD]; omega)) ?_
  | refine ao0 rfl rfl ?_
  | refine aq2 rfl rfl rfl ent_10 (qa _) ?_
  | (refine ao2 rfl rfl rfl ent_10 (qa _) ?_; rintro _ _ ⟨rfl, rfl⟩)
  | refine aq2 rfl rfl rfl ent_10 (qb _) ?_
  | (refine ao2 rfl rfl rfl ent_10 (qb _) ?_; rintro _ _ ⟨rfl, rfl⟩)
  | refine aq2 rfl rfl rfl ent_10 (qc _) ?_
  | (refine ao2 rfl rfl rfl ent_10 (qc _) ?_; rintro _ _ ⟨rfl, rfl⟩)
  | refine aq2 rfl rfl rfl ent_11 (aw _) ?_
  | (refine ao2 rfl rfl rfl ent_11 (aw _) ?_; rintro _ _ ⟨rfl, rfl⟩)
  | refine aq2 rfl rfl rfl ent_12 (join_s G hG _ _ (by assumption) (by assumption) (by omega) (by omega) _) ?_
  | (refine ao2 rfl rfl rfl ent_12 (join_s G hG _ _ (by assumption) (by assumption) (by omega) (by omega) _) ?_; rintro _ _ ⟨rfl, rfl⟩)
  | refine aq2 rfl rfl rfl ent_15 (minus_s G hG _ _ (by assumption) (by assumption) (by omega) (by omega) _) ?_
  | (refine ao2 rfl rfl rfl ent_15 (minus_s G hG _ _ (by assumption) (by assumption) (by omega) (by omega) _) ?_; rintro _ _ ⟨rfl, rfl⟩)
  | refine aq2 rfl rfl rfl ent_14 (of_s G hG _ oa (by omega) _) ?_
  | (refine ao2 rfl rfl rfl ent_14 (of_s G hG _ oa (by omega) _) ?_; rintro _ _ ⟨rfl, rfl⟩)
  | refine aq2 rfl rfl rfl ent_13 (same_d G hG _ _ (by assumption) (by assumption) (by omega) _) ?_
  | (refine ao2 rfl rfl rfl ent_13 (same_d G hG _ _ (by assumption) (by assumption) (by omega) _) ?_; rintro _ _ ⟨rfl, rfl⟩)
  | (refine ao1' rfl fun K HK => ?_; simp only [go_sem, ↓reduceIte, Nat.reduceEqDiff, Nat.reduceAdd, Nat.reduceLeDiff, Nat.reduceBEq, Nat.reduceMul, Int.reduceEq, Int.reduceLT, Int.reduceLE, decide_true, decide_false, Bool.not_true, Bool.not_false, f1, f2, f3, f4, f5]; refine HK _ _ ?_; clear HK K)
  | refine ao0' rfl ?_
  | refine aw_if1 rfl ?_
  | refine aw_if0 rfl ?_
  | refine aw_skip ?_
  | refine aw_exit ?_
  | refine aw_ret ?_
  | refine thenS_n ?_
  | refine thenS_x ?_
  | refine thenS_r ?_
  | refine inB_n ?_
  | refine inB_r ?_
  | refine inB_x ?_
  | refine inB_y rfl ?_
  | (exfalso; omega)
 exact ⟨.inr rfl, endD (r := .v _) hl0 rfl (by simp) (by simp) rfl (by rw [low]; trivial) ⟨rfl, rfl⟩⟩
theorem lawSubset (aw : Awake G) (a b : List Cmd) (na : ∀ x ∈ a, Nums x) (nb : ∀ x ∈ b, Nums x) (h : List Ob) : Does Tryz.prog G 9 h [.sl 6 (a.map cmdX), .sl 6 (b.map cmdX)] (fun h' r => h' = h ∧ r = .v (.bool true)) := by
 refine does_any G hG (by rw [lowL, lowL, lowL]; exact ⟨low_cms _ _, low_cms _ _, trivial⟩) (by rw [low]; trivial) ?_ h
 refine does_of_aw Tryz.func9 rfl (Nat.le_of_ble_eq_true rfl) hG fun hl0 _ => ?_
 simp only [Tryz.ntmps9]
 by_cases sa : SmallL a 12
 rotate_left
 · have q := small_n G hG (by decide) sa
   repeat' first
    | refine aw_seq' ?_
    | refine aw_region' ?_
    | refine aw_block ?_
    | refine ao_nil ?_
    | (refine ao1 rfl rfl fun K HK => ?_; (try refine aOp_pick rfl ?_); simp only [go_sem, ↓reduceIte, Nat.reduceEqDiff, Nat.reduceAdd, Nat.reduceLeDiff, Nat.reduceBEq, Nat.reduceMul, Int.reduceEq, Int.reduceLT, Int.reduceLE, decide_true, decide_false, Bool.not_true, Bool.not_false]; (first | refine splitB (fun hq => ?_) (fun hq => ?_) | refine splitN (fun hq => ?_) (fun hq => ?_) | (refine slc_sl (by simp only [go_sem]) rfl rfl (by first | omega | simp) (by first | omega | simp) (by simp only [go_sem]; omega) ?_) | (refine ⟨by omega, by omega, ?_⟩; first | refine row_at (by assumption) ?_ | (intro row hrow; obtain ⟨x, hx, rfl⟩ := row_inv hrow; clear hrow) | (intro row hrow)) | (refine ⟨by omega, ?_⟩; refine row_at (by assumption) ?_) | skip) <;> (refine HK _ _ ?_; clear HK K))
    | (refine aq1 rfl rfl fun K HK => ?_; (try refine aOp_pick rfl ?_); simp only [go_sem, ↓reduceIte, Nat.reduceEqDiff, Nat.reduceAdd, Nat.reduceLeDiff, Nat.reduceBEq, Nat.reduceMul, Int.reduceEq, Int.reduceLT, Int.reduceLE, decide_true, decide_false, Bool.not_true, Bool.not_false]; (first | refine splitB (fun hq => ?_) (fun hq => ?_) | refine splitN (fun hq => ?_) (fun hq => ?_) | (refine slc_sl (by simp only [go_sem]) rfl rfl (by first | omega | simp) (by first | omega | simp) (by simp only [go_sem]; omega) ?_) | (refine ⟨by omega, by omega, ?_⟩; first | refine row_at (by assumption) ?_ | (intro row hrow; obtain ⟨x, hx, rfl⟩ := row_inv hrow; clear hrow) | (intro row hrow)) | (refine ⟨by omega, ?_⟩; refine row_at (by assumption) ?_) | skip) <;> (refine HK _ _ rfl ?_; clear HK K))
    | refine aq0 rfl rfl ?_
    | refine aq_nil ?_
    | (refine aw_draw mixd (by kernel_rfl) ?_)
    | refine ao_appB rfl rfl rfl rfl (by first | assumption | (simp only [go_sem, ↓reduceIte, Nat.reduceEqDiff, Nat.reduceAdd, Nat.reduceLeDiff, Nat.reduceBEq, Nat.reduceMul, Int.reduceEq, Int.reduceLT, Int.reduceLE, decide_true, decide_false, Bool.not_true, Bool.not_false]; rfl) | (simp only [go_sem, ↓reduceIte, Nat.reduceEqDiff, Nat.reduceAdd, Nat.reduceLeDiff, Nat.reduceBEq, Nat.reduceMul, Int.reduceEq, Int.reduceLT, Int.reduceLE, decide_true, decide_false, Bool.not_true, Bool.not_false]; done)) (by simp) (by simp only [go_sem]; rfl) (by first | assumption | (simp only [go_sem, ↓reduceIte, Nat.reduceEqDiff, Nat.reduceAdd, Nat.reduceLeDiff, Nat.reduceBEq, Nat.reduceMul, Int.reduceEq, Int.reduceLT, Int.reduceLE, decide_true, decide_false, Bool.not_true, Bool.not_false]; rfl) | (simp only [go_sem, ↓reduceIte, Nat.reduceEqDiff, Nat.reduceAdd, Nat.reduceLeDiff, Nat.reduceBEq, Nat.reduceMul, Int.reduceEq, Int.reduceLT, Int.reduceLE, decide_true, decide_false, Bool.not_true, Bool.not_false]; done)) (by simp) (by first | assumption | exact rowsOk_nil _ | exact rowsOk_by _ | (rw [byD_cut]; exact rowsOk_by _) | (simp [rowsOk, D.one, Value.oneCell']; done)) (by first | omega | (simp; done) | (simp; omega) | (simp [byD]; omega)) ?_
    | refine ao_appNB rfl rfl rfl rfl (by simp only [go_sem]; rfl) (by first | assumption | (simp only [go_sem, ↓reduceIte, Nat.reduceEqDiff, Nat.reduceAdd, Nat.reduceLeDiff, Nat.reduceBEq, Nat.reduceMul, Int.reduceEq, Int.reduceLT, Int.reduceLE, decide_true, decide_false, Bool.not_true, Bool.not_false]; rfl) | (simp only [go_sem, ↓reduceIte, Nat.reduceEqDiff, Nat.reduceAdd, Nat.reduceLeDiff, Nat.reduceBEq, Nat.reduceMul, Int.reduceEq, Int.reduceLT, Int.reduceLE, decide_true, decide_false, Bool.not_true, Bool.not_false]; done)) (by simp) (by first | assumption | exact rowsOk_nil _ | exact rowsOk_by _ | (rw [byD_cut]; exact rowsOk_by _) | (simp [rowsOk, D.one, Value.oneCell']; done)) (by first | omega | (simp; done) | (simp; omega) | (simp [byD]; omega)) ?_
    | refine ao_appR rfl rfl rfl (by first | assumption | (simp only [go_sem, ↓reduceIte, Nat.reduceEqDiff, Nat.reduceAdd, Nat.reduceLeDiff, Nat.reduceBEq, Nat.reduceMul, Int.reduceEq, Int.reduceLT, Int.reduceLE, decide_true, decide_false, Bool.not_true, Bool.not_false]; rfl) | (simp only [go_sem, ↓reduceIte, Nat.reduceEqDiff, Nat.reduceAdd, Nat.reduceLeDiff, Nat.reduceBEq, Nat.reduceMul, Int.reduceEq, Int.reduceLT, Int.reduceLE, decide_true, decide_false, Bool.not_true, Bool.not_false]; done)) (by simp) (by simp only [go_sem]; rfl) rfl (by first | assumption | exact rowsOk_nil _ | exact rowsOk_by _ | (rw [byD_cut]; exact rowsOk_by _) | (simp [rowsOk, D.one, Value.oneCell']; done)) (by first | omega | (simp; done) | (simp; omega) | (simp [byD]; omega)) ?_
    | refine ao_appNR rfl rfl rfl (by simp only [go_sem]; rfl) rfl (by first | assumption | exact rowsOk_nil _ | exact rowsOk_by _ | (rw [byD_cut]; exact rowsOk_by _) | (simp [rowsOk, D.one, Value.oneCell']; done)) (by first | omega | (simp; done) | (simp; omega) | (simp [byD]; omega)) ?_
    | refine ao0 rfl rfl ?_
    | refine aq2 rfl rfl rfl ent_10 (q _) ?_
    | (refine ao2 rfl rfl rfl ent_10 (q _) ?_; rintro _ _ ⟨rfl, rfl⟩)
    | refine aq2 rfl rfl rfl ent_11 (aw _) ?_
    | (refine ao2 rfl rfl rfl ent_11 (aw _) ?_; rintro _ _ ⟨rfl, rfl⟩)
    | (refine ao1' rfl fun K HK => ?_; simp only [go_sem, ↓reduceIte, Nat.reduceEqDiff, Nat.reduceAdd, Nat.reduceLeDiff, Nat.reduceBEq, Nat.reduceMul, Int.reduceEq, Int.reduceLT, Int.reduceLE, decide_true, decide_false, Bool.not_true, Bool.not_false]; refine HK _ _ ?_; clear HK K)
    | refine ao0' rfl ?_
    | refine aw_if1 rfl ?_
    | refine aw_if0 rfl ?_
    | refine aw_skip ?_
    | refine aw_exit ?_
    | refine aw_ret ?_
    | refine thenS_n ?_
    | refine thenS_x ?_
    | refine thenS_r ?_
    | refine inB_n ?_
    | refine inB_r ?_
    | refine inB_x ?_
    | refine inB_y rfl ?_
    | (exfalso; omega)
   exact ⟨.inr rfl, endD (r := .v _) hl0 rfl (by simp) (by simp) rfl (by rw [low]; trivial) ⟨rfl, rfl⟩⟩
 have qa := small_y G hG (by decide) sa
 by_cases sb : SmallL b 12
 rotate_left
 · have q := small_n G hG (by decide) sb
   repeat' first
    | refine aw_seq' ?_
    | refine aw_region' ?_
    | refine aw_block ?_
    | refine ao_nil ?_
    | (refine ao1 rfl rfl fun K HK => ?_; (try refine aOp_pick rfl ?_); simp only [go_sem, ↓reduceIte, Nat.reduceEqDiff, Nat.reduceAdd, Nat.reduceLeDiff, Nat.reduceBEq, Nat.reduceMul, Int.reduceEq, Int.reduceLT, Int.reduceLE, decide_true, decide_false, Bool.not_true, Bool.not_false]; (first | refine splitB (fun hq => ?_) (fun hq => ?_) | refine splitN (fun hq => ?_) (fun hq => ?_) | (refine slc_sl (by simp only [go_sem]) rfl rfl (by first | omega | simp) (by first | omega | simp) (by simp only [go_sem]; omega) ?_) | (refine ⟨by omega, by omega, ?_⟩; first | refine row_at (by assumption) ?_ | (intro row hrow; obtain ⟨x, hx, rfl⟩ := row_inv hrow; clear hrow) | (intro row hrow)) | (refine ⟨by omega, ?_⟩; refine row_at (by assumption) ?_) | skip) <;> (refine HK _ _ ?_; clear HK K))
    | (refine aq1 rfl rfl fun K HK => ?_; (try refine aOp_pick rfl ?_); simp only [go_sem, ↓reduceIte, Nat.reduceEqDiff, Nat.reduceAdd, Nat.reduceLeDiff, Nat.reduceBEq, Nat.reduceMul, Int.reduceEq, Int.reduceLT, Int.reduceLE, decide_true, decide_false, Bool.not_true, Bool.not_false]; (first | refine splitB (fun hq => ?_) (fun hq => ?_) | refine splitN (fun hq => ?_) (fun hq => ?_) | (refine slc_sl (by simp only [go_sem]) rfl rfl (by first | omega | simp) (by first | omega | simp) (by simp only [go_sem]; omega) ?_) | (refine ⟨by omega, by omega, ?_⟩; first | refine row_at (by assumption) ?_ | (intro row hrow; obtain ⟨x, hx, rfl⟩ := row_inv hrow; clear hrow) | (intro row hrow)) | (refine ⟨by omega, ?_⟩; refine row_at (by assumption) ?_) | skip) <;> (refine HK _ _ rfl ?_; clear HK K))
    | refine aq0 rfl rfl ?_
    | refine aq_nil ?_
    | (refine aw_draw mixd (by kernel_rfl) ?_)
    | refine ao_appB rfl rfl rfl rfl (by first | assumption | (simp only [go_sem, ↓reduceIte, Nat.reduceEqDiff, Nat.reduceAdd, Nat.reduceLeDiff, Nat.reduceBEq, Nat.reduceMul, Int.reduceEq, Int.reduceLT, Int.reduceLE, decide_true, decide_false, Bool.not_true, Bool.not_false]; rfl) | (simp only [go_sem, ↓reduceIte, Nat.reduceEqDiff, Nat.reduceAdd, Nat.reduceLeDiff, Nat.reduceBEq, Nat.reduceMul, Int.reduceEq, Int.reduceLT, Int.reduceLE, decide_true, decide_false, Bool.not_true, Bool.not_false]; done)) (by simp) (by simp only [go_sem]; rfl) (by first | assumption | (simp only [go_sem, ↓reduceIte, Nat.reduceEqDiff, Nat.reduceAdd, Nat.reduceLeDiff, Nat.reduceBEq, Nat.reduceMul, Int.reduceEq, Int.reduceLT, Int.reduceLE, decide_true, decide_false, Bool.not_true, Bool.not_false]; rfl) | (simp only [go_sem, ↓reduceIte, Nat.reduceEqDiff, Nat.reduceAdd, Nat.reduceLeDiff, Nat.reduceBEq, Nat.reduceMul, Int.reduceEq, Int.reduceLT, Int.reduceLE, decide_true, decide_false, Bool.not_true, Bool.not_false]; done)) (by simp) (by first | assumption | exact rowsOk_nil _ | exact rowsOk_by _ | (rw [byD_cut]; exact rowsOk_by _) | (simp [rowsOk, D.one, Value.oneCell']; done)) (by first | omega | (simp; done) | (simp; omega) | (simp [byD]; omega)) ?_
    | refine ao_appNB rfl rfl rfl rfl (by simp only [go_sem]; rfl) (by first | assumption | (simp only [go_sem, ↓reduceIte, Nat.reduceEqDiff, Nat.reduceAdd, Nat.reduceLeDiff, Nat.reduceBEq, Nat.reduceMul, Int.reduceEq, Int.reduceLT, Int.reduceLE, decide_true, decide_false, Bool.not_true, Bool.not_false]; rfl) | (simp only [go_sem, ↓reduceIte, Nat.reduceEqDiff, Nat.reduceAdd, Nat.reduceLeDiff, Nat.reduceBEq, Nat.reduceMul, Int.reduceEq, Int.reduceLT, Int.reduceLE, decide_true, decide_false, Bool.not_true, Bool.not_false]; done)) (by simp) (by first | assumption | exact rowsOk_nil _ | exact rowsOk_by _ | (rw [byD_cut]; exact rowsOk_by _) | (simp [rowsOk, D.one, Value.oneCell']; done)) (by first | omega | (simp; done) | (simp; omega) | (simp [byD]; omega)) ?_
    | refine ao_appR rfl rfl rfl (by first | assumption | (simp only [go_sem, ↓reduceIte, Nat.reduceEqDiff, Nat.reduceAdd, Nat.reduceLeDiff, Nat.reduceBEq, Nat.reduceMul, Int.reduceEq, Int.reduceLT, Int.reduceLE, decide_true, decide_false, Bool.not_true, Bool.not_false]; rfl) | (simp only [go_sem, ↓reduceIte, Nat.reduceEqDiff, Nat.reduceAdd, Nat.reduceLeDiff, Nat.reduceBEq, Nat.reduceMul, Int.reduceEq, Int.reduceLT, Int.reduceLE, decide_true, decide_false, Bool.not_true, Bool.not_false]; done)) (by simp) (by simp only [go_sem]; rfl) rfl (by first | assumption | exact rowsOk_nil _ | exact rowsOk_by _ | (rw [byD_cut]; exact rowsOk_by _) | (simp [rowsOk, D.one, Value.oneCell']; done)) (by first | omega | (simp; done) | (simp; omega) | (simp [byD]; omega)) ?_
    | refine ao_appNR rfl rfl rfl (by simp only [go_sem]; rfl) rfl (by first | assumption | exact rowsOk_nil _ | exact rowsOk_by _ | (rw [byD_cut]; exact rowsOk_by _) | (simp [rowsOk, D.one, Value.oneCell']; done)) (by first | omega | (simp; done) | (simp; omega) | (simp [byD]; omega)) ?_
    | refine ao0 rfl rfl ?_
    | refine aq2 rfl rfl rfl ent_10 (qa _) ?_
    | (refine ao2 rfl rfl rfl ent_10 (qa _) ?_; rintro _ _ ⟨rfl, rfl⟩)
    | refine aq2 rfl rfl rfl ent_10 (q _) ?_
    | (refine ao2 rfl rfl rfl ent_10 (q _) ?_; rintro _ _ ⟨rfl, rfl⟩)
    | refine aq2 rfl rfl rfl ent_11 (aw _) ?_
    | (refine ao2 rfl rfl rfl ent_11 (aw _) ?_; rintro _ _ ⟨rfl, rfl⟩)
    | (refine ao1' rfl fun K HK => ?_; simp only [go_sem, ↓reduceIte, Nat.reduceEqDiff, Nat.reduceAdd, Nat.reduceLeDiff, Nat.reduceBEq, Nat.reduceMul, Int.reduceEq, Int.reduceLT, Int.reduceLE, decide_true, decide_false, Bool.not_true, Bool.not_false]; refine HK _ _ ?_; clear HK K)
    | refine ao0' rfl ?_
    | refine aw_if1 rfl ?_
    | refine aw_if0 rfl ?_
    | refine aw_skip ?_
    | refine aw_exit ?_
    | refine aw_ret ?_
    | refine thenS_n ?_
    | refine thenS_x ?_
    | refine thenS_r ?_
    | refine inB_n ?_
    | refine inB_r ?_
    | refine inB_x ?_
    | refine inB_y rfl ?_
    | (exfalso; omega)
   exact ⟨.inr rfl, endD (r := .v _) hl0 rfl (by simp) (by simp) rfl (by rw [low]; trivial) ⟨rfl, rfl⟩⟩
 have qb := small_y G hG (by decide) sb
 have oa := okL_of_small na sa
 have ob := okL_of_small nb sb
 have oab := joinL_ok oa ob
 have oB := ofL_ok ob
 have oA := ofL_ok oa
 have la := sa.1
 have lb := sb.1
 have lab := joinL_len a b
 have q1 := subset_d G hG a b oa ob (by omega) (by omega)
 have q2 := subset_d G hG b a ob oa (by omega) (by omega)
 have q3 := equal_d G hG a b oa ob (by omega) (by omega)
 have f1 : sameL (joinL a b) (ofL b) = decide ((minusL a b).length = 0) := sameL_dec oab oB (by rw [minus_nil oa ob, sub_join oa ob])
 have f2 : sameL (ofL a) (ofL b) = (decide ((minusL a b).length = 0) && decide ((minusL b a).length = 0)) := by
  rw [← Bool.decide_and]
  exact sameL_dec oA oB (by rw [minus_nil oa ob, minus_nil ob oa, of_eq oa ob])
 rw [f2] at q3
 have f0 : decide (((minusL a b).length : Int) = 0) = decide ((minusL a b).length = 0) := by rw [decide_eq_decide]; omega
 have q4 := same_d G hG _ _ oab oB (by omega)
 rw [f1] at q4
 by_cases h1 : (minusL a b).length = 0
 · have h1' : ((minusL a b).length : Int) = 0 := by omega
   rw [decide_eq_true h1] at q1 q3 q4
   by_cases h2 : (minusL b a).length = 0
   · rw [decide_eq_true h2] at q2 q3
     repeat' first
      | refine aw_seq' ?_
      | refine aw_region' ?_
      | refine aw_block ?_
      | refine ao_nil ?_
      | (refine ao1 rfl rfl fun K HK => ?_; (try refine aOp_pick rfl ?_); simp only [go_sem, ↓reduceIte, Nat.reduceEqDiff, Nat.reduceAdd, Nat.reduceLeDiff, Nat.reduceBEq, Nat.reduceMul, Int.reduceEq, Int.reduceLT, Int.reduceLE, decide_true, decide_false, Bool.not_true, Bool.not_false, h1', List.length_map, Bool.and_self]; (first | refine splitB (fun hq => ?_) (fun hq => ?_) | refine splitN (fun hq => ?_) (fun hq => ?_) | (refine slc_sl (by simp only [go_sem]) rfl rfl (by first | omega | simp) (by first | omega | simp) (by simp only [go_sem]; omega) ?_) | (refine ⟨by omega, by omega, ?_⟩; first | refine row_at (by assumption) ?_ | (intro row hrow; obtain ⟨x, hx, rfl⟩ := row_inv hrow; clear hrow) | (intro row hrow)) | (refine ⟨by omega, ?_⟩; refine row_at (by assumption) ?_) | skip) <;> (refine HK _ _ ?_; clear HK K))
      | (refine aq1 rfl rfl fun K HK => ?_; (try refine aOp_pick rfl ?_); simp only [go_sem, ↓reduceIte, Nat.reduceEqDiff, Nat.reduceAdd, Nat.reduceLeDiff, Nat.reduceBEq, Nat.reduceMul, Int.reduceEq, Int.reduceLT, Int.reduceLE, decide_true, decide_false, Bool.not_true, Bool.not_false, h1', List.length_map, Bool.and_self]; (first | refine splitB (fun hq => ?_) (fun hq => ?_) | refine splitN (fun hq => ?_) (fun hq => ?_) | (refine slc_sl (by simp only [go_sem]) rfl rfl (by first | omega | simp) (by first | omega | simp) (by simp only [go_sem]; omega) ?_) | (refine ⟨by omega, by omega, ?_⟩; first | refine row_at (by assumption) ?_ | (intro row hrow; obtain ⟨x, hx, rfl⟩ := row_inv hrow; clear hrow) | (intro row hrow)) | (refine ⟨by omega, ?_⟩; refine row_at (by assumption) ?_) | skip) <;> (refine HK _ _ rfl ?_; clear HK K))
      | refine aq0 rfl rfl ?_
      | refine aq_nil ?_
      | (refine aw_draw mixd (by kernel_rfl) ?_)
      | refine ao_appB rfl rfl rfl rfl (by first | assumption | (simp only [go_sem, ↓reduceIte, Nat.reduceEqDiff, Nat.reduceAdd, Nat.reduceLeDiff, Nat.reduceBEq, Nat.reduceMul, Int.reduceEq, Int.reduceLT, Int.reduceLE, decide_true, decide_false, Bool.not_true, Bool.not_false, h1', List.length_map, Bool.and_self]; rfl) | (simp only [go_sem, ↓reduceIte, Nat.reduceEqDiff, Nat.reduceAdd, Nat.reduceLeDiff, Nat.reduceBEq, Nat.reduceMul, Int.reduceEq, Int.reduceLT, Int.reduceLE, decide_true, decide_false, Bool.not_true, Bool.not_false, h1', List.length_map, Bool.and_self]; done)) (by simp) (by simp only [go_sem]; rfl) (by first | assumption | (simp only [go_sem, ↓reduceIte, Nat.reduceEqDiff, Nat.reduceAdd, Nat.reduceLeDiff, Nat.reduceBEq, Nat.reduceMul, Int.reduceEq, Int.reduceLT, Int.reduceLE, decide_true, decide_false, Bool.not_true, Bool.not_false, h1', List.length_map, Bool.and_self]; rfl) | (simp only [go_sem, ↓reduceIte, Nat.reduceEqDiff, Nat.reduceAdd, Nat.reduceLeDiff, Nat.reduceBEq, Nat.reduceMul, Int.reduceEq, Int.reduceLT, Int.reduceLE, decide_true, decide_false, Bool.not_true, Bool.not_false, h1', List.length_map, Bool.and_self]; done)) (by simp) (by first | assumption | exact rowsOk_nil _ | exact rowsOk_by _ | (rw [byD_cut]; exact rowsOk_by _) | (simp [rowsOk, D.one, Value.oneCell']; done)) (by first | omega | (simp; done) | (simp; omega) | (simp [byD]; omega)) ?_
      | refine ao_appNB rfl rfl rfl rfl (by simp only [go_sem]; rfl) (by first | assumption | (simp only [go_sem, ↓reduceIte, Nat.reduceEqDiff, Nat.reduceAdd, Nat.reduceLeDiff, Nat.reduceBEq, Nat.reduceMul, Int.reduceEq, Int.reduceLT, Int.reduceLE, decide_true, decide_false, Bool.not_true, Bool.not_false, h1', List.length_map, Bool.and_self]; rfl) | (simp only [go_sem, ↓reduceIte, Nat.reduceEqDiff, Nat.reduceAdd, Nat.reduceLeDiff, Nat.reduceBEq, Nat.reduceMul, Int.reduceEq, Int.reduceLT, Int.reduceLE, decide_true, decide_false, Bool.not_true, Bool.not_false, h1', List.length_map, Bool.and_self]; done)) (by simp) (by first | assumption | exact rowsOk_nil _ | exact rowsOk_by _ | (rw [byD_cut]; exact rowsOk_by _) | (simp [rowsOk, D.one, Value.oneCell']; done)) (by first | omega | (simp; done) | (simp; omega) | (simp [byD]; omega)) ?_
      | refine ao_appR rfl rfl rfl (by first | assumption | (simp only [go_sem, ↓reduceIte, Nat.reduceEqDiff, Nat.reduceAdd, Nat.reduceLeDiff, Nat.reduceBEq, Nat.reduceMul, Int.reduceEq, Int.reduceLT, Int.reduceLE, decide_true, decide_false, Bool.not_true, Bool.not_false, h1', List.length_map, Bool.and_self]; rfl) | (simp only [go_sem, ↓reduceIte, Nat.reduceEqDiff, Nat.reduceAdd, Nat.reduceLeDiff, Nat.reduceBEq, Nat.reduceMul, Int.reduceEq, Int.reduceLT, Int.reduceLE, decide_true, decide_false, Bool.not_true, Bool.not_false, h1', List.length_map, Bool.and_self]; done)) (by simp) (by simp only [go_sem]; rfl) rfl (by first | assumption | exact rowsOk_nil _ | exact rowsOk_by _ | (rw [byD_cut]; exact rowsOk_by _) | (simp [rowsOk, D.one, Value.oneCell']; done)) (by first | omega | (simp; done) | (simp; omega) | (simp [byD]; omega)) ?_
      | refine ao_appNR rfl rfl rfl (by simp only [go_sem]; rfl) rfl (by first | assumption | exact rowsOk_nil _ | exact rowsOk_by _ | (rw [byD_cut]; exact rowsOk_by _) | (simp [rowsOk, D.one, Value.oneCell']; done)) (by first | omega | (simp; done) | (simp; omega) | (simp [byD]; omega)) ?_
      | refine ao0 rfl rfl ?_
      | refine aq2 rfl rfl rfl ent_10 (qa _) ?_
      | (refine ao2 rfl rfl rfl ent_10 (qa _) ?_; rintro _ _ ⟨rfl, rfl⟩)
      | refine aq2 rfl rfl rfl ent_10 (qb _) ?_
      | (refine ao2 rfl rfl rfl ent_10 (qb _) ?_; rintro _ _ ⟨rfl, rfl⟩)
      | refine aq2 rfl rfl rfl ent_11 (aw _) ?_
      | (refine ao2 rfl rfl rfl ent_11 (aw _) ?_; rintro _ _ ⟨rfl, rfl⟩)
      | refine aq2 rfl rfl rfl ent_12 (join_s G hG _ _ (by assumption) (by assumption) (by omega) (by omega) _) ?_
      | (refine ao2 rfl rfl rfl ent_12 (join_s G hG _ _ (by assumption) (by assumption) (by omega) (by omega) _) ?_; rintro _ _ ⟨rfl, rfl⟩)
      | refine aq2 rfl rfl rfl ent_15 (minus_s G hG _ _ (by assumption) (by assumption) (by omega) (by omega) _) ?_
      | (refine ao2 rfl rfl rfl ent_15 (minus_s G hG _ _ (by assumption) (by assumption) (by omega) (by omega) _) ?_; rintro _ _ ⟨rfl, rfl⟩)
      | refine aq2 rfl rfl rfl ent_14 (of_s G hG _ ob (by omega) _) ?_
      | (refine ao2 rfl rfl rfl ent_14 (of_s G hG _ ob (by omega) _) ?_; rintro _ _ ⟨rfl, rfl⟩)
      | refine aq2 rfl rfl rfl ent_13 (q4 _) ?_
      | (refine ao2 rfl rfl rfl ent_13 (q4 _) ?_; rintro _ _ ⟨rfl, rfl⟩)
      | refine aq2 rfl rfl rfl ent_35 (q1 _) ?_
      | (refine ao2 rfl rfl rfl ent_35 (q1 _) ?_; rintro _ _ ⟨rfl, rfl⟩)
      | refine aq2 rfl rfl rfl ent_35 (q2 _) ?_
      | (refine ao2 rfl rfl rfl ent_35 (q2 _) ?_; rintro _ _ ⟨rfl, rfl⟩)
      | refine aq2 rfl rfl rfl ent_36 (q3 _) ?_
      | (refine ao2 rfl rfl rfl ent_36 (q3 _) ?_; rintro _ _ ⟨rfl, rfl⟩)
      | (refine ao1' rfl fun K HK => ?_; simp only [go_sem, ↓reduceIte, Nat.reduceEqDiff, Nat.reduceAdd, Nat.reduceLeDiff, Nat.reduceBEq, Nat.reduceMul, Int.reduceEq, Int.reduceLT, Int.reduceLE, decide_true, decide_false, Bool.not_true, Bool.not_false, h1', List.length_map, Bool.and_self]; refine HK _ _ ?_; clear HK K)
      | refine ao0' rfl ?_
      | refine aw_if1 rfl ?_
      | refine aw_if0 rfl ?_
      | refine aw_skip ?_
      | refine aw_exit ?_
      | refine aw_ret ?_
      | refine thenS_n ?_
      | refine thenS_x ?_
      | refine thenS_r ?_
      | refine inB_n ?_
      | refine inB_r ?_
      | refine inB_x ?_
      | refine inB_y rfl ?_
      | (exfalso; omega)
     exact ⟨.inr rfl, endD (r := .v _) hl0 rfl (by simp) (by simp) rfl (by rw [low]; trivial) ⟨rfl, rfl⟩⟩
   · rw [decide_eq_false h2] at q2 q3
     repeat' first
      | refine aw_seq' ?_
      | refine aw_region' ?_
      | refine aw_block ?_
      | refine ao_nil ?_
      | (refine ao1 rfl rfl fun K HK => ?_; (try refine aOp_pick rfl ?_); simp only [go_sem, ↓reduceIte, Nat.reduceEqDiff, Nat.reduceAdd, Nat.reduceLeDiff, Nat.reduceBEq, Nat.reduceMul, Int.reduceEq, Int.reduceLT, Int.reduceLE, decide_true, decide_false, Bool.not_true, Bool.not_false, h1', List.length_map, Bool.and_false]; (first | refine splitB (fun hq => ?_) (fun hq => ?_) | refine splitN (fun hq => ?_) (fun hq => ?_) | (refine slc_sl (by simp only [go_sem]) rfl rfl (by first | omega | simp) (by first | omega | simp) (by simp only [go_sem]; omega) ?_) | (refine ⟨by omega, by omega, ?_⟩; first | refine row_at (by assumption) ?_ | (intro row hrow; obtain ⟨x, hx, rfl⟩ := row_inv hrow; clear hrow) | (intro row hrow)) | (refine ⟨by omega, ?_⟩; refine row_at (by assumption) ?_) | skip) <;> (refine HK _ _ ?_; clear HK K))
      | (refine aq1 rfl rfl fun K HK => ?_; (try refine aOp_pick rfl ?_); simp only [go_sem, ↓reduceIte, Nat.reduceEqDiff, Nat.reduceAdd, Nat.reduceLeDiff, Nat.reduceBEq, Nat.reduceMul, Int.reduceEq, Int.reduceLT, Int.reduceLE, decide_true, decide_false, Bool.not_true, Bool.not_false, h1', List.length_map, Bool.and_false]; (first | refine splitB (fun hq => ?_) (fun hq => ?_) | refine splitN (fun hq => ?_) (fun hq => ?_) | (refine slc_sl (by simp only [go_sem]) rfl rfl (by first | omega | simp) (by first | omega | simp) (by simp only [go_sem]; omega) ?_) | (refine ⟨by omega, by omega, ?_⟩; first | refine row_at (by assumption) ?_ | (intro row hrow; obtain ⟨x, hx, rfl⟩ := row_inv hrow; clear hrow) | (intro row hrow)) | (refine ⟨by omega, ?_⟩; refine row_at (by assumption) ?_) | skip) <;> (refine HK _ _ rfl ?_; clear HK K))
      | refine aq0 rfl rfl ?_
      | refine aq_nil ?_
      | (refine aw_draw mixd (by kernel_rfl) ?_)
      | refine ao_appB rfl rfl rfl rfl (by first | assumption | (simp only [go_sem, ↓reduceIte, Nat.reduceEqDiff, Nat.reduceAdd, Nat.reduceLeDiff, Nat.reduceBEq, Nat.reduceMul, Int.reduceEq, Int.reduceLT, Int.reduceLE, decide_true, decide_false, Bool.not_true, Bool.not_false, h1', List.length_map, Bool.and_false]; rfl) | (simp only [go_sem, ↓reduceIte, Nat.reduceEqDiff, Nat.reduceAdd, Nat.reduceLeDiff, Nat.reduceBEq, Nat.reduceMul, Int.reduceEq, Int.reduceLT, Int.reduceLE, decide_true, decide_false, Bool.not_true, Bool.not_false, h1', List.length_map, Bool.and_false]; done)) (by simp) (by simp only [go_sem]; rfl) (by first | assumption | (simp only [go_sem, ↓reduceIte, Nat.reduceEqDiff, Nat.reduceAdd, Nat.reduceLeDiff, Nat.reduceBEq, Nat.reduceMul, Int.reduceEq, Int.reduceLT, Int.reduceLE, decide_true, decide_false, Bool.not_true, Bool.not_false, h1', List.length_map, Bool.and_false]; rfl) | (simp only [go_sem, ↓reduceIte, Nat.reduceEqDiff, Nat.reduceAdd, Nat.reduceLeDiff, Nat.reduceBEq, Nat.reduceMul, Int.reduceEq, Int.reduceLT, Int.reduceLE, decide_true, decide_false, Bool.not_true, Bool.not_false, h1', List.length_map, Bool.and_false]; done)) (by simp) (by first | assumption | exact rowsOk_nil _ | exact rowsOk_by _ | (rw [byD_cut]; exact rowsOk_by _) | (simp [rowsOk, D.one, Value.oneCell']; done)) (by first | omega | (simp; done) | (simp; omega) | (simp [byD]; omega)) ?_
      | refine ao_appNB rfl rfl rfl rfl (by simp only [go_sem]; rfl) (by first | assumption | (simp only [go_sem, ↓reduceIte, Nat.reduceEqDiff, Nat.reduceAdd, Nat.reduceLeDiff, Nat.reduceBEq, Nat.reduceMul, Int.reduceEq, Int.reduceLT, Int.reduceLE, decide_true, decide_false, Bool.not_true, Bool.not_false, h1', List.length_map, Bool.and_false]; rfl) | (simp only [go_sem, ↓reduceIte, Nat.reduceEqDiff, Nat.reduceAdd, Nat.reduceLeDiff, Nat.reduceBEq, Nat.reduceMul, Int.reduceEq, Int.reduceLT, Int.reduceLE, decide_true, decide_false, Bool.not_true, Bool.not_false, h1', List.length_map, Bool.and_false]; done)) (by simp) (by first | assumption | exact rowsOk_nil _ | exact rowsOk_by _ | (rw [byD_cut]; exact rowsOk_by _) | (simp [rowsOk, D.one, Value.oneCell']; done)) (by first | omega | (simp; done) | (simp; omega) | (simp [byD]; omega)) ?_
      | refine ao_appR rfl rfl rfl (by first | assumption | (simp only [go_sem, ↓reduceIte, Nat.reduceEqDiff, Nat.reduceAdd, Nat.reduceLeDiff, Nat.reduceBEq, Nat.reduceMul, Int.reduceEq, Int.reduceLT, Int.reduceLE, decide_true, decide_false, Bool.not_true, Bool.not_false, h1', List.length_map, Bool.and_false]; rfl) | (simp only [go_sem, ↓reduceIte, Nat.reduceEqDiff, Nat.reduceAdd, Nat.reduceLeDiff, Nat.reduceBEq, Nat.reduceMul, Int.reduceEq, Int.reduceLT, Int.reduceLE, decide_true, decide_false, Bool.not_true, Bool.not_false, h1', List.length_map, Bool.and_false]; done)) (by simp) (by simp only [go_sem]; rfl) rfl (by first | assumption | exact rowsOk_nil _ | exact rowsOk_by _ | (rw [byD_cut]; exact rowsOk_by _) | (simp [rowsOk, D.one, Value.oneCell']; done)) (by first | omega | (simp; done) | (simp; omega) | (simp [byD]; omega)) ?_
      | refine ao_appNR rfl rfl rfl (by simp only [go_sem]; rfl) rfl (by first | assumption | exact rowsOk_nil _ | exact rowsOk_by _ | (rw [byD_cut]; exact rowsOk_by _) | (simp [rowsOk, D.one, Value.oneCell']; done)) (by first | omega | (simp; done) | (simp; omega) | (simp [byD]; omega)) ?_
      | refine ao0 rfl rfl ?_
      | refine aq2 rfl rfl rfl ent_10 (qa _) ?_
      | (refine ao2 rfl rfl rfl ent_10 (qa _) ?_; rintro _ _ ⟨rfl, rfl⟩)
      | refine aq2 rfl rfl rfl ent_10 (qb _) ?_
      | (refine ao2 rfl rfl rfl ent_10 (qb _) ?_; rintro _ _ ⟨rfl, rfl⟩)
      | refine aq2 rfl rfl rfl ent_11 (aw _) ?_
      | (refine ao2 rfl rfl rfl ent_11 (aw _) ?_; rintro _ _ ⟨rfl, rfl⟩)
      | refine aq2 rfl rfl rfl ent_12 (join_s G hG _ _ (by assumption) (by assumption) (by omega) (by omega) _) ?_
      | (refine ao2 rfl rfl rfl ent_12 (join_s G hG _ _ (by assumption) (by assumption) (by omega) (by omega) _) ?_; rintro _ _ ⟨rfl, rfl⟩)
      | refine aq2 rfl rfl rfl ent_15 (minus_s G hG _ _ (by assumption) (by assumption) (by omega) (by omega) _) ?_
      | (refine ao2 rfl rfl rfl ent_15 (minus_s G hG _ _ (by assumption) (by assumption) (by omega) (by omega) _) ?_; rintro _ _ ⟨rfl, rfl⟩)
      | refine aq2 rfl rfl rfl ent_14 (of_s G hG _ ob (by omega) _) ?_
      | (refine ao2 rfl rfl rfl ent_14 (of_s G hG _ ob (by omega) _) ?_; rintro _ _ ⟨rfl, rfl⟩)
      | refine aq2 rfl rfl rfl ent_13 (q4 _) ?_
      | (refine ao2 rfl rfl rfl ent_13 (q4 _) ?_; rintro _ _ ⟨rfl, rfl⟩)
      | refine aq2 rfl rfl rfl ent_35 (q1 _) ?_
      | (refine ao2 rfl rfl rfl ent_35 (q1 _) ?_; rintro _ _ ⟨rfl, rfl⟩)
      | refine aq2 rfl rfl rfl ent_35 (q2 _) ?_
      | (refine ao2 rfl rfl rfl ent_35 (q2 _) ?_; rintro _ _ ⟨rfl, rfl⟩)
      | refine aq2 rfl rfl rfl ent_36 (q3 _) ?_
      | (refine ao2 rfl rfl rfl ent_36 (q3 _) ?_; rintro _ _ ⟨rfl, rfl⟩)
      | (refine ao1' rfl fun K HK => ?_; simp only [go_sem, ↓reduceIte, Nat.reduceEqDiff, Nat.reduceAdd, Nat.reduceLeDiff, Nat.reduceBEq, Nat.reduceMul, Int.reduceEq, Int.reduceLT, Int.reduceLE, decide_true, decide_false, Bool.not_true, Bool.not_false, h1', List.length_map, Bool.and_false]; refine HK _ _ ?_; clear HK K)
      | refine ao0' rfl ?_
      | refine aw_if1 rfl ?_
      | refine aw_if0 rfl ?_
      | refine aw_skip ?_
      | refine aw_exit ?_
      | refine aw_ret ?_
      | refine thenS_n ?_
      | refine thenS_x ?_
      | refine thenS_r ?_
      | refine inB_n ?_
      | refine inB_r ?_
      | refine inB_x ?_
      | refine inB_y rfl ?_
      | (exfalso; omega)
     exact ⟨.inr rfl, endD (r := .v _) hl0 rfl (by simp) (by simp) rfl (by rw [low]; trivial) ⟨rfl, rfl⟩⟩
 · have h1' : ¬ ((minusL a b).length : Int) = 0 := by omega
   rw [decide_eq_false h1] at q1 q3 q4
   rw [Bool.false_and] at q3
   repeat' first
    | refine aw_seq' ?_
    | refine aw_region' ?_
    | refine aw_block ?_
    | refine ao_nil ?_
    | (refine ao1 rfl rfl fun K HK => ?_; (try refine aOp_pick rfl ?_); simp only [go_sem, ↓reduceIte, Nat.reduceEqDiff, Nat.reduceAdd, Nat.reduceLeDiff, Nat.reduceBEq, Nat.reduceMul, Int.reduceEq, Int.reduceLT, Int.reduceLE, decide_true, decide_false, Bool.not_true, Bool.not_false, h1', List.length_map, Bool.false_eq_true]; (first | refine splitB (fun hq => ?_) (fun hq => ?_) | refine splitN (fun hq => ?_) (fun hq => ?_) | (refine slc_sl (by simp only [go_sem]) rfl rfl (by first | omega | simp) (by first | omega | simp) (by simp only [go_sem]; omega) ?_) | (refine ⟨by omega, by omega, ?_⟩; first | refine row_at (by assumption) ?_ | (intro row hrow; obtain ⟨x, hx, rfl⟩ := row_inv hrow; clear hrow) | (intro row hrow)) | (refine ⟨by omega, ?_⟩; refine row_at (by assumption) ?_) | skip) <;> (refine HK _ _ ?_; clear HK K))
    | (refine aq1 rfl rfl fun K HK => ?_; (try refine aOp_pick rfl ?_); simp only [go_sem, ↓reduceIte, Nat.reduceEqDiff, Nat.reduceAdd, Nat.reduceLeDiff, Nat.reduceBEq, Nat.reduceMul, Int.reduceEq, Int.reduceLT, Int.reduceLE, decide_true, decide_false, Bool.not_true, Bool.not_false, h1', List.length_map, Bool.false_eq_true]; (first | refine splitB (fun hq => ?_) (fun hq => ?_) | refine splitN (fun hq => ?_) (fun hq => ?_) | (refine slc_sl (by simp only [go_sem]) rfl rfl (by first | omega | simp) (by first | omega | simp) (by simp only [go_sem]; omega) ?_) | (refine ⟨by omega, by omega, ?_⟩; first | refine row_at (by assumption) ?_ | (intro row hrow; obtain ⟨x, hx, rfl⟩ := row_inv hrow; clear hrow) | (intro row hrow)) | (refine ⟨by omega, ?_⟩; refine row_at (by assumption) ?_) | skip) <;> (refine HK _ _ rfl ?_; clear HK K))
    | refine aq0 rfl rfl ?_
    | refine aq_nil ?_
    | (refine aw_draw mixd (by kernel_rfl) ?_)
    | refine ao_appB rfl rfl rfl rfl (by first | assumption | (simp only [go_sem, ↓reduceIte, Nat.reduceEqDiff, Nat.reduceAdd, Nat.reduceLeDiff, Nat.reduceBEq, Nat.reduceMul, Int.reduceEq, Int.reduceLT, Int.reduceLE, decide_true, decide_false, Bool.not_true, Bool.not_false, h1', List.length_map, Bool.false_eq_true]; rfl) | (simp only [go_sem, ↓reduceIte, Nat.reduceEqDiff, Nat.reduceAdd, Nat.reduceLeDiff, Nat.reduceBEq, Nat.reduceMul, Int.reduceEq, Int.reduceLT, Int.reduceLE, decide_true, decide_false, Bool.not_true, Bool.not_false, h1', List.length_map, Bool.false_eq_true]; done)) (by simp) (by simp only [go_sem]; rfl) (by first | assumption | (simp only [go_sem, ↓reduceIte, Nat.reduceEqDiff, Nat.reduceAdd, Nat.reduceLeDiff, Nat.reduceBEq, Nat.reduceMul, Int.reduceEq, Int.reduceLT, Int.reduceLE, decide_true, decide_false, Bool.not_true, Bool.not_false, h1', List.length_map, Bool.false_eq_true]; rfl) | (simp only [go_sem, ↓reduceIte, Nat.reduceEqDiff, Nat.reduceAdd, Nat.reduceLeDiff, Nat.reduceBEq, Nat.reduceMul, Int.reduceEq, Int.reduceLT, Int.reduceLE, decide_true, decide_false, Bool.not_true, Bool.not_false, h1', List.length_map, Bool.false_eq_true]; done)) (by simp) (by first | assumption | exact rowsOk_nil _ | exact rowsOk_by _ | (rw [byD_cut]; exact rowsOk_by _) | (simp [rowsOk, D.one, Value.oneCell']; done)) (by first | omega | (simp; done) | (simp; omega) | (simp [byD]; omega)) ?_
    | refine ao_appNB rfl rfl rfl rfl (by simp only [go_sem]; rfl) (by first | assumption | (simp only [go_sem, ↓reduceIte, Nat.reduceEqDiff, Nat.reduceAdd, Nat.reduceLeDiff, Nat.reduceBEq, Nat.reduceMul, Int.reduceEq, Int.reduceLT, Int.reduceLE, decide_true, decide_false, Bool.not_true, Bool.not_false, h1', List.length_map, Bool.false_eq_true]; rfl) | (simp only [go_sem, ↓reduceIte, Nat.reduceEqDiff, Nat.reduceAdd, Nat.reduceLeDiff, Nat.reduceBEq, Nat.reduceMul, Int.reduceEq, Int.reduceLT, Int.reduceLE, decide_true, decide_false, Bool.not_true, Bool.not_false, h1', List.length_map, Bool.false_eq_true]; done)) (by simp) (by first | assumption | exact rowsOk_nil _ | exact rowsOk_by _ | (rw [byD_cut]; exact rowsOk_by _) | (simp [rowsOk, D.one, Value.oneCell']; done)) (by first | omega | (simp; done) | (simp; omega) | (simp [byD]; omega)) ?_
    | refine ao_appR rfl rfl rfl (by first | assumption | (simp only [go_sem, ↓reduceIte, Nat.reduceEqDiff, Nat.reduceAdd, Nat.reduceLeDiff, Nat.reduceBEq, Nat.reduceMul, Int.reduceEq, Int.reduceLT, Int.reduceLE, decide_true, decide_false, Bool.not_true, Bool.not_false, h1', List.length_map, Bool.false_eq_true]; rfl) | (simp only [go_sem, ↓reduceIte, Nat.reduceEqDiff, Nat.reduceAdd, Nat.reduceLeDiff, Nat.reduceBEq, Nat.reduceMul, Int.reduceEq, Int.reduceLT, Int.reduceLE, decide_true, decide_false, Bool.not_true, Bool.not_false, h1', List.length_map, Bool.false_eq_true]; done)) (by simp) (by simp only [go_sem]; rfl) rfl (by first | assumption | exact rowsOk_nil _ | exact rowsOk_by _ | (rw [byD_cut]; exact rowsOk_by _) | (simp [rowsOk, D.one, Value.oneCell']; done)) (by first | omega | (simp; done) | (simp; omega) | (simp [byD]; omega)) ?_
    | refine ao_appNR rfl rfl rfl (by simp only [go_sem]; rfl) rfl (by first | assumption | exact rowsOk_nil _ | exact rowsOk_by _ | (rw [byD_cut]; exact rowsOk_by _) | (simp [rowsOk, D.one, Value.oneCell']; done)) (by first | omega | (simp; done) | (simp; omega) | (simp [byD]; omega)) ?_
    | refine ao0 rfl rfl ?_
    | refine aq2 rfl rfl rfl ent_10 (qa _) ?_
    | (refine ao2 rfl rfl rfl ent_10 (qa _) ?_; rintro _ _ ⟨rfl, rfl⟩)
    | refine aq2 rfl rfl rfl ent_10 (qb _) ?_
    | (refine ao2 rfl rfl rfl ent_10 (qb _) ?_; rintro _ _ ⟨rfl, rfl⟩)
    | refine aq2 rfl rfl rfl ent_11 (aw _) ?_
    | (refine ao2 rfl rfl rfl ent_11 (aw _) ?_; rintro _ _ ⟨rfl, rfl⟩)
    | refine aq2 rfl rfl rfl ent_12 (join_s G hG _ _ (by assumption) (by assumption) (by omega) (by omega) _) ?_
    | (refine ao2 rfl rfl rfl ent_12 (join_s G hG _ _ (by assumption) (by assumption) (by omega) (by omega) _) ?_; rintro _ _ ⟨rfl, rfl⟩)
    | refine aq2 rfl rfl rfl ent_15 (minus_s G hG _ _ (by assumption) (by assumption) (by omega) (by omega) _) ?_
    | (refine ao2 rfl rfl rfl ent_15 (minus_s G hG _ _ (by assumption) (by assumption) (by omega) (by omega) _) ?_; rintro _ _ ⟨rfl, rfl⟩)
    | refine aq2 rfl rfl rfl ent_14 (of_s G hG _ ob (by omega) _) ?_
    | (refine ao2 rfl rfl rfl ent_14 (of_s G hG _ ob (by omega) _) ?_; rintro _ _ ⟨rfl, rfl⟩)
    | refine aq2 rfl rfl rfl ent_13 (q4 _) ?_
    | (refine ao2 rfl rfl rfl ent_13 (q4 _) ?_; rintro _ _ ⟨rfl, rfl⟩)
    | refine aq2 rfl rfl rfl ent_35 (q1 _) ?_
    | (refine ao2 rfl rfl rfl ent_35 (q1 _) ?_; rintro _ _ ⟨rfl, rfl⟩)
    | refine aq2 rfl rfl rfl ent_35 (q2 _) ?_
    | (refine ao2 rfl rfl rfl ent_35 (q2 _) ?_; rintro _ _ ⟨rfl, rfl⟩)
    | refine aq2 rfl rfl rfl ent_36 (q3 _) ?_
    | (refine ao2 rfl rfl rfl ent_36 (q3 _) ?_; rintro _ _ ⟨rfl, rfl⟩)
    | (refine ao1' rfl fun K HK => ?_; simp only [go_sem, ↓reduceIte, Nat.reduceEqDiff, Nat.reduceAdd, Nat.reduceLeDiff, Nat.reduceBEq, Nat.reduceMul, Int.reduceEq, Int.reduceLT, Int.reduceLE, decide_true, decide_false, Bool.not_true, Bool.not_false, h1', List.length_map, Bool.false_eq_true]; refine HK _ _ ?_; clear HK K)
    | refine ao0' rfl ?_
    | refine aw_if1 rfl ?_
    | refine aw_if0 rfl ?_
    | refine aw_skip ?_
    | refine aw_exit ?_
    | refine aw_ret ?_
    | refine thenS_n ?_
    | refine thenS_x ?_
    | refine thenS_r ?_
    | refine inB_n ?_
    | refine inB_r ?_
    | refine inB_x ?_
    | refine inB_y rfl ?_
    | (exfalso; omega)
   exact ⟨.inr rfl, endD (r := .v _) hl0 rfl (by simp) (by simp) rfl (by rw [low]; trivial) ⟨rfl, rfl⟩⟩
end
section
def G0 : Nat → D := fun _ => .any
theorem G0_low : ∀ g, low 0 (G0 g) := fun g => by unfold G0; rw [low]; trivial
theorem mixdB : Tryz.prog.follows .mixedOrders = true := by kernel_rfl
theorem awake_run : callK Tryz.prog G0 188 100000 100 11 [] [] = some ([], .v (.bool true)) := by kernel_rfl
theorem awake0 : Awake G0 := fun h => does_runK G0_low mixdB cmpX (by kernel_rfl) awake_run h
theorem ok0 (w : World) : Ok G0 w [] [] (fun k => decide (k < w.heap.size)) :=
 ⟨rfl, fun i ob u q => by simp at q, fun i j oi oj ui uj b q => by simp at q, fun g => by unfold G0; rw [rd]; trivial, fun g ds q => by cases q⟩
end
end Go.Proofs.YtidpdgdakghfnaaGreat
