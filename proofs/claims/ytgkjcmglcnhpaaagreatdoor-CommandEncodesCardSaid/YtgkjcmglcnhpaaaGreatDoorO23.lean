/-
  What the statements of the chapter share, part 23: CLE, CLO.
-/
import Derived.Test.YtgkjcmglcnhpaaaGreatDoorO22
set_option linter.unusedVariables false
set_option linter.unusedSimpArgs false
set_option maxRecDepth 100000
set_option maxHeartbeats 8000000
namespace Go.Proofs.YtgkjcmglcnhpaaaGreatDoor
open Go.RowKit
section
set_option maxRecDepth 100000
set_option maxHeartbeats 4000000
set_option pp.maxSteps 1000000
set_option pp.deepTerms true
attribute [local irreducible] on aOp
attribute [local go_sem] decide_true decide_false Bool.not_true Bool.not_false
attribute [local simp] byD_len
variable (G : Nat → D) (hG : ∀ g, low 0 (G g)) (hK : G 1 = .rp (shaK.map zD))
include hG hK
omit hK in
theorem decode_d (b : List UInt8) (hb : b.length ≤ 100000000) (h : List Ob) : Does Tryz.prog G 18 h [.sl 1 (byD b)] (fun h' r => h' = h ∧ r = .tup [.agg (cmdX (decC b).1), .v (.int .i64 (decC b).2)]) :=
 does_any G hG (by rw [lowL, lowL]; exact ⟨low_by _ _, trivial⟩) (by rw [low, lowL, lowL, lowL]; exact ⟨low_agg _ _, by rw [low]; trivial, trivial⟩) (decode_p G hG b hb) h
omit hK in
theorem rdecode_d (b : List UInt8) (hb : b.length ≤ 100000000) (h : List Ob) : Does Tryz.prog G 23 h [.sl 1 (byD b)] (fun h' r => h' = h ∧ r = .tup [.agg (cmdX (decC b).1), .v (.bool (decide ((decC b).2 = 0)))]) :=
 does_any G hG (by rw [lowL, lowL]; exact ⟨low_by _ _, trivial⟩) (by rw [low, lowL, lowL, lowL]; exact ⟨low_agg _ _, by rw [low]; trivial, trivial⟩) (rdecode_r G hG b hb) h
theorem encodes_w (c : Cmd) (hn : Nums c) : Does Tryz.prog G 4 [] [.agg (cmdX c)] (fun h' r => h' = [] ∧ r = .v (.bool true)) := by
 refine does_of_aw Tryz.func4 rfl (Nat.le_of_ble_eq_true rfl) hG fun hl0 _ => ?_
 simp only [Tryz.ntmps4]
 have haw := awake_d G hG hK
 have hsm := small_n G hG c
 by_cases hs : smallK c
 · have hc := ok_of_small hn hs
   rw [decide_eq_true hs] at hsm
   have hlen := encC_len c hc
   have henc := encode_d G hG c hc
   have hre := rencode_d G hG c hc
   have hde := decode_d G hG (encC c) (by omega)
   rw [decC_enc hc] at hde
   have hsa := rsame_d G hG c c hc hc
   rw [decide_eq_true rfl] at hsa
   have hbo := body_d G hG c hc
   have hrb := rbody_d G hG c hc
   repeat' first
    | (refine aq1 rfl rfl fun K HK => ?_; simp only [go_sem]; refine bst_by (n := 1) (h := []) byT_38 strT_9 ?_; refine HK _ _ rfl ?_; clear HK K)
    | refine aw_seq' ?_
    | refine aw_region' ?_
    | refine ao_nil ?_
    | ((first | refine ao1 rfl rfl fun K HK => ?_ | refine aq1 rfl rfl fun K HK => ?_); (first | refine aOp_pick rfl ?_ | skip); simp only [go_sem, ↓reduceIte, Nat.reduceEqDiff, Nat.reduceAdd, Nat.reduceLeDiff, Nat.reduceBEq, Nat.reduceMul, Int.reduceEq, Int.reduceLT, Int.reduceLE, cmdX_eq, eq_self_iff_true, Bool.false_eq_true] <;> ((first | refine HK _ _ ?_ | refine HK _ _ rfl ?_); clear HK K))
    | refine aq_nil ?_
    | (refine aw_draw mixd (by kernel_rfl) ?_)
    | (refine ao2 rfl rfl rfl ent_11 (haw _) ?_; rintro _ _ ⟨rfl, rfl⟩)
    | (refine ao2 rfl rfl rfl ent_16 (hsm _) ?_; rintro _ _ ⟨rfl, rfl⟩)
    | (refine ao2 rfl rfl rfl ent_17 (henc _) ?_; rintro _ _ ⟨rfl, rfl⟩)
    | (refine ao2 rfl rfl rfl ent_18 (hde _) ?_; rintro _ _ ⟨rfl, rfl⟩)
    | refine aq2 rfl rfl rfl ent_19 (hre _) ?_
    | refine aq2 rfl rfl rfl ent_20 (hsa _) ?_
    | refine aq2 rfl rfl rfl ent_21 (hbo _) ?_
    | refine aq2 rfl rfl rfl ent_22 (hrb _) ?_
    | (refine ao1' rfl fun K HK => ?_; simp only [go_sem, ↓reduceIte, Nat.reduceEqDiff, Nat.reduceAdd, Nat.reduceLeDiff, Nat.reduceBEq, Nat.reduceMul, Int.reduceEq, Int.reduceLT, Int.reduceLE, cmdX_eq, eq_self_iff_true, Bool.false_eq_true]; refine HK _ _ ?_; clear HK K)
    | refine aw_if0 rfl ?_
    | refine aw_skip ?_
    | refine aw_ret ?_
   all_goals exact ⟨.inr rfl, endD (r := .v _) hl0 rfl (by simp) (by simp) rfl (by rw [low]; trivial) ⟨rfl, rfl⟩⟩
 · rw [decide_eq_false hs] at hsm
   repeat' first
    | refine aw_seq' ?_
    | refine aw_region' ?_
    | refine ao_nil ?_
    | (refine ao1 rfl rfl fun K HK => ?_; simp only [go_sem, ↓reduceIte, Nat.reduceEqDiff, Nat.reduceAdd, Nat.reduceLeDiff, Nat.reduceBEq, Nat.reduceMul, Int.reduceEq, Int.reduceLT, Int.reduceLE, cmdX_eq, Bool.false_eq_true] <;> (refine HK _ _ ?_; clear HK K))
    | (refine ao2 rfl rfl rfl ent_11 (haw _) ?_; rintro _ _ ⟨rfl, rfl⟩)
    | (refine ao2 rfl rfl rfl ent_16 (hsm _) ?_; rintro _ _ ⟨rfl, rfl⟩)
    | refine aw_if1 rfl ?_
    | refine aw_if0 rfl ?_
    | refine aw_skip ?_
    | refine aw_ret ?_
    | refine thenS_r ?_
   all_goals exact ⟨.inr rfl, endD (r := .v _) hl0 rfl (by simp) (by simp) rfl (by rw [low]; trivial) ⟨rfl, rfl⟩⟩
theorem decodes_w (b : List UInt8) : Does Tryz.prog G 5 [] [.sl 1 (byD b)] (fun h' r => h' = [] ∧ r = .v (.bool true)) := by
 refine does_of_aw Tryz.func5 rfl (Nat.le_of_ble_eq_true rfl) hG fun hl0 _ => ?_
 simp only [Tryz.ntmps5]
 have haw := awake_d G hG hK
 by_cases hlen : 6000 < b.length
 · have hli : 6000 < (b.length : Int) := by omega
   repeat' first
    | refine aw_seq' ?_
    | refine aw_region' ?_
    | refine ao_nil ?_
    | (refine ao1 rfl rfl fun K HK => ?_; simp only [go_sem, ↓reduceIte, Nat.reduceEqDiff, Nat.reduceAdd, Nat.reduceLeDiff, Nat.reduceBEq, Nat.reduceMul, Int.reduceEq, Int.reduceLT, Int.reduceLE, hli, byD_len, Bool.false_eq_true] <;> (refine HK _ _ ?_; clear HK K))
    | (refine ao2 rfl rfl rfl ent_11 (haw _) ?_; rintro _ _ ⟨rfl, rfl⟩)
    | refine aw_if1 rfl ?_
    | refine aw_if0 rfl ?_
    | refine aw_skip ?_
    | refine aw_ret ?_
    | refine thenS_r ?_
   all_goals exact ⟨.inr rfl, endD (r := .v _) hl0 rfl (by simp) (by simp) rfl (by rw [low]; trivial) ⟨rfl, rfl⟩⟩
 have hli : ¬ 6000 < (b.length : Int) := by omega
 have hde := decode_d G hG b (by omega)
 have hrd := rdecode_d G hG b (by omega)
 rcases hd : decC b with ⟨c, e⟩
 rw [hd] at hde hrd
 simp only at hde hrd
 by_cases he : e = 0
 · subst he
   have hc := decC_wf (by omega) hd
   have hcl := encC_len c hc
   have henc := encode_d G hG c hc
   rw [decC_is hd] at henc
   have hsa := rsame_d G hG c c hc hc
   rw [decide_eq_true rfl] at hsa
   rw [decide_eq_true rfl] at hrd
   repeat' first
    | (refine aq1 rfl rfl fun K HK => ?_; simp only [go_sem]; refine bst_by (n := 1) (h := []) byT_38 strT_9 ?_; refine HK _ _ rfl ?_; clear HK K)
    | refine aw_seq' ?_
    | refine aw_region' ?_
    | refine ao_nil ?_
    | ((first | refine ao1 rfl rfl fun K HK => ?_ | refine aq1 rfl rfl fun K HK => ?_); (first | refine aOp_pick rfl ?_ | skip); simp only [go_sem, ↓reduceIte, Nat.reduceEqDiff, Nat.reduceAdd, Nat.reduceLeDiff, Nat.reduceBEq, Nat.reduceMul, Int.reduceEq, Int.reduceLT, Int.reduceLE, hli, byD_len, cmdX_eq, eq_self_iff_true, Bool.false_eq_true] <;> ((first | refine HK _ _ ?_ | refine HK _ _ rfl ?_); clear HK K))
    | refine aq_nil ?_
    | (refine aw_draw mixd (by kernel_rfl) ?_)
    | (refine ao2 rfl rfl rfl ent_11 (haw _) ?_; rintro _ _ ⟨rfl, rfl⟩)
    | refine aq2 rfl rfl rfl ent_17 (henc _) ?_
    | (refine ao2 rfl rfl rfl ent_18 (hde _) ?_; rintro _ _ ⟨rfl, rfl⟩)
    | (refine ao2 rfl rfl rfl ent_23 (hrd _) ?_; rintro _ _ ⟨rfl, rfl⟩)
    | refine aq2 rfl rfl rfl ent_20 (hsa _) ?_
    | (refine ao1' rfl fun K HK => ?_; simp only [go_sem, ↓reduceIte, Nat.reduceEqDiff, Nat.reduceAdd, Nat.reduceLeDiff, Nat.reduceBEq, Nat.reduceMul, Int.reduceEq, Int.reduceLT, Int.reduceLE, hli, byD_len, cmdX_eq, eq_self_iff_true, Bool.false_eq_true]; refine HK _ _ ?_; clear HK K)
    | refine aw_if0 rfl ?_
    | refine aw_skip ?_
    | refine aw_ret ?_
   all_goals exact ⟨.inr rfl, endD (r := .v _) hl0 rfl (by simp) (by simp) rfl (by rw [low]; trivial) ⟨rfl, rfl⟩⟩
 · have he2 : c = zeroC ∧ e = 2 := by
    unfold decC at hd
    split at hd
    · cases hd; exact absurd rfl he
    · cases hd; exact ⟨rfl, rfl⟩
   obtain ⟨rfl, rfl⟩ := he2
   rw [decide_eq_false he] at hrd
   repeat' first
    | refine aw_seq' ?_
    | refine aw_region' ?_
    | refine ao_nil ?_
    | (refine ao1 rfl rfl fun K HK => ?_; simp only [go_sem, ↓reduceIte, Nat.reduceEqDiff, Nat.reduceAdd, Nat.reduceLeDiff, Nat.reduceBEq, Nat.reduceMul, Int.reduceEq, Int.reduceLT, Int.reduceLE, hli, byD_len, cmdX_eq, Bool.false_eq_true] <;> (refine HK _ _ ?_; clear HK K))
    | (refine ao2 rfl rfl rfl ent_11 (haw _) ?_; rintro _ _ ⟨rfl, rfl⟩)
    | (refine ao2 rfl rfl rfl ent_18 (hde _) ?_; rintro _ _ ⟨rfl, rfl⟩)
    | (refine ao2 rfl rfl rfl ent_23 (hrd _) ?_; rintro _ _ ⟨rfl, rfl⟩)
    | (refine ao1' rfl fun K HK => ?_; simp only [go_sem, ↓reduceIte, Nat.reduceEqDiff, Nat.reduceAdd, Nat.reduceLeDiff, Nat.reduceBEq, Nat.reduceMul, Int.reduceEq, Int.reduceLT, Int.reduceLE, hli, byD_len, cmdX_eq, Bool.false_eq_true]; refine HK _ _ ?_; clear HK K)
    | refine aw_if1 rfl ?_
    | refine aw_if0 rfl ?_
    | refine aw_skip ?_
    | refine aw_ret ?_
    | refine thenS_r ?_
   all_goals exact ⟨.inr rfl, endD (r := .v _) hl0 rfl (by simp) (by simp) rfl (by rw [low]; trivial) ⟨rfl, rfl⟩⟩
end
section
set_option maxRecDepth 100000
set_option maxHeartbeats 4000000
set_option pp.maxSteps 1000000
set_option pp.deepTerms true
attribute [local irreducible] on aOp
attribute [local go_sem] decide_true decide_false Bool.not_true Bool.not_false
attribute [local simp] byD_len
theorem EqC.symm {a b : Cmd} (h : EqC a b) : EqC b a := ⟨h.1.symm, h.2.1.symm, h.2.2.symm⟩
theorem cmpC_flip (a b : Cmd) : cmpC b a = - cmpC a b := by
 rcases cmpC_cases a b with ⟨h, e⟩ | ⟨h, e⟩ | ⟨h, e⟩
 · rw [e]
   rcases cmpC_cases b a with ⟨k, f⟩ | ⟨k, f⟩ | ⟨k, f⟩
   · exact absurd (h.trans k) (LtC.irrefl a)
   · exact absurd (EqC.left k h) (LtC.irrefl b)
   · exact f
 · rw [e]; exact cmpC_zero.2 h.symm
 · rw [e]
   rcases cmpC_cases b a with ⟨k, f⟩ | ⟨k, f⟩ | ⟨k, f⟩
   · exact f
   · exact absurd (EqC.left k.symm h) (LtC.irrefl a)
   · exact absurd (h.trans k) (LtC.irrefl b)
theorem cmpC_self (a : Cmd) : cmpC a a = 0 := cmpC_zero.2 ⟨rfl, rfl, rfl⟩
theorem enc_tell {a b : Cmd} (ha : a.Ok) (hb : b.Ok) (h : encC a = encC b) : a = b := by
 have h1 := decC_enc ha
 rw [h, decC_enc hb] at h1
 exact (congrArg Prod.fst h1).symm
theorem cmp_gt {a b : Cmd} (h : cmpC a b = 1) : b.client < a.client ∨ (b.client = a.client ∧ b.seq ≤ a.seq) := by
 rcases cmpC_cases a b with ⟨_, e⟩ | ⟨_, e⟩ | ⟨k, _⟩
 · rw [h] at e; cases e
 · rw [h] at e; cases e
 · rcases k with k | ⟨k, k2 | ⟨k2, _⟩⟩
   · exact .inl k
   · exact .inr ⟨k, by omega⟩
   · exact .inr ⟨k, by omega⟩
theorem cmp3 (a b c : Cmd) : (cmpC a b = -1 ∧ cmpC b c = 1) ∨ (cmpC a b = -1 ∧ cmpC b c = -1 ∧ cmpC a c = -1) ∨ (cmpC a b = -1 ∧ cmpC b c = 0 ∧ cmpC a c = -1) ∨ (cmpC a b = 0 ∧ cmpC a c = cmpC b c) ∨ cmpC a b = 1 := by
 have go : ∀ {a b}, LtC a b → cmpC a b = -1 := fun {a b} h => by
  rcases cmpC_cases a b with ⟨_, e⟩ | ⟨k, _⟩ | ⟨k, _⟩
  · exact e
  · exact absurd (EqC.left k.symm h) (LtC.irrefl b)
  · exact absurd (h.trans k) (LtC.irrefl a)
 rcases cmpC_cases a b with ⟨h, e⟩ | ⟨h, e⟩ | ⟨h, e⟩
 · rcases cmpC_cases b c with ⟨k, f⟩ | ⟨k, f⟩ | ⟨k, f⟩
   · exact .inr (.inl ⟨e, f, go (h.trans k)⟩)
   · exact .inr (.inr (.inl ⟨e, f, go (EqC.right k h)⟩))
   · exact .inl ⟨e, f⟩
 · refine .inr (.inr (.inr (.inl ⟨e, ?_⟩)))
   unfold cmpC
   rw [h.1, h.2.1, h.2.2]
 · exact .inr (.inr (.inr (.inr e)))
variable (G : Nat → D) (hG : ∀ g, low 0 (G g)) (hK : G 1 = .rp (shaK.map zD))
include hG hK
theorem order_w (a b c : Cmd) (na : Nums a) (nb : Nums b) (nc : Nums c) : Does Tryz.prog G 9 [] [.agg (cmdX a), .agg (cmdX b), .agg (cmdX c)] (fun h' r => h' = [] ∧ r = .v (.bool true)) := by
 refine does_of_aw Tryz.func9 rfl (Nat.le_of_ble_eq_true rfl) hG fun hl0 _ => ?_
 simp only [Tryz.ntmps9]
 have haw := awake_d G hG hK
 have hsa := small_n G hG a
 have hsb := small_n G hG b
 have hsc := small_n G hG c
 by_cases sa : smallK a
 rotate_left
 · rw [decide_eq_false sa] at hsa
   repeat' first
    | refine aw_seq' ?_
    | refine aw_region' ?_
    | refine ao_nil ?_
    | (refine ao1 rfl rfl fun K HK => ?_; (first | refine aOp_pick rfl ?_ | skip); simp only [go_sem, ↓reduceIte, Nat.reduceEqDiff, Nat.reduceAdd, Nat.reduceLeDiff, Nat.reduceBEq, Nat.reduceMul, Int.reduceEq, Int.reduceLT, Int.reduceLE, cmdX_eq, Bool.false_eq_true] <;> (refine HK _ _ ?_; clear HK K))
    | refine ao0 rfl rfl ?_
    | (refine ao2 rfl rfl rfl ent_11 (haw _) ?_; rintro _ _ ⟨rfl, rfl⟩)
    | (refine ao2 rfl rfl rfl ent_16 (hsa _) ?_; rintro _ _ ⟨rfl, rfl⟩)
    | refine aw_if1 rfl ?_
    | refine aw_if0 rfl ?_
    | refine aw_skip ?_
    | refine aw_ret ?_
    | refine thenS_r ?_
   all_goals exact ⟨.inr rfl, endD (r := .v _) hl0 rfl (by simp) (by simp) rfl (by rw [low]; trivial) ⟨rfl, rfl⟩⟩
 by_cases sb : smallK b
 rotate_left
 · rw [decide_eq_true sa] at hsa
   rw [decide_eq_false sb] at hsb
   repeat' first
    | refine aw_seq' ?_
    | refine aw_region' ?_
    | refine ao_nil ?_
    | (refine ao1 rfl rfl fun K HK => ?_; (first | refine aOp_pick rfl ?_ | skip); simp only [go_sem, ↓reduceIte, Nat.reduceEqDiff, Nat.reduceAdd, Nat.reduceLeDiff, Nat.reduceBEq, Nat.reduceMul, Int.reduceEq, Int.reduceLT, Int.reduceLE, cmdX_eq, Bool.false_eq_true] <;> (refine HK _ _ ?_; clear HK K))
    | refine ao0 rfl rfl ?_
    | (refine ao2 rfl rfl rfl ent_11 (haw _) ?_; rintro _ _ ⟨rfl, rfl⟩)
    | (refine ao2 rfl rfl rfl ent_16 (hsa _) ?_; rintro _ _ ⟨rfl, rfl⟩)
    | (refine ao2 rfl rfl rfl ent_16 (hsb _) ?_; rintro _ _ ⟨rfl, rfl⟩)
    | refine aw_if1 rfl ?_
    | refine aw_if0 rfl ?_
    | refine aw_skip ?_
    | refine aw_ret ?_
    | refine thenS_r ?_
   all_goals exact ⟨.inr rfl, endD (r := .v _) hl0 rfl (by simp) (by simp) rfl (by rw [low]; trivial) ⟨rfl, rfl⟩⟩
 by_cases sc : smallK c
 rotate_left
 · rw [decide_eq_true sa] at hsa
   rw [decide_eq_true sb] at hsb
   rw [decide_eq_false sc] at hsc
   repeat' first
    | refine aw_seq' ?_
    | refine aw_region' ?_
    | refine ao_nil ?_
    | (refine ao1 rfl rfl fun K HK => ?_; (first | refine aOp_pick rfl ?_ | skip); simp only [go_sem, ↓reduceIte, Nat.reduceEqDiff, Nat.reduceAdd, Nat.reduceLeDiff, Nat.reduceBEq, Nat.reduceMul, Int.reduceEq, Int.reduceLT, Int.reduceLE, cmdX_eq, Bool.false_eq_true] <;> (refine HK _ _ ?_; clear HK K))
    | (refine ao2 rfl rfl rfl ent_11 (haw _) ?_; rintro _ _ ⟨rfl, rfl⟩)
    | (refine ao2 rfl rfl rfl ent_16 (hsa _) ?_; rintro _ _ ⟨rfl, rfl⟩)
    | (refine ao2 rfl rfl rfl ent_16 (hsb _) ?_; rintro _ _ ⟨rfl, rfl⟩)
    | (refine ao2 rfl rfl rfl ent_16 (hsc _) ?_; rintro _ _ ⟨rfl, rfl⟩)
    | refine aw_if1 rfl ?_
    | refine aw_if0 rfl ?_
    | refine aw_skip ?_
    | refine aw_ret ?_
    | refine thenS_r ?_
   all_goals exact ⟨.inr rfl, endD (r := .v _) hl0 rfl (by simp) (by simp) rfl (by rw [low]; trivial) ⟨rfl, rfl⟩⟩
 rw [decide_eq_true sa] at hsa
 rw [decide_eq_true sb] at hsb
 rw [decide_eq_true sc] at hsc
 have oa := ok_of_small na sa
 have ob := ok_of_small nb sb
 have oc := ok_of_small nc sc
 have hab := compare_d G hG a b oa ob
 have hbc := compare_d G hG b c ob oc
 have hac := compare_d G hG a c oa oc
 have hba := compare_d G hG b a ob oa
 have haa := compare_d G hG a a oa oa
 rw [cmpC_self] at haa
 rw [cmpC_flip] at hba
 have hea := encode_d G hG a oa
 have heb := encode_d G hG b ob
 have hla := encC_len a oa
 have hlb := encC_len b ob
 rcases cmp3 a b c with ⟨e1, e2⟩ | ⟨e1, e2, e3⟩ | ⟨e1, e2, e3⟩ | ⟨e1, e2⟩ | e1
 · rw [e1] at hab hba; rw [e2] at hbc
   generalize cmpC a c = z at hac
   rw [show (- -1 : Int) = 1 from rfl] at hba
   have wz : IntKind.i64.wrap (0 - -1) = 1 := by decide
   have hne : ¬ ((⟨(encC a).toArray⟩ : ByteArray) = ⟨(encC b).toArray⟩) := fun h => by
    rw [ba_eq] at h
    rw [enc_tell oa ob h, cmpC_self] at e1; cases e1
   repeat' first
    | (refine aq1 rfl rfl fun K HK => ?_; simp only [go_sem]; refine bst_by (n := 1) (h := []) byT_38 strT_9 ?_; refine HK _ _ rfl ?_; clear HK K)
    | refine aw_seq' ?_
    | refine aw_region' ?_
    | refine ao_nil ?_
    | ((first | refine ao1 rfl rfl fun K HK => ?_ | refine aq1 rfl rfl fun K HK => ?_); (first | refine aOp_pick rfl ?_ | skip); simp only [go_sem, ↓reduceIte, Nat.reduceEqDiff, Nat.reduceAdd, Nat.reduceLeDiff, Nat.reduceBEq, Nat.reduceMul, Int.reduceEq, Int.reduceLT, Int.reduceLE, cmdX_eq, eq_self_iff_true, wz, hne, Bool.false_eq_true]; (first | refine splitB (fun hq => ?_) (fun hq => ?_) | refine splitN (fun hq => ?_) (fun hq => ?_) | skip) <;> ((first | refine HK _ _ ?_ | refine HK _ _ rfl ?_); clear HK K))
    | refine aq0 rfl rfl ?_
    | refine aq_nil ?_
    | (refine aw_draw mixd (by kernel_rfl) ?_)
    | refine ao0 rfl rfl ?_
    | (refine ao2 rfl rfl rfl ent_11 (haw _) ?_; rintro _ _ ⟨rfl, rfl⟩)
    | (refine ao2 rfl rfl rfl ent_16 (hsa _) ?_; rintro _ _ ⟨rfl, rfl⟩)
    | (refine ao2 rfl rfl rfl ent_16 (hsb _) ?_; rintro _ _ ⟨rfl, rfl⟩)
    | (refine ao2 rfl rfl rfl ent_16 (hsc _) ?_; rintro _ _ ⟨rfl, rfl⟩)
    | (refine ao2 rfl rfl rfl ent_27 (haa _) ?_; rintro _ _ ⟨rfl, rfl⟩)
    | refine aq2 rfl rfl rfl ent_27 (hab _) ?_
    | refine aq2 rfl rfl rfl ent_27 (hbc _) ?_
    | refine aq2 rfl rfl rfl ent_27 (hac _) ?_
    | (refine ao2 rfl rfl rfl ent_27 (hba _) ?_; rintro _ _ ⟨rfl, rfl⟩)
    | refine aq2 rfl rfl rfl ent_17 (hea _) ?_
    | refine aq2 rfl rfl rfl ent_17 (heb _) ?_
    | refine aw_if0 rfl ?_
    | refine aw_skip ?_
    | refine aw_ret ?_
   all_goals first
    | exact ⟨.inr rfl, endD (r := .v _) hl0 rfl (by simp) (by simp) rfl (by rw [low]; trivial) ⟨rfl, rfl⟩⟩
    | (exfalso; omega)
 · rw [e1] at hab hba; rw [e2] at hbc; rw [e3] at hac
   rw [show (- -1 : Int) = 1 from rfl] at hba
   have wz : IntKind.i64.wrap (0 - -1) = 1 := by decide
   have hne : ¬ ((⟨(encC a).toArray⟩ : ByteArray) = ⟨(encC b).toArray⟩) := fun h => by
    rw [ba_eq] at h
    rw [enc_tell oa ob h, cmpC_self] at e1; cases e1
   repeat' first
    | (refine aq1 rfl rfl fun K HK => ?_; simp only [go_sem]; refine bst_by (n := 1) (h := []) byT_38 strT_9 ?_; refine HK _ _ rfl ?_; clear HK K)
    | refine aw_seq' ?_
    | refine aw_region' ?_
    | refine ao_nil ?_
    | ((first | refine ao1 rfl rfl fun K HK => ?_ | refine aq1 rfl rfl fun K HK => ?_); (first | refine aOp_pick rfl ?_ | skip); simp only [go_sem, ↓reduceIte, Nat.reduceEqDiff, Nat.reduceAdd, Nat.reduceLeDiff, Nat.reduceBEq, Nat.reduceMul, Int.reduceEq, Int.reduceLT, Int.reduceLE, cmdX_eq, eq_self_iff_true, wz, hne, Bool.false_eq_true]; (first | refine splitB (fun hq => ?_) (fun hq => ?_) | refine splitN (fun hq => ?_) (fun hq => ?_) | skip) <;> ((first | refine HK _ _ ?_ | refine HK _ _ rfl ?_); clear HK K))
    | refine aq0 rfl rfl ?_
    | refine aq_nil ?_
    | (refine aw_draw mixd (by kernel_rfl) ?_)
    | refine ao0 rfl rfl ?_
    | (refine ao2 rfl rfl rfl ent_11 (haw _) ?_; rintro _ _ ⟨rfl, rfl⟩)
    | (refine ao2 rfl rfl rfl ent_16 (hsa _) ?_; rintro _ _ ⟨rfl, rfl⟩)
    | (refine ao2 rfl rfl rfl ent_16 (hsb _) ?_; rintro _ _ ⟨rfl, rfl⟩)
    | (refine ao2 rfl rfl rfl ent_16 (hsc _) ?_; rintro _ _ ⟨rfl, rfl⟩)
    | (refine ao2 rfl rfl rfl ent_27 (haa _) ?_; rintro _ _ ⟨rfl, rfl⟩)
    | refine aq2 rfl rfl rfl ent_27 (hab _) ?_
    | refine aq2 rfl rfl rfl ent_27 (hbc _) ?_
    | refine aq2 rfl rfl rfl ent_27 (hac _) ?_
    | (refine ao2 rfl rfl rfl ent_27 (hba _) ?_; rintro _ _ ⟨rfl, rfl⟩)
    | refine aq2 rfl rfl rfl ent_17 (hea _) ?_
    | refine aq2 rfl rfl rfl ent_17 (heb _) ?_
    | refine aw_if0 rfl ?_
    | refine aw_skip ?_
    | refine aw_ret ?_
   all_goals first
    | exact ⟨.inr rfl, endD (r := .v _) hl0 rfl (by simp) (by simp) rfl (by rw [low]; trivial) ⟨rfl, rfl⟩⟩
    | (exfalso; omega)
 · rw [e1] at hab hba; rw [e2] at hbc; rw [e3] at hac
   rw [show (- -1 : Int) = 1 from rfl] at hba
   have wz : IntKind.i64.wrap (0 - -1) = 1 := by decide
   have hne : ¬ ((⟨(encC a).toArray⟩ : ByteArray) = ⟨(encC b).toArray⟩) := fun h => by
    rw [ba_eq] at h
    rw [enc_tell oa ob h, cmpC_self] at e1; cases e1
   repeat' first
    | (refine aq1 rfl rfl fun K HK => ?_; simp only [go_sem]; refine bst_by (n := 1) (h := []) byT_38 strT_9 ?_; refine HK _ _ rfl ?_; clear HK K)
    | refine aw_seq' ?_
    | refine aw_region' ?_
    | refine ao_nil ?_
    | ((first | refine ao1 rfl rfl fun K HK => ?_ | refine aq1 rfl rfl fun K HK => ?_); (first | refine aOp_pick rfl ?_ | skip); simp only [go_sem, ↓reduceIte, Nat.reduceEqDiff, Nat.reduceAdd, Nat.reduceLeDiff, Nat.reduceBEq, Nat.reduceMul, Int.reduceEq, Int.reduceLT, Int.reduceLE, cmdX_eq, eq_self_iff_true, wz, hne, Bool.false_eq_true]; (first | refine splitB (fun hq => ?_) (fun hq => ?_) | refine splitN (fun hq => ?_) (fun hq => ?_) | skip) <;> ((first | refine HK _ _ ?_ | refine HK _ _ rfl ?_); clear HK K))
    | refine aq0 rfl rfl ?_
    | refine aq_nil ?_
    | (refine aw_draw mixd (by kernel_rfl) ?_)
    | refine ao0 rfl rfl ?_
    | (refine ao2 rfl rfl rfl ent_11 (haw _) ?_; rintro _ _ ⟨rfl, rfl⟩)
    | (refine ao2 rfl rfl rfl ent_16 (hsa _) ?_; rintro _ _ ⟨rfl, rfl⟩)
    | (refine ao2 rfl rfl rfl ent_16 (hsb _) ?_; rintro _ _ ⟨rfl, rfl⟩)
    | (refine ao2 rfl rfl rfl ent_16 (hsc _) ?_; rintro _ _ ⟨rfl, rfl⟩)
    | (refine ao2 rfl rfl rfl ent_27 (haa _) ?_; rintro _ _ ⟨rfl, rfl⟩)
    | refine aq2 rfl rfl rfl ent_27 (hab _) ?_
    | refine aq2 rfl rfl rfl ent_27 (hbc _) ?_
    | refine aq2 rfl rfl rfl ent_27 (hac _) ?_
    | (refine ao2 rfl rfl rfl ent_27 (hba _) ?_; rintro _ _ ⟨rfl, rfl⟩)
    | refine aq2 rfl rfl rfl ent_17 (hea _) ?_
    | refine aq2 rfl rfl rfl ent_17 (heb _) ?_
    | refine aw_if0 rfl ?_
    | refine aw_skip ?_
    | refine aw_ret ?_
   all_goals first
    | exact ⟨.inr rfl, endD (r := .v _) hl0 rfl (by simp) (by simp) rfl (by rw [low]; trivial) ⟨rfl, rfl⟩⟩
    | (exfalso; omega)
 · rw [e1] at hab hba; rw [e2] at hac
   have hz := cmpC_zero.1 e1
   have hz1 := hz.1
   have hz2 := hz.2.1
   rw [hz.2.2] at hea
   generalize cmpC b c = y at hac hbc
   rw [show (-0 : Int) = 0 from rfl] at hba
   have wz : IntKind.i64.wrap (0 - 0) = 0 := by decide
   repeat' first
    | (refine aq1 rfl rfl fun K HK => ?_; simp only [go_sem]; refine bst_by (n := 1) (h := []) byT_38 strT_9 ?_; refine HK _ _ rfl ?_; clear HK K)
    | refine aw_seq' ?_
    | refine aw_region' ?_
    | refine ao_nil ?_
    | ((first | refine ao1 rfl rfl fun K HK => ?_ | refine aq1 rfl rfl fun K HK => ?_); (first | refine aOp_pick rfl ?_ | skip); simp only [go_sem, ↓reduceIte, Nat.reduceEqDiff, Nat.reduceAdd, Nat.reduceLeDiff, Nat.reduceBEq, Nat.reduceMul, Int.reduceEq, Int.reduceLT, Int.reduceLE, cmdX_eq, eq_self_iff_true, wz, Bool.false_eq_true]; (first | refine splitB (fun hq => ?_) (fun hq => ?_) | refine splitN (fun hq => ?_) (fun hq => ?_) | skip) <;> ((first | refine HK _ _ ?_ | refine HK _ _ rfl ?_); clear HK K))
    | refine aq0 rfl rfl ?_
    | refine aq_nil ?_
    | (refine aw_draw mixd (by kernel_rfl) ?_)
    | refine ao0 rfl rfl ?_
    | (refine ao2 rfl rfl rfl ent_11 (haw _) ?_; rintro _ _ ⟨rfl, rfl⟩)
    | (refine ao2 rfl rfl rfl ent_16 (hsa _) ?_; rintro _ _ ⟨rfl, rfl⟩)
    | (refine ao2 rfl rfl rfl ent_16 (hsb _) ?_; rintro _ _ ⟨rfl, rfl⟩)
    | (refine ao2 rfl rfl rfl ent_16 (hsc _) ?_; rintro _ _ ⟨rfl, rfl⟩)
    | (refine ao2 rfl rfl rfl ent_27 (haa _) ?_; rintro _ _ ⟨rfl, rfl⟩)
    | refine aq2 rfl rfl rfl ent_27 (hab _) ?_
    | refine aq2 rfl rfl rfl ent_27 (hbc _) ?_
    | refine aq2 rfl rfl rfl ent_27 (hac _) ?_
    | (refine ao2 rfl rfl rfl ent_27 (hba _) ?_; rintro _ _ ⟨rfl, rfl⟩)
    | refine aq2 rfl rfl rfl ent_17 (hea _) ?_
    | refine aq2 rfl rfl rfl ent_17 (heb _) ?_
    | refine aw_if1 rfl ?_
    | refine aw_if0 rfl ?_
    | refine aw_skip ?_
    | refine aw_ret ?_
    | refine thenS_r ?_
    | (exfalso; omega)
   all_goals first
    | exact ⟨.inr rfl, endD (r := .v _) hl0 rfl (by simp) (by simp) rfl (by rw [low]; trivial) ⟨rfl, rfl⟩⟩
    | (exfalso; omega)
 · have hlin := cmp_gt e1
   rw [e1] at hab hba
   generalize cmpC a c = z at hac
   generalize cmpC b c = y at hbc
   have wz : IntKind.i64.wrap (0 - 1) = -1 := by decide
   have hne : ¬ ((⟨(encC a).toArray⟩ : ByteArray) = ⟨(encC b).toArray⟩) := fun h => by
    rw [ba_eq] at h
    rw [enc_tell oa ob h, cmpC_self] at e1; cases e1
   repeat' first
    | (refine aq1 rfl rfl fun K HK => ?_; simp only [go_sem]; refine bst_by (n := 1) (h := []) byT_38 strT_9 ?_; refine HK _ _ rfl ?_; clear HK K)
    | refine aw_seq' ?_
    | refine aw_region' ?_
    | refine ao_nil ?_
    | ((first | refine ao1 rfl rfl fun K HK => ?_ | refine aq1 rfl rfl fun K HK => ?_); (first | refine aOp_pick rfl ?_ | skip); simp only [go_sem, ↓reduceIte, Nat.reduceEqDiff, Nat.reduceAdd, Nat.reduceLeDiff, Nat.reduceBEq, Nat.reduceMul, Int.reduceEq, Int.reduceLT, Int.reduceLE, cmdX_eq, eq_self_iff_true, wz, hne, Bool.false_eq_true]; (first | refine splitB (fun hq => ?_) (fun hq => ?_) | refine splitN (fun hq => ?_) (fun hq => ?_) | skip) <;> ((first | refine HK _ _ ?_ | refine HK _ _ rfl ?_); clear HK K))
    | refine aq0 rfl rfl ?_
    | refine aq_nil ?_
    | (refine aw_draw mixd (by kernel_rfl) ?_)
    | refine ao0 rfl rfl ?_
    | (refine ao2 rfl rfl rfl ent_11 (haw _) ?_; rintro _ _ ⟨rfl, rfl⟩)
    | (refine ao2 rfl rfl rfl ent_16 (hsa _) ?_; rintro _ _ ⟨rfl, rfl⟩)
    | (refine ao2 rfl rfl rfl ent_16 (hsb _) ?_; rintro _ _ ⟨rfl, rfl⟩)
    | (refine ao2 rfl rfl rfl ent_16 (hsc _) ?_; rintro _ _ ⟨rfl, rfl⟩)
    | (refine ao2 rfl rfl rfl ent_27 (haa _) ?_; rintro _ _ ⟨rfl, rfl⟩)
    | refine aq2 rfl rfl rfl ent_27 (hab _) ?_
    | refine aq2 rfl rfl rfl ent_27 (hbc _) ?_
    | refine aq2 rfl rfl rfl ent_27 (hac _) ?_
    | (refine ao2 rfl rfl rfl ent_27 (hba _) ?_; rintro _ _ ⟨rfl, rfl⟩)
    | refine aq2 rfl rfl rfl ent_17 (hea _) ?_
    | refine aq2 rfl rfl rfl ent_17 (heb _) ?_
    | refine aw_if0 rfl ?_
    | refine aw_skip ?_
    | refine aw_ret ?_
    | (exfalso; omega)
   all_goals first
    | exact ⟨.inr rfl, endD (r := .v _) hl0 rfl (by simp) (by simp) rfl (by rw [low]; trivial) ⟨rfl, rfl⟩⟩
    | (exfalso; omega)
end
end Go.Proofs.YtgkjcmglcnhpaaaGreatDoor
