/-
  What the statements of the chapter share, part 20: SH3, SH4, CM3, CM4.
-/
import Derived.Test.YtgkjcmglcnhpaaaGreatDoorO16
import Derived.Test.YtgkjcmglcnhpaaaGreatDoorO18
import Derived.Test.YtgkjcmglcnhpaaaGreatDoorO19
set_option linter.unusedVariables false
set_option linter.unusedSimpArgs false
set_option maxRecDepth 100000
set_option maxHeartbeats 8000000
namespace Go.Proofs.YtgkjcmglcnhpaaaGreatDoor
open Go.RowKit
section
set_option maxRecDepth 100000
set_option maxHeartbeats 4000000
set_option pp.maxSteps 1000000
set_option pp.deepTerms true
attribute [local irreducible] on aOp
attribute [local go_sem] decide_true decide_false Bool.not_true Bool.not_false
attribute [local simp] byD_len
theorem mix_step (f : UInt8 → UInt8) : ∀ (l : List UInt8) (k : Nat) (h : k < l.length), ((l.take k).map f ++ l.drop k).set k (f l[k]) = (l.take (k + 1)).map f ++ l.drop (k + 1)
 | [], k, h => by simp at h
 | a :: l, 0, h => by simp
 | a :: l, k + 1, h => by
  have := mix_step f l k (by simpa using h)
  simp only [List.take_succ_cons, List.map_cons, List.cons_append, List.drop_succ_cons, List.set_cons_succ, List.getElem_cons_succ] at this ⊢
  rw [this]
theorem xorB_len (x : UInt8) (l : List UInt8) : (xorB x l).length = l.length := List.length_map ..
theorem rows_k {a b : List UInt8} (h : a.length = 64) : (((kC a).drop 0).take 64).map (fun d => [d]) ++ byD b = byD (a ++ b) := by
 rw [List.drop_zero, List.take_of_length_le (by rw [kC_len]; omega), kC_rows]; simp [byD]
theorem low_T0 : ∀ m, lowH m ([] : List Ob) := fun m x hx => by simp at hx
theorem low_T1 (a : List UInt8) : ∀ m, lowH m ([] ++ [Ob.cells (kC a)]) := fun m x hx => by
 simp at hx; subst hx; exact low_kC m a
theorem sumZ_ne (l : List UInt8) : sumZ l ≠ [] := fun h => by have := sumZ_len l; rw [h] at this; cases this
theorem low_cT {T : List Ob} (hT : ∀ m, lowH m T) (a b : List UInt8) {m : Nat} : lowH m (.cells (kC a) :: (T ++ [.cells (kC b)])) := fun x hx => by
 rcases List.mem_cons.1 hx with rfl | hx
 · exact low_kC m a
 · rcases List.mem_append.1 hx with hx | hx
   · exact hT m x hx
   · simp at hx; subst hx; exact low_kC m b
theorem byD_ne {l : List UInt8} (h : l ≠ []) : byD l ≠ [] := by cases l with
 | nil => exact absurd rfl h
 | cons a t => simp [byD]
theorem cons_last {A x : Ob} {T : List Ob} : (A :: (T ++ [x]))[T.length + 1]? = some x := by simp
theorem cons_lastA {A x : Ob} {T : List Ob} : (A :: T ++ [x])[(A :: T).length]? = some x := by simp
theorem cons_lset {A x y : Ob} {T : List Ob} : (A :: (T ++ [x])).set (T.length + 1) y = A :: (T ++ [y]) := by simp
theorem cons_llen {A : Ob} {T : List Ob} : (A :: T).length = T.length + 1 := rfl
variable (G : Nat → D) (hG : ∀ g, low 0 (G g))
include hG
theorem pad_d (kk : List UInt8) (hkl : kk.length = 64) (x : UInt8) (T : List Ob) (hT : ∀ m, lowH m T) : Does Tryz.prog G 116 (.cells (kC kk) :: T) [.v (.int .u8 x.toNat), .ptr 0 0] (fun h' r => h' = .cells (kC kk) :: (T ++ [.cells (kC (xorB x kk))]) ∧ r = .arr (T.length + 1) 0 64 64 1) := by
 have hT0 : (.cells (kC kk) :: T : List Ob)[0]? = some (.cells (kC kk)) := rfl
 refine does_of_aw Tryz.func116 rfl (Nat.le_of_ble_eq_true rfl) hG fun hl0 _ => ?_
 simp only [Tryz.ntmps116]
 repeat' first
  | (refine ao1 rfl rfl fun K HK => ?_; refine aOp_larr (by first | rfl | (simp only [go_sem, hT0]; rfl)) (by first | rfl | assumption) (getD_ka (by first | (simp only [go_sem]; rfl) | (simp only [go_sem]; done)) (by first | (simp only [go_sem]; rfl) | (simp only [go_sem]; done)) hkl) ?_; refine HK _ _ ?_; clear HK K)
  | (refine ao1 rfl rfl fun K HK => ?_; refine aOp_alc (ds := kC (List.replicate 64 0)) (by kernel_rfl) ?_; refine HK _ _ ?_; clear HK K)
  | (refine ao1' rfl fun K HK => ?_; refine aOp_stw (by first | rfl | (simp only [go_sem, hT0]; rfl)) (by first | exact cons_lastA | exact cons_last) rfl (by rw [all_kC, kC_len, hkl]; first | (simp only [go_sem]; done) | (simp only [go_sem]; rfl)) (by rw [kC_len, kC_len, hkl]; rfl) ?_; refine HK _ _ ?_; clear HK K)
  | refine aw_seq' ?_
  | refine aw_region' ?_
  | refine aw_block ?_
  | refine ao_nil ?_
  | (refine ao1 rfl rfl fun K HK => ?_; simp only [go_sem, ↓reduceIte, Nat.reduceEqDiff, Nat.reduceAdd, Nat.reduceLeDiff, Nat.reduceBEq, Nat.reduceMul, Int.reduceEq, Int.reduceLT, Int.reduceLE, cons_lset, cons_llen, cons_last, List.cons_append] <;> (refine HK _ _ ?_; clear HK K))
 refine aw_for (fun m e h' => ∃ (k : Nat), k ≤ 64 ∧ m = 64 - k ∧ h' = .cells (kC kk) :: (T ++ [.cells (kC ((kk.take k).map (· ^^^ x) ++ kk.drop k))]) ∧ e 0 = .v (.int .u8 x.toNat) ∧ e 4 = .ptr (T.length + 1) 0 ∧ e 7 = .v (.int .i64 k)) 64 ⟨0, by omega, rfl, ?_, rfl, ?_, rfl⟩ ?_
 · simp
 · simp [upd]
 rintro m e h' ⟨k, hk, rfl, rfl, e0, e4, e7⟩
 by_cases hlt : k < 64
 · generalize hW : (kk.take k).map (· ^^^ x) ++ kk.drop k = W
   have hWl : W.length = 64 := by rw [← hW]; simp; omega
   have hx : W[k]? = some (kk[k]'(by omega)) := by
    rw [← hW, List.getElem?_append_right (by simp; omega)]
    have : k - (List.map (· ^^^ x) (List.take k kk)).length = 0 := by simp; omega
    rw [this, List.getElem?_drop, Nat.add_zero, List.getElem?_eq_getElem (by omega)]
   have hN : W.set k (kk[k]'(by omega) ^^^ x) = (kk.take (k + 1)).map (· ^^^ x) ++ kk.drop (k + 1) := by
    rw [← hW]; exact mix_step (· ^^^ x) kk k (by omega)
   generalize (kk[k]'(by omega)) = w at hx hN
   have wk : IntKind.i64.wrap ((k : Int) + 1) = ((k + 1 : Nat) : Int) := IntWalk.i64_in _ (by omega)
   repeat' first
    | (refine ao1 rfl rfl fun K HK => ?_; refine aOp_iarr (by first | rfl | (simp only [go_sem, e0, e4, e7]; rfl)) (by first | rfl | (simp only [go_sem, e0, e4, e7]; rfl)) (by first | (simp only [go_sem]; rfl) | (simp only [go_sem]; done)) (by first | (simp only [go_sem]; rfl) | (simp only [go_sem]; done)) (by omega) ?_; refine HK _ _ ?_; clear HK K)
    | (refine ao1 rfl rfl fun K HK => ?_; refine aOp_larr (by first | rfl | (simp only [go_sem, e0, e4, e7]; rfl)) (by first | exact cons_last | exact cons_lastA) (getD_kb (by first | (simp only [go_sem]; rfl) | (simp only [go_sem]; done)) hx) ?_; refine HK _ _ ?_; clear HK K)
    | (refine ao1' rfl fun K HK => ?_; refine aOp_stA (es := [.v (.int .u8 _)]) (by first | rfl | (simp only [go_sem, e0, e4, e7]; rfl)) (by first | exact cons_last | exact cons_lastA) rfl (by first | (simp only [go_sem]; done) | (simp only [go_sem]; rfl)) (by rw [kC_len]; simp only [List.length_cons, List.length_nil]; omega) (putL_kb (by omega) (xor_byte w x)) ?_; refine HK _ _ ?_; clear HK K)
    | refine aw_seq' ?_
    | refine aw_region' ?_
    | refine aw_block ?_
    | refine ao_nil ?_
    | (refine ao1 rfl rfl fun K HK => ?_; simp only [go_sem, ↓reduceIte, Nat.reduceEqDiff, Nat.reduceAdd, Nat.reduceLeDiff, Nat.reduceBEq, Nat.reduceMul, Int.reduceEq, Int.reduceLT, Int.reduceLE, e0, e4, e7, wk, cons_lset, cons_llen, cons_last]; (first | refine splitB (fun hq => ?_) (fun hq => ?_) | skip) <;> (refine HK _ _ ?_; clear HK K))
    | refine aw_if1 rfl ?_
    | refine aw_if0 rfl ?_
    | refine aw_skip ?_
    | refine aw_exit ?_
    | refine thenS_n ?_
    | (exfalso; omega)
   exact ⟨rfl, 64 - (k + 1), by omega, k + 1, by omega, rfl, congrArg (fun z => Ob.cells (kC kk) :: (T ++ [Ob.cells (kC z)])) hN, by simp [upd, e0], by simp [upd, e4], rfl⟩
 have hk64 : k = 64 := by omega
 subst hk64
 repeat' first
  | (refine ao_tri1 rfl rfl (tri_slcArr (n := 64) (el := 5) (k := 1) (by first | rfl | (simp only [go_sem, e0, e4, e7]; rfl)) (by simp only [go_sem]) (by simp only [go_sem])) ?_)
  | refine aw_seq' ?_
  | refine aw_region' ?_
  | refine aw_block ?_
  | refine ao_nil ?_
  | (refine ao1 rfl rfl fun K HK => ?_; simp only [go_sem, ↓reduceIte, Nat.reduceEqDiff, Nat.reduceAdd, Nat.reduceLeDiff, Nat.reduceBEq, Nat.reduceMul, Int.reduceEq, Int.reduceLT, Int.reduceLE, e0, e4, e7, cons_lset, cons_llen, cons_last]; (first | refine splitB (fun hq => ?_) (fun hq => ?_) | skip) <;> (refine HK _ _ ?_; clear HK K))
  | refine aw_if1 rfl ?_
  | refine aw_if0 rfl ?_
  | refine aw_skip ?_
  | refine aw_exit ?_
  | refine aw_ret ?_
  | (exfalso; omega)
 have hxb : (kk.take 64).map (· ^^^ x) ++ kk.drop 64 = xorB x kk := by
  rw [List.take_of_length_le (by omega), List.drop_of_length_le (by omega), List.append_nil]; rfl
 rw [hxb]
 exact ⟨.inr rfl, endX [.arr (T.length + 1) 0 64 64 1] (.cells (kC kk) :: (T ++ [.cells (kC (xorB x kk))])) [] (.arr (T.length + 1) 0 64 64 1) rfl (by simp) (by simp) (low_cT hT _ _) (by simp [low]) rfl ⟨rfl, rfl⟩⟩
theorem digest_b (b : List UInt8) (hb : b.length ≤ 100000000) (hK : G 1 = .rp (shaK.map zD)) {h : List Ob} {i E n : Nat} {rows : List (List D)} (hi : h[i]? = some (.buf E 1 rows)) (hr : rows = byD b) (hn : n = b.length) : Does Tryz.prog G 115 h [.buf i n] (fun h' r => h' = h.set i .dead ∧ r = .sl 1 (byD (sumZ b))) := by
 subst hr hn
 exact Does.give1c hi byD_len (digest_d G hG b hb hK _)
theorem tag_l (key m : List UInt8) (hlong : 64 < key.length) (hm : m ≠ []) (hk : key.length ≤ 1000000) (hml : m.length ≤ 90000000) (hK : G 1 = .rp (shaK.map zD)) : Does Tryz.prog G 95 [] [.sl 1 (byD key), .sl 1 (byD m)] (fun h' r => h' = [] ∧ r = .sl 1 (byD (tagZ key m))) := by
 have hs := sumZ_len key
 have hkz : sumZ key ++ (List.replicate 64 (0 : UInt8)).drop (sumZ key).length = keyZ key := by
  unfold keyZ; simp only [if_pos hlong]; rw [List.drop_replicate]
 have hkl := keyZ_len key
 have hT : tagZ key m = sumZ (xorB 92 (keyZ key) ++ sumZ (xorB 54 (keyZ key) ++ m)) := by unfold tagZ; rfl
 refine does_of_aw Tryz.func95 rfl (Nat.le_of_ble_eq_true rfl) hG fun hl0 _ => ?_
 simp only [Tryz.ntmps95]
 repeat' first
  | (refine ao1 rfl rfl fun K HK => ?_; refine aOp_alc (ds := kC (List.replicate 64 0)) (by kernel_rfl) ?_; refine HK _ _ ?_; clear HK K)
  | (refine ao_tri1 rfl rfl (tri_slcArr (n := 64) (el := 5) (k := 1) rfl (by simp only [go_sem]) (by simp only [go_sem])) ?_)
  | (refine ao_tri1 rfl rfl (tri_cpArr rfl rfl (by simp only [go_sem, Option.bind_some]) rfl (by rw [byD_len]; omega) (by simp [kC]) (rowsOk_by _)) ?_)
  | (refine ao_mkfc rfl rfl ?_)
  | refine aw_seq' ?_
  | refine aw_region' ?_
  | refine ao_nil ?_
  | (refine ao1 rfl rfl fun K HK => ?_; simp only [go_sem, ↓reduceIte, Nat.reduceEqDiff, Nat.reduceAdd, Nat.reduceLeDiff, Nat.reduceBEq, Nat.reduceMul, Int.reduceEq, Int.reduceLT, Int.reduceLE]; (first | refine splitB (fun hq => ?_) (fun hq => ?_) | skip) <;> (refine HK _ _ ?_; clear HK K))
  | (refine ao2 rfl rfl rfl ent_115 (digest_d G hG key (by omega) hK _) ?_; rintro _ _ ⟨rfl, rfl⟩)
  | refine aw_if1 rfl ?_
  | refine aw_if0 rfl ?_
  | refine aw_skip ?_
  | (exfalso; omega)
 rw [putL_k0 (by simp; omega), hkz]
 generalize hKK : keyZ key = KK at hkl hT ⊢
 have hx1 := xorB_len 54 KK
 have hx2 := xorB_len 92 KK
 repeat' first
  | (refine ao_tri1 rfl rfl (tri_apArr rfl rfl (by simp only [go_sem]; rfl) rfl (byD_ne (by first | assumption | exact sumZ_ne _)) (by rw [kC_len]; omega) (rowsOk_by _) (by rw [byD_len]; first | omega | (rw [sumZ_len]; omega))) ?_)
  | refine ao_nil ?_
  | (refine ao1 rfl rfl fun K HK => ?_; simp only [go_sem, ↓reduceIte, Nat.reduceEqDiff, Nat.reduceAdd, Nat.reduceLeDiff, Nat.reduceBEq, Nat.reduceMul, Int.reduceEq, Int.reduceLT, Int.reduceLE] <;> (refine HK _ _ ?_; clear HK K))
  | (refine ao2 rfl rfl rfl ent_116 (pad_d G hG KK hkl 92 [] low_T0) ?_; rintro _ _ ⟨rfl, rfl⟩)
  | (refine ao2 rfl rfl rfl ent_116 (pad_d G hG KK hkl 54 _ (low_T1 _)) ?_; rintro _ _ ⟨rfl, rfl⟩)
  | (refine ao2 rfl rfl rfl ent_115 (digest_b G hG (xorB 54 KK ++ m) (by rw [List.length_append]; omega) hK rfl (rows_k (by omega)) (by rw [byD_len, List.length_append]; omega)) ?_; rintro _ _ ⟨rfl, rfl⟩)
  | (refine ao2 rfl rfl rfl ent_115 (digest_b G hG (xorB 92 KK ++ sumZ (xorB 54 KK ++ m)) (by rw [List.length_append, sumZ_len]; omega) hK rfl (rows_k (by omega)) (by rw [byD_len, List.length_append]; omega)) ?_; rintro _ _ ⟨rfl, rfl⟩)
  | refine aw_ret ?_
 rw [hT]
 exact ⟨.inr rfl, endD (r := .sl 1 (byD (sumZ (xorB 92 KK ++ sumZ (xorB 54 KK ++ m))))) hl0 rfl (by simp) (by simp) rfl (low_by _ _) ⟨rfl, rfl⟩⟩
theorem tag_s (key m : List UInt8) (hlong : ¬ 64 < key.length) (hm : m ≠ []) (hml : m.length ≤ 90000000) (hK : G 1 = .rp (shaK.map zD)) : Does Tryz.prog G 95 [] [.sl 1 (byD key), .sl 1 (byD m)] (fun h' r => h' = [] ∧ r = .sl 1 (byD (tagZ key m))) := by
 have hkz : key ++ (List.replicate 64 (0 : UInt8)).drop key.length = keyZ key := by
  unfold keyZ; simp only [if_neg hlong]; rw [List.drop_replicate]
 have hkl := keyZ_len key
 have hT : tagZ key m = sumZ (xorB 92 (keyZ key) ++ sumZ (xorB 54 (keyZ key) ++ m)) := by unfold tagZ; rfl
 refine does_of_aw Tryz.func95 rfl (Nat.le_of_ble_eq_true rfl) hG fun hl0 _ => ?_
 simp only [Tryz.ntmps95]
 repeat' first
  | (refine ao1 rfl rfl fun K HK => ?_; refine aOp_alc (ds := kC (List.replicate 64 0)) (by kernel_rfl) ?_; refine HK _ _ ?_; clear HK K)
  | (refine ao_tri1 rfl rfl (tri_slcArr (n := 64) (el := 5) (k := 1) rfl (by simp only [go_sem]) (by simp only [go_sem])) ?_)
  | (refine ao_tri1 rfl rfl (tri_cpArr rfl rfl (by simp only [go_sem, Option.bind_some]) rfl (by rw [byD_len]; omega) (by simp [kC]) (rowsOk_by _)) ?_)
  | (refine ao_mkfc rfl rfl ?_)
  | refine aw_seq' ?_
  | refine aw_region' ?_
  | refine ao_nil ?_
  | (refine ao1 rfl rfl fun K HK => ?_; simp only [go_sem, ↓reduceIte, Nat.reduceEqDiff, Nat.reduceAdd, Nat.reduceLeDiff, Nat.reduceBEq, Nat.reduceMul, Int.reduceEq, Int.reduceLT, Int.reduceLE]; (first | refine splitB (fun hq => ?_) (fun hq => ?_) | skip) <;> (refine HK _ _ ?_; clear HK K))
  | refine aw_if1 rfl ?_
  | refine aw_if0 rfl ?_
  | refine aw_skip ?_
  | (exfalso; omega)
 rw [putL_k0 (by simp; omega), hkz]
 generalize hKK : keyZ key = KK at hkl hT ⊢
 have hx1 := xorB_len 54 KK
 have hx2 := xorB_len 92 KK
 repeat' first
  | (refine ao_tri1 rfl rfl (tri_apArr rfl rfl (by simp only [go_sem]; rfl) rfl (byD_ne (by first | assumption | exact sumZ_ne _)) (by rw [kC_len]; omega) (rowsOk_by _) (by rw [byD_len]; first | omega | (rw [sumZ_len]; omega))) ?_)
  | refine ao_nil ?_
  | (refine ao1 rfl rfl fun K HK => ?_; simp only [go_sem, ↓reduceIte, Nat.reduceEqDiff, Nat.reduceAdd, Nat.reduceLeDiff, Nat.reduceBEq, Nat.reduceMul, Int.reduceEq, Int.reduceLT, Int.reduceLE] <;> (refine HK _ _ ?_; clear HK K))
  | (refine ao2 rfl rfl rfl ent_116 (pad_d G hG KK hkl 92 [] low_T0) ?_; rintro _ _ ⟨rfl, rfl⟩)
  | (refine ao2 rfl rfl rfl ent_116 (pad_d G hG KK hkl 54 _ (low_T1 _)) ?_; rintro _ _ ⟨rfl, rfl⟩)
  | (refine ao2 rfl rfl rfl ent_115 (digest_b G hG (xorB 54 KK ++ m) (by rw [List.length_append]; omega) hK rfl (rows_k (by omega)) (by rw [byD_len, List.length_append]; omega)) ?_; rintro _ _ ⟨rfl, rfl⟩)
  | (refine ao2 rfl rfl rfl ent_115 (digest_b G hG (xorB 92 KK ++ sumZ (xorB 54 KK ++ m)) (by rw [List.length_append, sumZ_len]; omega) hK rfl (rows_k (by omega)) (by rw [byD_len, List.length_append]; omega)) ?_; rintro _ _ ⟨rfl, rfl⟩)
  | refine aw_ret ?_
 rw [hT]
 exact ⟨.inr rfl, endD (r := .sl 1 (byD (sumZ (xorB 92 KK ++ sumZ (xorB 54 KK ++ m))))) hl0 rfl (by simp) (by simp) rfl (low_by _ _) ⟨rfl, rfl⟩⟩
theorem tag_d (key m : List UInt8) (hm : m ≠ []) (hk : key.length ≤ 1000000) (hml : m.length ≤ 90000000) (hK : G 1 = .rp (shaK.map zD)) (h : List Ob) : Does Tryz.prog G 95 h [.sl 1 (byD key), .sl 1 (byD m)] (fun h' r => h' = h ∧ r = .sl 1 (byD (tagZ key m))) := by
 refine does_any G hG (by rw [lowL, lowL, lowL]; exact ⟨low_by _ _, low_by _ _, trivial⟩) (low_by _ _) ?_ h
 by_cases hlong : 64 < key.length
 · exact tag_l G hG key m hlong hm hk hml hK
 · exact tag_s G hG key m hlong hm hml hK
end
section
set_option maxRecDepth 100000
set_option maxHeartbeats 4000000
set_option pp.maxSteps 1000000
set_option pp.deepTerms true
attribute [local irreducible] on aOp
attribute [local go_sem] decide_true decide_false Bool.not_true Bool.not_false
attribute [local simp] byD_len
def keyS : ByteArray := ⟨#[107, 101, 121]⟩
def deriveZ (master : List UInt8) (p ht : Int) : List UInt8 := tagZ master (textE keyS ++ (intE p ++ intE ht))
def signZ (master : List UInt8) (p ht : Int) (m : List UInt8) : List UInt8 := tagZ (deriveZ master p ht) m
theorem signZ_len (master : List UInt8) (p ht : Int) (m : List UInt8) : (signZ master p ht m).length = 32 := tagZ_len _ _
theorem deriveZ_len (master : List UInt8) (p ht : Int) : (deriveZ master p ht).length = 32 := tagZ_len _ _
def modOb (master : List UInt8) (p ht : Int) : Ob := .cells [.sl 1 (byD master), .v (.int .i64 p), .v (.int .i64 ht)]
theorem modOb_eq (master : List UInt8) (p ht : Int) : modOb master p ht = .cells [.sl 1 (byD master), .v (.int .i64 p), .v (.int .i64 ht)] := rfl
theorem low_mod (m : Nat) (master : List UInt8) (p ht : Int) : lowOb m (modOb master p ht) := ⟨low_by m _, by simp [lowL, low]⟩
theorem keyM_len {p ht : Int} (hp : I64 p) (hh : I64 ht) : (textE keyS ++ (intE p ++ intE ht)).length ≤ 40 := by
 have h1 := intE_len hp
 have h2 := intE_len hh
 have h3 : (textE keyS).length = 4 := by unfold textE; rw [uintE_lt (show keyS.size < 128 by decide)]; rfl
 simp only [List.length_append]; omega
theorem keyM_ne {p ht : Int} : (textE keyS ++ (intE p ++ intE ht)) ≠ [] := by
 unfold textE; simp [keyS]
variable (G : Nat → D) (hG : ∀ g, low 0 (G g)) (hK : G 1 = .rp (shaK.map zD))
include hG hK
theorem derive_d (master : List UInt8) (p ht : Int) (hp : I64 p) (hh : I64 ht) (hm : master.length ≤ 1000000) (h : List Ob) : Does Tryz.prog G 96 h [.sl 1 (byD master), .v (.int .i64 p), .v (.int .i64 ht)] (fun h' r => h' = h ∧ r = .sl 1 (byD (deriveZ master p ht))) := by
 refine does_any G hG (by rw [lowL]; exact ⟨low_by _ _, by simp [lowL, low]⟩) (low_by _ _) ?_ h
 have hl := keyM_len hp hh
 have hne := keyM_ne (p := p) (ht := ht)
 have h1 := intE_len hp
 have h3 : (textE keyS).length = 4 := by unfold textE; rw [uintE_lt (show keyS.size < 128 by decide)]; rfl
 refine does_of_aw Tryz.func96 rfl (Nat.le_of_ble_eq_true rfl) hG fun hl0 _ => ?_
 simp only [Tryz.ntmps96]
 repeat' first
  | (refine ao_nilcell 5 1 0 [] [] rfl ?_)
  | refine aw_seq' ?_
  | refine aw_region' ?_
  | refine ao_nil ?_
  | (refine ao1 rfl rfl fun K HK => ?_; simp only [go_sem, ↓reduceIte, Nat.reduceEqDiff, Nat.reduceAdd, Nat.reduceLeDiff, Nat.reduceBEq, Nat.reduceMul, Int.reduceEq, Int.reduceLT, Int.reduceLE] <;> (refine HK _ _ ?_; clear HK K))
  | (refine ao2 rfl rfl rfl ent_55 (wText_d G hG [] keyS (by decide) (by simp)) ?_; rintro _ _ ⟨rfl, rfl⟩)
  | (refine ao2 rfl rfl rfl ent_79 (wInt_d G hG (textE keyS) p hp (by omega)) ?_; rintro _ _ ⟨rfl, rfl⟩)
  | (refine ao2 rfl rfl rfl ent_79 (wInt_d G hG (textE keyS ++ intE p) ht hh (by rw [List.length_append]; omega)) ?_; rintro _ _ ⟨rfl, rfl⟩)
  | (refine ao2 rfl rfl rfl ent_46 (wData_d G hG (textE keyS ++ (intE p ++ intE ht)) (by omega)) ?_; rintro _ _ ⟨rfl, rfl⟩)
  | (refine ao2 rfl rfl rfl ent_95 (tag_d G hG master (textE keyS ++ (intE p ++ intE ht)) hne hm (by omega) hK _) ?_; rintro _ _ ⟨rfl, rfl⟩)
  | refine aw_ret ?_
 exact ⟨.inr rfl, endD (r := .sl 1 (byD (deriveZ master p ht))) hl0 rfl (by simp) (by simp) rfl (low_by _ _) ⟨rfl, rfl⟩⟩
theorem mSign_d (i : Nat) (master : List UInt8) (p ht : Int) (m : List UInt8) (hp : I64 p) (hm : master.length ≤ 1000000) (hml : m.length ≤ 80000000) (hne : m ≠ []) (h : List Ob) (hi : h[i]? = some (modOb master p ht)) (hh : ht ≤ 0) :
 Does Tryz.prog G 72 h [.ptr i 0, .v (.int .i64 0), .sl 1 (byD m)] (fun h' r => h' = h ∧ r = .tup [.sl 1 (byD (signZ master p 0 m)), .v (.int .i64 0)]) := by
 rw [modOb_eq] at hi
 have hd := deriveZ_len master p 0
 have hn : ¬ (0 : Int) < ht := by omega
 refine does_of_aw Tryz.func72 rfl (Nat.le_of_ble_eq_true rfl) hG fun hl0 _ => ?_
 simp only [Tryz.ntmps72]
 repeat' first
  | (refine ao1 rfl rfl fun K HK => ?_; refine aOp_larr (by first | rfl | (simp only [go_sem, hi]; rfl)) (by assumption) (by rw [getD_one (by first | (simp only [go_sem]; rfl) | (simp only [go_sem]; done))]; rfl) ?_; refine HK _ _ ?_; clear HK K)
  | (refine aq1 rfl rfl fun K HK => ?_; refine aOp_larr (by first | rfl | (simp only [go_sem, hi]; rfl)) (by assumption) (by rw [getD_one (by first | (simp only [go_sem]; rfl) | (simp only [go_sem]; done))]; rfl) ?_; refine HK _ _ rfl ?_; clear HK K)
  | refine aw_seq' ?_
  | refine aw_region' ?_
  | refine ao_nil ?_
  | ((first | refine ao1 rfl rfl fun K HK => ?_ | refine aq1 rfl rfl fun K HK => ?_); simp only [go_sem, ↓reduceIte, Nat.reduceEqDiff, Nat.reduceAdd, Nat.reduceLeDiff, Nat.reduceBEq, Nat.reduceMul, Int.reduceEq, Int.reduceLT, Int.reduceLE, hi]; (first | refine splitB (fun hq => ?_) (fun hq => ?_) | skip) <;> ((first | refine HK _ _ ?_ | refine HK _ _ rfl ?_); clear HK K))
  | refine aq_nil ?_
  | (refine aw_draw mixd (by kernel_rfl) ?_)
  | refine aq2 rfl rfl rfl ent_96 (derive_d G hG hK master p 0 hp (by simp [I64]) hm _) ?_
  | refine aq2 rfl rfl rfl ent_95 (tag_d G hG (deriveZ master p 0) m hne (by omega) (by omega) hK _) ?_
  | refine aw_if1 rfl ?_
  | refine aw_if0 rfl ?_
  | refine aw_skip ?_
  | refine aw_ret ?_
  | refine thenS_r ?_
  | (exfalso; omega)
 all_goals first
 | (exfalso; omega)
 | exact ⟨.inr rfl, endD (r := .tup [.sl 1 (byD (signZ master p 0 m)), .v (.int .i64 0)]) hl0 rfl (by simp) (by simp) rfl (by rw [low, lowL, lowL, lowL]; exact ⟨low_by _ _, by rw [low]; trivial, trivial⟩) ⟨rfl, rfl⟩⟩
omit hK in
theorem mProcess_d (i : Nat) (master : List UInt8) (p ht : Int) (h : List Ob) (hi : h[i]? = some (modOb master p ht)) : Does Tryz.prog G 71 h [.ptr i 0] (fun h' r => h' = h ∧ r = .v (.int .i64 p)) := by
 rw [modOb_eq] at hi
 refine does_of_aw Tryz.func71 rfl (Nat.le_of_ble_eq_true rfl) hG fun hl0 _ => ?_
 simp only [Tryz.ntmps71]
 repeat' first
  | refine aw_seq' ?_
  | refine aw_region' ?_
  | refine ao_nil ?_
  | (refine ao1 rfl rfl fun K HK => ?_; simp only [go_sem, ↓reduceIte, Nat.reduceEqDiff, Nat.reduceAdd, Nat.reduceLeDiff, Nat.reduceBEq, Nat.reduceMul, Int.reduceEq, Int.reduceLT, Int.reduceLE, hi] <;> (refine HK _ _ ?_; clear HK K))
  | refine aw_ret ?_
 exact ⟨.inr rfl, endD (r := .v (.int .i64 p)) hl0 rfl (by simp) (by simp) rfl (by simp [low]) ⟨rfl, rfl⟩⟩
omit hK in
theorem equal_d (a b : List UInt8) (h : List Ob) : Does Tryz.prog G 94 h [.sl 1 (byD a), .sl 1 (byD b)] (fun h' r => h' = h ∧ r = .v (.bool (decide (a = b)))) := by
 refine does_of_aw Tryz.func94 rfl (Nat.le_of_ble_eq_true rfl) hG fun hl0 _ => ?_
 simp only [Tryz.ntmps94]
 repeat' first
  | (refine ao1 rfl rfl fun K HK => ?_; refine aOp_bsl rfl (by simp only [go_sem]) (by simp only [go_sem]) ?_; refine HK _ _ ?_; clear HK K)
  | refine aw_seq' ?_
  | refine aw_region' ?_
  | refine ao_nil ?_
  | (refine ao1 rfl rfl fun K HK => ?_; simp only [go_sem, ↓reduceIte, Nat.reduceEqDiff, Nat.reduceAdd, Nat.reduceLeDiff, Nat.reduceBEq, Nat.reduceMul, Int.reduceEq, Int.reduceLT, Int.reduceLE]; (first | refine splitB (fun hq => ?_) (fun hq => ?_) | skip) <;> (refine HK _ _ ?_; clear HK K))
  | refine aw_ret ?_
 all_goals first
 | (have e : a = b := by (simpa using hq)
    rw [decide_eq_true e]
    exact ⟨.inr rfl, endD (r := .v (.bool true)) hl0 rfl (by simp) (by simp) rfl (by rw [low]; trivial) ⟨rfl, rfl⟩⟩)
 | (have e : ¬ a = b := fun e => hq (by rw [e])
    rw [decide_eq_false e]
    exact ⟨.inr rfl, endD (r := .v (.bool false)) hl0 rfl (by simp) (by simp) rfl (by rw [low]; trivial) ⟨rfl, rfl⟩⟩)
omit hK in
theorem equal_e {a b : List UInt8} {bb : Bool} (q : decide (a = b) = bb) (h : List Ob) : Does Tryz.prog G 94 h [.sl 1 (byD a), .sl 1 (byD b)] (fun h' r => h' = h ∧ r = .v (.bool bb)) := q ▸ equal_d G hG a b h
theorem mVerify_d (i : Nat) (master : List UInt8) (p0 ht0 p ht : Int) (m tag : List UInt8) (hp : I64 p) (hh : I64 ht) (hm : master.length ≤ 1000000) (hml : m.length ≤ 80000000) (hne : m ≠ []) (h : List Ob) (hi : h[i]? = some (modOb master p0 ht0)) :
 Does Tryz.prog G 65 h [.ptr i 0, .v (.int .i64 p), .v (.int .i64 ht), .sl 1 (byD m), .sl 1 (byD tag)] (fun h' r => h' = h ∧ r = .v (.bool (decide (tag = signZ master p ht m)))) := by
 rw [modOb_eq] at hi
 have hd := deriveZ_len master p ht
 generalize hbb : decide (tag = signZ master p ht m) = bb
 refine does_of_aw Tryz.func65 rfl (Nat.le_of_ble_eq_true rfl) hG fun hl0 _ => ?_
 simp only [Tryz.ntmps65]
 repeat' first
  | (refine ao1 rfl rfl fun K HK => ?_; refine aOp_larr (by first | rfl | (simp only [go_sem, hi]; rfl)) (by assumption) (by rw [getD_one (by first | (simp only [go_sem]; rfl) | (simp only [go_sem]; done))]; rfl) ?_; refine HK _ _ ?_; clear HK K)
  | refine aw_seq' ?_
  | refine aw_region' ?_
  | refine ao_nil ?_
  | (refine ao1 rfl rfl fun K HK => ?_; simp only [go_sem, ↓reduceIte, Nat.reduceEqDiff, Nat.reduceAdd, Nat.reduceLeDiff, Nat.reduceBEq, Nat.reduceMul, Int.reduceEq, Int.reduceLT, Int.reduceLE, hi] <;> (refine HK _ _ ?_; clear HK K))
  | (refine ao2 rfl rfl rfl ent_96 (derive_d G hG hK master p ht hp hh hm _) ?_; rintro _ _ ⟨rfl, rfl⟩)
  | (refine ao2 rfl rfl rfl ent_95 (tag_d G hG (deriveZ master p ht) m hne (by omega) (by omega) hK _) ?_; rintro _ _ ⟨rfl, rfl⟩)
  | (refine ao2 rfl rfl rfl ent_94 (equal_e G hG hbb _) ?_; rintro _ _ ⟨rfl, rfl⟩)
  | refine aw_ret ?_
 exact ⟨.inr rfl, endD (r := .v (.bool bb)) hl0 rfl (by simp) (by simp) rfl (by rw [low]; trivial) ⟨rfl, rfl⟩⟩
end
section
set_option maxRecDepth 100000
set_option maxHeartbeats 4000000
set_option pp.maxSteps 1000000
set_option pp.deepTerms true
attribute [local irreducible] on aOp
attribute [local simp] byD_len
def cmdS : ByteArray := ⟨#[99, 111, 109, 109, 97, 110, 100]⟩
def readS : ByteArray := ⟨#[114, 101, 97, 100]⟩
def bodyZ (c : Cmd) : List UInt8 := textE cmdS ++ writeC c
def readBodyZ (client number : Int) : List UInt8 := textE readS ++ (intE client ++ intE number)
theorem cmdS_len : (textE cmdS).length = 8 := by unfold textE; rw [uintE_lt (show cmdS.size < 128 by decide)]; rfl
theorem readS_len : (textE readS).length = 5 := by unfold textE; rw [uintE_lt (show readS.size < 128 by decide)]; rfl
theorem bodyZ_len (c : Cmd) (hc : c.Ok) : (bodyZ c).length ≤ 60062000 := by
 have := writeC_len c hc
 unfold bodyZ; rw [List.length_append, cmdS_len]; omega
theorem bodyZ_ne (c : Cmd) : bodyZ c ≠ [] := fun h => by
 have := congrArg List.length h
 unfold bodyZ at this
 rw [List.length_append, cmdS_len] at this; simp at this
theorem readBodyZ_len {a b : Int} (ha : I64 a) (hb : I64 b) : (readBodyZ a b).length ≤ 25 := by
 have h1 := intE_len ha
 have h2 := intE_len hb
 unfold readBodyZ; simp only [List.length_append, readS_len]; omega
theorem readBodyZ_ne (a b : Int) : readBodyZ a b ≠ [] := fun h => by
 have := congrArg List.length h
 unfold readBodyZ at this
 rw [List.length_append, readS_len] at this; simp at this
theorem zB_weak : ∀ (hd : List Value) (hh : List Ob) (W : World) (u : Value), rd hd hh W (.tup [.agg zC, .v (.bool false)]) u → rd hd hh W (.tup [.agg (cmdX zeroC), .v (.bool false)]) u := fun hd hh W u q => by
 simp only [rd, rdL, zC] at q
 obtain ⟨cs, rfl, u1, t1, e1, ⟨ar, rfl, a0, b0, f0, rfl, a1, b1, f1, rfl, a2, b2, f2, rfl, a3, b3, f3, g3, a4, b4, f4, rfl, a5, b5, f5, g5, rfl⟩, u2, t2, e2, rfl, rfl⟩ := q
 subst g3 g5 f5 f4 f3 f2 f1 e2
 simp only [rd, rdL, cmdX, zeroC]
 refine ⟨cs, rfl, _, _, e1, ⟨ar, rfl, _, _, f0, rfl, _, _, rfl, rfl, _, _, rfl, rfl, _, _, rfl, ?_, _, _, rfl, rfl, _, _, rfl, ?_, rfl⟩, _, _, rfl, rfl, rfl⟩
 · have := nil_sl (k := 2) hd hh W (.slice none 0 0) (by rw [rd]); rw [rd] at this; exact this
 · have := nil_sl (k := 1) hd hh W (.slice none 0 0) (by rw [rd]); rw [rd] at this; exact this
variable (G : Nat → D) (hG : ∀ g, low 0 (G g))
include hG
theorem rdecode_r (b : List UInt8) (hb : b.length ≤ 100000000) : Does Tryz.prog G 23 [] [.sl 1 (byD b)] (fun h' r => h' = [] ∧ r = .tup [.agg (cmdX (decC b).1), .v (.bool (decide ((decC b).2 = 0)))]) := by
 apply Does.weak
 have hr := rread0 G hG zC (by simp [lowL, low, zC]) ⟨b, 0, 0, 0⟩ (newR_ok b) hb
 have hk := (tks_cmd.ok _ (newR_ok b)).2
 have hdec : decC b = if decide ((rdCmd ⟨b, 0, 0, 0⟩).2.err = 0 ∧ (rdCmd ⟨b, 0, 0, 0⟩).2.pos = (rdCmd ⟨b, 0, 0, 0⟩).2.data.length) = true then ((rdCmd ⟨b, 0, 0, 0⟩).1, 0) else (zeroC, 2) := by
  unfold decC; rw [hk]; simp
 rw [hdec]
 generalize rdCmd ⟨b, 0, 0, 0⟩ = C at hr ⊢
 generalize hbb : decide (C.2.err = 0 ∧ C.2.pos = C.2.data.length) = bb
 refine does_of_aw Tryz.func23 rfl (Nat.le_of_ble_eq_true rfl) hG fun hl0 _ => ?_
 simp only [Tryz.ntmps23]
 cases bb
 · skip
   repeat' first
    | refine aw_seq' ?_
    | refine aw_region' ?_
    | refine aw_block ?_
    | refine ao_nil ?_
    | (refine ao1 rfl rfl fun K HK => ?_; (try refine aOp_pick rfl ?_); simp only [go_sem, ↓reduceIte, Nat.reduceEqDiff, Nat.reduceAdd, Nat.reduceLeDiff, Nat.reduceBEq, Nat.reduceMul, Int.reduceEq, Int.reduceLT, Int.reduceLE, decide_true, decide_false, Bool.not_true, Bool.not_false, Bool.false_eq_true, cmdX_eq, zC]; (first | refine splitB (fun hq => ?_) (fun hq => ?_) | refine splitN (fun hq => ?_) (fun hq => ?_) | (refine slc_sl (by simp only [go_sem]) rfl rfl (by first | omega | simp) (by first | omega | simp) (by simp only [go_sem]; omega) ?_) | (refine ⟨by omega, by omega, ?_⟩; first | refine row_at (by assumption) ?_ | (intro row hrow; obtain ⟨x, hx, rfl⟩ := row_inv hrow; clear hrow) | (intro row hrow)) | (refine ⟨by omega, ?_⟩; refine row_at (by assumption) ?_) | skip) <;> (refine HK _ _ ?_; clear HK K))
    | (refine aq1 rfl rfl fun K HK => ?_; (try refine aOp_pick rfl ?_); simp only [go_sem, ↓reduceIte, Nat.reduceEqDiff, Nat.reduceAdd, Nat.reduceLeDiff, Nat.reduceBEq, Nat.reduceMul, Int.reduceEq, Int.reduceLT, Int.reduceLE, decide_true, decide_false, Bool.not_true, Bool.not_false, Bool.false_eq_true, cmdX_eq, zC]; (first | refine splitB (fun hq => ?_) (fun hq => ?_) | refine splitN (fun hq => ?_) (fun hq => ?_) | (refine slc_sl (by simp only [go_sem]) rfl rfl (by first | omega | simp) (by first | omega | simp) (by simp only [go_sem]; omega) ?_) | (refine ⟨by omega, by omega, ?_⟩; first | refine row_at (by assumption) ?_ | (intro row hrow; obtain ⟨x, hx, rfl⟩ := row_inv hrow; clear hrow) | (intro row hrow)) | (refine ⟨by omega, ?_⟩; refine row_at (by assumption) ?_) | skip) <;> (refine HK _ _ rfl ?_; clear HK K))
    | refine aq0 rfl rfl ?_
    | refine aq_nil ?_
    | (refine aw_draw mixd (by kernel_rfl) ?_)
    | refine ao_appB rfl rfl rfl rfl (by first | assumption | (simp only [go_sem, ↓reduceIte, Nat.reduceEqDiff, Nat.reduceAdd, Nat.reduceLeDiff, Nat.reduceBEq, Nat.reduceMul, Int.reduceEq, Int.reduceLT, Int.reduceLE, decide_true, decide_false, Bool.not_true, Bool.not_false, Bool.false_eq_true, cmdX_eq, zC]; rfl) | (simp only [go_sem, ↓reduceIte, Nat.reduceEqDiff, Nat.reduceAdd, Nat.reduceLeDiff, Nat.reduceBEq, Nat.reduceMul, Int.reduceEq, Int.reduceLT, Int.reduceLE, decide_true, decide_false, Bool.not_true, Bool.not_false, Bool.false_eq_true, cmdX_eq, zC]; done)) (by simp) (by simp only [go_sem]; rfl) (by first | assumption | (simp only [go_sem, ↓reduceIte, Nat.reduceEqDiff, Nat.reduceAdd, Nat.reduceLeDiff, Nat.reduceBEq, Nat.reduceMul, Int.reduceEq, Int.reduceLT, Int.reduceLE, decide_true, decide_false, Bool.not_true, Bool.not_false, Bool.false_eq_true, cmdX_eq, zC]; rfl) | (simp only [go_sem, ↓reduceIte, Nat.reduceEqDiff, Nat.reduceAdd, Nat.reduceLeDiff, Nat.reduceBEq, Nat.reduceMul, Int.reduceEq, Int.reduceLT, Int.reduceLE, decide_true, decide_false, Bool.not_true, Bool.not_false, Bool.false_eq_true, cmdX_eq, zC]; done)) (by simp) (by first | assumption | exact rowsOk_nil _ | exact rowsOk_by _ | (rw [byD_cut]; exact rowsOk_by _) | (simp [rowsOk, D.one, Value.oneCell']; done)) (by first | omega | (simp; done) | (simp; omega) | (simp [byD]; omega)) ?_
    | refine ao_appNB rfl rfl rfl rfl (by simp only [go_sem]; rfl) (by first | assumption | (simp only [go_sem, ↓reduceIte, Nat.reduceEqDiff, Nat.reduceAdd, Nat.reduceLeDiff, Nat.reduceBEq, Nat.reduceMul, Int.reduceEq, Int.reduceLT, Int.reduceLE, decide_true, decide_false, Bool.not_true, Bool.not_false, Bool.false_eq_true, cmdX_eq, zC]; rfl) | (simp only [go_sem, ↓reduceIte, Nat.reduceEqDiff, Nat.reduceAdd, Nat.reduceLeDiff, Nat.reduceBEq, Nat.reduceMul, Int.reduceEq, Int.reduceLT, Int.reduceLE, decide_true, decide_false, Bool.not_true, Bool.not_false, Bool.false_eq_true, cmdX_eq, zC]; done)) (by simp) (by first | assumption | exact rowsOk_nil _ | exact rowsOk_by _ | (rw [byD_cut]; exact rowsOk_by _) | (simp [rowsOk, D.one, Value.oneCell']; done)) (by first | omega | (simp; done) | (simp; omega) | (simp [byD]; omega)) ?_
    | refine ao_appR rfl rfl rfl (by first | assumption | (simp only [go_sem, ↓reduceIte, Nat.reduceEqDiff, Nat.reduceAdd, Nat.reduceLeDiff, Nat.reduceBEq, Nat.reduceMul, Int.reduceEq, Int.reduceLT, Int.reduceLE, decide_true, decide_false, Bool.not_true, Bool.not_false, Bool.false_eq_true, cmdX_eq, zC]; rfl) | (simp only [go_sem, ↓reduceIte, Nat.reduceEqDiff, Nat.reduceAdd, Nat.reduceLeDiff, Nat.reduceBEq, Nat.reduceMul, Int.reduceEq, Int.reduceLT, Int.reduceLE, decide_true, decide_false, Bool.not_true, Bool.not_false, Bool.false_eq_true, cmdX_eq, zC]; done)) (by simp) (by simp only [go_sem]; rfl) rfl (by first | assumption | exact rowsOk_nil _ | exact rowsOk_by _ | (rw [byD_cut]; exact rowsOk_by _) | (simp [rowsOk, D.one, Value.oneCell']; done)) (by first | omega | (simp; done) | (simp; omega) | (simp [byD]; omega)) ?_
    | refine ao_appNR rfl rfl rfl (by simp only [go_sem]; rfl) rfl (by first | assumption | exact rowsOk_nil _ | exact rowsOk_by _ | (rw [byD_cut]; exact rowsOk_by _) | (simp [rowsOk, D.one, Value.oneCell']; done)) (by first | omega | (simp; done) | (simp; omega) | (simp [byD]; omega)) ?_
    | refine ao0 rfl rfl ?_
    | refine aq2 rfl rfl rfl ent_57 (hr) ?_
    | (refine ao2 rfl rfl rfl ent_57 (hr) ?_; rintro _ _ ⟨rfl, rfl⟩)
    | refine aq2 rfl rfl rfl ent_58 (inEnd_e G hG hbb rfl) ?_
    | (refine ao2 rfl rfl rfl ent_58 (inEnd_e G hG hbb rfl) ?_; rintro _ _ ⟨rfl, rfl⟩)
    | (refine ao1' rfl fun K HK => ?_; simp only [go_sem, ↓reduceIte, Nat.reduceEqDiff, Nat.reduceAdd, Nat.reduceLeDiff, Nat.reduceBEq, Nat.reduceMul, Int.reduceEq, Int.reduceLT, Int.reduceLE, decide_true, decide_false, Bool.not_true, Bool.not_false, Bool.false_eq_true, cmdX_eq, zC]; refine HK _ _ ?_; clear HK K)
    | refine ao0' rfl ?_
    | refine aw_if1 rfl ?_
    | refine aw_if0 rfl ?_
    | refine aw_skip ?_
    | refine aw_exit ?_
    | refine aw_ret ?_
    | refine thenS_n ?_
    | refine thenS_x ?_
    | refine thenS_r ?_
    | refine inB_n ?_
    | refine inB_r ?_
    | refine inB_x ?_
    | refine inB_y rfl ?_
    | (exfalso; omega)
   exact ⟨.inr rfl, endD (ds := [.agg zC, .v (.bool false)]) (r := .tup [.agg zC, .v (.bool false)]) hl0 rfl (by simp) (by simp) rfl (by simp [low, lowL, zC]) ⟨_, ⟨rfl, rfl⟩, zB_weak⟩⟩
 · skip
   repeat' first
    | refine aw_seq' ?_
    | refine aw_region' ?_
    | refine aw_block ?_
    | refine ao_nil ?_
    | (refine ao1 rfl rfl fun K HK => ?_; (try refine aOp_pick rfl ?_); simp only [go_sem, ↓reduceIte, Nat.reduceEqDiff, Nat.reduceAdd, Nat.reduceLeDiff, Nat.reduceBEq, Nat.reduceMul, Int.reduceEq, Int.reduceLT, Int.reduceLE, decide_true, decide_false, Bool.not_true, Bool.not_false, Bool.false_eq_true, cmdX_eq, zC]; (first | refine splitB (fun hq => ?_) (fun hq => ?_) | refine splitN (fun hq => ?_) (fun hq => ?_) | (refine slc_sl (by simp only [go_sem]) rfl rfl (by first | omega | simp) (by first | omega | simp) (by simp only [go_sem]; omega) ?_) | (refine ⟨by omega, by omega, ?_⟩; first | refine row_at (by assumption) ?_ | (intro row hrow; obtain ⟨x, hx, rfl⟩ := row_inv hrow; clear hrow) | (intro row hrow)) | (refine ⟨by omega, ?_⟩; refine row_at (by assumption) ?_) | skip) <;> (refine HK _ _ ?_; clear HK K))
    | (refine aq1 rfl rfl fun K HK => ?_; (try refine aOp_pick rfl ?_); simp only [go_sem, ↓reduceIte, Nat.reduceEqDiff, Nat.reduceAdd, Nat.reduceLeDiff, Nat.reduceBEq, Nat.reduceMul, Int.reduceEq, Int.reduceLT, Int.reduceLE, decide_true, decide_false, Bool.not_true, Bool.not_false, Bool.false_eq_true, cmdX_eq, zC]; (first | refine splitB (fun hq => ?_) (fun hq => ?_) | refine splitN (fun hq => ?_) (fun hq => ?_) | (refine slc_sl (by simp only [go_sem]) rfl rfl (by first | omega | simp) (by first | omega | simp) (by simp only [go_sem]; omega) ?_) | (refine ⟨by omega, by omega, ?_⟩; first | refine row_at (by assumption) ?_ | (intro row hrow; obtain ⟨x, hx, rfl⟩ := row_inv hrow; clear hrow) | (intro row hrow)) | (refine ⟨by omega, ?_⟩; refine row_at (by assumption) ?_) | skip) <;> (refine HK _ _ rfl ?_; clear HK K))
    | refine aq0 rfl rfl ?_
    | refine aq_nil ?_
    | (refine aw_draw mixd (by kernel_rfl) ?_)
    | refine ao_appB rfl rfl rfl rfl (by first | assumption | (simp only [go_sem, ↓reduceIte, Nat.reduceEqDiff, Nat.reduceAdd, Nat.reduceLeDiff, Nat.reduceBEq, Nat.reduceMul, Int.reduceEq, Int.reduceLT, Int.reduceLE, decide_true, decide_false, Bool.not_true, Bool.not_false, Bool.false_eq_true, cmdX_eq, zC]; rfl) | (simp only [go_sem, ↓reduceIte, Nat.reduceEqDiff, Nat.reduceAdd, Nat.reduceLeDiff, Nat.reduceBEq, Nat.reduceMul, Int.reduceEq, Int.reduceLT, Int.reduceLE, decide_true, decide_false, Bool.not_true, Bool.not_false, Bool.false_eq_true, cmdX_eq, zC]; done)) (by simp) (by simp only [go_sem]; rfl) (by first | assumption | (simp only [go_sem, ↓reduceIte, Nat.reduceEqDiff, Nat.reduceAdd, Nat.reduceLeDiff, Nat.reduceBEq, Nat.reduceMul, Int.reduceEq, Int.reduceLT, Int.reduceLE, decide_true, decide_false, Bool.not_true, Bool.not_false, Bool.false_eq_true, cmdX_eq, zC]; rfl) | (simp only [go_sem, ↓reduceIte, Nat.reduceEqDiff, Nat.reduceAdd, Nat.reduceLeDiff, Nat.reduceBEq, Nat.reduceMul, Int.reduceEq, Int.reduceLT, Int.reduceLE, decide_true, decide_false, Bool.not_true, Bool.not_false, Bool.false_eq_true, cmdX_eq, zC]; done)) (by simp) (by first | assumption | exact rowsOk_nil _ | exact rowsOk_by _ | (rw [byD_cut]; exact rowsOk_by _) | (simp [rowsOk, D.one, Value.oneCell']; done)) (by first | omega | (simp; done) | (simp; omega) | (simp [byD]; omega)) ?_
    | refine ao_appNB rfl rfl rfl rfl (by simp only [go_sem]; rfl) (by first | assumption | (simp only [go_sem, ↓reduceIte, Nat.reduceEqDiff, Nat.reduceAdd, Nat.reduceLeDiff, Nat.reduceBEq, Nat.reduceMul, Int.reduceEq, Int.reduceLT, Int.reduceLE, decide_true, decide_false, Bool.not_true, Bool.not_false, Bool.false_eq_true, cmdX_eq, zC]; rfl) | (simp only [go_sem, ↓reduceIte, Nat.reduceEqDiff, Nat.reduceAdd, Nat.reduceLeDiff, Nat.reduceBEq, Nat.reduceMul, Int.reduceEq, Int.reduceLT, Int.reduceLE, decide_true, decide_false, Bool.not_true, Bool.not_false, Bool.false_eq_true, cmdX_eq, zC]; done)) (by simp) (by first | assumption | exact rowsOk_nil _ | exact rowsOk_by _ | (rw [byD_cut]; exact rowsOk_by _) | (simp [rowsOk, D.one, Value.oneCell']; done)) (by first | omega | (simp; done) | (simp; omega) | (simp [byD]; omega)) ?_
    | refine ao_appR rfl rfl rfl (by first | assumption | (simp only [go_sem, ↓reduceIte, Nat.reduceEqDiff, Nat.reduceAdd, Nat.reduceLeDiff, Nat.reduceBEq, Nat.reduceMul, Int.reduceEq, Int.reduceLT, Int.reduceLE, decide_true, decide_false, Bool.not_true, Bool.not_false, Bool.false_eq_true, cmdX_eq, zC]; rfl) | (simp only [go_sem, ↓reduceIte, Nat.reduceEqDiff, Nat.reduceAdd, Nat.reduceLeDiff, Nat.reduceBEq, Nat.reduceMul, Int.reduceEq, Int.reduceLT, Int.reduceLE, decide_true, decide_false, Bool.not_true, Bool.not_false, Bool.false_eq_true, cmdX_eq, zC]; done)) (by simp) (by simp only [go_sem]; rfl) rfl (by first | assumption | exact rowsOk_nil _ | exact rowsOk_by _ | (rw [byD_cut]; exact rowsOk_by _) | (simp [rowsOk, D.one, Value.oneCell']; done)) (by first | omega | (simp; done) | (simp; omega) | (simp [byD]; omega)) ?_
    | refine ao_appNR rfl rfl rfl (by simp only [go_sem]; rfl) rfl (by first | assumption | exact rowsOk_nil _ | exact rowsOk_by _ | (rw [byD_cut]; exact rowsOk_by _) | (simp [rowsOk, D.one, Value.oneCell']; done)) (by first | omega | (simp; done) | (simp; omega) | (simp [byD]; omega)) ?_
    | refine ao0 rfl rfl ?_
    | refine aq2 rfl rfl rfl ent_57 (hr) ?_
    | (refine ao2 rfl rfl rfl ent_57 (hr) ?_; rintro _ _ ⟨rfl, rfl⟩)
    | refine aq2 rfl rfl rfl ent_58 (inEnd_e G hG hbb rfl) ?_
    | (refine ao2 rfl rfl rfl ent_58 (inEnd_e G hG hbb rfl) ?_; rintro _ _ ⟨rfl, rfl⟩)
    | (refine ao1' rfl fun K HK => ?_; simp only [go_sem, ↓reduceIte, Nat.reduceEqDiff, Nat.reduceAdd, Nat.reduceLeDiff, Nat.reduceBEq, Nat.reduceMul, Int.reduceEq, Int.reduceLT, Int.reduceLE, decide_true, decide_false, Bool.not_true, Bool.not_false, Bool.false_eq_true, cmdX_eq, zC]; refine HK _ _ ?_; clear HK K)
    | refine ao0' rfl ?_
    | refine aw_if1 rfl ?_
    | refine aw_if0 rfl ?_
    | refine aw_skip ?_
    | refine aw_exit ?_
    | refine aw_ret ?_
    | refine thenS_n ?_
    | refine thenS_x ?_
    | refine thenS_r ?_
    | refine inB_n ?_
    | refine inB_r ?_
    | refine inB_x ?_
    | refine inB_y rfl ?_
    | (exfalso; omega)
   exact ⟨.inr rfl, endD (ds := [.agg (cmdX C.1), .v (.bool true)]) (r := .tup [.agg (cmdX C.1), .v (.bool true)]) hl0 rfl (by simp) (by simp) rfl (by rw [low, lowL, lowL, lowL]; exact ⟨low_agg _ _, by rw [low]; trivial, trivial⟩) ⟨_, ⟨rfl, rfl⟩, fun _ _ _ _ q => q⟩⟩
theorem e_text0 (c : Cmd) (s : ByteArray) (hs : s.size ≤ 10000000) : Does Tryz.prog G 55 (hE c 0 []) [.ptr 1 0, .v (.string s)] (fun h' r => h' = hE c (textE s).length (byD (textE s)) ∧ r = .tup []) :=
 w_at G hG (l := []) (l2 := textE s) (by rw [lowL, lowL]; exact ⟨by rw [low]; trivial, trivial⟩) (by simp [low, lowL]) (wText_d G hG [] s hs (by simp)) (i := 1) (j := 2) rfl rfl
theorem e_write1 (l : List UInt8) (hl : l.length ≤ 1000000) (c : Cmd) (hc : c.Ok) : Does Tryz.prog G 44 (hE c l.length (byD l)) [.ptr 1 0, .agg (cmdX c)] (fun h' r => h' = hE c (l ++ writeC c).length (byD (l ++ writeC c)) ∧ r = .tup []) :=
 w_at G hG (l := l) (l2 := l ++ writeC c) (by rw [lowL, lowL]; exact ⟨low_agg _ _, trivial⟩) (by simp [low, lowL]) (write_d G hG l c hc hl) (i := 1) (j := 2) rfl rfl
theorem body_d (c : Cmd) (hc : c.Ok) (h : List Ob) : Does Tryz.prog G 21 h [.agg (cmdX c)] (fun h' r => h' = h ∧ r = .sl 1 (byD (bodyZ c))) := by
 refine does_any G hG (by rw [lowL, lowL]; exact ⟨low_agg _ _, trivial⟩) (low_by _ _) ?_ h
 have hl := bodyZ_len c hc
 refine does_of_aw Tryz.func21 rfl (Nat.le_of_ble_eq_true rfl) hG fun hl0 _ => ?_
 simp only [Tryz.ntmps21]
 repeat' first
  | (refine ao_nilcell 5 1 1 [] [] rfl ?_)
  | refine aw_seq' ?_
  | refine aw_region' ?_
  | refine aw_block ?_
  | refine ao_nil ?_
  | (refine ao1 rfl rfl fun K HK => ?_; (try refine aOp_pick rfl ?_); simp only [go_sem, ↓reduceIte, Nat.reduceEqDiff, Nat.reduceAdd, Nat.reduceLeDiff, Nat.reduceBEq, Nat.reduceMul, Int.reduceEq, Int.reduceLT, Int.reduceLE, decide_true, decide_false, Bool.not_true, Bool.not_false, hE_0, cmdX_eq]; (first | refine splitB (fun hq => ?_) (fun hq => ?_) | refine splitN (fun hq => ?_) (fun hq => ?_) | (refine slc_sl (by simp only [go_sem]) rfl rfl (by first | omega | simp) (by first | omega | simp) (by simp only [go_sem]; omega) ?_) | (refine ⟨by omega, by omega, ?_⟩; first | refine row_at (by assumption) ?_ | (intro row hrow; obtain ⟨x, hx, rfl⟩ := row_inv hrow; clear hrow) | (intro row hrow)) | (refine ⟨by omega, ?_⟩; refine row_at (by assumption) ?_) | skip) <;> (refine HK _ _ ?_; clear HK K))
  | (refine aq1 rfl rfl fun K HK => ?_; (try refine aOp_pick rfl ?_); simp only [go_sem, ↓reduceIte, Nat.reduceEqDiff, Nat.reduceAdd, Nat.reduceLeDiff, Nat.reduceBEq, Nat.reduceMul, Int.reduceEq, Int.reduceLT, Int.reduceLE, decide_true, decide_false, Bool.not_true, Bool.not_false, hE_0, cmdX_eq]; (first | refine splitB (fun hq => ?_) (fun hq => ?_) | refine splitN (fun hq => ?_) (fun hq => ?_) | (refine slc_sl (by simp only [go_sem]) rfl rfl (by first | omega | simp) (by first | omega | simp) (by simp only [go_sem]; omega) ?_) | (refine ⟨by omega, by omega, ?_⟩; first | refine row_at (by assumption) ?_ | (intro row hrow; obtain ⟨x, hx, rfl⟩ := row_inv hrow; clear hrow) | (intro row hrow)) | (refine ⟨by omega, ?_⟩; refine row_at (by assumption) ?_) | skip) <;> (refine HK _ _ rfl ?_; clear HK K))
  | refine aq0 rfl rfl ?_
  | refine aq_nil ?_
  | (refine aw_draw mixd (by kernel_rfl) ?_)
  | refine ao_appB rfl rfl rfl rfl (by first | assumption | (simp only [go_sem, ↓reduceIte, Nat.reduceEqDiff, Nat.reduceAdd, Nat.reduceLeDiff, Nat.reduceBEq, Nat.reduceMul, Int.reduceEq, Int.reduceLT, Int.reduceLE, decide_true, decide_false, Bool.not_true, Bool.not_false, hE_0, cmdX_eq]; rfl) | (simp only [go_sem, ↓reduceIte, Nat.reduceEqDiff, Nat.reduceAdd, Nat.reduceLeDiff, Nat.reduceBEq, Nat.reduceMul, Int.reduceEq, Int.reduceLT, Int.reduceLE, decide_true, decide_false, Bool.not_true, Bool.not_false, hE_0, cmdX_eq]; done)) (by simp) (by simp only [go_sem]; rfl) (by first | assumption | (simp only [go_sem, ↓reduceIte, Nat.reduceEqDiff, Nat.reduceAdd, Nat.reduceLeDiff, Nat.reduceBEq, Nat.reduceMul, Int.reduceEq, Int.reduceLT, Int.reduceLE, decide_true, decide_false, Bool.not_true, Bool.not_false, hE_0, cmdX_eq]; rfl) | (simp only [go_sem, ↓reduceIte, Nat.reduceEqDiff, Nat.reduceAdd, Nat.reduceLeDiff, Nat.reduceBEq, Nat.reduceMul, Int.reduceEq, Int.reduceLT, Int.reduceLE, decide_true, decide_false, Bool.not_true, Bool.not_false, hE_0, cmdX_eq]; done)) (by simp) (by first | assumption | exact rowsOk_nil _ | exact rowsOk_by _ | (rw [byD_cut]; exact rowsOk_by _) | (simp [rowsOk, D.one, Value.oneCell']; done)) (by first | omega | (simp; done) | (simp; omega) | (simp [byD]; omega)) ?_
  | refine ao_appNB rfl rfl rfl rfl (by simp only [go_sem]; rfl) (by first | assumption | (simp only [go_sem, ↓reduceIte, Nat.reduceEqDiff, Nat.reduceAdd, Nat.reduceLeDiff, Nat.reduceBEq, Nat.reduceMul, Int.reduceEq, Int.reduceLT, Int.reduceLE, decide_true, decide_false, Bool.not_true, Bool.not_false, hE_0, cmdX_eq]; rfl) | (simp only [go_sem, ↓reduceIte, Nat.reduceEqDiff, Nat.reduceAdd, Nat.reduceLeDiff, Nat.reduceBEq, Nat.reduceMul, Int.reduceEq, Int.reduceLT, Int.reduceLE, decide_true, decide_false, Bool.not_true, Bool.not_false, hE_0, cmdX_eq]; done)) (by simp) (by first | assumption | exact rowsOk_nil _ | exact rowsOk_by _ | (rw [byD_cut]; exact rowsOk_by _) | (simp [rowsOk, D.one, Value.oneCell']; done)) (by first | omega | (simp; done) | (simp; omega) | (simp [byD]; omega)) ?_
  | refine ao_appR rfl rfl rfl (by first | assumption | (simp only [go_sem, ↓reduceIte, Nat.reduceEqDiff, Nat.reduceAdd, Nat.reduceLeDiff, Nat.reduceBEq, Nat.reduceMul, Int.reduceEq, Int.reduceLT, Int.reduceLE, decide_true, decide_false, Bool.not_true, Bool.not_false, hE_0, cmdX_eq]; rfl) | (simp only [go_sem, ↓reduceIte, Nat.reduceEqDiff, Nat.reduceAdd, Nat.reduceLeDiff, Nat.reduceBEq, Nat.reduceMul, Int.reduceEq, Int.reduceLT, Int.reduceLE, decide_true, decide_false, Bool.not_true, Bool.not_false, hE_0, cmdX_eq]; done)) (by simp) (by simp only [go_sem]; rfl) rfl (by first | assumption | exact rowsOk_nil _ | exact rowsOk_by _ | (rw [byD_cut]; exact rowsOk_by _) | (simp [rowsOk, D.one, Value.oneCell']; done)) (by first | omega | (simp; done) | (simp; omega) | (simp [byD]; omega)) ?_
  | refine ao_appNR rfl rfl rfl (by simp only [go_sem]; rfl) rfl (by first | assumption | exact rowsOk_nil _ | exact rowsOk_by _ | (rw [byD_cut]; exact rowsOk_by _) | (simp [rowsOk, D.one, Value.oneCell']; done)) (by first | omega | (simp; done) | (simp; omega) | (simp [byD]; omega)) ?_
  | refine ao0 rfl rfl ?_
  | refine aq2 rfl rfl rfl ent_55 (e_text0 G hG c cmdS (by decide)) ?_
  | (refine ao2 rfl rfl rfl ent_55 (e_text0 G hG c cmdS (by decide)) ?_; rintro _ _ ⟨rfl, rfl⟩)
  | refine aq2 rfl rfl rfl ent_44 (e_write1 G hG (textE cmdS) (by rw [cmdS_len]; decide) c hc) ?_
  | (refine ao2 rfl rfl rfl ent_44 (e_write1 G hG (textE cmdS) (by rw [cmdS_len]; decide) c hc) ?_; rintro _ _ ⟨rfl, rfl⟩)
  | refine aq2 rfl rfl rfl ent_46 (e_data G hG c (bodyZ c) (by omega)) ?_
  | (refine ao2 rfl rfl rfl ent_46 (e_data G hG c (bodyZ c) (by omega)) ?_; rintro _ _ ⟨rfl, rfl⟩)
  | (refine ao1' rfl fun K HK => ?_; simp only [go_sem, ↓reduceIte, Nat.reduceEqDiff, Nat.reduceAdd, Nat.reduceLeDiff, Nat.reduceBEq, Nat.reduceMul, Int.reduceEq, Int.reduceLT, Int.reduceLE, decide_true, decide_false, Bool.not_true, Bool.not_false, hE_0, cmdX_eq]; refine HK _ _ ?_; clear HK K)
  | refine ao0' rfl ?_
  | refine aw_if1 rfl ?_
  | refine aw_if0 rfl ?_
  | refine aw_skip ?_
  | refine aw_exit ?_
  | refine aw_ret ?_
  | refine thenS_n ?_
  | refine thenS_x ?_
  | refine thenS_r ?_
  | refine inB_n ?_
  | refine inB_r ?_
  | refine inB_x ?_
  | refine inB_y rfl ?_
  | (exfalso; omega)
 exact ⟨.inr rfl, endD (r := .sl 1 (byD (bodyZ c))) hl0 rfl (by simp) (by simp) rfl (low_by _ _) ⟨rfl, rfl⟩⟩
theorem readBody_d (a b : Int) (ha : I64 a) (hb : I64 b) (h : List Ob) : Does Tryz.prog G 73 h [.v (.int .i64 a), .v (.int .i64 b)] (fun h' r => h' = h ∧ r = .sl 1 (byD (readBodyZ a b))) := by
 refine does_any G hG (by simp [lowL, low]) (low_by _ _) ?_ h
 have hl := readBodyZ_len ha hb
 have h1 := intE_len ha
 have h3 := readS_len
 refine does_of_aw Tryz.func73 rfl (Nat.le_of_ble_eq_true rfl) hG fun hl0 _ => ?_
 simp only [Tryz.ntmps73]
 repeat' first
  | (refine ao_nilcell 5 1 0 [] [] rfl ?_)
  | refine aw_seq' ?_
  | refine aw_region' ?_
  | refine aw_block ?_
  | refine ao_nil ?_
  | (refine ao1 rfl rfl fun K HK => ?_; (try refine aOp_pick rfl ?_); simp only [go_sem, ↓reduceIte, Nat.reduceEqDiff, Nat.reduceAdd, Nat.reduceLeDiff, Nat.reduceBEq, Nat.reduceMul, Int.reduceEq, Int.reduceLT, Int.reduceLE, decide_true, decide_false, Bool.not_true, Bool.not_false]; (first | refine splitB (fun hq => ?_) (fun hq => ?_) | refine splitN (fun hq => ?_) (fun hq => ?_) | (refine slc_sl (by simp only [go_sem]) rfl rfl (by first | omega | simp) (by first | omega | simp) (by simp only [go_sem]; omega) ?_) | (refine ⟨by omega, by omega, ?_⟩; first | refine row_at (by assumption) ?_ | (intro row hrow; obtain ⟨x, hx, rfl⟩ := row_inv hrow; clear hrow) | (intro row hrow)) | (refine ⟨by omega, ?_⟩; refine row_at (by assumption) ?_) | skip) <;> (refine HK _ _ ?_; clear HK K))
  | (refine aq1 rfl rfl fun K HK => ?_; (try refine aOp_pick rfl ?_); simp only [go_sem, ↓reduceIte, Nat.reduceEqDiff, Nat.reduceAdd, Nat.reduceLeDiff, Nat.reduceBEq, Nat.reduceMul, Int.reduceEq, Int.reduceLT, Int.reduceLE, decide_true, decide_false, Bool.not_true, Bool.not_false]; (first | refine splitB (fun hq => ?_) (fun hq => ?_) | refine splitN (fun hq => ?_) (fun hq => ?_) | (refine slc_sl (by simp only [go_sem]) rfl rfl (by first | omega | simp) (by first | omega | simp) (by simp only [go_sem]; omega) ?_) | (refine ⟨by omega, by omega, ?_⟩; first | refine row_at (by assumption) ?_ | (intro row hrow; obtain ⟨x, hx, rfl⟩ := row_inv hrow; clear hrow) | (intro row hrow)) | (refine ⟨by omega, ?_⟩; refine row_at (by assumption) ?_) | skip) <;> (refine HK _ _ rfl ?_; clear HK K))
  | refine aq0 rfl rfl ?_
  | refine aq_nil ?_
  | (refine aw_draw mixd (by kernel_rfl) ?_)
  | refine ao_appB rfl rfl rfl rfl (by first | assumption | (simp only [go_sem, ↓reduceIte, Nat.reduceEqDiff, Nat.reduceAdd, Nat.reduceLeDiff, Nat.reduceBEq, Nat.reduceMul, Int.reduceEq, Int.reduceLT, Int.reduceLE, decide_true, decide_false, Bool.not_true, Bool.not_false]; rfl) | (simp only [go_sem, ↓reduceIte, Nat.reduceEqDiff, Nat.reduceAdd, Nat.reduceLeDiff, Nat.reduceBEq, Nat.reduceMul, Int.reduceEq, Int.reduceLT, Int.reduceLE, decide_true, decide_false, Bool.not_true, Bool.not_false]; done)) (by simp) (by simp only [go_sem]; rfl) (by first | assumption | (simp only [go_sem, ↓reduceIte, Nat.reduceEqDiff, Nat.reduceAdd, Nat.reduceLeDiff, Nat.reduceBEq, Nat.reduceMul, Int.reduceEq, Int.reduceLT, Int.reduceLE, decide_true, decide_false, Bool.not_true, Bool.not_false]; rfl) | (simp only [go_sem, ↓reduceIte, Nat.reduceEqDiff, Nat.reduceAdd, Nat.reduceLeDiff, Nat.reduceBEq, Nat.reduceMul, Int.reduceEq, Int.reduceLT, Int.reduceLE, decide_true, decide_false, Bool.not_true, Bool.not_false]; done)) (by simp) (by first | assumption | exact rowsOk_nil _ | exact rowsOk_by _ | (rw [byD_cut]; exact rowsOk_by _) | (simp [rowsOk, D.one, Value.oneCell']; done)) (by first | omega | (simp; done) | (simp; omega) | (simp [byD]; omega)) ?_
  | refine ao_appNB rfl rfl rfl rfl (by simp only [go_sem]; rfl) (by first | assumption | (simp only [go_sem, ↓reduceIte, Nat.reduceEqDiff, Nat.reduceAdd, Nat.reduceLeDiff, Nat.reduceBEq, Nat.reduceMul, Int.reduceEq, Int.reduceLT, Int.reduceLE, decide_true, decide_false, Bool.not_true, Bool.not_false]; rfl) | (simp only [go_sem, ↓reduceIte, Nat.reduceEqDiff, Nat.reduceAdd, Nat.reduceLeDiff, Nat.reduceBEq, Nat.reduceMul, Int.reduceEq, Int.reduceLT, Int.reduceLE, decide_true, decide_false, Bool.not_true, Bool.not_false]; done)) (by simp) (by first | assumption | exact rowsOk_nil _ | exact rowsOk_by _ | (rw [byD_cut]; exact rowsOk_by _) | (simp [rowsOk, D.one, Value.oneCell']; done)) (by first | omega | (simp; done) | (simp; omega) | (simp [byD]; omega)) ?_
  | refine ao_appR rfl rfl rfl (by first | assumption | (simp only [go_sem, ↓reduceIte, Nat.reduceEqDiff, Nat.reduceAdd, Nat.reduceLeDiff, Nat.reduceBEq, Nat.reduceMul, Int.reduceEq, Int.reduceLT, Int.reduceLE, decide_true, decide_false, Bool.not_true, Bool.not_false]; rfl) | (simp only [go_sem, ↓reduceIte, Nat.reduceEqDiff, Nat.reduceAdd, Nat.reduceLeDiff, Nat.reduceBEq, Nat.reduceMul, Int.reduceEq, Int.reduceLT, Int.reduceLE, decide_true, decide_false, Bool.not_true, Bool.not_false]; done)) (by simp) (by simp only [go_sem]; rfl) rfl (by first | assumption | exact rowsOk_nil _ | exact rowsOk_by _ | (rw [byD_cut]; exact rowsOk_by _) | (simp [rowsOk, D.one, Value.oneCell']; done)) (by first | omega | (simp; done) | (simp; omega) | (simp [byD]; omega)) ?_
  | refine ao_appNR rfl rfl rfl (by simp only [go_sem]; rfl) rfl (by first | assumption | exact rowsOk_nil _ | exact rowsOk_by _ | (rw [byD_cut]; exact rowsOk_by _) | (simp [rowsOk, D.one, Value.oneCell']; done)) (by first | omega | (simp; done) | (simp; omega) | (simp [byD]; omega)) ?_
  | refine ao0 rfl rfl ?_
  | refine aq2 rfl rfl rfl ent_55 (wText_d G hG [] readS (by decide) (by simp)) ?_
  | (refine ao2 rfl rfl rfl ent_55 (wText_d G hG [] readS (by decide) (by simp)) ?_; rintro _ _ ⟨rfl, rfl⟩)
  | refine aq2 rfl rfl rfl ent_79 (wInt_d G hG (textE readS) a ha (by omega)) ?_
  | (refine ao2 rfl rfl rfl ent_79 (wInt_d G hG (textE readS) a ha (by omega)) ?_; rintro _ _ ⟨rfl, rfl⟩)
  | refine aq2 rfl rfl rfl ent_79 (wInt_d G hG (textE readS ++ intE a) b hb (by rw [List.length_append]; omega)) ?_
  | (refine ao2 rfl rfl rfl ent_79 (wInt_d G hG (textE readS ++ intE a) b hb (by rw [List.length_append]; omega)) ?_; rintro _ _ ⟨rfl, rfl⟩)
  | refine aq2 rfl rfl rfl ent_46 (wData_d G hG (textE readS ++ intE a ++ intE b) (by simp only [List.length_append]; simp only [readBodyZ, List.length_append] at hl; omega)) ?_
  | (refine ao2 rfl rfl rfl ent_46 (wData_d G hG (textE readS ++ intE a ++ intE b) (by simp only [List.length_append]; simp only [readBodyZ, List.length_append] at hl; omega)) ?_; rintro _ _ ⟨rfl, rfl⟩)
  | (refine ao1' rfl fun K HK => ?_; simp only [go_sem, ↓reduceIte, Nat.reduceEqDiff, Nat.reduceAdd, Nat.reduceLeDiff, Nat.reduceBEq, Nat.reduceMul, Int.reduceEq, Int.reduceLT, Int.reduceLE, decide_true, decide_false, Bool.not_true, Bool.not_false]; refine HK _ _ ?_; clear HK K)
  | refine ao0' rfl ?_
  | refine aw_if1 rfl ?_
  | refine aw_if0 rfl ?_
  | refine aw_skip ?_
  | refine aw_exit ?_
  | refine aw_ret ?_
  | refine thenS_n ?_
  | refine thenS_x ?_
  | refine thenS_r ?_
  | refine inB_n ?_
  | refine inB_r ?_
  | refine inB_x ?_
  | refine inB_y rfl ?_
  | (exfalso; omega)
 exact ⟨.inr rfl, endD (r := .sl 1 (byD (readBodyZ a b))) hl0 rfl (by simp) (by simp) (by unfold readBodyZ; first | rfl | (rw [← List.append_assoc]; rfl)) (low_by _ _) ⟨rfl, rfl⟩⟩
theorem rbody_d (c : Cmd) (hc : c.Ok) (h : List Ob) : Does Tryz.prog G 22 h [.agg (cmdX c)] (fun h' r => h' = h ∧ r = .sl 1 (byD (bodyZ c))) := by
 refine does_any G hG (by rw [lowL, lowL]; exact ⟨low_agg _ _, trivial⟩) (low_by _ _) ?_ h
 refine does_of_aw Tryz.func22 rfl (Nat.le_of_ble_eq_true rfl) hG fun hl0 _ => ?_
 simp only [Tryz.ntmps22]
 repeat' first
  | refine aw_seq' ?_
  | refine aw_region' ?_
  | refine aw_block ?_
  | refine ao_nil ?_
  | (refine ao1 rfl rfl fun K HK => ?_; (try refine aOp_pick rfl ?_); simp only [go_sem, ↓reduceIte, Nat.reduceEqDiff, Nat.reduceAdd, Nat.reduceLeDiff, Nat.reduceBEq, Nat.reduceMul, Int.reduceEq, Int.reduceLT, Int.reduceLE, decide_true, decide_false, Bool.not_true, Bool.not_false, cmdX_eq]; (first | refine splitB (fun hq => ?_) (fun hq => ?_) | refine splitN (fun hq => ?_) (fun hq => ?_) | (refine slc_sl (by simp only [go_sem]) rfl rfl (by first | omega | simp) (by first | omega | simp) (by simp only [go_sem]; omega) ?_) | (refine ⟨by omega, by omega, ?_⟩; first | refine row_at (by assumption) ?_ | (intro row hrow; obtain ⟨x, hx, rfl⟩ := row_inv hrow; clear hrow) | (intro row hrow)) | (refine ⟨by omega, ?_⟩; refine row_at (by assumption) ?_) | skip) <;> (refine HK _ _ ?_; clear HK K))
  | (refine aq1 rfl rfl fun K HK => ?_; (try refine aOp_pick rfl ?_); simp only [go_sem, ↓reduceIte, Nat.reduceEqDiff, Nat.reduceAdd, Nat.reduceLeDiff, Nat.reduceBEq, Nat.reduceMul, Int.reduceEq, Int.reduceLT, Int.reduceLE, decide_true, decide_false, Bool.not_true, Bool.not_false, cmdX_eq]; (first | refine splitB (fun hq => ?_) (fun hq => ?_) | refine splitN (fun hq => ?_) (fun hq => ?_) | (refine slc_sl (by simp only [go_sem]) rfl rfl (by first | omega | simp) (by first | omega | simp) (by simp only [go_sem]; omega) ?_) | (refine ⟨by omega, by omega, ?_⟩; first | refine row_at (by assumption) ?_ | (intro row hrow; obtain ⟨x, hx, rfl⟩ := row_inv hrow; clear hrow) | (intro row hrow)) | (refine ⟨by omega, ?_⟩; refine row_at (by assumption) ?_) | skip) <;> (refine HK _ _ rfl ?_; clear HK K))
  | refine aq0 rfl rfl ?_
  | refine aq_nil ?_
  | (refine aw_draw mixd (by kernel_rfl) ?_)
  | refine ao_appB rfl rfl rfl rfl (by first | assumption | (simp only [go_sem, ↓reduceIte, Nat.reduceEqDiff, Nat.reduceAdd, Nat.reduceLeDiff, Nat.reduceBEq, Nat.reduceMul, Int.reduceEq, Int.reduceLT, Int.reduceLE, decide_true, decide_false, Bool.not_true, Bool.not_false, cmdX_eq]; rfl) | (simp only [go_sem, ↓reduceIte, Nat.reduceEqDiff, Nat.reduceAdd, Nat.reduceLeDiff, Nat.reduceBEq, Nat.reduceMul, Int.reduceEq, Int.reduceLT, Int.reduceLE, decide_true, decide_false, Bool.not_true, Bool.not_false, cmdX_eq]; done)) (by simp) (by simp only [go_sem]; rfl) (by first | assumption | (simp only [go_sem, ↓reduceIte, Nat.reduceEqDiff, Nat.reduceAdd, Nat.reduceLeDiff, Nat.reduceBEq, Nat.reduceMul, Int.reduceEq, Int.reduceLT, Int.reduceLE, decide_true, decide_false, Bool.not_true, Bool.not_false, cmdX_eq]; rfl) | (simp only [go_sem, ↓reduceIte, Nat.reduceEqDiff, Nat.reduceAdd, Nat.reduceLeDiff, Nat.reduceBEq, Nat.reduceMul, Int.reduceEq, Int.reduceLT, Int.reduceLE, decide_true, decide_false, Bool.not_true, Bool.not_false, cmdX_eq]; done)) (by simp) (by first | assumption | exact rowsOk_nil _ | exact rowsOk_by _ | (rw [byD_cut]; exact rowsOk_by _) | (simp [rowsOk, D.one, Value.oneCell']; done)) (by first | omega | (simp; done) | (simp; omega) | (simp [byD]; omega)) ?_
  | refine ao_appNB rfl rfl rfl rfl (by simp only [go_sem]; rfl) (by first | assumption | (simp only [go_sem, ↓reduceIte, Nat.reduceEqDiff, Nat.reduceAdd, Nat.reduceLeDiff, Nat.reduceBEq, Nat.reduceMul, Int.reduceEq, Int.reduceLT, Int.reduceLE, decide_true, decide_false, Bool.not_true, Bool.not_false, cmdX_eq]; rfl) | (simp only [go_sem, ↓reduceIte, Nat.reduceEqDiff, Nat.reduceAdd, Nat.reduceLeDiff, Nat.reduceBEq, Nat.reduceMul, Int.reduceEq, Int.reduceLT, Int.reduceLE, decide_true, decide_false, Bool.not_true, Bool.not_false, cmdX_eq]; done)) (by simp) (by first | assumption | exact rowsOk_nil _ | exact rowsOk_by _ | (rw [byD_cut]; exact rowsOk_by _) | (simp [rowsOk, D.one, Value.oneCell']; done)) (by first | omega | (simp; done) | (simp; omega) | (simp [byD]; omega)) ?_
  | refine ao_appR rfl rfl rfl (by first | assumption | (simp only [go_sem, ↓reduceIte, Nat.reduceEqDiff, Nat.reduceAdd, Nat.reduceLeDiff, Nat.reduceBEq, Nat.reduceMul, Int.reduceEq, Int.reduceLT, Int.reduceLE, decide_true, decide_false, Bool.not_true, Bool.not_false, cmdX_eq]; rfl) | (simp only [go_sem, ↓reduceIte, Nat.reduceEqDiff, Nat.reduceAdd, Nat.reduceLeDiff, Nat.reduceBEq, Nat.reduceMul, Int.reduceEq, Int.reduceLT, Int.reduceLE, decide_true, decide_false, Bool.not_true, Bool.not_false, cmdX_eq]; done)) (by simp) (by simp only [go_sem]; rfl) rfl (by first | assumption | exact rowsOk_nil _ | exact rowsOk_by _ | (rw [byD_cut]; exact rowsOk_by _) | (simp [rowsOk, D.one, Value.oneCell']; done)) (by first | omega | (simp; done) | (simp; omega) | (simp [byD]; omega)) ?_
  | refine ao_appNR rfl rfl rfl (by simp only [go_sem]; rfl) rfl (by first | assumption | exact rowsOk_nil _ | exact rowsOk_by _ | (rw [byD_cut]; exact rowsOk_by _) | (simp [rowsOk, D.one, Value.oneCell']; done)) (by first | omega | (simp; done) | (simp; omega) | (simp [byD]; omega)) ?_
  | refine ao0 rfl rfl ?_
  | refine aq2 rfl rfl rfl ent_56 (Does.arg0 (sText G hG [] (s := cmdS) (by decide) (by simp) _) nil_sl) ?_
  | (refine ao2 rfl rfl rfl ent_56 (Does.arg0 (sText G hG [] (s := cmdS) (by decide) (by simp) _) nil_sl) ?_; rintro _ _ ⟨rfl, rfl⟩)
  | refine aq2 rfl rfl rfl ent_54 (bare_d G hG (textE cmdS) c hc (by rw [cmdS_len]; decide) _) ?_
  | (refine ao2 rfl rfl rfl ent_54 (bare_d G hG (textE cmdS) c hc (by rw [cmdS_len]; decide) _) ?_; rintro _ _ ⟨rfl, rfl⟩)
  | (refine ao1' rfl fun K HK => ?_; simp only [go_sem, ↓reduceIte, Nat.reduceEqDiff, Nat.reduceAdd, Nat.reduceLeDiff, Nat.reduceBEq, Nat.reduceMul, Int.reduceEq, Int.reduceLT, Int.reduceLE, decide_true, decide_false, Bool.not_true, Bool.not_false, cmdX_eq]; refine HK _ _ ?_; clear HK K)
  | refine ao0' rfl ?_
  | refine aw_if1 rfl ?_
  | refine aw_if0 rfl ?_
  | refine aw_skip ?_
  | refine aw_exit ?_
  | refine aw_ret ?_
  | refine thenS_n ?_
  | refine thenS_x ?_
  | refine thenS_r ?_
  | refine inB_n ?_
  | refine inB_r ?_
  | refine inB_x ?_
  | refine inB_y rfl ?_
  | (exfalso; omega)
 exact ⟨.inr rfl, endD (r := .sl 1 (byD (bodyZ c))) hl0 rfl (by simp) (by simp) rfl (low_by _ _) ⟨rfl, rfl⟩⟩
end
section
set_option maxRecDepth 100000
set_option maxHeartbeats 4000000
set_option pp.maxSteps 1000000
set_option pp.deepTerms true
attribute [local irreducible] on aOp
attribute [local simp] byD_len
theorem low_M1 (m : Nat) (master : List UInt8) (p ht : Int) : lowH m [modOb master p ht] := fun x hx => by
 simp at hx; subst hx; exact low_mod m master p ht
section
variable {P : Program} {G : Nat → D}
theorem does_at1 (hG : ∀ g, low 0 (G g)) {f : FuncId} {ob : Ob} {args : List D} {r0 : D} (hob : ∀ π, renOb π ob = ob) (lob : lowOb 1 ob) (la : lowL 1 args) (lr : low 0 r0) (q : Does P G f [ob] args (fun h' r => h' = [ob] ∧ r = r0)) {h : List Ob} {i : Nat} (hi : h[i]? = some ob) {args' : List D} (he : renL (fun _ => i) args = args') : Does P G f h args' (fun h' r => h' = h ∧ r = r0) := by
 have L : Lies (fun _ => i) [ob] h := by
  refine ⟨fun k ob' hk => ?_, fun a b ha hb _ => ?_, ?_⟩
  · rcases k with _ | k
    · cases hk; rw [hob]; exact hi
    · simp at hk
  · simp at ha hb; omega
  · intro x hx
    simp at hx; subst hx; exact lob
 have F := Does.frame hG L (args := args) la (K1 := fun h' r => h' = [ob] ∧ r = r0) (by
  rintro _ _ ⟨rfl, _⟩
  refine ⟨fun a b ha hb _ => ?_, fun k h1 h2 => ?_⟩
  · simp at ha hb; omega
  · have h1 : 1 ≤ k := h1
    have h2 : k < 1 := h2
    omega) q
 rw [he] at F
 refine F.mono ?_
 rintro _ _ ⟨_, _, ⟨rfl, rfl⟩, rfl, rfl⟩
 refine ⟨?_, ren_low0 _ _ lr⟩
 simp only [List.map_cons, List.map_nil, plc, hob]
 apply List.ext_getElem?
 intro k
 by_cases hk : i = k
 · subst hk
   rw [List.getElem?_set_self (List.getElem?_eq_some_iff.1 hi).1, hi]
 · rw [List.getElem?_set_ne hk]
end
theorem ren_mod (π : Nat → Nat) (master : List UInt8) (p ht : Int) : renOb π (modOb master p ht) = modOb master p ht := by
 unfold modOb
 simp only [renOb, renL, ren, renR_by]
variable (G : Nat → D) (hG : ∀ g, low 0 (G g)) (hK : G 1 = .rp (shaK.map zD))
include hG
theorem new0 (master : List UInt8) (p : Int) (hm : master.length ≤ 1000000) : Does Tryz.prog G 24 [] [.sl 1 (byD master), .v (.int .i64 p)] (fun h' r => h' = [.dead, modOb master p 0] ∧ r = .ptr 1 0) := by
 refine Does.gaveIn (K := fun h' r => h' = [.buf 5 1 (byD master), .cells [.buf 0 master.length, .v (.int .i64 p), .v (.int .i64 0)]] ∧ r = .ptr 1 0) ?_ ?_
 rotate_left
 · rintro _ _ ⟨rfl, rfl⟩
   exact ⟨1, 0, _, by decide, rfl, by simp [cvD, cv1, modOb, byD_len], rfl⟩
 refine does_of_aw Tryz.func24 rfl (Nat.le_of_ble_eq_true rfl) hG fun hl0 _ => ?_
 simp only [Tryz.ntmps24]
 repeat' first
  | (refine ao_tri1 rfl rfl (tri_cpBuf (E := 5) rfl rfl (by simp only [go_sem, Option.bind_some]) rfl (by simp) byD_len (rowsOk_by _)) ?_)
  | (refine ao_make (m := master.length) (el := 5) (k := 1) (by' := 1) (zs := [.v (.int .u8 0)]) rfl rfl rfl rfl (by simp only [go_sem]) (by kernel_rfl) rfl (by omega) hm ?_)
  | refine aw_seq' ?_
  | refine aw_region' ?_
  | refine aw_block ?_
  | refine ao_nil ?_
  | (refine ao1 rfl rfl fun K HK => ?_; (try refine aOp_pick rfl ?_); simp only [go_sem, ↓reduceIte, Nat.reduceEqDiff, Nat.reduceAdd, Nat.reduceLeDiff, Nat.reduceBEq, Nat.reduceMul, Int.reduceEq, Int.reduceLT, Int.reduceLE, decide_true, decide_false, Bool.not_true, Bool.not_false]; (first | refine splitB (fun hq => ?_) (fun hq => ?_) | refine splitN (fun hq => ?_) (fun hq => ?_) | (refine slc_sl (by simp only [go_sem]) rfl rfl (by first | omega | simp) (by first | omega | simp) (by simp only [go_sem]; omega) ?_) | (refine ⟨by omega, by omega, ?_⟩; first | refine row_at (by assumption) ?_ | (intro row hrow; obtain ⟨x, hx, rfl⟩ := row_inv hrow; clear hrow) | (intro row hrow)) | (refine ⟨by omega, ?_⟩; refine row_at (by assumption) ?_) | skip) <;> (refine HK _ _ ?_; clear HK K))
  | (refine aq1 rfl rfl fun K HK => ?_; (try refine aOp_pick rfl ?_); simp only [go_sem, ↓reduceIte, Nat.reduceEqDiff, Nat.reduceAdd, Nat.reduceLeDiff, Nat.reduceBEq, Nat.reduceMul, Int.reduceEq, Int.reduceLT, Int.reduceLE, decide_true, decide_false, Bool.not_true, Bool.not_false]; (first | refine splitB (fun hq => ?_) (fun hq => ?_) | refine splitN (fun hq => ?_) (fun hq => ?_) | (refine slc_sl (by simp only [go_sem]) rfl rfl (by first | omega | simp) (by first | omega | simp) (by simp only [go_sem]; omega) ?_) | (refine ⟨by omega, by omega, ?_⟩; first | refine row_at (by assumption) ?_ | (intro row hrow; obtain ⟨x, hx, rfl⟩ := row_inv hrow; clear hrow) | (intro row hrow)) | (refine ⟨by omega, ?_⟩; refine row_at (by assumption) ?_) | skip) <;> (refine HK _ _ rfl ?_; clear HK K))
  | refine aq0 rfl rfl ?_
  | refine aq_nil ?_
  | (refine aw_draw mixd (by kernel_rfl) ?_)
  | refine ao_appB rfl rfl rfl rfl (by first | assumption | (simp only [go_sem, ↓reduceIte, Nat.reduceEqDiff, Nat.reduceAdd, Nat.reduceLeDiff, Nat.reduceBEq, Nat.reduceMul, Int.reduceEq, Int.reduceLT, Int.reduceLE, decide_true, decide_false, Bool.not_true, Bool.not_false]; rfl) | (simp only [go_sem, ↓reduceIte, Nat.reduceEqDiff, Nat.reduceAdd, Nat.reduceLeDiff, Nat.reduceBEq, Nat.reduceMul, Int.reduceEq, Int.reduceLT, Int.reduceLE, decide_true, decide_false, Bool.not_true, Bool.not_false]; done)) (by simp) (by simp only [go_sem]; rfl) (by first | assumption | (simp only [go_sem, ↓reduceIte, Nat.reduceEqDiff, Nat.reduceAdd, Nat.reduceLeDiff, Nat.reduceBEq, Nat.reduceMul, Int.reduceEq, Int.reduceLT, Int.reduceLE, decide_true, decide_false, Bool.not_true, Bool.not_false]; rfl) | (simp only [go_sem, ↓reduceIte, Nat.reduceEqDiff, Nat.reduceAdd, Nat.reduceLeDiff, Nat.reduceBEq, Nat.reduceMul, Int.reduceEq, Int.reduceLT, Int.reduceLE, decide_true, decide_false, Bool.not_true, Bool.not_false]; done)) (by simp) (by first | assumption | exact rowsOk_nil _ | exact rowsOk_by _ | (rw [byD_cut]; exact rowsOk_by _) | (simp [rowsOk, D.one, Value.oneCell']; done)) (by first | omega | (simp; done) | (simp; omega) | (simp [byD]; omega)) ?_
  | refine ao_appNB rfl rfl rfl rfl (by simp only [go_sem]; rfl) (by first | assumption | (simp only [go_sem, ↓reduceIte, Nat.reduceEqDiff, Nat.reduceAdd, Nat.reduceLeDiff, Nat.reduceBEq, Nat.reduceMul, Int.reduceEq, Int.reduceLT, Int.reduceLE, decide_true, decide_false, Bool.not_true, Bool.not_false]; rfl) | (simp only [go_sem, ↓reduceIte, Nat.reduceEqDiff, Nat.reduceAdd, Nat.reduceLeDiff, Nat.reduceBEq, Nat.reduceMul, Int.reduceEq, Int.reduceLT, Int.reduceLE, decide_true, decide_false, Bool.not_true, Bool.not_false]; done)) (by simp) (by first | assumption | exact rowsOk_nil _ | exact rowsOk_by _ | (rw [byD_cut]; exact rowsOk_by _) | (simp [rowsOk, D.one, Value.oneCell']; done)) (by first | omega | (simp; done) | (simp; omega) | (simp [byD]; omega)) ?_
  | refine ao_appR rfl rfl rfl (by first | assumption | (simp only [go_sem, ↓reduceIte, Nat.reduceEqDiff, Nat.reduceAdd, Nat.reduceLeDiff, Nat.reduceBEq, Nat.reduceMul, Int.reduceEq, Int.reduceLT, Int.reduceLE, decide_true, decide_false, Bool.not_true, Bool.not_false]; rfl) | (simp only [go_sem, ↓reduceIte, Nat.reduceEqDiff, Nat.reduceAdd, Nat.reduceLeDiff, Nat.reduceBEq, Nat.reduceMul, Int.reduceEq, Int.reduceLT, Int.reduceLE, decide_true, decide_false, Bool.not_true, Bool.not_false]; done)) (by simp) (by simp only [go_sem]; rfl) rfl (by first | assumption | exact rowsOk_nil _ | exact rowsOk_by _ | (rw [byD_cut]; exact rowsOk_by _) | (simp [rowsOk, D.one, Value.oneCell']; done)) (by first | omega | (simp; done) | (simp; omega) | (simp [byD]; omega)) ?_
  | refine ao_appNR rfl rfl rfl (by simp only [go_sem]; rfl) rfl (by first | assumption | exact rowsOk_nil _ | exact rowsOk_by _ | (rw [byD_cut]; exact rowsOk_by _) | (simp [rowsOk, D.one, Value.oneCell']; done)) (by first | omega | (simp; done) | (simp; omega) | (simp [byD]; omega)) ?_
  | refine ao0 rfl rfl ?_
  | (refine ao1' rfl fun K HK => ?_; simp only [go_sem, ↓reduceIte, Nat.reduceEqDiff, Nat.reduceAdd, Nat.reduceLeDiff, Nat.reduceBEq, Nat.reduceMul, Int.reduceEq, Int.reduceLT, Int.reduceLE, decide_true, decide_false, Bool.not_true, Bool.not_false]; refine HK _ _ ?_; clear HK K)
  | refine ao0' rfl ?_
  | refine aw_if1 rfl ?_
  | refine aw_if0 rfl ?_
  | refine aw_skip ?_
  | refine aw_exit ?_
  | refine aw_ret ?_
  | refine thenS_n ?_
  | refine thenS_x ?_
  | refine thenS_r ?_
  | refine inB_n ?_
  | refine inB_r ?_
  | refine inB_x ?_
  | refine inB_y rfl ?_
  | (exfalso; omega)
 exact ⟨.inr rfl, endX [.ptr 1 0] [.buf 5 1 (byD master), .cells [.buf 0 master.length, .v (.int .i64 p), .v (.int .i64 0)]] [] (.ptr 1 0) rfl rfl (Nat.zero_le _) (fun x hx => by
  simp at hx
  rcases hx with rfl | rfl
  · exact low_by 2 master
  · simp [lowOb, lowL, low]) (by simp [low]) rfl ⟨rfl, rfl⟩⟩
include hK
theorem cSign0 (master : List UInt8) (p ht : Int) (hp : I64 p) (hm : master.length ≤ 1000000) (hh : ht ≤ 0) (c : Cmd) (hc : c.Ok) : Does Tryz.prog G 32 [modOb master p ht] [.ptr 0 0, .agg (cmdX c)] (fun h' r => h' = [modOb master p ht] ∧ r = .tup [.agg (cmdX { c with tag := signZ master p 0 (bodyZ c) }), .v (.int .i64 0)]) := by
 have hl := bodyZ_len c hc
 refine does_of_aw Tryz.func32 rfl (Nat.le_of_ble_eq_true rfl) hG fun hl0 _ => ?_
 simp only [Tryz.ntmps32]
 repeat' first
  | refine aw_seq' ?_
  | refine aw_region' ?_
  | refine aw_block ?_
  | refine ao_nil ?_
  | (refine ao1 rfl rfl fun K HK => ?_; (try refine aOp_pick rfl ?_); simp only [go_sem, ↓reduceIte, Nat.reduceEqDiff, Nat.reduceAdd, Nat.reduceLeDiff, Nat.reduceBEq, Nat.reduceMul, Int.reduceEq, Int.reduceLT, Int.reduceLE, decide_true, decide_false, Bool.not_true, Bool.not_false, cmdX_eq]; (first | refine splitB (fun hq => ?_) (fun hq => ?_) | refine splitN (fun hq => ?_) (fun hq => ?_) | (refine slc_sl (by simp only [go_sem]) rfl rfl (by first | omega | simp) (by first | omega | simp) (by simp only [go_sem]; omega) ?_) | (refine ⟨by omega, by omega, ?_⟩; first | refine row_at (by assumption) ?_ | (intro row hrow; obtain ⟨x, hx, rfl⟩ := row_inv hrow; clear hrow) | (intro row hrow)) | (refine ⟨by omega, ?_⟩; refine row_at (by assumption) ?_) | skip) <;> (refine HK _ _ ?_; clear HK K))
  | (refine aq1 rfl rfl fun K HK => ?_; (try refine aOp_pick rfl ?_); simp only [go_sem, ↓reduceIte, Nat.reduceEqDiff, Nat.reduceAdd, Nat.reduceLeDiff, Nat.reduceBEq, Nat.reduceMul, Int.reduceEq, Int.reduceLT, Int.reduceLE, decide_true, decide_false, Bool.not_true, Bool.not_false, cmdX_eq]; (first | refine splitB (fun hq => ?_) (fun hq => ?_) | refine splitN (fun hq => ?_) (fun hq => ?_) | (refine slc_sl (by simp only [go_sem]) rfl rfl (by first | omega | simp) (by first | omega | simp) (by simp only [go_sem]; omega) ?_) | (refine ⟨by omega, by omega, ?_⟩; first | refine row_at (by assumption) ?_ | (intro row hrow; obtain ⟨x, hx, rfl⟩ := row_inv hrow; clear hrow) | (intro row hrow)) | (refine ⟨by omega, ?_⟩; refine row_at (by assumption) ?_) | skip) <;> (refine HK _ _ rfl ?_; clear HK K))
  | refine aq0 rfl rfl ?_
  | refine aq_nil ?_
  | (refine aw_draw mixd (by kernel_rfl) ?_)
  | refine ao_appB rfl rfl rfl rfl (by first | assumption | (simp only [go_sem, ↓reduceIte, Nat.reduceEqDiff, Nat.reduceAdd, Nat.reduceLeDiff, Nat.reduceBEq, Nat.reduceMul, Int.reduceEq, Int.reduceLT, Int.reduceLE, decide_true, decide_false, Bool.not_true, Bool.not_false, cmdX_eq]; rfl) | (simp only [go_sem, ↓reduceIte, Nat.reduceEqDiff, Nat.reduceAdd, Nat.reduceLeDiff, Nat.reduceBEq, Nat.reduceMul, Int.reduceEq, Int.reduceLT, Int.reduceLE, decide_true, decide_false, Bool.not_true, Bool.not_false, cmdX_eq]; done)) (by simp) (by simp only [go_sem]; rfl) (by first | assumption | (simp only [go_sem, ↓reduceIte, Nat.reduceEqDiff, Nat.reduceAdd, Nat.reduceLeDiff, Nat.reduceBEq, Nat.reduceMul, Int.reduceEq, Int.reduceLT, Int.reduceLE, decide_true, decide_false, Bool.not_true, Bool.not_false, cmdX_eq]; rfl) | (simp only [go_sem, ↓reduceIte, Nat.reduceEqDiff, Nat.reduceAdd, Nat.reduceLeDiff, Nat.reduceBEq, Nat.reduceMul, Int.reduceEq, Int.reduceLT, Int.reduceLE, decide_true, decide_false, Bool.not_true, Bool.not_false, cmdX_eq]; done)) (by simp) (by first | assumption | exact rowsOk_nil _ | exact rowsOk_by _ | (rw [byD_cut]; exact rowsOk_by _) | (simp [rowsOk, D.one, Value.oneCell']; done)) (by first | omega | (simp; done) | (simp; omega) | (simp [byD]; omega)) ?_
  | refine ao_appNB rfl rfl rfl rfl (by simp only [go_sem]; rfl) (by first | assumption | (simp only [go_sem, ↓reduceIte, Nat.reduceEqDiff, Nat.reduceAdd, Nat.reduceLeDiff, Nat.reduceBEq, Nat.reduceMul, Int.reduceEq, Int.reduceLT, Int.reduceLE, decide_true, decide_false, Bool.not_true, Bool.not_false, cmdX_eq]; rfl) | (simp only [go_sem, ↓reduceIte, Nat.reduceEqDiff, Nat.reduceAdd, Nat.reduceLeDiff, Nat.reduceBEq, Nat.reduceMul, Int.reduceEq, Int.reduceLT, Int.reduceLE, decide_true, decide_false, Bool.not_true, Bool.not_false, cmdX_eq]; done)) (by simp) (by first | assumption | exact rowsOk_nil _ | exact rowsOk_by _ | (rw [byD_cut]; exact rowsOk_by _) | (simp [rowsOk, D.one, Value.oneCell']; done)) (by first | omega | (simp; done) | (simp; omega) | (simp [byD]; omega)) ?_
  | refine ao_appR rfl rfl rfl (by first | assumption | (simp only [go_sem, ↓reduceIte, Nat.reduceEqDiff, Nat.reduceAdd, Nat.reduceLeDiff, Nat.reduceBEq, Nat.reduceMul, Int.reduceEq, Int.reduceLT, Int.reduceLE, decide_true, decide_false, Bool.not_true, Bool.not_false, cmdX_eq]; rfl) | (simp only [go_sem, ↓reduceIte, Nat.reduceEqDiff, Nat.reduceAdd, Nat.reduceLeDiff, Nat.reduceBEq, Nat.reduceMul, Int.reduceEq, Int.reduceLT, Int.reduceLE, decide_true, decide_false, Bool.not_true, Bool.not_false, cmdX_eq]; done)) (by simp) (by simp only [go_sem]; rfl) rfl (by first | assumption | exact rowsOk_nil _ | exact rowsOk_by _ | (rw [byD_cut]; exact rowsOk_by _) | (simp [rowsOk, D.one, Value.oneCell']; done)) (by first | omega | (simp; done) | (simp; omega) | (simp [byD]; omega)) ?_
  | refine ao_appNR rfl rfl rfl (by simp only [go_sem]; rfl) rfl (by first | assumption | exact rowsOk_nil _ | exact rowsOk_by _ | (rw [byD_cut]; exact rowsOk_by _) | (simp [rowsOk, D.one, Value.oneCell']; done)) (by first | omega | (simp; done) | (simp; omega) | (simp [byD]; omega)) ?_
  | refine ao0 rfl rfl ?_
  | refine aq2 rfl rfl rfl ent_21 (body_d G hG c hc _) ?_
  | (refine ao2 rfl rfl rfl ent_21 (body_d G hG c hc _) ?_; rintro _ _ ⟨rfl, rfl⟩)
  | refine aq2 rfl rfl rfl ent_72 (mSign_d G hG hK 0 master p ht (bodyZ c) hp hm (by omega) (bodyZ_ne c) _ rfl hh) ?_
  | (refine ao2 rfl rfl rfl ent_72 (mSign_d G hG hK 0 master p ht (bodyZ c) hp hm (by omega) (bodyZ_ne c) _ rfl hh) ?_; rintro _ _ ⟨rfl, rfl⟩)
  | (refine ao1' rfl fun K HK => ?_; simp only [go_sem, ↓reduceIte, Nat.reduceEqDiff, Nat.reduceAdd, Nat.reduceLeDiff, Nat.reduceBEq, Nat.reduceMul, Int.reduceEq, Int.reduceLT, Int.reduceLE, decide_true, decide_false, Bool.not_true, Bool.not_false, cmdX_eq]; refine HK _ _ ?_; clear HK K)
  | refine ao0' rfl ?_
  | refine aw_if1 rfl ?_
  | refine aw_if0 rfl ?_
  | refine aw_skip ?_
  | refine aw_exit ?_
  | refine aw_ret ?_
  | refine thenS_n ?_
  | refine thenS_x ?_
  | refine thenS_r ?_
  | refine inB_n ?_
  | refine inB_r ?_
  | refine inB_x ?_
  | refine inB_y rfl ?_
  | (exfalso; omega)
 exact ⟨.inr rfl, endX [.agg (cmdX { c with tag := signZ master p 0 (bodyZ c) }), .v (.int .i64 0)] [modOb master p ht] [.cells (cmdX { c with tag := signZ master p 0 (bodyZ c) }), .cells (cmdX { c with tag := signZ master p 0 (bodyZ c) })] (.tup [.agg (cmdX { c with tag := signZ master p 0 (bodyZ c) }), .v (.int .i64 0)]) rfl rfl (Nat.le_refl _) (low_M1 _ _ _ _) (by rw [low, lowL, lowL, lowL]; exact ⟨low_agg _ _, by rw [low]; trivial, trivial⟩) rfl ⟨rfl, rfl⟩⟩
theorem cSignRead0 (master : List UInt8) (p ht n : Int) (hp : I64 p) (hp2 : I64 (p - 16)) (hn : I64 n) (hm : master.length ≤ 1000000) (hh : ht ≤ 0) : Does Tryz.prog G 28 [modOb master p ht] [.ptr 0 0, .v (.int .i64 n)] (fun h' r => h' = [modOb master p ht] ∧ r = .tup [.agg [.v (.int .i64 (p - 16)), .v (.int .i64 n), .sl 1 (byD (signZ master p 0 (readBodyZ (p - 16) n)))], .v (.int .i64 0)]) := by
 have hl := readBodyZ_len hp2 hn
 have wp : IntKind.i64.wrap (p - 16) = p - 16 := IntWalk.i64_in _ hp2
 refine does_of_aw Tryz.func28 rfl (Nat.le_of_ble_eq_true rfl) hG fun hl0 _ => ?_
 simp only [Tryz.ntmps28]
 repeat' first
  | refine aw_seq' ?_
  | refine aw_region' ?_
  | refine aw_block ?_
  | refine ao_nil ?_
  | (refine ao1 rfl rfl fun K HK => ?_; (try refine aOp_pick rfl ?_); simp only [go_sem, ↓reduceIte, Nat.reduceEqDiff, Nat.reduceAdd, Nat.reduceLeDiff, Nat.reduceBEq, Nat.reduceMul, Int.reduceEq, Int.reduceLT, Int.reduceLE, decide_true, decide_false, Bool.not_true, Bool.not_false, wp]; (first | refine splitB (fun hq => ?_) (fun hq => ?_) | refine splitN (fun hq => ?_) (fun hq => ?_) | (refine slc_sl (by simp only [go_sem]) rfl rfl (by first | omega | simp) (by first | omega | simp) (by simp only [go_sem]; omega) ?_) | (refine ⟨by omega, by omega, ?_⟩; first | refine row_at (by assumption) ?_ | (intro row hrow; obtain ⟨x, hx, rfl⟩ := row_inv hrow; clear hrow) | (intro row hrow)) | (refine ⟨by omega, ?_⟩; refine row_at (by assumption) ?_) | skip) <;> (refine HK _ _ ?_; clear HK K))
  | (refine aq1 rfl rfl fun K HK => ?_; (try refine aOp_pick rfl ?_); simp only [go_sem, ↓reduceIte, Nat.reduceEqDiff, Nat.reduceAdd, Nat.reduceLeDiff, Nat.reduceBEq, Nat.reduceMul, Int.reduceEq, Int.reduceLT, Int.reduceLE, decide_true, decide_false, Bool.not_true, Bool.not_false, wp]; (first | refine splitB (fun hq => ?_) (fun hq => ?_) | refine splitN (fun hq => ?_) (fun hq => ?_) | (refine slc_sl (by simp only [go_sem]) rfl rfl (by first | omega | simp) (by first | omega | simp) (by simp only [go_sem]; omega) ?_) | (refine ⟨by omega, by omega, ?_⟩; first | refine row_at (by assumption) ?_ | (intro row hrow; obtain ⟨x, hx, rfl⟩ := row_inv hrow; clear hrow) | (intro row hrow)) | (refine ⟨by omega, ?_⟩; refine row_at (by assumption) ?_) | skip) <;> (refine HK _ _ rfl ?_; clear HK K))
  | refine aq0 rfl rfl ?_
  | refine aq_nil ?_
  | (refine aw_draw mixd (by kernel_rfl) ?_)
  | refine ao_appB rfl rfl rfl rfl (by first | assumption | (simp only [go_sem, ↓reduceIte, Nat.reduceEqDiff, Nat.reduceAdd, Nat.reduceLeDiff, Nat.reduceBEq, Nat.reduceMul, Int.reduceEq, Int.reduceLT, Int.reduceLE, decide_true, decide_false, Bool.not_true, Bool.not_false, wp]; rfl) | (simp only [go_sem, ↓reduceIte, Nat.reduceEqDiff, Nat.reduceAdd, Nat.reduceLeDiff, Nat.reduceBEq, Nat.reduceMul, Int.reduceEq, Int.reduceLT, Int.reduceLE, decide_true, decide_false, Bool.not_true, Bool.not_false, wp]; done)) (by simp) (by simp only [go_sem]; rfl) (by first | assumption | (simp only [go_sem, ↓reduceIte, Nat.reduceEqDiff, Nat.reduceAdd, Nat.reduceLeDiff, Nat.reduceBEq, Nat.reduceMul, Int.reduceEq, Int.reduceLT, Int.reduceLE, decide_true, decide_false, Bool.not_true, Bool.not_false, wp]; rfl) | (simp only [go_sem, ↓reduceIte, Nat.reduceEqDiff, Nat.reduceAdd, Nat.reduceLeDiff, Nat.reduceBEq, Nat.reduceMul, Int.reduceEq, Int.reduceLT, Int.reduceLE, decide_true, decide_false, Bool.not_true, Bool.not_false, wp]; done)) (by simp) (by first | assumption | exact rowsOk_nil _ | exact rowsOk_by _ | (rw [byD_cut]; exact rowsOk_by _) | (simp [rowsOk, D.one, Value.oneCell']; done)) (by first | omega | (simp; done) | (simp; omega) | (simp [byD]; omega)) ?_
  | refine ao_appNB rfl rfl rfl rfl (by simp only [go_sem]; rfl) (by first | assumption | (simp only [go_sem, ↓reduceIte, Nat.reduceEqDiff, Nat.reduceAdd, Nat.reduceLeDiff, Nat.reduceBEq, Nat.reduceMul, Int.reduceEq, Int.reduceLT, Int.reduceLE, decide_true, decide_false, Bool.not_true, Bool.not_false, wp]; rfl) | (simp only [go_sem, ↓reduceIte, Nat.reduceEqDiff, Nat.reduceAdd, Nat.reduceLeDiff, Nat.reduceBEq, Nat.reduceMul, Int.reduceEq, Int.reduceLT, Int.reduceLE, decide_true, decide_false, Bool.not_true, Bool.not_false, wp]; done)) (by simp) (by first | assumption | exact rowsOk_nil _ | exact rowsOk_by _ | (rw [byD_cut]; exact rowsOk_by _) | (simp [rowsOk, D.one, Value.oneCell']; done)) (by first | omega | (simp; done) | (simp; omega) | (simp [byD]; omega)) ?_
  | refine ao_appR rfl rfl rfl (by first | assumption | (simp only [go_sem, ↓reduceIte, Nat.reduceEqDiff, Nat.reduceAdd, Nat.reduceLeDiff, Nat.reduceBEq, Nat.reduceMul, Int.reduceEq, Int.reduceLT, Int.reduceLE, decide_true, decide_false, Bool.not_true, Bool.not_false, wp]; rfl) | (simp only [go_sem, ↓reduceIte, Nat.reduceEqDiff, Nat.reduceAdd, Nat.reduceLeDiff, Nat.reduceBEq, Nat.reduceMul, Int.reduceEq, Int.reduceLT, Int.reduceLE, decide_true, decide_false, Bool.not_true, Bool.not_false, wp]; done)) (by simp) (by simp only [go_sem]; rfl) rfl (by first | assumption | exact rowsOk_nil _ | exact rowsOk_by _ | (rw [byD_cut]; exact rowsOk_by _) | (simp [rowsOk, D.one, Value.oneCell']; done)) (by first | omega | (simp; done) | (simp; omega) | (simp [byD]; omega)) ?_
  | refine ao_appNR rfl rfl rfl (by simp only [go_sem]; rfl) rfl (by first | assumption | exact rowsOk_nil _ | exact rowsOk_by _ | (rw [byD_cut]; exact rowsOk_by _) | (simp [rowsOk, D.one, Value.oneCell']; done)) (by first | omega | (simp; done) | (simp; omega) | (simp [byD]; omega)) ?_
  | refine ao0 rfl rfl ?_
  | refine aq2 rfl rfl rfl ent_71 (mProcess_d G hG 0 master p ht _ rfl) ?_
  | (refine ao2 rfl rfl rfl ent_71 (mProcess_d G hG 0 master p ht _ rfl) ?_; rintro _ _ ⟨rfl, rfl⟩)
  | refine aq2 rfl rfl rfl ent_73 (readBody_d G hG (p - 16) n hp2 hn _) ?_
  | (refine ao2 rfl rfl rfl ent_73 (readBody_d G hG (p - 16) n hp2 hn _) ?_; rintro _ _ ⟨rfl, rfl⟩)
  | refine aq2 rfl rfl rfl ent_72 (mSign_d G hG hK 0 master p ht (readBodyZ (p - 16) n) hp hm (by omega) (readBodyZ_ne _ _) _ rfl hh) ?_
  | (refine ao2 rfl rfl rfl ent_72 (mSign_d G hG hK 0 master p ht (readBodyZ (p - 16) n) hp hm (by omega) (readBodyZ_ne _ _) _ rfl hh) ?_; rintro _ _ ⟨rfl, rfl⟩)
  | (refine ao1' rfl fun K HK => ?_; simp only [go_sem, ↓reduceIte, Nat.reduceEqDiff, Nat.reduceAdd, Nat.reduceLeDiff, Nat.reduceBEq, Nat.reduceMul, Int.reduceEq, Int.reduceLT, Int.reduceLE, decide_true, decide_false, Bool.not_true, Bool.not_false, wp]; refine HK _ _ ?_; clear HK K)
  | refine ao0' rfl ?_
  | refine aw_if1 rfl ?_
  | refine aw_if0 rfl ?_
  | refine aw_skip ?_
  | refine aw_exit ?_
  | refine aw_ret ?_
  | refine thenS_n ?_
  | refine thenS_x ?_
  | refine thenS_r ?_
  | refine inB_n ?_
  | refine inB_r ?_
  | refine inB_x ?_
  | refine inB_y rfl ?_
  | (exfalso; omega)
 exact ⟨.inr rfl, endX [.agg [.v (.int .i64 (p - 16)), .v (.int .i64 n), .sl 1 (byD (signZ master p 0 (readBodyZ (p - 16) n)))], .v (.int .i64 0)] [modOb master p ht] [_] (.tup [.agg [.v (.int .i64 (p - 16)), .v (.int .i64 n), .sl 1 (byD (signZ master p 0 (readBodyZ (p - 16) n)))], .v (.int .i64 0)]) rfl rfl (Nat.le_refl _) (low_M1 _ _ _ _) (by simp only [low, lowL]; exact ⟨⟨trivial, trivial, by have := low_by 1 (signZ master p 0 (readBodyZ (p - 16) n)); rwa [low] at this, trivial⟩, trivial, trivial⟩) rfl ⟨rfl, rfl⟩⟩
end
end Go.Proofs.YtgkjcmglcnhpaaaGreatDoor
