/-
  What the statements of the chapter share, part 17: LB4, LG1, LG2.
-/
import Derived.Test.YtgkjcmglcnhpaaaGreatDoorG15
import Derived.Test.YtgkjcmglcnhpaaaGreatDoorG16
set_option linter.unusedVariables false
set_option linter.unusedSimpArgs false
set_option maxRecDepth 100000
set_option maxHeartbeats 8000000
namespace Go.Proofs.YtgkjcmglcnhpaaaGreatDoor
open Go.RowKit
section
set_option maxRecDepth 100000
set_option maxHeartbeats 8000000
attribute [local irreducible] on aOp
attribute [local go_sem] decide_true decide_false Bool.not_true Bool.not_false
attribute [local simp] byD_len
def ctr (n : Nat) : Ob := .cells [.v (.int .i64 n)]
def cM (h : List Ob) (i n : Nat) (T : List Ob) : List Ob := h.set i (ctr n) ++ T
section
variable {h T l : List Ob} {i n m : Nat} {y z y' : Ob}
theorem cM_0 (hi : i < h.length) : (cM h i n T)[i]? = some (.cells [.v (.int .i64 n)]) := by
 unfold cM; rw [List.getElem?_append_left (by simpa using hi), List.getElem?_set_self hi]; rfl
theorem cM_s (hi : i < h.length) : (cM h i n T).set i (.cells [.v (.int .i64 ((m : Nat) : Int))]) = cM h i m T := by
 unfold cM; rw [List.set_append_left _ _ (by simpa using hi), List.set_set]; rfl
theorem cM_s' (hi : i < h.length) : (cM h i n T).set i (ctr m) = cM h i m T := cM_s hi
theorem cM_len : (cM h i n T).length = h.length + T.length := by unfold cM; simp
theorem cM_app : cM h i n T ++ l = cM h i n (T ++ l) := by unfold cM; rw [List.append_assoc]
theorem cM_b : (cM h i n (y :: T))[h.length]? = some y := by unfold cM; rw [List.getElem?_append_right (by simp)]; simp
theorem cM_b1 : (cM h i n (y :: z :: T))[h.length + 1]? = some z := by unfold cM; rw [List.getElem?_append_right (by simp)]; simp
theorem cM_b1s : (cM h i n (y :: z :: T)).set (h.length + 1) y' = cM h i n (y :: y' :: T) := by unfold cM; rw [List.set_append_right _ _ (by simp)]; simp
theorem cM_ext (hi : i < h.length) : cM (h ++ T) i n [] = cM h i n T := by unfold cM; rw [List.set_append_left _ _ hi, List.append_nil]
theorem cM_l : (cM h i n (y :: (T ++ [z])))[h.length + (T.length + 1)]? = some z := by unfold cM; rw [List.getElem?_append_right (by simp)]; simp
theorem cM_sl : (cM h i n (y :: (T ++ [z]))).set (h.length + (T.length + 1)) y' = cM h i n (y :: (T ++ [y'])) := by unfold cM; rw [List.set_append_right _ _ (by simp)]; simp
end
theorem endC {P : Program} {res : Array ResultVar} {h T : List Ob} {i n m : Nat} {K : List Ob → D → Prop} {s : S} {x : Value} (hi : i < h.length) (hl : lowH (cM h i n []).length (cM h i n [])) (h1 : resD P s res.toList = some [.v x]) (h2 : s.h = cM h i m T) (hK : K (cM h i m []) (.v x)) : EndD P res (cM h i n []).length K s := by
 have e : cM h i m [] = (cM h i n []).set i (ctr m) := (cM_s' hi).symm
 have hlen : (cM h i m []).length = (cM h i n []).length := by rw [cM_len, cM_len]
 refine endX [.v x] (cM h i m []) T (.v x) h1 (by rw [h2, cM_app]; rfl) (by rw [hlen]; exact Nat.le_refl _) ?_ (by rw [low]; trivial) rfl hK
 rw [hlen, e]
 exact lowH_set hl (by simp [ctr, lowOb, lowL, low])
theorem whenI_f (e : Int) : whenI false e = 0 := rfl
theorem whenI_t (e : Int) : whenI true e = e := rfl
theorem visit_succ (f : Nat) (l : Lat) (n : Nat) : visitF (f + 1) l n = if 64 ≤ n then (6, n) else if shapeB l then (1, n + 1) else if latE l ≠ 0 then (latE l, n + 1) else goL (visitF f) l.parts (n + 1) := rfl
theorem latE_eq (l : Lat) : latE l = orI [whenI (limitsB l) 6, whenI (spellB l) 3, whenI (rangesB l) 5, whenI (chainsB l) 4] := rfl
variable (G : Nat → D) (hG : ∀ g, low 0 (G g))
include hG
theorem orE4_b (l : List Int) (hl : l.length ≤ 1000) (h : List Ob) (i : Nat) (hi : h[i]? = some (.buf 34 1 (l.map intX))) : Does Tryz.prog G 59 h [.buf i l.length] (fun h' r => h' = h ∧ r = .v (.int .i64 (orI l))) := by
 refine does_of_aw Tryz.func59 rfl (Nat.le_of_ble_eq_true rfl) hG fun hl0 _ => ?_
 simp only [Tryz.ntmps59]
 repeat' first
  | (with_reducible refine gd_aw ?_; first
   | refine aw_seq' ?_
   | refine aw_region' ?_
   | refine aw_block ?_)
  | (with_reducible refine gd_ao ?_; first
   | refine ao_nil ?_
   | (refine ao1 rfl rfl fun K HK => ?_; simp only [go_sem, ↓reduceIte, Nat.reduceEqDiff, Nat.reduceAdd, Nat.reduceLeDiff, Nat.reduceBEq, Nat.reduceMul, Int.reduceEq, Int.reduceLT, Int.reduceLE, hi] <;> (refine HK _ _ ?_; clear HK K)))
  | (with_reducible refine gd_th ?_; first
   | refine thenS_n ?_)
 refine aw_for (fun m e h' => ∃ k : Nat, k ≤ l.length ∧ m = l.length - k ∧ orI l = orI (l.drop k) ∧ h' = h ∧ e 3 = .v (.int .i64 0) ∧ e 6 = .buf i l.length ∧ e 7 = .v (.int .i64 l.length) ∧ e 8 = .v (.int .i64 k)) l.length ⟨0, Nat.zero_le _, rfl, rfl, rfl, rfl, rfl, rfl, rfl⟩ ?_
 rintro m e h' ⟨k, hk, rfl, ho, rfl, e3, e6, e7, e8⟩
 by_cases hlt : k < l.length
 · have hx : l[k]? = some l[k] := List.getElem?_eq_getElem hlt
   have hd : l.drop k = l[k] :: l.drop (k + 1) := List.drop_eq_getElem_cons hlt
   generalize l[k] = x at hx hd
   have wk : IntKind.i64.wrap ((k : Int) + 1) = (k : Int) + 1 := IntWalk.i64_in _ (by omega)
   rw [hd, orI] at ho
   have hrow : (l.map intX)[k]? = some [.v (.int .i64 x)] := by rw [List.getElem?_map, hx]; rfl
   repeat' first
    | (with_reducible refine gd_aw ?_; first
     | refine aw_seq' ?_
     | refine aw_region' ?_
     | refine aw_block ?_
     | refine aw_if1 rfl ?_
     | refine aw_if0 rfl ?_
     | refine aw_skip ?_
     | refine aw_exit ?_
     | refine aw_ret ?_)
    | (with_reducible refine gd_ao ?_; first
     | (refine ao1 rfl rfl fun K HK => ?_; simp only [go_sem, e6, e8, ↓reduceIte, Nat.reduceEqDiff]; refine ⟨_, _, _, hi, by simp, by simp only [go_sem], by omega, by omega, ?_⟩; refine HK _ _ ?_; clear HK K)
     | refine ao_nil ?_
     | (refine ao1 rfl rfl fun K HK => ?_; simp only [go_sem, ↓reduceIte, Nat.reduceEqDiff, Nat.reduceAdd, Nat.reduceLeDiff, Nat.reduceBEq, Nat.reduceMul, Int.reduceEq, Int.reduceLT, Int.reduceLE, hi, loadD_bp hi (List.length_map _) hrow, List.length_map, e3, e6, e7, e8, intX_eq, Int.toNat_natCast, wk]; (first | refine splitB (fun hq => ?_) (fun hq => ?_) | refine splitN (fun hq => ?_) (fun hq => ?_) | skip) <;> (refine HK _ _ ?_; clear HK K)))
    | (with_reducible refine gd_th ?_; first
     | refine thenS_n ?_
     | refine thenS_x ?_
     | refine thenS_r ?_)
    | (with_reducible refine gd_iB ?_; first
     | refine inB_n ?_
     | refine inB_r ?_
     | refine inB_x ?_)
    | (exfalso; omega)
   · exact ⟨rfl, l.length - (k + 1), by omega, k + 1, hlt, rfl, by rw [ho, if_pos hq], rfl, e3, e6, e7, rfl⟩
   · exact ⟨by simp, endD (r := .v _) hl0 rfl (by simp) (by simp) rfl (by rw [low]; trivial) ⟨rfl, by rw [ho, if_neg hq]⟩⟩
 · skip
   repeat' first
    | (with_reducible refine gd_aw ?_; first
     | refine aw_seq' ?_
     | refine aw_region' ?_
     | refine aw_block ?_
     | refine aw_if1 rfl ?_
     | refine aw_if0 rfl ?_
     | refine aw_skip ?_
     | refine aw_exit ?_
     | refine aw_ret ?_)
    | (with_reducible refine gd_ao ?_; first
     | refine ao_nil ?_
     | (refine ao1 rfl rfl fun K HK => ?_; simp only [go_sem, ↓reduceIte, Nat.reduceEqDiff, Nat.reduceAdd, Nat.reduceLeDiff, Nat.reduceBEq, Nat.reduceMul, Int.reduceEq, Int.reduceLT, Int.reduceLE, hi, List.length_map, e3, e6, e7, e8]; (first | refine splitB (fun hq => ?_) (fun hq => ?_) | skip) <;> (refine HK _ _ ?_; clear HK K)))
    | (with_reducible refine gd_th ?_; first
     | refine thenS_n ?_
     | refine thenS_x ?_)
    | (with_reducible refine gd_iB ?_; first
     | refine inB_x ?_)
    | (exfalso; omega)
   exact ⟨by simp, endD (r := .v _) hl0 rfl (by simp) (by simp) rfl (by rw [low]; trivial) ⟨rfl, by rw [ho, List.drop_eq_nil_of_le (by omega)]; rfl⟩⟩
theorem orE4_s (a b c d : Int) (o : Int) (ho : orI [a, b, c, d] = o) (h : List Ob) (i : Nat) (hi : h[i]? = some (.buf 34 1 [[.v (.int .i64 a)], [.v (.int .i64 b)], [.v (.int .i64 c)], [.v (.int .i64 d)]])) : Does Tryz.prog G 59 h [.buf i 4] (fun h' r => h' = h.set i (.buf 34 1 [[.v (.int .i64 a)], [.v (.int .i64 b)], [.v (.int .i64 c)], [.v (.int .i64 d)]]) ∧ r = .v (.int .i64 o)) := by
 rw [set_same hi, ← ho]; exact orE4_b G hG [a, b, c, d] (by simp) h i hi
theorem visit_c : ∀ (f : Nat) (l : Lat) (n : Nat) (d : Int), f ≤ 6 → d = 7 - f → Sm l → n ≤ 64 → ∀ (h : List Ob) (i : Nat), i < h.length → Does Tryz.prog G 77 (cM h i n []) [.ptr i 0, .agg (latX l), .v (.int .i64 d)] (fun h' r => h' = cM h i (visitF f l n).2 [] ∧ r = .v (.int .i64 (visitF f l n).1)) := by
 intro f
 induction f with
 | zero =>
   intro l n d hf hd hsm hn h i hi
   obtain rfl : d = 7 := by omega
   refine does_of_aw Tryz.func77 rfl (Nat.le_of_ble_eq_true rfl) hG fun hl0 _ => ?_
   simp only [Tryz.ntmps77]
   repeat' first
    | (with_reducible refine gd_aw ?_; first
     | refine aw_seq' ?_
     | refine aw_region' ?_
     | refine aw_if1 rfl ?_
     | refine aw_ret ?_)
    | (with_reducible refine gd_ao ?_; first
     | refine ao_nil ?_
     | (refine ao1 rfl rfl fun K HK => ?_; (first | refine aOp_pick rfl ?_ | skip); simp only [go_sem, ↓reduceIte, Nat.reduceEqDiff, Nat.reduceAdd, Nat.reduceLeDiff, Nat.reduceBEq, Nat.reduceMul, Int.reduceEq, Int.reduceLT, Int.reduceLE, latX_eq l, cM_app, cM_len, List.nil_append, List.length_nil, Nat.add_zero] <;> (refine HK _ _ ?_; clear HK K))
     | refine ao0 rfl rfl ?_)
    | (with_reducible refine gd_th ?_; first
     | refine thenS_n ?_
     | refine thenS_r ?_)
   exact ⟨.inr rfl, endC (x := .int .i64 6) (m := n) hi hl0 rfl rfl ⟨rfl, rfl⟩⟩
 | succ f ih =>
   intro l n d hf hd hsm hn h i hi
   obtain rfl : d = 6 - f := by omega
   have hsh := shape_d G hG l hsm
   have hli := limits_d G hG l hsm
   have hsp := spelling_d G hG l hsm
   have hra := ranges_d G hG l
   have hcs := chains_d G hG l hsm
   have hpl := hsm.parts
   have h7 := shapeB_lex l
   rw [visit_succ, latE_eq]
   simp only [latX_eq l] at hsh hli hsp hra hcs
   generalize whenI (limitsB l) 6 = v1 at *
   generalize whenI (spellB l) 3 = v2 at *
   generalize whenI (rangesB l) 5 = v3 at *
   generalize whenI (chainsB l) 4 = v4 at *
   generalize shapeB l = sb at *
   by_cases h64 : 64 ≤ n
   · rw [if_pos h64]
     refine does_of_aw Tryz.func77 rfl (Nat.le_of_ble_eq_true rfl) hG fun hl0 _ => ?_
     simp only [Tryz.ntmps77]
     repeat' first
      | (with_reducible refine gd_aw ?_; first
       | refine aw_seq' ?_
       | refine aw_region' ?_
       | refine aw_if1 rfl ?_
       | refine aw_if0 rfl ?_
       | refine aw_skip ?_
       | refine aw_ret ?_)
      | (with_reducible refine gd_ao ?_; first
       | refine ao_nil ?_
       | (refine ao1 rfl rfl fun K HK => ?_; (first | refine aOp_pick rfl ?_ | skip); simp only [go_sem, ↓reduceIte, Nat.reduceEqDiff, Nat.reduceAdd, Nat.reduceLeDiff, Nat.reduceBEq, Nat.reduceMul, Int.reduceEq, Int.reduceLT, Int.reduceLE, latX_eq l, cM_0 hi, cM_app, cM_len, List.nil_append, List.length_nil, Nat.add_zero]; (first | refine splitB (fun hq => ?_) (fun hq => ?_) | skip) <;> (refine HK _ _ ?_; clear HK K))
       | refine ao0 rfl rfl ?_
       | (refine ao1' rfl fun K HK => ?_; simp only [go_sem, ↓reduceIte, Nat.reduceEqDiff, Nat.reduceAdd, Nat.reduceLeDiff, Nat.reduceBEq, Nat.reduceMul, Int.reduceEq, Int.reduceLT, Int.reduceLE, latX_eq l, cM_0 hi, cM_app, cM_len, List.nil_append, List.length_nil, Nat.add_zero]; refine HK _ _ ?_; clear HK K))
      | (with_reducible refine gd_th ?_; first
       | refine thenS_n ?_
       | refine thenS_r ?_)
      | (exfalso; omega)
     all_goals first | (exfalso; omega) | exact ⟨.inr rfl, endC (x := .int .i64 6) (m := n) hi hl0 rfl rfl ⟨rfl, rfl⟩⟩
   rw [if_neg h64]
   have wn : IntKind.i64.wrap ((n : Int) + 1) = ((n + 1 : Nat) : Int) := IntWalk.i64_in _ (by omega)
   refine does_of_aw Tryz.func77 rfl (Nat.le_of_ble_eq_true rfl) hG fun hl0 _ => ?_
   simp only [Tryz.ntmps77]
   cases sb
   all_goals simp only [whenI_f, whenI_t] at hsh
   rotate_left
   · rw [if_pos rfl]
     repeat' first
      | (with_reducible refine gd_aw ?_; first
       | refine aw_seq' ?_
       | refine aw_region' ?_
       | refine aw_if1 rfl ?_
       | refine aw_if0 rfl ?_
       | refine aw_skip ?_
       | refine aw_ret ?_)
      | (with_reducible refine gd_ao ?_; first
       | refine ao_nil ?_
       | (refine ao1 rfl rfl fun K HK => ?_; (first | refine aOp_pick rfl ?_ | skip); simp only [go_sem, ↓reduceIte, Nat.reduceEqDiff, Nat.reduceAdd, Nat.reduceLeDiff, Nat.reduceBEq, Nat.reduceMul, Int.reduceEq, Int.reduceLT, Int.reduceLE, latX_eq l, cM_0 hi, cM_app, cM_len, cM_s hi, cM_b, List.nil_append, List.length_nil, Nat.add_zero, wn]; (first | refine splitB (fun hq => ?_) (fun hq => ?_) | skip) <;> (refine HK _ _ ?_; clear HK K))
       | refine ao0 rfl rfl ?_
       | (refine ao2 rfl rfl rfl ent_103 (hsh _) ?_; rintro _ _ ⟨rfl, rfl⟩)
       | (refine ao1' rfl fun K HK => ?_; simp only [go_sem, ↓reduceIte, Nat.reduceEqDiff, Nat.reduceAdd, Nat.reduceLeDiff, Nat.reduceBEq, Nat.reduceMul, Int.reduceEq, Int.reduceLT, Int.reduceLE, latX_eq l, cM_0 hi, cM_app, cM_len, cM_s hi, cM_b, List.nil_append, List.length_nil, Nat.add_zero, wn]; refine HK _ _ ?_; clear HK K))
      | (with_reducible refine gd_th ?_; first
       | refine thenS_n ?_
       | refine thenS_r ?_)
      | (exfalso; omega)
     all_goals first | (exfalso; omega) | exact ⟨.inr rfl, endC (x := .int .i64 1) (m := n + 1) hi hl0 rfl rfl ⟨rfl, rfl⟩⟩
   rw [if_neg Bool.false_ne_true]
   have hcs := hcs (h7 rfl)
   generalize hor : orI [v1, v2, v3, v4] = o at *
   have hor2 := orE4_s G hG v1 v2 v3 v4 o hor
   repeat' first
    | (with_reducible refine gd_aw ?_; first
     | refine aw_seq' ?_
     | refine aw_region' ?_
     | refine aw_block ?_
     | refine aw_if1 rfl ?_
     | refine aw_if0 rfl ?_
     | refine aw_skip ?_
     | refine aw_ret ?_
     | refine aw_drawE mixd (by kernel_rfl) ?_)
    | (with_reducible refine gd_ao ?_; first
     | refine ao_nil ?_
     | (refine ao1 rfl rfl fun K HK => ?_; (first | refine aOp_pick rfl ?_ | skip); simp only [go_sem, ↓reduceIte, Nat.reduceEqDiff, Nat.reduceAdd, Nat.reduceLeDiff, Nat.reduceBEq, Nat.reduceMul, Int.reduceEq, Int.reduceLT, Int.reduceLE, latX_eq l, cM_0 hi, cM_app, cM_len, cM_s hi, cM_b, cM_b1, cM_b1s, List.nil_append, List.cons_append, List.length_nil, List.length_cons, Nat.add_zero, wn]; (first | refine splitB (fun hq => ?_) (fun hq => ?_) | refine splitN (fun hq => ?_) (fun hq => ?_) | skip) <;> (refine HK _ _ ?_; clear HK K))
     | refine ao0 rfl rfl ?_
     | (refine ao2 rfl rfl rfl ent_103 (hsh _) ?_; rintro _ _ ⟨rfl, rfl⟩)
     | (refine ao1' rfl fun K HK => ?_; simp only [go_sem, ↓reduceIte, Nat.reduceEqDiff, Nat.reduceAdd, Nat.reduceLeDiff, Nat.reduceBEq, Nat.reduceMul, Int.reduceEq, Int.reduceLT, Int.reduceLE, latX_eq l, cM_0 hi, cM_app, cM_len, cM_s hi, cM_b, cM_b1, cM_b1s, List.nil_append, List.cons_append, List.length_nil, List.length_cons, Nat.add_zero, wn]; refine HK _ _ ?_; clear HK K))
    | ((with_reducible refine gd_aS ?_); first
     | (refine aS_load rfl rfl rfl (by (first | (simp only [go_sem, ↓reduceIte, Nat.reduceEqDiff, Nat.reduceAdd, Nat.reduceLeDiff, Nat.reduceBEq, Nat.reduceMul, Int.reduceEq, Int.reduceLT, Int.reduceLE, latX_eq l, cM_0 hi, cM_app, cM_len, cM_s hi, cM_b, cM_b1, cM_b1s, List.nil_append, List.cons_append, List.length_nil, List.length_cons, Nat.add_zero, wn]; rfl) | (simp only [go_sem, ↓reduceIte, Nat.reduceEqDiff, Nat.reduceAdd, Nat.reduceLeDiff, Nat.reduceBEq, Nat.reduceMul, Int.reduceEq, Int.reduceLT, Int.reduceLE, latX_eq l, cM_0 hi, cM_app, cM_len, cM_s hi, cM_b, cM_b1, cM_b1s, List.nil_append, List.cons_append, List.length_nil, List.length_cons, Nat.add_zero, wn]; done))) (by rw [getD_agg' aggT_31, szT_31]; rfl) ?_)
     | (refine aS1 rfl rfl fun K HK => ?_; (first | refine aOp_pick rfl ?_ | skip); simp only [go_sem, ↓reduceIte, Nat.reduceEqDiff, Nat.reduceAdd, Nat.reduceLeDiff, Nat.reduceBEq, Nat.reduceMul, Int.reduceEq, Int.reduceLT, Int.reduceLE, latX_eq l, cM_0 hi, cM_app, cM_len, cM_s hi, cM_b, cM_b1, cM_b1s, List.nil_append, List.cons_append, List.length_nil, List.length_cons, Nat.add_zero, wn]; (first | refine splitB (fun hq => ?_) (fun hq => ?_) | refine splitN (fun hq => ?_) (fun hq => ?_) | skip) <;> (refine HK _ _ rfl ?_; clear HK K))
     | refine aS_lit rfl rfl (by simp only [litD, litRows, go_sem, List.length_cons, List.length_nil, Option.map_some, Option.bind_some, and_self, ↓reduceIte, Nat.reduceEqDiff, Nat.reduceAdd, Nat.reduceLeDiff, Nat.reduceBEq, Nat.reduceMul, Int.reduceEq, Int.reduceLT, Int.reduceLE, latX_eq l, cM_0 hi, cM_app, cM_len, cM_s hi, cM_b, cM_b1, cM_b1s, List.nil_append, List.cons_append, List.length_nil, List.length_cons, Nat.add_zero, wn]; rfl) ?_
     | refine aS_nil (by simp only [List.reverse_cons, List.reverse_nil, List.nil_append, List.cons_append, chkAll, chk1]; repeat' (first | exact trivial | refine And.intro ?_ ?_ | exact .inr compat_pl | exact .inr compat_pr | exact .inr compat_rr | exact .inl (by kernel_rfl))) ?_
     | refine aS_call0 rfl rfl rfl ent_104 (fun h2 => hli _) ?_
     | refine aS_call0 rfl rfl rfl ent_105 (fun h2 => hsp _) ?_
     | refine aS_call0 rfl rfl rfl ent_106 (fun h2 => hra _) ?_
     | refine aS_call0 rfl rfl rfl ent_107 (fun h2 => hcs _) ?_
     | refine aS_call1 rfl rfl rfl ent_59 (by (first | (simp only [go_sem, ↓reduceIte, Nat.reduceEqDiff, Nat.reduceAdd, Nat.reduceLeDiff, Nat.reduceBEq, Nat.reduceMul, Int.reduceEq, Int.reduceLT, Int.reduceLE, latX_eq l, cM_0 hi, cM_app, cM_len, cM_s hi, cM_b, cM_b1, cM_b1s, List.nil_append, List.cons_append, List.length_nil, List.length_cons, Nat.add_zero, wn]; rfl) | (simp only [go_sem, ↓reduceIte, Nat.reduceEqDiff, Nat.reduceAdd, Nat.reduceLeDiff, Nat.reduceBEq, Nat.reduceMul, Int.reduceEq, Int.reduceLT, Int.reduceLE, latX_eq l, cM_0 hi, cM_app, cM_len, cM_s hi, cM_b, cM_b1, cM_b1s, List.nil_append, List.cons_append, List.length_nil, List.length_cons, Nat.add_zero, wn]; done))) (fun h2 k2 => hor2 h2 _ k2) ?_)
    | (with_reducible refine gd_th ?_; first
     | refine thenS_n ?_
     | refine thenS_r ?_)
    | (exfalso; omega)
   · obtain rfl : o = 0 := by assumption
     rw [if_neg (fun q => q rfl)]
     refine aw_for (fun m e h' => ∃ (k c : Nat) (T : List Ob), k ≤ l.parts.length ∧ m = l.parts.length - k ∧ c ≤ 64 ∧ goL (visitF f) l.parts (n + 1) = goL (visitF f) (l.parts.drop k) c ∧ h' = cM h i c (.cells (latX l) :: T) ∧ e 0 = .ptr i 0 ∧ e 2 = .v (.int .i64 (6 - f)) ∧ e 47 = .sl 6 (l.parts.map latX) ∧ e 48 = .v (.int .i64 l.parts.length) ∧ e 49 = .v (.int .i64 k)) l.parts.length ⟨0, n + 1, _, Nat.zero_le _, rfl, by omega, rfl, (by rw [latX_eq l]), rfl, rfl, rfl, rfl, rfl⟩ ?_
     clear hsh hli hsp hra hcs hor2
     rintro m e h' ⟨k, c, T, hk, rfl, hc, ho, rfl, e0, e2, e47, e48, e49⟩
     by_cases hlt : k < l.parts.length
     rotate_left
     · have e1 : goL (visitF f) l.parts (n + 1) = (0, c) := by rw [ho, List.drop_eq_nil_of_le (by omega)]; rfl
       rw [e1]
       repeat' first
        | (with_reducible refine gd_aw ?_; first
         | refine aw_seq' ?_
         | refine aw_region' ?_
         | refine aw_block ?_
         | refine aw_if1 rfl ?_
         | refine aw_if0 rfl ?_
         | refine aw_skip ?_
         | refine aw_exit ?_
         | refine aw_ret ?_)
        | (with_reducible refine gd_ao ?_; first
         | refine ao_nil ?_
         | (refine ao1 rfl rfl fun K HK => ?_; simp only [go_sem, ↓reduceIte, Nat.reduceEqDiff, Nat.reduceAdd, Nat.reduceLeDiff, Nat.reduceBEq, Nat.reduceMul, Int.reduceEq, Int.reduceLT, Int.reduceLE, e0, e2, e47, e48, e49, List.length_map]; (first | refine splitB (fun hq => ?_) (fun hq => ?_) | (refine ⟨by omega, by omega, ?_⟩; intro row hrow; obtain ⟨x, hx, rfl⟩ := row_inv hrow; clear hrow) | skip) <;> (refine HK _ _ ?_; clear HK K)))
        | (with_reducible refine gd_th ?_; first
         | refine thenS_n ?_
         | refine thenS_x ?_)
        | (with_reducible refine gd_iB ?_; first
         | refine inB_x ?_)
        | (exfalso; omega)
       exact ⟨.inr rfl, endC (x := .int .i64 0) (m := c) hi hl0 rfl rfl ⟨rfl, rfl⟩⟩
     have hx : l.parts[k]? = some l.parts[k] := List.getElem?_eq_getElem hlt
     have wk : IntKind.i64.wrap ((k : Int) + 1) = (k : Int) + 1 := IntWalk.i64_in _ (by omega)
     have wd : IntKind.i64.wrap (6 - (f : Int) + 1) = 6 - (f : Int) + 1 := IntWalk.i64_in _ (by omega)
     rw [goL_step _ _ k _ hlt] at ho
     have hr := fun TT : List Ob => ih l.parts[k] c (6 - (f : Int) + 1) (by omega) (by omega) (hsm.part _ (List.getElem_mem hlt)) hc (h ++ TT) i (by rw [List.length_append]; omega)
     simp only [cM_ext hi] at hr
     have hle := visit_le f l.parts[k] c hc
     generalize l.parts[k] = x at hx ho hr hle
     generalize visitF f x c = y at *
     obtain ⟨y1, y2⟩ := y
     simp only at ho hr hle
     simp only [latX_eq x] at hr
     by_cases hy : y1 = 0
     · rw [if_neg (fun q => q hy)] at ho
       repeat' first
        | (with_reducible refine gd_aw ?_; first
         | refine aw_seq' ?_
         | refine aw_region' ?_
         | refine aw_block ?_
         | refine aw_if1 rfl ?_
         | refine aw_if0 rfl ?_
         | refine aw_skip ?_
         | refine aw_exit ?_
         | refine aw_ret ?_)
        | (with_reducible refine gd_ao ?_; first
         | refine ao_nil ?_
         | (refine ao1 rfl rfl fun K HK => ?_; simp only [go_sem, ↓reduceIte, Nat.reduceEqDiff, Nat.reduceAdd, Nat.reduceLeDiff, Nat.reduceBEq, Nat.reduceMul, Int.reduceEq, Int.reduceLT, Int.reduceLE, latX_eq x, latX_eq l, e0, e2, e47, e48, e49, List.length_map, Int.toNat_natCast, wk, wd, hy, cM_app, cM_len, cM_l, cM_sl, List.cons_append, List.length_cons]; (first | refine splitB (fun hq => ?_) (fun hq => ?_) | (refine ⟨by omega, by omega, ?_⟩; refine row_at (by assumption) ?_) | skip) <;> (refine HK _ _ ?_; clear HK K))
         | (refine ao2 rfl rfl rfl ent_77 (hr _) ?_; rintro _ _ ⟨rfl, rfl⟩)
         | (refine ao1' rfl fun K HK => ?_; simp only [go_sem, ↓reduceIte, Nat.reduceEqDiff, Nat.reduceAdd, Nat.reduceLeDiff, Nat.reduceBEq, Nat.reduceMul, Int.reduceEq, Int.reduceLT, Int.reduceLE, latX_eq x, latX_eq l, e0, e2, e47, e48, e49, List.length_map, Int.toNat_natCast, wk, wd, hy, cM_app, cM_len, cM_l, cM_sl, List.cons_append, List.length_cons]; refine HK _ _ ?_; clear HK K))
        | (with_reducible refine gd_th ?_; first
         | refine thenS_n ?_
         | refine thenS_x ?_)
        | (with_reducible refine gd_iB ?_; first
         | refine inB_n ?_
         | refine inB_x ?_)
        | (exfalso; omega)
       exact ⟨rfl, l.parts.length - (k + 1), by omega, k + 1, y2, _, hlt, rfl, hle, ho, (by rw [latX_eq l]), e0, e2, e47, e48, rfl⟩
     · rw [if_pos hy] at ho
       rw [ho]
       repeat' first
        | (with_reducible refine gd_aw ?_; first
         | refine aw_seq' ?_
         | refine aw_region' ?_
         | refine aw_block ?_
         | refine aw_if1 rfl ?_
         | refine aw_if0 rfl ?_
         | refine aw_skip ?_
         | refine aw_exit ?_
         | refine aw_ret ?_)
        | (with_reducible refine gd_ao ?_; first
         | refine ao_nil ?_
         | (refine ao1 rfl rfl fun K HK => ?_; simp only [go_sem, ↓reduceIte, Nat.reduceEqDiff, Nat.reduceAdd, Nat.reduceLeDiff, Nat.reduceBEq, Nat.reduceMul, Int.reduceEq, Int.reduceLT, Int.reduceLE, latX_eq x, latX_eq l, e0, e2, e47, e48, e49, List.length_map, Int.toNat_natCast, wk, wd, hy, cM_app, cM_len, cM_l, cM_sl, List.cons_append, List.length_cons]; (first | refine splitB (fun hq => ?_) (fun hq => ?_) | (refine ⟨by omega, by omega, ?_⟩; refine row_at (by assumption) ?_) | skip) <;> (refine HK _ _ ?_; clear HK K))
         | (refine ao2 rfl rfl rfl ent_77 (hr _) ?_; rintro _ _ ⟨rfl, rfl⟩)
         | (refine ao1' rfl fun K HK => ?_; simp only [go_sem, ↓reduceIte, Nat.reduceEqDiff, Nat.reduceAdd, Nat.reduceLeDiff, Nat.reduceBEq, Nat.reduceMul, Int.reduceEq, Int.reduceLT, Int.reduceLE, latX_eq x, latX_eq l, e0, e2, e47, e48, e49, List.length_map, Int.toNat_natCast, wk, wd, hy, cM_app, cM_len, cM_l, cM_sl, List.cons_append, List.length_cons]; refine HK _ _ ?_; clear HK K))
        | (with_reducible refine gd_th ?_; first
         | refine thenS_n ?_
         | refine thenS_x ?_
         | refine thenS_r ?_)
        | (with_reducible refine gd_iB ?_; first
         | refine inB_r ?_
         | refine inB_x ?_)
        | (exfalso; omega)
       exact ⟨.inr rfl, endC (x := .int .i64 y1) (m := y2) hi hl0 rfl rfl ⟨rfl, rfl⟩⟩
   · rw [if_pos (by assumption)]
     exact ⟨.inr rfl, endC (x := .int .i64 o) (m := n + 1) hi hl0 rfl rfl ⟨rfl, rfl⟩⟩
theorem check_d (l : Lat) (hsm : Sm l) (h : List Ob) : Does Tryz.prog G 39 h [.agg (latX l)] (fun h' r => h' = h ∧ r = .v (.int .i64 (chkE l))) := by
 refine does_any G hG (low_latL _ l) (by rw [low]; trivial) ?_ h
 clear h
 have hr : Does Tryz.prog G 77 [.cells (latX l), .cells [.v (.int .i64 0)]] [.ptr 1 0, .agg (latX l), .v (.int .i64 1)] (fun h' r => h' = [.cells (latX l), .cells [.v (.int .i64 ((visitF 6 l 0).2 : Nat))]] ∧ r = .v (.int .i64 (chkE l))) := visit_c G hG 6 l 0 1 (by omega) (by omega) hsm (by omega) [.cells (latX l), .dead] 1 (by simp)
 simp only [latX_eq l] at hr
 generalize (visitF 6 l 0).2 = m at *
 generalize chkE l = e at *
 refine does_of_aw Tryz.func39 rfl (Nat.le_of_ble_eq_true rfl) hG fun hl0 _ => ?_
 simp only [Tryz.ntmps39]
 repeat' first
  | (with_reducible refine gd_aw ?_; first
   | refine aw_seq' ?_
   | refine aw_region' ?_
   | refine aw_ret ?_)
  | (with_reducible refine gd_ao ?_; first
   | refine ao_nil ?_
   | (refine ao1 rfl rfl fun K HK => ?_; simp only [go_sem, ↓reduceIte, Nat.reduceEqDiff, Nat.reduceAdd, Nat.reduceLeDiff, Nat.reduceBEq, Nat.reduceMul, Int.reduceEq, Int.reduceLT, Int.reduceLE, latX_eq l] <;> (refine HK _ _ ?_; clear HK K))
   | (refine ao2 rfl rfl rfl ent_77 (hr) ?_; rintro _ _ ⟨rfl, rfl⟩)
   | (refine ao1' rfl fun K HK => ?_; simp only [go_sem, ↓reduceIte, Nat.reduceEqDiff, Nat.reduceAdd, Nat.reduceLeDiff, Nat.reduceBEq, Nat.reduceMul, Int.reduceEq, Int.reduceLT, Int.reduceLE, latX_eq l]; refine HK _ _ ?_; clear HK K))
  | (with_reducible refine gd_th ?_; first
   | refine thenS_n ?_)
 exact ⟨.inr rfl, endD (r := .v _) hl0 rfl (by simp) (by simp) rfl (by rw [low]; trivial) ⟨rfl, rfl⟩⟩
end
section
set_option maxRecDepth 100000
set_option maxHeartbeats 8000000
attribute [local irreducible] on aOp
attribute [local go_sem] decide_true decide_false Bool.not_true Bool.not_false
attribute [local simp] byD_len
structure GenL where
 mode : Int
 replicas : Int
 founders : List Int
 clients : Int
 admins : List Int
 objects : List (ByteArray × Lat)
def gobX (o : ByteArray × Lat) : List D := .v (.string o.1) :: latX o.2
theorem gobX_eq (o : ByteArray × Lat) : gobX o = [.v (.string o.1), .v (.int .i64 o.2.kind), .v (.int .i64 o.2.lo), .v (.int .i64 o.2.hi), .sl 1 (o.2.names.map strX), .sl 6 (o.2.parts.map latX), .sl 2 (o.2.rules.map ruleX)] := by rw [gobX, latX_eq]
def gnX (g : GenL) : List D := [.v (.int .i64 g.mode), .v (.int .i64 g.replicas), .sl 1 (g.founders.map intX), .v (.int .i64 g.clients), .sl 1 (g.admins.map intX), .sl 7 (g.objects.map gobX)]
theorem gnX_eq (g : GenL) : gnX g = [.v (.int .i64 g.mode), .v (.int .i64 g.replicas), .sl 1 (g.founders.map intX), .v (.int .i64 g.clients), .sl 1 (g.admins.map intX), .sl 7 (g.objects.map gobX)] := rfl
theorem low_gob (m : Nat) (o : ByteArray × Lat) : lowL m (gobX o) := by rw [gobX, lowL]; exact ⟨by rw [low]; trivial, low_lat m o.2⟩
theorem low_gn (m : Nat) (g : GenL) : lowL m (gnX g) := by
 have h1 : ∀ l : List Int, low m (.sl 1 (l.map intX)) := fun l => low_map m l fun _ _ => by simp [intX, lowL, low]
 have h2 : low m (.sl 7 (g.objects.map gobX)) := low_map m _ fun o _ => low_gob m o
 rw [gnX]; simp only [lowL]
 exact ⟨by rw [low]; trivial, by rw [low]; trivial, h1 _, by rw [low]; trivial, h1 _, h2, trivial⟩
structure GSm (g : GenL) : Prop where
 fo : g.founders.length ≤ 9223372036854775807
 ad : g.admins.length ≤ 9223372036854775807
 ob : g.objects.length ≤ 9223372036854775807
 na : ∀ o ∈ g.objects, o.1.size ≤ 9223372036854775807
 la : ∀ o ∈ g.objects, Sm o.2
def risP (below : Int) : Int → List Int → Bool
 | _, [] => true
 | p, x :: t => decide (0 ≤ x ∧ x < below ∧ p < x) && risP below x t
def latsE : List (ByteArray × Lat) → Int
 | [] => 0
 | o :: t => if chkE o.2 ≠ 0 then chkE o.2 else latsE t
def genBad (g : GenL) : Prop := (g.mode ≠ 1 ∧ g.mode ≠ 2) ∨ g.replicas < 1 ∨ 12 < g.replicas ∨ g.clients < 1 ∨ 6 < g.clients ∨ g.founders.length = 0 ∨ risP g.replicas (-1) g.founders = false ∨ risP g.clients (-1) g.admins = false
instance (g : GenL) : Decidable (genBad g) := inferInstanceAs (Decidable (_ ∨ _))
def genE (g : GenL) : Int := if genBad g then 1 else if 64 < g.objects.length then 6 else if risingB (g.objects.map (·.1)) = false then 3 else latsE g.objects
variable (G : Nat → D) (hG : ∀ g, low 0 (G g))
include hG
theorem rising_d (l : List Int) (below : Int) (hl : l.length ≤ 9223372036854775807) (h : List Ob) : Does Tryz.prog G 37 h [.sl 1 (l.map intX), .v (.int .i64 below)] (fun h' r => h' = h ∧ r = .v (.bool (risP below (-1) l))) := by
 refine does_of_aw Tryz.func37 rfl (Nat.le_of_ble_eq_true rfl) hG fun hl0 _ => ?_
 simp only [Tryz.ntmps37]
 repeat' first
  | (with_reducible refine gd_aw ?_; first
   | refine aw_seq' ?_
   | refine aw_region' ?_
   | refine aw_block ?_)
  | (with_reducible refine gd_ao ?_; first
   | refine ao_nil ?_
   | (refine ao1 rfl rfl fun K HK => ?_; simp only [go_sem, ↓reduceIte, Nat.reduceEqDiff, Nat.reduceAdd, Nat.reduceLeDiff, Nat.reduceBEq, Nat.reduceMul, Int.reduceEq, Int.reduceLT, Int.reduceLE, List.length_map] <;> (refine HK _ _ ?_; clear HK K)))
  | (with_reducible refine gd_th ?_; first
   | refine thenS_n ?_)
 refine aw_for (fun m e h' => ∃ (k : Nat) (p : Int), k ≤ l.length ∧ m = l.length - k ∧ risP below (-1) l = risP below p (l.drop k) ∧ (k = 0 ∧ p = -1 ∨ ∃ j, k = j + 1 ∧ l[j]? = some p) ∧ h' = h ∧ e 0 = .sl 1 (l.map intX) ∧ e 1 = .v (.int .i64 below) ∧ e 7 = .sl 1 (l.map intX) ∧ e 8 = .v (.int .i64 l.length) ∧ e 9 = .v (.int .i64 k)) l.length ⟨0, -1, Nat.zero_le _, rfl, rfl, .inl ⟨rfl, rfl⟩, rfl, rfl, rfl, rfl, rfl, rfl⟩ ?_
 rintro m e h' ⟨k, p, hk, rfl, ho, hp, rfl, e0, e1, e7, e8, e9⟩
 by_cases hlt : k < l.length
 · have hx : l[k]? = some l[k] := List.getElem?_eq_getElem hlt
   have hd : l.drop k = l[k] :: l.drop (k + 1) := List.drop_eq_getElem_cons hlt
   generalize l[k] = x at hx hd
   have wk : IntKind.i64.wrap ((k : Int) + 1) = ((k + 1 : Nat) : Int) := IntWalk.i64_in _ (by omega)
   rw [hd, risP] at ho
   rcases hp with ⟨rfl, rfl⟩ | ⟨j, rfl, hy⟩
   · skip
     repeat' first
      | (with_reducible refine gd_aw ?_; first
       | refine aw_seq' ?_
       | refine aw_region' ?_
       | refine aw_block ?_
       | refine aw_if1 rfl ?_
       | refine aw_if0 rfl ?_
       | refine aw_skip ?_
       | refine aw_exit ?_
       | refine aw_ret ?_)
      | (with_reducible refine gd_ao ?_; first
       | refine ao_nil ?_
       | (refine ao1 rfl rfl fun K HK => ?_; (first | refine aOp_pick rfl ?_ | skip); simp only [go_sem, ↓reduceIte, Nat.reduceEqDiff, Nat.reduceAdd, Nat.reduceLeDiff, Nat.reduceBEq, Nat.reduceMul, Int.reduceEq, Int.reduceLT, Int.reduceLE, e0, e1, e7, e8, e9, List.length_map, intX_eq, Int.toNat_natCast, wk, Bool.false_eq_true]; (first | refine splitB (fun hq => ?_) (fun hq => ?_) | (refine ⟨by omega, by omega, ?_⟩; refine row_at (by assumption) ?_) | (refine ⟨by omega, by omega, ?_⟩; intro row hrow; obtain ⟨x, hx, rfl⟩ := row_inv hrow; clear hrow) | skip) <;> (refine HK _ _ ?_; clear HK K))
       | refine ao0 rfl rfl ?_)
      | (with_reducible refine gd_th ?_; first
       | refine thenS_n ?_
       | refine thenS_x ?_
       | refine thenS_r ?_)
      | (with_reducible refine gd_iB ?_; first
       | refine inB_n ?_
       | refine inB_r ?_
       | refine inB_x ?_)
      | (exfalso; omega)
     all_goals first
     | (exfalso; omega)
     | exact ⟨.inr rfl, endD (r := .v (.bool false)) hl0 rfl (by simp) (by simp) rfl (by rw [low]; trivial) ⟨rfl, by rw [ho, decide_eq_false (by omega)]; rfl⟩⟩
     | exact ⟨rfl, l.length - 1, by omega, 1, x, hlt, rfl, by rw [ho, decide_eq_true (by omega)]; rfl, .inr ⟨0, rfl, hx⟩, rfl, e0, e1, e7, e8, rfl⟩
   · have wm : IntKind.i64.wrap (((j + 1 : Nat) : Int) - 1) = (j : Int) := by rw [show ((j + 1 : Nat) : Int) - 1 = (j : Int) by omega]; exact IntWalk.i64_in _ (by omega)
     have gp : decide ((0 : Int) < ((j + 1 : Nat) : Int)) = true := decide_eq_true (by omega)
     repeat' first
      | (with_reducible refine gd_aw ?_; first
       | refine aw_seq' ?_
       | refine aw_region' ?_
       | refine aw_block ?_
       | refine aw_if1 rfl ?_
       | refine aw_if0 rfl ?_
       | refine aw_skip ?_
       | refine aw_exit ?_
       | refine aw_ret ?_)
      | (with_reducible refine gd_ao ?_; first
       | refine ao_nil ?_
       | (refine ao1 rfl rfl fun K HK => ?_; (first | refine aOp_pick rfl ?_ | skip); simp only [go_sem, ↓reduceIte, Nat.reduceEqDiff, Nat.reduceAdd, Nat.reduceLeDiff, Nat.reduceBEq, Nat.reduceMul, Int.reduceEq, Int.reduceLT, Int.reduceLE, e0, e1, e7, e8, e9, List.length_map, intX_eq, Int.toNat_natCast, wk, wm, gp, Bool.false_eq_true]; (first | refine splitB (fun hq => ?_) (fun hq => ?_) | (refine ⟨by omega, by omega, ?_⟩; refine row_at (by assumption) ?_) | skip) <;> (refine HK _ _ ?_; clear HK K))
       | refine ao0 rfl rfl ?_)
      | (with_reducible refine gd_th ?_; first
       | refine thenS_n ?_
       | refine thenS_x ?_
       | refine thenS_r ?_)
      | (with_reducible refine gd_iB ?_; first
       | refine inB_n ?_
       | refine inB_r ?_
       | refine inB_x ?_)
      | (exfalso; omega)
     all_goals first
     | (exfalso; omega)
     | exact ⟨.inr rfl, endD (r := .v (.bool false)) hl0 rfl (by simp) (by simp) rfl (by rw [low]; trivial) ⟨rfl, by rw [ho, decide_eq_false (by omega)]; rfl⟩⟩
     | exact ⟨rfl, l.length - (j + 2), by omega, j + 2, x, hlt, rfl, by rw [ho, decide_eq_true (by omega)]; rfl, .inr ⟨j + 1, rfl, hx⟩, rfl, e0, e1, e7, e8, rfl⟩
 · skip
   repeat' first
    | (with_reducible refine gd_aw ?_; first
     | refine aw_seq' ?_
     | refine aw_region' ?_
     | refine aw_block ?_
     | refine aw_if1 rfl ?_
     | refine aw_if0 rfl ?_
     | refine aw_skip ?_
     | refine aw_exit ?_
     | refine aw_ret ?_)
    | (with_reducible refine gd_ao ?_; first
     | refine ao_nil ?_
     | (refine ao1 rfl rfl fun K HK => ?_; simp only [go_sem, ↓reduceIte, Nat.reduceEqDiff, Nat.reduceAdd, Nat.reduceLeDiff, Nat.reduceBEq, Nat.reduceMul, Int.reduceEq, Int.reduceLT, Int.reduceLE, e0, e1, e7, e8, e9]; (first | refine splitB (fun hq => ?_) (fun hq => ?_) | (refine ⟨by omega, by omega, ?_⟩; intro row hrow; obtain ⟨x, hx, rfl⟩ := row_inv hrow; clear hrow) | skip) <;> (refine HK _ _ ?_; clear HK K)))
    | (with_reducible refine gd_th ?_; first
     | refine thenS_n ?_
     | refine thenS_x ?_)
    | (with_reducible refine gd_iB ?_; first
     | refine inB_x ?_)
    | (exfalso; omega)
   exact ⟨by simp, endD (r := .v _) hl0 rfl (by simp) (by simp) rfl (by rw [low]; trivial) ⟨rfl, by rw [ho, List.drop_eq_nil_of_le (by omega)]; rfl⟩⟩
theorem rrising_d (l : List Int) (below : Int) (hl : l.length ≤ 9223372036854775807) (h : List Ob) : Does Tryz.prog G 40 h [.sl 1 (l.map intX), .v (.int .i64 below)] (fun h' r => h' = h ∧ r = .v (.bool (risP below (-1) l))) := by
 refine does_of_aw Tryz.func40 rfl (Nat.le_of_ble_eq_true rfl) hG fun hl0 _ => ?_
 simp only [Tryz.ntmps40]
 repeat' first
  | (with_reducible refine gd_aw ?_; first
   | refine aw_seq' ?_
   | refine aw_region' ?_
   | refine aw_block ?_)
  | (with_reducible refine gd_ao ?_; first
   | refine ao_nil ?_
   | (refine ao1 rfl rfl fun K HK => ?_; simp only [go_sem, ↓reduceIte, Nat.reduceEqDiff, Nat.reduceAdd, Nat.reduceLeDiff, Nat.reduceBEq, Nat.reduceMul, Int.reduceEq, Int.reduceLT, Int.reduceLE, List.length_map] <;> (refine HK _ _ ?_; clear HK K)))
  | (with_reducible refine gd_th ?_; first
   | refine thenS_n ?_)
 refine aw_for (fun m e h' => ∃ (k : Nat) (p : Int), k ≤ l.length ∧ m = l.length - k ∧ risP below (-1) l = risP below p (l.drop k) ∧ (k = 0 ∧ p = -1 ∨ ∃ j, k = j + 1 ∧ l[j]? = some p) ∧ h' = h ∧ e 0 = .sl 1 (l.map intX) ∧ e 1 = .v (.int .i64 below) ∧ e 5 = .v (.int .i64 k)) l.length ⟨0, -1, Nat.zero_le _, rfl, rfl, .inl ⟨rfl, rfl⟩, rfl, rfl, rfl, rfl⟩ ?_
 rintro m e h' ⟨k, p, hk, rfl, ho, hp, rfl, e0, e1, e5⟩
 by_cases hlt : k < l.length
 · have hx : l[k]? = some l[k] := List.getElem?_eq_getElem hlt
   have hd : l.drop k = l[k] :: l.drop (k + 1) := List.drop_eq_getElem_cons hlt
   generalize l[k] = x at hx hd
   have wk : IntKind.i64.wrap ((k : Int) + 1) = ((k + 1 : Nat) : Int) := IntWalk.i64_in _ (by omega)
   rw [hd, risP] at ho
   rcases hp with ⟨rfl, rfl⟩ | ⟨j, rfl, hy⟩
   · skip
     repeat' first
      | (with_reducible refine gd_aw ?_; first
       | refine aw_seq' ?_
       | refine aw_region' ?_
       | refine aw_block ?_
       | refine aw_if1 rfl ?_
       | refine aw_if0 rfl ?_
       | refine aw_skip ?_
       | refine aw_exit ?_
       | refine aw_ret ?_
       | refine aw_draw mixd (by kernel_rfl) ?_)
      | (with_reducible refine gd_ao ?_; first
       | refine ao_nil ?_
       | (refine ao1 rfl rfl fun K HK => ?_; (first | refine aOp_pick rfl ?_ | skip); simp only [go_sem, ↓reduceIte, Nat.reduceEqDiff, Nat.reduceAdd, Nat.reduceLeDiff, Nat.reduceBEq, Nat.reduceMul, Int.reduceEq, Int.reduceLT, Int.reduceLE, e0, e1, e5, List.length_map, intX_eq, Int.toNat_natCast, wk, Bool.false_eq_true]; (first | refine splitB (fun hq => ?_) (fun hq => ?_) | (refine ⟨by omega, by omega, ?_⟩; refine row_at (by assumption) ?_) | (refine ⟨by omega, by omega, ?_⟩; intro row hrow; obtain ⟨x, hx, rfl⟩ := row_inv hrow; clear hrow) | skip) <;> (refine HK _ _ ?_; clear HK K)))
      | (with_reducible refine gd_aq ?_; first
       | (refine aq1 rfl rfl fun K HK => ?_; (first | refine aOp_pick rfl ?_ | skip); simp only [go_sem, ↓reduceIte, Nat.reduceEqDiff, Nat.reduceAdd, Nat.reduceLeDiff, Nat.reduceBEq, Nat.reduceMul, Int.reduceEq, Int.reduceLT, Int.reduceLE, e0, e1, e5, List.length_map, intX_eq, Int.toNat_natCast, wk, Bool.false_eq_true]; (first | refine splitB (fun hq => ?_) (fun hq => ?_) | (refine ⟨by omega, by omega, ?_⟩; refine row_at (by assumption) ?_) | (refine ⟨by omega, by omega, ?_⟩; intro row hrow; obtain ⟨x, hx, rfl⟩ := row_inv hrow; clear hrow) | skip) <;> (refine HK _ _ rfl ?_; clear HK K))
       | refine aq0 rfl rfl ?_
       | refine aq_nil ?_)
      | (with_reducible refine gd_th ?_; first
       | refine thenS_n ?_
       | refine thenS_x ?_
       | refine thenS_r ?_)
      | (with_reducible refine gd_iB ?_; first
       | refine inB_n ?_
       | refine inB_r ?_
       | refine inB_x ?_)
      | (exfalso; omega)
     all_goals first
     | (exfalso; omega)
     | exact ⟨.inr rfl, endD (r := .v (.bool false)) hl0 rfl (by simp) (by simp) rfl (by rw [low]; trivial) ⟨rfl, by rw [ho, decide_eq_false (by omega)]; rfl⟩⟩
     | exact ⟨rfl, l.length - 1, by omega, 1, x, hlt, rfl, by rw [ho, decide_eq_true (by omega)]; rfl, .inr ⟨0, rfl, hx⟩, rfl, e0, e1, rfl⟩
   · have wm : IntKind.i64.wrap (((j + 1 : Nat) : Int) - 1) = (j : Int) := by rw [show ((j + 1 : Nat) : Int) - 1 = (j : Int) by omega]; exact IntWalk.i64_in _ (by omega)
     have gp : decide ((0 : Int) < ((j + 1 : Nat) : Int)) = true := decide_eq_true (by omega)
     repeat' first
      | (with_reducible refine gd_aw ?_; first
       | refine aw_seq' ?_
       | refine aw_region' ?_
       | refine aw_block ?_
       | refine aw_if1 rfl ?_
       | refine aw_if0 rfl ?_
       | refine aw_skip ?_
       | refine aw_exit ?_
       | refine aw_ret ?_
       | refine aw_draw mixd (by kernel_rfl) ?_)
      | (with_reducible refine gd_ao ?_; first
       | refine ao_nil ?_
       | (refine ao1 rfl rfl fun K HK => ?_; (first | refine aOp_pick rfl ?_ | skip); simp only [go_sem, ↓reduceIte, Nat.reduceEqDiff, Nat.reduceAdd, Nat.reduceLeDiff, Nat.reduceBEq, Nat.reduceMul, Int.reduceEq, Int.reduceLT, Int.reduceLE, e0, e1, e5, List.length_map, intX_eq, Int.toNat_natCast, wk, wm, gp, Bool.false_eq_true]; (first | refine splitB (fun hq => ?_) (fun hq => ?_) | (refine ⟨by omega, by omega, ?_⟩; refine row_at (by assumption) ?_) | skip) <;> (refine HK _ _ ?_; clear HK K)))
      | (with_reducible refine gd_aq ?_; first
       | (refine aq1 rfl rfl fun K HK => ?_; (first | refine aOp_pick rfl ?_ | skip); simp only [go_sem, ↓reduceIte, Nat.reduceEqDiff, Nat.reduceAdd, Nat.reduceLeDiff, Nat.reduceBEq, Nat.reduceMul, Int.reduceEq, Int.reduceLT, Int.reduceLE, e0, e1, e5, List.length_map, intX_eq, Int.toNat_natCast, wk, wm, gp, Bool.false_eq_true]; (first | refine splitB (fun hq => ?_) (fun hq => ?_) | (refine ⟨by omega, by omega, ?_⟩; refine row_at (by assumption) ?_) | skip) <;> (refine HK _ _ rfl ?_; clear HK K))
       | refine aq0 rfl rfl ?_
       | refine aq_nil ?_)
      | (with_reducible refine gd_th ?_; first
       | refine thenS_n ?_
       | refine thenS_x ?_
       | refine thenS_r ?_)
      | (with_reducible refine gd_iB ?_; first
       | refine inB_n ?_
       | refine inB_r ?_
       | refine inB_x ?_)
      | (exfalso; omega)
     all_goals first
     | (exfalso; omega)
     | exact ⟨.inr rfl, endD (r := .v (.bool false)) hl0 rfl (by simp) (by simp) rfl (by rw [low]; trivial) ⟨rfl, by rw [ho, decide_eq_false (by omega)]; rfl⟩⟩
     | exact ⟨rfl, l.length - (j + 2), by omega, j + 2, x, hlt, rfl, by rw [ho, decide_eq_true (by omega)]; rfl, .inr ⟨j + 1, rfl, hx⟩, rfl, e0, e1, rfl⟩
 · skip
   repeat' first
    | (with_reducible refine gd_aw ?_; first
     | refine aw_seq' ?_
     | refine aw_region' ?_
     | refine aw_block ?_
     | refine aw_if1 rfl ?_
     | refine aw_if0 rfl ?_
     | refine aw_skip ?_
     | refine aw_exit ?_
     | refine aw_ret ?_
     | refine aw_draw mixd (by kernel_rfl) ?_)
    | (with_reducible refine gd_ao ?_; first
     | refine ao_nil ?_
     | (refine ao1 rfl rfl fun K HK => ?_; simp only [go_sem, ↓reduceIte, Nat.reduceEqDiff, Nat.reduceAdd, Nat.reduceLeDiff, Nat.reduceBEq, Nat.reduceMul, Int.reduceEq, Int.reduceLT, Int.reduceLE, e0, e1, e5, List.length_map]; (first | refine splitB (fun hq => ?_) (fun hq => ?_) | (refine ⟨by omega, by omega, ?_⟩; intro row hrow; obtain ⟨x, hx, rfl⟩ := row_inv hrow; clear hrow) | skip) <;> (refine HK _ _ ?_; clear HK K)))
    | (with_reducible refine gd_aq ?_; first
     | (refine aq1 rfl rfl fun K HK => ?_; simp only [go_sem, ↓reduceIte, Nat.reduceEqDiff, Nat.reduceAdd, Nat.reduceLeDiff, Nat.reduceBEq, Nat.reduceMul, Int.reduceEq, Int.reduceLT, Int.reduceLE, e0, e1, e5, List.length_map]; (first | refine splitB (fun hq => ?_) (fun hq => ?_) | (refine ⟨by omega, by omega, ?_⟩; intro row hrow; obtain ⟨x, hx, rfl⟩ := row_inv hrow; clear hrow) | skip) <;> (refine HK _ _ rfl ?_; clear HK K)))
    | (with_reducible refine gd_th ?_; first
     | refine thenS_n ?_
     | refine thenS_x ?_)
    | (with_reducible refine gd_iB ?_; first
     | refine inB_x ?_)
    | (exfalso; omega)
   exact ⟨by simp, endD (r := .v _) hl0 rfl (by simp) (by simp) rfl (by rw [low]; trivial) ⟨rfl, by rw [ho, List.drop_eq_nil_of_le (by omega)]; rfl⟩⟩
end
section
set_option maxRecDepth 100000
set_option maxHeartbeats 8000000
attribute [local irreducible] on aOp
attribute [local go_sem] decide_true decide_false Bool.not_true Bool.not_false
attribute [local simp] byD_len
theorem latsE_go {l : List (ByteArray × Lat)} {k : Nat} {o : ByteArray × Lat} (h : l.drop k = o :: l.drop (k + 1)) : latsE (l.drop k) = if chkE o.2 ≠ 0 then chkE o.2 else latsE (l.drop (k + 1)) := by rw [h, latsE]
theorem names_at {l : List (ByteArray × Lat)} {k : Nat} {o : ByteArray × Lat} (h : l[k]? = some o) : (l.map (·.1))[k]? = some o.1 := by rw [List.getElem?_map, h]; rfl
theorem ris_0 {l : List ByteArray} {x : ByteArray} (h : l[0]? = some x) : risingFrom l 0 = (nameB x && risingFrom l 1) := by
 obtain ⟨hl, rfl⟩ := List.getElem?_eq_some_iff.1 h
 exact rising_step0 l hl
theorem ris_s {l : List ByteArray} {j : Nat} {x y : ByteArray} (hy : l[j]? = some y) (hx : l[j + 1]? = some x) : risingFrom l (j + 1) = (nameB x && (strLt y x && risingFrom l (j + 2))) := by
 obtain ⟨hl, rfl⟩ := List.getElem?_eq_some_iff.1 hx
 obtain ⟨hm, rfl⟩ := List.getElem?_eq_some_iff.1 hy
 exact rising_step l j hl
variable (G : Nat → D) (hG : ∀ g, low 0 (G g))
include hG
theorem genesis_d (g : GenL) (hg : GSm g) (h : List Ob) : Does Tryz.prog G 14 h [.agg (gnX g)] (fun h' r => h' = h ∧ r = .v (.int .i64 (genE g))) := by
 refine does_any G hG (by rw [lowL, lowL, low]; exact ⟨low_gn _ g, trivial⟩) (by rw [low]; trivial) ?_ h
 clear h
 have hfo := rising_d G hG g.founders g.replicas hg.fo
 have had := rising_d G hG g.admins g.clients hg.ad
 have hfl := hg.fo
 have hal := hg.ad
 have hol := hg.ob
 have bad1 : genBad g → genE g = 1 := fun q => by unfold genE; rw [if_pos q]
 have good1 : ¬ genBad g → genE g = if 64 < g.objects.length then 6 else if risingB (g.objects.map (·.1)) = false then 3 else latsE g.objects := fun q => by unfold genE; rw [if_neg q]
 unfold genBad at bad1 good1
 generalize risP g.replicas (-1) g.founders = rf at *
 generalize risP g.clients (-1) g.admins = ra at *
 generalize genE g = ge at *
 refine does_of_aw Tryz.func14 rfl (Nat.le_of_ble_eq_true rfl) hG fun hl0 _ => ?_
 simp only [Tryz.ntmps14]
 by_cases hb : (g.mode ≠ 1 ∧ g.mode ≠ 2) ∨ g.replicas < 1 ∨ 12 < g.replicas ∨ g.clients < 1 ∨ 6 < g.clients ∨ g.founders.length = 0 ∨ rf = false ∨ ra = false
 · obtain rfl := bad1 hb
   clear bad1 good1
   cases rf
   · skip
     repeat' first
      | (with_reducible refine gd_aw ?_; first
       | refine aw_seq' ?_
       | refine aw_region' ?_
       | refine aw_if1 rfl ?_
       | refine aw_ret ?_)
      | (with_reducible refine gd_ao ?_; first
       | refine ao_nil ?_
       | (refine ao1 rfl rfl fun K HK => ?_; (first | refine aOp_pick rfl ?_ | skip); simp only [go_sem, ↓reduceIte, Nat.reduceEqDiff, Nat.reduceAdd, Nat.reduceLeDiff, Nat.reduceBEq, Nat.reduceMul, Int.reduceEq, Int.reduceLT, Int.reduceLE, gnX_eq g, List.length_map, Bool.false_eq_true]; (first | refine splitB (fun hq => ?_) (fun hq => ?_) | refine splitN (fun hq => ?_) (fun hq => ?_) | skip) <;> (refine HK _ _ ?_; clear HK K))
       | refine ao0 rfl rfl ?_
       | (refine ao2 rfl rfl rfl ent_37 (hfo _) ?_; rintro _ _ ⟨rfl, rfl⟩))
      | (with_reducible refine gd_th ?_; first
       | refine thenS_n ?_
       | refine thenS_r ?_)
     all_goals first
     | (exfalso; omega)
     | exact ⟨.inr rfl, endD (r := .v _) hl0 rfl (by simp) (by simp) rfl (by rw [low]; trivial) ⟨rfl, rfl⟩⟩
   · cases ra
     · skip
       repeat' first
        | (with_reducible refine gd_aw ?_; first
         | refine aw_seq' ?_
         | refine aw_region' ?_
         | refine aw_if1 rfl ?_
         | refine aw_ret ?_)
        | (with_reducible refine gd_ao ?_; first
         | refine ao_nil ?_
         | (refine ao1 rfl rfl fun K HK => ?_; (first | refine aOp_pick rfl ?_ | skip); simp only [go_sem, ↓reduceIte, Nat.reduceEqDiff, Nat.reduceAdd, Nat.reduceLeDiff, Nat.reduceBEq, Nat.reduceMul, Int.reduceEq, Int.reduceLT, Int.reduceLE, gnX_eq g, List.length_map, Bool.false_eq_true]; (first | refine splitB (fun hq => ?_) (fun hq => ?_) | refine splitN (fun hq => ?_) (fun hq => ?_) | skip) <;> (refine HK _ _ ?_; clear HK K))
         | refine ao0 rfl rfl ?_
         | (refine ao2 rfl rfl rfl ent_37 (hfo _) ?_; rintro _ _ ⟨rfl, rfl⟩)
         | (refine ao2 rfl rfl rfl ent_37 (had _) ?_; rintro _ _ ⟨rfl, rfl⟩))
        | (with_reducible refine gd_th ?_; first
         | refine thenS_n ?_
         | refine thenS_r ?_)
       all_goals first
       | (exfalso; omega)
       | exact ⟨.inr rfl, endD (r := .v _) hl0 rfl (by simp) (by simp) rfl (by rw [low]; trivial) ⟨rfl, rfl⟩⟩
     · have hb : (g.mode ≠ 1 ∧ g.mode ≠ 2) ∨ g.replicas < 1 ∨ 12 < g.replicas ∨ g.clients < 1 ∨ 6 < g.clients ∨ g.founders.length = 0 := by
        rcases hb with h | h | h | h | h | h | h | h
        all_goals first | omega | cases h
       repeat' first
        | (with_reducible refine gd_aw ?_; first
         | refine aw_seq' ?_
         | refine aw_region' ?_
         | refine aw_block ?_
         | refine aw_if1 rfl ?_
         | refine aw_if0 rfl ?_
         | refine aw_skip ?_
         | refine aw_ret ?_)
        | (with_reducible refine gd_ao ?_; first
         | refine ao_nil ?_
         | (refine ao1 rfl rfl fun K HK => ?_; (first | refine aOp_pick rfl ?_ | skip); simp only [go_sem, ↓reduceIte, Nat.reduceEqDiff, Nat.reduceAdd, Nat.reduceLeDiff, Nat.reduceBEq, Nat.reduceMul, Int.reduceEq, Int.reduceLT, Int.reduceLE, gnX_eq g, List.length_map, Bool.false_eq_true]; (first | refine splitB (fun hq => ?_) (fun hq => ?_) | refine splitN (fun hq => ?_) (fun hq => ?_) | skip) <;> (refine HK _ _ ?_; clear HK K))
         | refine ao0 rfl rfl ?_
         | (refine ao2 rfl rfl rfl ent_37 (hfo _) ?_; rintro _ _ ⟨rfl, rfl⟩)
         | (refine ao2 rfl rfl rfl ent_37 (had _) ?_; rintro _ _ ⟨rfl, rfl⟩))
        | (with_reducible refine gd_th ?_; first
         | refine thenS_n ?_
         | refine thenS_r ?_)
        | (exfalso; omega)
       all_goals first
       | (exfalso; omega)
       | exact ⟨.inr rfl, endD (r := .v _) hl0 rfl (by simp) (by simp) rfl (by rw [low]; trivial) ⟨rfl, rfl⟩⟩
 have hge := good1 hb
 clear bad1 good1
 obtain rfl : rf = true := by cases rf <;> simp_all
 obtain rfl : ra = true := by cases ra <;> simp_all
 have hb1 : (g.mode = 1 ∨ g.mode = 2) ∧ 1 ≤ g.replicas ∧ g.replicas ≤ 12 ∧ 1 ≤ g.clients ∧ g.clients ≤ 6 ∧ g.founders.length ≠ 0 := by
  refine ⟨?_, ?_, ?_, ?_, ?_, ?_⟩ <;> (by_cases hz : g.mode = 1 <;> by_cases hy : g.mode = 2 <;> simp_all <;> omega)
 clear hb
 by_cases h64 : 64 < g.objects.length
 · rw [if_pos h64] at hge
   repeat' first
    | (with_reducible refine gd_aw ?_; first
     | refine aw_seq' ?_
     | refine aw_region' ?_
     | refine aw_block ?_
     | refine aw_if1 rfl ?_
     | refine aw_if0 rfl ?_
     | refine aw_skip ?_
     | refine aw_ret ?_)
    | (with_reducible refine gd_ao ?_; first
     | refine ao_nil ?_
     | (refine ao1 rfl rfl fun K HK => ?_; (first | refine aOp_pick rfl ?_ | skip); simp only [go_sem, ↓reduceIte, Nat.reduceEqDiff, Nat.reduceAdd, Nat.reduceLeDiff, Nat.reduceBEq, Nat.reduceMul, Int.reduceEq, Int.reduceLT, Int.reduceLE, gnX_eq g, List.length_map, Bool.false_eq_true]; (first | refine splitB (fun hq => ?_) (fun hq => ?_) | refine splitN (fun hq => ?_) (fun hq => ?_) | skip) <;> (refine HK _ _ ?_; clear HK K))
     | refine ao0 rfl rfl ?_
     | (refine ao2 rfl rfl rfl ent_37 (hfo _) ?_; rintro _ _ ⟨rfl, rfl⟩)
     | (refine ao2 rfl rfl rfl ent_37 (had _) ?_; rintro _ _ ⟨rfl, rfl⟩))
    | (with_reducible refine gd_th ?_; first
     | refine thenS_n ?_
     | refine thenS_r ?_)
    | (exfalso; omega)
   all_goals first
   | (exfalso; omega)
   | exact ⟨.inr rfl, endD (r := .v (.int .i64 6)) hl0 rfl (by simp) (by simp) rfl (by rw [low]; trivial) ⟨rfl, by rw [hge]⟩⟩
 rw [if_neg h64] at hge
 have m1 : ¬ (g.mode ≠ 1 ∧ g.mode ≠ 2) := by omega
 have step : ∀ (P : Prop), P → P := fun _ h => h
 repeat' first
  | (with_reducible refine gd_aw ?_; first
   | refine aw_seq' ?_
   | refine aw_region' ?_
   | refine aw_block ?_
   | refine aw_if1 rfl ?_
   | refine aw_if0 rfl ?_
   | refine aw_skip ?_
   | refine aw_ret ?_)
  | (with_reducible refine gd_ao ?_; first
   | refine ao_nil ?_
   | (refine ao1 rfl rfl fun K HK => ?_; (first | refine aOp_pick rfl ?_ | skip); simp only [go_sem, ↓reduceIte, Nat.reduceEqDiff, Nat.reduceAdd, Nat.reduceLeDiff, Nat.reduceBEq, Nat.reduceMul, Int.reduceEq, Int.reduceLT, Int.reduceLE, gnX_eq g, List.length_map, Bool.false_eq_true]; (first | refine splitB (fun hq => ?_) (fun hq => ?_) | refine splitN (fun hq => ?_) (fun hq => ?_) | skip) <;> (refine HK _ _ ?_; clear HK K))
   | refine ao0 rfl rfl ?_
   | (refine ao2 rfl rfl rfl ent_37 (hfo _) ?_; rintro _ _ ⟨rfl, rfl⟩)
   | (refine ao2 rfl rfl rfl ent_37 (had _) ?_; rintro _ _ ⟨rfl, rfl⟩))
  | (with_reducible refine gd_th ?_; first
   | refine thenS_n ?_
   | refine thenS_r ?_)
  | (exfalso; omega)
 all_goals try (exfalso; omega)
 all_goals
  refine aw_for (fun m e h' => ∃ (k : Nat) (T : List Ob), k ≤ g.objects.length ∧ m = g.objects.length - k ∧ risingFrom (g.objects.map (·.1)) 0 = risingFrom (g.objects.map (·.1)) k ∧ h' = gM (.cells (gnX g)) T ∧ e 1 = .ptr 0 0 ∧ e 63 = .sl 7 (g.objects.map gobX) ∧ e 64 = .v (.int .i64 g.objects.length) ∧ e 65 = .v (.int .i64 k)) g.objects.length ⟨0, [], Nat.zero_le _, rfl, rfl, rfl, rfl, rfl, rfl, rfl⟩ ?_
  rintro m e h' ⟨k, T, hk, rfl, ho, rfl, e1, e63, e64, e65⟩
  by_cases hlt : k < g.objects.length
  · have hx : g.objects[k]? = some g.objects[k] := List.getElem?_eq_getElem hlt
    have hxn := names_at hx
    have wk : IntKind.i64.wrap ((k : Int) + 1) = ((k + 1 : Nat) : Int) := IntWalk.i64_in _ (by omega)
    have hn := nameValid_d G hG g.objects[k].1 (hg.na _ (List.getElem_mem hlt))
    generalize g.objects[k] = x at hx hn hxn
    rcases Nat.eq_zero_or_pos k with h0 | h0
    · subst h0
      have ho2 := ris_0 hxn
      cases hnb : nameB x.1 <;> rw [hnb] at hn ho2
      · have e0 : risingB (g.objects.map (·.1)) = false := by rw [← rising_zero, ho2]; rfl
        rw [if_pos e0] at hge
        repeat' first
         | (with_reducible refine gd_aw ?_; first
          | refine aw_seq' ?_
          | refine aw_region' ?_
          | refine aw_block ?_
          | refine aw_if1 rfl ?_
          | refine aw_if0 rfl ?_
          | refine aw_skip ?_
          | refine aw_exit ?_
          | refine aw_ret ?_
          | refine aw_draw mixd (by kernel_rfl) ?_)
         | (with_reducible refine gd_ao ?_; first
          | refine ao_nil ?_
          | (refine ao1 rfl rfl fun K HK => ?_; (first | refine aOp_pick rfl ?_ | skip); simp only [go_sem, ↓reduceIte, Nat.reduceEqDiff, Nat.reduceAdd, Nat.reduceLeDiff, Nat.reduceBEq, Nat.reduceMul, Int.reduceEq, Int.reduceLT, Int.reduceLE, gnX_eq g, gobX_eq x, e1, e63, e64, e65, List.length_map, Int.toNat_natCast, wk, gM_0, gM_len, gM_app, gM_l, gM_sl, Bool.false_eq_true]; (first | refine splitB (fun hq => ?_) (fun hq => ?_) | (refine ⟨by omega, by omega, ?_⟩; refine row_at (by assumption) ?_) | skip) <;> (refine HK _ _ ?_; clear HK K))
          | (refine ao1' rfl fun K HK => ?_; simp only [go_sem, ↓reduceIte, Nat.reduceEqDiff, Nat.reduceAdd, Nat.reduceLeDiff, Nat.reduceBEq, Nat.reduceMul, Int.reduceEq, Int.reduceLT, Int.reduceLE, gnX_eq g, gobX_eq x, e1, e63, e64, e65, List.length_map, Int.toNat_natCast, wk, gM_0, gM_len, gM_app, gM_l, gM_sl, Bool.false_eq_true]; refine HK _ _ ?_; clear HK K))
         | (with_reducible refine gd_aq ?_; first
          | (refine aq1 rfl rfl fun K HK => ?_; (first | refine aOp_pick rfl ?_ | skip); simp only [go_sem, ↓reduceIte, Nat.reduceEqDiff, Nat.reduceAdd, Nat.reduceLeDiff, Nat.reduceBEq, Nat.reduceMul, Int.reduceEq, Int.reduceLT, Int.reduceLE, gnX_eq g, gobX_eq x, e1, e63, e64, e65, List.length_map, Int.toNat_natCast, wk, gM_0, gM_len, gM_app, gM_l, gM_sl, Bool.false_eq_true]; (first | refine splitB (fun hq => ?_) (fun hq => ?_) | (refine ⟨by omega, by omega, ?_⟩; refine row_at (by assumption) ?_) | skip) <;> (refine HK _ _ rfl ?_; clear HK K))
          | refine aq0 rfl rfl ?_
          | refine aq_nil ?_
          | refine aq2 rfl rfl rfl ent_38 (hn _) ?_)
         | (with_reducible refine gd_th ?_; first
          | refine thenS_n ?_
          | refine thenS_x ?_
          | refine thenS_r ?_)
         | (with_reducible refine gd_iB ?_; first
          | refine inB_r ?_
          | refine inB_x ?_)
         | (exfalso; omega)
        exact ⟨.inr rfl, endD (r := .v (.int .i64 3)) hl0 rfl (by simp) (by simp) rfl (by rw [low]; trivial) ⟨rfl, by rw [hge]⟩⟩
      · skip
        repeat' first
         | (with_reducible refine gd_aw ?_; first
          | refine aw_seq' ?_
          | refine aw_region' ?_
          | refine aw_block ?_
          | refine aw_if1 rfl ?_
          | refine aw_if0 rfl ?_
          | refine aw_skip ?_
          | refine aw_exit ?_
          | refine aw_draw mixd (by kernel_rfl) ?_)
         | (with_reducible refine gd_ao ?_; first
          | refine ao_nil ?_
          | (refine ao1 rfl rfl fun K HK => ?_; (first | refine aOp_pick rfl ?_ | skip); simp only [go_sem, ↓reduceIte, Nat.reduceEqDiff, Nat.reduceAdd, Nat.reduceLeDiff, Nat.reduceBEq, Nat.reduceMul, Int.reduceEq, Int.reduceLT, Int.reduceLE, gnX_eq g, gobX_eq x, e1, e63, e64, e65, List.length_map, Int.toNat_natCast, wk, gM_0, gM_len, gM_app, gM_l, gM_sl, Bool.false_eq_true]; (first | refine splitB (fun hq => ?_) (fun hq => ?_) | (refine ⟨by omega, by omega, ?_⟩; refine row_at (by assumption) ?_) | (refine ⟨by omega, by omega, ?_⟩; intro row hrow; obtain ⟨x, hx, rfl⟩ := row_inv hrow; clear hrow) | skip) <;> (refine HK _ _ ?_; clear HK K))
          | (refine ao1' rfl fun K HK => ?_; simp only [go_sem, ↓reduceIte, Nat.reduceEqDiff, Nat.reduceAdd, Nat.reduceLeDiff, Nat.reduceBEq, Nat.reduceMul, Int.reduceEq, Int.reduceLT, Int.reduceLE, gnX_eq g, gobX_eq x, e1, e63, e64, e65, List.length_map, Int.toNat_natCast, wk, gM_0, gM_len, gM_app, gM_l, gM_sl, Bool.false_eq_true]; refine HK _ _ ?_; clear HK K))
         | (with_reducible refine gd_aq ?_; first
          | (refine aq1 rfl rfl fun K HK => ?_; (first | refine aOp_pick rfl ?_ | skip); simp only [go_sem, ↓reduceIte, Nat.reduceEqDiff, Nat.reduceAdd, Nat.reduceLeDiff, Nat.reduceBEq, Nat.reduceMul, Int.reduceEq, Int.reduceLT, Int.reduceLE, gnX_eq g, gobX_eq x, e1, e63, e64, e65, List.length_map, Int.toNat_natCast, wk, gM_0, gM_len, gM_app, gM_l, gM_sl, Bool.false_eq_true]; (first | refine splitB (fun hq => ?_) (fun hq => ?_) | (refine ⟨by omega, by omega, ?_⟩; refine row_at (by assumption) ?_) | (refine ⟨by omega, by omega, ?_⟩; intro row hrow; obtain ⟨x, hx, rfl⟩ := row_inv hrow; clear hrow) | skip) <;> (refine HK _ _ rfl ?_; clear HK K))
          | refine aq0 rfl rfl ?_
          | refine aq_nil ?_
          | refine aq2 rfl rfl rfl ent_38 (hn _) ?_)
         | (with_reducible refine gd_th ?_; first
          | refine thenS_n ?_
          | refine thenS_x ?_)
         | (with_reducible refine gd_iB ?_; first
          | refine inB_n ?_
          | refine inB_x ?_)
         | (exfalso; omega)
        exact ⟨rfl, g.objects.length - 1, by omega, 1, _, hlt, rfl, ho2, rfl, e1, e63, e64, rfl⟩
    · obtain ⟨j, rfl⟩ : ∃ j, k = j + 1 := ⟨k - 1, by omega⟩
      have hy : g.objects[j]? = some g.objects[j] := List.getElem?_eq_getElem (by omega)
      have hyn := names_at hy
      rw [ris_s hyn hxn] at ho
      generalize g.objects[j] = y at hy hyn ho
      have wm : IntKind.i64.wrap (((j + 1 : Nat) : Int) - 1) = (j : Int) := by rw [show ((j + 1 : Nat) : Int) - 1 = (j : Int) by omega]; exact IntWalk.i64_in _ (by omega)
      have gp : decide ((0 : Int) < ((j + 1 : Nat) : Int)) = true := decide_eq_true (by omega)
      unfold strLt at ho
      cases hnb : nameB x.1 <;> rw [hnb] at hn ho
      · have e0 : risingB (g.objects.map (·.1)) = false := by rw [← rising_zero, ho]; rfl
        rw [if_pos e0] at hge
        repeat' first
         | (with_reducible refine gd_aw ?_; first
          | refine aw_seq' ?_
          | refine aw_region' ?_
          | refine aw_block ?_
          | refine aw_if1 rfl ?_
          | refine aw_if0 rfl ?_
          | refine aw_skip ?_
          | refine aw_exit ?_
          | refine aw_ret ?_
          | refine aw_draw mixd (by kernel_rfl) ?_)
         | (with_reducible refine gd_ao ?_; first
          | refine ao_nil ?_
          | (refine ao1 rfl rfl fun K HK => ?_; (first | refine aOp_pick rfl ?_ | skip); simp only [go_sem, ↓reduceIte, Nat.reduceEqDiff, Nat.reduceAdd, Nat.reduceLeDiff, Nat.reduceBEq, Nat.reduceMul, Int.reduceEq, Int.reduceLT, Int.reduceLE, gnX_eq g, gobX_eq x, e1, e63, e64, e65, List.length_map, Int.toNat_natCast, wk, gM_0, gM_len, gM_app, gM_l, gM_sl, Bool.false_eq_true]; (first | refine splitB (fun hq => ?_) (fun hq => ?_) | (refine ⟨by omega, by omega, ?_⟩; refine row_at (by assumption) ?_) | skip) <;> (refine HK _ _ ?_; clear HK K))
          | (refine ao1' rfl fun K HK => ?_; simp only [go_sem, ↓reduceIte, Nat.reduceEqDiff, Nat.reduceAdd, Nat.reduceLeDiff, Nat.reduceBEq, Nat.reduceMul, Int.reduceEq, Int.reduceLT, Int.reduceLE, gnX_eq g, gobX_eq x, e1, e63, e64, e65, List.length_map, Int.toNat_natCast, wk, gM_0, gM_len, gM_app, gM_l, gM_sl, Bool.false_eq_true]; refine HK _ _ ?_; clear HK K))
         | (with_reducible refine gd_aq ?_; first
          | (refine aq1 rfl rfl fun K HK => ?_; (first | refine aOp_pick rfl ?_ | skip); simp only [go_sem, ↓reduceIte, Nat.reduceEqDiff, Nat.reduceAdd, Nat.reduceLeDiff, Nat.reduceBEq, Nat.reduceMul, Int.reduceEq, Int.reduceLT, Int.reduceLE, gnX_eq g, gobX_eq x, e1, e63, e64, e65, List.length_map, Int.toNat_natCast, wk, gM_0, gM_len, gM_app, gM_l, gM_sl, Bool.false_eq_true]; (first | refine splitB (fun hq => ?_) (fun hq => ?_) | (refine ⟨by omega, by omega, ?_⟩; refine row_at (by assumption) ?_) | skip) <;> (refine HK _ _ rfl ?_; clear HK K))
          | refine aq0 rfl rfl ?_
          | refine aq_nil ?_
          | refine aq2 rfl rfl rfl ent_38 (hn _) ?_)
         | (with_reducible refine gd_th ?_; first
          | refine thenS_n ?_
          | refine thenS_x ?_
          | refine thenS_r ?_)
         | (with_reducible refine gd_iB ?_; first
          | refine inB_r ?_
          | refine inB_x ?_)
         | (exfalso; omega)
        exact ⟨.inr rfl, endD (r := .v (.int .i64 3)) hl0 rfl (by simp) (by simp) rfl (by rw [low]; trivial) ⟨rfl, by rw [hge]⟩⟩
      · cases hlt2 : Op.bytesLess y.1.toList x.1.toList
        · have e0 : risingB (g.objects.map (·.1)) = false := by rw [← rising_zero, ho, hlt2]; rfl
          rw [if_pos e0] at hge
          repeat' first
           | (with_reducible refine gd_aw ?_; first
            | refine aw_seq' ?_
            | refine aw_region' ?_
            | refine aw_block ?_
            | refine aw_if1 rfl ?_
            | refine aw_if0 rfl ?_
            | refine aw_skip ?_
            | refine aw_exit ?_
            | refine aw_ret ?_
            | refine aw_draw mixd (by kernel_rfl) ?_)
           | (with_reducible refine gd_ao ?_; first
            | refine ao_nil ?_
            | (refine ao1 rfl rfl fun K HK => ?_; (first | refine aOp_pick rfl ?_ | skip); simp only [go_sem, ↓reduceIte, Nat.reduceEqDiff, Nat.reduceAdd, Nat.reduceLeDiff, Nat.reduceBEq, Nat.reduceMul, Int.reduceEq, Int.reduceLT, Int.reduceLE, gnX_eq g, gobX_eq x, gobX_eq y, e1, e63, e64, e65, List.length_map, Int.toNat_natCast, wk, wm, gp, hlt2, gM_0, gM_len, gM_app, gM_l, gM_sl, Bool.false_eq_true]; (first | refine splitB (fun hq => ?_) (fun hq => ?_) | (refine ⟨by omega, by omega, ?_⟩; refine row_at (by assumption) ?_) | skip) <;> (refine HK _ _ ?_; clear HK K))
            | (refine ao1' rfl fun K HK => ?_; simp only [go_sem, ↓reduceIte, Nat.reduceEqDiff, Nat.reduceAdd, Nat.reduceLeDiff, Nat.reduceBEq, Nat.reduceMul, Int.reduceEq, Int.reduceLT, Int.reduceLE, gnX_eq g, gobX_eq x, gobX_eq y, e1, e63, e64, e65, List.length_map, Int.toNat_natCast, wk, wm, gp, hlt2, gM_0, gM_len, gM_app, gM_l, gM_sl, Bool.false_eq_true]; refine HK _ _ ?_; clear HK K))
           | (with_reducible refine gd_aq ?_; first
            | (refine aq1 rfl rfl fun K HK => ?_; (first | refine aOp_pick rfl ?_ | skip); simp only [go_sem, ↓reduceIte, Nat.reduceEqDiff, Nat.reduceAdd, Nat.reduceLeDiff, Nat.reduceBEq, Nat.reduceMul, Int.reduceEq, Int.reduceLT, Int.reduceLE, gnX_eq g, gobX_eq x, gobX_eq y, e1, e63, e64, e65, List.length_map, Int.toNat_natCast, wk, wm, gp, hlt2, gM_0, gM_len, gM_app, gM_l, gM_sl, Bool.false_eq_true]; (first | refine splitB (fun hq => ?_) (fun hq => ?_) | (refine ⟨by omega, by omega, ?_⟩; refine row_at (by assumption) ?_) | skip) <;> (refine HK _ _ rfl ?_; clear HK K))
            | refine aq_nil ?_
            | refine aq2 rfl rfl rfl ent_38 (hn _) ?_)
           | (with_reducible refine gd_th ?_; first
            | refine thenS_n ?_
            | refine thenS_x ?_
            | refine thenS_r ?_)
           | (with_reducible refine gd_iB ?_; first
            | refine inB_r ?_
            | refine inB_x ?_)
           | (exfalso; omega)
          exact ⟨.inr rfl, endD (r := .v (.int .i64 3)) hl0 rfl (by simp) (by simp) rfl (by rw [low]; trivial) ⟨rfl, by rw [hge]⟩⟩
        · skip
          repeat' first
           | (with_reducible refine gd_aw ?_; first
            | refine aw_seq' ?_
            | refine aw_region' ?_
            | refine aw_block ?_
            | refine aw_if1 rfl ?_
            | refine aw_if0 rfl ?_
            | refine aw_skip ?_
            | refine aw_exit ?_
            | refine aw_draw mixd (by kernel_rfl) ?_)
           | (with_reducible refine gd_ao ?_; first
            | refine ao_nil ?_
            | (refine ao1 rfl rfl fun K HK => ?_; (first | refine aOp_pick rfl ?_ | skip); simp only [go_sem, ↓reduceIte, Nat.reduceEqDiff, Nat.reduceAdd, Nat.reduceLeDiff, Nat.reduceBEq, Nat.reduceMul, Int.reduceEq, Int.reduceLT, Int.reduceLE, gnX_eq g, gobX_eq x, gobX_eq y, e1, e63, e64, e65, List.length_map, Int.toNat_natCast, wk, wm, gp, hlt2, gM_0, gM_len, gM_app, gM_l, gM_sl, Bool.false_eq_true]; (first | refine splitB (fun hq => ?_) (fun hq => ?_) | (refine ⟨by omega, by omega, ?_⟩; refine row_at (by assumption) ?_) | skip) <;> (refine HK _ _ ?_; clear HK K))
            | (refine ao1' rfl fun K HK => ?_; simp only [go_sem, ↓reduceIte, Nat.reduceEqDiff, Nat.reduceAdd, Nat.reduceLeDiff, Nat.reduceBEq, Nat.reduceMul, Int.reduceEq, Int.reduceLT, Int.reduceLE, gnX_eq g, gobX_eq x, gobX_eq y, e1, e63, e64, e65, List.length_map, Int.toNat_natCast, wk, wm, gp, hlt2, gM_0, gM_len, gM_app, gM_l, gM_sl, Bool.false_eq_true]; refine HK _ _ ?_; clear HK K))
           | (with_reducible refine gd_aq ?_; first
            | (refine aq1 rfl rfl fun K HK => ?_; (first | refine aOp_pick rfl ?_ | skip); simp only [go_sem, ↓reduceIte, Nat.reduceEqDiff, Nat.reduceAdd, Nat.reduceLeDiff, Nat.reduceBEq, Nat.reduceMul, Int.reduceEq, Int.reduceLT, Int.reduceLE, gnX_eq g, gobX_eq x, gobX_eq y, e1, e63, e64, e65, List.length_map, Int.toNat_natCast, wk, wm, gp, hlt2, gM_0, gM_len, gM_app, gM_l, gM_sl, Bool.false_eq_true]; (first | refine splitB (fun hq => ?_) (fun hq => ?_) | (refine ⟨by omega, by omega, ?_⟩; refine row_at (by assumption) ?_) | skip) <;> (refine HK _ _ rfl ?_; clear HK K))
            | refine aq_nil ?_
            | refine aq2 rfl rfl rfl ent_38 (hn _) ?_)
           | (with_reducible refine gd_th ?_; first
            | refine thenS_n ?_
            | refine thenS_x ?_)
           | (with_reducible refine gd_iB ?_; first
            | refine inB_n ?_
            | refine inB_x ?_)
           | (exfalso; omega)
          exact ⟨rfl, g.objects.length - (j + 2), by omega, j + 2, _, by omega, rfl, by rw [ho, hlt2]; rfl, rfl, e1, e63, e64, rfl⟩
  have e0 : risingB (g.objects.map (·.1)) = true := by rw [← rising_zero, ho, rising_end _ _ (by rw [List.length_map]; omega)]
  rw [if_neg (by rw [e0]; decide)] at hge
  repeat' first
   | (with_reducible refine gd_aw ?_; first
    | refine aw_seq' ?_
    | refine aw_region' ?_
    | refine aw_block ?_
    | refine aw_if1 rfl ?_
    | refine aw_if0 rfl ?_
    | refine aw_skip ?_
    | refine aw_exit ?_)
   | (with_reducible refine gd_ao ?_; first
    | refine ao_nil ?_
    | (refine ao1 rfl rfl fun K HK => ?_; simp only [go_sem, ↓reduceIte, Nat.reduceEqDiff, Nat.reduceAdd, Nat.reduceLeDiff, Nat.reduceBEq, Nat.reduceMul, Int.reduceEq, Int.reduceLT, Int.reduceLE, gnX_eq g, e1, e63, e64, e65, List.length_map, gM_0, Bool.false_eq_true]; (first | refine splitB (fun hq => ?_) (fun hq => ?_) | (refine ⟨by omega, by omega, ?_⟩; intro row hrow; obtain ⟨x, hx, rfl⟩ := row_inv hrow; clear hrow) | skip) <;> (refine HK _ _ ?_; clear HK K)))
   | (with_reducible refine gd_th ?_; first
    | refine thenS_n ?_
    | refine thenS_x ?_)
   | (with_reducible refine gd_iB ?_; first
    | refine inB_x ?_)
   | (exfalso; omega)
  refine aw_for (fun m e h' => ∃ (k : Nat) (T : List Ob), k ≤ g.objects.length ∧ m = g.objects.length - k ∧ latsE g.objects = latsE (g.objects.drop k) ∧ h' = gM (.cells (gnX g)) T ∧ e 92 = .sl 7 (g.objects.map gobX) ∧ e 93 = .v (.int .i64 g.objects.length) ∧ e 94 = .v (.int .i64 k)) g.objects.length ⟨0, T, Nat.zero_le _, rfl, rfl, rfl, rfl, rfl, rfl⟩ ?_
  clear e1 e63 e64 e65 ho hlt
  rintro m e h' ⟨k, T, hk, rfl, ho, rfl, e92, e93, e94⟩
  by_cases hlt : k < g.objects.length
  · have hx : g.objects[k]? = some g.objects[k] := List.getElem?_eq_getElem hlt
    have wk : IntKind.i64.wrap ((k : Int) + 1) = ((k + 1 : Nat) : Int) := IntWalk.i64_in _ (by omega)
    have hc := check_d G hG g.objects[k].2 (hg.la _ (List.getElem_mem hlt))
    rw [latsE_go (List.drop_eq_getElem_cons hlt)] at ho
    generalize g.objects[k] = x at hx hc ho
    simp only [latX_eq] at hc
    generalize chkE x.2 = ce at hc ho
    by_cases hz : ce = 0
    · rw [if_neg (fun q => q hz)] at ho
      repeat' first
       | (with_reducible refine gd_aw ?_; first
        | refine aw_seq' ?_
        | refine aw_region' ?_
        | refine aw_block ?_
        | refine aw_if1 rfl ?_
        | refine aw_if0 rfl ?_
        | refine aw_skip ?_
        | refine aw_exit ?_
        | refine aw_ret ?_)
       | (with_reducible refine gd_ao ?_; first
        | refine ao_nil ?_
        | (refine ao1 rfl rfl fun K HK => ?_; simp only [go_sem, ↓reduceIte, Nat.reduceEqDiff, Nat.reduceAdd, Nat.reduceLeDiff, Nat.reduceBEq, Nat.reduceMul, Int.reduceEq, Int.reduceLT, Int.reduceLE, gobX_eq x, e92, e93, e94, hz, List.length_map, Int.toNat_natCast, wk, gM_0, gM_len, gM_app, gM_l, gM_sl, Bool.false_eq_true]; (first | refine splitB (fun hq => ?_) (fun hq => ?_) | (refine ⟨by omega, by omega, ?_⟩; refine row_at (by assumption) ?_) | skip) <;> (refine HK _ _ ?_; clear HK K))
        | (refine ao2 rfl rfl rfl ent_39 (hc _) ?_; rintro _ _ ⟨rfl, rfl⟩)
        | (refine ao1' rfl fun K HK => ?_; simp only [go_sem, ↓reduceIte, Nat.reduceEqDiff, Nat.reduceAdd, Nat.reduceLeDiff, Nat.reduceBEq, Nat.reduceMul, Int.reduceEq, Int.reduceLT, Int.reduceLE, gobX_eq x, e92, e93, e94, hz, List.length_map, Int.toNat_natCast, wk, gM_0, gM_len, gM_app, gM_l, gM_sl, Bool.false_eq_true]; refine HK _ _ ?_; clear HK K))
       | (with_reducible refine gd_th ?_; first
        | refine thenS_n ?_
        | refine thenS_x ?_)
       | (with_reducible refine gd_iB ?_; first
        | refine inB_n ?_
        | refine inB_x ?_)
       | (exfalso; omega)
      exact ⟨rfl, g.objects.length - (k + 1), by omega, k + 1, _, hlt, rfl, ho, rfl, e92, e93, rfl⟩
    · rw [if_pos hz] at ho
      repeat' first
       | (with_reducible refine gd_aw ?_; first
        | refine aw_seq' ?_
        | refine aw_region' ?_
        | refine aw_block ?_
        | refine aw_if1 rfl ?_
        | refine aw_if0 rfl ?_
        | refine aw_skip ?_
        | refine aw_exit ?_
        | refine aw_ret ?_)
       | (with_reducible refine gd_ao ?_; first
        | refine ao_nil ?_
        | (refine ao1 rfl rfl fun K HK => ?_; simp only [go_sem, ↓reduceIte, Nat.reduceEqDiff, Nat.reduceAdd, Nat.reduceLeDiff, Nat.reduceBEq, Nat.reduceMul, Int.reduceEq, Int.reduceLT, Int.reduceLE, gobX_eq x, e92, e93, e94, hz, List.length_map, Int.toNat_natCast, wk, gM_0, gM_len, gM_app, gM_l, gM_sl, Bool.false_eq_true]; (first | refine splitB (fun hq => ?_) (fun hq => ?_) | (refine ⟨by omega, by omega, ?_⟩; refine row_at (by assumption) ?_) | skip) <;> (refine HK _ _ ?_; clear HK K))
        | (refine ao2 rfl rfl rfl ent_39 (hc _) ?_; rintro _ _ ⟨rfl, rfl⟩)
        | (refine ao1' rfl fun K HK => ?_; simp only [go_sem, ↓reduceIte, Nat.reduceEqDiff, Nat.reduceAdd, Nat.reduceLeDiff, Nat.reduceBEq, Nat.reduceMul, Int.reduceEq, Int.reduceLT, Int.reduceLE, gobX_eq x, e92, e93, e94, hz, List.length_map, Int.toNat_natCast, wk, gM_0, gM_len, gM_app, gM_l, gM_sl, Bool.false_eq_true]; refine HK _ _ ?_; clear HK K))
       | (with_reducible refine gd_th ?_; first
        | refine thenS_n ?_
        | refine thenS_x ?_
        | refine thenS_r ?_)
       | (with_reducible refine gd_iB ?_; first
        | refine inB_r ?_
        | refine inB_x ?_)
       | (exfalso; omega)
      exact ⟨.inr rfl, endD (r := .v (.int .i64 ce)) hl0 rfl (by simp) (by simp) rfl (by rw [low]; trivial) ⟨rfl, by rw [hge, ho]⟩⟩
  · have e2 : latsE g.objects = 0 := by rw [ho, List.drop_eq_nil_of_le (by omega)]; rfl
    rw [e2] at hge
    repeat' first
     | (with_reducible refine gd_aw ?_; first
      | refine aw_seq' ?_
      | refine aw_region' ?_
      | refine aw_block ?_
      | refine aw_if1 rfl ?_
      | refine aw_if0 rfl ?_
      | refine aw_skip ?_
      | refine aw_exit ?_
      | refine aw_ret ?_)
     | (with_reducible refine gd_ao ?_; first
      | refine ao_nil ?_
      | (refine ao1 rfl rfl fun K HK => ?_; simp only [go_sem, ↓reduceIte, Nat.reduceEqDiff, Nat.reduceAdd, Nat.reduceLeDiff, Nat.reduceBEq, Nat.reduceMul, Int.reduceEq, Int.reduceLT, Int.reduceLE, e92, e93, e94, List.length_map, gM_0, Bool.false_eq_true]; (first | refine splitB (fun hq => ?_) (fun hq => ?_) | (refine ⟨by omega, by omega, ?_⟩; intro row hrow; obtain ⟨x, hx, rfl⟩ := row_inv hrow; clear hrow) | skip) <;> (refine HK _ _ ?_; clear HK K)))
     | (with_reducible refine gd_th ?_; first
      | refine thenS_n ?_
      | refine thenS_x ?_)
     | (with_reducible refine gd_iB ?_; first
      | refine inB_x ?_)
     | (exfalso; omega)
    exact ⟨.inr rfl, endD (r := .v (.int .i64 0)) hl0 rfl (by simp) (by simp) rfl (by rw [low]; trivial) ⟨rfl, by rw [hge]⟩⟩
end
end Go.Proofs.YtgkjcmglcnhpaaaGreatDoor
