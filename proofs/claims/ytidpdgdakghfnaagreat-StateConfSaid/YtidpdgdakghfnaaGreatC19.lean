/-
  What the statements of the chapter share, part 19: RS, RM, LW2.
-/
import Derived.Test.YtidpdgdakghfnaaGreatC18
set_option linter.unusedVariables false
set_option linter.unusedSimpArgs false
set_option maxRecDepth 100000
set_option maxHeartbeats 8000000
namespace Go.Proofs.YtidpdgdakghfnaaGreat
open Go.RowKit
section
set_option maxRecDepth 100000
set_option maxHeartbeats 2000000
attribute [local irreducible] on aOp
attribute [local go_sem] decide_true decide_false Bool.not_true Bool.not_false
attribute [local simp] byD_len
theorem of_snoc {l : List Cmd} {x : Cmd} (hl : OkL l) (hx : x.Ok) : ofL (l ++ [x]) = insC x (ofL l) := by
 have hl2 : OkL (l ++ [x]) := hl.app fun c hc => by simp at hc; rw [hc]; exact hx
 refine sorted_ext (ofL_sorted _) (insC_sorted _ _ (ofL_sorted _)) fun c => ?_
 rw [mem_ofL hl2, List.mem_append]
 constructor
 · rintro (h | h)
   · exact insC_old _ _ _ ((mem_ofL hl).2 h)
   · simp at h; rw [h]; exact insC_new _ _ hx (ofL_ok hl)
 · intro h
   rcases insC_mem _ _ _ h with rfl | h
   · simp
   · exact .inl ((mem_ofL hl).1 h)
theorem ins_has {s : List Cmd} {x : Cmd} (hs : s.Pairwise LtC) (ho : OkL s) (hx : x.Ok) (h : x ∈ s) : insC x s = s := sorted_ext (insC_sorted _ _ hs) hs fun c => ⟨fun q => (insC_mem _ _ _ q).elim (fun e => e ▸ h) id, insC_old _ _ _⟩
theorem ins_at {a b : List Cmd} {x : Cmd} (hs : (a ++ b).Pairwise LtC) (ho : OkL (a ++ b)) (hx : x.Ok) (h1 : ∀ y ∈ b, LtC x y) (h2 : ∀ y, a.getLast? = some y → LtC y x) : insC x (a ++ b) = a ++ x :: b := by
 obtain ⟨ha, hb, hab⟩ := List.pairwise_append.1 hs
 have h3 : ∀ y ∈ a, LtC y x := fun y hy => by
  rcases List.eq_nil_or_concat a with rfl | ⟨t, z, hz⟩
  · cases hy
  · rw [List.concat_eq_append] at hz; subst hz
    have hz := h2 z (by simp)
    rcases List.mem_append.1 hy with hy | hy
    · exact ((List.pairwise_append.1 ha).2.2 y hy z (by simp)).trans hz
    · simp at hy; rw [hy]; exact hz
 refine sorted_ext (insC_sorted _ _ hs) (List.pairwise_append.2 ⟨ha, List.pairwise_cons.2 ⟨h1, hb⟩, fun y hy z hz => ?_⟩) fun c => ?_
 · rcases List.mem_cons.1 hz with rfl | hz
   · exact h3 y hy
   · exact (h3 y hy).trans (h1 z hz)
 · constructor
   · intro q
     rcases insC_mem _ _ _ q with rfl | q
     · simp
     · rcases List.mem_append.1 q with q | q <;> simp [q]
   · intro q
     rcases List.mem_append.1 q with q | q
     · exact insC_old _ _ _ (List.mem_append_left _ q)
     · rcases List.mem_cons.1 q with rfl | q
       · exact insC_new _ _ hx ho
       · exact insC_old _ _ _ (List.mem_append_right _ q)
theorem swap_rows (t b : List Cmd) (x z : Cmd) : (((t ++ [z] ++ x :: b).map cmdX).set t.length (cmdX x)).set (t ++ [z]).length (cmdX z) = (t ++ x :: z :: b).map cmdX := by
 simp [List.set_append]
variable (G : Nat → D) (hG : ∀ g, low 0 (G g))
include hG
theorem has_b (l : List Cmd) (c : Cmd) (ha : ∀ c ∈ l, c.Ok) (hc : c.Ok) (hl : l.length ≤ 1000000) {h : List Ob} {i n : Nat} (hi : h[i]? = some (.buf 40 6 (l.map cmdX))) (hn : l.length = n) : Does Tryz.prog G 20 h [.buf i n, .agg (cmdX c)] (fun h' r => h' = h ∧ r = .v (.bool (hasL l c))) :=
 Does.borrow hG hi (by rw [← hn]; exact List.length_map _) (by rw [lowL, lowL]; exact ⟨low_agg _ _, trivial⟩) (low_cms _ _) (has_d G hG l c ha hc hl [])
theorem rof0 (l : List Cmd) (hl : OkL l) (hsz : l.length ≤ 1000) : Does Tryz.prog G 57 [] [.sl 6 (l.map cmdX)] (fun h' r => h' = [.buf 40 6 ((ofL l).map cmdX)] ∧ r = .buf 0 (ofL l).length) := by
 refine Does.only0 hG (low_cms _ _) (K := fun h' r => ∃ i, h'[i]? = some (.buf 40 6 ((ofL l).map cmdX)) ∧ r = .buf i (ofL l).length) ?_ (fun _ _ h => h)
 refine does_keep Tryz.func57 rfl (Nat.le_of_ble_eq_true rfl) ?_
 simp only [Tryz.ntmps57]
 repeat' first
  | refine aw_seq' ?_
  | refine aw_region' ?_
  | refine aw_block ?_
  | refine ao_nil ?_
  | (refine ao1 rfl rfl fun K HK => ?_; simp only [go_sem, ↓reduceIte, Nat.reduceEqDiff, Nat.reduceAdd, Nat.reduceLeDiff, Nat.reduceBEq, Nat.reduceMul, Int.reduceEq, Int.reduceLT, Int.reduceLE] <;> (refine HK _ _ ?_; clear HK K))
 refine aw_for (fun m e h' => ∃ (k : Nat) (T : List Ob), k ≤ l.length ∧ m = l.length - k ∧ h' = oG ((ofL (l.take k)).map cmdX) T ∧ e 0 = .sl 6 (l.map cmdX) ∧ e 3 = .buf 0 (ofL (l.take k)).length ∧ e 4 = .v (.int .i64 k)) l.length ⟨0, [], Nat.zero_le _, rfl, rfl, rfl, rfl, rfl⟩ ?_
 rintro m e h' ⟨k, T, hk, rfl, rfl, e0, e3, e4⟩
 by_cases hlt : k < l.length
 rotate_left
 · rw [List.take_of_length_le (by omega)] at e3 ⊢
   repeat' first
    | refine aw_seq' ?_
    | refine aw_region' ?_
    | refine aw_block ?_
    | refine ao_nil ?_
    | (refine ao1 rfl rfl fun K HK => ?_; simp only [go_sem, ↓reduceIte, Nat.reduceEqDiff, Nat.reduceAdd, Nat.reduceLeDiff, Nat.reduceBEq, Nat.reduceMul, Int.reduceEq, Int.reduceLT, Int.reduceLE, e0, e3, e4, List.length_map]; (first | refine splitB (fun hq => ?_) (fun hq => ?_) | (refine ⟨by omega, by omega, ?_⟩; intro row hrow; obtain ⟨x, hx, rfl⟩ := row_inv hrow; clear hrow) | skip) <;> (refine HK _ _ ?_; clear HK K))
    | refine aw_if1 rfl ?_
    | refine aw_if0 rfl ?_
    | refine aw_skip ?_
    | refine aw_exit ?_
    | refine aw_ret ?_
    | (exfalso; omega)
   exact ⟨.inr rfl, [.buf 0 (ofL l).length], rfl, 0, rfl, rfl⟩
 have hx : l[k]? = some l[k] := List.getElem?_eq_getElem hlt
 have hxo := hl _ (List.getElem_mem hlt)
 generalize l[k] = x at hx hxo
 have htk : l.take (k + 1) = l.take k ++ [x] := by rw [List.take_add_one, hx]; rfl
 have hok : OkL (l.take k) := fun c hc => hl c (List.mem_of_mem_take hc)
 have hof := of_snoc hok hxo
 rw [← htk] at hof
 have wk : IntKind.i64.wrap ((k : Int) + 1) = (k : Int) + 1 := IntWalk.i64_in _ (by omega)
 have hso := ofL_sorted (l.take k)
 have hoo := ofL_ok hok
 have hln : (ofL (l.take k)).length ≤ 1000 := by have := ofL_len (l.take k); rw [List.length_take] at this; omega
 generalize ofL (l.take k) = s at *
 have hb : ∀ T, Does Tryz.prog G 20 (oG (s.map cmdX) T) [.buf 0 s.length, .agg (cmdX x)] (fun h' r => h' = oG (s.map cmdX) T ∧ r = .v (.bool (hasL s x))) := fun T => has_b G hG s x hoo hxo (by omega) oG_0 rfl
 cases hh : hasL s x
 rotate_left
 · rw [hh] at hb
   have hin := ins_has hso hoo hxo ((hasL_mem hoo hxo).1 hh)
   repeat' first
    | refine aw_seq' ?_
    | refine aw_region' ?_
    | refine aw_block ?_
    | refine ao_nil ?_
    | (refine ao1 rfl rfl fun K HK => ?_; simp only [go_sem, ↓reduceIte, Nat.reduceEqDiff, Nat.reduceAdd, Nat.reduceLeDiff, Nat.reduceBEq, Nat.reduceMul, Int.reduceEq, Int.reduceLT, Int.reduceLE, e0, e3, e4, wk, cmdX_eq, List.length_map, Int.toNat_natCast]; (first | refine splitB (fun hq => ?_) (fun hq => ?_) | (refine ⟨by omega, by omega, ?_⟩; refine row_at (by assumption) ?_) | skip) <;> (refine HK _ _ ?_; clear HK K))
    | (refine ao2 rfl rfl rfl ent_20 (hb _) ?_; rintro _ _ ⟨rfl, rfl⟩)
    | refine aw_if1 rfl ?_
    | refine aw_if0 rfl ?_
    | refine aw_skip ?_
    | refine aw_exit ?_
    | refine aw_ret ?_
    | refine thenS_n ?_
    | (exfalso; omega)
   exact ⟨rfl, l.length - (k + 1), by omega, k + 1, _, by omega, rfl, by rw [hof, hin], e0, by rw [hof, hin]; exact e3, rfl⟩
 rw [hh] at hb
 have hnot : x ∉ s := fun q => by rw [(hasL_mem hoo hxo).2 q] at hh; cases hh
 repeat' first
  | refine aw_seq' ?_
  | refine aw_region' ?_
  | refine aw_block ?_
  | refine ao_nil ?_
  | (refine ao1 rfl rfl fun K HK => ?_; simp only [go_sem, ↓reduceIte, Nat.reduceEqDiff, Nat.reduceAdd, Nat.reduceLeDiff, Nat.reduceBEq, Nat.reduceMul, Int.reduceEq, Int.reduceLT, Int.reduceLE, e0, e3, e4, wk, cmdX_eq, oG_app, oG_len, oG_last, oG_0, List.length_map, Int.toNat_natCast]; (first | refine splitB (fun hq => ?_) (fun hq => ?_) | (refine ⟨by omega, by omega, ?_⟩; refine row_at (by assumption) ?_) | skip) <;> (refine HK _ _ ?_; clear HK K))
  | refine ao_appB rfl rfl rfl rfl (by (simp only [go_sem, ↓reduceIte, Nat.reduceEqDiff, Nat.reduceAdd, Nat.reduceLeDiff, Nat.reduceBEq, Nat.reduceMul, Int.reduceEq, Int.reduceLT, Int.reduceLE, e0, e3, e4, wk, cmdX_eq, oG_app, oG_len, oG_last, oG_0, List.length_map, Int.toNat_natCast]; rfl)) (by simp) (by simp only [go_sem]; rfl) (by (simp only [go_sem, ↓reduceIte, Nat.reduceEqDiff, Nat.reduceAdd, Nat.reduceLeDiff, Nat.reduceBEq, Nat.reduceMul, Int.reduceEq, Int.reduceLT, Int.reduceLE, e0, e3, e4, wk, cmdX_eq, oG_app, oG_len, oG_last, oG_0, List.length_map, Int.toNat_natCast]; rfl)) (by simp) (by (simp [rowsOk, D.one, Value.oneCell']; done)) (by (simp; omega)) ?_
  | (refine ao2 rfl rfl rfl ent_20 (hb _) ?_; rintro _ _ ⟨rfl, rfl⟩)
  | refine aw_if1 rfl ?_
  | refine aw_if0 rfl ?_
  | refine aw_skip ?_
  | refine aw_exit ?_
  | refine aw_ret ?_
  | (exfalso; omega)
 have w5 : IntKind.i64.wrap (((s.length + 1 : Nat) : Int) - 1) = (s.length : Int) := by rw [show (((s.length + 1 : Nat) : Int) - 1) = (s.length : Int) by omega]; exact IntWalk.i64_in _ (by omega)
 refine aw_for (fun m e h' => ∃ (a b : List Cmd) (U : List Ob), a ++ b = s ∧ m = a.length ∧ (∀ y ∈ b, LtC x y) ∧ h' = oG ((a ++ x :: b).map cmdX) U ∧ e 0 = .sl 6 (l.map cmdX) ∧ e 3 = .buf 0 (s.length + 1) ∧ e 4 = .v (.int .i64 k) ∧ e 5 = .v (.int .i64 a.length)) s.length
  ⟨s, [], _, by simp, rfl, by simp, by rw [List.map_append]; rfl, e0, rfl, e4, by show D.v (.int .i64 (IntKind.i64.wrap (((s.length + 1 : Nat) : Int) - 1))) = _; rw [w5]⟩ ?_
 clear e0 e3 e4 w5
 rintro m e h' ⟨a, b, U, rfl, rfl, hgt, rfl, e0, e3, e4, e5⟩
 have hrl : ((a ++ x :: b).map cmdX).length = (a ++ b).length + 1 := by simp; omega
 have hla : a.length ≤ 1000 := by rw [List.length_append] at hln; omega
 rcases List.eq_nil_or_concat a with rfl | ⟨t, z, hz⟩
 · have hi := ins_at (a := []) hso hoo hxo hgt (by simp)
   repeat' first
    | refine aw_seq' ?_
    | refine aw_region' ?_
    | refine ao_nil ?_
    | ((first | refine ao1 rfl rfl fun K HK => ?_ | refine aq1 rfl rfl fun K HK => ?_); (first | refine aOp_pick rfl ?_ | skip); simp only [go_sem, ↓reduceIte, Nat.reduceEqDiff, Nat.reduceAdd, Nat.reduceLeDiff, Nat.reduceBEq, Nat.reduceMul, Int.reduceEq, Int.reduceLT, Int.reduceLE, e0, e3, e4, e5, wk]; (first | refine splitB (fun hq => ?_) (fun hq => ?_) | skip) <;> ((first | refine HK _ _ ?_ | refine HK _ _ rfl ?_); clear HK K))
    | refine aq0 rfl rfl ?_
    | refine aq_nil ?_
    | (refine aw_draw mixd (by kernel_rfl) ?_)
    | refine aw_if0 rfl ?_
    | refine aw_exit ?_
    | refine thenS_n ?_
    | (exfalso; omega)
   exact ⟨rfl, l.length - (k + 1), by omega, k + 1, U, by omega, rfl, by rw [hof, hi]; rfl, e0, by show e 3 = _; rw [e3, hof, hi]; rfl, rfl⟩
 rw [List.concat_eq_append] at hz; subst hz
 have hzo : z.Ok := hoo z (by simp)
 have w1 : IntKind.i64.wrap (((t ++ [z]).length : Int) - 1) = (t.length : Int) := by rw [show (((t ++ [z]).length : Int) - 1) = (t.length : Int) by simp]; exact IntWalk.i64_in _ (by rw [List.length_append] at hla; omega)
 have hzr : ((t ++ [z] ++ x :: b).map cmdX)[(t.length : Int).toNat]? = some (cmdX z) := by rw [Int.toNat_natCast]; simp
 have hxr : ((t ++ [z] ++ x :: b).map cmdX)[((t ++ [z]).length : Int).toNat]? = some (cmdX x) := by rw [Int.toNat_natCast, List.getElem?_map, List.getElem?_append_right (Nat.le_refl _)]; simp
 have hpos : (0 : Int) < ((t ++ [z]).length : Int) := by rw [List.length_append]; simp only [List.length_cons, List.length_nil]; omega
 have hlt3 : ((t ++ [z]).length : Int) < (((t ++ [z] ++ b).length + 1 : Nat) : Int) := by simp only [List.length_append, List.length_cons, List.length_nil]; omega
 have hlt4 : (t.length : Int) < (((t ++ [z] ++ b).length + 1 : Nat) : Int) := by simp only [List.length_append, List.length_cons, List.length_nil]; omega
 generalize hn1 : (t ++ [z]).length = n1 at *
 generalize hn2 : (t ++ [z] ++ b).length + 1 = n2 at *
 generalize hrw : (t ++ [z] ++ x :: b).map cmdX = rows at *
 have hne : t.length ≠ n1 := by rw [← hn1]; simp
 have hxr2 : ∀ y, (rows.set (t.length : Int).toNat y)[(n1 : Int).toNat]? = some (cmdX x) := fun y => by rw [List.getElem?_set_ne (by rw [Int.toNat_natCast, Int.toNat_natCast]; exact hne)]; exact hxr
 have hls : ∀ y, (rows.set (t.length : Int).toNat y).length = n2 := fun y => by rw [List.length_set]; exact hrl
 repeat' first
  | (refine aS_idxB rfl rfl rfl rfl oG_0 hrl (by rw [elT_22]; exact szT_40) (by omega) (by omega) ?_)
  | (refine aS_idxB rfl rfl rfl rfl rfl (hls _) (by rw [elT_22]; exact szT_40) (by omega) (by omega) ?_)
  | (refine aS_loadB rfl rfl rfl oG_0 hrl hzr (getC _) ?_)
  | (refine aS_loadB rfl rfl rfl oG_0 hrl hxr (getC _) ?_)
  | (refine aS_storeB rfl rfl oG_0 hrl hzr rfl (by rw [one_cmd, szT_40]; rfl) (Nat.le_refl 6) ?_)
  | (refine aS_storeB rfl rfl rfl (hls _) (hxr2 _) rfl (by rw [one_cmd, szT_40]; rfl) (Nat.le_refl 6) ?_)
  | refine aw_seq' ?_
  | refine aw_region' ?_
  | refine aw_block ?_
  | refine ao_nil ?_
  | ((first | refine ao1 rfl rfl fun K HK => ?_ | refine aS1 rfl rfl fun K HK => ?_); (first | refine aOp_pick rfl ?_ | skip); simp only [go_sem, ↓reduceIte, Nat.reduceEqDiff, Nat.reduceAdd, Nat.reduceLeDiff, Nat.reduceBEq, Nat.reduceMul, Int.reduceEq, Int.reduceLT, Int.reduceLE, e0, e3, e4, e5, wk, w1, hpos]; (first | refine splitB (fun hq => ?_) (fun hq => ?_) | skip) <;> ((first | refine HK _ _ ?_ | refine HK _ _ rfl ?_); clear HK K))
  | (refine aw_drawE mixd (by kernel_rfl) ?_)
  | refine aS_nil (by simp only [List.reverse_cons, List.reverse_nil, List.nil_append, List.cons_append, chkAll, chk1]; repeat' (first | exact trivial | refine And.intro ?_ ?_ | exact .inr compat_pl | exact .inr compat_pr | exact .inr compat_rr | exact .inl (by kernel_rfl))) ?_
  | refine aS_call0 rfl rfl rfl ent_40 (fun h2 => rcompare_d G hG z x hzo hxo _) ?_
  | refine aw_if1 rfl ?_
  | refine aw_if0 rfl ?_
  | refine aw_skip ?_
  | refine aw_exit ?_
  | refine thenS_n ?_
 · have hxz : LtC x z := by
    rcases cmpC_cases z x with ⟨_, q⟩ | ⟨_, q⟩ | ⟨q, _⟩
    · exfalso; omega
    · exfalso; omega
    · exact q
   refine ⟨rfl, t.length, by rw [← hn1]; simp, t, z :: b, U, by simp, rfl, fun y hy => ?_, ?_, e0, e3, e4, rfl⟩
   · rcases List.mem_cons.1 hy with rfl | hy
     · exact hxz
     · exact hgt y hy
   · show oG ((rows.set (t.length : Int).toNat (putL (cmdX z) 0 (cmdX x))).set (n1 : Int).toNat (putL (cmdX x) 0 (cmdX z))) U = _
     rw [put_cmd rfl, put_cmd rfl, Int.toNat_natCast, Int.toNat_natCast, ← hrw, ← hn1, swap_rows]
 · have hzx : LtC z x := by
    rcases cmpC_cases z x with ⟨q, _⟩ | ⟨q, _⟩ | ⟨_, q⟩
    · exact q
    · exact absurd (show x ∈ t ++ [z] ++ b by rw [← q.eq hzo hxo]; simp) hnot
    · exfalso; omega
   have hi := ins_at (a := t ++ [z]) hso hoo hxo hgt (fun y hy => by simp at hy; rw [← hy]; exact hzx)
   exact ⟨rfl, l.length - (k + 1), by omega, k + 1, U, by omega, rfl, by rw [hof, hi, hrw], e0, by show e 3 = _; rw [e3, hof, hi, ← hn2]; congr 1; simp only [List.length_append, List.length_cons, List.length_nil]; omega, rfl⟩
end
section
set_option maxRecDepth 100000
set_option maxHeartbeats 2000000
attribute [local irreducible] on aOp
attribute [local go_sem] decide_true decide_false Bool.not_true Bool.not_false
attribute [local simp] byD_len
theorem minusL_of {a b : List Cmd} (ha : OkL a) (hb : OkL b) : ofL (delL (hasL b) a) = minusL a b := by
 have hd : OkL (delL (hasL b) a) := fun c hc => ha c (List.mem_filter.1 hc).1
 refine sorted_ext (ofL_sorted _) (minusL_sorted _ _) fun c => ?_
 rw [mem_ofL hd, mem_minusL ha hb]
 unfold delL
 rw [List.mem_filter]
 constructor
 · rintro ⟨h1, h2⟩
   refine ⟨h1, fun h => ?_⟩
   rw [(hasL_mem hb (ha c h1)).2 h] at h2; cases h2
 · rintro ⟨h1, h2⟩
   refine ⟨h1, ?_⟩
   cases h : hasL b c
   · rfl
   · exact absurd ((hasL_mem hb (ha c h1)).1 h) h2
variable (G : Nat → D) (hG : ∀ g, low 0 (G g))
include hG
theorem rof_b (l : List Cmd) (hl : OkL l) (hsz : l.length ≤ 1000) {h : List Ob} {i E n : Nat} (hi : h[i]? = some (.buf E 6 (l.map cmdX))) (hn : l.length = n) : Does Tryz.prog G 57 h [.buf i n] (fun h' r => h' = h.set i .dead ++ [.buf 40 6 ((ofL l).map cmdX)] ∧ r = .buf h.length (ofL l).length) := by
 refine Does.give1 hi (by rw [← hn]; exact List.length_map _) ?_
 have := does_newR hG (low_cms _ _) (by rw [lowL, lowL]; exact ⟨low_cms _ _, trivial⟩) (rof0 G hG l hl hsz) (h.set i .dead)
 rwa [List.length_set] at this
theorem rminus0 (a b : List Cmd) (ha : OkL a) (hb : OkL b) (la : a.length ≤ 1000) (lb : b.length ≤ 1000) : Does Tryz.prog G 55 [] [.sl 6 (a.map cmdX), .sl 6 (b.map cmdX)] (fun h' r => h' = [.buf 40 6 ((minusL a b).map cmdX)] ∧ r = .buf 0 (minusL a b).length) := by
 refine Does.only0 hG (low_cms _ _) (K := fun h' r => ∃ i, h'[i]? = some (.buf 40 6 ((minusL a b).map cmdX)) ∧ r = .buf i (minusL a b).length) ?_ (fun _ _ h => h)
 refine does_keep Tryz.func55 rfl (Nat.le_of_ble_eq_true rfl) ?_
 simp only [Tryz.ntmps55]
 repeat' first
  | refine aw_seq' ?_
  | refine aw_region' ?_
  | refine aw_block ?_
  | refine ao_nil ?_
  | (refine ao1 rfl rfl fun K HK => ?_; simp only [go_sem, ↓reduceIte, Nat.reduceEqDiff, Nat.reduceAdd, Nat.reduceLeDiff, Nat.reduceBEq, Nat.reduceMul, Int.reduceEq, Int.reduceLT, Int.reduceLE] <;> (refine HK _ _ ?_; clear HK K))
 refine aw_for (fun m e h' => ∃ (k : Nat) (T : List Ob), k ≤ a.length ∧ m = a.length - k ∧ h' = oG ((delL (hasL b) (a.take k)).map cmdX) T ∧ e 0 = .sl 6 (a.map cmdX) ∧ e 1 = .sl 6 (b.map cmdX) ∧ e 5 = .buf 0 (delL (hasL b) (a.take k)).length ∧ e 6 = .v (.int .i64 k)) a.length ⟨0, [], Nat.zero_le _, rfl, rfl, rfl, rfl, rfl, rfl⟩ ?_
 rintro m e h' ⟨k, T, hk, rfl, rfl, e0, e1, e5, e6⟩
 by_cases hlt : k < a.length
 rotate_left
 · rw [List.take_of_length_le (by omega)] at e5 ⊢
   have hm := minusL_of ha hb
   have hdo : OkL (delL (hasL b) a) := fun c hc => ha c (List.mem_filter.1 hc).1
   have hdl := delL_len (hasL b) a
   have hlt' : ¬ (k : Int) < (a.length : Int) := by omega
   repeat' first
    | (refine ao_callK rfl rfl rfl (by kernel_rfl) (rof_b G hG _ hdo (by omega) oG_0 rfl) ?_; rintro _ _ ⟨rfl, rfl⟩; rw [hm])
    | refine aw_seq' ?_
    | refine aw_region' ?_
    | refine ao_nil ?_
    | (refine ao1 rfl rfl fun K HK => ?_; simp only [go_sem, ↓reduceIte, Nat.reduceEqDiff, Nat.reduceAdd, Nat.reduceLeDiff, Nat.reduceBEq, Nat.reduceMul, Int.reduceEq, Int.reduceLT, Int.reduceLE, hlt', e0, e1, e5, e6, List.length_map] <;> (refine HK _ _ ?_; clear HK K))
    | refine aw_if0 rfl ?_
    | refine aw_exit ?_
    | refine aw_ret ?_
   exact ⟨.inr rfl, [.buf _ (minusL a b).length], rfl, _, by rw [List.getElem?_append_right (by simp)]; simp, rfl⟩
 have hx : a[k]? = some a[k] := List.getElem?_eq_getElem hlt
 have hxo := ha _ (List.getElem_mem hlt)
 generalize a[k] = x at hx hxo
 have hd := delL_take (p := hasL b) hx
 have hdl : (delL (hasL b) (a.take k)).length ≤ 1000 := by have := delL_len (hasL b) (a.take k); rw [List.length_take] at this; omega
 generalize delL (hasL b) (a.take k) = s at *
 have wk : IntKind.i64.wrap ((k : Int) + 1) = (k : Int) + 1 := IntWalk.i64_in _ (by omega)
 have hlt' : (k : Int) < (a.length : Int) := by omega
 have hH := has_d G hG b x hb hxo (by omega)
 cases hh : hasL b x
 · rw [hh] at hH hd
   rw [if_neg (by decide)] at hd
   repeat' first
    | refine aw_seq' ?_
    | refine aw_region' ?_
    | refine aw_block ?_
    | refine ao_nil ?_
    | (refine ao1 rfl rfl fun K HK => ?_; simp only [go_sem, ↓reduceIte, Nat.reduceEqDiff, Nat.reduceAdd, Nat.reduceLeDiff, Nat.reduceBEq, Nat.reduceMul, Int.reduceEq, Int.reduceLT, Int.reduceLE, hlt', e0, e1, e5, e6, wk, cmdX_eq, oG_app, oG_len, oG_last, oG_0, List.length_map, Int.toNat_natCast]; (first | (refine ⟨by omega, ?_⟩; refine row_at (by assumption) ?_) | skip) <;> (refine HK _ _ ?_; clear HK K))
    | refine ao_appB rfl rfl rfl rfl (by (simp only [go_sem, ↓reduceIte, Nat.reduceEqDiff, Nat.reduceAdd, Nat.reduceLeDiff, Nat.reduceBEq, Nat.reduceMul, Int.reduceEq, Int.reduceLT, Int.reduceLE, hlt', e0, e1, e5, e6, wk, cmdX_eq, oG_app, oG_len, oG_last, oG_0, List.length_map, Int.toNat_natCast]; rfl)) (by simp) (by simp only [go_sem]; rfl) (by (simp only [go_sem, ↓reduceIte, Nat.reduceEqDiff, Nat.reduceAdd, Nat.reduceLeDiff, Nat.reduceBEq, Nat.reduceMul, Int.reduceEq, Int.reduceLT, Int.reduceLE, hlt', e0, e1, e5, e6, wk, cmdX_eq, oG_app, oG_len, oG_last, oG_0, List.length_map, Int.toNat_natCast]; rfl)) (by simp) (by (simp [rowsOk, D.one, Value.oneCell']; done)) (by (simp; omega)) ?_
    | (refine ao2 rfl rfl rfl ent_20 (hH _) ?_; rintro _ _ ⟨rfl, rfl⟩)
    | refine aw_if1 rfl ?_
    | refine aw_skip ?_
    | refine thenS_n ?_
   exact ⟨rfl, a.length - (k + 1), by omega, k + 1, _, by omega, rfl, by rw [hd, List.map_append]; rfl, e0, e1, by rw [hd, List.length_append]; rfl, rfl⟩
 · rw [hh] at hH hd
   rw [if_pos rfl, List.append_nil] at hd
   repeat' first
    | refine aw_seq' ?_
    | refine aw_region' ?_
    | refine aw_block ?_
    | refine ao_nil ?_
    | (refine ao1 rfl rfl fun K HK => ?_; simp only [go_sem, ↓reduceIte, Nat.reduceEqDiff, Nat.reduceAdd, Nat.reduceLeDiff, Nat.reduceBEq, Nat.reduceMul, Int.reduceEq, Int.reduceLT, Int.reduceLE, hlt', e0, e1, e5, e6, wk, cmdX_eq, List.length_map, Int.toNat_natCast]; (first | (refine ⟨by omega, ?_⟩; refine row_at (by assumption) ?_) | skip) <;> (refine HK _ _ ?_; clear HK K))
    | (refine ao2 rfl rfl rfl ent_20 (hH _) ?_; rintro _ _ ⟨rfl, rfl⟩)
    | refine aw_if1 rfl ?_
    | refine aw_if0 rfl ?_
    | refine aw_skip ?_
    | refine thenS_n ?_
   exact ⟨rfl, a.length - (k + 1), by omega, k + 1, T, by omega, rfl, by rw [hd], e0, e1, by rw [hd]; exact e5, rfl⟩
theorem rsubset_d (a b : List Cmd) (ha : OkL a) (hb : OkL b) (la : a.length ≤ 1000) (lb : b.length ≤ 1000) (h0 : (minusL a b).length = 0) (h : List Ob) : Does Tryz.prog G 22 h [.sl 6 (a.map cmdX), .sl 6 (b.map cmdX)] (fun h' r => h' = h ∧ r = .v (.bool true)) := by
 have hM := Does.gave0 hG (low_cms 0 _) (by rw [lowL, lowL, lowL]; exact ⟨low_cms _ _, low_cms _ _, trivial⟩) (List.length_map _) (rminus0 G hG a b ha hb la lb)
 refine does_any G hG (by rw [lowL, lowL, lowL]; exact ⟨low_cms _ _, low_cms _ _, trivial⟩) (by rw [low]; trivial) ?_ h
 refine does_of_aw Tryz.func22 rfl (Nat.le_of_ble_eq_true rfl) hG fun hl0 _ => ?_
 simp only [Tryz.ntmps22]
 have h0' : ((minusL a b).length : Int) = 0 := by omega
 repeat' first
  | refine aw_seq' ?_
  | refine aw_region' ?_
  | refine ao_nil ?_
  | (refine ao1 rfl rfl fun K HK => ?_; simp only [go_sem, ↓reduceIte, Nat.reduceEqDiff, Nat.reduceAdd, Nat.reduceLeDiff, Nat.reduceBEq, Nat.reduceMul, Int.reduceEq, Int.reduceLT, Int.reduceLE, h0', List.length_map] <;> (refine HK _ _ ?_; clear HK K))
  | (refine ao2 rfl rfl rfl ent_55 (hM _) ?_; rintro _ _ ⟨rfl, rfl⟩)
  | refine aw_ret ?_
 all_goals exact ⟨.inr rfl, endD (r := .v _) hl0 rfl (by simp) (by simp) rfl (by rw [low]; trivial) ⟨rfl, rfl⟩⟩
end
section
set_option maxRecDepth 100000
set_option maxHeartbeats 2000000
attribute [local irreducible] on aOp
attribute [local go_sem] decide_true decide_false Bool.not_true Bool.not_false
attribute [local simp] byD_len
theorem confL_ok {a : List Cmd} (ha : OkL a) : OkL (confL a) := fun c hc => ofL_ok ha c (List.mem_filter.1 hc).1
theorem confL_sorted (a : List Cmd) : (confL a).Pairwise LtC := (ofL_sorted a).filter _
theorem mem_confL {a : List Cmd} {c : Cmd} (ha : OkL a) : c ∈ confL a ↔ c ∈ a ∧ isConf c = true := by
 unfold confL; rw [List.mem_filter, mem_ofL ha]
theorem confL_len (a : List Cmd) : (confL a).length ≤ a.length := Nat.le_trans (List.length_filter_le _ _) (ofL_len a)
section
variable {a b : List Cmd} (ha : OkL a) (hb : OkL b)
include ha hb
theorem conf_join : confL (joinL a b) = joinL (confL a) (confL b) := sorted_ext (confL_sorted _) (joinL_sorted _ _) fun c => by
 rw [mem_confL (joinL_ok ha hb), mem_joinL (confL_ok ha) (confL_ok hb), mem_joinL ha hb, mem_confL ha, mem_confL hb]
 constructor
 · rintro ⟨h1 | h1, h2⟩
   · exact .inl ⟨h1, h2⟩
   · exact .inr ⟨h1, h2⟩
 · rintro (⟨h1, h2⟩ | ⟨h1, h2⟩)
   · exact ⟨.inl h1, h2⟩
   · exact ⟨.inr h1, h2⟩
theorem conf_minus : confL (minusL a b) = minusL (confL a) (confL b) := sorted_ext (confL_sorted _) (minusL_sorted _ _) fun c => by
 rw [mem_confL (minusL_ok ha), mem_minusL (confL_ok ha) (confL_ok hb), mem_minusL ha hb, mem_confL ha, mem_confL hb]
 constructor
 · rintro ⟨⟨h1, h2⟩, h3⟩
   exact ⟨⟨h1, h3⟩, fun h => h2 h.1⟩
 · rintro ⟨⟨h1, h2⟩, h3⟩
   exact ⟨⟨h1, fun h => h3 ⟨h, h2⟩⟩, h2⟩
end
theorem has_conf {a : List Cmd} (ha : OkL a) {c : Cmd} (hc : c ∈ a) : hasL (confL a) c = isConf c := by
 rw [Bool.eq_iff_iff, hasL_mem (confL_ok ha) (ha c hc), mem_confL ha]
 exact ⟨fun h => h.2, fun h => ⟨hc, h⟩⟩
theorem conf_sub {a : List Cmd} (ha : OkL a) : (minusL (confL a) a).length = 0 := (minus_nil (confL_ok ha) ha).2 fun c hc => ((mem_confL ha).1 hc).1
variable (G : Nat → D) (hG : ∀ g, low 0 (G g))
include hG
theorem lawConf (aw : Awake G) (a b : List Cmd) (na : ∀ x ∈ a, Nums x) (nb : ∀ x ∈ b, Nums x) (h : List Ob) : Does Tryz.prog G 5 h [.sl 6 (a.map cmdX), .sl 6 (b.map cmdX)] (fun h' r => h' = h ∧ r = .v (.bool true)) := by
 refine does_any G hG (by rw [lowL, lowL, lowL]; exact ⟨low_cms _ _, low_cms _ _, trivial⟩) (by rw [low]; trivial) ?_ h
 refine does_of_aw Tryz.func5 rfl (Nat.le_of_ble_eq_true rfl) hG fun hl0 _ => ?_
 simp only [Tryz.ntmps5]
 by_cases sa : SmallL a 12
 rotate_left
 · have q := small_n G hG (by decide) sa
   repeat' first
    | refine aw_seq' ?_
    | refine aw_region' ?_
    | refine ao_nil ?_
    | (refine ao1 rfl rfl fun K HK => ?_; (first | refine aOp_pick rfl ?_ | skip); simp only [go_sem, ↓reduceIte, Nat.reduceEqDiff, Nat.reduceAdd, Nat.reduceLeDiff, Nat.reduceBEq, Nat.reduceMul, Int.reduceEq, Int.reduceLT, Int.reduceLE] <;> (refine HK _ _ ?_; clear HK K))
    | refine ao0 rfl rfl ?_
    | (refine ao2 rfl rfl rfl ent_10 (q _) ?_; rintro _ _ ⟨rfl, rfl⟩)
    | (refine ao2 rfl rfl rfl ent_11 (aw _) ?_; rintro _ _ ⟨rfl, rfl⟩)
    | refine aw_if1 rfl ?_
    | refine aw_ret ?_
    | refine thenS_r ?_
   exact ⟨.inr rfl, endD (r := .v _) hl0 rfl (by simp) (by simp) rfl (by rw [low]; trivial) ⟨rfl, rfl⟩⟩
 have qa := small_y G hG (by decide) sa
 by_cases sb : SmallL b 12
 rotate_left
 · have q := small_n G hG (by decide) sb
   repeat' first
    | refine aw_seq' ?_
    | refine aw_region' ?_
    | refine ao_nil ?_
    | (refine ao1 rfl rfl fun K HK => ?_; (first | refine aOp_pick rfl ?_ | skip); simp only [go_sem, ↓reduceIte, Nat.reduceEqDiff, Nat.reduceAdd, Nat.reduceLeDiff, Nat.reduceBEq, Nat.reduceMul, Int.reduceEq, Int.reduceLT, Int.reduceLE] <;> (refine HK _ _ ?_; clear HK K))
    | (refine ao2 rfl rfl rfl ent_10 (qa _) ?_; rintro _ _ ⟨rfl, rfl⟩)
    | (refine ao2 rfl rfl rfl ent_10 (q _) ?_; rintro _ _ ⟨rfl, rfl⟩)
    | (refine ao2 rfl rfl rfl ent_11 (aw _) ?_; rintro _ _ ⟨rfl, rfl⟩)
    | refine aw_if1 rfl ?_
    | refine aw_ret ?_
    | refine thenS_r ?_
   exact ⟨.inr rfl, endD (r := .v _) hl0 rfl (by simp) (by simp) rfl (by rw [low]; trivial) ⟨rfl, rfl⟩⟩
 have qb := small_y G hG (by decide) sb
 have oa := okL_of_small na sa
 have ob := okL_of_small nb sb
 have la := sa.1
 have lb := sb.1
 have oca := confL_ok oa
 have ocb := confL_ok ob
 have lca := confL_len a
 have lcb := confL_len b
 repeat' first
  | refine aw_seq' ?_
  | refine aw_region' ?_
  | refine aw_block ?_
  | refine ao_nil ?_
  | (refine ao1 rfl rfl fun K HK => ?_; (first | refine aOp_pick rfl ?_ | skip); simp only [go_sem, ↓reduceIte, Nat.reduceEqDiff, Nat.reduceAdd, Nat.reduceLeDiff, Nat.reduceBEq, Nat.reduceMul, Int.reduceEq, Int.reduceLT, Int.reduceLE] <;> (refine HK _ _ ?_; clear HK K))
  | (refine ao2 rfl rfl rfl ent_10 (qa _) ?_; rintro _ _ ⟨rfl, rfl⟩)
  | (refine ao2 rfl rfl rfl ent_10 (qb _) ?_; rintro _ _ ⟨rfl, rfl⟩)
  | (refine ao2 rfl rfl rfl ent_19 (conf_s G hG a oa (by omega) _) ?_; rintro _ _ ⟨rfl, rfl⟩)
  | refine aw_if0 rfl ?_
  | refine aw_skip ?_
 refine aw_for (fun m e h' => ∃ k : Nat, k ≤ a.length ∧ m = a.length - k ∧ h' = [] ∧ e 0 = .sl 6 (a.map cmdX) ∧ e 1 = .sl 6 (b.map cmdX) ∧ e 5 = .sl 6 ((confL a).map cmdX) ∧ e 6 = .v (.int .i64 k)) a.length ⟨0, Nat.zero_le _, rfl, rfl, rfl, rfl, rfl, rfl⟩ ?_
 rintro m e h' ⟨k, hk, rfl, rfl, e0, e1, e5, e6⟩
 by_cases hlt : k < a.length
 · have hx : a[k]? = some a[k] := List.getElem?_eq_getElem hlt
   have hxm := List.getElem_mem hlt
   generalize a[k] = x at hx hxm
   have hxo := oa _ hxm
   have wk : IntKind.i64.wrap ((k : Int) + 1) = (k : Int) + 1 := IntWalk.i64_in _ (by omega)
   have hH := has_d G hG (confL a) x oca hxo (by omega)
   rw [has_conf oa hxm] at hH
   by_cases k2 : x.kind = 2
   · have d2 : decide (x.kind = 2) = true := decide_eq_true k2
     have hc : isConf x = true := by unfold isConf; rw [d2]; rfl
     rw [hc] at hH
     repeat' first
      | refine aw_seq' ?_
      | refine aw_region' ?_
      | refine aw_block ?_
      | refine ao_nil ?_
      | ((first | refine ao1 rfl rfl fun K HK => ?_ | refine aq1 rfl rfl fun K HK => ?_); (first | refine aOp_pick rfl ?_ | skip); simp only [go_sem, ↓reduceIte, Nat.reduceEqDiff, Nat.reduceAdd, Nat.reduceLeDiff, Nat.reduceBEq, Nat.reduceMul, Int.reduceEq, Int.reduceLT, Int.reduceLE, e0, e1, e5, e6, wk, d2, cmdX_eq, List.length_map, Int.toNat_natCast, Bool.false_eq_true]; (first | refine splitB (fun hq => ?_) (fun hq => ?_) | (refine ⟨by omega, by omega, ?_⟩; refine row_at (by assumption) ?_) | skip) <;> ((first | refine HK _ _ ?_ | refine HK _ _ rfl ?_); clear HK K))
      | refine aq0 rfl rfl ?_
      | refine aq_nil ?_
      | (refine aw_draw mixd (by kernel_rfl) ?_)
      | refine aq2 rfl rfl rfl ent_20 (hH _) ?_
      | refine aw_if1 rfl ?_
      | refine aw_if0 rfl ?_
      | refine aw_skip ?_
      | refine aw_exit ?_
      | refine thenS_n ?_
      | (exfalso; omega)
     exact ⟨rfl, a.length - (k + 1), by omega, k + 1, by omega, rfl, rfl, e0, e1, e5, rfl⟩
   by_cases k3 : x.kind = 3
   · have d2 : decide (x.kind = 2) = false := decide_eq_false k2
     have d3 : decide (x.kind = 3) = true := decide_eq_true k3
     have hc : isConf x = true := by unfold isConf; rw [d3, Bool.or_true]
     rw [hc] at hH
     repeat' first
      | refine aw_seq' ?_
      | refine aw_region' ?_
      | refine aw_block ?_
      | refine ao_nil ?_
      | ((first | refine ao1 rfl rfl fun K HK => ?_ | refine aq1 rfl rfl fun K HK => ?_); (first | refine aOp_pick rfl ?_ | skip); simp only [go_sem, ↓reduceIte, Nat.reduceEqDiff, Nat.reduceAdd, Nat.reduceLeDiff, Nat.reduceBEq, Nat.reduceMul, Int.reduceEq, Int.reduceLT, Int.reduceLE, e0, e1, e5, e6, wk, d2, d3, cmdX_eq, List.length_map, Int.toNat_natCast, Bool.false_eq_true]; (first | refine splitB (fun hq => ?_) (fun hq => ?_) | (refine ⟨by omega, by omega, ?_⟩; refine row_at (by assumption) ?_) | skip) <;> ((first | refine HK _ _ ?_ | refine HK _ _ rfl ?_); clear HK K))
      | refine aq_nil ?_
      | (refine aw_draw mixd (by kernel_rfl) ?_)
      | refine aq2 rfl rfl rfl ent_20 (hH _) ?_
      | refine aw_if1 rfl ?_
      | refine aw_if0 rfl ?_
      | refine aw_skip ?_
      | refine aw_exit ?_
      | refine thenS_n ?_
      | (exfalso; omega)
     exact ⟨rfl, a.length - (k + 1), by omega, k + 1, by omega, rfl, rfl, e0, e1, e5, rfl⟩
   · have hc : isConf x = false := by unfold isConf; rw [decide_eq_false k2, decide_eq_false k3]; rfl
     rw [hc] at hH
     repeat' first
      | refine aw_seq' ?_
      | refine aw_region' ?_
      | refine aw_block ?_
      | refine ao_nil ?_
      | ((first | refine ao1 rfl rfl fun K HK => ?_ | refine aq1 rfl rfl fun K HK => ?_); (first | refine aOp_pick rfl ?_ | skip); simp only [go_sem, ↓reduceIte, Nat.reduceEqDiff, Nat.reduceAdd, Nat.reduceLeDiff, Nat.reduceBEq, Nat.reduceMul, Int.reduceEq, Int.reduceLT, Int.reduceLE, e0, e1, e5, e6, wk, k2, k3, cmdX_eq, List.length_map, Int.toNat_natCast, Bool.false_eq_true]; (first | refine splitB (fun hq => ?_) (fun hq => ?_) | (refine ⟨by omega, by omega, ?_⟩; refine row_at (by assumption) ?_) | skip) <;> ((first | refine HK _ _ ?_ | refine HK _ _ rfl ?_); clear HK K))
      | refine aq_nil ?_
      | (refine aw_draw mixd (by kernel_rfl) ?_)
      | refine aq2 rfl rfl rfl ent_20 (hH _) ?_
      | refine aw_if1 rfl ?_
      | refine aw_if0 rfl ?_
      | refine aw_skip ?_
      | refine aw_exit ?_
      | refine thenS_n ?_
      | (exfalso; omega)
     exact ⟨rfl, a.length - (k + 1), by omega, k + 1, by omega, rfl, rfl, e0, e1, e5, rfl⟩
 have hlt' : ¬ (k : Int) < (a.length : Int) := by omega
 have f1 := sameL_of (conf_join oa ob)
 have f2 := sameL_of (conf_minus oa ob)
 have f3 := sortedL_of _ (confL_sorted a)
 have p1 := joinL_ok oa ob
 have p2 := minusL_ok (b := b) oa
 have p3 := joinL_ok oca ocb
 have p4 := minusL_ok (b := confL b) oca
 have p5 := confL_ok p1
 have p6 := confL_ok p2
 have l1 := joinL_len a b
 have l2 := minusL_len a b
 have l3 := confL_len (joinL a b)
 have l4 := confL_len (minusL a b)
 have q1 := rsubset_d G hG (confL a) a oca oa (by omega) (by omega) (conf_sub oa)
 repeat' first
  | refine aw_seq' ?_
  | refine aw_region' ?_
  | refine ao_nil ?_
  | (refine ao1 rfl rfl fun K HK => ?_; (first | refine aOp_pick rfl ?_ | skip); simp only [go_sem, ↓reduceIte, Nat.reduceEqDiff, Nat.reduceAdd, Nat.reduceLeDiff, Nat.reduceBEq, Nat.reduceMul, Int.reduceEq, Int.reduceLT, Int.reduceLE, e0, e1, e5, e6, hlt', f1, f2, f3, List.length_map] <;> (refine HK _ _ ?_; clear HK K))
  | (refine ao2 rfl rfl rfl ent_11 (aw _) ?_; rintro _ _ ⟨rfl, rfl⟩)
  | (refine ao2 rfl rfl rfl ent_12 (join_s G hG _ _ (by assumption) (by assumption) (by omega) (by omega) _) ?_; rintro _ _ ⟨rfl, rfl⟩)
  | (refine ao2 rfl rfl rfl ent_15 (minus_s G hG _ _ (by assumption) (by assumption) (by omega) (by omega) _) ?_; rintro _ _ ⟨rfl, rfl⟩)
  | (refine ao2 rfl rfl rfl ent_19 (conf_s G hG _ (by assumption) (by omega) _) ?_; rintro _ _ ⟨rfl, rfl⟩)
  | (refine ao2 rfl rfl rfl ent_13 (same_d G hG _ _ (by assumption) (by assumption) (by omega) _) ?_; rintro _ _ ⟨rfl, rfl⟩)
  | (refine ao2 rfl rfl rfl ent_21 (sorted_d G hG _ oca (by omega) _) ?_; rintro _ _ ⟨rfl, rfl⟩)
  | (refine ao2 rfl rfl rfl ent_22 (q1 _) ?_; rintro _ _ ⟨rfl, rfl⟩)
  | refine aw_if0 rfl ?_
  | refine aw_exit ?_
  | refine aw_ret ?_
 exact ⟨.inr rfl, endD (r := .v _) hl0 rfl (by simp) (by simp) rfl (by rw [low]; trivial) ⟨rfl, rfl⟩⟩
end
end Go.Proofs.YtidpdgdakghfnaaGreat
