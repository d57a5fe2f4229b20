/-
  What the statements of the chapter share, part 19: AW, BO, LW3.
-/
import Derived.Test.YtidpdgdakghfnaaGreatS11
import Derived.Test.YtidpdgdakghfnaaGreatS18
set_option linter.unusedVariables false
set_option linter.unusedSimpArgs false
set_option maxRecDepth 100000
set_option maxHeartbeats 8000000
namespace Go.Proofs.YtidpdgdakghfnaaGreat
open Go.RowKit
section
def G0 : Nat → D := fun _ => .any
theorem G0_low : ∀ g, low 0 (G0 g) := fun g => by unfold G0; rw [low]; trivial
theorem mixdB : Tryz.prog.follows .mixedOrders = true := by kernel_rfl
theorem awake_run : callK Tryz.prog G0 188 100000 100 11 [] [] = some ([], .v (.bool true)) := by kernel_rfl
theorem awake0 : Awake G0 := fun h => does_runK G0_low mixdB cmpX (by kernel_rfl) awake_run h
theorem ok0 (w : World) : Ok G0 w [] [] (fun k => decide (k < w.heap.size)) :=
 ⟨rfl, fun i ob u q => by simp at q, fun i j oi oj ui uj b q => by simp at q, fun g => by unfold G0; rw [rd]; trivial, fun g ds q => by cases q⟩
end
section
variable {P : Program} {G : Nat → D} {w w' : World} {hd : List Value} {h : List Ob} {p : Nat → Bool}
theorem Ok.kept (o : Ok G w hd h p) (h1 : w'.os = w.os ∧ w.drawn ≤ w'.drawn) (h2 : w'.tape = w.tape) (h3 : w'.output = w.output) (h4 : w.heap.size ≤ w'.heap.size) (h5 : ∀ b, b < w.heap.size → w'.heap[b]? = w.heap[b]?) : Ok G w' hd h p ∧ Evo w hd h p w' hd h p := by
 have e : Evo w hd h p w' hd h p := ⟨h1, h2, h3, h4, fun k hk _ => h5 k hk, fun _ _ q => q, fun _ _ q => .inl q, fun _ _ q => q, .refl _ _⟩
 exact ⟨⟨o.len, fun i ob u h1 h2 => obOk.move e o (o.ob i ob u h1 h2) (fun hl k hk => h5 k (o.lt ⟨i, ob, u, h1, hl, h2, hk⟩)) (fun _ _ _ q => q), o.inj, gl_move e o, ex_move e o⟩, e⟩
theorem Does.borrow (hG : ∀ g, low 0 (G g)) {f : FuncId} {args : List D} {i E k n : Nat} {rows : List (List D)} {x : Value} (hi : h[i]? = some (.buf E k rows)) (hn : rows.length = n) (la : lowL 0 args) (lr : low 0 (.sl k rows)) (q : Does P G f [] (.sl k rows :: args) (fun h' r => h' = [] ∧ r = .v x)) : Does P G f h (.buf i n :: args) (fun h' r => h' = h ∧ r = .v x) := fun w hd p vs ok ha => by
 rw [rdL] at ha
 obtain ⟨u, t, rfl, hu, ht⟩ := ha
 obtain ⟨p', o', ev, cv⟩ := ok.give (fun j => j == i)
 have hr := cv _ _ hu
 have e : cvD (fun j => j == i) h (.buf i n) = .sl k rows := by simp [cvD, cv1, hi, hn]
 rw [e] at hr
 have ht2 := ev.rdL ok ht
 have o2 := o'.take (m := 0) (fun x hx => by simp at hx) hG
 have r1 := rd_take (m := 0) o'.len _ _ lr hr
 have r2 := rdL_takeH (m := 0) o'.len _ _ la ht2
 simp only [List.take_zero] at o2 r1 r2
 refine (q w [] p' (u :: t) o2 (by rw [rdL]; exact ⟨u, t, rfl, r1, r2⟩)).mono ?_
 rintro e w' ⟨v, hd', h', r, p2, rfl, ⟨rfl, rfl⟩, ok2, hr2, ev2⟩
 rw [rd] at hr2; subst hr2
 obtain ⟨o3, ev3⟩ := ok.kept ev2.os ev2.tape ev2.output ev2.size fun b hb => ev2.keep b hb fun ⟨j, ob, u, q, _⟩ => by simp at q
 exact ⟨_, hd, h, .v _, p, rfl, ⟨rfl, rfl⟩, o3, by rw [rd], ev3⟩
end
section
set_option maxRecDepth 100000
set_option maxHeartbeats 4000000
attribute [local irreducible] on aOp
attribute [local go_sem] decide_true decide_false Bool.not_true Bool.not_false
attribute [local simp] byD_len
theorem has_of {a : List Cmd} {d : Cmd} (ha : OkL a) (hd : d.Ok) : hasL (ofL a) d = hasL a d := by
 rw [Bool.eq_iff_iff, hasL_mem (ofL_ok ha) hd, hasL_mem ha hd, mem_ofL ha]
theorem has_join {a b : List Cmd} {d : Cmd} (ha : OkL a) (hb : OkL b) (hd : d.Ok) : hasL (joinL a b) d = (hasL a d || hasL b d) := by
 rw [Bool.eq_iff_iff, Bool.or_eq_true, hasL_mem (joinL_ok ha hb) hd, hasL_mem ha hd, hasL_mem hb hd, mem_joinL ha hb]
theorem has_minus {a b : List Cmd} {d : Cmd} (ha : OkL a) (hb : OkL b) (hd : d.Ok) : hasL (minusL a b) d = (hasL a d && !hasL b d) := by
 rw [Bool.eq_iff_iff, Bool.and_eq_true, Bool.not_eq_true', ← Bool.not_eq_true, hasL_mem (minusL_ok ha) hd, hasL_mem ha hd, hasL_mem hb hd, mem_minusL ha hb]
def hS (c : Cmd) (R : Ob) (rows : List (List D)) (T : List Ob) : List Ob := .cells (cmdX c) :: R :: .buf 40 6 rows :: T
section
variable {c : Cmd} {R o y : Ob} {rows r2 : List (List D)} {T : List Ob}
theorem hS_0 : (hS c R rows T)[0]? = some (.cells (cmdX c)) := rfl
theorem hS_2 : (hS c R rows T)[2]? = some (.buf 40 6 rows) := rfl
theorem hS_app : hS c R rows T ++ [o] = hS c R rows (T ++ [o]) := rfl
theorem hS_len : (hS c R rows T).length = T.length + 3 := rfl
theorem hS_last : (hS c R rows (T ++ [o]))[T.length + 3]? = some o := by simp [hS]
theorem hS_lset : (hS c R rows (T ++ [o])).set (T.length + 3) y = hS c R rows (T ++ [y]) := by simp [hS]
end
variable (G : Nat → D) (hG : ∀ g, low 0 (G g))
include hG
theorem lawSets (aw : Awake G) (a b : List Cmd) (c : Cmd) (na : ∀ x ∈ a, Nums x) (nb : ∀ x ∈ b, Nums x) (nc : Nums c) (h : List Ob) : Does Tryz.prog G 8 h [.sl 6 (a.map cmdX), .sl 6 (b.map cmdX), .agg (cmdX c)] (fun h' r => h' = h ∧ r = .v (.bool true)) := by
 refine does_any G hG (by rw [lowL, lowL, lowL, lowL]; exact ⟨low_cms _ _, low_cms _ _, low_agg _ _, trivial⟩) (by rw [low]; trivial) ?_ h
 refine does_of_aw Tryz.func8 rfl (Nat.le_of_ble_eq_true rfl) hG fun hl0 _ => ?_
 simp only [Tryz.ntmps8]
 by_cases sa : SmallL a 12
 rotate_left
 · have q := small_n G hG (by decide) sa
   repeat' first
    | refine aw_seq' ?_
    | refine aw_region' ?_
    | refine ao_nil ?_
    | (refine ao1 rfl rfl fun K HK => ?_; (first | refine aOp_pick rfl ?_ | skip); simp only [go_sem, ↓reduceIte, Nat.reduceEqDiff, Nat.reduceAdd, Nat.reduceLeDiff, Nat.reduceBEq, Nat.reduceMul, Int.reduceEq, Int.reduceLT, Int.reduceLE] <;> (refine HK _ _ ?_; clear HK K))
    | refine ao0 rfl rfl ?_
    | (refine ao2 rfl rfl rfl ent_10 (q _) ?_; rintro _ _ ⟨rfl, rfl⟩)
    | (refine ao2 rfl rfl rfl ent_11 (aw _) ?_; rintro _ _ ⟨rfl, rfl⟩)
    | refine aw_if1 rfl ?_
    | refine aw_ret ?_
    | refine thenS_r ?_
   exact ⟨.inr rfl, endD (r := .v _) hl0 rfl (by simp) (by simp) rfl (by rw [low]; trivial) ⟨rfl, rfl⟩⟩
 have qa := small_y G hG (by decide) sa
 by_cases sb : SmallL b 12
 rotate_left
 · have q := small_n G hG (by decide) sb
   repeat' first
    | refine aw_seq' ?_
    | refine aw_region' ?_
    | refine ao_nil ?_
    | (refine ao1 rfl rfl fun K HK => ?_; (first | refine aOp_pick rfl ?_ | skip); simp only [go_sem, ↓reduceIte, Nat.reduceEqDiff, Nat.reduceAdd, Nat.reduceLeDiff, Nat.reduceBEq, Nat.reduceMul, Int.reduceEq, Int.reduceLT, Int.reduceLE] <;> (refine HK _ _ ?_; clear HK K))
    | refine ao0 rfl rfl ?_
    | (refine ao2 rfl rfl rfl ent_10 (qa _) ?_; rintro _ _ ⟨rfl, rfl⟩)
    | (refine ao2 rfl rfl rfl ent_10 (q _) ?_; rintro _ _ ⟨rfl, rfl⟩)
    | (refine ao2 rfl rfl rfl ent_11 (aw _) ?_; rintro _ _ ⟨rfl, rfl⟩)
    | refine aw_if1 rfl ?_
    | refine aw_ret ?_
    | refine thenS_r ?_
   exact ⟨.inr rfl, endD (r := .v _) hl0 rfl (by simp) (by simp) rfl (by rw [low]; trivial) ⟨rfl, rfl⟩⟩
 have qb := small_y G hG (by decide) sb
 by_cases sc : SmallL [c] 1
 rotate_left
 · have q := small_n G hG (by decide) sc []
   have q2 : ∀ {h : List Ob} {i : Nat}, h[i]? = some (.buf 40 6 ([c].map cmdX)) → Does Tryz.prog G 10 h [.buf i 1, .v (.int .i64 1)] (fun h' r => h' = h ∧ r = .v (.bool false)) := fun hi => Does.borrow hG hi rfl (by simp [lowL, low]) (low_cms _ _) q
   repeat' first
    | refine aw_seq' ?_
    | refine aw_region' ?_
    | refine ao_nil ?_
    | (refine ao1 rfl rfl fun K HK => ?_; (first | refine aOp_pick rfl ?_ | skip); simp only [go_sem, ↓reduceIte, Nat.reduceEqDiff, Nat.reduceAdd, Nat.reduceLeDiff, Nat.reduceBEq, Nat.reduceMul, Int.reduceEq, Int.reduceLT, Int.reduceLE, cmdX_eq] <;> (refine HK _ _ ?_; clear HK K))
    | (refine ao2 rfl rfl rfl ent_10 (qa _) ?_; rintro _ _ ⟨rfl, rfl⟩)
    | (refine ao2 rfl rfl rfl ent_10 (qb _) ?_; rintro _ _ ⟨rfl, rfl⟩)
    | (refine ao2 rfl rfl rfl ent_10 (q2 rfl) ?_; rintro _ _ ⟨rfl, rfl⟩)
    | (refine ao2 rfl rfl rfl ent_11 (aw _) ?_; rintro _ _ ⟨rfl, rfl⟩)
    | refine aw_if1 rfl ?_
    | refine aw_ret ?_
    | refine thenS_r ?_
   exact ⟨.inr rfl, endD (r := .v _) hl0 rfl (by simp) (by simp) rfl (by rw [low]; trivial) ⟨rfl, rfl⟩⟩
 have qc := small_y G hG (by decide) sc []
 have q2 : ∀ {h : List Ob} {i : Nat}, h[i]? = some (.buf 40 6 ([c].map cmdX)) → Does Tryz.prog G 10 h [.buf i 1, .v (.int .i64 1)] (fun h' r => h' = h ∧ r = .v (.bool true)) := fun hi => Does.borrow hG hi rfl (by simp [lowL, low]) (low_cms _ _) qc
 have oa := okL_of_small na sa
 have ob := okL_of_small nb sb
 have oc : c.Ok := ok_of_small nc (sc.2 c (by simp))
 have la := sa.1
 have lb := sb.1
 have ox := ofL_ok oa
 have oy := joinL_ok oa ob
 have oz := minusL_ok (b := b) oa
 have lx := ofL_len a
 have ly := joinL_len a b
 have lz := minusL_len a b
 have s1 := sorted_d G hG _ ox (by omega)
 rw [sortedL_of _ (ofL_sorted a)] at s1
 have s2 := sorted_d G hG _ oy (by omega)
 rw [sortedL_of _ (joinL_sorted a b)] at s2
 have s3 := sorted_d G hG _ oz (by omega)
 rw [sortedL_of _ (minusL_sorted a b)] at s3
 have r1 := rowsOk_cms a
 have r2 := rowsOk_cms b
 have r3 := rowsOk_cms (ofL a)
 have r4 := rowsOk_cms (joinL a b)
 have r5 := rowsOk_cms (minusL a b)
 repeat' first
  | (refine ao_appR rfl rfl rfl rfl (by simp <;> omega) apT_22 rfl (by assumption) (by simp <;> omega) ?_)
  | refine aw_seq' ?_
  | refine aw_region' ?_
  | refine aw_block ?_
  | refine ao_nil ?_
  | (refine ao1 rfl rfl fun K HK => ?_; (first | refine aOp_pick rfl ?_ | skip); simp only [go_sem, ↓reduceIte, Nat.reduceEqDiff, Nat.reduceAdd, Nat.reduceLeDiff, Nat.reduceBEq, Nat.reduceMul, Int.reduceEq, Int.reduceLT, Int.reduceLE, cmdX_eq] <;> (refine HK _ _ ?_; clear HK K))
  | (refine ao2 rfl rfl rfl ent_10 (qa _) ?_; rintro _ _ ⟨rfl, rfl⟩)
  | (refine ao2 rfl rfl rfl ent_10 (qb _) ?_; rintro _ _ ⟨rfl, rfl⟩)
  | (refine ao2 rfl rfl rfl ent_10 (q2 rfl) ?_; rintro _ _ ⟨rfl, rfl⟩)
  | (refine ao2 rfl rfl rfl ent_14 (of_s G hG a oa (by omega) _) ?_; rintro _ _ ⟨rfl, rfl⟩)
  | (refine ao2 rfl rfl rfl ent_12 (join_s G hG a b oa ob (by omega) (by omega) _) ?_; rintro _ _ ⟨rfl, rfl⟩)
  | (refine ao2 rfl rfl rfl ent_15 (minus_s G hG a b oa ob (by omega) (by omega) _) ?_; rintro _ _ ⟨rfl, rfl⟩)
  | (refine ao2 rfl rfl rfl ent_21 (s1 _) ?_; rintro _ _ ⟨rfl, rfl⟩)
  | (refine ao2 rfl rfl rfl ent_21 (s2 _) ?_; rintro _ _ ⟨rfl, rfl⟩)
  | (refine ao2 rfl rfl rfl ent_21 (s3 _) ?_; rintro _ _ ⟨rfl, rfl⟩)
  | refine aw_if0 rfl ?_
  | refine aw_skip ?_
 obtain ⟨A, hA⟩ : ∃ A, A = c :: (a ++ (b ++ (ofL a ++ (joinL a b ++ minusL a b)))) := ⟨_, rfl⟩
 have oA : OkL A := by
  rw [hA]
  intro d hd
  simp only [List.mem_cons, List.mem_append] at hd
  rcases hd with rfl | hd | hd | hd | hd | hd
  · exact oc
  · exact oa d hd
  · exact ob d hd
  · exact ox d hd
  · exact oy d hd
  · exact oz d hd
 have lA : A.length = 1 + a.length + b.length + (ofL a).length + (joinL a b).length + (minusL a b).length := by rw [hA]; simp; omega
 have rA : A.map cmdX = cmdX c :: (a.map cmdX ++ (b.map cmdX ++ ((ofL a).map cmdX ++ ((joinL a b).map cmdX ++ (minusL a b).map cmdX)))) := by rw [hA]; simp
 refine aw_for (fun m e h' => ∃ (k : Nat) (T : List Ob), k ≤ A.length ∧ m = A.length - k ∧ h' = hS c (.buf 40 6 [cmdX c]) (A.map cmdX) T ∧ e 0 = .sl 6 (a.map cmdX) ∧ e 1 = .sl 6 (b.map cmdX) ∧ e 5 = .ptr 0 0 ∧ e 7 = .sl 6 ((ofL a).map cmdX) ∧ e 8 = .sl 6 ((joinL a b).map cmdX) ∧ e 9 = .sl 6 ((minusL a b).map cmdX) ∧ e 10 = .buf 2 A.length ∧ e 11 = .v (.int .i64 k)) A.length
  ⟨0, [], Nat.zero_le _, rfl, by rw [rA]; rfl, rfl, rfl, rfl, rfl, rfl, rfl, by rw [lA]; rfl, rfl⟩ ?_
 rintro m e h' ⟨k, T, hk, rfl, rfl, e0, e1, e5, e7, e8, e9, e10, e11⟩
 have hrl : (A.map cmdX).length = A.length := List.length_map _
 by_cases hlt : k < A.length
 · have hx : A[k]? = some A[k] := List.getElem?_eq_getElem hlt
   have hxo := oA _ (List.getElem_mem hlt)
   generalize A[k] = d at hx hxo
   have wk : IntKind.i64.wrap ((k : Int) + 1) = (k : Int) + 1 := IntWalk.i64_in _ (by omega)
   have hlt' : (k : Int) < (A.length : Int) := by omega
   have hxr : (A.map cmdX)[((k : Nat) : Int).toNat]? = some (cmdX d) := by rw [Int.toNat_natCast, List.getElem?_map, hx]; rfl
   have hp := has_d G hG a d oa hxo (by omega)
   have hq := has_d G hG b d ob hxo (by omega)
   have hr := has_d G hG _ d ox hxo (by omega)
   have hs := has_d G hG _ d oy hxo (by omega)
   have ht := has_d G hG _ d oz hxo (by omega)
   rw [has_of oa hxo] at hr
   rw [has_join oa ob hxo] at hs
   rw [has_minus oa ob hxo] at ht
   generalize hasL a d = p at *
   generalize hasL b d = q at *
   obtain ⟨s, es⟩ : ∃ s, s = (p || q) := ⟨_, rfl⟩
   obtain ⟨t, et⟩ : ∃ t, t = (p && !q) := ⟨_, rfl⟩
   rw [← es] at hs
   rw [← et] at ht
   generalize A.map cmdX = rows at *
   cases p <;> cases q <;> cases s <;> cases t <;> first | exact absurd es (by decide) | exact absurd et (by decide) | skip
   all_goals clear es et
   repeat' first
    | (refine ao_idxB rfl rfl rfl rfl hS_2 hrl (by rw [elT_22]; exact szT_40) (by omega) (by omega) ?_)
    | (refine ao_loadB rfl rfl rfl hS_2 hrl hxr (getC _) ?_)
    | refine aw_seq' ?_
    | refine aw_region' ?_
    | refine aw_block ?_
    | refine ao_nil ?_
    | ((first | refine ao1 rfl rfl fun K HK => ?_ | refine aq1 rfl rfl fun K HK => ?_); (first | refine aOp_pick rfl ?_ | skip); simp only [go_sem, ↓reduceIte, Nat.reduceEqDiff, Nat.reduceAdd, Nat.reduceLeDiff, Nat.reduceBEq, Nat.reduceMul, Int.reduceEq, Int.reduceLT, Int.reduceLE, hlt', e0, e1, e5, e7, e8, e9, e10, e11, wk, cmdX_eq, hS_app, hS_len, hS_last, hS_lset, hS_0, Int.toNat_natCast, Bool.false_eq_true] <;> ((first | refine HK _ _ ?_ | refine HK _ _ rfl ?_); clear HK K))
    | (refine aw_draw mixd (by kernel_rfl) ?_)
    | refine ao0 rfl rfl ?_
    | refine aq2 rfl rfl rfl ent_20 (hp _) ?_
    | refine aq2 rfl rfl rfl ent_20 (hq _) ?_
    | (refine ao2 rfl rfl rfl ent_20 (hr _) ?_; rintro _ _ ⟨rfl, rfl⟩)
    | (refine ao2 rfl rfl rfl ent_20 (hs _) ?_; rintro _ _ ⟨rfl, rfl⟩)
    | (refine ao2 rfl rfl rfl ent_20 (ht _) ?_; rintro _ _ ⟨rfl, rfl⟩)
    | (refine ao1' rfl fun K HK => ?_; simp only [go_sem, ↓reduceIte, Nat.reduceEqDiff, Nat.reduceAdd, Nat.reduceLeDiff, Nat.reduceBEq, Nat.reduceMul, Int.reduceEq, Int.reduceLT, Int.reduceLE, hlt', e0, e1, e5, e7, e8, e9, e10, e11, wk, cmdX_eq, hS_app, hS_len, hS_last, hS_lset, hS_0, Int.toNat_natCast, Bool.false_eq_true]; refine HK _ _ ?_; clear HK K)
    | refine aw_if1 rfl ?_
    | refine aw_if0 rfl ?_
    | refine aw_skip ?_
    | refine thenS_n ?_
   all_goals exact ⟨rfl, A.length - (k + 1), by omega, k + 1, _, by omega, rfl, rfl, e0, e1, e5, e7, e8, e9, e10, rfl⟩
 have hlt' : ¬ (k : Int) < (A.length : Int) := by omega
 have g1 := shas_d G hG a c oa oc (by omega)
 have g2 := has_d G hG a c oa oc (by omega)
 generalize hasL a c = p at g1 g2
 generalize A.map cmdX = rows at *
 cases p
 all_goals skip
 repeat' first
  | refine aw_seq' ?_
  | refine aw_region' ?_
  | refine ao_nil ?_
  | ((first | refine ao1 rfl rfl fun K HK => ?_ | refine aq1 rfl rfl fun K HK => ?_); (first | refine aOp_pick rfl ?_ | skip); simp only [go_sem, ↓reduceIte, Nat.reduceEqDiff, Nat.reduceAdd, Nat.reduceLeDiff, Nat.reduceBEq, Nat.reduceMul, Int.reduceEq, Int.reduceLT, Int.reduceLE, hlt', e0, e1, e5, e7, e8, e9, e10, e11, cmdX_eq, hS_0, Bool.false_eq_true] <;> ((first | refine HK _ _ ?_ | refine HK _ _ rfl ?_); clear HK K))
  | refine aq_nil ?_
  | (refine aw_draw mixd (by kernel_rfl) ?_)
  | refine aq2 rfl rfl rfl ent_11 (aw _) ?_
  | refine aq2 rfl rfl rfl ent_34 (g1 _) ?_
  | refine aq2 rfl rfl rfl ent_20 (g2 _) ?_
  | refine aw_if0 rfl ?_
  | refine aw_exit ?_
  | refine aw_ret ?_
 all_goals exact ⟨.inr rfl, endD (r := .v (.bool true)) hl0 rfl (by simp) (by simp) rfl (by rw [low]; trivial) ⟨rfl, rfl⟩⟩
end
end Go.Proofs.YtidpdgdakghfnaaGreat
