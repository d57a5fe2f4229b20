/-
  What the statements of the chapter share, part 14: CX, CY, RB2, RB3, SO, CF0, CL1, SM, CL3, OF1, CF1, OF2, OF3, CF2.
-/
import Derived.Test.YtidpdgdakghfnaaGreatW10
import Derived.Test.YtidpdgdakghfnaaGreatW13
import Derived.Laws.Externs
set_option linter.unusedVariables false
set_option linter.unusedSimpArgs false
set_option maxRecDepth 100000
set_option maxHeartbeats 8000000
namespace Go.Proofs.YtidpdgdakghfnaaGreat
open Go.RowKit
section
set_option maxRecDepth 100000
set_option maxHeartbeats 1000000
attribute [local irreducible] on aOp
attribute [local go_sem] decide_true decide_false Bool.not_true Bool.not_false
attribute [local simp] byD_len
theorem cmpX : CmpX Tryz.prog 188 := fun a b w => by
 rw [run_callFunc_extern (e := Extern.BytealgCompare.compare) Tryz.func188 (by kernel_rfl) (by kernel_rfl) (by kernel_rfl) (by kernel_rfl)]
 rw [Lib.run_compareString]; rfl
theorem loadD_bp {P : Program} {h : List Ob} {t e k i n r j : Nat} {xs : List (List D)} {row : List D} (hi : h[i]? = some (.buf e k xs)) (hn : xs.length = n) (hr : xs[r]? = some row) : loadD P h t (.bp i n r j) = getD P t row j := by
 simp only [loadD, hi, hr, if_pos hn, Option.bind_some]
def cmpI (a b : Int) : Int := if a < b then -1 else if b < a then 1 else 0
def orI : List Int → Int
 | [] => 0
 | x :: t => if x = 0 then orI t else x
def intX (x : Int) : List D := [.v (.int .i64 x)]
theorem intX_eq (x : Int) : intX x = [.v (.int .i64 x)] := rfl
variable (G : Nat → D) (hG : ∀ g, low 0 (G g))
include hG
theorem isNaN_d (a : Int) (h : List Ob) : Does Tryz.prog G 132 h [.v (.int .i64 a)] (fun h' r => h' = h ∧ r = .v (.bool false)) := by
 refine does_of_aw Tryz.func132 rfl (Nat.le_of_ble_eq_true rfl) hG fun hl0 _ => ?_
 simp only [Tryz.ntmps132]
 repeat' first
  | refine aw_seq' ?_
  | refine aw_region' ?_
  | refine ao_nil ?_
  | (refine ao1 rfl rfl fun K HK => ?_; simp only [go_sem, ↓reduceIte, Nat.reduceEqDiff, Nat.reduceAdd, Nat.reduceLeDiff, Nat.reduceBEq, Nat.reduceMul, Int.reduceEq, Int.reduceLT, Int.reduceLE] <;> (refine HK _ _ ?_; clear HK K))
  | refine aw_ret ?_
 all_goals first
 | exact ⟨by simp, endD (r := .v _) hl0 rfl (by simp) (by simp) rfl (by rw [low]; trivial) ⟨rfl, rfl⟩⟩
 | (exfalso; simp at *; done)
theorem cmpInt_d (a b : Int) (h : List Ob) : Does Tryz.prog G 78 h [.v (.int .i64 a), .v (.int .i64 b)] (fun h' r => h' = h ∧ r = .v (.int .i64 (cmpI a b))) := by
 refine does_of_aw Tryz.func78 rfl (Nat.le_of_ble_eq_true rfl) hG fun hl0 _ => ?_
 simp only [Tryz.ntmps78]
 repeat' first
  | refine aw_seq' ?_
  | refine aw_region' ?_
  | refine ao_nil ?_
  | (refine ao1 rfl rfl fun K HK => ?_; simp only [go_sem, ↓reduceIte, Nat.reduceEqDiff, Nat.reduceAdd, Nat.reduceLeDiff, Nat.reduceBEq, Nat.reduceMul, Int.reduceEq, Int.reduceLT, Int.reduceLE]; (first | refine splitB (fun hq => ?_) (fun hq => ?_) | skip) <;> (refine HK _ _ ?_; clear HK K))
  | (refine ao2 rfl rfl rfl ent_132 (isNaN_d G hG _ _) ?_; rintro _ _ ⟨rfl, rfl⟩)
  | refine aw_if1 rfl ?_
  | refine aw_if0 rfl ?_
  | refine aw_skip ?_
  | refine aw_ret ?_
  | refine thenS_r ?_
 all_goals
  refine ⟨by simp, endD (r := .v _) hl0 rfl (by simp) (by simp) rfl (by rw [low]; trivial) ⟨rfl, ?_⟩⟩
  unfold cmpI
  simp [*]
theorem bcmp_d (a b : ByteArray) (h : List Ob) : Does Tryz.prog G 133 h [.v (.string a), .v (.string b)] (fun h' r => h' = h ∧ r = .v (.int .i64 (Lib.compareBytes a.data.toList b.data.toList))) := by
 refine does_of_aw Tryz.func133 rfl (Nat.le_of_ble_eq_true rfl) hG fun hl0 _ => ?_
 simp only [Tryz.ntmps133]
 have X : ExtTri Tryz.prog 188 [.v (.string a), .v (.string b)] (.v (.int .i64 (Lib.compareBytes a.data.toList b.data.toList))) := fun w hd h2 W vs hv => by
  rw [rdL] at hv; obtain ⟨u, t, rfl, h3, hv⟩ := hv
  rw [rdL] at hv; obtain ⟨u2, t, rfl, h4, hv⟩ := hv
  rw [rdL] at hv; subst hv
  rw [rd] at h3 h4; subst h3; subst h4
  exact ⟨_, cmpX _ _ w, by rw [rd]⟩
 repeat' first
  | (refine ao_tri rfl (tri_of_ext (cap := []) (xs := [.v (.string a), .v (.string b)]) X) ?_)
  | refine aw_seq' ?_
  | refine aw_region' ?_
  | refine ao_nil ?_
  | (refine ao1 rfl rfl fun K HK => ?_; simp only [go_sem, ↓reduceIte, Nat.reduceEqDiff, Nat.reduceAdd, Nat.reduceLeDiff, Nat.reduceBEq, Nat.reduceMul, Int.reduceEq, Int.reduceLT, Int.reduceLE] <;> (refine HK _ _ ?_; clear HK K))
  | refine aw_ret ?_
 all_goals exact ⟨by simp, endD (r := .v _) hl0 rfl (by simp) (by simp) rfl (by rw [low]; trivial) ⟨rfl, rfl⟩⟩
theorem scmp_d (a b : ByteArray) (h : List Ob) : Does Tryz.prog G 79 h [.v (.string a), .v (.string b)] (fun h' r => h' = h ∧ r = .v (.int .i64 (Lib.compareBytes a.data.toList b.data.toList))) := by
 refine does_of_aw Tryz.func79 rfl (Nat.le_of_ble_eq_true rfl) hG fun hl0 _ => ?_
 simp only [Tryz.ntmps79]
 repeat' first
  | refine aw_seq' ?_
  | refine aw_region' ?_
  | refine ao_nil ?_
  | (refine ao1 rfl rfl fun K HK => ?_; simp only [go_sem, ↓reduceIte, Nat.reduceEqDiff, Nat.reduceAdd, Nat.reduceLeDiff, Nat.reduceBEq, Nat.reduceMul, Int.reduceEq, Int.reduceLT, Int.reduceLE] <;> (refine HK _ _ ?_; clear HK K))
  | (refine ao2 rfl rfl rfl ent_133 (bcmp_d G hG _ _ _) ?_; rintro _ _ ⟨rfl, rfl⟩)
  | refine aw_ret ?_
 all_goals exact ⟨by simp, endD (r := .v _) hl0 rfl (by simp) (by simp) rfl (by rw [low]; trivial) ⟨rfl, rfl⟩⟩
theorem or_b (l : List Int) (hl : l.length ≤ 1000) (h : List Ob) (i : Nat) (hi : h[i]? = some (.buf 3 1 (l.map intX))) : Does Tryz.prog G 77 h [.buf i l.length] (fun h' r => h' = h ∧ r = .v (.int .i64 (orI l))) := by
 refine does_of_aw Tryz.func77 rfl (Nat.le_of_ble_eq_true rfl) hG fun hl0 _ => ?_
 simp only [Tryz.ntmps77]
 repeat' first
  | refine aw_seq' ?_
  | refine aw_region' ?_
  | refine aw_block ?_
  | refine ao_nil ?_
  | (refine ao1 rfl rfl fun K HK => ?_; simp only [go_sem, ↓reduceIte, Nat.reduceEqDiff, Nat.reduceAdd, Nat.reduceLeDiff, Nat.reduceBEq, Nat.reduceMul, Int.reduceEq, Int.reduceLT, Int.reduceLE, hi] <;> (refine HK _ _ ?_; clear HK K))
 refine aw_for (fun m e h' => ∃ k : Nat, k ≤ l.length ∧ m = l.length - k ∧ orI l = orI (l.drop k) ∧ h' = h ∧ e 3 = .v (.int .i64 0) ∧ e 6 = .buf i l.length ∧ e 7 = .v (.int .i64 l.length) ∧ e 8 = .v (.int .i64 k)) l.length ⟨0, Nat.zero_le _, rfl, rfl, rfl, rfl, rfl, rfl, rfl⟩ ?_
 rintro m e h' ⟨k, hk, rfl, ho, rfl, e3, e6, e7, e8⟩
 by_cases hlt : k < l.length
 · have hx : l[k]? = some l[k] := List.getElem?_eq_getElem hlt
   have hd : l.drop k = l[k] :: l.drop (k + 1) := List.drop_eq_getElem_cons hlt
   generalize l[k] = x at hx hd
   have wk : IntKind.i64.wrap ((k : Int) + 1) = (k : Int) + 1 := IntWalk.i64_in _ (by omega)
   rw [hd, orI] at ho
   have hrow : (l.map intX)[k]? = some [.v (.int .i64 x)] := by rw [List.getElem?_map, hx]; rfl
   repeat' first
    | (refine ao1 rfl rfl fun K HK => ?_; simp only [go_sem, e6, e8]; refine ⟨_, _, _, hi, by simp, by simp only [go_sem], by omega, by omega, ?_⟩; refine HK _ _ ?_; clear HK K)
    | refine aw_seq' ?_
    | refine aw_region' ?_
    | refine aw_block ?_
    | refine ao_nil ?_
    | (refine ao1 rfl rfl fun K HK => ?_; simp only [go_sem, ↓reduceIte, Nat.reduceEqDiff, Nat.reduceAdd, Nat.reduceLeDiff, Nat.reduceBEq, Nat.reduceMul, Int.reduceEq, Int.reduceLT, Int.reduceLE, hi, e3, e6, e7, e8, intX_eq, wk, loadD_bp hi (List.length_map _) hrow, List.length_map, Int.toNat_natCast]; (first | refine splitB (fun hq => ?_) (fun hq => ?_) | refine splitN (fun hq => ?_) (fun hq => ?_) | skip) <;> (refine HK _ _ ?_; clear HK K))
    | refine aw_if1 rfl ?_
    | refine aw_if0 rfl ?_
    | refine aw_skip ?_
    | refine aw_exit ?_
    | refine aw_ret ?_
    | refine thenS_n ?_
    | refine thenS_r ?_
    | refine inB_r ?_
    | (exfalso; omega)
   · exact ⟨rfl, l.length - (k + 1), by omega, k + 1, hlt, rfl, by rw [ho, if_pos hq], rfl, e3, e6, e7, rfl⟩
   · exact ⟨by simp, endD (r := .v _) hl0 rfl (by simp) (by simp) rfl (by rw [low]; trivial) ⟨rfl, by rw [ho, if_neg hq]⟩⟩
 · skip
   repeat' first
    | refine aw_seq' ?_
    | refine aw_region' ?_
    | refine aw_block ?_
    | refine ao_nil ?_
    | (refine ao1 rfl rfl fun K HK => ?_; simp only [go_sem, ↓reduceIte, Nat.reduceEqDiff, Nat.reduceAdd, Nat.reduceLeDiff, Nat.reduceBEq, Nat.reduceMul, Int.reduceEq, Int.reduceLT, Int.reduceLE, hi, e3, e6, e7, e8, List.length_map]; (first | refine splitB (fun hq => ?_) (fun hq => ?_) | skip) <;> (refine HK _ _ ?_; clear HK K))
    | refine aw_if1 rfl ?_
    | refine aw_if0 rfl ?_
    | refine aw_skip ?_
    | refine aw_exit ?_
    | refine aw_ret ?_
    | (exfalso; omega)
   exact ⟨by simp, endD (r := .v _) hl0 rfl (by simp) (by simp) rfl (by rw [low]; trivial) ⟨rfl, by rw [ho, List.drop_eq_nil_of_le (by omega)]; rfl⟩⟩
end
section
set_option maxRecDepth 100000
set_option maxHeartbeats 1000000
attribute [local irreducible] on aOp
attribute [local go_sem] decide_true decide_false Bool.not_true Bool.not_false
attribute [local simp] byD_len
def cmpC (a b : Cmd) : Int := orI [cmpI a.client b.client, cmpI a.seq b.seq, Lib.compareBytes (encC a) (encC b)]
variable (G : Nat → D) (hG : ∀ g, low 0 (G g))
include hG
theorem or_s (l : List Int) (hl : l.length ≤ 1000) (h : List Ob) (i : Nat) (hi : h[i]? = some (.buf 3 1 (l.map intX))) : Does Tryz.prog G 77 h [.buf i l.length] (fun h' r => h' = h.set i (.buf 3 1 (l.map intX)) ∧ r = .v (.int .i64 (orI l))) := by
 rw [set_same hi]; exact or_b G hG l hl h i hi
theorem compare_d (a b : Cmd) (ha : a.Ok) (hb : b.Ok) (h : List Ob) : Does Tryz.prog G 43 h [.agg (cmdX a), .agg (cmdX b)] (fun h' r => h' = h ∧ r = .v (.int .i64 (cmpC a b))) := by
 refine does_any G hG (by rw [lowL, lowL, lowL]; exact ⟨low_agg _ _, low_agg _ _, trivial⟩) (by rw [low]; trivial) ?_ h
 have la := encC_len a ha
 have lb := encC_len b hb
 refine does_of_aw Tryz.func43 rfl (Nat.le_of_ble_eq_true rfl) hG fun hl0 _ => ?_
 simp only [Tryz.ntmps43]
 repeat' first
  | (refine aS_load rfl rfl rfl (by (simp only [go_sem, ↓reduceIte, Nat.reduceEqDiff, Nat.reduceAdd, Nat.reduceLeDiff, Nat.reduceBEq, Nat.reduceMul, Int.reduceEq, Int.reduceLT, Int.reduceLE, cmdX_eq]; rfl)) (by rw [getD_agg' aggT_40, szT_40]; rfl) ?_)
  | (refine aS1 rfl rfl fun K HK => ?_; simp only [go_sem]; refine bst_by (n := 1) (h := []) byT_38 strT_9 ?_; refine HK _ _ rfl ?_; clear HK K)
  | refine aw_seq' ?_
  | refine aw_region' ?_
  | refine ao_nil ?_
  | ((first | refine ao1 rfl rfl fun K HK => ?_ | refine aS1 rfl rfl fun K HK => ?_); simp only [go_sem, ↓reduceIte, Nat.reduceEqDiff, Nat.reduceAdd, Nat.reduceLeDiff, Nat.reduceBEq, Nat.reduceMul, Int.reduceEq, Int.reduceLT, Int.reduceLE, cmdX_eq] <;> ((first | refine HK _ _ ?_ | refine HK _ _ rfl ?_); clear HK K))
  | (refine aw_drawE mixd (by kernel_rfl) ?_)
  | refine aS_load rfl rfl rfl (by (simp only [go_sem, ↓reduceIte, Nat.reduceEqDiff, Nat.reduceAdd, Nat.reduceLeDiff, Nat.reduceBEq, Nat.reduceMul, Int.reduceEq, Int.reduceLT, Int.reduceLE, cmdX_eq]; rfl)) (by rw [getD_one (by simp only [go_sem, ↓reduceIte, Nat.reduceEqDiff, Nat.reduceAdd, Nat.reduceLeDiff, Nat.reduceBEq, Nat.reduceMul, Int.reduceEq, Int.reduceLT, Int.reduceLE, cmdX_eq])]; rfl) ?_
  | refine aS_lit rfl rfl (by simp only [litD, litRows, go_sem, List.length_cons, List.length_nil, Option.map_some, Option.bind_some, and_self, ↓reduceIte, Nat.reduceEqDiff, Nat.reduceAdd, Nat.reduceLeDiff, Nat.reduceBEq, Nat.reduceMul, Int.reduceEq, Int.reduceLT, Int.reduceLE, cmdX_eq]; rfl) ?_
  | refine aS_nil (by simp only [List.reverse_cons, List.reverse_nil, List.nil_append, List.cons_append, chkAll, chk1]; repeat' (first | exact trivial | refine And.intro ?_ ?_ | exact .inr compat_pl | exact .inr compat_pr | exact .inr compat_rr | exact .inr (compat_rw (by omega)) | (refine .inr ?_; simp [compat, readE, writE, pureE, nop] <;> omega) | exact .inl (by kernel_rfl))) ?_
  | refine aS_call0 rfl rfl rfl ent_78 (fun h2 => cmpInt_d G hG _ _ _) ?_
  | refine aS_call0 rfl rfl rfl ent_80 (fun h2 => encode_d G hG a ha _) ?_
  | refine aS_call0 rfl rfl rfl ent_80 (fun h2 => encode_d G hG b hb _) ?_
  | refine aS_call0 rfl rfl rfl ent_79 (fun h2 => scmp_d G hG _ _ _) ?_
  | refine aS_call1 rfl rfl rfl ent_77 (by (simp only [go_sem, ↓reduceIte, Nat.reduceEqDiff, Nat.reduceAdd, Nat.reduceLeDiff, Nat.reduceBEq, Nat.reduceMul, Int.reduceEq, Int.reduceLT, Int.reduceLE, cmdX_eq]; rfl)) (fun h2 k2 => or_s G hG [cmpI a.client b.client, cmpI a.seq b.seq, Lib.compareBytes (encC a) (encC b)] (by simp) h2 2 k2) ?_
  | refine aw_ret ?_
 exact ⟨.inr rfl, endD (r := .v _) hl0 rfl (by simp) (by simp) rfl (by rw [low]; trivial) ⟨rfl, rfl⟩⟩
end
section
set_option maxRecDepth 100000
set_option maxHeartbeats 1000000
attribute [local irreducible] on aOp
attribute [local go_sem] decide_true decide_false Bool.not_true Bool.not_false
attribute [local simp] byD_len
theorem Does.arg0 {P : Program} {G : Nat → D} {f : FuncId} {h : List Ob} {d d' : D} {args : List D} {K : List Ob → D → Prop} (q : Does P G f h (d' :: args) K) (k : ∀ hd hh W u, rd hd hh W d u → rd hd hh W d' u) : Does P G f h (d :: args) K := fun w hd p vs o ha => by
 rw [rdL] at ha
 obtain ⟨u, t, rfl, h1, h2⟩ := ha
 exact q w hd p _ o (by rw [rdL]; exact ⟨u, t, rfl, k _ _ _ _ h1, h2⟩)
variable (G : Nat → D) (hG : ∀ g, low 0 (G g))
include hG
theorem sUint (l : List UInt8) {n : Nat} (hn : n < 18446744073709551616) (hl : l.length ≤ 100000000) (h : List Ob) : Does Tryz.prog G 180 h [.sl 1 (byD l), .v (.int .u64 n)] (fun h' r => h' = h ∧ r = .sl 1 (byD (l ++ uintE n))) :=
 does_gave hG (by rw [lowL, lowL, lowL]; exact ⟨low_by _ _, by simp [low], trivial⟩) rfl (rUint0 G hG l n hn hl) h
theorem sInt (l : List UInt8) {n : Int} (hn : I64 n) (hl : l.length ≤ 100000000) (h : List Ob) : Does Tryz.prog G 181 h [.sl 1 (byD l), .v (.int .i64 n)] (fun h' r => h' = h ∧ r = .sl 1 (byD (l ++ intE n))) :=
 does_gave hG (by rw [lowL, lowL, lowL]; exact ⟨low_by _ _, by simp [low], trivial⟩) rfl (rInt0 G hG l n hn hl) h
theorem sText (l : List UInt8) {s : ByteArray} (hs : s.size ≤ 10000000) (hl : l.length ≤ 80000000) (h : List Ob) : Does Tryz.prog G 182 h [.sl 1 (byD l), .v (.string s)] (fun h' r => h' = h ∧ r = .sl 1 (byD (l ++ textE s))) :=
 does_gave hG (by rw [lowL, lowL, lowL]; exact ⟨low_by _ _, by simp [low], trivial⟩) rfl (rText0 G hG l s hs hl) h
theorem sBytes (l : List UInt8) {b : List UInt8} (hs : b.length ≤ 10000000) (hl : l.length ≤ 80000000) (h : List Ob) : Does Tryz.prog G 120 h [.sl 1 (byD l), .sl 1 (byD b)] (fun h' r => h' = h ∧ r = .sl 1 (byD (l ++ bytesE b))) :=
 does_gave hG (by rw [lowL, lowL, lowL]; exact ⟨low_by _ _, low_by _ _, trivial⟩) rfl (rBytes0 G hG l b hs hl) h
theorem bare_d (l : List UInt8) (c : Cmd) (hc : c.Ok) (hl : l.length ≤ 1000000) (h : List Ob) : Does Tryz.prog G 121 h [.sl 1 (byD l), .agg (cmdX c)] (fun h' r => h' = h ∧ r = .sl 1 (byD (l ++ writeC c))) := by
 refine does_any G hG (by rw [lowL, lowL, lowL]; exact ⟨low_by _ _, low_agg _ _, trivial⟩) (low_by _ _) ?_ h
 have h1 := intE_len hc.client
 have h2 := intE_len hc.seq
 have h3 := intE_len hc.kind
 have h4 := (uintE_len10 c.writes.length (by have := hc.many; omega)).1
 have hm := hc.many
 have hb := writesE_len c.writes hc.each
 refine does_of_aw Tryz.func121 rfl (Nat.le_of_ble_eq_true rfl) hG fun hl0 _ => ?_
 simp only [Tryz.ntmps121]
 repeat' first
  | refine aw_seq' ?_
  | refine aw_region' ?_
  | refine aw_block ?_
  | refine ao_nil ?_
  | ((first | refine ao1 rfl rfl fun K HK => ?_ | refine aq1 rfl rfl fun K HK => ?_); simp only [go_sem, ↓reduceIte, Nat.reduceEqDiff, Nat.reduceAdd, Nat.reduceLeDiff, Nat.reduceBEq, Nat.reduceMul, Int.reduceEq, Int.reduceLT, Int.reduceLE, cmdX_eq, lenU (a := c.writes.length) (by omega)] <;> ((first | refine HK _ _ ?_ | refine HK _ _ rfl ?_); clear HK K))
  | (refine aw_draw mixd (by kernel_rfl) ?_)
  | refine aq2 rfl rfl rfl ent_181 (sInt G hG _ hc.client (by first | omega | (simp only [List.length_append]; omega)) _) ?_
  | refine aq2 rfl rfl rfl ent_181 (sInt G hG _ hc.seq (by first | omega | (simp only [List.length_append]; omega)) _) ?_
  | refine aq2 rfl rfl rfl ent_181 (sInt G hG _ hc.kind (by first | omega | (simp only [List.length_append]; omega)) _) ?_
  | (refine ao2 rfl rfl rfl ent_180 (sUint G hG _ (n := c.writes.length) (by omega) (by first | omega | (simp only [List.length_append]; omega)) _) ?_; rintro _ _ ⟨rfl, rfl⟩)
 generalize hP : l ++ (intE c.client ++ (intE c.seq ++ (intE c.kind ++ uintE c.writes.length))) = P
 have hPl : P.length ≤ 1000040 := by rw [← hP]; simp only [List.length_append]; omega
 refine aw_for (fun m e h' => ∃ (k : Nat) (cur : List UInt8), k ≤ c.writes.length ∧ m = c.writes.length - k ∧ cur = P ++ writesE (c.writes.take k) ∧ h' = [.cells (cmdX c)] ∧ e 3 = .ptr 0 0 ∧ e 5 = .sl 1 (byD cur) ∧ e 6 = .v (.int .i64 k)) c.writes.length ⟨0, P, Nat.zero_le _, rfl, by simp [writesE], rfl, rfl, rfl, rfl⟩ ?_
 rintro m e h' ⟨k, cur, hk, rfl, hcur, rfl, e3, e5, e6⟩
 have hcl : cur.length ≤ 30000000 := by
  have h5 := writesE_len (c.writes.take k) fun x hx => hc.each x (List.mem_of_mem_take hx)
  rw [hcur, List.length_append]
  have := List.length_take_le k c.writes
  omega
 by_cases hlt : k < c.writes.length
 · have hx : c.writes[k]? = some c.writes[k] := List.getElem?_eq_getElem hlt
   have hxm := hc.each _ (List.getElem_mem hlt)
   generalize c.writes[k] = x at hx hxm
   have ht : (textE x.1).length ≤ 10010 := by
    have h6 := (uintE_len10 x.1.size (by omega)).1
    have e2 : x.1.data.toList.length = x.1.size := rfl
    simp only [textE, List.length_append, e2]; omega
   have wk : IntKind.i64.wrap ((k : Int) + 1) = (k : Int) + 1 := IntWalk.i64_in _ (by omega)
   repeat' first
    | refine aw_seq' ?_
    | refine aw_region' ?_
    | refine aw_block ?_
    | refine ao_nil ?_
    | ((first | refine ao1 rfl rfl fun K HK => ?_ | refine aq1 rfl rfl fun K HK => ?_); simp only [go_sem, ↓reduceIte, Nat.reduceEqDiff, Nat.reduceAdd, Nat.reduceLeDiff, Nat.reduceBEq, Nat.reduceMul, Int.reduceEq, Int.reduceLT, Int.reduceLE, e3, e5, e6, cmdX_eq, wrX_eq, wk, Int.toNat_natCast]; (first | refine splitB (fun hq => ?_) (fun hq => ?_) | (refine ⟨by omega, by omega, ?_⟩; refine row_at (by assumption) ?_) | skip) <;> ((first | refine HK _ _ ?_ | refine HK _ _ rfl ?_); clear HK K))
    | (refine aw_draw mixd (by kernel_rfl) ?_)
    | refine aq2 rfl rfl rfl ent_182 (sText G hG cur (s := x.1) (by omega) (by omega) _) ?_
    | refine aq2 rfl rfl rfl ent_120 (sBytes G hG (cur ++ textE x.1) (b := x.2) (by omega) (by simp only [List.length_append]; omega) _) ?_
    | refine aw_if1 rfl ?_
    | refine aw_if0 rfl ?_
    | refine aw_skip ?_
    | refine aw_exit ?_
    | refine thenS_n ?_
    | (exfalso; omega)
   have hcur' : cur ++ (textE x.1 ++ bytesE x.2) = P ++ writesE (c.writes.take (k + 1)) := by rw [writesE_take hx, hcur]; simp
   exact ⟨rfl, c.writes.length - (k + 1), by omega, k + 1, _, hlt, rfl, hcur', rfl, e3, rfl, rfl⟩
 · skip
   repeat' first
    | refine aw_seq' ?_
    | refine aw_region' ?_
    | refine aw_block ?_
    | refine ao_nil ?_
    | ((first | refine ao1 rfl rfl fun K HK => ?_ | refine aq1 rfl rfl fun K HK => ?_); simp only [go_sem, ↓reduceIte, Nat.reduceEqDiff, Nat.reduceAdd, Nat.reduceLeDiff, Nat.reduceBEq, Nat.reduceMul, Int.reduceEq, Int.reduceLT, Int.reduceLE, e3, e5, e6, cmdX_eq]; (first | refine splitB (fun hq => ?_) (fun hq => ?_) | (refine ⟨by omega, by omega, ?_⟩; intro row hrow; obtain ⟨x, hx, rfl⟩ := row_inv hrow; clear hrow) | skip) <;> ((first | refine HK _ _ ?_ | refine HK _ _ rfl ?_); clear HK K))
    | (refine aw_draw mixd (by kernel_rfl) ?_)
    | (refine ao2 rfl rfl rfl ent_181 (sInt G hG cur hc.replica (by omega) _) ?_; rintro _ _ ⟨rfl, rfl⟩)
    | refine aw_if1 rfl ?_
    | refine aw_if0 rfl ?_
    | refine aw_skip ?_
    | refine aw_exit ?_
    | refine aw_ret ?_
    | (exfalso; omega)
   have hcur' : cur ++ intE c.replica = l ++ writeC c := by
    rw [hcur, ← hP, List.take_of_length_le (by omega)]
    simp [writeC]
   exact ⟨.inr rfl, endD (r := .sl 1 (byD (l ++ writeC c))) hl0 rfl (by simp) (by simp) (by rw [← hcur']; rfl) (low_by _ _) ⟨rfl, rfl⟩⟩
theorem rencode_d (c : Cmd) (hc : c.Ok) (h : List Ob) : Does Tryz.prog G 72 h [.agg (cmdX c)] (fun h' r => h' = h ∧ r = .sl 1 (byD (encC c))) := by
 refine does_any G hG (by rw [lowL, lowL]; exact ⟨low_agg _ _, trivial⟩) (low_by _ _) ?_ h
 have hw := writeC_len c hc
 have ht := hc.tag
 refine does_of_aw Tryz.func72 rfl (Nat.le_of_ble_eq_true rfl) hG fun hl0 _ => ?_
 simp only [Tryz.ntmps72]
 repeat' first
  | refine aw_seq' ?_
  | refine aw_region' ?_
  | refine ao_nil ?_
  | ((first | refine ao1 rfl rfl fun K HK => ?_ | refine aq1 rfl rfl fun K HK => ?_); simp only [go_sem, ↓reduceIte, Nat.reduceEqDiff, Nat.reduceAdd, Nat.reduceLeDiff, Nat.reduceBEq, Nat.reduceMul, Int.reduceEq, Int.reduceLT, Int.reduceLE, cmdX_eq] <;> ((first | refine HK _ _ ?_ | refine HK _ _ rfl ?_); clear HK K))
  | refine aq_nil ?_
  | (refine aw_draw mixd (by kernel_rfl) ?_)
  | refine aq2 rfl rfl rfl ent_121 (Does.arg0 (bare_d G hG [] c hc (by simp) _) nil_sl) ?_
  | refine aq2 rfl rfl rfl ent_120 (sBytes G hG (writeC c) (b := c.tag) (by omega) (by omega) _) ?_
  | refine aw_ret ?_
 exact ⟨.inr rfl, endD (r := .sl 1 (byD (encC c))) hl0 rfl (by simp) (by simp) rfl (low_by _ _) ⟨rfl, rfl⟩⟩
end
section
set_option maxRecDepth 100000
set_option maxHeartbeats 1000000
attribute [local irreducible] on aOp
attribute [local go_sem] decide_true decide_false Bool.not_true Bool.not_false
attribute [local simp] byD_len
theorem cmpC_c {a b : Cmd} (h : ¬ a.client = b.client) : cmpC a b = if a.client < b.client then -1 else 1 := by
 unfold cmpC orI cmpI
 by_cases h1 : a.client < b.client
 · simp [h1]
 · have h2 : b.client < a.client := by omega
   simp [h1, h2]
theorem cmpC_s {a b : Cmd} (h0 : a.client = b.client) (h : ¬ a.seq = b.seq) : cmpC a b = if a.seq < b.seq then -1 else 1 := by
 unfold cmpC orI orI cmpI
 rw [h0]
 by_cases h1 : a.seq < b.seq
 · simp [h1]
 · have h2 : b.seq < a.seq := by omega
   simp [h1, h2]
theorem cmpC_e {a b : Cmd} (h0 : a.client = b.client) (h : a.seq = b.seq) : cmpC a b = Lib.compareBytes (encC a) (encC b) := by
 unfold cmpC orI orI orI orI cmpI
 simp [h0, h]
 intro h; exact h.symm
theorem cb_self : ∀ l : List UInt8, Lib.compareBytes l l = 0
 | [] => by rw [Lib.compareBytes]
 | a :: l => by
  have h : ¬ a < a := UInt8.lt_irrefl a
  rw [Lib.compareBytes, if_neg h, if_neg h]; exact cb_self l
theorem cb_ne : ∀ l m : List UInt8, l ≠ m → Lib.compareBytes l m = if Op.bytesLess l m then -1 else 1
 | [], [], h => absurd rfl h
 | [], _ :: _, _ => by simp [Lib.compareBytes, Op.bytesLess]
 | _ :: _, [], _ => by simp [Lib.compareBytes, Op.bytesLess]
 | a :: l, b :: m, h => by
  rw [Lib.compareBytes]
  unfold Op.bytesLess
  by_cases h1 : a < b
  · simp [h1]
  · by_cases h2 : b < a
    · have h3 : ¬ a = b := fun e => by subst e; exact h1 h2
      simp [h1, h2, h3]
    · have h3 : a = b := by
       rcases Classical.em (a = b) with h | h
       · exact h
       · exact absurd (UInt8.lt_or_lt_of_ne h) (by simp [h1, h2])
      subst h3
      have h4 : l ≠ m := fun e => h (by rw [e])
      simp [h1, cb_ne l m h4]
variable (G : Nat → D) (hG : ∀ g, low 0 (G g))
include hG
theorem sign_d (b : Bool) (h : List Ob) : Does Tryz.prog G 71 h [.v (.bool b)] (fun h' r => h' = h ∧ r = .v (.int .i64 (if b then -1 else 1))) := by
 refine does_of_aw Tryz.func71 rfl (Nat.le_of_ble_eq_true rfl) hG fun hl0 _ => ?_
 simp only [Tryz.ntmps71]
 cases b
 all_goals
  repeat' first
   | refine aw_seq' ?_
   | refine aw_region' ?_
   | refine ao_nil ?_
   | (refine ao1 rfl rfl fun K HK => ?_; simp only [go_sem, ↓reduceIte, Nat.reduceEqDiff, Nat.reduceAdd, Nat.reduceLeDiff, Nat.reduceBEq, Nat.reduceMul, Int.reduceEq, Int.reduceLT, Int.reduceLE] <;> (refine HK _ _ ?_; clear HK K))
   | refine aw_if1 rfl ?_
   | refine aw_if0 rfl ?_
   | refine aw_skip ?_
   | refine aw_ret ?_
   | refine thenS_r ?_
  exact ⟨by simp, endD (r := .v _) hl0 rfl (by simp) (by simp) rfl (by rw [low]; trivial) ⟨rfl, rfl⟩⟩
theorem rcompare_d (a b : Cmd) (ha : a.Ok) (hb : b.Ok) (h : List Ob) : Does Tryz.prog G 40 h [.agg (cmdX a), .agg (cmdX b)] (fun h' r => h' = h ∧ r = .v (.int .i64 (cmpC a b))) := by
 refine does_any G hG (by rw [lowL, lowL, lowL]; exact ⟨low_agg _ _, low_agg _ _, trivial⟩) (by rw [low]; trivial) ?_ h
 refine does_of_aw Tryz.func40 rfl (Nat.le_of_ble_eq_true rfl) hG fun hl0 _ => ?_
 simp only [Tryz.ntmps40]
 repeat' first
  | (refine aq1 rfl rfl fun K HK => ?_; simp only [go_sem]; refine bst_by (n := 1) (h := []) byT_38 strT_9 ?_; refine HK _ _ rfl ?_; clear HK K)
  | refine aw_seq' ?_
  | refine aw_region' ?_
  | refine ao_nil ?_
  | ((first | refine ao1 rfl rfl fun K HK => ?_ | refine aq1 rfl rfl fun K HK => ?_); simp only [go_sem, ↓reduceIte, Nat.reduceEqDiff, Nat.reduceAdd, Nat.reduceLeDiff, Nat.reduceBEq, Nat.reduceMul, Int.reduceEq, Int.reduceLT, Int.reduceLE, cmdX_eq]; (first | refine splitB (fun hq => ?_) (fun hq => ?_) | refine splitN (fun hq => ?_) (fun hq => ?_) | skip) <;> ((first | refine HK _ _ ?_ | refine HK _ _ rfl ?_); clear HK K))
  | (refine aw_draw mixd (by kernel_rfl) ?_)
  | (refine ao2 rfl rfl rfl ent_71 (sign_d G hG _ _) ?_; rintro _ _ ⟨rfl, rfl⟩)
  | refine aq2 rfl rfl rfl ent_72 (rencode_d G hG a ha _) ?_
  | refine aq2 rfl rfl rfl ent_72 (rencode_d G hG b hb _) ?_
  | refine aw_if1 rfl ?_
  | refine aw_if0 rfl ?_
  | refine aw_skip ?_
  | refine aw_ret ?_
  | refine thenS_r ?_
 all_goals refine ⟨.inr rfl, endD (r := .v _) hl0 rfl (by simp) (by simp) rfl (by rw [low]; trivial) ⟨rfl, ?_⟩⟩
 all_goals first
 | (rename_i h1 h2; rw [cmpC_s (by assumption) (by assumption)]; simp [*]; done)
 | (rw [cmpC_c (by assumption)]; simp [*]; done)
 | (rename_i h1 h2
    have e : encC a = encC b := by simpa using hq
    rw [cmpC_e (by assumption) (by assumption), e, cb_self])
 | (have e : ¬ encC a = encC b := fun e => hq (by rw [e])
    rw [cmpC_e (by assumption) (by assumption), cb_ne _ _ e]
    simp only [ba_toList]
    try rfl)
end
section
theorem bl_eq : ∀ (x y : List UInt8), Op.bytesLess x y = decide (x < y)
 | [], [] => by simp [Op.bytesLess]
 | _ :: _, [] => by simp [Op.bytesLess]
 | [], _ :: _ => by simp [Op.bytesLess]
 | a :: x, b :: y => by
  rw [Op.bytesLess, bl_eq x y]
  by_cases h : a < b <;> by_cases h2 : a = b <;> simp [List.cons_lt_cons_iff, h, h2]
theorem cb_eq (l m : List UInt8) : Lib.compareBytes l m = if l < m then -1 else if l = m then 0 else 1 := by
 by_cases h : l = m
 · subst h
   rw [cb_self, if_neg (List.lt_irrefl l), if_pos rfl]
 · rw [cb_ne _ _ h, bl_eq]
   by_cases h2 : l < m <;> simp [h, h2]
def LtC (a b : Cmd) : Prop := a.client < b.client ∨ (a.client = b.client ∧ (a.seq < b.seq ∨ (a.seq = b.seq ∧ encC a < encC b)))
def EqC (a b : Cmd) : Prop := a.client = b.client ∧ a.seq = b.seq ∧ encC a = encC b
theorem cmpC_cases (a b : Cmd) : (LtC a b ∧ cmpC a b = -1) ∨ (EqC a b ∧ cmpC a b = 0) ∨ (LtC b a ∧ cmpC a b = 1) := by
 by_cases h0 : a.client = b.client
 · by_cases h1 : a.seq = b.seq
   · rw [cmpC_e h0 h1, cb_eq]
     by_cases h2 : encC a < encC b
     · exact .inl ⟨.inr ⟨h0, .inr ⟨h1, h2⟩⟩, if_pos h2⟩
     · by_cases h3 : encC a = encC b
       · exact .inr (.inl ⟨⟨h0, h1, h3⟩, by rw [if_neg h2, if_pos h3]⟩)
       · refine .inr (.inr ⟨.inr ⟨h0.symm, .inr ⟨h1.symm, ?_⟩⟩, by rw [if_neg h2, if_neg h3]⟩)
         by_cases h : encC b < encC a
         · exact h
         · exact absurd (List.le_antisymm (List.not_lt.1 h) (List.not_lt.1 h2)) h3
   · rw [cmpC_s h0 h1]
     by_cases h2 : a.seq < b.seq
     · exact .inl ⟨.inr ⟨h0, .inl h2⟩, if_pos h2⟩
     · exact .inr (.inr ⟨.inr ⟨h0.symm, .inl (by omega)⟩, if_neg h2⟩)
 · rw [cmpC_c h0]
   by_cases h2 : a.client < b.client
   · exact .inl ⟨.inl h2, if_pos h2⟩
   · exact .inr (.inr ⟨.inl (by omega), if_neg h2⟩)
theorem LtC.irrefl (a : Cmd) : ¬ LtC a a := fun h => by
 rcases h with h | ⟨_, h | ⟨_, h⟩⟩
 · omega
 · omega
 · exact List.lt_irrefl _ h
theorem LtC.trans {a b c : Cmd} (h : LtC a b) (k : LtC b c) : LtC a c := by
 rcases h with h | ⟨h0, h | ⟨h1, h⟩⟩ <;> rcases k with k | ⟨k0, k | ⟨k1, k⟩⟩
 · exact .inl (by omega)
 · exact .inl (by omega)
 · exact .inl (by omega)
 · exact .inl (by omega)
 · exact .inr ⟨by omega, .inl (by omega)⟩
 · exact .inr ⟨by omega, .inl (by omega)⟩
 · exact .inl (by omega)
 · exact .inr ⟨by omega, .inl (by omega)⟩
 · exact .inr ⟨by omega, .inr ⟨by omega, List.lt_trans h k⟩⟩
theorem EqC.left {a b c : Cmd} (h : EqC a b) (k : LtC b c) : LtC a c := by
 obtain ⟨h1, h2, h3⟩ := h
 unfold LtC at k ⊢
 rw [h1, h2, h3]; exact k
theorem EqC.right {a b c : Cmd} (h : EqC b c) (k : LtC a b) : LtC a c := by
 obtain ⟨h1, h2, h3⟩ := h
 unfold LtC at k ⊢
 rw [← h1, ← h2, ← h3]; exact k
theorem cmpC_lt {a b : Cmd} : cmpC a b < 0 ↔ LtC a b := by
 rcases cmpC_cases a b with ⟨h, e⟩ | ⟨h, e⟩ | ⟨h, e⟩
 · rw [e]; exact ⟨fun _ => h, fun _ => by decide⟩
 · rw [e]; exact ⟨fun h => absurd h (by decide), fun k => absurd (EqC.right ⟨h.1.symm, h.2.1.symm, h.2.2.symm⟩ k) (LtC.irrefl a)⟩
 · rw [e]; exact ⟨fun h => absurd h (by decide), fun k => absurd (h.trans k) (LtC.irrefl b)⟩
theorem cmpC_zero {a b : Cmd} : cmpC a b = 0 ↔ EqC a b := by
 rcases cmpC_cases a b with ⟨h, e⟩ | ⟨h, e⟩ | ⟨h, e⟩
 · rw [e]; exact ⟨fun h => absurd h (by decide), fun k => absurd (EqC.right ⟨k.1.symm, k.2.1.symm, k.2.2.symm⟩ h) (LtC.irrefl a)⟩
 · rw [e]; exact ⟨fun _ => h, fun _ => rfl⟩
 · rw [e]; exact ⟨fun h => absurd h (by decide), fun k => absurd (EqC.right k h) (LtC.irrefl b)⟩
end
section
section
variable {P : Program} {G : Nat → D} {n : Nat} {e : Nat → D} {h : List Ob} {ops : Array Oper} {rest : List Oper} {Q : S → Prop} {t : Nat} {ty : TypeId} {pos : String} {aft : Array Edge} {gd : Option (Nat × Bool)}
theorem ao_from {u E k i m a : Nat} {x y : Operand} {xs : List (List D)} (hw : wantedD ops gd e = some true) (ht : decide (t < n) = true) (hx : ev G e x = .buf i m) (hy : ev G e y = .v (.int .i64 a)) (hi : h[i]? = some (.buf E k xs)) (hm : xs.length = m) (he : (elT P u).bind (szT P) = some k) (ha : a ≤ m)
 (q : ao P G ops rest Q ⟨n, upd e t (.win i m a m), h⟩) : ao P G ops (⟨some t, .slice u x (some y) none none, ty, pos, aft, gd⟩ :: rest) Q ⟨n, e, h⟩ := by
 have hN : nF P G e h (.slice u x (some y) none none) = some (h, .win i m a m) := by
  show keepF h (sliF P h u (ev G e x) (some (ev G e y)) none) = _
  rw [hx, hy]
  simp [sliF, bndD, hi, hm, he, keepF, ha]
 refine ao_tri hw (nF_sound hN) ?_
 unfold putE
 simp only [if_pos (of_decide_eq_true ht)]
 exact q
theorem ao_upto {u E k i m b : Nat} {x y : Operand} {xs : List (List D)} (hw : wantedD ops gd e = some true) (ht : decide (t < n) = true) (hx : ev G e x = .buf i m) (hy : ev G e y = .v (.int .i64 b)) (hi : h[i]? = some (.buf E k xs)) (hm : xs.length = m) (he : (elT P u).bind (szT P) = some k) (hb : b ≤ m)
 (q : ao P G ops rest Q ⟨n, upd e t (.win i m 0 b), h⟩) : ao P G ops (⟨some t, .slice u x none (some y) none, ty, pos, aft, gd⟩ :: rest) Q ⟨n, e, h⟩ := by
 have hN : nF P G e h (.slice u x none (some y) none) = some (h, .win i m 0 b) := by
  show keepF h (sliF P h u (ev G e x) none (some (ev G e y))) = _
  rw [hx, hy]
  simp [sliF, bndD, hi, hm, he, keepF, hb]
 refine ao_tri hw (nF_sound hN) ?_
 unfold putE
 simp only [if_pos (of_decide_eq_true ht)]
 exact q
theorem ao_lenW {u i m a b : Nat} {x : Operand} (hw : wantedD ops gd e = some true) (ht : decide (t < n) = true) (hx : ev G e x = .win i m a b) (hu : slT P u = true)
 (q : ao P G ops rest Q ⟨n, upd e t (.v (.int .i64 (b - a : Nat))), h⟩) : ao P G ops (⟨some t, .call ⟨.builtin .len, #[x], #[u]⟩, ty, pos, aft, gd⟩ :: rest) Q ⟨n, e, h⟩ := by
 have hN : nF P G e h (.call ⟨.builtin .len, #[x], #[u]⟩) = some (h, .v (.int .i64 (b - a : Nat))) := by
  show keepF h (lenN P u (ev G e x)) = _
  rw [hx]
  simp [lenN, hu, keepF]
 refine ao_tri hw (nF_sound hN) ?_
 unfold putE
 simp only [if_pos (of_decide_eq_true ht)]
 exact q
end
end
section
set_option maxRecDepth 100000
set_option maxHeartbeats 1000000
attribute [local irreducible] on aOp
attribute [local go_sem] decide_true decide_false Bool.not_true Bool.not_false
attribute [local simp] byD_len
theorem endBk {res : Array ResultVar} {K : List Ob → D → Prop} {e k n n' : Nat} {rows rows' : List (List D)} {T : List Ob} {s : S} (h1 : resD Tryz.prog s res.toList = some [.buf 0 n']) (h2 : s.h = .buf e k rows' :: T) (h3 : n' = n) (h4 : rows' = rows) (hl : lowR 1 rows) (hK : K [.buf e k rows] (.buf 0 n)) : EndD Tryz.prog res ([] : List Ob).length K s := by
 subst h3 h4
 have e1 : s.h.take 1 = [.buf e k rows'] := by rw [h2]; rfl
 refine ⟨[.buf 0 n'], 1, h1, Nat.zero_le _, by rw [h2]; exact Nat.le_add_left 1 T.length, ?_, ?_, ?_⟩
 · rw [e1]
   intro x hx
   rw [List.mem_singleton.1 hx]
   exact hl
 · simp [outD, cvD, cv1, low]
 · rw [e1]; simpa [outD, cvD, cv1] using hK
variable (G : Nat → D) (hG : ∀ g, low 0 (G g))
include hG
theorem cloneB0 (l : List UInt8) (hl : l.length ≤ 10000000) :
 Does Tryz.prog G 73 [] [.sl 1 (byD l)] (fun h' r => h' = [.buf 5 1 (byD l)] ∧ r = .buf 0 l.length) := by
 refine Does.nilbuf (K := fun h' r => (h' = [.buf 5 1 (byD l)] ∧ r = .buf 0 l.length) ∨ (l = [] ∧ h' = [] ∧ r = .v (.slice none 0 0))) 5 1 ?_ ?_
 rotate_left
 · rintro h' r (h | ⟨rfl, rfl, rfl⟩)
   · exact .inl h
   · exact .inr ⟨rfl, rfl, rfl⟩
 refine does_of_aw Tryz.func73 rfl (Nat.le_of_ble_eq_true rfl) hG fun hl0 _ => ?_
 simp only [Tryz.ntmps73]
 repeat' first
  | (refine ao_ex rfl (tri_nil (k := 1) (xs := byD l) (by kernel_rfl)) ?_; rintro _ _ ⟨rfl, ⟨rfl, hnil⟩ | rfl⟩)
  | refine aw_seq' ?_
  | refine aw_region' ?_
  | refine ao_nil ?_
  | (refine ao1 rfl rfl fun K HK => ?_; simp only [go_sem, ↓reduceIte, Nat.reduceEqDiff, Nat.reduceAdd, Nat.reduceLeDiff, Nat.reduceBEq, Nat.reduceMul, Int.reduceEq, Int.reduceLT, Int.reduceLE] <;> (refine HK _ _ ?_; clear HK K))
  | refine ao_appR rfl rfl rfl (by (simp only [go_sem, ↓reduceIte, Nat.reduceEqDiff, Nat.reduceAdd, Nat.reduceLeDiff, Nat.reduceBEq, Nat.reduceMul, Int.reduceEq, Int.reduceLT, Int.reduceLE]; rfl)) (by simp) (by simp only [go_sem]; rfl) rfl (by exact rowsOk_by _) (by (simp; omega)) ?_
  | refine aw_if1 rfl ?_
  | refine aw_if0 rfl ?_
  | refine aw_skip ?_
  | refine aw_ret ?_
  | refine thenS_r ?_
 · exact ⟨.inr rfl, endD (r := .v _) hl0 rfl (by simp) (by simp) rfl (by rw [low]; trivial) (.inr ⟨by simpa [byD] using hnil, rfl, rfl⟩)⟩
 · exact ⟨.inr rfl, endB (l := l) rfl (T := []) rfl (by simp) rfl (.inl ⟨rfl, rfl⟩)⟩
theorem cloneB (l : List UInt8) (hl : l.length ≤ 10000000) (h : List Ob) :
 Does Tryz.prog G 73 h [.sl 1 (byD l)] (fun h' r => h' = h ∧ r = .sl 1 (byD l)) := does_gave hG (by rw [lowL, lowL]; exact ⟨low_by _ _, trivial⟩) rfl (cloneB0 G hG l hl) h
omit hG in
theorem rowsOk_wr (l : List (ByteArray × List UInt8)) : rowsOk 2 (l.map wrX) := fun row hr => by
 obtain ⟨x, _, rfl⟩ := List.mem_map.1 hr
 refine ⟨rfl, fun d hd => ?_⟩
 rw [wrX] at hd
 simp at hd
 rcases hd with rfl | rfl <;> rfl
theorem cloneW0 (l : List (ByteArray × List UInt8)) (hl : l.length ≤ 10000) :
 Does Tryz.prog G 74 [] [.sl 2 (l.map wrX)] (fun h' r => h' = [.buf 67 2 (l.map wrX)] ∧ r = .buf 0 l.length) := by
 refine Does.nilbuf (K := fun h' r => (h' = [.buf 67 2 (l.map wrX)] ∧ r = .buf 0 l.length) ∨ (l = [] ∧ h' = [] ∧ r = .v (.slice none 0 0))) 67 2 ?_ ?_
 rotate_left
 · rintro h' r (h | ⟨rfl, rfl, rfl⟩)
   · exact .inl h
   · exact .inr ⟨rfl, rfl, rfl⟩
 have hro := rowsOk_wr l
 refine does_of_aw Tryz.func74 rfl (Nat.le_of_ble_eq_true rfl) hG fun hl0 _ => ?_
 simp only [Tryz.ntmps74]
 repeat' first
  | (refine ao_ex rfl (tri_nil (k := 2) (xs := l.map wrX) (by kernel_rfl)) ?_; rintro _ _ ⟨rfl, ⟨rfl, hnil⟩ | rfl⟩)
  | refine aw_seq' ?_
  | refine aw_region' ?_
  | refine ao_nil ?_
  | (refine ao1 rfl rfl fun K HK => ?_; simp only [go_sem, ↓reduceIte, Nat.reduceEqDiff, Nat.reduceAdd, Nat.reduceLeDiff, Nat.reduceBEq, Nat.reduceMul, Int.reduceEq, Int.reduceLT, Int.reduceLE] <;> (refine HK _ _ ?_; clear HK K))
  | refine ao_appR rfl rfl rfl (by (simp only [go_sem, ↓reduceIte, Nat.reduceEqDiff, Nat.reduceAdd, Nat.reduceLeDiff, Nat.reduceBEq, Nat.reduceMul, Int.reduceEq, Int.reduceLT, Int.reduceLE]; rfl)) (by simp) (by simp only [go_sem]; rfl) rfl (by assumption) (by (simp; omega)) ?_
  | refine aw_if1 rfl ?_
  | refine aw_if0 rfl ?_
  | refine aw_skip ?_
  | refine aw_ret ?_
  | refine thenS_r ?_
 · exact ⟨.inr rfl, endD (r := .v _) hl0 rfl (by simp) (by simp) rfl (by rw [low]; trivial) (.inr ⟨by simpa using hnil, rfl, rfl⟩)⟩
 · have hl1 := low_wr 1 l
   rw [low] at hl1
   exact ⟨.inr rfl, endBk (n := l.length) (rows := l.map wrX) rfl (T := []) rfl (by simp) (by simp) hl1 (.inl ⟨rfl, rfl⟩)⟩
end
section
set_option maxRecDepth 100000
set_option maxHeartbeats 1000000
attribute [local irreducible] on aOp
attribute [local go_sem] decide_true decide_false Bool.not_true Bool.not_false
attribute [local simp] byD_len
def sameL : List Cmd → List Cmd → Bool
 | [], [] => true
 | x :: s, y :: t => decide (cmpC x y = 0) && sameL s t
 | _, _ => false
def hasL : List Cmd → Cmd → Bool
 | [], _ => false
 | x :: s, c => decide (cmpC x c = 0) || hasL s c
def sortedL : List Cmd → Bool
 | x :: y :: t => decide (cmpC x y < 0) && sortedL (y :: t)
 | _ => true
theorem low_cms (m : Nat) (l : List Cmd) : low m (.sl 6 (l.map cmdX)) := by
 rw [low, lowR_iff]
 intro row hr
 obtain ⟨b, _, rfl⟩ := List.mem_map.1 hr
 exact low_cmd m b
theorem drop_get {α : Type} {l : List α} {k : Nat} {x : α} (h : l[k]? = some x) : l.drop k = x :: l.drop (k + 1) := by
 obtain ⟨hl, rfl⟩ := List.getElem?_eq_some_iff.1 h
 exact List.drop_eq_getElem_cons hl
variable (G : Nat → D) (hG : ∀ g, low 0 (G g))
include hG
theorem has_d (l : List Cmd) (c : Cmd) (ha : ∀ c ∈ l, c.Ok) (hc : c.Ok) (hl : l.length ≤ 1000000) (h : List Ob) : Does Tryz.prog G 20 h [.sl 6 (l.map cmdX), .agg (cmdX c)] (fun h' r => h' = h ∧ r = .v (.bool (hasL l c))) := by
 refine does_any G hG (by rw [lowL, lowL, lowL]; exact ⟨low_cms _ _, low_agg _ _, trivial⟩) (by rw [low]; trivial) ?_ h
 refine does_of_aw Tryz.func20 rfl (Nat.le_of_ble_eq_true rfl) hG fun hl0 _ => ?_
 simp only [Tryz.ntmps20]
 repeat' first
  | refine aw_seq' ?_
  | refine aw_region' ?_
  | refine aw_block ?_
  | refine ao_nil ?_
  | (refine ao1 rfl rfl fun K HK => ?_; simp only [go_sem, ↓reduceIte, Nat.reduceEqDiff, Nat.reduceAdd, Nat.reduceLeDiff, Nat.reduceBEq, Nat.reduceMul, Int.reduceEq, Int.reduceLT, Int.reduceLE] <;> (refine HK _ _ ?_; clear HK K))
 refine aw_for (fun m e h' => ∃ k : Nat, k ≤ l.length ∧ m = l.length - k ∧ hasL l c = hasL (l.drop k) c ∧ h' = [.cells (cmdX c)] ∧ e 0 = .sl 6 (l.map cmdX) ∧ e 3 = .ptr 0 0 ∧ e 5 = .v (.int .i64 k)) l.length ⟨0, Nat.zero_le _, rfl, rfl, rfl, rfl, rfl, rfl⟩ ?_
 rintro m e h' ⟨k, hk, rfl, ho, rfl, e0, e3, e5⟩
 by_cases hlt : k < l.length
 · have hx : l[k]? = some l[k] := List.getElem?_eq_getElem hlt
   have hxa := ha _ (List.getElem_mem hlt)
   generalize l[k] = x at hx hxa
   have wk : IntKind.i64.wrap ((k : Int) + 1) = (k : Int) + 1 := IntWalk.i64_in _ (by omega)
   rw [drop_get hx, hasL] at ho
   repeat' first
    | refine aw_seq' ?_
    | refine aw_region' ?_
    | refine aw_block ?_
    | refine ao_nil ?_
    | ((first | refine ao1 rfl rfl fun K HK => ?_ | refine aq1 rfl rfl fun K HK => ?_); simp only [go_sem, ↓reduceIte, Nat.reduceEqDiff, Nat.reduceAdd, Nat.reduceLeDiff, Nat.reduceBEq, Nat.reduceMul, Int.reduceEq, Int.reduceLT, Int.reduceLE, e0, e3, e5, cmdX_eq, wk, List.length_map, Int.toNat_natCast]; (first | refine splitB (fun hq => ?_) (fun hq => ?_) | (refine ⟨by omega, by omega, ?_⟩; refine row_at (by assumption) ?_) | skip) <;> ((first | refine HK _ _ ?_ | refine HK _ _ rfl ?_); clear HK K))
    | refine aq_nil ?_
    | (refine aw_draw mixd (by kernel_rfl) ?_)
    | refine aq2 rfl rfl rfl ent_40 (rcompare_d G hG x c hxa hc _) ?_
    | refine aw_if1 rfl ?_
    | refine aw_if0 rfl ?_
    | refine aw_skip ?_
    | refine aw_exit ?_
    | refine aw_ret ?_
    | refine thenS_n ?_
    | refine thenS_r ?_
    | refine inB_r ?_
    | (exfalso; omega)
   · exact ⟨by simp, endD (r := .v _) hl0 rfl (by simp) (by simp) rfl (by rw [low]; trivial) ⟨rfl, by rw [ho, decide_eq_true (by assumption)]; rfl⟩⟩
   · exact ⟨rfl, l.length - (k + 1), by omega, k + 1, hlt, rfl, by rw [ho, decide_eq_false (by assumption)]; rfl, rfl, e0, e3, rfl⟩
 · skip
   repeat' first
    | refine aw_seq' ?_
    | refine aw_region' ?_
    | refine aw_block ?_
    | refine ao_nil ?_
    | ((first | refine ao1 rfl rfl fun K HK => ?_ | refine aq1 rfl rfl fun K HK => ?_); simp only [go_sem, ↓reduceIte, Nat.reduceEqDiff, Nat.reduceAdd, Nat.reduceLeDiff, Nat.reduceBEq, Nat.reduceMul, Int.reduceEq, Int.reduceLT, Int.reduceLE, e0, e3, e5, List.length_map]; (first | refine splitB (fun hq => ?_) (fun hq => ?_) | (refine ⟨by omega, by omega, ?_⟩; intro row hrow; obtain ⟨x, hx, rfl⟩ := row_inv hrow; clear hrow) | skip) <;> ((first | refine HK _ _ ?_ | refine HK _ _ rfl ?_); clear HK K))
    | (refine aw_draw mixd (by kernel_rfl) ?_)
    | refine aw_if1 rfl ?_
    | refine aw_if0 rfl ?_
    | refine aw_skip ?_
    | refine aw_exit ?_
    | refine aw_ret ?_
    | (exfalso; omega)
   exact ⟨by simp, endD (r := .v _) hl0 rfl (by simp) (by simp) rfl (by rw [low]; trivial) ⟨rfl, by rw [ho, List.drop_eq_nil_of_le (by omega)]; rfl⟩⟩
end
section
set_option maxRecDepth 100000
set_option maxHeartbeats 1000000
attribute [local irreducible] on aOp
attribute [local go_sem] decide_true decide_false Bool.not_true Bool.not_false
attribute [local simp] byD_len
def cH (c : Cmd) : List Ob := [.cells [.v (.int .i64 c.client), .v (.int .i64 c.seq), .v (.int .i64 c.kind), .buf 2 c.writes.length, .v (.int .i64 c.replica), .sl 1 (byD c.tag)], .cells [.v (.int .i64 0), .v (.int .i64 0), .v (.int .i64 0), .v (.slice none 0 0), .v (.int .i64 0), .v (.slice none 0 0)], .buf 67 2 (c.writes.map wrX)]
theorem cH_0 (c : Cmd) : (cH c)[0]? = some (.cells [.v (.int .i64 c.client), .v (.int .i64 c.seq), .v (.int .i64 c.kind), .buf 2 c.writes.length, .v (.int .i64 c.replica), .sl 1 (byD c.tag)]) := rfl
theorem cH_1 (c : Cmd) : (cH c)[1]? = some (.cells [.v (.int .i64 0), .v (.int .i64 0), .v (.int .i64 0), .v (.slice none 0 0), .v (.int .i64 0), .v (.slice none 0 0)]) := rfl
theorem cH_2 (c : Cmd) : (cH c)[2]? = some (.buf 67 2 (c.writes.map wrX)) := rfl
theorem list_set_same {α : Type} {l : List α} {k : Nat} {x : α} (h : l[k]? = some x) : l.set k x = l := by
 apply List.ext_getElem?
 intro j
 by_cases hj : k = j
 · subst hj; rw [List.getElem?_set_self (List.getElem?_eq_some_iff.1 h).1, h]
 · rw [List.getElem?_set_ne hj]
theorem rows_same {l : List (ByteArray × List UInt8)} {k : Nat} {x : ByteArray × List UInt8} (h : (l.map wrX)[k]? = some (wrX x)) : (l.map wrX).set k (putL (wrX x) 1 [.sl 1 (byD x.2)]) = l.map wrX := by
 have e : putL (wrX x) 1 [.sl 1 (byD x.2)] = wrX x := by simp [putL, wrX]
 rw [e, list_set_same h]
variable (G : Nat → D) (hG : ∀ g, low 0 (G g))
include hG
theorem cloneW (l : List (ByteArray × List UInt8)) (hl : l.length ≤ 10000) (h : List Ob) :
 Does Tryz.prog G 74 h [.sl 2 (l.map wrX)] (fun h' r => h' = h ++ [.buf 67 2 (l.map wrX)] ∧ r = .buf h.length l.length) := does_newR hG (low_wr _ _) (by rw [lowL, lowL]; exact ⟨low_wr _ _, trivial⟩) (cloneW0 G hG l hl) h
theorem clone_d (c : Cmd) (hc : c.Ok) (h : List Ob) : Does Tryz.prog G 41 h [.agg (cmdX c)] (fun h' r => h' = h ∧ r = .agg (cmdX c)) := by
 refine does_any G hG (by rw [lowL, lowL]; exact ⟨low_agg _ _, trivial⟩) (low_agg _ _) ?_ h
 have hm := hc.many
 have ht := hc.tag
 refine does_of_aw Tryz.func41 rfl (Nat.le_of_ble_eq_true rfl) hG fun hl0 _ => ?_
 simp only [Tryz.ntmps41]
 repeat' first
  | refine aw_seq' ?_
  | refine aw_region' ?_
  | refine aw_block ?_
  | refine ao_nil ?_
  | (refine ao1 rfl rfl fun K HK => ?_; simp only [go_sem, ↓reduceIte, Nat.reduceEqDiff, Nat.reduceAdd, Nat.reduceLeDiff, Nat.reduceBEq, Nat.reduceMul, Int.reduceEq, Int.reduceLT, Int.reduceLE, cmdX_eq] <;> (refine HK _ _ ?_; clear HK K))
  | (refine ao2 rfl rfl rfl ent_73 (cloneB G hG c.tag (by omega) _) ?_; rintro _ _ ⟨rfl, rfl⟩)
  | (refine ao2 rfl rfl rfl ent_74 (cloneW G hG c.writes (by omega) _) ?_; rintro _ _ ⟨rfl, rfl⟩)
  | (refine ao1' rfl fun K HK => ?_; simp only [go_sem, ↓reduceIte, Nat.reduceEqDiff, Nat.reduceAdd, Nat.reduceLeDiff, Nat.reduceBEq, Nat.reduceMul, Int.reduceEq, Int.reduceLT, Int.reduceLE, cmdX_eq]; refine HK _ _ ?_; clear HK K)
 refine aw_for (fun m e h' => ∃ k : Nat, k ≤ c.writes.length ∧ m = c.writes.length - k ∧ h' = cH c ∧ e 1 = .ptr 0 0 ∧ e 2 = .ptr 1 0 ∧ e 14 = .v (.int .i64 c.writes.length) ∧ e 15 = .v (.int .i64 k)) c.writes.length ⟨0, Nat.zero_le _, rfl, rfl, rfl, rfl, rfl, rfl⟩ ?_
 rintro m e h' ⟨k, hk, rfl, rfl, e1, e2, e14, e15⟩
 by_cases hlt : k < c.writes.length
 · have hx : c.writes[k]? = some c.writes[k] := List.getElem?_eq_getElem hlt
   have hxm := hc.each _ (List.getElem_mem hlt)
   generalize c.writes[k] = x at hx hxm
   have hrow : (c.writes.map wrX)[((k : Nat) : Int).toNat]? = some (wrX x) := by rw [Int.toNat_natCast, List.getElem?_map, hx]; rfl
   have wk : IntKind.i64.wrap ((k : Int) + 1) = (k : Int) + 1 := IntWalk.i64_in _ (by omega)
   repeat' first
    | (refine aS_idxB rfl rfl rfl rfl (by (simp only [go_sem, ↓reduceIte, Nat.reduceEqDiff, Nat.reduceAdd, Nat.reduceLeDiff, Nat.reduceBEq, Nat.reduceMul, Int.reduceEq, Int.reduceLT, Int.reduceLE, e1, e2, e14, e15, cH_0, cH_1, cH_2, wk]; rfl)) (by simp) (by rw [elT_37]; exact szT_67) (by omega) (by omega) ?_)
    | (refine aS_loadB rfl rfl rfl (by (simp only [go_sem, ↓reduceIte, Nat.reduceEqDiff, Nat.reduceAdd, Nat.reduceLeDiff, Nat.reduceBEq, Nat.reduceMul, Int.reduceEq, Int.reduceLT, Int.reduceLE, e1, e2, e14, e15, cH_0, cH_1, cH_2, wk]; rfl)) (by simp) hrow (by rw [getD_one aggT_38]; rfl) ?_)
    | (refine aS_storeS rfl rfl (by (simp only [go_sem, ↓reduceIte, Nat.reduceEqDiff, Nat.reduceAdd, Nat.reduceLeDiff, Nat.reduceBEq, Nat.reduceMul, Int.reduceEq, Int.reduceLT, Int.reduceLE, e1, e2, e14, e15, cH_0, cH_1, cH_2, wk]; rfl)) (by simp) hrow rfl (by rw [szT_38]; rfl) (by simp [wrX]) (rows_same hrow) ?_)
    | refine aw_seq' ?_
    | refine aw_region' ?_
    | refine aw_block ?_
    | refine ao_nil ?_
    | ((first | refine ao1 rfl rfl fun K HK => ?_ | refine aS1 rfl rfl fun K HK => ?_); simp only [go_sem, ↓reduceIte, Nat.reduceEqDiff, Nat.reduceAdd, Nat.reduceLeDiff, Nat.reduceBEq, Nat.reduceMul, Int.reduceEq, Int.reduceLT, Int.reduceLE, e1, e2, e14, e15, cH_0, cH_1, cH_2, wk]; (first | refine splitB (fun hq => ?_) (fun hq => ?_) | skip) <;> ((first | refine HK _ _ ?_ | refine HK _ _ rfl ?_); clear HK K))
    | (refine aw_drawE mixd (by kernel_rfl) ?_)
    | refine aS_load rfl rfl rfl (by (simp only [go_sem, ↓reduceIte, Nat.reduceEqDiff, Nat.reduceAdd, Nat.reduceLeDiff, Nat.reduceBEq, Nat.reduceMul, Int.reduceEq, Int.reduceLT, Int.reduceLE, e1, e2, e14, e15, cH_0, cH_1, cH_2, wk]; rfl)) (by rw [getD_one (by simp only [go_sem, ↓reduceIte, Nat.reduceEqDiff, Nat.reduceAdd, Nat.reduceLeDiff, Nat.reduceBEq, Nat.reduceMul, Int.reduceEq, Int.reduceLT, Int.reduceLE, e1, e2, e14, e15, cH_0, cH_1, cH_2, wk])]; rfl) ?_
    | refine aS_nil (by simp only [List.reverse_cons, List.reverse_nil, List.nil_append, List.cons_append, chkAll, chk1]; repeat' (first | exact trivial | refine And.intro ?_ ?_ | exact .inr compat_pl | exact .inr compat_pr | exact .inr compat_rr)) ?_
    | refine aS_call0 rfl rfl rfl ent_73 (fun h2 => cloneB G hG x.2 (by omega) _) ?_
    | (refine ao1' rfl fun K HK => ?_; simp only [go_sem, ↓reduceIte, Nat.reduceEqDiff, Nat.reduceAdd, Nat.reduceLeDiff, Nat.reduceBEq, Nat.reduceMul, Int.reduceEq, Int.reduceLT, Int.reduceLE, e1, e2, e14, e15, cH_0, cH_1, cH_2, wk]; refine HK _ _ ?_; clear HK K)
    | refine aw_if1 rfl ?_
    | refine aw_if0 rfl ?_
    | refine aw_skip ?_
    | refine aw_exit ?_
    | refine aw_ret ?_
    | refine thenS_n ?_
    | (exfalso; omega)
   exact ⟨rfl, c.writes.length - (k + 1), by omega, k + 1, hlt, rfl, rfl, e1, e2, e14, rfl⟩
 · skip
   repeat' first
    | refine aw_seq' ?_
    | refine aw_region' ?_
    | refine aw_block ?_
    | refine ao_nil ?_
    | ((first | refine ao1 rfl rfl fun K HK => ?_ | refine aq1 rfl rfl fun K HK => ?_); simp only [go_sem, ↓reduceIte, Nat.reduceEqDiff, Nat.reduceAdd, Nat.reduceLeDiff, Nat.reduceBEq, Nat.reduceMul, Int.reduceEq, Int.reduceLT, Int.reduceLE, e1, e2, e14, e15, cH_0, cH_1, cH_2]; (first | refine splitB (fun hq => ?_) (fun hq => ?_) | skip) <;> ((first | refine HK _ _ ?_ | refine HK _ _ rfl ?_); clear HK K))
    | (refine aw_draw mixd (by kernel_rfl) ?_)
    | (refine ao1' rfl fun K HK => ?_; simp only [go_sem, ↓reduceIte, Nat.reduceEqDiff, Nat.reduceAdd, Nat.reduceLeDiff, Nat.reduceBEq, Nat.reduceMul, Int.reduceEq, Int.reduceLT, Int.reduceLE, e1, e2, e14, e15, cH_0, cH_1, cH_2]; refine HK _ _ ?_; clear HK K)
    | refine aw_if1 rfl ?_
    | refine aw_if0 rfl ?_
    | refine aw_skip ?_
    | refine aw_exit ?_
    | refine aw_ret ?_
    | (exfalso; omega)
   exact ⟨.inr rfl, endD (ds := [.agg [.v (.int .i64 c.client), .v (.int .i64 c.seq), .v (.int .i64 c.kind), .buf 2 c.writes.length, .v (.int .i64 c.replica), .sl 1 (byD c.tag)]]) (r := .agg (cmdX c)) hl0 (by simp only [resD, Tryz.results41, go_sem, e2, cH_1, ↓reduceIte, Nat.reduceEqDiff, Nat.reduceAdd, Nat.reduceLeDiff]; rfl) (by simp) (by simp) (by simp [outD, cvD, cv1, cH, cmdX]) (low_agg _ _) ⟨rfl, rfl⟩⟩
end
section
set_option maxRecDepth 100000
set_option maxHeartbeats 1000000
attribute [local irreducible] on aOp
attribute [local go_sem] decide_true decide_false Bool.not_true Bool.not_false
attribute [local simp] byD_len
variable (G : Nat → D) (hG : ∀ g, low 0 (G g))
include hG
theorem ssame_d (a b : Cmd) (ha : a.Ok) (hb : b.Ok) (h : List Ob) : Does Tryz.prog G 45 h [.agg (cmdX a), .agg (cmdX b)] (fun h' r => h' = h ∧ r = .v (.bool (decide (cmpC a b = 0)))) := by
 refine does_any G hG (by rw [lowL, lowL, lowL]; exact ⟨low_agg _ _, low_agg _ _, trivial⟩) (by rw [low]; trivial) ?_ h
 refine does_of_aw Tryz.func45 rfl (Nat.le_of_ble_eq_true rfl) hG fun hl0 _ => ?_
 simp only [Tryz.ntmps45]
 repeat' first
  | refine aw_seq' ?_
  | refine aw_region' ?_
  | refine ao_nil ?_
  | (refine ao1 rfl rfl fun K HK => ?_; simp only [go_sem, ↓reduceIte, Nat.reduceEqDiff, Nat.reduceAdd, Nat.reduceLeDiff, Nat.reduceBEq, Nat.reduceMul, Int.reduceEq, Int.reduceLT, Int.reduceLE, cmdX_eq]; (first | refine splitB (fun hq => ?_) (fun hq => ?_) | skip) <;> (refine HK _ _ ?_; clear HK K))
  | (refine ao2 rfl rfl rfl ent_43 (compare_d G hG a b ha hb _) ?_; rintro _ _ ⟨rfl, rfl⟩)
  | refine aw_ret ?_
 all_goals exact ⟨.inr rfl, endD (r := .v _) hl0 rfl (by simp) (by simp) rfl (by rw [low]; trivial) ⟨rfl, by first | rw [decide_eq_true (by assumption)] | rw [decide_eq_false (by assumption)]⟩⟩
end
section
set_option maxRecDepth 100000
set_option maxHeartbeats 1000000
attribute [local irreducible] on aOp
attribute [local simp] byD_len
def cpt : Cmd → List Cmd → List Cmd
 | _, [] => []
 | p, y :: t => if cmpC y p = 0 then cpt y t else y :: cpt y t
def compactL : List Cmd → List Cmd
 | [] => []
 | x :: t => x :: cpt x t
theorem cpt_mem : ∀ (p : Cmd) (l : List Cmd) (c : Cmd), c ∈ cpt p l → c ∈ l
 | _, [], _, h => h
 | p, y :: t, c, h => by
  rw [cpt] at h
  split at h
  · exact List.mem_cons_of_mem _ (cpt_mem y t c h)
  · rcases List.mem_cons.1 h with rfl | h
    · exact List.mem_cons_self
    · exact List.mem_cons_of_mem _ (cpt_mem y t c h)
theorem cpt_sorted : ∀ (p : Cmd) (l : List Cmd), (p :: l).Pairwise (fun x y => ¬ cmpC y x < 0) → (∀ c ∈ cpt p l, LtC p c) ∧ (cpt p l).Pairwise LtC
 | p, [], _ => ⟨fun c h => (by cases h), List.Pairwise.nil⟩
 | p, y :: t, h => by
  obtain ⟨h1, h2⟩ := List.pairwise_cons.1 h
  obtain ⟨i1, i2⟩ := cpt_sorted y t h2
  rw [cpt]
  split
  · rename_i h0
    exact ⟨fun c hc => EqC.left (by have := cmpC_zero.1 h0; exact ⟨this.1.symm, this.2.1.symm, this.2.2.symm⟩) (i1 c hc), i2⟩
  · rename_i h0
    have hy : LtC p y := by
     rcases cmpC_cases p y with ⟨a, _⟩ | ⟨a, _⟩ | ⟨a, _⟩
     · exact a
     · exact absurd (cmpC_zero.2 ⟨a.1.symm, a.2.1.symm, a.2.2.symm⟩) h0
     · exact absurd (cmpC_lt.2 a) (h1 y List.mem_cons_self)
    refine ⟨fun c hc => ?_, List.pairwise_cons.2 ⟨i1, i2⟩⟩
    rcases List.mem_cons.1 hc with rfl | hc
    · exact hy
    · exact hy.trans (i1 c hc)
theorem compact_sorted {l : List Cmd} (h : l.Pairwise (fun x y => ¬ cmpC y x < 0)) : (compactL l).Pairwise LtC := by
 cases l with
 | nil => exact .nil
 | cons x t => exact List.pairwise_cons.2 (cpt_sorted x t h)
theorem cpt_has : ∀ (p : Cmd) (l : List Cmd) (c : Cmd), c ∈ l → ∃ d ∈ p :: cpt p l, EqC c d
 | p, y :: t, c, h => by
  rcases List.mem_cons.1 h with rfl | h
  · rw [cpt]
    split
    · rename_i h0; exact ⟨p, List.mem_cons_self, cmpC_zero.1 h0⟩
    · exact ⟨c, by simp, rfl, rfl, rfl⟩
  · obtain ⟨d, h1, h2⟩ := cpt_has y t c h
    rw [cpt]
    split
    · rename_i h0
      rcases List.mem_cons.1 h1 with rfl | h1
      · have := cmpC_zero.1 h0
        exact ⟨p, List.mem_cons_self, h2.1.trans this.1, h2.2.1.trans this.2.1, h2.2.2.trans this.2.2⟩
      · exact ⟨d, List.mem_cons_of_mem _ h1, h2⟩
    · exact ⟨d, List.mem_cons_of_mem _ h1, h2⟩
theorem compact_has {l : List Cmd} {c : Cmd} (h : c ∈ l) : ∃ d ∈ compactL l, EqC c d := by
 cases l with
 | nil => cases h
 | cons x t =>
  rcases List.mem_cons.1 h with rfl | h
  · exact ⟨c, List.mem_cons_self, rfl, rfl, rfl⟩
  · exact cpt_has x t c h
theorem compact_mem {l : List Cmd} {c : Cmd} (h : c ∈ compactL l) : c ∈ l := by
 cases l with
 | nil => cases h
 | cons x t =>
  rcases List.mem_cons.1 h with rfl | h
  · exact List.mem_cons_self
  · exact List.mem_cons_of_mem _ (cpt_mem x t c h)
end
section
variable {P : Program} {G : Nat → D} {f : FuncId} {h : List Ob} {args : List D}
theorem Does.reown {K K' : List Ob → D → Prop} (q : Does P G f h args K) (c : ∀ h' r, K h' r → K' h' r ∨ ∃ i n b E k xs, h'[i]? = some (.buf E k xs) ∧ xs.length = n ∧ b ≤ n ∧ r = .win i n 0 b ∧ K' (h'.set i .dead ++ [.buf E k (xs.take b)]) (.buf h'.length b)) : Does P G f h args K' := fun w hd p vs o ha => by
 refine (q w hd p vs o ha).mono ?_
 rintro e w' ⟨v, hd', h', r, p', rfl, hK, ok, hr, ev⟩
 rcases c _ _ hK with hk | ⟨i, n, b, E, k, xs, hi, hn, hb, rfl, hk⟩
 · exact ⟨v, hd', h', r, p', rfl, hk, ok, hr, ev⟩
 · obtain ⟨o2, ev2, hr2⟩ := ok.reown hi hn hb hr
   exact ⟨v, _, _, _, _, rfl, hk, o2, hr2, ev.trans ev2⟩
mutual
theorem rnO_low0 (R : List Nat) : ∀ d, low 0 d → rnO R d = some d
 | .any, _ => by rw [rnO]
 | .v _, _ => by rw [rnO]
 | .e0, _ => by rw [rnO]
 | .sl k xs, l => by rw [low] at l; rw [rnO, rnR_low0 R xs l]
 | .agg ds, l => by rw [low] at l; rw [rnO, rnL_low0 R ds l]
 | .tup ds, l => by rw [low] at l; rw [rnO, rnL_low0 R ds l]
 | .rp ds, l => by rw [low] at l; rw [rnO, rnL_low0 R ds l]
 | .fn f ds, l => by rw [low] at l; rw [rnO, rnL_low0 R ds l]
 | .ptr i o, l => by rw [low] at l; omega
 | .buf i n, l => by rw [low] at l; omega
 | .bp i n r c, l => by rw [low] at l; omega
 | .win i n a b, l => by rw [low] at l; omega
 | .arr i o n c k, l => by rw [low] at l; omega
 | .mp i, l => by rw [low] at l; omega
theorem rnL_low0 (R : List Nat) : ∀ d, lowL 0 d → rnL R d = some d
 | [], _ => by rw [rnL]
 | d :: t, l => by rw [lowL] at l; rw [rnL, rnO_low0 R d l.1, rnL_low0 R t l.2]
theorem rnR_low0 (R : List Nat) : ∀ d, lowR 0 d → rnR R d = some d
 | [], _ => by rw [rnR]
 | d :: t, l => by rw [lowR] at l; rw [rnR, rnL_low0 R d l.1, rnR_low0 R t l.2]
end
theorem Does.only0 {K : List Ob → D → Prop} (hG : ∀ g, low 0 (G g)) {E k n : Nat} {rows : List (List D)} (lr : low 0 (.sl k rows)) (q : Does P G f [] args K) (c : ∀ h' r, K h' r → ∃ i, h'[i]? = some (.buf E k rows) ∧ r = .buf i n) : Does P G f [] args (fun h' r => h' = [.buf E k rows] ∧ r = .buf 0 n) := by
 refine q.shrink hG fun h' r hK => ?_
 obtain ⟨i, hi, rfl⟩ := c _ _ hK
 rw [low] at lr
 refine ⟨[.buf E k rows], .buf 0 n, ⟨[i], ?_, rfl, ?_, Nat.zero_le _, fun k hk => by simp at hk⟩, rfl, rfl⟩
 · simp [rnH, hi, rnOb, rnR_low0 _ _ lr]
 · simp [rnO, pos]
theorem Does.gave0 (hG : ∀ g, low 0 (G g)) {E k n : Nat} {rows : List (List D)} (lr : low 0 (.sl k rows)) (la : lowL 0 args) (hn : rows.length = n) (q : Does P G f [] args (fun h' r => h' = [.buf E k rows] ∧ r = .buf 0 n)) (h : List Ob) : Does P G f h args (fun h' r => h' = h ∧ r = .sl k rows) := by
 refine does_any G hG la lr (q.drop hG ?_) h
 rintro _ _ ⟨rfl, rfl⟩
 refine ⟨0, Nat.le_refl _, Nat.zero_le _, fun x hx => by simp at hx, ?_, ?_⟩
 · simpa [cvD, cv1, hn] using lr
 · simp [cvD, cv1, hn]
end
section
section
variable {P : Program} {G : Nat → D} {n : Nat} {e : Nat → D} {h : List Ob} {ops : Array Oper} {rest : List Oper} {Q : S → Prop} {t : Nat} {ty : TypeId} {pos : String} {aft : Array Edge} {gd : Option (Nat × Bool)}
theorem ao_idxB {u : TypeId} {x y : Operand} {i m E k : Nat} {κ : IntKind} {z : Int} {xs : List (List D)} (hw : wantedD ops gd e = some true) (ht : decide (t < n) = true) (hx : ev G e x = .buf i m) (hy : ev G e y = .v (.int κ z)) (hi : h[i]? = some (.buf E k xs)) (hm : xs.length = m) (he : (elT P u).bind (szT P) = some k) (h0 : 0 ≤ z) (h1 : z < (m : Int))
 (q : ao P G ops rest Q ⟨n, upd e t (.bp i m z.toNat 0), h⟩) : ao P G ops (⟨some t, .indexAddr u x y, ty, pos, aft, gd⟩ :: rest) Q ⟨n, e, h⟩ := by
 refine ao1 hw ht fun K HK => ?_
 rw [aOp_iaddr, hx, hy, idxA_buf]
 exact ⟨E, k, xs, hi, hm, he, h0, h1, HK _ _ q⟩
theorem ao_idxW {u : TypeId} {x y : Operand} {i m a b E k : Nat} {κ : IntKind} {z : Int} {xs : List (List D)} (hw : wantedD ops gd e = some true) (ht : decide (t < n) = true) (hx : ev G e x = .win i m a b) (hy : ev G e y = .v (.int κ z)) (hi : h[i]? = some (.buf E k xs)) (hm : xs.length = m) (he : (elT P u).bind (szT P) = some k) (h0 : 0 ≤ z) (h1 : z < ((b - a : Nat) : Int))
 (q : ao P G ops rest Q ⟨n, upd e t (.bp i m (a + z.toNat) 0), h⟩) : ao P G ops (⟨some t, .indexAddr u x y, ty, pos, aft, gd⟩ :: rest) Q ⟨n, e, h⟩ := by
 refine ao1 hw ht fun K HK => ?_
 rw [aOp_iaddr, hx, hy, idxA_win]
 exact ⟨E, k, xs, hi, hm, he, h0, h1, HK _ _ q⟩
theorem ao_loadB {u : TypeId} {x : Operand} {i m r j E k : Nat} {xs : List (List D)} {row : List D} {d : D} (hw : wantedD ops gd e = some true) (ht : decide (t < n) = true) (hx : ev G e x = .bp i m r j) (hi : h[i]? = some (.buf E k xs)) (hm : xs.length = m) (hr : xs[r]? = some row) (hg : getD P u row j = some d)
 (q : ao P G ops rest Q ⟨n, upd e t d, h⟩) : ao P G ops (⟨some t, .load u x, ty, pos, aft, gd⟩ :: rest) Q ⟨n, e, h⟩ := by
 refine ao1 hw ht fun K HK => ?_
 show on (loadD P h u (ev G e x)) _
 rw [hx, loadD_bp hi hm hr, hg]
 exact HK _ _ q
theorem ao_storeB {u : TypeId} {x y : Operand} {i m r j E k : Nat} {xs : List (List D)} {row es : List D} (hw : wantedD ops gd e = some true) (hx : ev G e x = .bp i m r j) (hi : h[i]? = some (.buf E k xs)) (hm : xs.length = m) (hr : xs[r]? = some row) (hy : (ev G e y).cells = some es) (hc : (es.all D.one && szT P u == some es.length) = true) (hle : j + es.length ≤ row.length)
 (q : ao P G ops rest Q ⟨n, e, h.set i (.buf E k (xs.set r (putL row j es)))⟩) : ao P G ops (⟨none, .store u x y, ty, pos, aft, gd⟩ :: rest) Q ⟨n, e, h⟩ := by
 refine ao1' hw fun K HK => ?_
 show on (storeD P h u (ev G e x) (ev G e y)) _
 rw [hx, storeD_bp hi hm hr hy hc hle]
 exact HK _ _ q
theorem ao_clrW {u i m a b E k el : Nat} {x : Operand} {xs : List (List D)} {zs : List D} (hw : wantedD ops gd e = some true) (hx : ev G e x = .win i m a b) (hi : h[i]? = some (.buf E k xs)) (hm : xs.length = m) (he : elT P u = some el) (hz : zeroD P el = some zs) (hk : zs.length = k) (h0 : 0 < k) (ho : zs.all D.one = true) (hab : a ≤ b) (hb : b ≤ m)
 (q : ∀ ys : List (List D), ys.length = m → ys.take a = xs.take a → ao P G ops rest Q ⟨n, e, h.set i (.buf E k ys)⟩) : ao P G ops (⟨none, .call ⟨.builtin .clear, #[x], #[u]⟩, ty, pos, aft, gd⟩ :: rest) Q ⟨n, e, h⟩ := by
 have hN : nF P G e h (.call ⟨.builtin .clear, #[x], #[u]⟩) = some (bif Nat.beq a b then h else h.set i (.buf E k (xs.take a ++ List.replicate (b - a) zs ++ xs.drop b)), .tup []) := by
  show clrF P h u (ev G e x) = _
  rw [hx]
  simp [clrF, hi, hm, he, hz, hk, h0, ho, hb]
 refine ao_tri hw (nF_sound hN) ?_
 unfold putE
 cases Nat.beq a b
 · exact q _ (by simp; omega) (by rw [List.append_assoc, List.take_append_of_le_length (by simp; omega), List.take_take, Nat.min_self])
 · have := q xs hm rfl
   rw [set_self' hi] at this
   exact this
end
end
section
set_option maxRecDepth 100000
set_option maxHeartbeats 2000000
attribute [local irreducible] on aOp
attribute [local go_sem] decide_true decide_false Bool.not_true Bool.not_false
attribute [local simp] byD_len
def Cp1 (l : List Cmd) (k : Nat) : Prop := ∃ p, l[k - 1]? = some p ∧ compactL l = l.take k ++ cpt p (l.drop k)
theorem Cp1.start {l : List Cmd} (h : 1 ≤ l.length) : Cp1 l 1 := by
 cases l with
 | nil => simp at h
 | cons x t => exact ⟨x, rfl, by simp [compactL]⟩
theorem Cp1.next {l : List Cmd} {k : Nat} {p y : Cmd} (h : Cp1 l k) (hp : l[k - 1]? = some p) (hy : l[k]? = some y) (hne : ¬ cmpC y p = 0) : Cp1 l (k + 1) := by
 obtain ⟨p', h1, h2⟩ := h
 rw [hp] at h1; cases h1
 refine ⟨y, by simpa using hy, ?_⟩
 rw [h2, drop_get hy, cpt, if_neg hne, List.take_add_one, hy]
 simp
theorem Cp1.all {l : List Cmd} {k : Nat} (h : Cp1 l k) (hk : l.length ≤ k) : compactL l = l := by
 obtain ⟨p, _, h2⟩ := h
 rw [h2, List.drop_eq_nil_of_le hk, List.take_of_length_le hk, cpt, List.append_nil]
def zeC : List D := [.v (.int .i64 0), .v (.int .i64 0), .v (.int .i64 0), .v (.slice none 0 0), .v (.int .i64 0), .v (.slice none 0 0)]
theorem zero_cmd : zeroD Tryz.prog 40 = some zeC := by kernel_rfl
theorem getC (c : Cmd) : getD Tryz.prog 40 (cmdX c) 0 = some (.agg (cmdX c)) := by rw [getD_agg' aggT_40, szT_40]; rfl
theorem six_map (l : List Cmd) : ∀ r ∈ l.map cmdX, r.length = 6 := fun r hr => by
 obtain ⟨c, _, rfl⟩ := List.mem_map.1 hr; rfl
theorem put_cmd {row : List D} (h : row.length = 6) (c : Cmd) : putL row 0 (cmdX c) = cmdX c := by
 unfold putL
 rw [List.take_zero, List.nil_append, List.drop_eq_nil_of_le (by rw [h]; exact Nat.le_refl 6), List.append_nil]
theorem one_cmd (c : Cmd) : (cmdX c).all D.one = true := by simp [cmdX, D.one, Value.oneCell']
variable (G : Nat → D) (hG : ∀ g, low 0 (G g))
include hG
theorem compact_d (l : List Cmd) (hl : ∀ c ∈ l, c.Ok) (hsz : l.length ≤ 1000000) :
 Does Tryz.prog G 44 [.buf 40 6 (l.map cmdX)] [.buf 0 l.length, .fn 45 []] (fun h' r => ∃ rows, h' = [.buf 40 6 rows] ∧ rows.length = l.length ∧ rows.take (compactL l).length = (compactL l).map cmdX ∧ (r = .win 0 l.length 0 (compactL l).length ∨ (r = .buf 0 l.length ∧ compactL l = l))) := by
 refine does_keep Tryz.func44 rfl (Nat.le_of_ble_eq_true rfl) ?_
 simp only [Tryz.ntmps44]
 have hi : ([.buf 40 6 (l.map cmdX)] : List Ob)[0]? = some (.buf 40 6 (l.map cmdX)) := rfl
 by_cases h2 : l.length < 2
 · have h2' : (l.length : Int) < 2 := by omega
   repeat' first
    | refine aw_seq' ?_
    | refine aw_region' ?_
    | refine ao_nil ?_
    | (refine ao1 rfl rfl fun K HK => ?_; simp only [go_sem, ↓reduceIte, Nat.reduceEqDiff, Nat.reduceAdd, Nat.reduceLeDiff, Nat.reduceBEq, Nat.reduceMul, Int.reduceEq, Int.reduceLT, Int.reduceLE, h2'] <;> (refine HK _ _ ?_; clear HK K))
    | refine aw_if1 rfl ?_
    | refine aw_ret ?_
    | refine thenS_r ?_
   have hc : compactL l = l := by
    rcases l with _ | ⟨x, _ | ⟨y, t⟩⟩
    · rfl
    · rfl
    · exfalso; simp only [List.length_cons] at h2; omega
   all_goals exact ⟨.inr rfl, [.buf 0 l.length], rfl, l.map cmdX, rfl, by simp, by rw [hc]; exact List.take_of_length_le (by simp), .inr ⟨rfl, hc⟩⟩
 have h2' : ¬ (l.length : Int) < 2 := by omega
 repeat' first
  | refine aw_seq' ?_
  | refine aw_region' ?_
  | refine aw_block ?_
  | refine ao_nil ?_
  | (refine ao1 rfl rfl fun K HK => ?_; simp only [go_sem, ↓reduceIte, Nat.reduceEqDiff, Nat.reduceAdd, Nat.reduceLeDiff, Nat.reduceBEq, Nat.reduceMul, Int.reduceEq, Int.reduceLT, Int.reduceLE, h2'] <;> (refine HK _ _ ?_; clear HK K))
  | refine aw_if0 rfl ?_
  | refine aw_skip ?_
 refine aw_for (fun m e h' => ∃ k : Nat, 1 ≤ k ∧ k ≤ l.length ∧ m = l.length - k ∧ Cp1 l k ∧ h' = [.buf 40 6 (l.map cmdX)] ∧ e 0 = .buf 0 l.length ∧ e 1 = .fn 45 [] ∧ e 5 = .v (.int .i64 k)) (l.length - 1) ⟨1, Nat.le_refl _, by omega, rfl, Cp1.start (by omega), rfl, rfl, rfl, rfl⟩ ?_
 rintro m e h' ⟨k, hk1, hk, rfl, hC, rfl, e0, e1, e5⟩
 by_cases hlt : k < l.length
 rotate_left
 · skip
   repeat' first
    | refine aw_seq' ?_
    | refine aw_region' ?_
    | refine aw_block ?_
    | refine ao_nil ?_
    | ((first | refine ao1 rfl rfl fun K HK => ?_ | refine aq1 rfl rfl fun K HK => ?_); simp only [go_sem, ↓reduceIte, Nat.reduceEqDiff, Nat.reduceAdd, Nat.reduceLeDiff, Nat.reduceBEq, Nat.reduceMul, Int.reduceEq, Int.reduceLT, Int.reduceLE, e0, e1, e5]; (first | refine splitB (fun hq => ?_) (fun hq => ?_) | skip) <;> ((first | refine HK _ _ ?_ | refine HK _ _ rfl ?_); clear HK K))
    | (refine aw_draw mixd (by kernel_rfl) ?_)
    | refine aw_if1 rfl ?_
    | refine aw_if0 rfl ?_
    | refine aw_skip ?_
    | refine aw_exit ?_
    | refine aw_ret ?_
    | (exfalso; omega)
   have hc := hC.all (by omega)
   exact ⟨.inr rfl, [.buf 0 l.length], rfl, l.map cmdX, rfl, by simp, by rw [hc]; exact List.take_of_length_le (by simp), .inr ⟨rfl, hc⟩⟩
 have hy : l[k]? = some l[k] := List.getElem?_eq_getElem hlt
 have hp : l[k - 1]? = some l[k - 1] := List.getElem?_eq_getElem (by omega)
 have hyo := hl _ (List.getElem_mem hlt)
 have hpo := hl _ (List.getElem_mem (show k - 1 < l.length by omega))
 generalize l[k] = y at hy hyo
 generalize l[k - 1] = p at hp hpo
 have wk : IntKind.i64.wrap ((k : Int) + 1) = (k : Int) + 1 := IntWalk.i64_in _ (by omega)
 have wm : IntKind.i64.wrap ((k : Int) - 1) = ((k - 1 : Nat) : Int) := by rw [show (k : Int) - 1 = ((k - 1 : Nat) : Int) by omega]; exact IntWalk.i64_in _ (by omega)
 have hyr : (l.map cmdX)[((k : Nat) : Int).toNat]? = some (cmdX y) := by rw [Int.toNat_natCast, List.getElem?_map, hy]; rfl
 have hpr : (l.map cmdX)[((k - 1 : Nat) : Int).toNat]? = some (cmdX p) := by rw [Int.toNat_natCast, List.getElem?_map, hp]; rfl
 by_cases hz : cmpC y p = 0
 rotate_left
 · have hS : ∀ h, Does Tryz.prog G 45 h [.agg (cmdX y), .agg (cmdX p)] (fun h' r => h' = h ∧ r = .v (.bool false)) := fun h => by
    have := ssame_d G hG y p hyo hpo h
    rw [decide_eq_false hz] at this; exact this
   repeat' first
    | (refine aS_idxB rfl rfl rfl rfl (by assumption) (by simp) (by rw [elT_22]; exact szT_40) (by omega) (by omega) ?_)
    | (refine aS_loadB rfl rfl rfl (by assumption) (by simp) hyr (getC _) ?_)
    | (refine aS_loadB rfl rfl rfl (by assumption) (by simp) hpr (getC _) ?_)
    | refine aw_seq' ?_
    | refine aw_region' ?_
    | refine aw_block ?_
    | refine ao_nil ?_
    | ((first | refine ao1 rfl rfl fun K HK => ?_ | refine aS1 rfl rfl fun K HK => ?_); simp only [go_sem, ↓reduceIte, Nat.reduceEqDiff, Nat.reduceAdd, Nat.reduceLeDiff, Nat.reduceBEq, Nat.reduceMul, Int.reduceEq, Int.reduceLT, Int.reduceLE, e0, e1, e5, wk, wm]; (first | refine splitB (fun hq => ?_) (fun hq => ?_) | skip) <;> ((first | refine HK _ _ ?_ | refine HK _ _ rfl ?_); clear HK K))
    | (refine aw_drawE mixd (by kernel_rfl) ?_)
    | refine aS_nil (by simp only [List.reverse_cons, List.reverse_nil, List.nil_append, List.cons_append, chkAll, chk1]; repeat' (first | exact trivial | refine And.intro ?_ ?_ | exact .inr compat_pl | exact .inr compat_pr | exact .inr compat_rr)) ?_
    | refine aS_call0 rfl rfl rfl ent_45 (fun h2 => hS _) ?_
    | refine aw_if1 rfl ?_
    | refine aw_if0 rfl ?_
    | refine aw_skip ?_
    | refine aw_exit ?_
    | refine aw_ret ?_
    | refine thenS_n ?_
    | (exfalso; omega)
   exact ⟨rfl, l.length - (k + 1), by omega, k + 1, by omega, by omega, rfl, hC.next hp hy hz, rfl, e0, e1, rfl⟩
 have hS : ∀ h, Does Tryz.prog G 45 h [.agg (cmdX y), .agg (cmdX p)] (fun h' r => h' = h ∧ r = .v (.bool true)) := fun h => by
  have := ssame_d G hG y p hyo hpo h
  rw [decide_eq_true hz] at this; exact this
 repeat' first
  | (refine ao_from rfl rfl rfl rfl hi (by simp) (by rw [elT_22]; exact szT_40) (Nat.le_of_lt hlt) ?_)
  | (refine aS_idxB rfl rfl rfl rfl (by assumption) (by simp) (by rw [elT_22]; exact szT_40) (by omega) (by omega) ?_)
  | (refine aS_loadB rfl rfl rfl (by assumption) (by simp) hyr (getC _) ?_)
  | (refine aS_loadB rfl rfl rfl (by assumption) (by simp) hpr (getC _) ?_)
  | refine aw_seq' ?_
  | refine aw_region' ?_
  | refine aw_block ?_
  | refine ao_nil ?_
  | ((first | refine ao1 rfl rfl fun K HK => ?_ | refine aS1 rfl rfl fun K HK => ?_); simp only [go_sem, ↓reduceIte, Nat.reduceEqDiff, Nat.reduceAdd, Nat.reduceLeDiff, Nat.reduceBEq, Nat.reduceMul, Int.reduceEq, Int.reduceLT, Int.reduceLE, e0, e1, e5, wk, wm]; (first | refine splitB (fun hq => ?_) (fun hq => ?_) | skip) <;> ((first | refine HK _ _ ?_ | refine HK _ _ rfl ?_); clear HK K))
  | (refine aw_drawE mixd (by kernel_rfl) ?_)
  | refine aS_nil (by simp only [List.reverse_cons, List.reverse_nil, List.nil_append, List.cons_append, chkAll, chk1]; repeat' (first | exact trivial | refine And.intro ?_ ?_ | exact .inr compat_pl | exact .inr compat_pr | exact .inr compat_rr)) ?_
  | refine aS_call0 rfl rfl rfl ent_45 (fun h2 => hS _) ?_
  | refine aw_if1 rfl ?_
  | refine aw_if0 rfl ?_
  | refine aw_skip ?_
  | refine aw_exit ?_
  | refine aw_ret ?_
  | (exfalso; omega)
 obtain ⟨p', hp1, hC2⟩ := hC
 rw [hp] at hp1; cases hp1
 rw [drop_get hy, cpt, if_pos hz] at hC2
 refine aw_for (fun m e h' => ∃ (k2 K kk : Nat) (rows : List (List D)) (q : Cmd) (kept : List Cmd), 1 ≤ k2 ∧ K = k + k2 ∧ K ≤ l.length ∧ m = l.length - K ∧ kk = kept.length ∧ kk < K ∧ l[K - 1]? = some q ∧ compactL l = kept ++ cpt q (l.drop K) ∧ rows.length = l.length ∧ (∀ r ∈ rows, r.length = 6) ∧ rows.take kk = kept.map cmdX ∧ (∀ j, K - 1 ≤ j → rows[j]? = (l.map cmdX)[j]?) ∧ h' = [.buf 40 6 rows] ∧ e 0 = .buf 0 l.length ∧ e 1 = .fn 45 [] ∧ e 5 = .v (.int .i64 kk) ∧ e 6 = .win 0 l.length k l.length ∧ e 7 = .v (.int .i64 k2)) (l.length - (k + 1))
  ⟨1, k + 1, k, l.map cmdX, y, l.take k, Nat.le_refl _, rfl, hlt, rfl, by simp; omega, by omega, by simpa using hy, hC2, by simp, six_map l, by rw [List.map_take], fun _ _ => rfl, rfl, e0, e1, e5, rfl, rfl⟩ ?_
 clear e0 e1 e5 hS wk wm hyr hpr hC2 hz hp hy
 rintro m e h' ⟨k2, K, kk, rows, q, kept, h21, hK, hKl, rfl, hkk, hkK, hq, hC, hrl, hr6, hrt, hrr, rfl, e0, e1, e5, e6, e7⟩
 have hi : ([.buf 40 6 rows] : List Ob)[0]? = some (.buf 40 6 rows) := rfl
 by_cases hlt2 : K < l.length
 rotate_left
 · skip
   have hc : compactL l = kept := by rw [hC, List.drop_eq_nil_of_le (by omega), cpt, List.append_nil]
   repeat' first
    | (refine ao_lenW rfl rfl rfl (by kernel_rfl) ?_)
    | (refine ao_from rfl rfl rfl rfl hi hrl (by rw [elT_22]; exact szT_40) (by omega) ?_)
    | (refine ao_clrW rfl rfl hi hrl elT_22 zero_cmd rfl (by decide) rfl (by omega) (Nat.le_refl _) fun ys hyl hyt => ?_)
    | (refine ao_upto rfl rfl rfl rfl rfl hyl (by rw [elT_22]; exact szT_40) (by omega) ?_)
    | refine aw_seq' ?_
    | refine aw_region' ?_
    | refine aw_block ?_
    | refine ao_nil ?_
    | ((first | refine ao1 rfl rfl fun K HK => ?_ | refine aq1 rfl rfl fun K HK => ?_); simp only [go_sem, ↓reduceIte, Nat.reduceEqDiff, Nat.reduceAdd, Nat.reduceLeDiff, Nat.reduceBEq, Nat.reduceMul, Int.reduceEq, Int.reduceLT, Int.reduceLE, e0, e1, e5, e6, e7]; (first | refine splitB (fun hq => ?_) (fun hq => ?_) | skip) <;> ((first | refine HK _ _ ?_ | refine HK _ _ rfl ?_); clear HK K))
    | (refine aw_draw mixd (by kernel_rfl) ?_)
    | refine aw_if1 rfl ?_
    | refine aw_if0 rfl ?_
    | refine aw_skip ?_
    | refine aw_exit ?_
    | refine aw_ret ?_
    | refine thenS_r ?_
    | refine inB_r ?_
    | (exfalso; omega)
   exact ⟨.inr rfl, [.win 0 l.length 0 kk], rfl, ys, rfl, hyl, by rw [hc, ← hkk, hyt, hrt], .inl (by rw [hc, ← hkk]; rfl)⟩
 have hy : l[K]? = some l[K] := List.getElem?_eq_getElem hlt2
 have hyo := hl _ (List.getElem_mem hlt2)
 have hqo := hl q (List.mem_of_getElem? hq)
 generalize l[K] = z at hy hyo
 have wk : IntKind.i64.wrap ((k2 : Int) + 1) = (k2 : Int) + 1 := IntWalk.i64_in _ (by omega)
 have wkk : IntKind.i64.wrap ((kk : Int) + 1) = ((kk + 1 : Nat) : Int) := IntWalk.i64_in _ (by omega)
 have wm : IntKind.i64.wrap ((k2 : Int) - 1) = ((k2 - 1 : Nat) : Int) := by rw [show (k2 : Int) - 1 = ((k2 - 1 : Nat) : Int) by omega]; exact IntWalk.i64_in _ (by omega)
 have hzr : rows[k + ((k2 : Nat) : Int).toNat]? = some (cmdX z) := by rw [Int.toNat_natCast, ← hK, hrr K (by omega), List.getElem?_map, hy]; rfl
 have hqr : rows[k + ((k2 - 1 : Nat) : Int).toNat]? = some (cmdX q) := by rw [Int.toNat_natCast, show k + (k2 - 1) = K - 1 by omega, hrr (K - 1) (by omega), List.getElem?_map, hq]; rfl
 have hcp : cpt q (l.drop K) = if cmpC z q = 0 then cpt z (l.drop (K + 1)) else z :: cpt z (l.drop (K + 1)) := by rw [drop_get hy, cpt]
 by_cases hz : cmpC z q = 0
 · have hS : ∀ h, Does Tryz.prog G 45 h [.agg (cmdX z), .agg (cmdX q)] (fun h' r => h' = h ∧ r = .v (.bool true)) := fun h => by
    have := ssame_d G hG z q hyo hqo h
    rw [decide_eq_true hz] at this; exact this
   rw [if_pos hz] at hcp
   repeat' first
    | (refine ao_lenW rfl rfl rfl (by kernel_rfl) ?_)
    | (refine aS_idxW rfl rfl rfl rfl (by assumption) hrl (by rw [elT_22]; exact szT_40) (by omega) (by omega) ?_)
    | (refine aS_loadB rfl rfl rfl (by assumption) hrl hzr (getC _) ?_)
    | (refine aS_loadB rfl rfl rfl (by assumption) hrl hqr (getC _) ?_)
    | refine aw_seq' ?_
    | refine aw_region' ?_
    | refine aw_block ?_
    | refine ao_nil ?_
    | ((first | refine ao1 rfl rfl fun K HK => ?_ | refine aS1 rfl rfl fun K HK => ?_); simp only [go_sem, ↓reduceIte, Nat.reduceEqDiff, Nat.reduceAdd, Nat.reduceLeDiff, Nat.reduceBEq, Nat.reduceMul, Int.reduceEq, Int.reduceLT, Int.reduceLE, e0, e1, e5, e6, e7, wk, wm]; (first | refine splitB (fun hq => ?_) (fun hq => ?_) | skip) <;> ((first | refine HK _ _ ?_ | refine HK _ _ rfl ?_); clear HK K))
    | (refine aw_drawE mixd (by kernel_rfl) ?_)
    | refine aS_nil (by simp only [List.reverse_cons, List.reverse_nil, List.nil_append, List.cons_append, chkAll, chk1]; repeat' (first | exact trivial | refine And.intro ?_ ?_ | exact .inr compat_pl | exact .inr compat_pr | exact .inr compat_rr)) ?_
    | refine aS_call0 rfl rfl rfl ent_45 (fun h2 => hS _) ?_
    | refine aw_if1 rfl ?_
    | refine aw_if0 rfl ?_
    | refine aw_skip ?_
    | refine aw_exit ?_
    | refine thenS_n ?_
    | (exfalso; omega)
   exact ⟨rfl, l.length - (K + 1), by omega, k2 + 1, K + 1, kk, rows, z, kept, by omega, by omega, by omega, rfl, hkk, by omega, by simpa using hy, by rw [hC, hcp], hrl, hr6, hrt, fun j hj => hrr j (by omega), rfl, e0, e1, e5, e6, rfl⟩
 · have hS : ∀ h, Does Tryz.prog G 45 h [.agg (cmdX z), .agg (cmdX q)] (fun h' r => h' = h ∧ r = .v (.bool false)) := fun h => by
    have := ssame_d G hG z q hyo hqo h
    rw [decide_eq_false hz] at this; exact this
   rw [if_neg hz] at hcp
   have hkr : ∃ row, rows[((kk : Nat) : Int).toNat]? = some row := ⟨_, List.getElem?_eq_getElem (by rw [Int.toNat_natCast]; omega)⟩
   obtain ⟨row, hkr⟩ := hkr
   have hrow6 : row.length = 6 := hr6 _ (List.mem_of_getElem? hkr)
   repeat' first
    | (refine ao_lenW rfl rfl rfl (by kernel_rfl) ?_)
    | (refine aS_idxW rfl rfl rfl rfl (by assumption) hrl (by rw [elT_22]; exact szT_40) (by omega) (by omega) ?_)
    | (refine aS_loadB rfl rfl rfl (by assumption) hrl hzr (getC _) ?_)
    | (refine aS_loadB rfl rfl rfl (by assumption) hrl hqr (getC _) ?_)
    | (refine ao_idxW rfl rfl rfl rfl hi hrl (by rw [elT_22]; exact szT_40) (by omega) (by omega) ?_)
    | (refine ao_idxB rfl rfl rfl rfl hi hrl (by rw [elT_22]; exact szT_40) (by omega) (by omega) ?_)
    | (refine ao_loadB rfl rfl rfl hi hrl hzr (getC _) ?_)
    | (refine ao_storeB rfl rfl hi hrl hkr rfl (by rw [one_cmd, szT_40]; rfl) (by rw [hrow6]; exact Nat.le_refl 6) ?_)
    | refine aw_seq' ?_
    | refine aw_region' ?_
    | refine aw_block ?_
    | refine ao_nil ?_
    | ((first | refine ao1 rfl rfl fun K HK => ?_ | refine aS1 rfl rfl fun K HK => ?_); simp only [go_sem, ↓reduceIte, Nat.reduceEqDiff, Nat.reduceAdd, Nat.reduceLeDiff, Nat.reduceBEq, Nat.reduceMul, Int.reduceEq, Int.reduceLT, Int.reduceLE, e0, e1, e5, e6, e7, wk, wkk, wm]; (first | refine splitB (fun hq => ?_) (fun hq => ?_) | skip) <;> ((first | refine HK _ _ ?_ | refine HK _ _ rfl ?_); clear HK K))
    | (refine aw_drawE mixd (by kernel_rfl) ?_)
    | refine aS_nil (by simp only [List.reverse_cons, List.reverse_nil, List.nil_append, List.cons_append, chkAll, chk1]; repeat' (first | exact trivial | refine And.intro ?_ ?_ | exact .inr compat_pl | exact .inr compat_pr | exact .inr compat_rr)) ?_
    | refine aS_call0 rfl rfl rfl ent_45 (fun h2 => hS _) ?_
    | refine aw_if1 rfl ?_
    | refine aw_if0 rfl ?_
    | refine aw_skip ?_
    | refine aw_exit ?_
    | refine thenS_n ?_
    | (exfalso; omega)
   refine ⟨rfl, l.length - (K + 1), by omega, k2 + 1, K + 1, kk + 1, rows.set kk (cmdX z), z, kept ++ [z], by omega, by omega, by omega, rfl, by simp; omega, by omega, by simpa using hy, by rw [hC, hcp]; simp, by simpa using hrl, fun r hr => ?_, ?_, fun j hj => ?_, by rw [put_cmd hrow6]; rfl, e0, e1, rfl, e6, rfl⟩
   · rcases List.mem_or_eq_of_mem_set hr with h | rfl
     · exact hr6 _ h
     · rfl
   · rw [List.take_add_one, List.take_set_of_le (Nat.le_refl _), hrt, List.getElem?_set_self (by omega)]; simp
   · rw [List.getElem?_set_ne (by omega)]; exact hrr j (by omega)
end
end Go.Proofs.YtidpdgdakghfnaaGreat
