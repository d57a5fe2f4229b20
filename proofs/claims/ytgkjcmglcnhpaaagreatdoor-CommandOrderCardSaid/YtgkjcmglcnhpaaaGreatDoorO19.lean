/-
  What the statements of the chapter share, part 19: CX, CY, RB2, AL3, SH1, SH2.
-/
import Derived.Test.YtgkjcmglcnhpaaaGreatDoorO10
import Derived.Test.YtgkjcmglcnhpaaaGreatDoorO13
import Derived.Test.YtgkjcmglcnhpaaaGreatDoorO15
import Derived.Test.YtgkjcmglcnhpaaaGreatDoorO16
import Derived.Test.YtgkjcmglcnhpaaaGreatDoorO18
import Derived.Laws.Externs
set_option linter.unusedVariables false
set_option linter.unusedSimpArgs false
set_option maxRecDepth 100000
set_option maxHeartbeats 8000000
namespace Go.Proofs.YtgkjcmglcnhpaaaGreatDoor
open Go.RowKit
section
set_option maxRecDepth 100000
set_option maxHeartbeats 1000000
attribute [local irreducible] on aOp
attribute [local go_sem] decide_true decide_false Bool.not_true Bool.not_false
attribute [local simp] byD_len
theorem cmpX : CmpX Tryz.prog 121 := fun a b w => by
 rw [run_callFunc_extern (e := Extern.BytealgCompare.compare) Tryz.func121 (by kernel_rfl) (by kernel_rfl) (by kernel_rfl) (by kernel_rfl)]
 rw [Lib.run_compareString]; rfl
theorem loadD_bp {P : Program} {h : List Ob} {t e k i n r j : Nat} {xs : List (List D)} {row : List D} (hi : h[i]? = some (.buf e k xs)) (hn : xs.length = n) (hr : xs[r]? = some row) : loadD P h t (.bp i n r j) = getD P t row j := by
 simp only [loadD, hi, hr, if_pos hn, Option.bind_some]
def cmpI (a b : Int) : Int := if a < b then -1 else if b < a then 1 else 0
def orI : List Int → Int
 | [] => 0
 | x :: t => if x = 0 then orI t else x
def intX (x : Int) : List D := [.v (.int .i64 x)]
theorem intX_eq (x : Int) : intX x = [.v (.int .i64 x)] := rfl
variable (G : Nat → D) (hG : ∀ g, low 0 (G g))
include hG
theorem isNaN_d (a : Int) (h : List Ob) : Does Tryz.prog G 99 h [.v (.int .i64 a)] (fun h' r => h' = h ∧ r = .v (.bool false)) := by
 refine does_of_aw Tryz.func99 rfl (Nat.le_of_ble_eq_true rfl) hG fun hl0 _ => ?_
 simp only [Tryz.ntmps99]
 repeat' first
  | refine aw_seq' ?_
  | refine aw_region' ?_
  | refine ao_nil ?_
  | (refine ao1 rfl rfl fun K HK => ?_; simp only [go_sem, ↓reduceIte, Nat.reduceEqDiff, Nat.reduceAdd, Nat.reduceLeDiff, Nat.reduceBEq, Nat.reduceMul, Int.reduceEq, Int.reduceLT, Int.reduceLE] <;> (refine HK _ _ ?_; clear HK K))
  | refine aw_ret ?_
 all_goals first
 | exact ⟨by simp, endD (r := .v _) hl0 rfl (by simp) (by simp) rfl (by rw [low]; trivial) ⟨rfl, rfl⟩⟩
 | (exfalso; simp at *; done)
theorem cmpInt_d (a b : Int) (h : List Ob) : Does Tryz.prog G 69 h [.v (.int .i64 a), .v (.int .i64 b)] (fun h' r => h' = h ∧ r = .v (.int .i64 (cmpI a b))) := by
 refine does_of_aw Tryz.func69 rfl (Nat.le_of_ble_eq_true rfl) hG fun hl0 _ => ?_
 simp only [Tryz.ntmps69]
 repeat' first
  | refine aw_seq' ?_
  | refine aw_region' ?_
  | refine ao_nil ?_
  | (refine ao1 rfl rfl fun K HK => ?_; simp only [go_sem, ↓reduceIte, Nat.reduceEqDiff, Nat.reduceAdd, Nat.reduceLeDiff, Nat.reduceBEq, Nat.reduceMul, Int.reduceEq, Int.reduceLT, Int.reduceLE]; (first | refine splitB (fun hq => ?_) (fun hq => ?_) | skip) <;> (refine HK _ _ ?_; clear HK K))
  | (refine ao2 rfl rfl rfl ent_99 (isNaN_d G hG _ _) ?_; rintro _ _ ⟨rfl, rfl⟩)
  | refine aw_if1 rfl ?_
  | refine aw_if0 rfl ?_
  | refine aw_skip ?_
  | refine aw_ret ?_
  | refine thenS_r ?_
 all_goals
  refine ⟨by simp, endD (r := .v _) hl0 rfl (by simp) (by simp) rfl (by rw [low]; trivial) ⟨rfl, ?_⟩⟩
  unfold cmpI
  simp [*]
theorem bcmp_d (a b : ByteArray) (h : List Ob) : Does Tryz.prog G 100 h [.v (.string a), .v (.string b)] (fun h' r => h' = h ∧ r = .v (.int .i64 (Lib.compareBytes a.data.toList b.data.toList))) := by
 refine does_of_aw Tryz.func100 rfl (Nat.le_of_ble_eq_true rfl) hG fun hl0 _ => ?_
 simp only [Tryz.ntmps100]
 have X : ExtTri Tryz.prog 121 [.v (.string a), .v (.string b)] (.v (.int .i64 (Lib.compareBytes a.data.toList b.data.toList))) := fun w hd h2 W vs hv => by
  rw [rdL] at hv; obtain ⟨u, t, rfl, h3, hv⟩ := hv
  rw [rdL] at hv; obtain ⟨u2, t, rfl, h4, hv⟩ := hv
  rw [rdL] at hv; subst hv
  rw [rd] at h3 h4; subst h3; subst h4
  exact ⟨_, cmpX _ _ w, by rw [rd]⟩
 repeat' first
  | (refine ao_tri rfl (tri_of_ext (cap := []) (xs := [.v (.string a), .v (.string b)]) X) ?_)
  | refine aw_seq' ?_
  | refine aw_region' ?_
  | refine ao_nil ?_
  | (refine ao1 rfl rfl fun K HK => ?_; simp only [go_sem, ↓reduceIte, Nat.reduceEqDiff, Nat.reduceAdd, Nat.reduceLeDiff, Nat.reduceBEq, Nat.reduceMul, Int.reduceEq, Int.reduceLT, Int.reduceLE] <;> (refine HK _ _ ?_; clear HK K))
  | refine aw_ret ?_
 all_goals exact ⟨by simp, endD (r := .v _) hl0 rfl (by simp) (by simp) rfl (by rw [low]; trivial) ⟨rfl, rfl⟩⟩
theorem scmp_d (a b : ByteArray) (h : List Ob) : Does Tryz.prog G 70 h [.v (.string a), .v (.string b)] (fun h' r => h' = h ∧ r = .v (.int .i64 (Lib.compareBytes a.data.toList b.data.toList))) := by
 refine does_of_aw Tryz.func70 rfl (Nat.le_of_ble_eq_true rfl) hG fun hl0 _ => ?_
 simp only [Tryz.ntmps70]
 repeat' first
  | refine aw_seq' ?_
  | refine aw_region' ?_
  | refine ao_nil ?_
  | (refine ao1 rfl rfl fun K HK => ?_; simp only [go_sem, ↓reduceIte, Nat.reduceEqDiff, Nat.reduceAdd, Nat.reduceLeDiff, Nat.reduceBEq, Nat.reduceMul, Int.reduceEq, Int.reduceLT, Int.reduceLE] <;> (refine HK _ _ ?_; clear HK K))
  | (refine ao2 rfl rfl rfl ent_100 (bcmp_d G hG _ _ _) ?_; rintro _ _ ⟨rfl, rfl⟩)
  | refine aw_ret ?_
 all_goals exact ⟨by simp, endD (r := .v _) hl0 rfl (by simp) (by simp) rfl (by rw [low]; trivial) ⟨rfl, rfl⟩⟩
theorem or_b (l : List Int) (hl : l.length ≤ 1000) (h : List Ob) (i : Nat) (hi : h[i]? = some (.buf 3 1 (l.map intX))) : Does Tryz.prog G 68 h [.buf i l.length] (fun h' r => h' = h ∧ r = .v (.int .i64 (orI l))) := by
 refine does_of_aw Tryz.func68 rfl (Nat.le_of_ble_eq_true rfl) hG fun hl0 _ => ?_
 simp only [Tryz.ntmps68]
 repeat' first
  | refine aw_seq' ?_
  | refine aw_region' ?_
  | refine aw_block ?_
  | refine ao_nil ?_
  | (refine ao1 rfl rfl fun K HK => ?_; simp only [go_sem, ↓reduceIte, Nat.reduceEqDiff, Nat.reduceAdd, Nat.reduceLeDiff, Nat.reduceBEq, Nat.reduceMul, Int.reduceEq, Int.reduceLT, Int.reduceLE, hi] <;> (refine HK _ _ ?_; clear HK K))
 refine aw_for (fun m e h' => ∃ k : Nat, k ≤ l.length ∧ m = l.length - k ∧ orI l = orI (l.drop k) ∧ h' = h ∧ e 3 = .v (.int .i64 0) ∧ e 6 = .buf i l.length ∧ e 7 = .v (.int .i64 l.length) ∧ e 8 = .v (.int .i64 k)) l.length ⟨0, Nat.zero_le _, rfl, rfl, rfl, rfl, rfl, rfl, rfl⟩ ?_
 rintro m e h' ⟨k, hk, rfl, ho, rfl, e3, e6, e7, e8⟩
 by_cases hlt : k < l.length
 · have hx : l[k]? = some l[k] := List.getElem?_eq_getElem hlt
   have hd : l.drop k = l[k] :: l.drop (k + 1) := List.drop_eq_getElem_cons hlt
   generalize l[k] = x at hx hd
   have wk : IntKind.i64.wrap ((k : Int) + 1) = (k : Int) + 1 := IntWalk.i64_in _ (by omega)
   rw [hd, orI] at ho
   have hrow : (l.map intX)[k]? = some [.v (.int .i64 x)] := by rw [List.getElem?_map, hx]; rfl
   repeat' first
    | (refine ao1 rfl rfl fun K HK => ?_; simp only [go_sem, e6, e8]; refine ⟨_, _, _, hi, by simp, by simp only [go_sem], by omega, by omega, ?_⟩; refine HK _ _ ?_; clear HK K)
    | refine aw_seq' ?_
    | refine aw_region' ?_
    | refine aw_block ?_
    | refine ao_nil ?_
    | (refine ao1 rfl rfl fun K HK => ?_; simp only [go_sem, ↓reduceIte, Nat.reduceEqDiff, Nat.reduceAdd, Nat.reduceLeDiff, Nat.reduceBEq, Nat.reduceMul, Int.reduceEq, Int.reduceLT, Int.reduceLE, hi, e3, e6, e7, e8, intX_eq, wk, loadD_bp hi (List.length_map _) hrow, List.length_map, Int.toNat_natCast]; (first | refine splitB (fun hq => ?_) (fun hq => ?_) | refine splitN (fun hq => ?_) (fun hq => ?_) | skip) <;> (refine HK _ _ ?_; clear HK K))
    | refine aw_if1 rfl ?_
    | refine aw_if0 rfl ?_
    | refine aw_skip ?_
    | refine aw_exit ?_
    | refine aw_ret ?_
    | refine thenS_n ?_
    | refine thenS_r ?_
    | refine inB_r ?_
    | (exfalso; omega)
   · exact ⟨rfl, l.length - (k + 1), by omega, k + 1, hlt, rfl, by rw [ho, if_pos hq], rfl, e3, e6, e7, rfl⟩
   · exact ⟨by simp, endD (r := .v _) hl0 rfl (by simp) (by simp) rfl (by rw [low]; trivial) ⟨rfl, by rw [ho, if_neg hq]⟩⟩
 · skip
   repeat' first
    | refine aw_seq' ?_
    | refine aw_region' ?_
    | refine aw_block ?_
    | refine ao_nil ?_
    | (refine ao1 rfl rfl fun K HK => ?_; simp only [go_sem, ↓reduceIte, Nat.reduceEqDiff, Nat.reduceAdd, Nat.reduceLeDiff, Nat.reduceBEq, Nat.reduceMul, Int.reduceEq, Int.reduceLT, Int.reduceLE, hi, e3, e6, e7, e8, List.length_map]; (first | refine splitB (fun hq => ?_) (fun hq => ?_) | skip) <;> (refine HK _ _ ?_; clear HK K))
    | refine aw_if1 rfl ?_
    | refine aw_if0 rfl ?_
    | refine aw_skip ?_
    | refine aw_exit ?_
    | refine aw_ret ?_
    | (exfalso; omega)
   exact ⟨by simp, endD (r := .v _) hl0 rfl (by simp) (by simp) rfl (by rw [low]; trivial) ⟨rfl, by rw [ho, List.drop_eq_nil_of_le (by omega)]; rfl⟩⟩
end
section
set_option maxRecDepth 100000
set_option maxHeartbeats 1000000
attribute [local irreducible] on aOp
attribute [local go_sem] decide_true decide_false Bool.not_true Bool.not_false
attribute [local simp] byD_len
def cmpC (a b : Cmd) : Int := orI [cmpI a.client b.client, cmpI a.seq b.seq, Lib.compareBytes (encC a) (encC b)]
variable (G : Nat → D) (hG : ∀ g, low 0 (G g))
include hG
theorem or_s (l : List Int) (hl : l.length ≤ 1000) (h : List Ob) (i : Nat) (hi : h[i]? = some (.buf 3 1 (l.map intX))) : Does Tryz.prog G 68 h [.buf i l.length] (fun h' r => h' = h.set i (.buf 3 1 (l.map intX)) ∧ r = .v (.int .i64 (orI l))) := by
 rw [set_same hi]; exact or_b G hG l hl h i hi
theorem compare_d (a b : Cmd) (ha : a.Ok) (hb : b.Ok) (h : List Ob) : Does Tryz.prog G 27 h [.agg (cmdX a), .agg (cmdX b)] (fun h' r => h' = h ∧ r = .v (.int .i64 (cmpC a b))) := by
 refine does_any G hG (by rw [lowL, lowL, lowL]; exact ⟨low_agg _ _, low_agg _ _, trivial⟩) (by rw [low]; trivial) ?_ h
 have la := encC_len a ha
 have lb := encC_len b hb
 refine does_of_aw Tryz.func27 rfl (Nat.le_of_ble_eq_true rfl) hG fun hl0 _ => ?_
 simp only [Tryz.ntmps27]
 repeat' first
  | (refine aS_load rfl rfl rfl (by (simp only [go_sem, ↓reduceIte, Nat.reduceEqDiff, Nat.reduceAdd, Nat.reduceLeDiff, Nat.reduceBEq, Nat.reduceMul, Int.reduceEq, Int.reduceLT, Int.reduceLE, cmdX_eq]; rfl)) (by rw [getD_agg' aggT_40, szT_40]; rfl) ?_)
  | (refine aS1 rfl rfl fun K HK => ?_; simp only [go_sem]; refine bst_by (n := 1) (h := []) byT_38 strT_9 ?_; refine HK _ _ rfl ?_; clear HK K)
  | refine aw_seq' ?_
  | refine aw_region' ?_
  | refine ao_nil ?_
  | ((first | refine ao1 rfl rfl fun K HK => ?_ | refine aS1 rfl rfl fun K HK => ?_); simp only [go_sem, ↓reduceIte, Nat.reduceEqDiff, Nat.reduceAdd, Nat.reduceLeDiff, Nat.reduceBEq, Nat.reduceMul, Int.reduceEq, Int.reduceLT, Int.reduceLE, cmdX_eq] <;> ((first | refine HK _ _ ?_ | refine HK _ _ rfl ?_); clear HK K))
  | (refine aw_drawE mixd (by kernel_rfl) ?_)
  | refine aS_load rfl rfl rfl (by (simp only [go_sem, ↓reduceIte, Nat.reduceEqDiff, Nat.reduceAdd, Nat.reduceLeDiff, Nat.reduceBEq, Nat.reduceMul, Int.reduceEq, Int.reduceLT, Int.reduceLE, cmdX_eq]; rfl)) (by rw [getD_one (by simp only [go_sem, ↓reduceIte, Nat.reduceEqDiff, Nat.reduceAdd, Nat.reduceLeDiff, Nat.reduceBEq, Nat.reduceMul, Int.reduceEq, Int.reduceLT, Int.reduceLE, cmdX_eq])]; rfl) ?_
  | refine aS_lit rfl rfl (by simp only [litD, litRows, go_sem, List.length_cons, List.length_nil, Option.map_some, Option.bind_some, and_self, ↓reduceIte, Nat.reduceEqDiff, Nat.reduceAdd, Nat.reduceLeDiff, Nat.reduceBEq, Nat.reduceMul, Int.reduceEq, Int.reduceLT, Int.reduceLE, cmdX_eq]; rfl) ?_
  | refine aS_nil (by simp only [List.reverse_cons, List.reverse_nil, List.nil_append, List.cons_append, chkAll, chk1]; repeat' (first | exact trivial | refine And.intro ?_ ?_ | exact .inr compat_pl | exact .inr compat_pr | exact .inr compat_rr | exact .inr (compat_rw (by omega)) | (refine .inr ?_; simp [compat, readE, writE, pureE, nop] <;> omega) | exact .inl (by kernel_rfl))) ?_
  | refine aS_call0 rfl rfl rfl ent_69 (fun h2 => cmpInt_d G hG _ _ _) ?_
  | refine aS_call0 rfl rfl rfl ent_17 (fun h2 => encode_d G hG a ha _) ?_
  | refine aS_call0 rfl rfl rfl ent_17 (fun h2 => encode_d G hG b hb _) ?_
  | refine aS_call0 rfl rfl rfl ent_70 (fun h2 => scmp_d G hG _ _ _) ?_
  | refine aS_call1 rfl rfl rfl ent_68 (by (simp only [go_sem, ↓reduceIte, Nat.reduceEqDiff, Nat.reduceAdd, Nat.reduceLeDiff, Nat.reduceBEq, Nat.reduceMul, Int.reduceEq, Int.reduceLT, Int.reduceLE, cmdX_eq]; rfl)) (fun h2 k2 => or_s G hG [cmpI a.client b.client, cmpI a.seq b.seq, Lib.compareBytes (encC a) (encC b)] (by simp) h2 2 k2) ?_
  | refine aw_ret ?_
 exact ⟨.inr rfl, endD (r := .v _) hl0 rfl (by simp) (by simp) rfl (by rw [low]; trivial) ⟨rfl, rfl⟩⟩
end
section
set_option maxRecDepth 100000
set_option maxHeartbeats 1000000
attribute [local irreducible] on aOp
attribute [local go_sem] decide_true decide_false Bool.not_true Bool.not_false
attribute [local simp] byD_len
theorem Does.arg0 {P : Program} {G : Nat → D} {f : FuncId} {h : List Ob} {d d' : D} {args : List D} {K : List Ob → D → Prop} (q : Does P G f h (d' :: args) K) (k : ∀ hd hh W u, rd hd hh W d u → rd hd hh W d' u) : Does P G f h (d :: args) K := fun w hd p vs o ha => by
 rw [rdL] at ha
 obtain ⟨u, t, rfl, h1, h2⟩ := ha
 exact q w hd p _ o (by rw [rdL]; exact ⟨u, t, rfl, k _ _ _ _ h1, h2⟩)
variable (G : Nat → D) (hG : ∀ g, low 0 (G g))
include hG
theorem sUint (l : List UInt8) {n : Nat} (hn : n < 18446744073709551616) (hl : l.length ≤ 100000000) (h : List Ob) : Does Tryz.prog G 85 h [.sl 1 (byD l), .v (.int .u64 n)] (fun h' r => h' = h ∧ r = .sl 1 (byD (l ++ uintE n))) :=
 does_gave hG (by rw [lowL, lowL, lowL]; exact ⟨low_by _ _, by simp [low], trivial⟩) rfl (rUint0 G hG l n hn hl) h
theorem sInt (l : List UInt8) {n : Int} (hn : I64 n) (hl : l.length ≤ 100000000) (h : List Ob) : Does Tryz.prog G 86 h [.sl 1 (byD l), .v (.int .i64 n)] (fun h' r => h' = h ∧ r = .sl 1 (byD (l ++ intE n))) :=
 does_gave hG (by rw [lowL, lowL, lowL]; exact ⟨low_by _ _, by simp [low], trivial⟩) rfl (rInt0 G hG l n hn hl) h
theorem sText (l : List UInt8) {s : ByteArray} (hs : s.size ≤ 10000000) (hl : l.length ≤ 80000000) (h : List Ob) : Does Tryz.prog G 56 h [.sl 1 (byD l), .v (.string s)] (fun h' r => h' = h ∧ r = .sl 1 (byD (l ++ textE s))) :=
 does_gave hG (by rw [lowL, lowL, lowL]; exact ⟨low_by _ _, by simp [low], trivial⟩) rfl (rText0 G hG l s hs hl) h
theorem sBytes (l : List UInt8) {b : List UInt8} (hs : b.length ≤ 10000000) (hl : l.length ≤ 80000000) (h : List Ob) : Does Tryz.prog G 53 h [.sl 1 (byD l), .sl 1 (byD b)] (fun h' r => h' = h ∧ r = .sl 1 (byD (l ++ bytesE b))) :=
 does_gave hG (by rw [lowL, lowL, lowL]; exact ⟨low_by _ _, low_by _ _, trivial⟩) rfl (rBytes0 G hG l b hs hl) h
theorem bare_d (l : List UInt8) (c : Cmd) (hc : c.Ok) (hl : l.length ≤ 1000000) (h : List Ob) : Does Tryz.prog G 54 h [.sl 1 (byD l), .agg (cmdX c)] (fun h' r => h' = h ∧ r = .sl 1 (byD (l ++ writeC c))) := by
 refine does_any G hG (by rw [lowL, lowL, lowL]; exact ⟨low_by _ _, low_agg _ _, trivial⟩) (low_by _ _) ?_ h
 have h1 := intE_len hc.client
 have h2 := intE_len hc.seq
 have h3 := intE_len hc.kind
 have h4 := (uintE_len10 c.writes.length (by have := hc.many; omega)).1
 have hm := hc.many
 have hb := writesE_len c.writes hc.each
 refine does_of_aw Tryz.func54 rfl (Nat.le_of_ble_eq_true rfl) hG fun hl0 _ => ?_
 simp only [Tryz.ntmps54]
 repeat' first
  | refine aw_seq' ?_
  | refine aw_region' ?_
  | refine aw_block ?_
  | refine ao_nil ?_
  | ((first | refine ao1 rfl rfl fun K HK => ?_ | refine aq1 rfl rfl fun K HK => ?_); simp only [go_sem, ↓reduceIte, Nat.reduceEqDiff, Nat.reduceAdd, Nat.reduceLeDiff, Nat.reduceBEq, Nat.reduceMul, Int.reduceEq, Int.reduceLT, Int.reduceLE, cmdX_eq, lenU (a := c.writes.length) (by omega)] <;> ((first | refine HK _ _ ?_ | refine HK _ _ rfl ?_); clear HK K))
  | (refine aw_draw mixd (by kernel_rfl) ?_)
  | refine aq2 rfl rfl rfl ent_86 (sInt G hG _ hc.client (by first | omega | (simp only [List.length_append]; omega)) _) ?_
  | refine aq2 rfl rfl rfl ent_86 (sInt G hG _ hc.seq (by first | omega | (simp only [List.length_append]; omega)) _) ?_
  | refine aq2 rfl rfl rfl ent_86 (sInt G hG _ hc.kind (by first | omega | (simp only [List.length_append]; omega)) _) ?_
  | (refine ao2 rfl rfl rfl ent_85 (sUint G hG _ (n := c.writes.length) (by omega) (by first | omega | (simp only [List.length_append]; omega)) _) ?_; rintro _ _ ⟨rfl, rfl⟩)
 generalize hP : l ++ (intE c.client ++ (intE c.seq ++ (intE c.kind ++ uintE c.writes.length))) = P
 have hPl : P.length ≤ 1000040 := by rw [← hP]; simp only [List.length_append]; omega
 refine aw_for (fun m e h' => ∃ (k : Nat) (cur : List UInt8), k ≤ c.writes.length ∧ m = c.writes.length - k ∧ cur = P ++ writesE (c.writes.take k) ∧ h' = [.cells (cmdX c)] ∧ e 3 = .ptr 0 0 ∧ e 5 = .sl 1 (byD cur) ∧ e 6 = .v (.int .i64 k)) c.writes.length ⟨0, P, Nat.zero_le _, rfl, by simp [writesE], rfl, rfl, rfl, rfl⟩ ?_
 rintro m e h' ⟨k, cur, hk, rfl, hcur, rfl, e3, e5, e6⟩
 have hcl : cur.length ≤ 70000000 := by
  have h5 := writesE_len (c.writes.take k) fun x hx => hc.each x (List.mem_of_mem_take hx)
  rw [hcur, List.length_append]
  have := List.length_take_le k c.writes
  omega
 by_cases hlt : k < c.writes.length
 · have hx : c.writes[k]? = some c.writes[k] := List.getElem?_eq_getElem hlt
   have hxm := hc.each _ (List.getElem_mem hlt)
   generalize c.writes[k] = x at hx hxm
   have ht : (textE x.1).length ≤ 10010 := by
    have h6 := (uintE_len10 x.1.size (by omega)).1
    have e2 : x.1.data.toList.length = x.1.size := rfl
    simp only [textE, List.length_append, e2]; omega
   have wk : IntKind.i64.wrap ((k : Int) + 1) = (k : Int) + 1 := IntWalk.i64_in _ (by omega)
   repeat' first
    | refine aw_seq' ?_
    | refine aw_region' ?_
    | refine aw_block ?_
    | refine ao_nil ?_
    | ((first | refine ao1 rfl rfl fun K HK => ?_ | refine aq1 rfl rfl fun K HK => ?_); simp only [go_sem, ↓reduceIte, Nat.reduceEqDiff, Nat.reduceAdd, Nat.reduceLeDiff, Nat.reduceBEq, Nat.reduceMul, Int.reduceEq, Int.reduceLT, Int.reduceLE, e3, e5, e6, cmdX_eq, wrX_eq, wk, Int.toNat_natCast]; (first | refine splitB (fun hq => ?_) (fun hq => ?_) | (refine ⟨by omega, by omega, ?_⟩; refine row_at (by assumption) ?_) | skip) <;> ((first | refine HK _ _ ?_ | refine HK _ _ rfl ?_); clear HK K))
    | (refine aw_draw mixd (by kernel_rfl) ?_)
    | refine aq2 rfl rfl rfl ent_56 (sText G hG cur (s := x.1) (by omega) (by omega) _) ?_
    | refine aq2 rfl rfl rfl ent_53 (sBytes G hG (cur ++ textE x.1) (b := x.2) (by omega) (by simp only [List.length_append]; omega) _) ?_
    | refine aw_if1 rfl ?_
    | refine aw_if0 rfl ?_
    | refine aw_skip ?_
    | refine aw_exit ?_
    | refine thenS_n ?_
    | (exfalso; omega)
   have hcur' : cur ++ (textE x.1 ++ bytesE x.2) = P ++ writesE (c.writes.take (k + 1)) := by rw [writesE_take hx, hcur]; simp
   exact ⟨rfl, c.writes.length - (k + 1), by omega, k + 1, _, hlt, rfl, hcur', rfl, e3, rfl, rfl⟩
 · skip
   repeat' first
    | refine aw_seq' ?_
    | refine aw_region' ?_
    | refine aw_block ?_
    | refine ao_nil ?_
    | ((first | refine ao1 rfl rfl fun K HK => ?_ | refine aq1 rfl rfl fun K HK => ?_); simp only [go_sem, ↓reduceIte, Nat.reduceEqDiff, Nat.reduceAdd, Nat.reduceLeDiff, Nat.reduceBEq, Nat.reduceMul, Int.reduceEq, Int.reduceLT, Int.reduceLE, e3, e5, e6, cmdX_eq]; (first | refine splitB (fun hq => ?_) (fun hq => ?_) | (refine ⟨by omega, by omega, ?_⟩; intro row hrow; obtain ⟨x, hx, rfl⟩ := row_inv hrow; clear hrow) | skip) <;> ((first | refine HK _ _ ?_ | refine HK _ _ rfl ?_); clear HK K))
    | (refine aw_draw mixd (by kernel_rfl) ?_)
    | (refine ao2 rfl rfl rfl ent_86 (sInt G hG cur hc.replica (by omega) _) ?_; rintro _ _ ⟨rfl, rfl⟩)
    | refine aw_if1 rfl ?_
    | refine aw_if0 rfl ?_
    | refine aw_skip ?_
    | refine aw_exit ?_
    | refine aw_ret ?_
    | (exfalso; omega)
   have hcur' : cur ++ intE c.replica = l ++ writeC c := by
    rw [hcur, ← hP, List.take_of_length_le (by omega)]
    simp [writeC]
   exact ⟨.inr rfl, endD (r := .sl 1 (byD (l ++ writeC c))) hl0 rfl (by simp) (by simp) (by rw [← hcur']; rfl) (low_by _ _) ⟨rfl, rfl⟩⟩
theorem rencode_d (c : Cmd) (hc : c.Ok) (h : List Ob) : Does Tryz.prog G 19 h [.agg (cmdX c)] (fun h' r => h' = h ∧ r = .sl 1 (byD (encC c))) := by
 refine does_any G hG (by rw [lowL, lowL]; exact ⟨low_agg _ _, trivial⟩) (low_by _ _) ?_ h
 have hw := writeC_len c hc
 have ht := hc.tag
 refine does_of_aw Tryz.func19 rfl (Nat.le_of_ble_eq_true rfl) hG fun hl0 _ => ?_
 simp only [Tryz.ntmps19]
 repeat' first
  | refine aw_seq' ?_
  | refine aw_region' ?_
  | refine ao_nil ?_
  | ((first | refine ao1 rfl rfl fun K HK => ?_ | refine aq1 rfl rfl fun K HK => ?_); simp only [go_sem, ↓reduceIte, Nat.reduceEqDiff, Nat.reduceAdd, Nat.reduceLeDiff, Nat.reduceBEq, Nat.reduceMul, Int.reduceEq, Int.reduceLT, Int.reduceLE, cmdX_eq] <;> ((first | refine HK _ _ ?_ | refine HK _ _ rfl ?_); clear HK K))
  | refine aq_nil ?_
  | (refine aw_draw mixd (by kernel_rfl) ?_)
  | refine aq2 rfl rfl rfl ent_54 (Does.arg0 (bare_d G hG [] c hc (by simp) _) nil_sl) ?_
  | refine aq2 rfl rfl rfl ent_53 (sBytes G hG (writeC c) (b := c.tag) (by omega) (by omega) _) ?_
  | refine aw_ret ?_
 exact ⟨.inr rfl, endD (r := .sl 1 (byD (encC c))) hl0 rfl (by simp) (by simp) rfl (low_by _ _) ⟨rfl, rfl⟩⟩
end
section
def kC (l : List UInt8) : List D := l.map fun b => .v (.int .u8 b.toNat)
theorem kC_len (l : List UInt8) : (kC l).length = l.length := List.length_map ..
theorem all_kC : ∀ l : List UInt8, (kC l).all D.one = true
 | [] => rfl
 | a :: l => by unfold kC; rw [List.map_cons, List.all_cons]; have := all_kC l; unfold kC at this; rw [this]; rfl
theorem low_kC (m : Nat) : ∀ l : List UInt8, lowL m (kC l)
 | [] => by unfold kC; rw [List.map_nil, lowL]; trivial
 | a :: l => by unfold kC; rw [List.map_cons, lowL]; exact ⟨by rw [low]; trivial, low_kC m l⟩
theorem kC_rows (l : List UInt8) : (kC l).map (fun d => [d]) = byD l := by simp [kC, byD]
theorem byD_flatten (l : List UInt8) : (byD l).flatten = kC l := by
 induction l with
 | nil => rfl
 | cons a t ih => simp only [byD, kC, List.map_cons, List.flatten_cons] at ih ⊢; rw [ih]; rfl
theorem putL_kb {W : List UInt8} {k : Nat} {b : UInt8} {z : Int} (h : k < W.length) (hz : z = (b.toNat : Int)) : putL (kC W) (0 + k) [.v (.int .u8 z)] = kC (W.set k b) := by
 subst hz
 rw [Nat.zero_add]
 apply List.ext_getElem?
 intro i
 unfold kC
 rw [putL_get (by simp; omega), List.getElem?_map, List.getElem?_map, List.getElem?_set]
 by_cases hi : i = k
 · subst hi; simp [h]
 · rw [if_neg (by simp; omega), if_neg (fun e => hi e.symm)]
theorem putL_k0 {W k : List UInt8} (h : k.length ≤ W.length) : putL (kC W) 0 (byD k).flatten = kC (k ++ W.drop k.length) := by
 rw [byD_flatten]
 unfold putL kC
 simp [List.map_drop]
section
variable {P : Program} {G : Nat → D} {e : Nat → D} {h : List Ob} {K : List Ob → D → Prop} {u : TypeId} {x y : Operand} {i n m k : Nat}
theorem getD_kb {W : List UInt8} {b : UInt8} (ha : aggT P u = some false) (hx : W[k]? = some b) : getD P u (kC W) (0 + k) = some (.v (.int .u8 b.toNat)) := by
 rw [getD_one ha, Nat.zero_add]; unfold kC; rw [List.getElem?_map, hx]; rfl
theorem getD_ka {W : List UInt8} (ha : aggT P u = some true) (hs : szT P u = some n) (hl : W.length = n) : getD P u (kC W) 0 = some (.agg (kC W)) := by
 rw [getD_agg ha hs (by rw [kC_len]; omega), List.drop_zero, List.take_of_length_le (by rw [kC_len]; omega)]
theorem aOp_alc {ds : List D} (hz : zeroD P u = some ds) (q : K (h ++ [.cells ds]) (.ptr h.length 0)) : aOp P G e h K (.alloc u) := by
 have e1 : aOp P G e h K (.alloc u) = on (zeroD P u) fun ds => K (h ++ [.cells ds]) (.ptr h.length 0) := rfl
 rw [e1, hz]; exact q
end
theorem aOp_bsl {P : Program} {G : Nat → D} {e : Nat → D} {h : List Ob} {K : List Ob → D → Prop} {t u : TypeId} {x : Operand} {bs : List UInt8} (hx : ev G e x = .sl 1 (byD bs)) (h1 : byT P t = true) (h2 : strT P u = true) (q : K h (.v (.string ⟨bs.toArray⟩))) : aOp P G e h K (.convert t u x) := by
 have e1 : aOp P G e h K (.convert t u x) = cvA P h t u (ev G e x) K := rfl
 rw [e1, hx]
 exact ⟨h1, h2, bs, rfl, q⟩
theorem xor_byte (w x : UInt8) : IntKind.u8.wrap ((BitVec.ofInt 8 (w.toNat : Int) ^^^ BitVec.ofInt 8 (x.toNat : Int)).toNat : Int) = ((w ^^^ x).toNat : Int) := by
 have e : ∀ w : UInt8, BitVec.ofInt 8 (w.toNat : Int) = w.toBitVec := fun w => by
  apply BitVec.eq_of_toNat_eq
  have := w.toNat_lt
  simp
 rw [e, e, wrap8_nn]
 have := (w ^^^ x).toNat_lt
 have h2 : (w.toBitVec ^^^ x.toBitVec).toNat = (w ^^^ x).toNat := rfl
 rw [h2]; omega
theorem ao_mkfc {P : Program} {G : Nat → D} {n : Nat} {e : Nat → D} {h : List Ob} {ops : Array Oper} {rest : List Oper} {Q : S → Prop} {t : Nat} {ty : TypeId} {pos : String} {aft : Array Edge} {gd : Option (Nat × Bool)} {f : FuncId} {caps : Array Operand} (hw : wantedD ops gd e = some true) (ht : decide (t < n) = true)
 (q : ao P G ops rest Q ⟨n, upd e t (.fn f (caps.toList.map (ev G e))), h⟩) : ao P G ops (⟨some t, .makeFunc (.func f) #[] caps, ty, pos, aft, gd⟩ :: rest) Q ⟨n, e, h⟩ := by
 have hN : nF P G e h (.makeFunc (.func f) #[] caps) = some (h, .fn f (caps.toList.map (ev G e))) := rfl
 exact ao_nFc hw ht hN q
section
variable {P : Program} {G : Nat → D} {n : Nat} {e : Nat → D} {h : List Ob} {ops : Array Oper} {rest : List Oper} {Q : S → Prop} {t : Nat} {ty : TypeId} {pos : String} {aft : Array Edge} {gd : Option (Nat × Bool)}
theorem ao_tri1 {op : Op} {h' : List Ob} {d : D} (hw : wantedD ops gd e = some true) (ht : decide (t < n) = true) (q : OpTri P G ⟨some t, op, ty, pos, aft, gd⟩ ((opds op).map (ev G e)) h (fun h1 d1 => h1 = h' ∧ d1 = d)) (k : ao P G ops rest Q ⟨n, upd e t d, h'⟩) : ao P G ops (⟨some t, op, ty, pos, aft, gd⟩ :: rest) Q ⟨n, e, h⟩ := by
 refine ao_tri hw q ?_
 unfold putE
 simp only [if_pos (of_decide_eq_true ht)]
 exact k
end
theorem Does.give1c {P : Program} {G : Nat → D} {f : FuncId} {h : List Ob} {i E k n : Nat} {rows : List (List D)} {K : List Ob → D → Prop} (hi : h[i]? = some (.buf E k rows)) (hn : rows.length = n) (q : Does P G f (h.set i .dead) [.sl k rows] K) : Does P G f h [.buf i n] K := fun w hd p vs ok ha => by
 rw [rdL] at ha
 obtain ⟨u, t, rfl, hu, ht⟩ := ha
 rw [rdL] at ht; subst ht
 obtain ⟨p', o', ev, cv⟩ := ok.give (fun j => j == i)
 have hr := cv _ _ hu
 have e : cvD (fun j => j == i) h (.buf i n) = .sl k rows := by simp [cvD, cv1, hi, hn]
 rw [e] at hr
 rw [killH_one] at o' ev hr
 refine (q w hd p' [u] o' (by rw [rdL]; exact ⟨u, [], rfl, hr, by rw [rdL]⟩)).mono ?_
 rintro e w' ⟨v, hd', h', r, p2, rfl, hK, ok2, hr2, ev2⟩
 exact ⟨v, hd', h', r, p2, rfl, hK, ok2, hr2, ev.trans ev2⟩
end
section
set_option maxRecDepth 100000
set_option maxHeartbeats 16000000
attribute [local irreducible] on aOp
attribute [local go_sem] decide_true decide_false Bool.not_true Bool.not_false
attribute [local simp] byD_len
variable (G : Nat → D) (hG : ∀ g, low 0 (G g))
include hG
theorem rotr_d (x : Int) (n : Nat) (hn : n ≤ 32) (h : List Ob) : Does Tryz.prog G 190 h [.v (.int .u32 x), .v (.int .u64 n)] (fun h' r => h' = h ∧ r = .v (.int .u32 (rotrZ x n))) := by
 refine does_of_aw Tryz.func190 rfl (Nat.le_of_ble_eq_true rfl) hG fun hl0 _ => ?_
 simp only [Tryz.ntmps190]
 have w1 : IntKind.u64.wrap (32 - (n : Int)) = ((32 - n : Nat) : Int) := by rw [IntKind.wrap_u64]; omega
 have w2 : decide (0 ≤ (n : Int)) = true := decide_eq_true (by omega)
 have w3 : decide (0 ≤ ((32 - n : Nat) : Int)) = true := decide_eq_true (by omega)
 repeat' first
  | refine aw_seq' ?_
  | refine aw_region' ?_
  | refine ao_nil ?_
  | (refine ao1 rfl rfl fun K HK => ?_; simp only [go_sem, ↓reduceIte, Nat.reduceEqDiff, Nat.reduceAdd, Nat.reduceLeDiff, Nat.reduceBEq, Nat.reduceMul, Int.reduceEq, Int.reduceLT, Int.reduceLE, w1, w2, w3, Int.toNat_natCast] <;> (refine HK _ _ ?_; clear HK K))
  | refine aw_ret ?_
 exact ⟨by simp, endD (r := .v (.int .u32 (rotrZ x n))) hl0 rfl (by simp) (by simp) rfl (by rw [low]; trivial) ⟨rfl, rfl⟩⟩
theorem initial_d (h : List Ob) : Does Tryz.prog G 181 h [] (fun h' r => h' = h ∧ r = .agg (shaIV.ls.map zD)) := by
 refine does_any G hG (by simp [lowL]) (low_ws 0 _) ?_ h
 refine does_of_aw Tryz.func181 rfl (Nat.le_of_ble_eq_true rfl) hG fun hl0 _ => ?_
 simp only [Tryz.ntmps181]
 repeat' first
  | refine aw_seq' ?_
  | refine aw_region' ?_
  | refine ao_nil ?_
  | (refine ao1 rfl rfl fun K HK => ?_; simp only [go_sem, ↓reduceIte, Nat.reduceEqDiff, Nat.reduceAdd, Nat.reduceLeDiff, Nat.reduceBEq, Nat.reduceMul, Int.reduceEq, Int.reduceLT, Int.reduceLE] <;> (refine HK _ _ ?_; clear HK K))
  | (refine ao1' rfl fun K HK => ?_; simp only [go_sem, ↓reduceIte, Nat.reduceEqDiff, Nat.reduceAdd, Nat.reduceLeDiff, Nat.reduceBEq, Nat.reduceMul, Int.reduceEq, Int.reduceLT, Int.reduceLE]; refine HK _ _ ?_; clear HK K)
  | refine aw_ret ?_
 exact ⟨.inr rfl, endD (r := .agg (shaIV.ls.map zD)) hl0 rfl (by simp) (by simp) rfl (low_ws _ _) ⟨rfl, rfl⟩⟩
theorem block_d (v : W8) (b : List UInt8) (hb : b.length = 64) (hK : G 1 = .rp (shaK.map zD)) (h : List Ob) :
 Does Tryz.prog G 182 h [.agg (v.ls.map zD), .sl 1 (byD b)] (fun h' r => h' = h ∧ r = .agg ((blkZ v b).ls.map zD)) := by
 refine does_any G hG (by rw [lowL, lowL, lowL]; exact ⟨low_ws _ _, low_by _ _, trivial⟩) (low_ws _ _) ?_ h
 refine does_of_aw Tryz.func182 rfl (Nat.le_of_ble_eq_true rfl) hG fun hl0 _ => ?_
 simp only [Tryz.ntmps182]
 repeat' first
  | refine aw_seq' ?_
  | refine aw_region' ?_
  | refine aw_block ?_
  | refine ao_nil ?_
  | (refine ao1 rfl rfl fun K HK => ?_; simp only [go_sem, ↓reduceIte, Nat.reduceEqDiff, Nat.reduceAdd, Nat.reduceLeDiff, Nat.reduceBEq, Nat.reduceMul, Int.reduceEq, Int.reduceLT, Int.reduceLE] <;> (refine HK _ _ ?_; clear HK K))
 refine aw_for (fun m e h' => ∃ (k : Nat) (W : List Int), k ≤ 16 ∧ m = 16 - k ∧ W.length = 64 ∧ sch1 b (16 - k) W = sch1 b 16 (List.replicate 64 0) ∧ h' = [.cells (v.ls.map zD), .cells (List.replicate 8 (zD 0)), .cells (W.map zD)] ∧ e 1 = .sl 1 (byD b) ∧ e 2 = .ptr 0 0 ∧ e 4 = .ptr 1 0 ∧ e 5 = .ptr 2 0 ∧ e 23 = .v (.int .i64 k)) 16 ⟨0, List.replicate 64 0, by omega, rfl, rfl, rfl, rfl, rfl, rfl, rfl, rfl, rfl⟩ ?_
 rintro m e h' ⟨k, W, hk, rfl, hW, hS, rfl, e1, e2, e4, e5, e23⟩
 by_cases hlt : k < 16
 · have hx0 : b[4 * k]? = some b[4 * k] := List.getElem?_eq_getElem (by omega)
   have hx1 : b[4 * k + 1]? = some b[4 * k + 1] := List.getElem?_eq_getElem (by omega)
   have hx2 : b[4 * k + 2]? = some b[4 * k + 2] := List.getElem?_eq_getElem (by omega)
   have hx3 : b[4 * k + 3]? = some b[4 * k + 3] := List.getElem?_eq_getElem (by omega)
   have hS' : sch1 b (16 - (k + 1)) (W.set k (be4 b[4 * k] b[4 * k + 1] b[4 * k + 2] b[4 * k + 3])) = sch1 b (16 - k) W := by
    obtain ⟨n, hn⟩ : ∃ n, 16 - k = n + 1 := ⟨15 - k, by omega⟩
    rw [hn, sch1, show 16 - (k + 1) = n by omega, show 15 - n = k by omega]
    simp only [List.getD_eq_getElem?_getD, hx0, hx1, hx2, hx3, Option.getD_some]
   generalize b[4 * k] = x0 at hx0 hS'
   generalize b[4 * k + 1] = x1 at hx1 hS'
   generalize b[4 * k + 2] = x2 at hx2 hS'
   generalize b[4 * k + 3] = x3 at hx3 hS'
   have w0 : IntKind.i64.wrap (4 * (k : Int)) = ((4 * k : Nat) : Int) := IntWalk.i64_in _ (by omega)
   have w1 : IntKind.i64.wrap (((4 * k : Nat) : Int) + 1) = ((4 * k + 1 : Nat) : Int) := IntWalk.i64_in _ (by omega)
   have w2 : IntKind.i64.wrap (((4 * k : Nat) : Int) + 2) = ((4 * k + 2 : Nat) : Int) := IntWalk.i64_in _ (by omega)
   have w3 : IntKind.i64.wrap (((4 * k : Nat) : Int) + 3) = ((4 * k + 3 : Nat) : Int) := IntWalk.i64_in _ (by omega)
   have wk : IntKind.i64.wrap ((k : Int) + 1) = ((k + 1 : Nat) : Int) := IntWalk.i64_in _ (by omega)
   repeat' first
    | (refine aS1 rfl rfl fun K HK => ?_; refine aOp_iarr (by first | rfl | (simp only [go_sem, e1, e2, e4, e5, e23, w0, w1, w2, w3, wk, Int.toNat_natCast]; rfl)) (by first | rfl | (simp only [go_sem, e1, e2, e4, e5, e23, w0, w1, w2, w3, wk, Int.toNat_natCast]; rfl)) (by first | (simp only [go_sem]; rfl) | (simp only [go_sem]; done)) (by first | (simp only [go_sem]; rfl) | (simp only [go_sem]; done)) (by omega) ?_; refine HK _ _ rfl ?_; clear HK K)
    | (refine aS_store rfl rfl (by (simp only [go_sem, ↓reduceIte, Nat.reduceEqDiff, Nat.reduceAdd, Nat.reduceLeDiff, Nat.reduceBEq, Nat.reduceMul, Int.reduceEq, Int.reduceLT, Int.reduceLE, e1, e2, e4, e5, e23, w0, w1, w2, w3, wk, Int.toNat_natCast]; rfl)) rfl (by simp only [go_sem]) (by simp [hW]; omega) ?_)
    | refine aw_seq' ?_
    | refine aw_region' ?_
    | refine aw_block ?_
    | refine ao_nil ?_
    | ((first | refine ao1 rfl rfl fun K HK => ?_ | refine aS1 rfl rfl fun K HK => ?_); simp only [go_sem, ↓reduceIte, Nat.reduceEqDiff, Nat.reduceAdd, Nat.reduceLeDiff, Nat.reduceBEq, Nat.reduceMul, Int.reduceEq, Int.reduceLT, Int.reduceLE, e1, e2, e4, e5, e23, w0, w1, w2, w3, wk, Int.toNat_natCast]; (first | refine splitB (fun hq => ?_) (fun hq => ?_) | (refine ⟨by omega, by omega, ?_⟩; refine row_at (by assumption) ?_) | skip) <;> ((first | refine HK _ _ ?_ | refine HK _ _ rfl ?_); clear HK K))
    | (refine aw_drawE mixd (by kernel_rfl) ?_)
    | refine aS_nil (by simp only [List.reverse_cons, List.reverse_nil, List.nil_append, List.cons_append, chkAll, chk1]; repeat' (first | exact trivial | refine And.intro ?_ ?_ | exact .inr compat_pl)) ?_
    | refine aw_if1 rfl ?_
    | refine aw_if0 rfl ?_
    | refine aw_skip ?_
    | refine aw_exit ?_
    | refine thenS_n ?_
    | (exfalso; omega)
   refine ⟨rfl, 16 - (k + 1), by omega, k + 1, W.set k (be4 x0 x1 x2 x3), by omega, rfl, by simp [hW], by rw [hS']; exact hS, ?_, ?_, ?_, ?_, ?_, ?_⟩
   · exact congrArg (fun x => [Ob.cells (v.ls.map zD), .cells (List.replicate 8 (zD 0)), .cells x]) (putL_set (W := W) (k := k) (z := be4 x0 x1 x2 x3) (by omega))
   all_goals first | rfl | (simp [upd, e1, e2, e4, e5]; done)
 have hk16 : k = 16 := by omega
 subst hk16
 repeat' first
  | refine aw_seq' ?_
  | refine aw_region' ?_
  | refine aw_block ?_
  | refine ao_nil ?_
  | ((first | refine ao1 rfl rfl fun K HK => ?_ | refine aq1 rfl rfl fun K HK => ?_); simp only [go_sem, ↓reduceIte, Nat.reduceEqDiff, Nat.reduceAdd, Nat.reduceLeDiff, Nat.reduceBEq, Nat.reduceMul, Int.reduceEq, Int.reduceLT, Int.reduceLE, e1, e2, e4, e5, e23]; (first | refine splitB (fun hq => ?_) (fun hq => ?_) | (refine ⟨by omega, by omega, ?_⟩; intro row hrow; obtain ⟨x, hx, rfl⟩ := row_inv hrow; clear hrow) | skip) <;> ((first | refine HK _ _ ?_ | refine HK _ _ rfl ?_); clear HK K))
  | (refine aw_draw mixd (by kernel_rfl) ?_)
  | refine aw_if1 rfl ?_
  | refine aw_if0 rfl ?_
  | refine aw_skip ?_
  | refine aw_exit ?_
  | (exfalso; omega)
 have hSc : sch2 (64 - 16) W = schZ b := by
  rw [Nat.sub_self, sch1] at hS
  rw [hS]; unfold schZ; rw [show 64 - 16 = 48 from rfl]
 refine aw_for (fun m e h' => ∃ (k : Nat) (W : List Int), 16 ≤ k ∧ k ≤ 64 ∧ m = 64 - k ∧ W.length = 64 ∧ sch2 (64 - k) W = schZ b ∧ h' = [.cells (v.ls.map zD), .cells (List.replicate 8 (zD 0)), .cells (W.map zD)] ∧ e 2 = .ptr 0 0 ∧ e 4 = .ptr 1 0 ∧ e 5 = .ptr 2 0 ∧ e 7 = .v (.int .i64 k)) 48 ⟨16, W, by omega, by omega, rfl, hW, hSc, rfl, e2, e4, e5, rfl⟩ ?_
 clear hSc hS hW W hk hlt e1 e2 e4 e5 e23 e
 rintro m e h' ⟨k, W, hk, hk2, rfl, hW, hS, rfl, e2, e4, e5, e7⟩
 by_cases hlt : k < 64
 · have hx0 : W[k - 15]? = some W[k - 15] := List.getElem?_eq_getElem (by omega)
   have hx1 : W[k - 2]? = some W[k - 2] := List.getElem?_eq_getElem (by omega)
   have hx2 : W[k - 7]? = some W[k - 7] := List.getElem?_eq_getElem (by omega)
   have hx3 : W[k - 16]? = some W[k - 16] := List.getElem?_eq_getElem (by omega)
   have hS' : sch2 (64 - (k + 1)) (W.set k (sgZ W[k - 15] W[k - 2] W[k - 7] W[k - 16])) = sch2 (64 - k) W := by
    obtain ⟨n, hn⟩ : ∃ n, 64 - k = n + 1 := ⟨63 - k, by omega⟩
    rw [hn, sch2, show 64 - (k + 1) = n by omega, show 63 - n = k by omega]
    simp only [List.getD_eq_getElem?_getD, hx0, hx1, hx2, hx3, Option.getD_some]
   generalize W[k - 15] = x15 at hx0 hS'
   generalize W[k - 2] = x2 at hx1 hS'
   generalize W[k - 7] = x7 at hx2 hS'
   generalize W[k - 16] = x16 at hx3 hS'
   have w0 : IntKind.i64.wrap ((k : Int) - 15) = ((k - 15 : Nat) : Int) := (IntWalk.i64_in _ (by omega)).trans (by omega)
   have w1 : IntKind.i64.wrap ((k : Int) - 2) = ((k - 2 : Nat) : Int) := (IntWalk.i64_in _ (by omega)).trans (by omega)
   have w2 : IntKind.i64.wrap ((k : Int) - 7) = ((k - 7 : Nat) : Int) := (IntWalk.i64_in _ (by omega)).trans (by omega)
   have w3 : IntKind.i64.wrap ((k : Int) - 16) = ((k - 16 : Nat) : Int) := (IntWalk.i64_in _ (by omega)).trans (by omega)
   have wk : IntKind.i64.wrap ((k : Int) + 1) = ((k + 1 : Nat) : Int) := IntWalk.i64_in _ (by omega)
   repeat' first
    | (refine aS1 rfl rfl fun K HK => ?_; refine aOp_iarr (by first | rfl | (simp only [go_sem, e2, e4, e5, e7, w0, w1, w2, w3, wk, Int.toNat_natCast]; rfl)) (by first | rfl | (simp only [go_sem, e2, e4, e5, e7, w0, w1, w2, w3, wk, Int.toNat_natCast]; rfl)) (by first | (simp only [go_sem]; rfl) | (simp only [go_sem]; done)) (by first | (simp only [go_sem]; rfl) | (simp only [go_sem]; done)) (by omega) ?_; refine HK _ _ rfl ?_; clear HK K)
    | (refine aS_load rfl rfl rfl (by (simp only [go_sem, ↓reduceIte, Nat.reduceEqDiff, Nat.reduceAdd, Nat.reduceLeDiff, Nat.reduceBEq, Nat.reduceMul, Int.reduceEq, Int.reduceLT, Int.reduceLE, e2, e4, e5, e7, w0, w1, w2, w3, wk, Int.toNat_natCast]; rfl)) (getD_zs (by first | (simp only [go_sem]; rfl) | (simp only [go_sem]; done)) (by assumption)) ?_)
    | (refine aS_store rfl rfl (by (simp only [go_sem, ↓reduceIte, Nat.reduceEqDiff, Nat.reduceAdd, Nat.reduceLeDiff, Nat.reduceBEq, Nat.reduceMul, Int.reduceEq, Int.reduceLT, Int.reduceLE, e2, e4, e5, e7, w0, w1, w2, w3, wk, Int.toNat_natCast]; rfl)) rfl (by simp only [go_sem]) (by simp [hW]; omega) ?_)
    | refine aw_seq' ?_
    | refine aw_region' ?_
    | refine aw_block ?_
    | refine ao_nil ?_
    | ((first | refine ao1 rfl rfl fun K HK => ?_ | refine aS1 rfl rfl fun K HK => ?_); simp only [go_sem, ↓reduceIte, Nat.reduceEqDiff, Nat.reduceAdd, Nat.reduceLeDiff, Nat.reduceBEq, Nat.reduceMul, Int.reduceEq, Int.reduceLT, Int.reduceLE, e2, e4, e5, e7, w0, w1, w2, w3, wk, Int.toNat_natCast]; (first | refine splitB (fun hq => ?_) (fun hq => ?_) | skip) <;> ((first | refine HK _ _ ?_ | refine HK _ _ rfl ?_); clear HK K))
    | (refine aw_drawE mixd (by kernel_rfl) ?_)
    | refine aS_nil (by simp only [List.reverse_cons, List.reverse_nil, List.nil_append, List.cons_append, chkAll, chk1]; repeat' (first | exact trivial | refine And.intro ?_ ?_ | exact .inr compat_pl | exact .inr compat_pr | exact .inr compat_rr | exact .inl (by kernel_rfl))) ?_
    | (refine ao2 rfl rfl rfl ent_190 (rotr_d G hG _ 7 (by omega) _) ?_; rintro _ _ ⟨rfl, rfl⟩)
    | (refine ao2 rfl rfl rfl ent_190 (rotr_d G hG _ 17 (by omega) _) ?_; rintro _ _ ⟨rfl, rfl⟩)
    | (refine ao2 rfl rfl rfl ent_190 (rotr_d G hG _ 18 (by omega) _) ?_; rintro _ _ ⟨rfl, rfl⟩)
    | (refine ao2 rfl rfl rfl ent_190 (rotr_d G hG _ 19 (by omega) _) ?_; rintro _ _ ⟨rfl, rfl⟩)
    | refine aw_if1 rfl ?_
    | refine aw_if0 rfl ?_
    | refine aw_skip ?_
    | refine aw_exit ?_
    | refine thenS_n ?_
    | (exfalso; omega)
   refine ⟨rfl, 64 - (k + 1), by omega, k + 1, W.set k (sgZ x15 x2 x7 x16), by omega, by omega, rfl, by simp [hW], by rw [hS']; exact hS, ?_, ?_, ?_, ?_, ?_⟩
   · exact congrArg (fun x => [Ob.cells (v.ls.map zD), .cells (List.replicate 8 (zD 0)), .cells x]) (putL_set (W := W) (k := k) (z := sgZ x15 x2 x7 x16) (by omega))
   all_goals first | rfl | (simp [upd, e2, e4, e5]; done)
 have hk64 : k = 64 := by omega
 subst hk64
 rw [Nat.sub_self, sch2] at hS
 subst hS
 generalize hWe : schZ b = W at hW ⊢
 repeat' first
  | (refine ao1 rfl rfl fun K HK => ?_; refine aOp_larr (by first | rfl | (simp only [go_sem, e2, e4, e5, e7]; rfl)) (by (simp only [go_sem, ↓reduceIte, Nat.reduceEqDiff, Nat.reduceAdd, Nat.reduceLeDiff, Nat.reduceBEq, Nat.reduceMul, Int.reduceEq, Int.reduceLT, Int.reduceLE, e2, e4, e5, e7]; rfl)) (getD_ws (by first | (simp only [go_sem]; rfl) | (simp only [go_sem]; done)) (by first | (simp only [go_sem]; rfl) | (simp only [go_sem]; done))) ?_; refine HK _ _ ?_; clear HK K)
  | (refine ao1' rfl fun K HK => ?_; refine aOp_stv (by first | rfl | (simp only [go_sem, e2, e4, e5, e7]; rfl)) (by (simp only [go_sem, ↓reduceIte, Nat.reduceEqDiff, Nat.reduceAdd, Nat.reduceLeDiff, Nat.reduceBEq, Nat.reduceMul, Int.reduceEq, Int.reduceLT, Int.reduceLE, e2, e4, e5, e7]; rfl)) rfl (by first | (simp only [go_sem]; rfl) | (simp only [go_sem]; done)) rfl ?_; refine HK _ _ ?_; clear HK K)
  | refine aw_seq' ?_
  | refine aw_region' ?_
  | refine aw_block ?_
  | refine ao_nil ?_
  | ((first | refine ao1 rfl rfl fun K HK => ?_ | refine aq1 rfl rfl fun K HK => ?_); simp only [go_sem, ↓reduceIte, Nat.reduceEqDiff, Nat.reduceAdd, Nat.reduceLeDiff, Nat.reduceBEq, Nat.reduceMul, Int.reduceEq, Int.reduceLT, Int.reduceLE, e2, e4, e5, e7]; (first | refine splitB (fun hq => ?_) (fun hq => ?_) | skip) <;> ((first | refine HK _ _ ?_ | refine HK _ _ rfl ?_); clear HK K))
  | (refine aw_draw mixd (by kernel_rfl) ?_)
  | refine aw_if1 rfl ?_
  | refine aw_if0 rfl ?_
  | refine aw_skip ?_
  | refine aw_exit ?_
  | (exfalso; omega)
 refine aw_for (fun m e h' => ∃ (k : Nat) (u : W8), k ≤ 64 ∧ m = 64 - k ∧ rndsZ shaK W (64 - k) u = rndsZ shaK W 64 v ∧ h' = [.cells (v.ls.map zD), .cells (List.replicate 8 (zD 0)), .cells (W.map zD), .cells (u.ls.map zD)] ∧ e 2 = .ptr 0 0 ∧ e 4 = .ptr 1 0 ∧ e 5 = .ptr 2 0 ∧ e 12 = .ptr 3 0 ∧ e 106 = .v (.int .i64 k)) 64 ⟨0, v, by omega, rfl, by rw [Nat.sub_zero], rfl, e2, e4, e5, rfl, rfl⟩ ?_
 clear hk hk2 hlt e2 e4 e5 e7 e
 rintro m e h' ⟨k, u, hk, rfl, hS, rfl, e2, e4, e5, e12, e106⟩
 by_cases hlt : k < 64
 · have hx0 : W[k]? = some W[k] := List.getElem?_eq_getElem (by omega)
   have hx1 : shaK[k]? = some (shaK[k]'hlt) := List.getElem?_eq_getElem hlt
   have hS' : rndsZ shaK W (64 - (k + 1)) (rndZ (shaK[k]'hlt) W[k] u) = rndsZ shaK W (64 - k) u := by
    obtain ⟨n, hn⟩ : ∃ n, 64 - k = n + 1 := ⟨63 - k, by omega⟩
    rw [hn, rndsZ, show 64 - (k + 1) = n by omega, show 63 - n = k by omega]
    simp only [List.getD_eq_getElem?_getD, hx0, hx1, Option.getD_some]
   generalize W[k] = wv at hx0 hS'
   generalize (shaK[k]'hlt) = kv at hx1 hS'
   have wk : IntKind.i64.wrap ((k : Int) + 1) = ((k + 1 : Nat) : Int) := IntWalk.i64_in _ (by omega)
   repeat' first
    | (refine aq1 rfl rfl fun K HK => ?_; refine aOp_iarr (by first | rfl | (simp only [go_sem, e2, e4, e5, e12, e106, wk, Int.toNat_natCast]; rfl)) (by first | rfl | (simp only [go_sem, e2, e4, e5, e12, e106, wk, Int.toNat_natCast]; rfl)) (by first | (simp only [go_sem]; rfl) | (simp only [go_sem]; done)) (by first | (simp only [go_sem]; rfl) | (simp only [go_sem]; done)) (by omega) ?_; refine HK _ _ rfl ?_; clear HK K)
    | (refine aq1 rfl rfl fun K HK => ?_; refine aOp_larr (by first | rfl | (simp only [go_sem, e2, e4, e5, e12, e106, wk, Int.toNat_natCast]; rfl)) (by (simp only [go_sem, ↓reduceIte, Nat.reduceEqDiff, Nat.reduceAdd, Nat.reduceLeDiff, Nat.reduceBEq, Nat.reduceMul, Int.reduceEq, Int.reduceLT, Int.reduceLE, e2, e4, e5, e12, e106, wk, Int.toNat_natCast]; rfl)) (getD_zs (by first | (simp only [go_sem]; rfl) | (simp only [go_sem]; done)) (by assumption)) ?_; refine HK _ _ rfl ?_; clear HK K)
    | (refine aq1 rfl rfl fun K HK => ?_; refine aOp_ilit (by first | rfl | (simp only [go_sem, e2, e4, e5, e12, e106, wk, Int.toNat_natCast]; rfl)) (by first | rfl | (simp only [go_sem, e2, e4, e5, e12, e106, wk, Int.toNat_natCast]; rfl)) (by first | (simp only [go_sem]; rfl) | (simp only [go_sem]; done)) (by first | (simp only [go_sem]; rfl) | (simp only [go_sem]; done)) (by decide) (by decide) ?_; refine HK _ _ rfl ?_; clear HK K)
    | (refine aq1 rfl rfl fun K HK => ?_; refine aOp_irp (by first | exact hK | (simp only [go_sem, e2, e4, e5, e12, e106, wk, Int.toNat_natCast]; exact hK)) (by first | rfl | (simp only [go_sem, e2, e4, e5, e12, e106, wk, Int.toNat_natCast]; rfl)) (by first | (simp only [go_sem]; rfl) | (simp only [go_sem]; done)) (by first | (simp only [go_sem]; rfl) | (simp only [go_sem]; done)) (by omega) ?_; refine HK _ _ rfl ?_; clear HK K)
    | (refine aq1 rfl rfl fun K HK => ?_; refine aOp_lrp rfl (getD_zd (by first | (simp only [go_sem]; rfl) | (simp only [go_sem]; done)) (by assumption)) ?_; refine HK _ _ rfl ?_; clear HK K)
    | (refine aq1 rfl rfl fun K HK => ?_; refine aOp_unx rfl ?_; refine HK _ _ rfl ?_; clear HK K)
    | (refine aq1 rfl rfl fun K HK => ?_; refine aOp_lz (by first | rfl | (simp only [go_sem, e2, e4, e5, e12, e106, wk, Int.toNat_natCast]; rfl)) (by (simp only [go_sem, ↓reduceIte, Nat.reduceEqDiff, Nat.reduceAdd, Nat.reduceLeDiff, Nat.reduceBEq, Nat.reduceMul, Int.reduceEq, Int.reduceLT, Int.reduceLE, e2, e4, e5, e12, e106, wk, Int.toNat_natCast]; rfl)) (by rw [getD_one (by first | (simp only [go_sem]; rfl) | (simp only [go_sem]; done))]; rfl) ?_; refine HK _ _ rfl ?_; clear HK K)
    | (refine ao1 rfl rfl fun K HK => ?_; refine aOp_ilit (by first | rfl | (simp only [go_sem, e2, e4, e5, e12, e106, wk, Int.toNat_natCast]; rfl)) (by first | rfl | (simp only [go_sem, e2, e4, e5, e12, e106, wk, Int.toNat_natCast]; rfl)) (by first | (simp only [go_sem]; rfl) | (simp only [go_sem]; done)) (by first | (simp only [go_sem]; rfl) | (simp only [go_sem]; done)) (by decide) (by decide) ?_; refine HK _ _ ?_; clear HK K)
    | (refine ao1 rfl rfl fun K HK => ?_; refine aOp_lz (by first | rfl | (simp only [go_sem, e2, e4, e5, e12, e106, wk, Int.toNat_natCast]; rfl)) (by (simp only [go_sem, ↓reduceIte, Nat.reduceEqDiff, Nat.reduceAdd, Nat.reduceLeDiff, Nat.reduceBEq, Nat.reduceMul, Int.reduceEq, Int.reduceLT, Int.reduceLE, e2, e4, e5, e12, e106, wk, Int.toNat_natCast]; rfl)) (by rw [getD_one (by first | (simp only [go_sem]; rfl) | (simp only [go_sem]; done))]; rfl) ?_; refine HK _ _ ?_; clear HK K)
    | (refine ao1' rfl fun K HK => ?_; refine aOp_stv (by first | rfl | (simp only [go_sem, e2, e4, e5, e12, e106, wk, Int.toNat_natCast]; rfl)) (by (simp only [go_sem, ↓reduceIte, Nat.reduceEqDiff, Nat.reduceAdd, Nat.reduceLeDiff, Nat.reduceBEq, Nat.reduceMul, Int.reduceEq, Int.reduceLT, Int.reduceLE, e2, e4, e5, e12, e106, wk, Int.toNat_natCast]; rfl)) (v := rndZ kv wv u) rfl (by first | (simp only [go_sem]; rfl) | (simp only [go_sem]; done)) rfl ?_; refine HK _ _ ?_; clear HK K)
    | refine aw_seq' ?_
    | refine aw_region' ?_
    | refine aw_block ?_
    | refine ao_nil ?_
    | ((first | refine ao1 rfl rfl fun K HK => ?_ | refine aq1 rfl rfl fun K HK => ?_); simp only [go_sem, ↓reduceIte, Nat.reduceEqDiff, Nat.reduceAdd, Nat.reduceLeDiff, Nat.reduceBEq, Nat.reduceMul, Int.reduceEq, Int.reduceLT, Int.reduceLE, e2, e4, e5, e12, e106, wk, Int.toNat_natCast]; (first | refine splitB (fun hq => ?_) (fun hq => ?_) | skip) <;> ((first | refine HK _ _ ?_ | refine HK _ _ rfl ?_); clear HK K))
    | (refine aw_draw mixd (by kernel_rfl) ?_)
    | (refine ao2 rfl rfl rfl ent_190 (rotr_d G hG _ 2 (by omega) _) ?_; rintro _ _ ⟨rfl, rfl⟩)
    | refine aq2 rfl rfl rfl ent_190 (rotr_d G hG _ 6 (by omega) _) ?_
    | refine aq2 rfl rfl rfl ent_190 (rotr_d G hG _ 11 (by omega) _) ?_
    | (refine ao2 rfl rfl rfl ent_190 (rotr_d G hG _ 13 (by omega) _) ?_; rintro _ _ ⟨rfl, rfl⟩)
    | (refine ao2 rfl rfl rfl ent_190 (rotr_d G hG _ 22 (by omega) _) ?_; rintro _ _ ⟨rfl, rfl⟩)
    | refine aq2 rfl rfl rfl ent_190 (rotr_d G hG _ 25 (by omega) _) ?_
    | refine aw_if1 rfl ?_
    | refine aw_if0 rfl ?_
    | refine aw_skip ?_
    | refine aw_exit ?_
    | refine thenS_n ?_
    | (exfalso; omega)
   refine ⟨rfl, 64 - (k + 1), by omega, k + 1, rndZ kv wv u, by omega, rfl, by rw [hS']; exact hS, rfl, ?_, ?_, ?_, ?_, rfl⟩
   all_goals first | rfl | (simp [upd, e2, e4, e5, e12]; done)
 have hk64 : k = 64 := by omega
 subst hk64
 rw [Nat.sub_self, rndsZ] at hS
 repeat' first
  | refine aw_seq' ?_
  | refine aw_region' ?_
  | refine aw_block ?_
  | refine ao_nil ?_
  | ((first | refine ao1 rfl rfl fun K HK => ?_ | refine aq1 rfl rfl fun K HK => ?_); simp only [go_sem, ↓reduceIte, Nat.reduceEqDiff, Nat.reduceAdd, Nat.reduceLeDiff, Nat.reduceBEq, Nat.reduceMul, Int.reduceEq, Int.reduceLT, Int.reduceLE, e2, e4, e5, e12, e106]; (first | refine splitB (fun hq => ?_) (fun hq => ?_) | skip) <;> (refine HK _ _ ?_; clear HK K))
  | (refine aw_draw mixd (by kernel_rfl) ?_)
  | refine aw_if1 rfl ?_
  | refine aw_if0 rfl ?_
  | refine aw_skip ?_
  | refine aw_exit ?_
  | (exfalso; omega)
 refine aw_for (fun m e h' => ∃ (k : Nat) (U : List Int), k ≤ 8 ∧ m = 8 - k ∧ U.length = 8 ∧ addJ v.ls (8 - k) U = (u.add v).ls ∧ h' = [.cells (v.ls.map zD), .cells (List.replicate 8 (zD 0)), .cells (W.map zD), .cells (U.map zD)] ∧ e 2 = .ptr 0 0 ∧ e 4 = .ptr 1 0 ∧ e 12 = .ptr 3 0 ∧ e 184 = .v (.int .i64 k)) 8 ⟨0, u.ls, by omega, rfl, rfl, by rw [Nat.sub_zero]; exact addJ_eq u v, rfl, e2, e4, e12, rfl⟩ ?_
 clear hk hlt e2 e4 e5 e12 e106 e
 rintro m e h' ⟨k, U, hk, rfl, hU, hT, rfl, e2, e4, e12, e184⟩
 by_cases hlt : k < 8
 · have hx0 : U[k]? = some U[k] := List.getElem?_eq_getElem (by omega)
   have hvl : v.ls.length = 8 := rfl
   have hx1 : v.ls[k]? = some (v.ls[k]'(by omega)) := List.getElem?_eq_getElem (by omega)
   have hS' : addJ v.ls (8 - (k + 1)) (U.set k (add32 U[k] (v.ls[k]'(by omega)))) = addJ v.ls (8 - k) U := by
    obtain ⟨n, hn⟩ : ∃ n, 8 - k = n + 1 := ⟨7 - k, by omega⟩
    rw [hn, addJ, show 8 - (k + 1) = n by omega, show 7 - n = k by omega]
    simp only [List.getD_eq_getElem?_getD, hx0, hx1, Option.getD_some]
   generalize U[k] = x at hx0 hS'
   generalize (v.ls[k]'(by omega)) = y at hx1 hS'
   have wk : IntKind.i64.wrap ((k : Int) + 1) = ((k + 1 : Nat) : Int) := IntWalk.i64_in _ (by omega)
   repeat' first
    | (refine aS1 rfl rfl fun K HK => ?_; refine aOp_iarr (by first | rfl | (simp only [go_sem, e2, e4, e12, e184, wk, Int.toNat_natCast]; rfl)) (by first | rfl | (simp only [go_sem, e2, e4, e12, e184, wk, Int.toNat_natCast]; rfl)) (by first | (simp only [go_sem]; rfl) | (simp only [go_sem]; done)) (by first | (simp only [go_sem]; rfl) | (simp only [go_sem]; done)) (by omega) ?_; refine HK _ _ rfl ?_; clear HK K)
    | (refine aS_load rfl rfl rfl (by (simp only [go_sem, ↓reduceIte, Nat.reduceEqDiff, Nat.reduceAdd, Nat.reduceLeDiff, Nat.reduceBEq, Nat.reduceMul, Int.reduceEq, Int.reduceLT, Int.reduceLE, e2, e4, e12, e184, wk, Int.toNat_natCast]; rfl)) (getD_zs (by first | (simp only [go_sem]; rfl) | (simp only [go_sem]; done)) (by assumption)) ?_)
    | (refine aS_store rfl rfl (by (simp only [go_sem, ↓reduceIte, Nat.reduceEqDiff, Nat.reduceAdd, Nat.reduceLeDiff, Nat.reduceBEq, Nat.reduceMul, Int.reduceEq, Int.reduceLT, Int.reduceLE, e2, e4, e12, e184, wk, Int.toNat_natCast]; rfl)) rfl (by simp only [go_sem]) (by simp [hU]; omega) ?_)
    | refine aw_seq' ?_
    | refine aw_region' ?_
    | refine aw_block ?_
    | refine ao_nil ?_
    | ((first | refine ao1 rfl rfl fun K HK => ?_ | refine aS1 rfl rfl fun K HK => ?_); simp only [go_sem, ↓reduceIte, Nat.reduceEqDiff, Nat.reduceAdd, Nat.reduceLeDiff, Nat.reduceBEq, Nat.reduceMul, Int.reduceEq, Int.reduceLT, Int.reduceLE, e2, e4, e12, e184, wk, Int.toNat_natCast]; (first | refine splitB (fun hq => ?_) (fun hq => ?_) | skip) <;> ((first | refine HK _ _ ?_ | refine HK _ _ rfl ?_); clear HK K))
    | (refine aw_drawE mixd (by kernel_rfl) ?_)
    | refine aS_nil (by simp only [List.reverse_cons, List.reverse_nil, List.nil_append, List.cons_append, chkAll, chk1]; repeat' (first | exact trivial | refine And.intro ?_ ?_ | exact .inr compat_pl | exact .inr compat_pr | exact .inr compat_rr | exact .inr (compat_rw (by omega)) | exact .inl (by kernel_rfl))) ?_
    | refine aw_if1 rfl ?_
    | refine aw_if0 rfl ?_
    | refine aw_skip ?_
    | refine aw_exit ?_
    | refine thenS_n ?_
    | (exfalso; omega)
   refine ⟨rfl, 8 - (k + 1), by omega, k + 1, U.set k (add32 x y), by omega, rfl, by simp [hU], by rw [hS']; exact hT, ?_, ?_, ?_, ?_, rfl⟩
   · exact congrArg (fun z => [Ob.cells (v.ls.map zD), .cells (List.replicate 8 (zD 0)), .cells (W.map zD), .cells z]) (by first | exact putL_set0 (W := U) (k := k) (z := add32 x y) (by omega) | exact putL_set (W := U) (k := k) (z := add32 x y) (by omega))
   all_goals first | rfl | (simp [upd, e2, e4, e12]; done)
 have hk8 : k = 8 := by omega
 subst hk8
 rw [Nat.sub_self, addJ] at hT
 have hB : (blkZ v b).ls = U := by rw [hT]; unfold blkZ; rw [hWe, ← hS]
 rw [hB]
 rw [hT]
 repeat' first
  | (refine ao1 rfl rfl fun K HK => ?_; refine aOp_larr (by first | rfl | (simp only [go_sem, e2, e4, e12, e184]; rfl)) (by (simp only [go_sem, ↓reduceIte, Nat.reduceEqDiff, Nat.reduceAdd, Nat.reduceLeDiff, Nat.reduceBEq, Nat.reduceMul, Int.reduceEq, Int.reduceLT, Int.reduceLE, e2, e4, e12, e184]; rfl)) (getD_ws (by first | (simp only [go_sem]; rfl) | (simp only [go_sem]; done)) (by first | (simp only [go_sem]; rfl) | (simp only [go_sem]; done))) ?_; refine HK _ _ ?_; clear HK K)
  | (refine ao1' rfl fun K HK => ?_; refine aOp_stv (by first | rfl | (simp only [go_sem, e2, e4, e12, e184]; rfl)) (by (simp only [go_sem, ↓reduceIte, Nat.reduceEqDiff, Nat.reduceAdd, Nat.reduceLeDiff, Nat.reduceBEq, Nat.reduceMul, Int.reduceEq, Int.reduceLT, Int.reduceLE, e2, e4, e12, e184]; rfl)) rfl (by first | (simp only [go_sem]; rfl) | (simp only [go_sem]; done)) rfl ?_; refine HK _ _ ?_; clear HK K)
  | refine aw_seq' ?_
  | refine aw_region' ?_
  | refine aw_block ?_
  | refine ao_nil ?_
  | ((first | refine ao1 rfl rfl fun K HK => ?_ | refine aq1 rfl rfl fun K HK => ?_); simp only [go_sem, ↓reduceIte, Nat.reduceEqDiff, Nat.reduceAdd, Nat.reduceLeDiff, Nat.reduceBEq, Nat.reduceMul, Int.reduceEq, Int.reduceLT, Int.reduceLE, e2, e4, e12, e184]; (first | refine splitB (fun hq => ?_) (fun hq => ?_) | skip) <;> ((first | refine HK _ _ ?_ | refine HK _ _ rfl ?_); clear HK K))
  | (refine aw_draw mixd (by kernel_rfl) ?_)
  | refine aw_if1 rfl ?_
  | refine aw_if0 rfl ?_
  | refine aw_skip ?_
  | refine aw_exit ?_
  | refine aw_ret ?_
  | (exfalso; omega)
 exact ⟨.inr rfl, endD (ds := [.agg ((u.add v).ls.map zD)]) (r := .agg ((u.add v).ls.map zD)) hl0 (resD_cell1 (i := 1) (o := 0) (by simp [upd, e4]) rfl (getD_ws (by simp only [go_sem]) (by simp only [go_sem]))) (by simp) (by simp) (cvD_zs _ _ _) (low_ws _ _) ⟨rfl, rfl⟩⟩
end
section
set_option maxRecDepth 100000
set_option maxHeartbeats 4000000
set_option pp.maxSteps 1000000
set_option pp.deepTerms true
attribute [local irreducible] on aOp
attribute [local go_sem] decide_true decide_false Bool.not_true Bool.not_false
attribute [local simp] byD_len
theorem low_mem2 (v : W8) (q : List UInt8) (n : Nat) : lowH 2 [.cells (stL v (.buf 1 q.length) n), .buf 5 1 (byD q)] := fun x hx => by
 simp at hx
 rcases hx with rfl | rfl
 · exact low_stL (by simp [low])
 · exact low_by 2 q
variable (G : Nat → D) (hG : ∀ g, low 0 (G g))
include hG
theorem shNew0 : Does Tryz.prog G 161 [] [] (fun h' r => h' = [.cells (stL shaIV (.v (.slice none 0 0)) 0)] ∧ r = .ptr 0 0) := by
 refine does_of_aw Tryz.func161 rfl (Nat.le_of_ble_eq_true rfl) hG fun hl0 _ => ?_
 simp only [Tryz.ntmps161]
 repeat' first
  | (refine ao1 rfl rfl fun K HK => ?_; refine aOp_bld0 rfl (by simp only [go_sem]) (by simp only [go_sem]; rfl) (by simp only [go_sem]) rfl rfl rfl ?_; refine HK _ _ ?_; clear HK K)
  | refine aw_seq' ?_
  | refine aw_region' ?_
  | refine ao_nil ?_
  | (refine ao1 rfl rfl fun K HK => ?_; simp only [go_sem, ↓reduceIte, Nat.reduceEqDiff, Nat.reduceAdd, Nat.reduceLeDiff, Nat.reduceBEq, Nat.reduceMul, Int.reduceEq, Int.reduceLT, Int.reduceLE] <;> (refine HK _ _ ?_; clear HK K))
  | (refine ao2 rfl rfl rfl ent_181 (initial_d G hG _) ?_; rintro _ _ ⟨rfl, rfl⟩)
  | refine aw_ret ?_
 exact ⟨.inr rfl, [.ptr 0 0], 1, rfl, by simp, by simp, fun x hx => by (simp at hx; subst hx; exact low_stL (by rw [low]; trivial)), by simp [outD, cvD, cv1, low], rfl, rfl⟩
theorem shWrite0 (b : List UInt8) (hb : b.length ≤ 100000000) (hK : G 1 = .rp (shaK.map zD)) : Does Tryz.prog G 162 [.cells (stL shaIV (.v (.slice none 0 0)) 0)] [.ptr 0 0, .sl 1 (byD b)] (fun h' r => h' = [.cells (stL (blksZ shaIV b) (.buf 1 (restZ b).length) b.length), .buf 5 1 (byD (restZ b))] ∧ r = .tup []) := by
 have wb : IntKind.i64.wrap (((0 : Nat) : Int) + (b.length : Int)) = (b.length : Int) := (IntWalk.i64_in _ (by omega)).trans (by omega)
 refine does_of_aw Tryz.func162 rfl (Nat.le_of_ble_eq_true rfl) hG fun hl0 _ => ?_
 simp only [Tryz.ntmps162]
 repeat' first
  | (refine ao1 rfl rfl fun K HK => ?_; refine aOp_larr (by first | rfl | (simp only [go_sem, wb]; rfl)) (by (simp only [go_sem, ↓reduceIte, Nat.reduceEqDiff, Nat.reduceAdd, Nat.reduceLeDiff, Nat.reduceBEq, Nat.reduceMul, Int.reduceEq, Int.reduceLT, Int.reduceLE, wb]; rfl)) (getD_rS (by first | (simp only [go_sem]; rfl) | (simp only [go_sem]; done))) ?_; refine HK _ _ ?_; clear HK K)
  | (refine ao1 rfl rfl fun K HK => ?_; refine aOp_larr (by first | rfl | (simp only [go_sem, wb]; rfl)) (by (simp only [go_sem, ↓reduceIte, Nat.reduceEqDiff, Nat.reduceAdd, Nat.reduceLeDiff, Nat.reduceBEq, Nat.reduceMul, Int.reduceEq, Int.reduceLT, Int.reduceLE, wb]; rfl)) (getD_nS (by first | (simp only [go_sem]; rfl) | (simp only [go_sem]; done))) ?_; refine HK _ _ ?_; clear HK K)
  | (refine ao1' rfl fun K HK => ?_; refine aOp_stn8 (by first | rfl | (simp only [go_sem, wb]; rfl)) (by (simp only [go_sem, ↓reduceIte, Nat.reduceEqDiff, Nat.reduceAdd, Nat.reduceLeDiff, Nat.reduceBEq, Nat.reduceMul, Int.reduceEq, Int.reduceLT, Int.reduceLE, wb]; rfl)) rfl (by first | (simp only [go_sem]; rfl) | (simp only [go_sem]; done)) ?_; refine HK _ _ ?_; clear HK K)
  | refine aw_seq' ?_
  | refine aw_region' ?_
  | refine aw_block ?_
  | refine ao_nil ?_
  | (refine ao1 rfl rfl fun K HK => ?_; simp only [go_sem, ↓reduceIte, Nat.reduceEqDiff, Nat.reduceAdd, Nat.reduceLeDiff, Nat.reduceBEq, Nat.reduceMul, Int.reduceEq, Int.reduceLT, Int.reduceLE, wb] <;> (refine HK _ _ ?_; clear HK K))
  | refine aw_if0 rfl ?_
  | refine aw_skip ?_
 refine aw_for (fun m e h' => ∃ (v : W8) (c : List UInt8), m = c.length ∧ c.length ≤ b.length ∧ blksZ v c = blksZ shaIV b ∧ restZ c = restZ b ∧ h' = [.cells (stL v (.v (.slice none 0 0)) b.length)] ∧ e 0 = .ptr 0 0 ∧ e 1 = .sl 1 (byD c)) b.length ⟨shaIV, b, rfl, Nat.le_refl _, rfl, rfl, rfl, rfl, rfl⟩ ?_
 rintro m e h' ⟨v, c, rfl, hcl, hB, hR, rfl, e0, e1⟩
 by_cases hlt : 64 ≤ c.length
 · have hx : ((byD c).take (Int.toNat 64)).drop (Int.toNat 0) = byD (c.take 64) := by rw [byD_cut]; rfl
   have hy : ((byD c).take c.length).drop (Int.toNat 64) = byD (c.drop 64) := by rw [byD_cut, List.take_of_length_le (Nat.le_refl _)]; rfl
   have hl64 : (c.take 64).length = 64 := by rw [List.length_take]; omega
   repeat' first
    | (refine aS_load rfl rfl (by first | rfl | (simp only [go_sem, e0, e1]; rfl)) (by (simp only [go_sem, ↓reduceIte, Nat.reduceEqDiff, Nat.reduceAdd, Nat.reduceLeDiff, Nat.reduceBEq, Nat.reduceMul, Int.reduceEq, Int.reduceLT, Int.reduceLE, e0, e1]; rfl)) (getD_wS (by first | (simp only [go_sem]; rfl) | (simp only [go_sem]; done)) (by first | (simp only [go_sem]; rfl) | (simp only [go_sem]; done))) ?_)
    | (refine aS1 rfl rfl fun K HK => ?_; refine aOp_supto64 (c := c) (by first | rfl | (simp only [go_sem, e0, e1]; rfl)) (by simp only [go_sem, Option.bind_some]) hlt ?_; refine HK _ _ rfl ?_; clear HK K)
    | (refine ao1 rfl rfl fun K HK => ?_; refine aOp_sfrom64 (c := c) (by first | rfl | (simp only [go_sem, e0, e1]; rfl)) (by simp only [go_sem, Option.bind_some]) hlt ?_; refine HK _ _ ?_; clear HK K)
    | (refine aS_store (es := (blkZ v (c.take 64)).ls.map zD) rfl (by first | rfl | (simp only [go_sem, e0, e1]; rfl)) (by (simp only [go_sem, ↓reduceIte, Nat.reduceEqDiff, Nat.reduceAdd, Nat.reduceLeDiff, Nat.reduceBEq, Nat.reduceMul, Int.reduceEq, Int.reduceLT, Int.reduceLE, e0, e1]; rfl)) rfl (by rw [all_zs]; simp only [go_sem]; rfl) (by simp [stL, W8.ls]) ?_)
    | refine aw_seq' ?_
    | refine aw_region' ?_
    | refine aw_block ?_
    | refine ao_nil ?_
    | ((first | refine ao1 rfl rfl fun K HK => ?_ | refine aS1 rfl rfl fun K HK => ?_); simp only [go_sem, ↓reduceIte, Nat.reduceEqDiff, Nat.reduceAdd, Nat.reduceLeDiff, Nat.reduceBEq, Nat.reduceMul, Int.reduceEq, Int.reduceLT, Int.reduceLE, e0, e1]; (first | refine splitB (fun hq => ?_) (fun hq => ?_) | skip) <;> ((first | refine HK _ _ ?_ | refine HK _ _ rfl ?_); clear HK K))
    | (refine aw_drawE mixd (by kernel_rfl) ?_)
    | refine ao_appR rfl rfl rfl (by (simp only [go_sem, ↓reduceIte, Nat.reduceEqDiff, Nat.reduceAdd, Nat.reduceLeDiff, Nat.reduceBEq, Nat.reduceMul, Int.reduceEq, Int.reduceLT, Int.reduceLE, e0, e1]; rfl)) (by simp) (by simp only [go_sem]; rfl) rfl (by exact rowsOk_by _) (by omega) ?_
    | refine aS_nil (by simp only [List.reverse_cons, List.reverse_nil, List.nil_append, List.cons_append, chkAll, chk1]; repeat' (first | exact trivial | refine And.intro ?_ ?_ | exact .inr compat_pl | exact .inr compat_pr | exact .inl (by kernel_rfl))) ?_
    | refine aS_call0 rfl rfl rfl ent_182 (fun h2 => block_d G hG v (c.take 64) hl64 hK _) ?_
    | refine aw_if1 rfl ?_
    | refine aw_if0 rfl ?_
    | refine aw_skip ?_
    | refine aw_exit ?_
    | refine thenS_n ?_
    | refine inB_n ?_
    | (exfalso; omega)
   exact ⟨rfl, (c.drop 64).length, by simp; omega, blkZ v (c.take 64), c.drop 64, rfl, by simp; omega, by rw [← blksZ_ge hlt]; exact hB, by rw [restZ_ge hlt]; exact hR, rfl, by simp [upd, e0], rfl⟩
 · skip
   repeat' first
    | (refine ao1' rfl fun K HK => ?_; refine aOp_str8 (by first | rfl | (simp only [go_sem, e0, e1]; rfl)) (by (simp only [go_sem, ↓reduceIte, Nat.reduceEqDiff, Nat.reduceAdd, Nat.reduceLeDiff, Nat.reduceBEq, Nat.reduceMul, Int.reduceEq, Int.reduceLT, Int.reduceLE, e0, e1]; rfl)) rfl rfl (by first | (simp only [go_sem]; rfl) | (simp only [go_sem]; done)) ?_; refine HK _ _ ?_; clear HK K)
    | refine aw_seq' ?_
    | refine aw_region' ?_
    | refine aw_block ?_
    | refine ao_nil ?_
    | ((first | refine ao1 rfl rfl fun K HK => ?_ | refine aq1 rfl rfl fun K HK => ?_); simp only [go_sem, ↓reduceIte, Nat.reduceEqDiff, Nat.reduceAdd, Nat.reduceLeDiff, Nat.reduceBEq, Nat.reduceMul, Int.reduceEq, Int.reduceLT, Int.reduceLE, e0, e1]; (first | refine splitB (fun hq => ?_) (fun hq => ?_) | skip) <;> ((first | refine HK _ _ ?_ | refine HK _ _ rfl ?_); clear HK K))
    | (refine aw_draw mixd (by kernel_rfl) ?_)
    | refine ao_appR rfl rfl rfl (by (simp only [go_sem, ↓reduceIte, Nat.reduceEqDiff, Nat.reduceAdd, Nat.reduceLeDiff, Nat.reduceBEq, Nat.reduceMul, Int.reduceEq, Int.reduceLT, Int.reduceLE, e0, e1]; rfl)) (by simp) (by simp only [go_sem]; rfl) rfl (by exact rowsOk_by _) (by (simp; omega)) ?_
    | refine aw_if1 rfl ?_
    | refine aw_if0 rfl ?_
    | refine aw_skip ?_
    | refine aw_exit ?_
    | (exfalso; omega)
   rw [blksZ_lt (by omega)] at hB
   rw [restZ_lt (by omega)] at hR
   subst hB hR
   have e3 : 0 + (byD (restZ b)).length = (restZ b).length := by rw [byD_len, Nat.zero_add]
   exact ⟨.inl rfl, endX [] [.cells (stL (blksZ shaIV b) (.buf 1 (restZ b).length) b.length), .buf 5 1 (byD (restZ b))] [] (.tup []) rfl (congrArg (fun m => [Ob.cells (stL (blksZ shaIV b) (.buf 1 m) b.length), .buf 5 1 (byD (restZ b))]) e3) (by simp) (low_mem2 _ _ _) (by simp [low, lowL]) rfl ⟨rfl, rfl⟩⟩
theorem shSum0 (v : W8) (q : List UInt8) (n : Nat) (hql : q.length < 64) (hn : n ≤ 100000000) (hK : G 1 = .rp (shaK.map zD)) : Does Tryz.prog G 163 [.cells (stL v (.buf 1 q.length) n), .buf 5 1 (byD q)] [.ptr 0 0] (fun h' r => h' = [.cells (stL v (.buf 1 q.length) n), .buf 5 1 (byD q)] ∧ r = .v (.string ⟨(outZ (blksZ v (padZ q n))).toArray⟩)) := by
 generalize hA : Ob.cells (stL v (.buf 1 q.length) n) = A
 generalize hBq : Ob.buf 5 1 (byD q) = B
 refine does_of_aw Tryz.func163 rfl (Nat.le_of_ble_eq_true rfl) hG fun hl0 _ => ?_
 simp only [Tryz.ntmps163]
 repeat' first
  | (refine ao1 rfl rfl fun K HK => ?_; refine aOp_larr (by first | rfl | (simp only [go_sem, go_sem]; rfl)) (by first | exact congrArg some hA.symm | (simp only [sM_0, sM_1, sM_2, sM_a0, sM_a1, sM_a2, sM_s2, sM_b2, sM_len, sM_last]; exact congrArg some hA.symm)) (getD_rS (by first | (simp only [go_sem]; rfl) | (simp only [go_sem]; done))) ?_; refine HK _ _ ?_; clear HK K)
  | (refine ao_appB rfl rfl rfl rfl (by first | rfl | (simp only [← hA, ← hBq]; done) | (simp only [← hA, ← hBq]; rfl)) (by simp) (by simp only [go_sem]; rfl) (by first | rfl | (simp only [← hA, ← hBq]; done) | (simp only [← hA, ← hBq]; rfl)) (by simp) (by first | assumption | exact rowsOk_nil _ | exact rowsOk_by _ | (simp [rowsOk, D.one, Value.oneCell']; done)) (by first | omega | (simp; done) | (simp; omega) | (simp [byD]; omega)) ?_)
  | refine aw_seq' ?_
  | refine aw_region' ?_
  | refine aw_block ?_
  | refine ao_nil ?_
  | (refine ao1 rfl rfl fun K HK => ?_; simp only [go_sem, ↓reduceIte, Nat.reduceEqDiff, Nat.reduceAdd, Nat.reduceLeDiff, Nat.reduceBEq, Nat.reduceMul, Int.reduceEq, Int.reduceLT, Int.reduceLE] <;> (refine HK _ _ ?_; clear HK K))
 refine aw_for (fun m e h' => ∃ (k : Nat) (cur : List UInt8) (T : List Ob), k ≤ zc q.length ∧ m = zc q.length - k ∧ cur = q ++ [128] ++ List.replicate k 0 ∧ h' = sM A B (.buf 5 1 (byD cur)) T ∧ e 0 = .ptr 0 0 ∧ e 3 = .buf 2 cur.length) (zc q.length) ⟨0, q ++ [128], [.buf 5 1 (byD [128])], Nat.zero_le _, rfl, by simp, ?_, rfl, ?_⟩ ?_
 · exact congrArg (fun x => [A, B, Ob.buf 5 1 x, .buf 5 1 [[.v (.int .u8 128)]]]) (by simp [byD] : byD q ++ [[D.v (.int .u8 128)]] = byD (q ++ [128]))
 · simp [upd]
 rintro m e h' ⟨k, cur, T, hk, rfl, hcur, rfl, e0, e3⟩
 have hcl : cur.length = q.length + 1 + k := by rw [hcur]; simp; omega
 have hz : zc q.length = (119 - q.length % 64) % 64 := rfl
 have wr : (cur.length : Int).tmod 64 = ((cur.length % 64 : Nat) : Int) := by rw [Int.tmod_eq_emod_of_nonneg (by omega)]; rfl
 by_cases hlt : k < zc q.length
 · skip
   repeat' first
    | refine aw_seq' ?_
    | refine aw_region' ?_
    | refine aw_block ?_
    | refine ao_nil ?_
    | (refine ao1 rfl rfl fun K HK => ?_; simp only [go_sem, ↓reduceIte, Nat.reduceEqDiff, Nat.reduceAdd, Nat.reduceLeDiff, Nat.reduceBEq, Nat.reduceMul, Int.reduceEq, Int.reduceLT, Int.reduceLE, e0, e3, wr, sM_0, sM_1, sM_2, sM_a0, sM_a1, sM_a2, sM_s2, sM_b2, sM_len, sM_last, sM_l, sM_sl, Int.reduceBEq]; (first | refine splitN (fun hq => ?_) (fun hq => ?_) | skip) <;> (refine HK _ _ ?_; clear HK K))
    | refine ao_appB rfl rfl rfl rfl (by (simp only [go_sem, ↓reduceIte, Nat.reduceEqDiff, Nat.reduceAdd, Nat.reduceLeDiff, Nat.reduceBEq, Nat.reduceMul, Int.reduceEq, Int.reduceLT, Int.reduceLE, e0, e3, wr, sM_0, sM_1, sM_2, sM_a0, sM_a1, sM_a2, sM_s2, sM_b2, sM_len, sM_last, sM_l, sM_sl, Int.reduceBEq]; rfl)) (by simp) (by simp only [go_sem]; rfl) (by (simp only [go_sem, ↓reduceIte, Nat.reduceEqDiff, Nat.reduceAdd, Nat.reduceLeDiff, Nat.reduceBEq, Nat.reduceMul, Int.reduceEq, Int.reduceLT, Int.reduceLE, e0, e3, wr, sM_0, sM_1, sM_2, sM_a0, sM_a1, sM_a2, sM_s2, sM_b2, sM_len, sM_last, sM_l, sM_sl, Int.reduceBEq]; rfl)) (by simp) (by (simp [rowsOk, D.one, Value.oneCell']; done)) (by (simp; omega)) ?_
    | refine aw_if1 rfl ?_
    | refine aw_if0 rfl ?_
    | refine aw_skip ?_
    | refine aw_exit ?_
    | refine thenS_n ?_
    | refine inB_n ?_
    | (exfalso; omega)
   · refine ⟨rfl, zc q.length - (k + 1), by omega, k + 1, cur ++ [0], T ++ [.buf 5 1 [[.v (.int .u8 0)]]], by omega, rfl, by rw [hcur]; simp [List.replicate_succ'], ?_, by simp [upd, e0], by simp [upd]⟩
     exact congrArg (fun x => sM A B (.buf 5 1 x) (T ++ [.buf 5 1 [[.v (.int .u8 0)]]])) (by simp [byD] : byD cur ++ [[D.v (.int .u8 0)]] = byD (cur ++ [0]))
   all_goals (exfalso; omega)
 have hkz : k = zc q.length := by omega
 have wn : IntKind.u64.wrap (n : Int) = (n : Int) := by rw [IntKind.wrap_u64]; omega
 have w8 : IntKind.u64.wrap ((n : Int) * 8) = ((8 * n : Nat) : Int) := by rw [IntKind.wrap_u64]; omega
 repeat' first
  | (refine ao1 rfl rfl fun K HK => ?_; refine aOp_larr (by first | rfl | (simp only [go_sem, e0, e3]; rfl)) (by first | exact congrArg some hA.symm | (simp only [sM_0, sM_1, sM_2, sM_a0, sM_a1, sM_a2, sM_s2, sM_b2, sM_len, sM_last]; exact congrArg some hA.symm)) (getD_nS (by first | (simp only [go_sem]; rfl) | (simp only [go_sem]; done))) ?_; refine HK _ _ ?_; clear HK K)
  | refine aw_seq' ?_
  | refine aw_region' ?_
  | refine aw_block ?_
  | refine ao_nil ?_
  | (refine ao1 rfl rfl fun K HK => ?_; simp only [go_sem, ↓reduceIte, Nat.reduceEqDiff, Nat.reduceAdd, Nat.reduceLeDiff, Nat.reduceBEq, Nat.reduceMul, Int.reduceEq, Int.reduceLT, Int.reduceLE, e0, e3, wr, wn, w8, sM_0, sM_1, sM_2, sM_a0, sM_a1, sM_a2, sM_s2, sM_b2, sM_len, sM_last, sM_l, sM_sl, Int.reduceBEq]; (first | refine splitN (fun hq => ?_) (fun hq => ?_) | skip) <;> (refine HK _ _ ?_; clear HK K))
  | refine ao_appB rfl rfl rfl rfl (by (simp only [go_sem, ↓reduceIte, Nat.reduceEqDiff, Nat.reduceAdd, Nat.reduceLeDiff, Nat.reduceBEq, Nat.reduceMul, Int.reduceEq, Int.reduceLT, Int.reduceLE, e0, e3, wr, wn, w8, sM_0, sM_1, sM_2, sM_a0, sM_a1, sM_a2, sM_s2, sM_b2, sM_len, sM_last, sM_l, sM_sl, Int.reduceBEq]; rfl)) (by simp) (by simp only [go_sem]; rfl) (by (simp only [go_sem, ↓reduceIte, Nat.reduceEqDiff, Nat.reduceAdd, Nat.reduceLeDiff, Nat.reduceBEq, Nat.reduceMul, Int.reduceEq, Int.reduceLT, Int.reduceLE, e0, e3, wr, wn, w8, sM_0, sM_1, sM_2, sM_a0, sM_a1, sM_a2, sM_s2, sM_b2, sM_len, sM_last, sM_l, sM_sl, Int.reduceBEq]; rfl)) (by simp) (by (simp [rowsOk, D.one, Value.oneCell']; done)) (by omega) ?_
  | refine aw_if1 rfl ?_
  | refine aw_if0 rfl ?_
  | refine aw_skip ?_
  | refine aw_exit ?_
  | refine thenS_n ?_
  | refine inB_n ?_
  | (exfalso; omega)
 rotate_left
 all_goals try (exfalso; omega)
 refine aw_for (fun m e h' => ∃ (j : Nat) (T : List Ob), j ≤ 8 ∧ m = 8 - j ∧ h' = sM A B (.buf 5 1 (byD (cur ++ (be8 (8 * n)).take j))) T ∧ e 0 = .ptr 0 0 ∧ e 3 = .buf 2 (cur.length + j) ∧ e 4 = .v (.int .u64 ((8 * n : Nat) : Int)) ∧ e 5 = .v (.int .i64 (56 - 8 * (j : Int)))) 8 ⟨0, T, by omega, rfl, by simp, by simp [upd, e0], by simp [upd, e3], rfl, rfl⟩ ?_
 clear hlt e0 e3 wr T e
 rintro m e h' ⟨j, T, hj, rfl, rfl, e0, e3, e4, e5⟩
 have hbl : (be8 (8 * n)).length = 8 := by simp [be8]
 have hcj : (cur ++ (be8 (8 * n)).take j).length = cur.length + j := by rw [List.length_append, List.length_take, hbl]; omega
 by_cases hlt : j < 8
 · have ws : decide ((0 : Int) ≤ 56 - 8 * (j : Int)) = true := decide_eq_true (by omega)
   have wt : (56 - 8 * (j : Int)).toNat = 56 - 8 * j := by omega
   have hv := be8_val (8 * n) (56 - 8 * j) (by omega)
   have w5 : IntKind.i64.wrap (56 - 8 * (j : Int) - 8) = 56 - 8 * ((j + 1 : Nat) : Int) := (IntWalk.i64_in _ (by omega)).trans (by omega)
   generalize hP : cur ++ (be8 (8 * n)).take j = P at hcj
   rw [← hcj] at e3
   repeat' first
    | refine aw_seq' ?_
    | refine aw_region' ?_
    | refine aw_block ?_
    | refine ao_nil ?_
    | (refine ao1 rfl rfl fun K HK => ?_; simp only [go_sem, ↓reduceIte, Nat.reduceEqDiff, Nat.reduceAdd, Nat.reduceLeDiff, Nat.reduceBEq, Nat.reduceMul, Int.reduceEq, Int.reduceLT, Int.reduceLE, e0, e3, e4, e5, ws, wt, hv, w5, sM_0, sM_1, sM_2, sM_a0, sM_a1, sM_a2, sM_s2, sM_b2, sM_len, sM_last, sM_l, sM_sl] <;> (refine HK _ _ ?_; clear HK K))
    | refine ao_appB rfl rfl rfl rfl (by (simp only [go_sem, ↓reduceIte, Nat.reduceEqDiff, Nat.reduceAdd, Nat.reduceLeDiff, Nat.reduceBEq, Nat.reduceMul, Int.reduceEq, Int.reduceLT, Int.reduceLE, e0, e3, e4, e5, ws, wt, hv, w5, sM_0, sM_1, sM_2, sM_a0, sM_a1, sM_a2, sM_s2, sM_b2, sM_len, sM_last, sM_l, sM_sl]; rfl)) (by simp) (by simp only [go_sem]; rfl) (by (simp only [go_sem, ↓reduceIte, Nat.reduceEqDiff, Nat.reduceAdd, Nat.reduceLeDiff, Nat.reduceBEq, Nat.reduceMul, Int.reduceEq, Int.reduceLT, Int.reduceLE, e0, e3, e4, e5, ws, wt, hv, w5, sM_0, sM_1, sM_2, sM_a0, sM_a1, sM_a2, sM_s2, sM_b2, sM_len, sM_last, sM_l, sM_sl]; rfl)) (by simp) (by (simp [rowsOk, D.one, Value.oneCell']; done)) (by (simp; omega)) ?_
    | refine aw_if1 rfl ?_
    | refine aw_skip ?_
    | refine thenS_n ?_
   · refine ⟨rfl, 8 - (j + 1), by omega, j + 1, T ++ [.buf 5 1 [[.v (.int .u8 ((UInt8.ofNat (8 * n / 2 ^ (56 - 8 * j))).toNat : Int))]]], by omega, rfl, ?_, by simp [upd, e0], ?_, by simp [upd, e4], rfl⟩
     · rw [be8_take (8 * n) hlt, ← List.append_assoc, hP]
       exact congrArg (fun x => sM A B (.buf 5 1 x) (T ++ [.buf 5 1 [[.v (.int .u8 ((UInt8.ofNat (8 * n / 2 ^ (56 - 8 * j))).toNat : Int))]]])) (by simp [byD] : byD P ++ [[D.v (.int .u8 ((UInt8.ofNat (8 * n / 2 ^ (56 - 8 * j))).toNat : Int))]] = byD (P ++ [UInt8.ofNat (8 * n / 2 ^ (56 - 8 * j))]))
     · simp [upd]; omega
   all_goals (exfalso; omega)
 have hj8 : j = 8 := by omega
 subst hj8
 have hP : cur ++ (be8 (8 * n)).take 8 = padZ q n := by
  rw [List.take_of_length_le (by omega), hcur, hkz]; rfl
 rw [hP] at hcj ⊢
 rw [← hcj] at e3
 have hPm := padZ_len q n
 have hPl : (padZ q n).length ≤ 200 := by rw [hcj, hcl]; omega
 generalize padZ q n = P at hPm hPl e3 ⊢
 have ws : decide ((0 : Int) ≤ 56 - 8 * ((8 : Nat) : Int)) = false := decide_eq_false (by omega)
 repeat' first
  | (refine ao1 rfl rfl fun K HK => ?_; refine aOp_larr (by first | rfl | (simp only [go_sem, e0, e3]; rfl)) (by first | exact congrArg some hA.symm | (simp only [sM_0, sM_1, sM_2, sM_a0, sM_a1, sM_a2, sM_s2, sM_b2, sM_len, sM_last]; exact congrArg some hA.symm)) (getD_wS (by first | (simp only [go_sem]; rfl) | (simp only [go_sem]; done)) (by first | (simp only [go_sem]; rfl) | (simp only [go_sem]; done))) ?_; refine HK _ _ ?_; clear HK K)
  | (refine ao1' rfl fun K HK => ?_; refine aOp_stv (by first | rfl | (simp only [go_sem, e0]; rfl)) (by (simp only [go_sem, ↓reduceIte, Nat.reduceEqDiff, Nat.reduceAdd, Nat.reduceLeDiff, Nat.reduceBEq, Nat.reduceMul, Int.reduceEq, Int.reduceLT, Int.reduceLE, e0, e3, e4, e5, ws, sM_0, sM_1, sM_2, sM_a0, sM_a1, sM_a2, sM_s2, sM_b2, sM_len, sM_last, sM_l, sM_sl]; rfl)) rfl (by first | (simp only [go_sem]; rfl) | (simp only [go_sem]; done)) rfl ?_; refine HK _ _ ?_; clear HK K)
  | refine aw_seq' ?_
  | refine aw_region' ?_
  | refine aw_block ?_
  | refine ao_nil ?_
  | (refine ao1 rfl rfl fun K HK => ?_; simp only [go_sem, ↓reduceIte, Nat.reduceEqDiff, Nat.reduceAdd, Nat.reduceLeDiff, Nat.reduceBEq, Nat.reduceMul, Int.reduceEq, Int.reduceLT, Int.reduceLE, e0, e3, e4, e5, ws, sM_0, sM_1, sM_2, sM_a0, sM_a1, sM_a2, sM_s2, sM_b2, sM_len, sM_last, sM_l, sM_sl] <;> (refine HK _ _ ?_; clear HK K))
  | refine aw_if0 rfl ?_
  | refine aw_exit ?_
 all_goals try (exfalso; omega)
 refine aw_give 2 3 ?_
 refine aw_for (fun m e h' => ∃ (v' : W8) (c : List UInt8), m = c.length ∧ c.length % 64 = 0 ∧ c.length ≤ 200 ∧ blksZ v' c = blksZ v P ∧ h' = sM A B .dead (T ++ [.cells (v'.ls.map zD)]) ∧ e 3 = .sl 1 (byD c) ∧ e 6 = .ptr (T.length + 3) 0) P.length ⟨v, P, rfl, hPm, hPl, rfl, ?_, ?_, ?_⟩ ?_
 · simp [sM]
 · simp [upd, e3, cvD, cv1, sM]
 · simp [upd]
 clear e0 e3 e4 e5 ws hlt e
 rintro m e h' ⟨v', c, rfl, hm, hcl2, hB, rfl, e3, e6⟩
 by_cases h0 : 0 < c.length
 · have h64 : 64 ≤ c.length := by omega
   have hl64 : (c.take 64).length = 64 := by rw [List.length_take]; omega
   repeat' first
    | (refine aS1 rfl rfl fun K HK => ?_; refine aOp_supto64 (c := c) (by first | rfl | (simp only [go_sem, e3, e6]; rfl)) (by simp only [go_sem, Option.bind_some]) h64 ?_; refine HK _ _ rfl ?_; clear HK K)
    | (refine ao1 rfl rfl fun K HK => ?_; refine aOp_sfrom64 (c := c) (by first | rfl | (simp only [go_sem, e3, e6]; rfl)) (by simp only [go_sem, Option.bind_some]) h64 ?_; refine HK _ _ ?_; clear HK K)
    | (refine aS_load rfl rfl (by first | rfl | (simp only [go_sem, e3, e6]; rfl)) (by (simp only [go_sem, ↓reduceIte, Nat.reduceEqDiff, Nat.reduceAdd, Nat.reduceLeDiff, Nat.reduceBEq, Nat.reduceMul, Int.reduceEq, Int.reduceLT, Int.reduceLE, e3, e6, sM_0, sM_1, sM_2, sM_a0, sM_a1, sM_a2, sM_s2, sM_b2, sM_len, sM_last, sM_l, sM_sl]; rfl)) (getD_ws (by first | (simp only [go_sem]; rfl) | (simp only [go_sem]; done)) (by first | (simp only [go_sem]; rfl) | (simp only [go_sem]; done))) ?_)
    | (refine aS_store (es := (blkZ v' (c.take 64)).ls.map zD) rfl (by first | rfl | (simp only [go_sem, e3, e6]; rfl)) (by (simp only [go_sem, ↓reduceIte, Nat.reduceEqDiff, Nat.reduceAdd, Nat.reduceLeDiff, Nat.reduceBEq, Nat.reduceMul, Int.reduceEq, Int.reduceLT, Int.reduceLE, e3, e6, sM_0, sM_1, sM_2, sM_a0, sM_a1, sM_a2, sM_s2, sM_b2, sM_len, sM_last, sM_l, sM_sl]; rfl)) rfl (by rw [all_zs]; simp only [go_sem]; rfl) (by simp [W8.ls]) ?_)
    | refine aw_seq' ?_
    | refine aw_region' ?_
    | refine aw_block ?_
    | refine ao_nil ?_
    | ((first | refine ao1 rfl rfl fun K HK => ?_ | refine aS1 rfl rfl fun K HK => ?_); simp only [go_sem, ↓reduceIte, Nat.reduceEqDiff, Nat.reduceAdd, Nat.reduceLeDiff, Nat.reduceBEq, Nat.reduceMul, Int.reduceEq, Int.reduceLT, Int.reduceLE, e3, e6, sM_0, sM_1, sM_2, sM_a0, sM_a1, sM_a2, sM_s2, sM_b2, sM_len, sM_last, sM_l, sM_sl]; (first | refine splitB (fun hq => ?_) (fun hq => ?_) | skip) <;> ((first | refine HK _ _ ?_ | refine HK _ _ rfl ?_); clear HK K))
    | (refine aw_drawE mixd (by kernel_rfl) ?_)
    | refine aS_nil (by simp only [List.reverse_cons, List.reverse_nil, List.nil_append, List.cons_append, chkAll, chk1]; repeat' (first | exact trivial | refine And.intro ?_ ?_ | exact .inr compat_pl | exact .inr compat_pr | exact .inl (by kernel_rfl))) ?_
    | refine aS_call0 rfl rfl rfl ent_182 (fun h2 => block_d G hG v' (c.take 64) hl64 hK _) ?_
    | refine aw_if1 rfl ?_
    | refine aw_if0 rfl ?_
    | refine aw_skip ?_
    | refine aw_exit ?_
    | refine thenS_n ?_
    | (exfalso; omega)
   exact ⟨rfl, (c.drop 64).length, by simp; omega, blkZ v' (c.take 64), c.drop 64, rfl, by simp; omega, by simp; omega, by rw [← blksZ_ge h64]; exact hB, rfl, rfl, by simp [upd, e6]⟩
 obtain rfl : c = [] := List.eq_nil_of_length_eq_zero (by omega)
 rw [blksZ_lt (by simp)] at hB
 subst hB
 generalize blksZ v P = v'
 repeat' first
  | (refine ao_make0 (m := 32) (el := 5) (k := 1) (by' := 1) (zs := [.v (.int .u8 0)]) rfl rfl rfl rfl (by simp only [go_sem]) (by kernel_rfl) rfl (by decide) (by decide) ?_)
  | (refine ao1 rfl rfl fun K HK => ?_; refine aOp_larr (by first | rfl | (simp only [go_sem, e3, e6]; rfl)) (by (simp only [go_sem, ↓reduceIte, Nat.reduceEqDiff, Nat.reduceAdd, Nat.reduceLeDiff, Nat.reduceBEq, Nat.reduceMul, Int.reduceEq, Int.reduceLT, Int.reduceLE, e3, e6, sM_0, sM_1, sM_2, sM_a0, sM_a1, sM_a2, sM_s2, sM_b2, sM_len, sM_last, sM_l, sM_sl, sM_ma, sM_m]; rfl)) (getD_ws (by first | (simp only [go_sem]; rfl) | (simp only [go_sem]; done)) (by first | (simp only [go_sem]; rfl) | (simp only [go_sem]; done))) ?_; refine HK _ _ ?_; clear HK K)
  | refine aw_seq' ?_
  | refine aw_region' ?_
  | refine aw_block ?_
  | refine ao_nil ?_
  | ((first | refine ao1 rfl rfl fun K HK => ?_ | refine aq1 rfl rfl fun K HK => ?_); simp only [go_sem, ↓reduceIte, Nat.reduceEqDiff, Nat.reduceAdd, Nat.reduceLeDiff, Nat.reduceBEq, Nat.reduceMul, Int.reduceEq, Int.reduceLT, Int.reduceLE, e3, e6, sM_0, sM_1, sM_2, sM_a0, sM_a1, sM_a2, sM_s2, sM_b2, sM_len, sM_last, sM_l, sM_sl, sM_ma, sM_m]; (first | refine splitB (fun hq => ?_) (fun hq => ?_) | skip) <;> (refine HK _ _ ?_; clear HK K))
  | (refine aw_draw mixd (by kernel_rfl) ?_)
  | refine aw_if1 rfl ?_
  | refine aw_if0 rfl ?_
  | refine aw_skip ?_
  | refine aw_exit ?_
  | (exfalso; omega)
 generalize hT2 : T ++ [Ob.cells (v'.ls.map zD)] = T2
 refine aw_for (fun m e h' => ∃ (k : Nat) (out : List UInt8) (U : List Ob), k ≤ 8 ∧ m = 8 - k ∧ out = ((v'.ls.take k).map outW).flatten ∧ h' = sM A B .dead (T2 ++ .buf 5 1 (byD out) :: U) ∧ e 7 = .buf (T2.length + 3) out.length ∧ e 56 = .agg (v'.ls.map zD) ∧ e 57 = .v (.int .i64 k)) 8 ⟨0, [], [], by omega, rfl, rfl, rfl, ?_, ?_, rfl⟩ ?_
 · simp [upd, ← hT2, sM]
 · simp [upd]
 clear e3 e6 e
 rintro m e h' ⟨k, out, U, hk8, rfl, ho, rfl, e7, e56, e57⟩
 have hvl : v'.ls.length = 8 := rfl
 have hol : out.length = 4 * k := by
  rw [ho, List.length_flatten, List.map_map]
  have : ∀ l : List Int, (l.map (List.length ∘ outW)).sum = 4 * l.length := fun l => by
   induction l with
   | nil => rfl
   | cons a t ih => rw [List.map_cons, List.sum_cons, ih]; simp [outW]; omega
  rw [this, List.length_take, hvl]; omega
 by_cases h0 : k < 8
 · have hz : v'.ls[k]? = some (v'.ls[k]'(by omega)) := List.getElem?_eq_getElem (by omega)
   generalize (v'.ls[k]'(by omega)) = z at hz
   have wk : IntKind.i64.wrap ((k : Int) + 1) = ((k + 1 : Nat) : Int) := IntWalk.i64_in _ (by omega)
   repeat' first
    | (refine ao1 rfl rfl fun K HK => ?_; refine aOp_ind8 (by first | rfl | (simp only [go_sem, e7, e56, e57]; rfl)) (by first | rfl | (simp only [go_sem, e7, e56, e57]; rfl)) (by first | (simp only [go_sem]; rfl) | (simp only [go_sem]; done)) (by first | (simp only [go_sem]; rfl) | (simp only [go_sem]; done)) (by first | (simp only [go_sem]; rfl) | (simp only [go_sem]; done)) (by omega) hz ?_; refine HK _ _ ?_; clear HK K)
    | refine aw_seq' ?_
    | refine aw_region' ?_
    | refine aw_block ?_
    | refine ao_nil ?_
    | (refine ao1 rfl rfl fun K HK => ?_; simp only [go_sem, ↓reduceIte, Nat.reduceEqDiff, Nat.reduceAdd, Nat.reduceLeDiff, Nat.reduceBEq, Nat.reduceMul, Int.reduceEq, Int.reduceLT, Int.reduceLE, e7, e56, e57, wk, sM_0, sM_1, sM_2, sM_a0, sM_a1, sM_a2, sM_s2, sM_b2, sM_len, sM_last, sM_l, sM_sl, sM_m, sM_ma, sM_ms, sM_mas, sM_mll]; (first | refine splitB (fun hq => ?_) (fun hq => ?_) | skip) <;> (refine HK _ _ ?_; clear HK K))
    | refine ao_appB rfl rfl rfl rfl (by (simp only [go_sem, ↓reduceIte, Nat.reduceEqDiff, Nat.reduceAdd, Nat.reduceLeDiff, Nat.reduceBEq, Nat.reduceMul, Int.reduceEq, Int.reduceLT, Int.reduceLE, e7, e56, e57, wk, sM_0, sM_1, sM_2, sM_a0, sM_a1, sM_a2, sM_s2, sM_b2, sM_len, sM_last, sM_l, sM_sl, sM_m, sM_ma, sM_ms, sM_mas, sM_mll]; rfl)) (by simp) (by simp only [go_sem]; rfl) (by (simp only [go_sem, ↓reduceIte, Nat.reduceEqDiff, Nat.reduceAdd, Nat.reduceLeDiff, Nat.reduceBEq, Nat.reduceMul, Int.reduceEq, Int.reduceLT, Int.reduceLE, e7, e56, e57, wk, sM_0, sM_1, sM_2, sM_a0, sM_a1, sM_a2, sM_s2, sM_b2, sM_len, sM_last, sM_l, sM_sl, sM_m, sM_ma, sM_ms, sM_mas, sM_mll]; rfl)) (by simp) (by (simp [rowsOk, D.one, Value.oneCell']; done)) (by (simp; omega)) ?_
    | refine aw_if1 rfl ?_
    | refine aw_if0 rfl ?_
    | refine aw_skip ?_
    | refine aw_exit ?_
    | refine thenS_n ?_
    | (exfalso; omega)
   refine ⟨rfl, 8 - (k + 1), by omega, k + 1, out ++ outW z, _, by omega, rfl, ?_, congrArg (fun x => sM A B .dead (T2 ++ .buf 5 1 x :: (U ++ [_]))) (?_ : byD out ++ _ = _), ?_, ?_, rfl⟩
   · rw [ho, List.take_add_one, hz]; simp
   · rw [outW_rows]; simp [byD]
   · simp [upd, outW]
   · simp [upd, e56]
 have hk88 : k = 8 := by omega
 subst hk88
 have hoz : out = outZ v' := by rw [ho]; rfl
 repeat' first
  | (refine ao1 rfl rfl fun K HK => ?_; refine aOp_bst (bs := out) (by simp only [go_sem, e7]; rfl) sM_m rfl (by simp only [go_sem]) (by simp only [go_sem]) ?_; refine HK _ _ ?_; clear HK K)
  | refine aw_seq' ?_
  | refine aw_region' ?_
  | refine aw_block ?_
  | refine ao_nil ?_
  | (refine ao1 rfl rfl fun K HK => ?_; simp only [go_sem, ↓reduceIte, Nat.reduceEqDiff, Nat.reduceAdd, Nat.reduceLeDiff, Nat.reduceBEq, Nat.reduceMul, Int.reduceEq, Int.reduceLT, Int.reduceLE, e7, e56, e57, sM_0, sM_1, sM_2, sM_a0, sM_a1, sM_a2, sM_s2, sM_b2, sM_len, sM_last, sM_l, sM_sl, sM_m, sM_ma, sM_ms, sM_mas, sM_mll]; (first | refine splitB (fun hq => ?_) (fun hq => ?_) | skip) <;> (refine HK _ _ ?_; clear HK K))
  | refine aw_if1 rfl ?_
  | refine aw_if0 rfl ?_
  | refine aw_skip ?_
  | refine aw_exit ?_
  | refine aw_ret ?_
  | (exfalso; omega)
 rw [hoz]
 exact ⟨.inr rfl, endX [.v (.string ⟨(outZ v').toArray⟩)] [A, B] (.dead :: (T2 ++ .buf 5 1 (byD (outZ v')) :: U)) (.v (.string ⟨(outZ v').toArray⟩)) rfl rfl (Nat.le_refl _) hl0 (by rw [low]; trivial) rfl ⟨rfl, rfl⟩⟩
theorem shaSum (b : List UInt8) (hb : b.length ≤ 100000000) (hK : G 1 = .rp (shaK.map zD)) (h : List Ob) : Does Tryz.prog G 141 h [.sl 1 (byD b)] (fun h' r => h' = h ∧ r = .v (.string ⟨(sumZ b).toArray⟩)) := by
 refine does_any G hG (by rw [lowL, lowL]; exact ⟨low_by _ _, trivial⟩) (by rw [low]; trivial) ?_ h
 rw [sumZ_cut]
 refine does_of_aw Tryz.func141 rfl (Nat.le_of_ble_eq_true rfl) hG fun hl0 _ => ?_
 simp only [Tryz.ntmps141]
 repeat' first
  | refine aw_seq' ?_
  | refine aw_region' ?_
  | refine ao_nil ?_
  | (refine ao1 rfl rfl fun K HK => ?_; simp only [go_sem, ↓reduceIte, Nat.reduceEqDiff, Nat.reduceAdd, Nat.reduceLeDiff, Nat.reduceBEq, Nat.reduceMul, Int.reduceEq, Int.reduceLT, Int.reduceLE] <;> (refine HK _ _ ?_; clear HK K))
  | (refine ao2 rfl rfl rfl ent_161 (shNew0 G hG) ?_; rintro _ _ ⟨rfl, rfl⟩)
  | (refine ao2 rfl rfl rfl ent_162 (shWrite0 G hG b hb hK) ?_; rintro _ _ ⟨rfl, rfl⟩)
  | (refine ao2 rfl rfl rfl ent_163 (shSum0 G hG _ (restZ b) b.length (restZ_len b) hb hK) ?_; rintro _ _ ⟨rfl, rfl⟩)
  | refine aw_ret ?_
 exact ⟨.inr rfl, endD (r := .v (.string ⟨(outZ (blksZ (blksZ shaIV b) (padZ (restZ b) b.length))).toArray⟩)) hl0 rfl (by simp) (by simp) rfl (by rw [low]; trivial) ⟨rfl, rfl⟩⟩
theorem digest_d (b : List UInt8) (hb : b.length ≤ 100000000) (hK : G 1 = .rp (shaK.map zD)) (h : List Ob) : Does Tryz.prog G 115 h [.sl 1 (byD b)] (fun h' r => h' = h ∧ r = .sl 1 (byD (sumZ b))) := by
 refine does_any G hG (by rw [lowL, lowL]; exact ⟨low_by _ _, trivial⟩) (low_by _ _) ?_ h
 refine does_of_aw Tryz.func115 rfl (Nat.le_of_ble_eq_true rfl) hG fun hl0 _ => ?_
 simp only [Tryz.ntmps115]
 repeat' first
  | (refine ao1 rfl rfl fun K HK => ?_; refine aOp_cvs rfl (by simp only [go_sem]) (by kernel_rfl) (by rw [sumZ_len]; decide) ?_; refine HK _ _ ?_; clear HK K)
  | refine aw_seq' ?_
  | refine aw_region' ?_
  | refine ao_nil ?_
  | (refine ao1 rfl rfl fun K HK => ?_; simp only [go_sem, ↓reduceIte, Nat.reduceEqDiff, Nat.reduceAdd, Nat.reduceLeDiff, Nat.reduceBEq, Nat.reduceMul, Int.reduceEq, Int.reduceLT, Int.reduceLE] <;> (refine HK _ _ ?_; clear HK K))
  | (refine ao2 rfl rfl rfl ent_141 (shaSum G hG b hb hK _) ?_; rintro _ _ ⟨rfl, rfl⟩)
  | refine aw_ret ?_
 exact ⟨.inr rfl, endD (r := .sl 1 (byD (sumZ b))) hl0 rfl (by simp) (by simp) rfl (low_by _ _) ⟨rfl, rfl⟩⟩
end
end Go.Proofs.YtgkjcmglcnhpaaaGreatDoor
