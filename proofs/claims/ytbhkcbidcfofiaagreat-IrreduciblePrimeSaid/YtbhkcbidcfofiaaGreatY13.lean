/-
  What the statements of the chapter share, part 13: CX.
-/
import Derived.Test.YtbhkcbidcfofiaaGreatY10
import Derived.Test.YtbhkcbidcfofiaaGreatY12
import Derived.Laws.Externs
set_option linter.unusedVariables false
set_option linter.unusedSimpArgs false
set_option maxRecDepth 100000
set_option maxHeartbeats 8000000
namespace Go.Proofs.YtbhkcbidcfofiaaGreat
open _root_.Nat renaming le_of_ble_eq_true → Z0
open _root_.Go.Proofs.Tryz renaming prog → Z1
open Go.RowKit
section
attribute [local irreducible] on aOp
attribute [local go_sem] decide_true decide_false Bool.not_true Bool.not_false
attribute [local simp] byD_len
theorem cmpX : CmpX Z1 242 := fun a b w => by
 rw [run_callFunc_extern (e := Extern.BytealgCompare.compare) Tryz.func242 (by kernel_rfl) (by kernel_rfl) (by kernel_rfl) (by kernel_rfl)]
 rw [Lib.run_compareString]; rfl
theorem loadD_bp {P : Program} {h : List Ob} {t e k i n r j : Nat} {xs : List (List D)} {row : List D} (hi : h[i]? = some (.buf e k xs)) (hn : xs.length = n) (hr : xs[r]? = some row) : Zb1 P h t (.bp i n r j) = getD P t row j := by
 simp only [Zb1, hi, hr, if_pos hn, Option.bind_some]
def cmpI (a b : Int) : Int := if a < b then -1 else if b < a then 1 else 0
def orI : List Int → Int
 | [] => 0
 | x :: t => if x = 0 then orI t else x
def intX (x : Int) : List D := [.v (.int .i64 x)]
theorem intX_eq (x : Int) : intX x = [.v (.int .i64 x)] := rfl
variable (G : Nat → D) (hG : ∀ g, low 0 (G g))
include hG
attribute [local go_sem] Int.reduceEq Int.reduceLE Int.reduceLT Int.toNat_natCast List.length_map Nat.reduceAdd Nat.reduceBEq Nat.reduceEqDiff Nat.reduceLeDiff Nat.reduceMul intX_eq
attribute [local go_sem ↓] reduceIte
theorem isNaN_d (a : Int) (h : List Ob) : Does Z1 G 243 h [.v (.int .i64 a)] (fun h' r => h' = h ∧ r = .v (.bool false)) := by
 refine Y6 Tryz.func243 rfl (Z0 rfl) hG fun hl0 _ => ?_
 simp only [Tryz.ntmps243]
 repeat' first
  | refine sA rfl ?_
  | refine Yn ?_
  | (refine ao1 rfl rfl fun K HK => ?_; simp only [go_sem] <;> (refine HK _ _ ?_; clear HK K))
 all_goals first
 | exact ⟨by simp, endV hl0 rfl rfl ⟨rfl, rfl⟩⟩
 | (exfalso; simp at *; done)
theorem cmpInt_d (a b : Int) (h : List Ob) : Does Z1 G 215 h [.v (.int .i64 a), .v (.int .i64 b)] (fun h' r => h' = h ∧ r = .v (.int .i64 (cmpI a b))) := by
 refine Y6 Tryz.func215 rfl (Z0 rfl) hG fun hl0 _ => ?_
 simp only [Tryz.ntmps215]
 repeat' first
  | refine sA rfl ?_ | refine sI rfl rfl ?_ | refine sT rfl ?_
  | refine Yn ?_
  | (refine ao1 rfl rfl fun K HK => ?_; simp only [go_sem]; (first | refine Ym (fun hq => ?_) (fun hq => ?_) | skip) <;> (refine HK _ _ ?_; clear HK K))
  | (refine ao2 rfl rfl rfl ent_243 (isNaN_d G hG _ _) ?_; rintro _ _ ⟨rfl, rfl⟩)
 all_goals
  refine ⟨by simp, endV hl0 rfl rfl ⟨rfl, ?_⟩⟩
  unfold cmpI
  simp [*]
theorem bcmp_d (a b : ByteArray) (h : List Ob) : Does Z1 G 214 h [.v (.string a), .v (.string b)] (fun h' r => h' = h ∧ r = .v (.int .i64 (Lib.compareBytes a.data.toList b.data.toList))) := by
 refine Y6 Tryz.func214 rfl (Z0 rfl) hG fun hl0 _ => ?_
 simp only [Tryz.ntmps214]
 have X : ExtTri Z1 242 [.v (.string a), .v (.string b)] (.v (.int .i64 (Lib.compareBytes a.data.toList b.data.toList))) := fun w hd h2 W vs hv => by
  rw [rdL] at hv; obtain ⟨u, t, rfl, h3, hv⟩ := hv
  rw [rdL] at hv; obtain ⟨u2, t, rfl, h4, hv⟩ := hv
  rw [rdL] at hv; subst hv
  rw [rd] at h3 h4; subst h3; subst h4
  exact ⟨_, cmpX _ _ w, by rw [rd]⟩
 repeat' first
  | (refine ao_tri rfl (tri_of_ext (cap := []) (xs := [.v (.string a), .v (.string b)]) X) ?_)
  | refine sA rfl ?_
  | refine Yn ?_
  | (refine ao1 rfl rfl fun K HK => ?_; simp only [go_sem] <;> (refine HK _ _ ?_; clear HK K))
 all_goals exact ⟨by simp, endV hl0 rfl rfl ⟨rfl, rfl⟩⟩
theorem scmp_d (a b : ByteArray) (h : List Ob) : Does Z1 G 153 h [.v (.string a), .v (.string b)] (fun h' r => h' = h ∧ r = .v (.int .i64 (Lib.compareBytes a.data.toList b.data.toList))) := by
 refine Y6 Tryz.func153 rfl (Z0 rfl) hG fun hl0 _ => ?_
 simp only [Tryz.ntmps153]
 repeat' first
  | refine sA rfl ?_
  | refine Yn ?_
  | (refine ao1 rfl rfl fun K HK => ?_; simp only [go_sem] <;> (refine HK _ _ ?_; clear HK K))
  | (refine ao2 rfl rfl rfl ent_214 (bcmp_d G hG _ _ _) ?_; rintro _ _ ⟨rfl, rfl⟩)
 all_goals exact ⟨by simp, endV hl0 rfl rfl ⟨rfl, rfl⟩⟩
theorem or_b (l : List Int) (hl : l.length ≤ 1000) (h : List Ob) (i : Nat) (hi : h[i]? = some (.buf 3 1 (l.map intX))) : Does Z1 G 88 h [.buf i l.length] (fun h' r => h' = h ∧ r = .v (.int .i64 (orI l))) := by
 refine Y6 Tryz.func88 rfl (Z0 rfl) hG fun hl0 _ => ?_
 simp only [Tryz.ntmps88]
 repeat' first
  | refine sA rfl ?_
  | refine Yn ?_
  | (refine ao1 rfl rfl fun K HK => ?_; simp only [go_sem, hi] <;> (refine HK _ _ ?_; clear HK K))
 refine Yh (fun m e h' => ∃ k : Nat, k ≤ l.length ∧ m = l.length - k ∧ orI l = orI (l.drop k) ∧ h' = h ∧ e 3 = .v (.int .i64 0) ∧ e 6 = .buf i l.length ∧ e 7 = .v (.int .i64 l.length) ∧ e 8 = .v (.int .i64 k)) l.length ⟨0, Nat.zero_le _, rfl, rfl, rfl, rfl, rfl, rfl, rfl⟩ ?_
 rintro m e h' ⟨k, hk, rfl, ho, rfl, e3, e6, e7, e8⟩
 by_cases hlt : k < l.length
 · have hx : l[k]? = some l[k] := List.getElem?_eq_getElem hlt
   have hd : l.drop k = l[k] :: l.drop (k + 1) := List.drop_eq_getElem_cons hlt
   generalize l[k] = x at hx hd
   have wk : IntKind.i64.wrap ((k : Int) + 1) = (k : Int) + 1 := IntWalk.i64_in _ (by omega)
   rw [hd, orI] at ho
   have hrow : (l.map intX)[k]? = some [.v (.int .i64 x)] := by rw [List.getElem?_map, hx]; rfl
   repeat' first
    | (refine ao1 rfl rfl fun K HK => ?_; simp only [go_sem, e6, e8]; refine ⟨_, _, _, hi, by simp, by simp only [go_sem], by omega, by omega, ?_⟩; refine HK _ _ ?_; clear HK K)
    | refine sA rfl ?_ | refine sI rfl rfl ?_ | refine sT rfl ?_ | refine sB rfl ?_
    | refine Yn ?_
    | (refine ao1 rfl rfl fun K HK => ?_; simp only [go_sem, hi, e3, e6, e7, e8, wk, loadD_bp hi (List.length_map _) hrow]; (first | refine Ym (fun hq => ?_) (fun hq => ?_) | refine Ze5 (fun hq => ?_) (fun hq => ?_) | skip) <;> (refine HK _ _ ?_; clear HK K))
    | (exfalso; omega)
   · exact ⟨rfl, l.length - (k + 1), by omega, k + 1, hlt, rfl, by rw [ho, if_pos hq], rfl, e3, e6, e7, rfl⟩
   · exact ⟨by simp, endV hl0 rfl rfl ⟨rfl, by rw [ho, if_neg hq]⟩⟩
 · skip
   repeat' first
    | refine sA rfl ?_ | refine sI rfl rfl ?_
    | refine Yn ?_
    | (refine ao1 rfl rfl fun K HK => ?_; simp only [go_sem, hi, e3, e6, e7, e8]; (first | refine Ym (fun hq => ?_) (fun hq => ?_) | skip) <;> (refine HK _ _ ?_; clear HK K))
    | (exfalso; omega)
   exact ⟨by simp, endV hl0 rfl rfl ⟨rfl, by rw [ho, List.drop_eq_nil_of_le (by omega)]; rfl⟩⟩
end
end Go.Proofs.YtbhkcbidcfofiaaGreat
