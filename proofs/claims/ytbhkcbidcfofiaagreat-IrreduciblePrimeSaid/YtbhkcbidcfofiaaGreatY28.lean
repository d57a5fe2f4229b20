/-
  What the statements of the chapter share, part 28: QA7.
-/
import Derived.Test.YtbhkcbidcfofiaaGreatY14
import Derived.Test.YtbhkcbidcfofiaaGreatY26
import Derived.Test.YtbhkcbidcfofiaaGreatY27
set_option linter.unusedVariables false
set_option linter.unusedSimpArgs false
set_option maxRecDepth 100000
set_option maxHeartbeats 8000000
namespace Go.Proofs.YtbhkcbidcfofiaaGreat
open Go.RowKit
section
attribute [local irreducible] on aOp
attribute [local go_sem] decide_true decide_false Bool.not_true Bool.not_false
attribute [local simp] byD_len
theorem ao_mkf {P : Program} {G : Nat → D} {n : Nat} {e : Nat → D} {h : List Ob} {ops : Array Oper} {rest : List Oper} {Q : S → Prop} {t : Nat} {ty : TypeId} {pos : String} {aft : Array Edge} {gd : Option (Nat × Bool)} {f : FuncId} {caps : Array Operand} (hw : Yg ops gd e = some true) (ht : decide (t < n) = true)
 (q : ao P G ops rest Q ⟨n, upd e t (.fn f (caps.toList.map (ev G e))), h⟩) : ao P G ops (⟨some t, .makeFunc (.func f) #[] caps, ty, pos, aft, gd⟩ :: rest) Q ⟨n, e, h⟩ := by
 refine ao_tri hw tri_mkf ?_
 unfold putE
 simp only [if_pos (of_decide_eq_true ht)]
 exact q
theorem min_ov (x : Int) : (if 1000000000000001 < x then (1000000000000001 : Int) else x) = min x ov := by unfold ov; omega
variable (G : Nat → D) (hG : ∀ g, low 0 (G g))
attribute [local go_sem] Int.reduceEq Int.reduceLE Int.reduceLT Int.toNat_natCast Int.zero_add List.length_map Nat.reduceAdd Nat.reduceBEq Nat.reduceEqDiff Nat.reduceLeDiff Nat.reduceMul
attribute [local go_sem ↓] reduceIte
theorem add_d2 {h : List Ob} {i : Nat} {m : Int} (hm : 0 ≤ m ∧ m ≤ 9223372036854775807) (hi : h[i]? = some (.cells [.v (.int .i64 0)])) : Does Tryz.prog G 117 h [.v (.int .i64 m), .ptr i 0] (fun h' r => h' = h.set i (.cells [.v (.int .i64 (min m ov))]) ∧ r = .tup []) := by
 have wa : IntKind.i64.wrap m = m := IntWalk.i64_in _ (by omega)
 rw [← min_ov]
 refine Vo Tryz.func117 rfl (Nat.le_of_ble_eq_true rfl) ?_
 simp only [Tryz.ntmps117]
 have F : _ ∧ _ := ⟨hi, wa⟩
 repeat' first
  | (with_reducible refine Yc ?_; refine Yd ?_)
  | (with_reducible refine Y7 ?_; (refine ao_min rfl rfl rfl rfl ?_))
  | refine g0 ?_
  | fail
 all_goals exact ⟨by simp, [], rfl, rfl, rfl⟩
def n3 (A B C : Ob) (T : List Ob) : List Ob := A :: B :: C :: T
section
variable {A B C y y' : Ob} {T l : List Ob}
theorem n3_0 : (n3 A B C T)[0]? = some A := rfl
theorem n3_1 : (n3 A B C T)[1]? = some B := rfl
theorem n3_2 : (n3 A B C T)[2]? = some C := rfl
theorem n3_s2 : (n3 A B C T).set 2 y = n3 A B y T := rfl
theorem Yg9 : (n3 A B C T).length = T.length + 3 := rfl
theorem Yh0 : n3 A B C T ++ l = n3 A B C (T ++ l) := rfl
theorem n3_l : (n3 A B C (T ++ [y]))[T.length + 3]? = some y := by simp [n3]
theorem n3_sl : (n3 A B C (T ++ [y])).set (T.length + 3) y' = n3 A B C (T ++ [y']) := by simp [n3]
end
include hG
attribute [local go_sem] n3_0 n3_1 n3_2 Yh0 n3_l Yg9 n3_s2 n3_sl
end
end Go.Proofs.YtbhkcbidcfofiaaGreat
