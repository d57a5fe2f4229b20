/-
  What the statements of the chapter share, part 30: QA10.
-/
import Derived.Test.YtbhkcbidcfofiaaGreatY14
import Derived.Test.YtbhkcbidcfofiaaGreatY16
import Derived.Test.YtbhkcbidcfofiaaGreatY25
import Derived.Test.YtbhkcbidcfofiaaGreatY27
import Derived.Test.YtbhkcbidcfofiaaGreatY29
set_option linter.unusedVariables false
set_option linter.unusedSimpArgs false
set_option maxRecDepth 100000
set_option maxHeartbeats 8000000
namespace Go.Proofs.YtbhkcbidcfofiaaGreat
open Go.RowKit
section
attribute [local irreducible] on aOp
attribute [local go_sem] decide_true decide_false Bool.not_true Bool.not_false
attribute [local simp] byD_len
section
variable {P : Program} {G : Nat → D} {n : Nat} {e : Nat → D} {h : List Ob}
end
def sM6 (A Z V P B C : Ob) (T : List Ob) : List Ob := A :: Z :: V :: P :: B :: C :: T
section
variable {A Z V P B C y y' : Ob} {T l : List Ob}
theorem sM6_0 : (sM6 A Z V P B C T)[0]? = some A := rfl
theorem sM6_1 : (sM6 A Z V P B C T)[1]? = some Z := rfl
theorem sM6_2 : (sM6 A Z V P B C T)[2]? = some V := rfl
theorem sM6_3 : (sM6 A Z V P B C T)[3]? = some P := rfl
theorem sM6_4 : (sM6 A Z V P B C T)[4]? = some B := rfl
theorem sM6_5 : (sM6 A Z V P B C T)[5]? = some C := rfl
theorem sM6_s1 : (sM6 A Z V P B C T).set 1 y = sM6 A y V P B C T := rfl
theorem sM6_s2 : (sM6 A Z V P B C T).set 2 y = sM6 A Z y P B C T := rfl
theorem sM6_s4 : (sM6 A Z V P B C T).set 4 y = sM6 A Z V P y C T := rfl
theorem sM6_s5 : (sM6 A Z V P B C T).set 5 y = sM6 A Z V P B y T := rfl
theorem Ym3 : (sM6 A Z V P B C T).length = T.length + 6 := rfl
theorem sM6_app : sM6 A Z V P B C T ++ l = sM6 A Z V P B C (T ++ l) := rfl
theorem sM6_l : (sM6 A Z V P B C (T ++ [y]))[T.length + 6]? = some y := by simp [sM6]
theorem sM6_l2 {z : Ob} : (sM6 A Z V P B C (T ++ [y, z]))[T.length + 6]? = some y := by simp [sM6]
theorem sM6_l3 {z : Ob} : (sM6 A Z V P B C (T ++ [y, z]))[T.length + 1 + 6]? = some z := by simp [sM6]
theorem sM6_h1 {z w : Ob} : (sM6 A Z V P B C (T ++ [y, z])).set (T.length + 6) w = sM6 A Z V P B C (T ++ [w, z]) := by simp [sM6]
theorem sM6_h2 {z w : Ob} : (sM6 A Z V P B C (T ++ [y, z])).set (T.length + 1 + 6) w = sM6 A Z V P B C (T ++ [y, w]) := by simp [sM6]
theorem holes_2 : holes 2 = [.hole, .hole] := rfl
end
variable (G : Nat → D) (hG : ∀ g, low 0 (G g))
include hG
attribute [local go_sem] Bool.false_eq_true Int.reduceEq Int.reduceLE Int.reduceLT Int.toNat_natCast List.append_assoc List.cons_append List.length_append List.length_cons List.length_map List.length_nil List.nil_append Nat.reduceAdd Nat.reduceBEq Nat.reduceEqDiff Nat.reduceLeDiff Nat.reduceMul holes_2 kM_0 kM_1 kM_2 kM_3 Zw0 kM_l kM_l2 kM_l3 kM_l3b kM_l4 Zg7 kM_s1 kM_s2 kM_s3 kM_sl kM_sl3 sM6_0 sM6_1 sM6_2 sM6_3 sM6_4 sM6_5 sM6_app sM6_h1 sM6_h2 sM6_l2 sM6_l3 Ym3 sM6_s1 sM6_s2 sM6_s4 sM6_s5 Xt Xn Vs
attribute [local go_sem ↓] reduceIte
end
end Go.Proofs.YtbhkcbidcfofiaaGreat
