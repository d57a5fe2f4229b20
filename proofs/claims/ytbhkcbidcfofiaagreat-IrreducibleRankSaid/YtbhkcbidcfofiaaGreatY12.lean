/-
  What the statements of the chapter share, part 12: WSpec.
-/
import GoSem.Claims
set_option linter.unusedVariables false
set_option linter.unusedSimpArgs false
set_option maxRecDepth 100000
set_option maxHeartbeats 8000000
namespace Go.Proofs.YtbhkcbidcfofiaaGreat
section
def Zl2 (n : Nat) : List UInt8 := if n < 128 then [UInt8.ofNat n] else UInt8.ofNat (n % 128 + 128) :: Zl2 (n / 128)
 termination_by n
 decreasing_by omega
def zz (n : Int) : Nat := if 0 ≤ n then 2 * n.toNat else 2 * (-(n + 1)).toNat + 1
def unzz (n : Nat) : Int := if n % 2 = 0 then (n / 2 : Nat) else -((n / 2 : Nat) : Int) - 1
def intE (n : Int) : List UInt8 := Zl2 (zz n)
def bytesE (b : List UInt8) : List UInt8 := Zl2 b.length ++ b
def textE (s : ByteArray) : List UInt8 := Zl2 s.size ++ s.data.toList
def boolE (b : Bool) : List UInt8 := [if b then 1 else 0]
def numF : Nat → List UInt8 → Option (Nat × Nat)
 | _, [] => none
 | i, b :: t => if 10 ≤ i then none else if i = 9 ∧ 1 < b.toNat then none
   else if b.toNat < 128 then (if b.toNat = 0 ∧ i ≠ 0 then none else some (b.toNat, 1))
   else match numF (i + 1) t with
    | none => none
    | some (n, c) => some (b.toNat % 128 + 128 * n, c + 1)
end
end Go.Proofs.YtbhkcbidcfofiaaGreat
