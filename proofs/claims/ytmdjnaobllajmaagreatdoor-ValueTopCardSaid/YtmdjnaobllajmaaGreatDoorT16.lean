/-
  What the statements of the chapter share, part 16: TSpec.
-/
import Derived.Test.YtmdjnaobllajmaaGreatDoorT05
import Derived.Test.YtmdjnaobllajmaaGreatDoorT07
import Derived.Lib.ItoaNum
import Derived.Lib.Join
set_option linter.unusedVariables false
set_option linter.unusedSimpArgs false
set_option maxRecDepth 100000
set_option maxHeartbeats 8000000
namespace Go.Proofs.YtmdjnaobllajmaaGreatDoor
open Go.RowKit
def bsOf (s : ByteArray) : List UInt8 := s.data.toList
def tickT (t : Tk) : List UInt8 := Lib.itoa t.process ++ 58 :: Lib.itoa t.n
def entryT (e : En) : List UInt8 := bsOf e.name ++ 64 :: Lib.join (e.clock.map tickT) [46]
def flagT (b : Bool) : List UInt8 := if b then [116, 114, 117, 101] else [102, 97, 108, 115, 101]
mutual
def textV : Lat → Val → List UInt8
 | .mk k _ _ ns ps _, v =>
   if k = 1 then flagT (decide (v.n = 1))
   else if k = 2 ∨ k = 3 then Lib.itoa v.n
   else if k = 4 ∨ k = 10 then 123 :: (Lib.join (v.names.map bsOf) [44] ++ [125])
   else if k = 8 then (if v.n = 0 then [63] else if v.n = 1 then bsOf (v.names.headD ByteArray.empty) else [33])
   else if k = 9 then 91 :: (Lib.join (v.entries.map entryT) [32, 124, 32] ++ [93])
   else if k = 5 then 123 :: (Lib.join (textMap ps v.names v.parts) [44, 32] ++ [125])
   else if k = 6 then 40 :: (Lib.join (textProd ns ps v.parts) [44, 32] ++ [41])
   else 60 :: (Lib.join (textParts ps v.parts) [44, 32] ++ [62])
def textMap : List Lat → List ByteArray → List Val → List (List UInt8)
 | [], _, _ => []
 | p :: _, ns, vs => (ns.zip vs).map fun x => bsOf x.1 ++ 58 :: 32 :: textV p x.2
def textProd : List ByteArray → List Lat → List Val → List (List UInt8)
 | n :: ns, p :: ps, v :: vs => (bsOf n ++ 58 :: 32 :: textV p v) :: textProd ns ps vs
 | [], _, _ => []
 | _ :: _, [], _ => []
 | _ :: _, _ :: _, [] => []
def textParts : List Lat → List Val → List (List UInt8)
 | p :: ps, v :: vs => textV p v :: textParts ps vs
 | [], _ => []
 | _ :: _, [] => []
end
end Go.Proofs.YtmdjnaobllajmaaGreatDoor
