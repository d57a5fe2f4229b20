/-
  What the statements of the chapter share, part 12: F6.
-/
import Derived.Test.YtbhkcbidcfofiaaGreatY11
import Derived.Lib.Bytealg
set_option linter.unusedVariables false
set_option linter.unusedSimpArgs false
set_option maxRecDepth 100000
set_option maxHeartbeats 8000000
namespace Go.Proofs.YtbhkcbidcfofiaaGreat
open Go.RowKit
section
variable {P : Program} {G : Nat → D} {n : Nat} {e : Nat → D} {h h1 : List Ob}
def exec (P : Program) (G : Nat → D) (cal : Cal) : Nat → Code → Nat → Tr → List Ob → Option (Exit × Tr × List Ob)
 | 0, _, _, _, _ => none
 | k + 1, c, n, t, h => match c with
  | .skip => some (.normal, t, h)
  | .label _ => some (.normal, t, h)
  | .exit id => some (.exit id, t, h)
  | .goto l => some (.goto l, t, h)
  | .ret => some (.ret, t, h)
  | .seq x y => match exec P G cal k x n t h with
   | some (.normal, t1, h1) => exec P G cal k y n t1 h1
   | r => r
  | .cond c x y => match ev G t.get c with
   | .v (.bool b) => bif b then exec P G cal k x n t h else exec P G cal k y n t h
   | _ => none
  | .block id x => match exec P G cal k x n t h with
   | some (.exit id', t1, h1) => bif Nat.beq id' id then some (.normal, t1, h1) else some (.exit id', t1, h1)
   | r => r
  | .scope x => match exec P G cal k x n t h with
   | some (.goto _, _, _) => none
   | r => r
  | .loop x => match exec P G cal k x n t h with
   | some (.normal, t1, h1) => exec P G cal k (.loop x) n t1 h1
   | r => r
  | .region _ ops dr => bif dr then (bif Region.lexB .any ops then (match drawF P G cal n ops ops.toList t h with
    | some (t1, h1, es) => bif chkF ops 0 es then some (.normal, t1, h1) else none
    | none => none) else none) else (match seqF P G cal n ops ops.toList t h with
    | some (t1, h1) => some (.normal, t1, h1)
    | none => none)
  | _ => none
def endsAt (n : Nat) (e : Exit) (t : Tr) (h : List Ob) (e1 : Exit) (s1 : S) : Prop := e1 = e ∧ s1 = ⟨n, t.get, h⟩
def treeOf : Nat → List D → Tr → Tr
 | _, [], t => t
 | i, d :: l, t => treeOf (i + 1) l (Tr.set 12 t i d)
def shrF (m : Nat) (h' : List Ob) (r : D) : Option (List Ob × D) := bif Nat.beq h'.length m then some (h', r) else
 let R := closeR h' 4000 0 (addR (List.range m) (refs r))
 match rnH R h' R, rnO R r with
 | some h2, some r2 => bif Ya0 R && (firstN 0 (R.take m) && Nat.ble m R.length) then some (h2, r2) else none
 | _, _ => none
def CmpX (P : Program) (f : FuncId) : Prop := ∀ (a b : ByteArray) w, (callFunc f #[.string a, .string b]).run P w = .ok (.value (.int .i64 (Lib.compareBytes a.data.toList b.data.toList))) w
def callB (P : Program) (G : Nat → D) (cx : FuncId) (k : Nat) (cal : Cal) : Cal := fun f args h => match P.funcs[f]? with
  | some fn => match fn.body with
   | some c => bif entB P f && (Nat.ble args.length fn.ntmps && Nat.blt args.length 4095) then (match exec P G cal k c fn.ntmps (treeOf 0 args .leaf) h with
    | some (e, t, h1) => match e with
     | .normal | .ret => match resD P ⟨fn.ntmps, t.get, h1⟩ fn.results.toList with
      | some ds => shrF h.length h1 (outD ds)
      | none => none
     | _ => none
    | none => none) else none
   | none => bif Nat.beq f cx then (match args with
    | [.v (.string a), .v (.string b)] => some (h, .v (.int .i64 (Lib.compareBytes a.data.toList b.data.toList)))
    | _ => none) else none
  | none => none
def callS (P : Program) (G : Nat → D) (cx : FuncId) : Nat → Cal
 | 0, _, _, _ => none
 | k + 1, f, args, h => callB P G cx k (callS P G cx k) f args h
end
end Go.Proofs.YtbhkcbidcfofiaaGreat
