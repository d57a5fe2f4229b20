/-
  What the statements of the chapter share, part 11: N3, N4, F5.
-/
import Derived.Test.YtbhkcbidcfofiaaGreatY10
import Derived.Lib.AppendZeros
set_option linter.unusedVariables false
set_option linter.unusedSimpArgs false
set_option maxRecDepth 100000
set_option maxHeartbeats 8000000
namespace Go.Proofs.YtbhkcbidcfofiaaGreat
open Go.RowKit
section
variable {P : Program} {G : Nat → D} {e : Nat → D} {h : List Ob} {w : World} {hd : List Value} {p : Nat → Bool}
theorem Gives.post {r : Result Next} {K : List Ob → D → Prop} (q : Gives P G w hd h p K r) : ∃ v w', (r = .ok (.value v) w' ∨ (r = .ok .skip w' ∧ v = undef)) ∧ Post G w hd h p K v w' := by
 obtain ⟨v, w', hd', h', p', d, hr, k, o, q, ev⟩ := q
 exact ⟨v, w', hr, hd', h', d, p', k, o, q, ev⟩
section
variable (P : Program) (h : List Ob)
def apN (t u : TypeId) (x y : D) : Option (List Ob × D) := match x with
 | .win i n 0 b => match h[i]? with
  | some (.buf E k xs) => bif decide (xs.length = n) && decide (b ≤ n) then apF P (h.set i .dead ++ [.buf E k (xs.take b)]) t u (.buf h.length b) y else none
  | _ => none
 | .v (.slice none 0 0) => match y, intT P u with
  | .v (.int _ m), some _ => match apT P t with
   | some (el, k, by') => match Uj P el with
    | some zs => bif decide (0 < m) && decide (m * by' ≤ 281474976710656) && decide (m ≤ 281474976710656) && decide (zs.length = k) then some (h ++ [.buf el k (List.replicate m.toNat zs)], .buf h.length m.toNat) else none
    | none => none
   | none => none
  | _, _ => none
 | _ => none
def clrF (t : TypeId) (x : D) : Option (List Ob × D) := match x with
 | .v (.slice none 0 0) | .e0 => bif slT P t then some (h, .tup []) else none
 | .win i n a b => match h[i]? with
  | some (.buf E k xs) => match elT P t with
   | some el => match Uj P el with
    | some zs => bif decide (xs.length = n) && decide (0 < k) && decide (b ≤ n) && decide (zs.length = k) && zs.all D.one then some (bif Nat.beq a b then h else h.set i (.buf E k (xs.take a ++ List.replicate (b - a) zs ++ xs.drop b)), .tup []) else none
    | none => none
   | none => none
  | _ => none
 | _ => none
end
end
section
variable {P : Program} {G : Nat → D} {e : Nat → D} {h : List Ob}
section
variable (P : Program) (G : Nat → D) (env : Nat → D) (h : List Ob)
def nF : Op → Option (List Ob × D)
 | .makeFunc (.func f) first caps => bif first.isEmpty then some (h, .fn f (caps.toList.map (ev G env))) else none
 | .makeSlice t x y => makF P h t (ev G env x) (ev G env y)
 | .slice t x lo hi none => Zj9 h (sliF P h t (ev G env x) (lo.map (ev G env)) (hi.map (ev G env)))
 | .indexAddr t x i => Zj9 h (idxN P h t (ev G env x) (ev G env i))
 | .binOp op t x y _ => match binN op (ev G env x) (ev G env y) with
  | some d => some (h, d)
  | none => Zj9 h (nilF P h op t (ev G env x) (ev G env y))
 | .nilCheck x => match ev G env x with
  | .fn f ds => some (h, .fn f ds)
  | _ => none
 | .call ⟨.builtin b, args, tys⟩ => match b, tys.toList, args.toList with
  | .len, [t], [x] => Zj9 h (lenN P t (ev G env x))
  | .cap, [t], [x] => Zj9 h (capN P t (ev G env x))
  | .clear, [t], [x] => clrF P h t (ev G env x)
  | .append, [t, u], [x, y] => apN P h t u (ev G env x) (ev G env y)
  | _, _, _ => none
 | _ => none
def xF (op : Op) : Option (List Ob × D) := match nF P G env h op with
 | some r => some r
 | none => aF P G env h op
end
end
section
variable {P : Program} {G : Nat → D} {n : Nat} {e : Nat → D} {h h1 : List Ob}
def effR (R : List Nat) (h : List Ob) : List (Nat × Ob) := R.map fun i => (i, (h[i]?).getD .dead)
def slotsR (L c : Nat) : List (Nat × Ob) := (List.range c).map fun j => (L + j, .hole)
def mkEf (R : List Nat) (h h1 h1' : List Ob) (r1 : D) : Ef := ⟨effR R h ++ slotsR h.length (h1'.length - R.length), wrs (plcN R h.length) 0 h1 h1', ren (plcN R h.length) r1⟩
def mkH (R : List Nat) (h h1' : List Ob) : List Ob := plc (plcN R h.length) (h ++ holes (h1'.length - R.length)) 0 (h1'.map (Ve (plcN R h.length)))
section
variable {R : List Nat} {h1' : List Ob} {r1 : D} {o : Oper} {args1 : List D}
end
abbrev Cal := FuncId → List D → List Ob → Option (List Ob × D)
def ExtTri (P : Program) (f : FuncId) (args : List D) (r : D) : Prop := ∀ (w : World) (hd : List Value) (h : List Ob) (W : World) (vs : List Value), rdL hd h W args vs → ∃ v, (callFunc f vs.toArray).run P w = .ok (.value v) w ∧ rd hd h W r v
def CalOk (P : Program) (G : Nat → D) (cal : Cal) : Prop := ∀ f args h h' r, cal f args h = some (h', r) → (entB P f = true ∧ Does P G f h args (fun h1 r1 => h1 = h' ∧ r1 = r)) ∨ (entB P f = false ∧ h' = h ∧ ExtTri P f args r)
theorem tri_of_ext {dst : Option Nat} {x : Operand} {args : Array Operand} {tys : Array TypeId} {ty : TypeId} {pos : String} {aft : Array Edge} {gd : Option (Nat × Bool)} {f : FuncId} {cap xs : List D} {r : D} (hc : ExtTri P f (xs ++ cap) r) :
 OpTri P G ⟨dst, .call ⟨.value x, args, tys⟩, ty, pos, aft, gd⟩ (.fn f cap :: xs) h (fun h' r' => h' = h ∧ r' = r) := fun a w hd p R hdf ok ha => by
 have ho : opds (.call ⟨.value x, args, tys⟩) = x :: args.toList := by simp [opds, Op.operands, Call.operands]
 rw [ho, List.map_cons, rdL] at ha
 obtain ⟨u, t, e0, q, ha⟩ := ha
 cases e0
 rw [rd] at q
 obtain ⟨cs, e1, q⟩ := q
 obtain ⟨v, hr, hv⟩ := hc w _ _ _ _ (Wr ha q)
 rw [show (args.toList.map a.eval ++ cs.toList).toArray = args.map a.eval ++ cs by apply Array.ext'; simp] at hr
 have hrun : (execOp a.eval ⟨dst, .call ⟨.value x, args, tys⟩, ty, pos, aft, gd⟩).run P w = .ok (.value v) w := by
  simp [execOp, resolve, e1, Deferred.ofValue, invoke, hr]
 unfold Oper.wp
 rw [hrun]
 exact ⟨v, rfl, .same ok ⟨rfl, rfl⟩ hv⟩
def opF (P : Program) (G : Nat → D) (cal : Cal) (env : Nat → D) (h : List Ob) (op : Op) : Option (List Ob × D) := match op with
 | .call ⟨.value x, args, _⟩ => match ev G env x with
  | .fn f cap => cal f (args.toList.map (ev G env) ++ cap) h
  | _ => none
 | op => xF P G env h op
def renEnv (R : List Nat) (env : Nat → D) : Nat → D := fun t => match rnO R (env t) with
 | some d => d
 | none => .any
def pureF (P : Program) (G : Nat → D) (env : Nat → D) (op : Op) : Option D := match op with
 | .call ⟨.value _, _, _⟩ => none
 | .binOp b ta x y tb => match binN b (ev G env x) (ev G env y) with
  | some d => some d
  | none => match aF P G env [] (.binOp b ta x y tb) with
   | some ([], d) => some d
   | _ => none
 | .makeFunc (.func f) first caps => bif first.isEmpty then some (.fn f (caps.toList.map (ev G env))) else none
 | op => match aF P G env [] op with
  | some ([], d) => some d
  | _ => none
def readF (P : Program) (G : Nat → D) (env : Nat → D) (h : List Ob) (op : Op) : Option (Nat × D) := match op with
 | .load t x => match ev G env x with
  | .ptr i o => match Zb1 P h t (.ptr i o) with
   | some d => some (i, d)
   | none => none
  | .bp i n r j => match Zb1 P h t (.bp i n r j) with
   | some d => some (i, d)
   | none => none
  | _ => none
 | .indexAddr t x y => match ev G env x with
  | .buf i n => match idxF P h t (.buf i n) (ev G env y) with
   | some d => some (i, d)
   | none => none
  | .win i n a b => match idxN P h t (.win i n a b) (ev G env y) with
   | some d => some (i, d)
   | none => none
  | _ => none
 | _ => none
def storF (P : Program) (G : Nat → D) (env : Nat → D) (h : List Ob) (op : Op) : Option (Nat × Ob) := match op with
 | .store t x y => match ev G env x with
  | .ptr i o => match (ev G env y).cells with
   | some es => bif es.all D.one && decide (szT P t = some es.length) then (match h[i]? with
    | some (.cells ds) => bif Nat.ble (o + es.length) ds.length then some (i, .cells (putL ds o es)) else none
    | _ => none) else none
   | none => none
  | .bp i n r j => match (ev G env y).cells with
   | some es => bif es.all D.one && decide (szT P t = some es.length) then (match h[i]? with
    | some (.buf e k xs) => match xs[r]? with
     | some row => bif Nat.beq xs.length n && Nat.ble (j + es.length) row.length then some (i, .buf e k (xs.set r (putL row j es))) else none
     | none => none
    | _ => none) else none
   | none => none
  | _ => none
 | _ => none
def effF (P : Program) (G : Nat → D) (cal : Cal) (env : Nat → D) (h : List Ob) (o : Oper) : Option (Ef × List Ob) := match pureF P G env o.op with
 | some d => some (⟨[], [], d⟩, h)
 | none => match readF P G env h o.op with
  | some (i, d) => match h[i]? with
   | some ob => some (⟨[(i, ob)], [], d⟩, h)
   | none => none
  | none => match storF P G env h o.op with
   | some (i, ob') => match h[i]? with
    | some ob => some (⟨[(i, ob)], [(i, ob')], .v undef⟩, h.set i ob')
    | none => none
   | none =>
    let args := (opds o.op).map (ev G env)
    let R := closeR h 4000 0 (addR [] (refsL args))
    match rnH R h R, rnL R args with
    | some h1, some _ => bif Ya0 R then match opF P G cal (renEnv R env) h1 o.op with
      | some (h1', r1) => bif Nat.ble h1.length h1'.length then some (mkEf R h h1 h1' r1, mkH R h h1') else none
      | none => none
     else none
    | _, _ => none
def isCall : Op → Bool
 | .call ⟨.value _, _, _⟩ => true
 | _ => false
def stepF (P : Program) (G : Nat → D) (cal : Cal) (env : Nat → D) (h : List Ob) (o : Oper) : Option (List Ob × D) := bif isCall o.op then (match effF P G cal env h o with
  | some (E, h') => some (h', E.d)
  | none => none) else opF P G cal env h o.op
def putT (n : Nat) (t : Tr) (dst : Option Nat) (d : D) : Option Tr := match dst with
 | some i => bif Nat.blt i n then (bif Nat.blt i 4095 then some (Tr.set 12 t i d) else none) else some t
 | none => some t
def seqF (P : Program) (G : Nat → D) (cal : Cal) (n : Nat) (ops : Array Oper) : List Oper → Tr → List Ob → Option (Tr × List Ob)
 | [], t, h => some (t, h)
 | o :: rest, t, h => match Yg ops o.guard t.get with
  | some true => match stepF P G cal t.get h o with
   | some (h', d) => match putT n t o.dst d with
    | some t' => seqF P G cal n ops rest t' h'
    | none => none
   | none => none
  | some false => match putT n t o.dst (.v undef) with
   | some t' => seqF P G cal n ops rest t' h
   | none => none
  | none => none
def drawF (P : Program) (G : Nat → D) (cal : Cal) (n : Nat) (ops : Array Oper) : List Oper → Tr → List Ob → Option (Tr × List Ob × List Ef)
 | [], t, h => some (t, h, [])
 | o :: rest, t, h => match Yg ops o.guard t.get with
  | some true => match effF P G cal t.get h o with
   | some (E, h') => match putT n t o.dst E.d with
    | some t' => match drawF P G cal n ops rest t' h' with
     | some (t2, h2, es) => some (t2, h2, E :: es)
     | none => none
    | none => none
   | none => none
  | some false => match putT n t o.dst (.v undef) with
   | some t' => match drawF P G cal n ops rest t' h with
    | some (t2, h2, es) => some (t2, h2, nopF :: es)
    | none => none
   | none => none
  | none => none
def apartB (a b : List (Nat × Ob)) : Bool := a.all fun x => b.all fun y => !Nat.beq x.1 y.1
def chkF1 (ops : Array Oper) (i : Nat) (E : Ef) : Nat → List Ef → Bool
 | _, [] => true
 | j, F :: t => (apartB E.W F.R && apartB F.W E.R || twB .any ops 12 j i) && chkF1 ops i E (j + 1) t
def chkF (ops : Array Oper) : Nat → List Ef → Bool
 | _, [] => true
 | i, E :: t => chkF1 ops i E (i + 1) t && chkF ops (i + 1) t
end
end Go.Proofs.YtbhkcbidcfofiaaGreat
