/-
  What the statements of the chapter share, part 10: F6, K1, K2, K3, K4, K5, K6.
-/
import Derived.Test.YtbhkcbidcfofiaaGreatY09
import Derived.Lib.Bytealg
set_option linter.unusedVariables false
set_option linter.unusedSimpArgs false
set_option maxRecDepth 100000
set_option maxHeartbeats 8000000
namespace Go.Proofs.YtbhkcbidcfofiaaGreat
open _root_.Bool renaming eq_iff_iff → Z9
open _root_.Int renaming ofNat_eq_natCast → Z2
open _root_.List renaming mem_cons → Z6, getElem?_eq_some_iff → Z7, getElem?_append_left → Za
open _root_.Nat renaming beq → Z0, ble → Z1, zero_add → Z3, le_of_ble_eq_true → Z5, add → Z8, le_refl → Zb
open _root_.Option renaming map_some → Z4
open Go.RowKit
section
variable {P : Program} {G : Nat → D} {n : Nat} {e : Nat → D} {h h1 : List Ob}
def exec (P : Program) (G : Nat → D) (cal : Cal) : Nat → Code → Nat → Tr → List Ob → Option (Exit × Tr × List Ob)
 | 0, _, _, _, _ => none
 | k + 1, c, n, t, h => match c with
  | .skip => some (.normal, t, h)
  | .label _ => some (.normal, t, h)
  | .exit id => some (.exit id, t, h)
  | .goto l => some (.goto l, t, h)
  | .ret => some (.ret, t, h)
  | .seq x y => match exec P G cal k x n t h with
   | some (.normal, t1, h1) => exec P G cal k y n t1 h1
   | r => r
  | .cond c x y => match ev G t.get c with
   | .v (.bool b) => bif b then exec P G cal k x n t h else exec P G cal k y n t h
   | _ => none
  | .block id x => match exec P G cal k x n t h with
   | some (.exit id', t1, h1) => bif Z0 id' id then some (.normal, t1, h1) else some (.exit id', t1, h1)
   | r => r
  | .scope x => match exec P G cal k x n t h with
   | some (.goto _, _, _) => none
   | r => r
  | .loop x => match exec P G cal k x n t h with
   | some (.normal, t1, h1) => exec P G cal k (.loop x) n t1 h1
   | r => r
  | .region _ ops dr => bif dr then (bif Region.lexB .any ops then (match drawF P G cal n ops ops.toList t h with
    | some (t1, h1, es) => bif chkF ops 0 es then some (.normal, t1, h1) else none
    | none => none) else none) else (match seqF P G cal n ops ops.toList t h with
    | some (t1, h1) => some (.normal, t1, h1)
    | none => none)
  | _ => none
theorem aw_regionA {id : Nat} {ops : Array Oper} {Q : Exit → S → Prop} {s : S} (k : ao P G ops ops.toList (Q .normal) s) : aw P G (.region id ops false) Q s := by
 obtain ⟨l⟩ := ops
 exact Xs k
def endsAt (n : Nat) (e : Exit) (t : Tr) (h : List Ob) (e1 : Exit) (s1 : S) : Prop := e1 = e ∧ s1 = ⟨n, t.get, h⟩
def treeOf : Nat → List D → Tr → Tr
 | _, [], t => t
 | i, d :: l, t => treeOf (i + 1) l (Tr.set 12 t i d)
def shrF (m : Nat) (h' : List Ob) (r : D) : Option (List Ob × D) := bif Z0 h'.length m then some (h', r) else
 let R := closeR h' 4000 0 (addR (List.range m) (refs r))
 match rnH R h' R, rnO R r with
 | some h2, some r2 => bif Jr R && (firstN 0 (R.take m) && Z1 m R.length) then some (h2, r2) else none
 | _, _ => none
def CmpX (P : Program) (f : FuncId) : Prop := ∀ (a b : ByteArray) w, (callFunc f #[.string a, .string b]).run P w = .ok (.value (.int .i64 (Lib.compareBytes a.data.toList b.data.toList))) w
def callB (P : Program) (G : Nat → D) (cx : FuncId) (k : Nat) (cal : Cal) : Cal := fun f args h => match P.funcs[f]? with
  | some fn => match fn.body with
   | some c => bif entB P f && (Z1 args.length fn.ntmps && Nat.blt args.length 4095) then (match exec P G cal k c fn.ntmps (treeOf 0 args .leaf) h with
    | some (e, t, h1) => match e with
     | .normal | .ret => match resD P ⟨fn.ntmps, t.get, h1⟩ fn.results.toList with
      | some ds => shrF h.length h1 (outD ds)
      | none => none
     | _ => none
    | none => none) else none
   | none => bif Z0 f cx then (match args with
    | [.v (.string a), .v (.string b)] => some (h, .v (.int .i64 (Lib.compareBytes a.data.toList b.data.toList)))
    | _ => none) else none
  | none => none
def callS (P : Program) (G : Nat → D) (cx : FuncId) : Nat → Cal
 | 0, _, _, _ => none
 | k + 1, f, args, h => callB P G cx k (callS P G cx k) f args h
end
section
noncomputable def bc {α : Type} (b : Bool) (x y : α) : α := @Bool.rec (fun _ => α) y x b
theorem V2 {α : Type} (b : Bool) (x y : α) : bc b x y = bif b then x else y := by cases b <;> rfl
noncomputable def nthK {α : Type} (l : List α) : Nat → Option α := @List.rec α (fun _ => Nat → Option α) (fun _ => none) (fun a _ ih i => @Bool.rec (fun _ => Option α) (ih (Nat.sub i 1)) (some a) (Z0 i 0)) l
theorem Ji {α : Type} : ∀ (l : List α) (i : Nat), nthK l i = l[i]?
 | [], _ => rfl
 | a :: t, 0 => rfl
 | a :: t, i + 1 => by show nthK t i = _; rw [Ji t i]; rfl
noncomputable def lenK {α : Type} (l : List α) : Nat → Nat := @List.rec α (fun _ => Nat → Nat) (fun n => n) (fun _ _ ih n => ih (Z8 n 1)) l
theorem Wm {α : Type} : ∀ (l : List α) (n : Nat), lenK l n = n + l.length
 | [], _ => rfl
 | a :: t, n => by show lenK t (n + 1) = _; rw [Wm t]; simp; omega
noncomputable def getK (t : Tr) : Nat → D := @Tr.rec (fun _ => Nat → D) (fun _ => .any) (fun d _ _ gl gr i => @Bool.rec (fun _ => D) (@Bool.rec (fun _ => D) (gr (Nat.sub (Nat.div i 2) 1)) (gl (Nat.div i 2)) (Z0 (Nat.mod i 2) 1)) d (Z0 i 0)) t
theorem Zy6 : ∀ (t : Tr) (i : Nat), getK t i = t.get i
 | .leaf, _ => rfl
 | .node d l r, i => by
  show @Bool.rec (fun _ => D) (@Bool.rec (fun _ => D) (getK r (i / 2 - 1)) (getK l (i / 2)) (Z0 (i % 2) 1)) d (Z0 i 0) = _
  rw [Zy6 l, Zy6 r, Tr.get]
  cases Z0 i 0 <;> cases Z0 (i % 2) 1 <;> rfl
theorem Zu0 (t : Tr) : getK t = t.get := funext fun i => Zy6 t i
noncomputable def setK (t : Tr) : Nat → D → Tr := @Tr.rec (fun _ => Nat → D → Tr) (fun i d => Tr.set 12 .leaf i d)
 (fun d0 l r sl sr i d => @Bool.rec (fun _ => Tr) (@Bool.rec (fun _ => Tr) (.node d0 l (sr (Nat.sub (Nat.div i 2) 1) d)) (.node d0 (sl (Nat.div i 2) d) r) (Z0 (Nat.mod i 2) 1)) (.node d l r) (Z0 i 0)) t
theorem Zs9 : ∀ (t : Tr) (i : Nat) (d : D) (j : Nat), i < 4095 → (setK t i d).get j = if j = i then d else t.get j
 | .leaf, i, d, j, h => Tr.get_set 12 .leaf i d j (by omega)
 | .node d0 l r, i, d, j, h => by
  show (@Bool.rec (fun _ => Tr) (@Bool.rec (fun _ => Tr) (.node d0 l (setK r (i / 2 - 1) d)) (.node d0 (setK l (i / 2) d) r) (Z0 (i % 2) 1)) (.node d l r) (Z0 i 0)).get j = _
  rw [bqE, bqE]
  by_cases h0 : i = 0
  · subst h0
    by_cases hj : j = 0 <;> simp [hj, Tr.get, bqE]
  · by_cases h1 : i % 2 = 1
    · simp only [h0, h1, decide_false, decide_true, Tr.get, bqE]
      rw [Zs9 l (i / 2) d (j / 2) (by omega)]
      by_cases hj0 : j = 0
      · subst hj0; simp [Ne.symm h0]
      · by_cases hj1 : j % 2 = 1
        · simp only [hj0, hj1, decide_false, decide_true, cond_false, cond_true]
          by_cases hji : j = i
          · subst hji; simp
          · rw [if_neg (by omega), if_neg hji]
        · simp only [hj0, hj1, decide_false, cond_false]
          rw [if_neg (by omega)]
    · simp only [h0, h1, decide_false, Tr.get, bqE]
      rw [Zs9 r (i / 2 - 1) d (j / 2 - 1) (by omega)]
      by_cases hj0 : j = 0
      · subst hj0; simp [Ne.symm h0]
      · by_cases hj1 : j % 2 = 1
        · simp only [hj0, hj1, decide_false, decide_true, cond_false, cond_true]
          rw [if_neg (by omega)]
        · simp only [hj0, hj1, decide_false, cond_false]
          by_cases hji : j = i
          · subst hji; simp
          · rw [if_neg (by omega), if_neg hji]
noncomputable def mkT (k : Nat) : Tr := @Nat.rec (fun _ => Tr) .leaf (fun _ t => .node .any t t) k
theorem mkT_get : ∀ (k j : Nat), (mkT k).get j = .any
 | 0, _ => rfl
 | k + 1, j => by
  show (Tr.node .any (mkT k) (mkT k)).get j = _
  rw [Tr.get, mkT_get k, mkT_get k]
  cases Z0 j 0 <;> cases Z0 (j % 2) 1 <;> rfl
noncomputable def evK (G : Nat → D) (t : Tr) (x : Operand) : D := @Operand.casesOn (fun _ => D) x (fun i => getK t i) (fun v => .v v) (fun g => G g) (fun f => .fn f [])
theorem U3 (G : Nat → D) (t : Tr) (x : Operand) : evK G t x = ev G t.get x := by
 cases x <;> first | rfl | exact Zy6 t _
/-! Whole numbers. -/
noncomputable def ieq (a b : Int) : Bool := @Int.rec (fun _ => Bool) (fun m => @Int.rec (fun _ => Bool) (fun n => Z0 m n) (fun _ => false) b) (fun m => @Int.rec (fun _ => Bool) (fun _ => false) (fun n => Z0 m n) b) a
theorem ieq_eq (a b : Int) : ieq a b = decide (a = b) := by
 rcases a with m | m <;> rcases b with n | n
 · show Z0 m n = _; rw [bqE]; congr 1; exact propext ⟨fun h => by rw [h], fun h => by injection h⟩
 · show false = _; rw [decide_eq_false]; intro h; cases h
 · show false = _; rw [decide_eq_false]; intro h; cases h
 · show Z0 m n = _; rw [bqE]; congr 1; exact propext ⟨fun h => by rw [h], fun h => by injection h⟩
noncomputable def ilt (a b : Int) : Bool := @Int.rec (fun _ => Bool) (fun m => @Int.rec (fun _ => Bool) (fun n => Z1 (Nat.succ m) n) (fun _ => false) b) (fun m => @Int.rec (fun _ => Bool) (fun _ => true) (fun n => Z1 (Nat.succ n) m) b) a
theorem bleE (a b : Nat) : Z1 a b = decide (a ≤ b) := by rw [Z9, Nat.ble_eq, decide_eq_true_eq]
theorem ilt_eq (a b : Int) : ilt a b = decide (a < b) := by
 rcases a with m | m <;> rcases b with n | n
 · show Z1 (m + 1) n = _; rw [bleE]; congr 1; simp only [Z2]; exact propext (by omega)
 · show false = _; rw [decide_eq_false]; simp only [Z2]; omega
 · show true = _; rw [decide_eq_true]; simp only [Z2]; omega
 · show Z1 (n + 1) m = _; rw [bleE]; congr 1; exact propext (by omega)
noncomputable def wrK (k : IntKind) (n : Int) : Int := @IntKind.casesOn (fun _ => Int) k (k.wrap n) (k.wrap n) (k.wrap n)
 (@Int.rec (fun _ => Int) (fun m => @Bool.rec (fun _ => Int) (k.wrap n) (Int.ofNat m) (Z1 m 9223372036854775807)) (fun m => @Bool.rec (fun _ => Int) (k.wrap n) (Int.negSucc m) (Z1 m 9223372036854775807)) n)
 (@Int.rec (fun _ => Int) (fun m => @Bool.rec (fun _ => Int) (k.wrap n) (Int.ofNat m) (Z1 m 255)) (fun _ => k.wrap n) n)
 (k.wrap n)
 (@Int.rec (fun _ => Int) (fun m => @Bool.rec (fun _ => Int) (k.wrap n) (Int.ofNat m) (Z1 m 4294967295)) (fun _ => k.wrap n) n)
 (@Int.rec (fun _ => Int) (fun m => @Bool.rec (fun _ => Int) (k.wrap n) (Int.ofNat m) (Z1 m 18446744073709551615)) (fun _ => k.wrap n) n)
theorem wrK_eq (k : IntKind) (n : Int) : wrK k n = k.wrap n := by
 cases k <;> try rfl
 · rcases n with m | m
   · show @Bool.rec (fun _ => Int) (IntKind.i64.wrap (.ofNat m)) (Int.ofNat m) (Z1 m 9223372036854775807) = _
     rw [bleE]
     by_cases h : m ≤ 9223372036854775807
     · rw [decide_eq_true h, IntKind.wrap_i64]; simp only [Z2]; omega
     · rw [decide_eq_false h]
   · show @Bool.rec (fun _ => Int) (IntKind.i64.wrap (.negSucc m)) (Int.negSucc m) (Z1 m 9223372036854775807) = _
     rw [bleE]
     by_cases h : m ≤ 9223372036854775807
     · rw [decide_eq_true h, IntKind.wrap_i64]; show Int.negSucc m = _; omega
     · rw [decide_eq_false h]
 · rcases n with m | m
   · show @Bool.rec (fun _ => Int) (IntKind.u8.wrap (.ofNat m)) (Int.ofNat m) (Z1 m 255) = _
     rw [bleE]
     by_cases h : m ≤ 255
     · rw [decide_eq_true h]; simp only [IntKind.wrap, IntKind.bits, IntKind.signed, Z2]; simp; omega
     · rw [decide_eq_false h]
   · rfl
 · rcases n with m | m
   · show @Bool.rec (fun _ => Int) (IntKind.u32.wrap (.ofNat m)) (Int.ofNat m) (Z1 m 4294967295) = _
     rw [bleE]
     by_cases h : m ≤ 4294967295
     · rw [decide_eq_true h]; simp only [IntKind.wrap, IntKind.bits, IntKind.signed, Z2]; simp; omega
     · rw [decide_eq_false h]
   · rfl
 · rcases n with m | m
   · show @Bool.rec (fun _ => Int) (IntKind.u64.wrap (.ofNat m)) (Int.ofNat m) (Z1 m 18446744073709551615) = _
     rw [bleE]
     by_cases h : m ≤ 18446744073709551615
     · rw [decide_eq_true h]; simp only [IntKind.wrap, IntKind.bits, IntKind.signed, Z2]; simp; omega
     · rw [decide_eq_false h]
   · rfl
noncomputable def kix (k : IntKind) : Nat := @IntKind.casesOn (fun _ => Nat) k 0 1 2 3 4 5 6 7
theorem kix_inj {a b : IntKind} (h : kix a = kix b) : a = b := by cases a <;> cases b <;> first | rfl | (simp [kix] at h)
end
section
inductive Kd where
 | pu (d : D)
 | re (i : Nat) (d : D)
 | st (i : Nat) (ob : Ob)
 | gen
noncomputable def ok {α : Type} (o : Option α) (f : α → Kd) : Kd := @Option.rec α (fun _ => Kd) .gen f o
noncomputable def puO (o : Option D) : Kd := ok o .pu
noncomputable def valK (d : D) (f : Value → Kd) : Kd := @D.casesOn (fun _ => Kd) d .gen (fun x => f x) (fun _ _ => .gen) (fun _ => .gen) (fun _ => .gen) (fun _ => .gen) (fun _ _ => .gen) (fun _ _ => .gen) (fun _ _ _ _ => .gen) (fun _ _ _ _ => .gen) (fun _ _ _ _ _ => .gen) (fun _ => .gen) .gen (fun _ _ => .gen)
noncomputable def intK (x : Value) (f : IntKind → Int → Kd) : Kd := @Value.casesOn (fun _ => Kd) x (fun _ => .gen) (fun k n => f k n) (fun _ _ => .gen) (fun _ _ _ => .gen) (fun _ => .gen) (fun _ => .gen) (fun _ _ _ => .gen) (fun _ => .gen) (fun _ => .gen) (fun _ _ _ => .gen) .gen (fun _ _ => .gen) .gen (fun _ => .gen) (fun _ => .gen)
noncomputable def opI (op : BinOp) (k : IntKind) (a b : Int) : Kd := @BinOp.casesOn (fun _ => IntKind → Int → Int → Kd) op
 (fun k a b => .pu (.v (.int k (wrK k (Int.add a b))))) (fun k a b => .pu (.v (.int k (wrK k (Int.sub a b))))) (fun k a b => .pu (.v (.int k (wrK k (Int.mul a b))))) (fun _ _ _ => .gen) (fun _ _ _ => .gen) (fun _ _ _ => .gen) (fun _ _ _ => .gen) (fun _ _ _ => .gen) (fun _ _ _ => .gen) (fun _ _ _ => .gen) (fun _ _ _ => .gen)
 (fun _ a b => .pu (.v (.bool (ieq a b)))) (fun _ a b => .pu (.v (.bool (bc (ieq a b) false true)))) (fun _ a b => .pu (.v (.bool (ilt a b)))) (fun _ a b => .pu (.v (.bool (bc (ilt b a) false true)))) (fun _ a b => .pu (.v (.bool (ilt b a)))) (fun _ a b => .pu (.v (.bool (bc (ilt a b) false true)))) k a b
noncomputable def binK (op : BinOp) (x y : D) : Kd := valK x fun X => intK X fun j a => valK y fun Y => intK Y fun k b => bc (Z0 (kix j) (kix k)) (opI op j a b) .gen
noncomputable def bolK (x : Value) (f : Bool → Kd) : Kd := @Value.casesOn (fun _ => Kd) x (fun b => f b) (fun _ _ => .gen) (fun _ _ => .gen) (fun _ _ _ => .gen) (fun _ => .gen) (fun _ => .gen) (fun _ _ _ => .gen) (fun _ => .gen) (fun _ => .gen) (fun _ _ _ => .gen) .gen (fun _ _ => .gen) .gen (fun _ => .gen) (fun _ => .gen)
noncomputable def partK (P : Program) (t : TypeId) (ds : List D) (o : Nat) : Option D := @Option.rec Bool (fun _ => Option D) none
 (fun b => @Bool.rec (fun _ => Option D) (nthK ds o) (@Option.rec Nat (fun _ => Option D) none (fun n => bc (Z1 (Z8 o n) (lenK ds 0)) (some (.agg ((ds.drop o).take n))) none) (szT P t)) b) (aggT P t)
theorem Yi8 (P : Program) (t : TypeId) (ds : List D) (o : Nat) : partK P t ds o = getD P t ds o := by
 unfold partK getD
 cases h1 : aggT P t with
 | none => rfl
 | some b =>
  cases b
  · show nthK ds o = _; rw [Ji]
  · cases h2 : szT P t with
    | none => rfl
    | some n =>
     show bc (Z1 (o + n) (lenK ds 0)) _ _ = _
     rw [Wm, Z3, V2, bleE]
     by_cases h : o + n ≤ ds.length
     · simp [h]
     · simp [h]
noncomputable def cellsK (o : Option Ob) (f : List D → Kd) : Kd := ok o fun ob => @Ob.casesOn (fun _ => Kd) ob (fun ds => f ds) (fun _ _ _ => .gen) (fun _ _ => .gen) (fun _ _ _ _ => .gen) .gen .gen
noncomputable def bufK (o : Option Ob) (f : TypeId → Nat → List (List D) → Kd) : Kd := ok o fun ob => @Ob.casesOn (fun _ => Kd) ob (fun _ => .gen) (fun e k xs => f e k xs) (fun _ _ => .gen) (fun _ _ _ _ => .gen) .gen .gen
noncomputable def loaK (P : Program) (h : List Ob) (t : TypeId) (x : D) : Kd := @D.casesOn (fun _ => Kd) x .gen (fun _ => .gen) (fun _ _ => .gen) (fun _ => .gen) (fun _ => .gen) (fun ds => puO (partK P t ds 0))
 (fun i o => cellsK (nthK h i) fun ds => ok (partK P t ds o) fun d => .re i d) (fun _ _ => .gen)
 (fun i n r j => bufK (nthK h i) fun _ _ xs => bc (Z0 (lenK xs 0) n) (ok (nthK xs r) fun row => ok (partK P t row j) fun d => .re i d) .gen) (fun _ _ _ _ => .gen) (fun _ _ _ _ _ => .gen) (fun _ => .gen) .gen (fun _ _ => .gen)
noncomputable def adK (o : Nat) (x : D) : Kd := @D.casesOn (fun _ => Kd) x .gen (fun _ => .gen) (fun _ _ => .gen) (fun _ => .gen) (fun _ => .gen) (fun ds => .pu (.rp (ds.drop o))) (fun i q => .pu (.ptr i (Z8 q o))) (fun _ _ => .gen) (fun i n r j => .pu (.bp i n r (Z8 j o))) (fun _ _ _ _ => .gen) (fun _ _ _ _ _ => .gen) (fun _ => .gen) .gen (fun _ _ => .gen)
def fofT (P : Program) (t f : Nat) : Option Nat := match fldT P t f with
 | some q => if nzT P q.2 then some q.1 else none
 | none => none
noncomputable def faK (P : Program) (t f : Nat) (x : D) : Kd := ok (fofT P t f) fun o => adK o x
def elsT (P : Program) (t : TypeId) : Option Nat := (elT P t).bind (szT P)
noncomputable def ixK (P : Program) (h : List Ob) (t : TypeId) (x i : D) : Kd := valK i fun I => intK I fun _ m => @Int.rec (fun _ => Kd) (fun m => @D.casesOn (fun _ => Kd) x .gen (fun _ => .gen)
  (fun k xs => ok (elsT P t) fun k' => bc (Z0 k' k) (ok (nthK xs m) fun row => .pu (.rp row)) .gen) (fun _ => .gen) (fun _ => .gen) (fun _ => .gen) (fun _ _ => .gen)
  (fun b n => bufK (nthK h b) fun _ k xs => ok (elsT P t) fun k' => bc (Z0 k' k) (bc (Z0 (lenK xs 0) n) (bc (Z1 (Nat.succ m) n) (.re b (.bp b n m 0)) .gen) .gen) .gen)
  (fun _ _ _ _ => .gen) (fun _ _ _ _ => .gen) (fun _ _ _ _ _ => .gen) (fun _ => .gen) .gen (fun _ _ => .gen)) (fun _ => .gen) m
noncomputable def leK (P : Program) (t : TypeId) (x : D) : Kd := bc (slT P t) (@D.casesOn (fun _ => Kd) x .gen (fun X => @Value.casesOn (fun _ => Kd) X (fun _ => .gen) (fun _ _ => .gen) (fun _ _ => .gen) (fun _ _ _ => .gen) (fun _ => .gen) (fun _ => .gen) (fun a n c => @Option.rec Addr (fun _ => Kd) (bc (Z0 n 0) (bc (Z0 c 0) (.pu (.v (.int .i64 (Int.ofNat 0)))) .gen) .gen) (fun _ => .gen) a) (fun _ => .gen) (fun _ => .gen) (fun _ _ _ => .gen) .gen (fun _ _ => .gen) .gen (fun _ => .gen) (fun _ => .gen))
  (fun _ xs => .pu (.v (.int .i64 (Int.ofNat (lenK xs 0))))) (fun _ => .gen) (fun _ => .gen) (fun _ => .gen) (fun _ _ => .gen) (fun _ n => .pu (.v (.int .i64 (Int.ofNat n)))) (fun _ _ _ _ => .gen) (fun _ _ _ _ => .gen) (fun _ _ _ _ _ => .gen) (fun _ => .gen) .gen (fun _ _ => .gen)) .gen
noncomputable def stK (P : Program) (h : List Ob) (t : TypeId) (x y : D) : Kd := ok (szT P t) fun n => ok y.cells fun es => bc (Z0 (lenK es 0) n) (bc (es.all D.one) (@D.casesOn (fun _ => Kd) x .gen (fun _ => .gen) (fun _ _ => .gen) (fun _ => .gen) (fun _ => .gen) (fun _ => .gen)
  (fun i o => cellsK (nthK h i) fun ds => bc (Z1 (Z8 o n) (lenK ds 0)) (.st i (.cells (putL ds o es))) .gen) (fun _ _ => .gen)
  (fun i m r j => bufK (nthK h i) fun e k xs => ok (nthK xs r) fun row => bc (Z0 (lenK xs 0) m) (bc (Z1 (Z8 j n) (lenK row 0)) (.st i (.buf e k (xs.set r (putL row j es)))) .gen) .gen)
  (fun _ _ _ _ => .gen) (fun _ _ _ _ _ => .gen) (fun _ => .gen) .gen (fun _ _ => .gen)) .gen) .gen
noncomputable def kg0 : Program → (Nat → D) → Tr → List Ob → Kd := fun _ _ _ _ => .gen
noncomputable def dispK (op : Op) : Program → (Nat → D) → Tr → List Ob → Kd := @Op.casesOn (fun _ => Program → (Nat → D) → Tr → List Ob → Kd) op
 (fun x _ G t _ => .pu (evK G t x)) -- move
 (fun x _ G t _ => .pu (evK G t x)) -- assign
 (fun c a b _ G t _ => valK (evK G t c) fun X => bolK X fun s => .pu (bc s (evK G t a) (evK G t b))) -- pick
 (fun _ => kg0) -- alloc
 (fun _ _ => kg0) -- box
 (fun t ps P G e h => puO (Zp9 P G e.get (.build t ps))) -- build
 (fun _ _ _ => kg0) -- buildSlice
 (fun _ _ _ _ => kg0) -- insert
 (fun ty x P G t h => loaK P h ty (evK G t x)) -- load
 (fun ty x y P G t h => stK P h ty (evK G t x) (evK G t y)) -- store
 (fun _ => kg0) (fun _ => kg0)
 (fun x P G t h => puO (Zp9 P G t.get (.nilCheck x))) -- nilCheck
 (fun op _ x y _ _ G t _ => binK op (evK G t x) (evK G t y)) -- binOp
 (fun u ty x P G t h => puO (Zp9 P G t.get (.unOp u ty x))) -- unOp
 (fun s d x P G t h => puO (Zp9 P G t.get (.convert s d x))) -- convert
 (fun _ _ => kg0) (fun _ _ => kg0)
 (fun f a b P G t h => puO (Zp9 P G t.get (.makeFunc f a b))) -- makeFunc
 (fun _ _ => kg0) (fun _ _ => kg0) (fun _ _ _ => kg0)
 (fun ty x l hi m P G t h => puO (Zp9 P G t.get (.slice ty x l hi m))) -- slice
 (fun ty x f P G t _ => faK P ty f (evK G t x)) -- fieldAddr
 (fun ty x f P G t h => puO (Zp9 P G t.get (.field ty x f))) -- field
 (fun ty x i P G t h => ixK P h ty (evK G t x) (evK G t i)) -- indexAddr
 (fun ty x i P G t h => puO (Zp9 P G t.get (.index ty x i))) -- index
 (fun _ _ _ _ => kg0) (fun _ _ _ _ => kg0) (fun _ _ _ => kg0) (fun _ _ _ _ => kg0) (fun _ _ => kg0) (fun _ _ => kg0) (fun _ => kg0) (fun _ _ _ _ => kg0)
 (fun x i _ G t _ => puO (extrD i (evK G t x))) -- extract
 (fun c P G t h => @Call.casesOn (fun _ => Kd) c fun cal args tys => @Callee.casesOn (fun _ => Kd) cal (fun _ => .gen) (fun _ _ => .gen) (fun b => @Builtin.casesOn (fun _ => Kd) b .gen .gen .gen .gen .gen .gen .gen .gen (ok args.toList.head? fun x => ok tys.toList.head? fun ty => bc (Z0 (lenK args.toList 0) 1) (bc (Z0 (lenK tys.toList 0) 1) (leK P ty (evK G t x)) .gen) .gen) .gen .gen .gen .gen .gen .gen .gen .gen .gen .gen .gen .gen .gen .gen .gen .gen .gen)) -- call
 (fun _ => kg0) (fun _ => kg0) (fun _ => kg0) (fun _ _ => kg0) (fun _ _ _ => kg0) (fun _ _ => kg0)
/-! That it is right. -/
section
variable {P : Program} {G : Nat → D} {o : Oper} {t : Tr} {h : List Ob}
def KOk (P : Program) (G : Nat → D) (o : Oper) (t : Tr) (h : List Ob) : Kd → Prop
 | .pu d => ∀ h2, OpTri P G o ((opds o.op).map (ev G t.get)) h2 (fun h1 d1 => h1 = h2 ∧ d1 = d)
 | .re i d => ∃ ob, h[i]? = some ob ∧ ∀ h2 : List Ob, h2[i]? = some ob → OpTri P G o ((opds o.op).map (ev G t.get)) h2 (fun h1 d1 => h1 = h2 ∧ d1 = d)
 | .st i ob' => ∃ ob, h[i]? = some ob ∧ ∀ h2 : List Ob, h2[i]? = some ob → OpTri P G o ((opds o.op).map (ev G t.get)) h2 (fun h1 d1 => h1 = h2.set i ob' ∧ d1 = .v undef)
 | .gen => True
theorem kok {α : Type} {x : Option α} {f : α → Kd} (q : ∀ a, x = some a → KOk P G o t h (f a)) : KOk P G o t h (ok x f) := by
 cases x with
 | none => trivial
 | some a => exact q a rfl
theorem kbc {b : Bool} {x y : Kd} (q : b = true → KOk P G o t h x) (r : b = false → KOk P G o t h y) : KOk P G o t h (bc b x y) := by
 cases b
 · exact r rfl
 · exact q rfl
theorem kval {d : D} {f : Value → Kd} (q : ∀ x, d = .v x → KOk P G o t h (f x)) : KOk P G o t h (valK d f) := by cases d <;> first | exact q _ rfl | trivial
theorem kint {x : Value} {f : IntKind → Int → Kd} (q : ∀ k n, x = .int k n → KOk P G o t h (f k n)) : KOk P G o t h (intK x f) := by cases x <;> first | exact q _ _ rfl | trivial
theorem kbol {x : Value} {f : Bool → Kd} (q : ∀ b, x = .bool b → KOk P G o t h (f b)) : KOk P G o t h (bolK x f) := by cases x <;> first | exact q _ rfl | trivial
theorem kcel {x : Option Ob} {f : List D → Kd} (q : ∀ ds, x = some (.cells ds) → KOk P G o t h (f ds)) : KOk P G o t h (cellsK x f) := kok fun ob hb => by cases ob <;> first | exact q _ hb | trivial
theorem kbuf {x : Option Ob} {f : TypeId → Nat → List (List D) → Kd} (q : ∀ e k xs, x = some (.buf e k xs) → KOk P G o t h (f e k xs)) : KOk P G o t h (bufK x f) := kok fun ob hb => by cases ob <;> first | exact q _ _ _ hb | trivial
theorem kpu {d : D} (q : Zp9 P G t.get o.op = some d) : KOk P G o t h (.pu d) := fun h2 => pureF_sound q h2
theorem kpuO : KOk P G o t h (puO (Zp9 P G t.get o.op)) := kok fun _ q => kpu q
end
theorem binK_ok {P : Program} {G : Nat → D} {t : Tr} {h : List Ob} {dst : Option Nat} {ty : TypeId} {pos : String} {aft : Array Edge} {gd : Option (Nat × Bool)} {op : BinOp} {t1 t2 : TypeId} {x y : Operand} : KOk P G ⟨dst, .binOp op t1 x y t2, ty, pos, aft, gd⟩ t h (binK op (evK G t x) (evK G t y)) := by
 rw [U3, U3]
 refine kval fun X hX => kint fun j a hj => kval fun Y hY => kint fun k b hk => kbc (fun hjk => ?_) fun _ => trivial
 have hjk := kix_inj (bqT hjk)
 subst hjk; subst hj; subst hk
 have key : ∀ v, binI op j a b = some v → KOk P G ⟨dst, .binOp op t1 x y t2, ty, pos, aft, gd⟩ t h (.pu (.v v)) := fun v hv => kpu (by
  show (match binN op (ev G t.get x) (ev G t.get y) with
   | some d => some d
   | none => match aF P G t.get [] (.binOp op t1 x y t2) with
    | some ([], d) => some d
    | _ => none) = _
  rw [hX, hY]
  simp only [binN, decide_true, cond_true, hv, Z4])
 have nb : ∀ b : Bool, bc b false true = !b := fun b => by cases b <;> rfl
 cases op <;> try trivial
 · refine key (.int j (wrK j (Int.add a b))) ?_; rw [wrK_eq]; rfl
 · refine key (.int j (wrK j (Int.sub a b))) ?_; rw [wrK_eq]; rfl
 · refine key (.int j (wrK j (Int.mul a b))) ?_; rw [wrK_eq]; rfl
 · refine key (.bool (ieq a b)) ?_; rw [ieq_eq]; rfl
 · refine key (.bool (bc (ieq a b) false true)) ?_; rw [ieq_eq, nb]; rfl
 · refine key (.bool (ilt a b)) ?_; rw [ilt_eq]; rfl
 · refine key (.bool (bc (ilt b a) false true)) ?_
   rw [ilt_eq, nb]
   show some (Value.bool (decide (a ≤ b))) = _
   congr 2
   rw [Z9]; simp
 · refine key (.bool (ilt b a)) ?_; rw [ilt_eq]; rfl
 · refine key (.bool (bc (ilt a b) false true)) ?_
   rw [ilt_eq, nb]
   show some (Value.bool (decide (b ≤ a))) = _
   congr 2
   rw [Z9]; simp
end
section
section
variable {P : Program} {G : Nat → D} {t : Tr} {h : List Ob} {dst : Option Nat} {ty : TypeId} {pos : String} {aft : Array Edge} {gd : Option (Nat × Bool)}
theorem kaF {op : Op} {d : D} (q : ∀ h2, aF P G t.get h2 op = some (h2, d)) : KOk P G ⟨dst, op, ty, pos, aft, gd⟩ t h (.pu d) := fun h2 => Xx (o := ⟨dst, op, ty, pos, aft, gd⟩) (Zh3 (q h2) ⟨rfl, rfl⟩)
theorem kaR {op : Op} {d : D} {i : Nat} {ob : Ob} (hi : nthK h i = some ob) (q : ∀ h2 : List Ob, h2[i]? = some ob → aF P G t.get h2 op = some (h2, d)) : KOk P G ⟨dst, op, ty, pos, aft, gd⟩ t h (.re i d) := ⟨ob, by rw [← Ji]; exact hi, fun h2 k => Xx (o := ⟨dst, op, ty, pos, aft, gd⟩) (Zh3 (q h2 k) ⟨rfl, rfl⟩)⟩
theorem kaS {op : Op} {i : Nat} {ob ob' : Ob} (hi : nthK h i = some ob) (q : ∀ h2 : List Ob, h2[i]? = some ob → aF P G t.get h2 op = some (h2.set i ob', .v undef)) : KOk P G ⟨dst, op, ty, pos, aft, gd⟩ t h (.st i ob') := ⟨ob, by rw [← Ji]; exact hi, fun h2 k => Xx (o := ⟨dst, op, ty, pos, aft, gd⟩) (Zh3 (q h2 k) ⟨rfl, rfl⟩)⟩
theorem loaK_ok {u : TypeId} {x : Operand} : KOk P G ⟨dst, .load u x, ty, pos, aft, gd⟩ t h (loaK P h u (evK G t x)) := by
 rw [U3]
 generalize hx : ev G t.get x = X
 cases X <;> try trivial
 case rp ds =>
  refine kok fun d hd => kaF fun h2 => ?_
  rw [Yi8] at hd
  simp only [aF, V6, hx, Ug, hd, Z4]
 case ptr i o =>
  refine kcel fun ds hds => kok fun d hd => kaR hds fun h2 hi => ?_
  rw [Yi8] at hd
  simp only [aF, V6, hx, Ug, hi, hd, Z4]
 case bp i n r j =>
  refine kbuf fun e k xs hxs => kbc (fun hn => kok fun row hrow => kok fun d hd => kaR hxs fun h2 hi => ?_) fun _ => trivial
  rw [Yi8] at hd
  rw [Ji] at hrow
  have hn := bqT hn
  rw [Wm, Z3] at hn
  simp only [aF, V6, hx, Ug, hi, if_pos hn, hrow, Option.bind_some, hd, Z4]
theorem faK_ok {u f : Nat} {x : Operand} : KOk P G ⟨dst, .fieldAddr u x f, ty, pos, aft, gd⟩ t h (faK P u f (evK G t x)) := by
 rw [U3]
 refine kok fun o ho => ?_
 have key : ∀ d, addD o (ev G t.get x) = some d → ∀ h2, aF P G t.get h2 (.fieldAddr u x f) = some (h2, d) := fun d hd h2 => by
  unfold fofT at ho
  split at ho
  · rename_i q hq
    split at ho
    · rename_i hz
      cases ho
      simp only [aF, V6, Zz2, hq, Option.bind_some, if_pos hz, hd, Z4]
    · cases ho
  · cases ho
 generalize ev G t.get x = X at key ⊢
 cases X <;> first | exact kaF (key _ rfl) | trivial
theorem ixK_ok {u : Nat} {x i : Operand} : KOk P G ⟨dst, .indexAddr u x i, ty, pos, aft, gd⟩ t h (ixK P h u (evK G t x) (evK G t i)) := by
 rw [U3, U3]
 refine kval fun I hI => kint fun k0 m hm => ?_
 subst hm
 rcases m with m | m
 rotate_left
 · trivial
 generalize hx : ev G t.get x = X
 cases X <;> try trivial
 case sl k xs =>
  refine kok fun k' hk' => kbc (fun hk => kok fun row hrow => kaF fun h2 => ?_) fun _ => trivial
  have hk := bqT hk
  rw [Ji] at hrow
  have hlt := (Z7.1 hrow).1
  subst hk
  have h1 : (elT P u).bind (szT P) = some k' := hk'
  have h2' : (0 : Int) ≤ (m : Int) ∧ (m : Int) < (xs.length : Int) := by omega
  simp only [aF, V6, hx, hI, idxF, Z2, h1, h2', and_self, if_true, Int.toNat_natCast, hrow, Z4]
 case buf b n =>
  refine kbuf fun e k xs hxs => kok fun k' hk' => kbc (fun hk => kbc (fun hn => kbc (fun hlt => kaR hxs fun h2 hi => ?_) fun _ => trivial) fun _ => trivial) fun _ => trivial
  have hk := bqT hk
  have hn := bqT hn
  rw [Wm, Z3] at hn
  have hlt := Z5 hlt
  subst hk
  have h1 : (elT P u).bind (szT P) = some k' := hk'
  have h2' : (0 : Int) ≤ (m : Int) ∧ (m : Int) < (n : Int) := by omega
  simp only [aF, V6, hx, hI, idxF, hi, Z2, h1, hn, h2', and_self, if_true, Int.toNat_natCast, Z4]
theorem stK_ok {u : Nat} {x y : Operand} : KOk P G ⟨dst, .store u x y, ty, pos, aft, gd⟩ t h (stK P h u (evK G t x) (evK G t y)) := by
 rw [U3, U3]
 refine kok fun n hn => kok fun es hes => kbc (fun hl => kbc (fun hone => ?_) fun _ => trivial) fun _ => trivial
 have hl := bqT hl
 rw [Wm, Z3] at hl
 subst hl
 have hc : (es.all D.one && szT P u == some es.length) = true := by simp [hone, hn]
 generalize hx : ev G t.get x = X
 cases X <;> try trivial
 case ptr i o =>
  refine kcel fun ds hds => kbc (fun hle => kaS hds fun h2 hi => ?_) fun _ => trivial
  have hle := Z5 hle
  rw [Wm, Z3] at hle
  simp only [aF, hx, J5, hes, hc, if_true, hi, if_pos (show o + es.length ≤ ds.length from hle), Z4]
 case bp i m r j =>
  refine kbuf fun e k xs hxs => kok fun row hrow => kbc (fun hm => kbc (fun hle => kaS hxs fun h2 hi => ?_) fun _ => trivial) fun _ => trivial
  have hm := bqT hm
  rw [Wm, Z3] at hm
  rw [Ji] at hrow
  have hle := Z5 hle
  rw [Wm, Z3] at hle
  simp only [aF, hx, J5, hes, hc, if_true, hi, if_pos hm, hrow, if_pos (show j + es.length ≤ row.length from hle), Z4]
theorem leK_ok {u : Nat} {x : Operand} : KOk P G ⟨dst, .call ⟨.builtin .len, #[x], #[u]⟩, ty, pos, aft, gd⟩ t h (leK P u (evK G t x)) := by
 rw [U3]
 refine kbc (fun hs => ?_) fun _ => trivial
 have key : ∀ d, lenD P u (ev G t.get x) = some d → KOk P G ⟨dst, .call ⟨.builtin .len, #[x], #[u]⟩, ty, pos, aft, gd⟩ t h (.pu d) := fun d hd => kaF fun h2 => by
  show V6 h2 (lenD P u (ev G t.get x)) = _
  rw [hd]; rfl
 generalize hx : ev G t.get x = X
 rw [hx] at key
 cases X <;> try trivial
 case v X =>
  cases X <;> try trivial
  case slice a n c =>
   cases a
   · refine kbc (fun hn => kbc (fun hc => ?_) fun _ => trivial) fun _ => trivial
     have hn := bqT hn
     have hc := bqT hc
     subst hn; subst hc
     exact key _ (lenD_nil hs)
   · trivial
 case sl k xs =>
  refine key _ ?_
  rw [Wm, Z3]; exact lenD_sl hs
 case buf i n => exact key _ (lenD_buf hs)
theorem dispK_ok {op : Op} : KOk P G ⟨dst, op, ty, pos, aft, gd⟩ t h (dispK op P G t h) := by
 cases op <;> try trivial
 case move x => exact kaF fun h2 => by show some (h2, ev G t.get x) = _; rw [U3]
 case assign x => exact kaF fun h2 => by show some (h2, ev G t.get x) = _; rw [U3]
 case pick c x y =>
  show KOk _ _ _ _ _ (valK (evK G t c) fun X => bolK X fun s => .pu (bc s (evK G t x) (evK G t y)))
  rw [U3, U3, U3]
  refine kval fun X hX => kbol fun s hs => kaF fun h2 => ?_
  subst hs
  simp only [aF, hX]
  cases s <;> rfl
 case build t ps => exact kpuO (o := ⟨dst, _, ty, pos, aft, gd⟩)
 case load u x => exact loaK_ok
 case store u x y => exact stK_ok
 case nilCheck x => exact kpuO (o := ⟨dst, _, ty, pos, aft, gd⟩)
 case binOp op t1 x y t2 => exact binK_ok
 case unOp op u x => exact kpuO (o := ⟨dst, _, ty, pos, aft, gd⟩)
 case convert u v x => exact kpuO (o := ⟨dst, _, ty, pos, aft, gd⟩)
 case makeFunc f a b => exact kpuO (o := ⟨dst, _, ty, pos, aft, gd⟩)
 case slice u x l hi m => exact kpuO (o := ⟨dst, _, ty, pos, aft, gd⟩)
 case fieldAddr u x f => exact faK_ok
 case field u x f => exact kpuO (o := ⟨dst, _, ty, pos, aft, gd⟩)
 case indexAddr u x i => exact ixK_ok
 case index u x i => exact kpuO (o := ⟨dst, _, ty, pos, aft, gd⟩)
 case extract x i =>
  show KOk _ _ _ _ _ (puO (extrD i (evK G t x)))
  rw [U3]
  exact kok fun d hd => kaF fun h2 => by simp only [aF, V6, hd, Z4]
 case call c =>
  obtain ⟨cal, args, tys⟩ := c
  cases cal <;> try trivial
  case builtin b =>
  cases b <;> try trivial
  case len =>
   refine kok fun x hx => kok fun u hu => kbc (fun h1 => kbc (fun h2 => ?_) fun _ => trivial) fun _ => trivial
   have h1 := bqT h1
   have h2 := bqT h2
   rw [Wm, Z3] at h1 h2
   have e1 : args = #[x] := by
    obtain ⟨l⟩ := args
    match l, hx, h1 with
    | [a], hx, _ => cases hx; rfl
   have e2 : tys = #[u] := by
    obtain ⟨l⟩ := tys
    match l, hu, h2 with
    | [a], hu, _ => cases hu; rfl
   subst e1; subst e2
   exact leK_ok
end
end
section
noncomputable def posK (i : Nat) (R : List Nat) : Nat → Option Nat := @List.rec Nat (fun _ => Nat → Option Nat) (fun _ => none) (fun a _ ih j => bc (Z0 a i) (some j) (ih (Z8 j 1))) R
theorem posK_eq (i : Nat) : ∀ (R : List Nat) (j : Nat), posK i R j = (pos i R).map (· + j)
 | [], _ => rfl
 | a :: t, j => by
  show bc (Z0 a i) (some j) (posK i t (j + 1)) = _
  rw [V2, posK_eq i t, pos]
  cases Z0 a i
  · simp only [cond_false]
    cases pos i t with
    | none => rfl
    | some k => simp; omega
  · simp
theorem Yd7 (i : Nat) (R : List Nat) : posK i R 0 = pos i R := by rw [posK_eq]; cases pos i R <;> rfl
noncomputable def refsK (d : D) : List Nat → List Nat := @D.rec (fun _ => List Nat → List Nat) (fun _ => List Nat → List Nat) (fun _ => List Nat → List Nat) (fun a => a) (fun _ a => a) (fun _ _ ih => ih) (fun _ ih => ih) (fun _ ih => ih) (fun _ ih => ih) (fun i _ a => i :: a) (fun i _ a => i :: a) (fun i _ _ _ a => i :: a) (fun i _ _ _ a => i :: a) (fun i _ _ _ _ a => i :: a) (fun i a => i :: a) (fun a => a) (fun _ _ ih => ih) (fun a => a) (fun _ _ ih1 ih2 a => ih1 (ih2 a)) (fun a => a) (fun _ _ ih1 ih2 a => ih1 (ih2 a)) d
noncomputable def refsLK (l : List D) : List Nat → List Nat := @List.rec D (fun _ => List Nat → List Nat) (fun a => a) (fun d _ ih a => refsK d (ih a)) l
noncomputable def noR (d : D) : Bool := @D.rec (fun _ => Bool) (fun _ => Bool) (fun _ => Bool) true (fun _ => true) (fun _ _ ih => ih) (fun _ ih => ih) (fun _ ih => ih) (fun _ ih => ih) (fun _ _ => false) (fun _ _ => false) (fun _ _ _ _ => false) (fun _ _ _ _ => false) (fun _ _ _ _ _ => false) (fun _ => false) true (fun _ _ ih => ih) true (fun _ _ ih1 ih2 => @Bool.rec (fun _ => Bool) false ih2 ih1) true (fun _ _ ih1 ih2 => @Bool.rec (fun _ => Bool) false ih2 ih1) d
noncomputable def noR2 (d : List (List D)) : Bool := @D.rec_1 (fun _ => Bool) (fun _ => Bool) (fun _ => Bool) true (fun _ => true) (fun _ _ ih => ih) (fun _ ih => ih) (fun _ ih => ih) (fun _ ih => ih) (fun _ _ => false) (fun _ _ => false) (fun _ _ _ _ => false) (fun _ _ _ _ => false) (fun _ _ _ _ _ => false) (fun _ => false) true (fun _ _ ih => ih) true (fun _ _ ih1 ih2 => @Bool.rec (fun _ => Bool) false ih2 ih1) true (fun _ _ ih1 ih2 => @Bool.rec (fun _ => Bool) false ih2 ih1) d
noncomputable def noR3 (d : List D) : Bool := @D.rec_2 (fun _ => Bool) (fun _ => Bool) (fun _ => Bool) true (fun _ => true) (fun _ _ ih => ih) (fun _ ih => ih) (fun _ ih => ih) (fun _ ih => ih) (fun _ _ => false) (fun _ _ => false) (fun _ _ _ _ => false) (fun _ _ _ _ => false) (fun _ _ _ _ _ => false) (fun _ => false) true (fun _ _ ih => ih) true (fun _ _ ih1 ih2 => @Bool.rec (fun _ => Bool) false ih2 ih1) true (fun _ _ ih1 ih2 => @Bool.rec (fun _ => Bool) false ih2 ih1) d
theorem Yh8 {a b : Bool} (h : @Bool.rec (fun _ => Bool) false b a = true) : a = true ∧ b = true := by cases a <;> cases b <;> first | exact ⟨rfl, rfl⟩ | cases h
mutual
theorem noR_low : ∀ d, noR d = true → low 0 d
 | .any, _ => by rw [low]; trivial
 | .v _, _ => by rw [low]; trivial
 | .sl _ xs, h => by rw [low]; exact noR2_low xs h
 | .agg ds, h => by rw [low]; exact Jb ds h
 | .tup ds, h => by rw [low]; exact Jb ds h
 | .rp ds, h => by rw [low]; exact Jb ds h
 | .ptr _ _, h => by cases h
 | .buf _ _, h => by cases h
 | .bp _ _ _ _, h => by cases h
 | .win _ _ _ _, h => by cases h
 | .arr _ _ _ _ _, h => by cases h
 | .mp _, h => by cases h
 | .e0, _ => by rw [low]; trivial
 | .fn _ ds, h => by rw [low]; exact Jb ds h
theorem Jb : ∀ d, noR3 d = true → lowL 0 d
 | [], _ => by rw [lowL]; trivial
 | d :: t, h => by rw [lowL]; exact ⟨noR_low d (Yh8 h).1, Jb t (Yh8 h).2⟩
theorem noR2_low : ∀ d, noR2 d = true → lowR 0 d
 | [], _ => by rw [lowR]; trivial
 | d :: t, h => by rw [lowR]; exact ⟨Jb d (Yh8 h).1, noR2_low t (Yh8 h).2⟩
end
noncomputable def rnK (R : List Nat) (d : D) : Option D := @D.rec (fun _ => Option D) (fun _ => Option (List (List D))) (fun _ => Option (List D)) (some .any) (fun x => some (.v x)) (fun k _ ih => @Option.rec (List (List D)) (fun _ => Option D) none (fun ys => some (.sl k ys)) ih) (fun _ ih => @Option.rec (List D) (fun _ => Option D) none (fun ys => some (.agg ys)) ih) (fun _ ih => @Option.rec (List D) (fun _ => Option D) none (fun ys => some (.tup ys)) ih) (fun _ ih => @Option.rec (List D) (fun _ => Option D) none (fun ys => some (.rp ys)) ih) (fun i o => @Option.rec Nat (fun _ => Option D) none (fun z => some (.ptr z o)) (posK i R 0)) (fun i n => @Option.rec Nat (fun _ => Option D) none (fun z => some (.buf z n)) (posK i R 0)) (fun i n r j => @Option.rec Nat (fun _ => Option D) none (fun z => some (.bp z n r j)) (posK i R 0)) (fun i n a b => @Option.rec Nat (fun _ => Option D) none (fun z => some (.win z n a b)) (posK i R 0)) (fun i o n c k => @Option.rec Nat (fun _ => Option D) none (fun z => some (.arr z o n c k)) (posK i R 0)) (fun i => @Option.rec Nat (fun _ => Option D) none (fun z => some (.mp z)) (posK i R 0)) (some .e0) (fun f _ ih => @Option.rec (List D) (fun _ => Option D) none (fun ys => some (.fn f ys)) ih) (some []) (fun _ _ ih1 ih2 => @Option.rec (List D) (fun _ => Option (List (List D))) none (fun x => @Option.rec (List (List D)) (fun _ => Option (List (List D))) none (fun y => some (x :: y)) ih2) ih1) (some []) (fun _ _ ih1 ih2 => @Option.rec D (fun _ => Option (List D)) none (fun x => @Option.rec (List D) (fun _ => Option (List D)) none (fun y => some (x :: y)) ih2) ih1) d
noncomputable def rnK2 (R : List Nat) (d : List (List D)) : Option (List (List D)) := @D.rec_1 (fun _ => Option D) (fun _ => Option (List (List D))) (fun _ => Option (List D)) (some .any) (fun x => some (.v x)) (fun k _ ih => @Option.rec (List (List D)) (fun _ => Option D) none (fun ys => some (.sl k ys)) ih) (fun _ ih => @Option.rec (List D) (fun _ => Option D) none (fun ys => some (.agg ys)) ih) (fun _ ih => @Option.rec (List D) (fun _ => Option D) none (fun ys => some (.tup ys)) ih) (fun _ ih => @Option.rec (List D) (fun _ => Option D) none (fun ys => some (.rp ys)) ih) (fun i o => @Option.rec Nat (fun _ => Option D) none (fun z => some (.ptr z o)) (posK i R 0)) (fun i n => @Option.rec Nat (fun _ => Option D) none (fun z => some (.buf z n)) (posK i R 0)) (fun i n r j => @Option.rec Nat (fun _ => Option D) none (fun z => some (.bp z n r j)) (posK i R 0)) (fun i n a b => @Option.rec Nat (fun _ => Option D) none (fun z => some (.win z n a b)) (posK i R 0)) (fun i o n c k => @Option.rec Nat (fun _ => Option D) none (fun z => some (.arr z o n c k)) (posK i R 0)) (fun i => @Option.rec Nat (fun _ => Option D) none (fun z => some (.mp z)) (posK i R 0)) (some .e0) (fun f _ ih => @Option.rec (List D) (fun _ => Option D) none (fun ys => some (.fn f ys)) ih) (some []) (fun _ _ ih1 ih2 => @Option.rec (List D) (fun _ => Option (List (List D))) none (fun x => @Option.rec (List (List D)) (fun _ => Option (List (List D))) none (fun y => some (x :: y)) ih2) ih1) (some []) (fun _ _ ih1 ih2 => @Option.rec D (fun _ => Option (List D)) none (fun x => @Option.rec (List D) (fun _ => Option (List D)) none (fun y => some (x :: y)) ih2) ih1) d
noncomputable def rnK3 (R : List Nat) (d : List D) : Option (List D) := @D.rec_2 (fun _ => Option D) (fun _ => Option (List (List D))) (fun _ => Option (List D)) (some .any) (fun x => some (.v x)) (fun k _ ih => @Option.rec (List (List D)) (fun _ => Option D) none (fun ys => some (.sl k ys)) ih) (fun _ ih => @Option.rec (List D) (fun _ => Option D) none (fun ys => some (.agg ys)) ih) (fun _ ih => @Option.rec (List D) (fun _ => Option D) none (fun ys => some (.tup ys)) ih) (fun _ ih => @Option.rec (List D) (fun _ => Option D) none (fun ys => some (.rp ys)) ih) (fun i o => @Option.rec Nat (fun _ => Option D) none (fun z => some (.ptr z o)) (posK i R 0)) (fun i n => @Option.rec Nat (fun _ => Option D) none (fun z => some (.buf z n)) (posK i R 0)) (fun i n r j => @Option.rec Nat (fun _ => Option D) none (fun z => some (.bp z n r j)) (posK i R 0)) (fun i n a b => @Option.rec Nat (fun _ => Option D) none (fun z => some (.win z n a b)) (posK i R 0)) (fun i o n c k => @Option.rec Nat (fun _ => Option D) none (fun z => some (.arr z o n c k)) (posK i R 0)) (fun i => @Option.rec Nat (fun _ => Option D) none (fun z => some (.mp z)) (posK i R 0)) (some .e0) (fun f _ ih => @Option.rec (List D) (fun _ => Option D) none (fun ys => some (.fn f ys)) ih) (some []) (fun _ _ ih1 ih2 => @Option.rec (List D) (fun _ => Option (List (List D))) none (fun x => @Option.rec (List (List D)) (fun _ => Option (List (List D))) none (fun y => some (x :: y)) ih2) ih1) (some []) (fun _ _ ih1 ih2 => @Option.rec D (fun _ => Option (List D)) none (fun x => @Option.rec (List D) (fun _ => Option (List D)) none (fun y => some (x :: y)) ih2) ih1) d
section
variable (R : List Nat)
mutual
theorem rnK_eq : ∀ d, rnK R d = rnO R d
 | .any => by rw [rnO]; rfl
 | .v _ => by rw [rnO]; rfl
 | .e0 => by rw [rnO]; rfl
 | .sl k xs => by rw [rnO, ← rnK2_eq xs]; show @Option.rec _ _ _ _ (rnK2 R xs) = _; cases rnK2 R xs <;> rfl
 | .agg xs => by rw [rnO, ← Za8 xs]; show @Option.rec _ _ _ _ (rnK3 R xs) = _; cases rnK3 R xs <;> rfl
 | .tup xs => by rw [rnO, ← Za8 xs]; show @Option.rec _ _ _ _ (rnK3 R xs) = _; cases rnK3 R xs <;> rfl
 | .rp xs => by rw [rnO, ← Za8 xs]; show @Option.rec _ _ _ _ (rnK3 R xs) = _; cases rnK3 R xs <;> rfl
 | .fn f xs => by rw [rnO, ← Za8 xs]; show @Option.rec _ _ _ _ (rnK3 R xs) = _; cases rnK3 R xs <;> rfl
 | .ptr i o => by rw [rnO, ← Yd7]; show @Option.rec _ _ _ _ (posK i R 0) = _; cases posK i R 0 <;> rfl
 | .buf i o => by rw [rnO, ← Yd7]; show @Option.rec _ _ _ _ (posK i R 0) = _; cases posK i R 0 <;> rfl
 | .bp i n r c => by rw [rnO, ← Yd7]; show @Option.rec _ _ _ _ (posK i R 0) = _; cases posK i R 0 <;> rfl
 | .win i n r c => by rw [rnO, ← Yd7]; show @Option.rec _ _ _ _ (posK i R 0) = _; cases posK i R 0 <;> rfl
 | .arr i o n c k => by rw [rnO, ← Yd7]; show @Option.rec _ _ _ _ (posK i R 0) = _; cases posK i R 0 <;> rfl
 | .mp i => by rw [rnO, ← Yd7]; show @Option.rec _ _ _ _ (posK i R 0) = _; cases posK i R 0 <;> rfl
theorem Za8 : ∀ d, rnK3 R d = rnL R d
 | [] => by rw [rnL]; rfl
 | d :: t => by
  rw [rnL, ← rnK_eq d, ← Za8 t]
  show @Option.rec _ _ _ _ (rnK R d) = _
  cases rnK R d with
  | none => rfl
  | some x => show @Option.rec _ _ _ _ (rnK3 R t) = _; cases rnK3 R t <;> rfl
theorem rnK2_eq : ∀ d, rnK2 R d = rnR R d
 | [] => by rw [rnR]; rfl
 | d :: t => by
  rw [rnR, ← Za8 d, ← rnK2_eq t]
  show @Option.rec _ _ _ _ (rnK3 R d) = _
  cases rnK3 R d with
  | none => rfl
  | some x => show @Option.rec _ _ _ _ (rnK2 R t) = _; cases rnK2 R t <;> rfl
end
end
noncomputable def rnObK (R : List Nat) (o : Ob) : Option Ob := @Ob.casesOn (fun _ => Option Ob) o (fun ds => @Option.rec (List D) (fun _ => Option Ob) none (fun ys => some (.cells ys)) (rnK3 R ds)) (fun e k xs => @Option.rec (List (List D)) (fun _ => Option Ob) none (fun ys => some (.buf e k ys)) (rnK2 R xs))
 (fun es c => rnOb R (.map es c)) (fun m s l a => rnOb R (.iter m s l a)) (some .hole) (some .dead)
theorem rnObK_eq (R : List Nat) (o : Ob) : rnObK R o = rnOb R o := by
 cases o with
 | cells ds => rw [rnOb, ← Za8]; show @Option.rec _ _ _ _ (rnK3 R ds) = _; cases rnK3 R ds <;> rfl
 | buf e k xs => rw [rnOb, ← rnK2_eq]; show @Option.rec _ _ _ _ (rnK2 R xs) = _; cases rnK2 R xs <;> rfl
 | _ => rfl
noncomputable def rnHK (R : List Nat) (h : List Ob) (l : List Nat) : Option (List Ob) := @List.rec Nat (fun _ => Option (List Ob)) (some []) (fun i _ ih => @Option.rec Ob (fun _ => Option (List Ob)) none (fun ob => @Option.rec Ob (fun _ => Option (List Ob)) none (fun ob' => @Option.rec (List Ob) (fun _ => Option (List Ob)) none (fun t => some (ob' :: t)) ih) (rnObK R ob)) (nthK h i)) l
theorem Yh4 (R : List Nat) (h : List Ob) : ∀ l, rnHK R h l = rnH R h l
 | [] => by rw [rnH]; rfl
 | i :: t => by
  rw [rnH, ← Yh4 R h t, ← Ji]
  show @Option.rec _ _ _ _ (nthK h i) = _
  cases nthK h i with
  | none => rfl
  | some ob =>
   simp only
   rw [← rnObK_eq]
   show @Option.rec _ _ _ _ (rnObK R ob) = _
   cases rnObK R ob with
   | none => rfl
   | some ob' => show @Option.rec _ _ _ _ (rnHK R h t) = _; cases rnHK R h t <;> rfl
noncomputable def memK (i : Nat) (l : List Nat) : Bool := @List.rec Nat (fun _ => Bool) false (fun a _ ih => bc (Z0 a i) true ih) l
theorem Yj4 (i : Nat) : ∀ l, memK i l = memN i l
 | [] => rfl
 | a :: t => by show bc (Z0 a i) true (memK i t) = _; rw [V2, Yj4 i t, memN]
noncomputable def nodupK (l : List Nat) : Bool := @List.rec Nat (fun _ => Bool) true (fun a t ih => bc (memK a t) false ih) l
theorem Zn2 : ∀ l, nodupK l = Jr l
 | [] => rfl
 | a :: t => by show bc (memK a t) false (nodupK t) = _; rw [V2, Yj4, Zn2 t, Jr]
noncomputable def addK (l R : List Nat) : List Nat := @List.rec Nat (fun _ => List Nat → List Nat) (fun R => R) (fun i _ ih R => bc (memK i R) (ih R) (ih (R ++ [i]))) l R
noncomputable def refsObK (o : Ob) : List Nat := @Ob.casesOn (fun _ => List Nat) o (fun ds => refsLK ds []) (fun _ _ xs => refsK (.sl 0 xs) []) (fun es _ => refsOb (.map es 0)) (fun m _ _ _ => [m]) [] []
noncomputable def closeK (h : List Ob) (k : Nat) : Nat → List Nat → List Nat := @Nat.rec (fun _ => Nat → List Nat → List Nat) (fun _ R => R) (fun _ ih j R => @Option.rec Nat (fun _ => List Nat) R (fun i => @Option.rec Ob (fun _ => List Nat) (ih (Z8 j 1) R) (fun ob => ih (Z8 j 1) (addK (refsObK ob) R)) (nthK h i)) (nthK R j)) k
end
section
variable {P : Program} {G : Nat → D} {n : Nat} {h : List Ob} {t : Tr}
inductive Er where
 | no
 | mk (E : Ef) (h : List Ob)
def EffOk (P : Program) (G : Nat → D) (o : Oper) (e : Nat → D) (h : List Ob) (E : Ef) (h' : List Ob) : Prop := YT P G o ((opds o.op).map (ev G e)) E ∧ h.length ≤ h'.length ∧ ∀ T, h'.length - h.length ≤ T → E.ok (h ++ holes T) ∧ E.heap (h ++ holes T) = h' ++ holes (T - (h'.length - h.length))
noncomputable def erO {α : Type} (x : Option α) (f : α → Er) : Er := @Option.rec α (fun _ => Er) .no f x
theorem Zs0 {α : Type} {x : Option α} {f : α → Er} {E : Ef} {h' : List Ob} (q : erO x f = .mk E h') : ∃ a, x = some a ∧ f a = .mk E h' := by
 cases x with
 | none => cases q
 | some a => exact ⟨a, rfl, q⟩
theorem bc_mk {b : Bool} {x : Er} {E : Ef} {h' : List Ob} (q : bc b x .no = .mk E h') : b = true ∧ x = .mk E h' := by
 cases b
 · cases q
 · exact ⟨rfl, q⟩
noncomputable def evL (G : Nat → D) (t : Tr) (l : List Operand) : List D := @List.rec Operand (fun _ => List D) [] (fun x _ ih => evK G t x :: ih) l
theorem evL_eq (G : Nat → D) (t : Tr) : ∀ l, evL G t l = l.map (ev G t.get)
 | [] => rfl
 | x :: l => by show evK G t x :: evL G t l = _; rw [U3, evL_eq G t l]; rfl
noncomputable def appK {α : Type} (a b : List α) : List α := @List.rec α (fun _ => List α) b (fun x _ ih => x :: ih) a
theorem appK_eq {α : Type} (b : List α) : ∀ a, appK a b = a ++ b
 | [] => rfl
 | x :: a => by show x :: appK a b = _; rw [appK_eq b a]; rfl
noncomputable def isCallK (op : Op) : Bool := @Op.casesOn (fun _ => Bool) op (fun _ => false) (fun _ => false) (fun _ _ _ => false) (fun _ => false) (fun _ _ => false) (fun _ _ => false) (fun _ _ _ => false) (fun _ _ _ _ => false) (fun _ _ => false) (fun _ _ _ => false) (fun _ => false) (fun _ => false) (fun _ => false) (fun _ _ _ _ _ => false) (fun _ _ _ => false) (fun _ _ _ => false) (fun _ _ => false) (fun _ _ => false) (fun _ _ _ => false) (fun _ _ => false) (fun _ _ => false) (fun _ _ _ => false) (fun _ _ _ _ _ => false) (fun _ _ _ => false) (fun _ _ _ => false) (fun _ _ _ => false) (fun _ _ _ => false) (fun _ _ _ _ => false) (fun _ _ _ _ => false) (fun _ _ _ => false) (fun _ _ _ _ => false) (fun _ _ => false) (fun _ _ => false) (fun _ => false) (fun _ _ _ _ => false) (fun _ _ => false)
 (fun c => @Call.casesOn (fun _ => Bool) c fun cal _ _ => @Callee.casesOn (fun _ => Bool) cal (fun _ => true) (fun _ _ => false) (fun _ => false)) (fun _ => false) (fun _ => false) (fun _ => false) (fun _ _ => false) (fun _ _ _ => false) (fun _ _ => false)
theorem isCallK_spec {op : Op} (q : isCallK op = true) : ∃ x args tys, op = .call ⟨.value x, args, tys⟩ := by
 cases op <;> try (cases q; done)
 case call c =>
  obtain ⟨cal, args, tys⟩ := c
  cases cal <;> first | exact ⟨_, _, _, rfl⟩ | cases q
noncomputable def goC (cal : Cal) (R : List Nat) (h : List Ob) (args1 : List D) (h1 : List Ob) : Er := @List.casesOn D (fun _ => Er) args1 .no fun x xs => @D.casesOn (fun _ => Er) x .no (fun _ => .no) (fun _ _ => .no) (fun _ => .no) (fun _ => .no) (fun _ => .no) (fun _ _ => .no) (fun _ _ => .no) (fun _ _ _ _ => .no) (fun _ _ _ _ => .no) (fun _ _ _ _ _ => .no) (fun _ => .no) .no
 (fun f cap => erO (cal f (appK xs cap) h1) fun r => @Prod.casesOn (List Ob) D (fun _ => Er) r fun h1' r1 => bc (Z1 (lenK h1 0) (lenK h1' 0)) (.mk (mkEf R h h1 h1' r1) (mkH R h h1')) .no)
noncomputable def effC (G : Nat → D) (cal : Cal) (t : Tr) (h : List Ob) (op : Op) : Er := (fun args => bc (noR3 args) (goC cal [] h args []) ((fun R => erO (rnHK R h R) fun h1 => erO (rnK3 R args) fun args1 => bc (nodupK R) (goC cal R h args1 h1) .no) (closeK h 4000 0 (addK (refsLK args []) [])))) (evL G t (opds op))
noncomputable def goX (P : Program) (G : Nat → D) (R : List Nat) (h : List Ob) (env : Nat → D) (h1 : List Ob) (op : Op) : Er := erO (xF P G env h1 op) fun r => @Prod.casesOn (List Ob) D (fun _ => Er) r fun h1' r1 => bc (Z1 (lenK h1 0) (lenK h1' 0)) (.mk (mkEf R h h1 h1' r1) (mkH R h h1')) .no
noncomputable def renEnvK (R : List Nat) (t : Tr) : Nat → D := fun i => @Option.rec D (fun _ => D) .any (fun d => d) (rnK R (getK t i))
noncomputable def effX (P : Program) (G : Nat → D) (t : Tr) (h : List Ob) (op : Op) : Er := (fun args => bc (noR3 args) (goX P G [] h (getK t) [] op) ((fun R => erO (rnHK R h R) fun h1 => erO (rnK3 R args) fun _ => bc (nodupK R) (goX P G R h (renEnvK R t) h1 op) .no) (closeK h 4000 0 (addK (refsLK args []) [])))) (evL G t (opds op))
theorem renEnvK_eq (R : List Nat) (t : Tr) : renEnvK R t = Zr5 R t.get := funext fun i => by
 show @Option.rec D (fun _ => D) .any (fun d => d) (rnK R (getK t i)) = _
 unfold Zr5
 rw [rnK_eq, Zy6]
 cases rnO R (t.get i) <;> rfl
theorem goC_ok (hG : ∀ g, low 0 (G g)) {cal : Cal} (hc : Yc1 P G cal) {o : Oper} {R : List Nat} {h1 : List Ob} {args1 : List D} {E : Ef} {h' : List Ob} (hcall : isCallK o.op = true) (hr : rnH R h R = some h1) (nd : Jr R = true) (ha : renL (plcN R h.length) args1 = (opds o.op).map (ev G t.get)) (la : lowL R.length args1) (q : goC cal R h args1 h1 = .mk E h') : EffOk P G o t.get h E h' := by
 obtain ⟨dst, op, ty, pos, aft, gd⟩ := o
 obtain ⟨x, args, tys, rfl⟩ := isCallK_spec hcall
 cases args1 with
 | nil => cases q
 | cons y xs =>
 cases y <;> try (cases q; done)
 case fn f cap =>
 obtain ⟨⟨h1', r1⟩, hcal, q⟩ := Zs0 q
 obtain ⟨hle, q⟩ := bc_mk q
 have hle := Z5 hle
 rw [Wm, Wm, Z3, Z3] at hle
 cases q
 rw [appK_eq] at hcal
 have tri : OpTri P G ⟨dst, .call ⟨.value x, args, tys⟩, ty, pos, aft, gd⟩ (.fn f cap :: xs) h1 (fun h2 r => h2 = h1' ∧ r = r1) := by
  rcases hc _ _ _ _ _ hcal with ⟨he, h3⟩ | ⟨_, rfl, h3⟩
  · exact Zu9 he h3
  · exact Yc5 h3
 have := Ye1 hG hr nd hle tri la
 rw [ha] at this
 refine ⟨this.1, by rw [Yj2]; omega, fun T hT => ?_⟩
 rw [Yj2] at hT ⊢
 rw [show h.length + (h1'.length - R.length) - h.length = h1'.length - R.length by omega] at hT ⊢
 exact this.2 T hT
theorem effC_ok (hG : ∀ g, low 0 (G g)) {cal : Cal} (hc : Yc1 P G cal) {o : Oper} {E : Ef} {h' : List Ob} (hcall : isCallK o.op = true) (q : effC G cal t h o.op = .mk E h') : EffOk P G o t.get h E h' := by
 unfold effC at q
 rw [evL_eq] at q
 dsimp only at q
 cases hn : noR3 ((opds o.op).map (ev G t.get))
 · rw [hn] at q
   have q : erO (rnHK _ h _) _ = _ := q
   generalize closeK h 4000 0 _ = R at q
   obtain ⟨h1, hr, q⟩ := Zs0 q
   obtain ⟨args1, ha, q⟩ := Zs0 q
   obtain ⟨nd, q⟩ := bc_mk q
   rw [Yh4] at hr
   rw [Za8] at ha
   rw [Zn2] at nd
   obtain ⟨a1, a2⟩ := J7 (π := plcN R h.length) Vx _ _ ha
   exact goC_ok hG hc hcall hr nd a1 a2 q
 · rw [hn] at q
   have hl := Jb _ hn
   exact goC_ok hG hc hcall (R := []) (by rw [rnH]) rfl (W5 _ _ hl) hl q
theorem goX_ok (hG : ∀ g, low 0 (G g)) {o : Oper} {R : List Nat} {h1 : List Ob} {env : Nat → D} {E : Ef} {h' : List Ob} (hr : rnH R h R = some h1) (nd : Jr R = true) (ha : renL (plcN R h.length) ((opds o.op).map (ev G env)) = (opds o.op).map (ev G t.get)) (la : lowL R.length ((opds o.op).map (ev G env))) (q : goX P G R h env h1 o.op = .mk E h') : EffOk P G o t.get h E h' := by
 obtain ⟨⟨h1', r1⟩, hx, q⟩ := Zs0 q
 obtain ⟨hle, q⟩ := bc_mk q
 have hle := Z5 hle
 rw [Wm, Wm, Z3, Z3] at hle
 cases q
 have := Ye1 hG hr nd hle (xF_sound hx) la
 rw [ha] at this
 refine ⟨this.1, by rw [Yj2]; omega, fun T hT => ?_⟩
 rw [Yj2] at hT ⊢
 rw [show h.length + (h1'.length - R.length) - h.length = h1'.length - R.length by omega] at hT ⊢
 exact this.2 T hT
theorem effX_ok (hG : ∀ g, low 0 (G g)) {o : Oper} {E : Ef} {h' : List Ob} (q : effX P G t h o.op = .mk E h') : EffOk P G o t.get h E h' := by
 unfold effX at q
 rw [evL_eq] at q
 dsimp only at q
 cases hn : noR3 ((opds o.op).map (ev G t.get))
 · rw [hn] at q
   have q : erO (rnHK _ h _) _ = _ := q
   generalize closeK h 4000 0 _ = R at q
   obtain ⟨h1, hr, q⟩ := Zs0 q
   obtain ⟨args1, hl, q⟩ := Zs0 q
   obtain ⟨nd, q⟩ := bc_mk q
   rw [Yh4] at hr
   rw [Za8] at hl
   rw [Zn2] at nd
   rw [renEnvK_eq] at q
   have key : ∀ x ∈ opds o.op, ren (plcN R h.length) (ev G (Zr5 R t.get) x) = ev G t.get x ∧ low R.length (ev G (Zr5 R t.get) x) := fun x hx => by
    cases x with
    | tmp i =>
     have all : ∀ (l : List D) (l' : List D), rnL R l = some l' → ∀ d ∈ l, ∃ d', rnO R d = some d' := fun l => by
      induction l with
      | nil => intro _ _ d hd; simp at hd
      | cons a l ih =>
       intro l' hl' d hd
       rw [rnL] at hl'
       split at hl'
       · rename_i a' ha
         split at hl'
         · rename_i t' ht
           rcases Z6.1 hd with rfl | hd
           · exact ⟨_, ha⟩
           · exact ih _ ht d hd
         · cases hl'
       · cases hl'
     obtain ⟨d, hd⟩ := all _ _ hl _ (List.mem_map.2 ⟨.tmp i, hx, rfl⟩)
     have hd : rnO R (t.get i) = some d := hd
     have e1 : ev G (Zr5 R t.get) (.tmp i) = d := by show Zr5 R t.get i = d; unfold Zr5; rw [hd]
     rw [e1]
     exact Zt0 (π := plcN R h.length) Vx _ _ hd
    | const v => exact ⟨by show ren _ (.v v) = .v v; rw [ren], by show low _ (.v v); rw [low]; trivial⟩
    | global g => exact ⟨J8 _ _ (hG g), low_mono0 (hG g)⟩
    | func f => exact ⟨by show ren _ (.fn f []) = .fn f []; rw [ren, renL], by show low _ (.fn f []); rw [low, lowL]; trivial⟩
   refine goX_ok hG hr nd ?_ ?_ q
   · rw [V7, List.map_map]
     exact List.map_congr_left fun x hx => (key x hx).1
   · exact (Zn5 _ _).2 fun d hd => by
      obtain ⟨x, hx, rfl⟩ := List.mem_map.1 hd
      exact (key x hx).2
 · rw [hn] at q
   have hl := Jb _ hn
   have q : goX P G [] h (getK t) [] o.op = .mk E h' := q
   rw [Zu0] at q
   exact goX_ok hG (R := []) (by rw [rnH]) rfl (W5 _ _ hl) hl q
noncomputable def effK (P : Program) (G : Nat → D) (cal : Cal) (t : Tr) (h : List Ob) (op : Op) : Er := @Kd.casesOn (fun _ => Er) (dispK op P G t h) (fun d => .mk ⟨[], [], d⟩ h) (fun i d => erO (nthK h i) fun ob => .mk ⟨[(i, ob)], [], d⟩ h) (fun i ob' => erO (nthK h i) fun ob => .mk ⟨[(i, ob)], [(i, ob')], .v undef⟩ (h.set i ob')) (bc (isCallK op) (effC G cal t h op) (effX P G t h op))
theorem effK_ok (hG : ∀ g, low 0 (G g)) {cal : Cal} (hc : Yc1 P G cal) {o : Oper} {E : Ef} {h' : List Ob} (q : effK P G cal t h o.op = .mk E h') : EffOk P G o t.get h E h' := by
 have k : KOk P G o t h (dispK o.op P G t h) := by obtain ⟨dst, op, ty, pos, aft, gd⟩ := o; exact dispK_ok
 unfold effK at q
 cases hd : dispK o.op P G t h with
 | pu d =>
  rw [hd] at q k
  cases q
  exact ⟨⟨by simp [Ef.fit], fun h2 _ => by simpa [Ef.heap, Yv] using k h2⟩, Zb _, fun T _ => ⟨by simp [Ef.ok], by simp [Ef.heap, Yv]⟩⟩
 | re i d =>
  rw [hd] at q k
  obtain ⟨ob, hi, q⟩ := Zs0 q
  obtain ⟨ob2, hi2, k⟩ := k
  rw [Ji, hi2] at hi
  cases hi; cases q
  have hlt := (Z7.1 hi2).1
  refine ⟨⟨by simp [Ef.fit], fun h2 kk => by simpa [Ef.heap, Yv] using k h2 (kk (i, ob) (by simp))⟩, Zb _, fun T _ => ⟨fun x hx => ?_, by simp [Ef.heap, Yv]⟩⟩
  have : x = (i, ob) := by simpa using hx
  subst this
  rw [Za hlt]; exact hi2
 | st i ob' =>
  rw [hd] at q k
  obtain ⟨ob, hi, q⟩ := Zs0 q
  obtain ⟨ob2, hi2, k⟩ := k
  rw [Ji, hi2] at hi
  cases hi; cases q
  have hlt := (Z7.1 hi2).1
  refine ⟨⟨by simp [Ef.fit], fun h2 kk => by simpa [Ef.heap, Yv] using k h2 (kk (i, ob) (by simp))⟩, by simp, fun T _ => ⟨fun x hx => ?_, by simp [Ef.heap, Yv, List.set_append_left _ _ hlt]⟩⟩
  have : x = (i, ob) := by simpa using hx
  subst this
  rw [Za hlt]; exact hi2
 | gen =>
  rw [hd] at q
  have q : bc (isCallK o.op) (effC G cal t h o.op) (effX P G t h o.op) = .mk E h' := q
  cases hi : isCallK o.op
  · rw [hi] at q; exact effX_ok hG q
  · rw [hi] at q; exact effC_ok hG hc hi q
theorem effOk_tri {o : Oper} {E : Ef} {h' : List Ob} (q : EffOk P G o t.get h E h') : OpTri P G o ((opds o.op).map (ev G t.get)) h (fun h1 d1 => h1 = h' ∧ d1 = E.d) := by
 obtain ⟨⟨_, y⟩, le, z⟩ := q
 obtain ⟨z1, z2⟩ := z _ (Zb _)
 refine OpTri.holes (h'.length - h.length) ((y _ z1).mono ?_)
 rintro h3 r ⟨rfl, rfl⟩
 refine ⟨?_, rfl⟩
 rw [z2]; simp [holes]
end
section
variable {P : Program} {G : Nat → D} {n : Nat} {h : List Ob} {t : Tr}
inductive Rs where
 | no
 | mk (e : Exit) (t : Tr) (h : List Ob)
noncomputable def putK {α : Type} (n : Nat) (t : Tr) (dst : Option Nat) (d : D) (z : α) (f : Tr → α) : α := @Option.rec Nat (fun _ => α) (f t) (fun i => bc (Z1 (Nat.succ i) n) (bc (Z1 i 4094) (f (setK t i d)) z) (f t)) dst
theorem Zm6 {α : Type} {dst : Option Nat} {d : D} {z r : α} {f : Tr → α} (q : putK n t dst d z f = r) (hz : z ≠ r) : ∃ t', t'.get = putE n t.get dst d ∧ f t' = r := by
 cases dst with
 | none => exact ⟨t, rfl, q⟩
 | some i =>
  have q : bc (Z1 (i + 1) n) (bc (Z1 i 4094) (f (setK t i d)) z) (f t) = r := q
  rw [bleE, bleE] at q
  by_cases h1 : i + 1 ≤ n
  · rw [decide_eq_true h1] at q
    by_cases h2 : i ≤ 4094
    · rw [decide_eq_true h2] at q
      refine ⟨_, ?_, q⟩
      unfold putE
      simp only [if_pos (show i < n by omega)]
      funext j
      rw [Zs9 t i d j (by omega)]; rfl
    · rw [decide_eq_false h2] at q; exact absurd q hz
  · rw [decide_eq_false h1] at q
    exact ⟨t, by unfold putE; simp only [if_neg (show ¬ i < n by omega)], q⟩
noncomputable def gdK {α : Type} (ops : Array Oper) (t : Tr) (g : Option (Nat × Bool)) (z f1 f0 : α) : α := @Option.rec (Nat × Bool) (fun _ => α) f1 (fun g => @Option.rec Bool (fun _ => α) z (fun b => bc b f1 f0) (Yc ops (some g) (getK t))) g
theorem gdK_spec {α : Type} {ops : Array Oper} {g : Option (Nat × Bool)} {z f1 f0 r : α} (q : gdK ops t g z f1 f0 = r) (hz : z ≠ r) : (Yc ops g t.get = some true ∧ f1 = r) ∨ (Yc ops g t.get = some false ∧ f0 = r) := by
 cases g with
 | none => exact .inl ⟨rfl, q⟩
 | some g =>
  have q : @Option.rec Bool (fun _ => α) z (fun b => bc b f1 f0) (Yc ops (some g) (getK t)) = r := q
  rw [Zu0] at q
  cases hw : Yc ops (some g) t.get with
  | none => rw [hw] at q; exact absurd q hz
  | some b =>
   rw [hw] at q
   cases b
   · exact .inr ⟨rfl, q⟩
   · exact .inl ⟨rfl, q⟩
inductive Sr where
 | no
 | mk (t : Tr) (h : List Ob)
noncomputable def seqK (P : Program) (G : Nat → D) (cal : Cal) (n : Nat) (ops : Array Oper) (l : List Oper) : Tr → List Ob → Sr := @List.rec Oper (fun _ => Tr → List Ob → Sr) (fun t h => .mk t h)
 (fun o _ ih t h => gdK ops t o.guard .no
  (@Kd.casesOn (fun _ => Sr) (dispK o.op P G t h) (fun d => putK n t o.dst d .no fun t' => ih t' h) (fun _ d => putK n t o.dst d .no fun t' => ih t' h) (fun i ob' => putK n t o.dst (.v undef) .no fun t' => ih t' (h.set i ob'))
   (bc (isCallK o.op) (@Er.casesOn (fun _ => Sr) (effC G cal t h o.op) .no fun E h' => putK n t o.dst E.d .no fun t' => ih t' h')
    (@Option.rec (List Ob × D) (fun _ => Sr) .no (fun r => @Prod.casesOn (List Ob) D (fun _ => Sr) r fun h' d => putK n t o.dst d .no fun t' => ih t' h') (xF P G (getK t) h o.op))))
  (putK n t o.dst (.v undef) .no fun t' => ih t' h)) l
theorem seqK_ok (hG : ∀ g, low 0 (G g)) {cal : Cal} (hc : Yc1 P G cal) {ops : Array Oper} {t' : Tr} {h' : List Ob} {Q : S → Prop} (k : Q ⟨n, t'.get, h'⟩) : ∀ (l : List Oper) (t : Tr) (h : List Ob), seqK P G cal n ops l t h = .mk t' h' → ao P G ops l Q ⟨n, t.get, h⟩
 | [], t, h, q => by cases q; exact Xi k
 | o :: rest, t, h, q => by
  have nn : Sr.no ≠ .mk t' h' := fun h => by cases h
  rcases gdK_spec (z := Sr.no) q nn with ⟨hw, q⟩ | ⟨hw, q⟩
  · have kk : KOk P G o t h (dispK o.op P G t h) := by obtain ⟨dst, op, ty, pos, aft, gd⟩ := o; exact dispK_ok
    have go : ∀ (h2 : List Ob) (d : D), OpTri P G o ((opds o.op).map (ev G t.get)) h (fun h1 d1 => h1 = h2 ∧ d1 = d) → putK n t o.dst d Sr.no (fun t2 => seqK P G cal n ops rest t2 h2) = .mk t' h' → ao P G ops (o :: rest) Q ⟨n, t.get, h⟩ := fun h2 d tri q => by
     obtain ⟨t2, e, q⟩ := Zm6 q nn
     have := seqK_ok hG hc k rest t2 h2 q
     rw [e] at this
     exact ao_tri hw tri this
    cases hd : dispK o.op P G t h with
    | pu d => rw [hd] at q kk; exact go h d (kk h) q
    | re i d =>
     rw [hd] at q kk
     obtain ⟨ob, hi, kk⟩ := kk
     exact go h d (kk h hi) q
    | st i ob' =>
     rw [hd] at q kk
     obtain ⟨ob, hi, kk⟩ := kk
     exact go _ _ (kk h hi) q
    | gen =>
     rw [hd] at q
     have q : bc (isCallK o.op) _ _ = Sr.mk t' h' := q
     cases hcall : isCallK o.op
     · rw [hcall] at q
       have q : @Option.rec (List Ob × D) (fun _ => Sr) .no _ (xF P G (getK t) h o.op) = Sr.mk t' h' := q
       rw [Zu0] at q
       cases hx : xF P G t.get h o.op with
       | none => rw [hx] at q; cases q
       | some r =>
        rw [hx] at q
        obtain ⟨h2, d⟩ := r
        exact go h2 d (xF_sound hx) q
     · rw [hcall] at q
       have q : @Er.casesOn (fun _ => Sr) (effC G cal t h o.op) .no _ = Sr.mk t' h' := q
       cases he : effC G cal t h o.op with
       | no => rw [he] at q; cases q
       | mk E h2 =>
        rw [he] at q
        exact go h2 E.d (effOk_tri (effC_ok hG hc hcall he)) q
  · obtain ⟨t2, e, q⟩ := Zm6 q nn
    have := seqK_ok hG hc k rest t2 h q
    rw [e] at this
    exact ao_triN hw this
inductive Dr where
 | no
 | mk (t : Tr) (h : List Ob) (es : List Ef)
noncomputable def dcons (E : Ef) (r : Dr) : Dr := @Dr.casesOn (fun _ => Dr) r .no fun t h es => .mk t h (E :: es)
noncomputable def drawK (P : Program) (G : Nat → D) (cal : Cal) (n : Nat) (ops : Array Oper) (l : List Oper) : Tr → List Ob → Dr := @List.rec Oper (fun _ => Tr → List Ob → Dr) (fun t h => .mk t h [])
 (fun o _ ih t h => gdK ops t o.guard .no
  (@Er.casesOn (fun _ => Dr) (effK P G cal t h o.op) .no fun E h' => putK n t o.dst E.d .no fun t' => dcons E (ih t' h'))
  (putK n t o.dst (.v undef) .no fun t' => dcons nopF (ih t' h))) l
theorem dcons_mk {E : Ef} {r : Dr} {h : List Ob} {es : List Ef} (q : dcons E r = .mk t h es) : ∃ es', es = E :: es' ∧ r = .mk t h es' := by
 cases r with
 | no => cases q
 | mk a b c => cases q; exact ⟨c, rfl, rfl⟩
theorem Yl6 (hG : ∀ g, low 0 (G g)) {cal : Cal} (hc : Yc1 P G cal) {ops : Array Oper} : ∀ (l : List Oper) (t : Tr) (h : List Ob) (t' : Tr) (h' : List Ob) (es : List Ef), drawK P G cal n ops l t h = .mk t' h' es → es.length = l.length ∧ h.length ≤ h'.length ∧
 ∀ (ef : Nat → Ef) (k : Nat), (∀ j E, es[j]? = some E → ef (k + j) = E) → ∀ T, h'.length - h.length ≤ T → ∀ Q : (Nat → D) → List Ob → Prop, Q t'.get (h' ++ holes (T - (h'.length - h.length))) → af P G n ops ef Q k l t.get (h ++ holes T)
 | [], t, h, t', h', es, q => by
  cases q
  exact ⟨rfl, Zb _, fun ef k _ T hT Q hQ => by rw [af]; simpa using hQ⟩
 | o :: rest, t, h, t', h', es, q => by
  have nn : Dr.no ≠ .mk t' h' es := fun h => by cases h
  rcases gdK_spec (z := Dr.no) q nn with ⟨hw, q⟩ | ⟨hw, q⟩
  · have q : @Er.casesOn (fun _ => Dr) (effK P G cal t h o.op) .no _ = Dr.mk t' h' es := q
    cases he : effK P G cal t h o.op with
    | no => rw [he] at q; cases q
    | mk E h2 =>
     rw [he] at q
     obtain ⟨t2, e, q⟩ := Zm6 (z := Dr.no) q nn
     obtain ⟨es', hes, q2⟩ := dcons_mk q
     subst hes
     obtain ⟨a1, a2, a3⟩ := Yl6 hG hc rest t2 h2 t' h' es' q2
     obtain ⟨y, le, z⟩ := effK_ok hG hc he
     refine ⟨by simp [a1], by omega, fun ef k hef T hT Q hQ => ?_⟩
     have hE0 : ef k = E := hef 0 E rfl
     obtain ⟨z1, z2⟩ := z T (by omega)
     rw [af, hE0]
     refine ⟨.inl ⟨hw, y⟩, z1, ?_⟩
     rw [z2, ← e]
     refine a3 ef (k + 1) (fun j E' hj => by rw [show k + 1 + j = k + (j + 1) by omega]; exact hef (j + 1) E' (by simpa using hj)) _ (by omega) Q ?_
     rw [show T - (h2.length - h.length) - (h'.length - h2.length) = T - (h'.length - h.length) by omega]; exact hQ
  · obtain ⟨t2, e, q⟩ := Zm6 (z := Dr.no) q nn
    obtain ⟨es', hes, q2⟩ := dcons_mk q
    subst hes
    obtain ⟨a1, a2, a3⟩ := Yl6 hG hc rest t2 h t' h' es' q2
    refine ⟨by simp [a1], a2, fun ef k hef T hT Q hQ => ?_⟩
    have hE0 : ef k = nopF := hef 0 nopF rfl
    rw [af, hE0]
    refine ⟨.inr ⟨hw, rfl⟩, by simp [nopF, Ef.ok], ?_⟩
    have e1 : nopF.heap (h ++ holes T) = h ++ holes T := by simp [nopF, Ef.heap, Yv]
    rw [e1]
    show af P G n ops ef Q (k + 1) rest (putE n t.get o.dst (.v undef)) _
    rw [← e]
    exact a3 ef (k + 1) (fun j E' hj => by rw [show k + 1 + j = k + (j + 1) by omega]; exact hef (j + 1) E' (by simpa using hj)) T hT Q hQ
/-! May the operations change places? Only those that write are looked at. -/
noncomputable def ap1 (k : Nat) (b : List (Nat × Ob)) : Bool := @List.rec (Nat × Ob) (fun _ => Bool) true (fun y _ ih2 => bc (Z0 k y.1) false ih2) b
noncomputable def apK (a b : List (Nat × Ob)) : Bool := @List.rec (Nat × Ob) (fun _ => Bool) true (fun x _ ih => bc (ap1 x.1 b) ih false) a
theorem ap1_spec (k : Nat) : ∀ b : List (Nat × Ob), ap1 k b = true → ∀ y ∈ b, k ≠ y.1
 | [], _, y, hy => by simp at hy
 | w :: b, q, y, hy => by
  have q : bc (Z0 k w.1) false (ap1 k b) = true := q
  rw [V2] at q
  cases hw : Z0 k w.1
  · rw [hw] at q
    rcases Z6.1 hy with rfl | hy
    · exact bqF hw
    · exact ap1_spec k b q y hy
  · rw [hw] at q; cases q
theorem apK_spec : ∀ (a b : List (Nat × Ob)), apK a b = true → ∀ x ∈ a, ∀ y ∈ b, x.1 ≠ y.1
 | [], _, _, x, hx => by simp at hx
 | z :: a, b, q, x, hx => by
  have q : bc (ap1 z.1 b) (apK a b) false = true := q
  rw [V2] at q
  cases hz : ap1 z.1 b
  · rw [hz] at q; cases q
  · rw [hz] at q
    rcases Z6.1 hx with rfl | hx
    · exact ap1_spec _ _ hz
    · exact apK_spec a b q x hx
noncomputable def chkR (ops : Array Oper) (i : Nat) (W : List (Nat × Ob)) (es : List Ef) : Nat → Bool := @List.rec Ef (fun _ => Nat → Bool) (fun _ => true) (fun F _ ih j => bc (bc (Z0 i j) true (bc (apK W F.R) true (bc (Z1 i j) (twB .any ops 12 j i) (twB .any ops 12 i j)))) (ih (Z8 j 1)) false) es
noncomputable def chkK (ops : Array Oper) (all es : List Ef) : Nat → Bool := @List.rec Ef (fun _ => Nat → Bool) (fun _ => true) (fun E _ ih i => bc (@List.casesOn (Nat × Ob) (fun _ => Bool) E.W true fun _ _ => chkR ops i E.W all 0) (ih (Z8 i 1)) false) es
theorem Ya4 {ops : Array Oper} {i : Nat} {W : List (Nat × Ob)} : ∀ (es : List Ef) (k j : Nat) (F : Ef), chkR ops i W es k = true → es[j]? = some F → i ≠ k + j → (∀ x ∈ W, ∀ y ∈ F.R, x.1 ≠ y.1) ∨ (i < k + j ∧ twB .any ops 12 (k + j) i = true) ∨ (k + j < i ∧ twB .any ops 12 i (k + j) = true)
 | [], _, _, _, _, q, _ => by simp at q
 | F :: es, k, j, F', q, r, hne => by
  have q : bc (bc (Z0 i k) true (bc (apK W F.R) true (bc (Z1 i k) (twB .any ops 12 k i) (twB .any ops 12 i k)))) (chkR ops i W es (k + 1)) false = true := q
  rw [V2, V2, V2, V2] at q
  cases j with
  | zero =>
   simp at r; subst r
   rw [Nat.add_zero] at hne ⊢
   have hb : Z0 i k = false := by rw [bqE]; exact decide_eq_false hne
   rw [hb] at q
   simp only [cond_false] at q
   cases ha : apK W F.R
   · rw [ha] at q
     simp only [cond_false] at q
     rw [bleE] at q
     by_cases hle : i ≤ k
     · rw [decide_eq_true hle] at q
       simp only [cond_true] at q
       refine .inr (.inl ⟨by omega, ?_⟩)
       cases ht : twB .any ops 12 k i
       · rw [ht] at q; cases q
       · rfl
     · rw [decide_eq_false hle] at q
       simp only [cond_false] at q
       refine .inr (.inr ⟨by omega, ?_⟩)
       cases ht : twB .any ops 12 i k
       · rw [ht] at q; cases q
       · rfl
   · exact .inl (apK_spec _ _ ha)
  | succ j =>
   rw [show k + (j + 1) = k + 1 + j by omega] at hne ⊢
   refine Ya4 es (k + 1) j F' ?_ (by simpa using r) hne
   generalize (bif Z0 i k then true else _ : Bool) = b at q
   cases b
   · cases q
   · exact q
theorem Ya5 {ops : Array Oper} {all : List Ef} : ∀ (es : List Ef) (k i : Nat) (E : Ef), chkK ops all es k = true → es[i]? = some E → E.W = [] ∨ chkR ops (k + i) E.W all 0 = true
 | [], _, _, _, _, q => by simp at q
 | F :: es, k, i, E, q, r => by
  have q : bc (@List.casesOn (Nat × Ob) (fun _ => Bool) F.W true fun _ _ => chkR ops k F.W all 0) (chkK ops all es (k + 1)) false = true := q
  rw [V2] at q
  cases hW : (@List.casesOn (Nat × Ob) (fun _ => Bool) F.W true fun _ _ => chkR ops k F.W all 0 : Bool)
  · rw [hW] at q; cases q
  rw [hW] at q
  cases i with
  | zero =>
   simp at r; subst r
   rw [Nat.add_zero]
   cases hw : F.W with
   | nil => exact .inl rfl
   | cons a b => rw [hw] at hW; exact .inr hW
  | succ i => rw [show k + (i + 1) = k + 1 + i by omega]; exact Ya5 es (k + 1) i E q (by simpa using r)
theorem chkK_comp {ops : Array Oper} {es : List Ef} (q : chkK ops es es 0 = true) {i j : Nat} {E F : Ef} (hi : es[i]? = some E) (hj : es[j]? = some F) (hlt : i < j) : twB .any ops 12 j i = true ∨ compF E F := by
 have h1 := Ya5 es 0 i E q hi
 have h2 := Ya5 es 0 j F q hj
 rw [Z3] at h1 h2
 by_cases ht : twB .any ops 12 j i = true
 · exact .inl ht
 · right
   constructor
   · rcases h1 with h1 | h1
     · rw [h1]; intro x hx; simp at hx
     · rcases Ya4 es 0 j F h1 hj (by omega) with h | ⟨_, h⟩ | ⟨h, _⟩
       · exact h
       · rw [Z3] at h; exact absurd h ht
       · omega
   · rcases h2 with h2 | h2
     · rw [h2]; intro x hx; simp at hx
     · rcases Ya4 es 0 i E h2 hi (by omega) with h | ⟨h, _⟩ | ⟨_, h⟩
       · exact h
       · omega
       · rw [Z3] at h; exact absurd h ht
/-! The text's order is one of the orders, and what waits for nothing stands apart. -/
noncomputable def onsK (l : List Edge) : List Nat := @List.rec Edge (fun _ => List Nat) [] (fun e _ ih => bc (Region.binds .any e) (e.on :: ih) ih) l
theorem Yi9 : ∀ (l : List Edge) (x : Nat), x ∈ onsK l ↔ ∃ e ∈ l, Region.binds .any e = true ∧ e.on = x
 | [], x => by simp [onsK]
 | e :: l, x => by
  show x ∈ bc (Region.binds .any e) (e.on :: onsK l) (onsK l) ↔ _
  rw [V2]
  have ih := Yi9 l x
  cases hb : Region.binds .any e
  · simp only [cond_false, ih]
    constructor
    · rintro ⟨y, h1, h2⟩; exact ⟨y, by simp [h1], h2⟩
    · rintro ⟨y, h1, h2, h3⟩
      rcases Z6.1 h1 with rfl | h1
      · rw [hb] at h2; cases h2
      · exact ⟨y, h1, h2, h3⟩
  · simp only [cond_true, Z6, ih]
    constructor
    · rintro (rfl | ⟨y, h1, h2⟩)
      · exact ⟨e, by simp, hb, rfl⟩
      · exact ⟨y, by simp [h1], h2⟩
    · rintro ⟨y, h1, h2, h3⟩
      rcases h1 with rfl | h1
      · exact .inl h3.symm
      · exact .inr ⟨y, h1, h2, h3⟩
noncomputable def memO (d : Option Nat) (l : List Nat) : Bool := @Option.rec Nat (fun _ => Bool) false (fun i => memK i l) d
noncomputable def eqO (a b : Option Nat) : Bool := @Option.rec Nat (fun _ => Bool) false (fun i => @Option.rec Nat (fun _ => Bool) false (fun j => Z0 i j) b) a
noncomputable def apartK (d : Option Nat) (l : List Nat) (d2 : Option Nat) (l2 : List Nat) : Bool := bc (memO d l2) false (bc (eqO d d2) false (bc (memO d2 l) false true))
structure Seen where
 k : Nat
 d : Option Nat
 l : List Nat
noncomputable def lexQ (ops : Array Oper) (l : List Oper) : Nat → List Seen → Bool := @List.rec Oper (fun _ => Nat → List Seen → Bool) (fun _ _ => true)
 (fun o _ ih j acc => (fun ons lk => bc (@List.rec Nat (fun _ => Bool) true (fun k _ ih2 => bc (Z1 (Nat.succ k) j) ih2 false) ons)
   (bc (@List.rec Seen (fun _ => Bool) true (fun s _ ih2 => bc (bc (memK s.k ons) true (apartK s.d s.l o.dst lk)) ih2 false) acc) (ih (Z8 j 1) (⟨j, o.dst, lk⟩ :: acc)) false) false) (onsK o.after.toList) (o.looksAt ops)) l
theorem apartK_spec {x y : Oper} {ops : Array Oper} (q : apartK x.dst (x.looksAt ops) y.dst (y.looksAt ops) = true) : x.apart ops y = true := by
 unfold apartK at q
 rw [V2, V2, V2] at q
 have mem : ∀ (i : Nat) (l : List Nat), memK i l = l.contains i := fun i l => by
  rw [Yj4, Z9, Zt7]; simp
 cases hx : x.dst with
 | none =>
  cases hy : y.dst with
  | none => unfold Oper.apart; rw [hx, hy]; rfl
  | some e =>
   rw [hx, hy] at q
   simp only [memO, eqO, cond_false, mem] at q
   unfold Oper.apart; rw [hx, hy]
   cases hc : (x.looksAt ops).contains e
   · simp only [hc]; rfl
   · rw [hc] at q; cases q
 | some d =>
  rw [hx] at q
  simp only [memO, mem] at q
  cases hc : (y.looksAt ops).contains d
  rotate_left
  · rw [hc] at q; cases q
  rw [hc] at q
  simp only [cond_false] at q
  cases hy : y.dst with
  | none => unfold Oper.apart; rw [hx, hy]; simp only [hc]; rfl
  | some e =>
   rw [hy] at q
   simp only [eqO] at q
   cases hde : Z0 d e
   rotate_left
   · rw [hde] at q; cases q
   rw [hde] at q
   simp only [cond_false] at q
   cases hc2 : (x.looksAt ops).contains e
   rotate_left
   · rw [hc2] at q; cases q
   have hne := bqF hde
   unfold Oper.apart; rw [hx, hy]; simp only [hc, hc2]
   simp; exact Ne.symm hne
structure LexOk (ops : Array Oper) : Prop where
 back : ∀ j oj, ops[j]? = some oj → ∀ e ∈ oj.after, Region.binds .any e = true → e.on < j
 apart : ∀ i j oi oj, i < j → ops[i]? = some oi → ops[j]? = some oj → (∀ e ∈ oj.after, Region.binds .any e = true → e.on ≠ i) → oi.apart ops oj = true
theorem lexQ_spec {ops : Array Oper} : ∀ (l : List Oper) (j : Nat) (acc : List Seen), lexQ ops l j acc = true → (∀ i, l[i]? = ops[j + i]?) → (∀ i oi, i < j → ops[i]? = some oi → ⟨i, oi.dst, oi.looksAt ops⟩ ∈ acc) →
 ∀ i oi, l[i]? = some oi → (∀ e ∈ oi.after, Region.binds .any e = true → e.on < j + i) ∧ ∀ k ok, k < j + i → ops[k]? = some ok → (∀ e ∈ oi.after, Region.binds .any e = true → e.on ≠ k) → ok.apart ops oi = true
 | [], _, _, _, _, _, _, _, q => by simp at q
 | o :: l, j, acc, q, hl, hacc, i, oi, hi => by
  have q : bc (@List.rec Nat (fun _ => Bool) true (fun k _ ih2 => bc (Z1 (Nat.succ k) j) ih2 false) (onsK o.after.toList))
   (bc (@List.rec Seen (fun _ => Bool) true (fun s _ ih2 => bc (bc (memK s.k (onsK o.after.toList)) true (apartK s.d s.l o.dst (o.looksAt ops))) ih2 false) acc) (lexQ ops l (j + 1) (⟨j, o.dst, o.looksAt ops⟩ :: acc)) false) false = true := q
  rw [V2, V2] at q
  have hA : ∀ ons : List Nat, @List.rec Nat (fun _ => Bool) true (fun k _ ih2 => bc (Z1 (Nat.succ k) j) ih2 false) ons = true → ∀ k ∈ ons, k < j := fun ons => by
   induction ons with
   | nil => intro _ k hk; simp at hk
   | cons a ons ih =>
    intro h k hk
    have h : bc (Z1 (a + 1) j) (@List.rec Nat (fun _ => Bool) true (fun k _ ih2 => bc (Z1 (Nat.succ k) j) ih2 false) ons) false = true := h
    rw [V2, bleE] at h
    by_cases ha : a + 1 ≤ j
    · rw [decide_eq_true ha] at h
      rcases Z6.1 hk with rfl | hk
      · omega
      · exact ih h k hk
    · rw [decide_eq_false ha] at h; cases h
  have hB : ∀ acc : List Seen, @List.rec Seen (fun _ => Bool) true (fun s _ ih2 => bc (bc (memK s.k (onsK o.after.toList)) true (apartK s.d s.l o.dst (o.looksAt ops))) ih2 false) acc = true → ∀ s ∈ acc, memK s.k (onsK o.after.toList) = true ∨ apartK s.d s.l o.dst (o.looksAt ops) = true := fun acc => by
   induction acc with
   | nil => intro _ k hk; simp at hk
   | cons a acc ih =>
    intro h s hs
    have h : bc (bc (memK a.k (onsK o.after.toList)) true (apartK a.d a.l o.dst (o.looksAt ops))) (@List.rec Seen (fun _ => Bool) true (fun s _ ih2 => bc (bc (memK s.k (onsK o.after.toList)) true (apartK s.d s.l o.dst (o.looksAt ops))) ih2 false) acc) false = true := h
    rw [V2, V2] at h
    cases hm : memK a.k (onsK o.after.toList)
    · rw [hm] at h
      simp only [cond_false] at h
      cases hp : apartK a.d a.l o.dst (o.looksAt ops)
      · rw [hp] at h; cases h
      · rw [hp] at h
        rcases Z6.1 hs with rfl | hs
        · exact .inr hp
        · exact ih h s hs
    · rw [hm] at h
      rcases Z6.1 hs with rfl | hs
      · exact .inl hm
      · exact ih h s hs
  cases h1 : (@List.rec Nat (fun _ => Bool) true (fun k _ ih2 => bc (Z1 (Nat.succ k) j) ih2 false) (onsK o.after.toList) : Bool)
  · rw [h1] at q; cases q
  rw [h1] at q
  simp only [cond_true] at q
  cases h2 : (@List.rec Seen (fun _ => Bool) true (fun s _ ih2 => bc (bc (memK s.k (onsK o.after.toList)) true (apartK s.d s.l o.dst (o.looksAt ops))) ih2 false) acc : Bool)
  · rw [h2] at q; cases q
  rw [h2] at q
  simp only [cond_true] at q
  have h0 : ops[j]? = some o := by simpa using (hl 0).symm
  cases i with
  | zero =>
   simp at hi; subst hi
   rw [Nat.add_zero]
   refine ⟨fun e he hb => hA _ h1 _ ((Yi9 _ _).2 ⟨e, by simpa using he, hb, rfl⟩), fun k ok hk hok hno => ?_⟩
   rcases hB _ h2 _ (hacc k ok hk hok) with hm | hp
   · exfalso
     rw [Yj4, Zt7, Yi9] at hm
     obtain ⟨e, h3, h4, h5⟩ := hm
     exact hno e (by simpa using h3) h4 h5
   · exact apartK_spec hp
  | succ i =>
   rw [show j + (i + 1) = j + 1 + i by omega]
   refine lexQ_spec l (j + 1) _ q (fun i => by have := hl (i + 1); simpa [Nat.add_assoc, Nat.add_comm 1 i] using this) (fun k ok hk hok => ?_) i oi (by simpa using hi)
   rcases Nat.lt_or_ge k j with h | h
   · exact List.mem_cons_of_mem _ (hacc k ok h hok)
   · have : k = j := by omega
     subst this
     rw [h0] at hok; cases hok
     exact List.mem_cons_self
theorem lexQ_ok {ops : Array Oper} (q : lexQ ops ops.toList 0 [] = true) : LexOk ops := by
 have := lexQ_spec ops.toList 0 [] q (fun i => by simp) (fun i _ hi => by omega)
 refine ⟨fun j oj hj e he hb => ?_, fun i j oi oj hlt hi hj hno => ?_⟩
 · have := (this j oj (by simpa using hj)).1 e he hb
   simpa using this
 · exact (this j oj (by simpa using hj)).2 i oi (by simpa using hlt) hi hno
end
end Go.Proofs.YtbhkcbidcfofiaaGreat
