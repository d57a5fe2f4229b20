/-
  What the statements of the chapter share, part 08: E1, E2, E3, E4, E5, E6, E7, E8, E9, N1, N2.
-/
import Derived.Test.YtgkjcmglcnhpaaaGreatDoorR07
set_option linter.unusedVariables false
set_option linter.unusedSimpArgs false
set_option maxRecDepth 100000
set_option maxHeartbeats 8000000
namespace Go.Proofs.YtgkjcmglcnhpaaaGreatDoor
open _root_.Bool renaming and_eq_true → Z1
open _root_.Int renaming le_refl → Z2
open _root_.List renaming replicate → Z3
open _root_.Nat renaming le_refl → Z4
open _root_.Option renaming map_eq_some_iff → Z0
open Go.RowKit
section
def unBy : List (List D) → Option (List UInt8)
 | [] => some []
 | [.v (.int .u8 n)] :: t => if 0 ≤ n ∧ n < 256 then (unBy t).map (UInt8.ofNat n.toNat :: ·) else none
 | _ => none
theorem Zn9 : ∀ (xs : List (List D)) (bs : List UInt8), unBy xs = some bs → xs = byD bs
 | [], bs, q => by cases q; rfl
 | [.v (.int .u8 n)] :: t, bs, q => by
  rw [unBy] at q
  split at q
  · rename_i h
    rw [Z0] at q
    obtain ⟨l, h1, rfl⟩ := q
    rw [Zn9 t l h1]
    have : (((UInt8.ofNat n.toNat).toNat : Nat) : Int) = n := by rw [UInt8.toNat_ofNat']; omega
    simp [byD]
    omega
  · cases q
def rowsOkB (k : Nat) (ys : List (List D)) : Bool := ys.all fun row => row.length == k && row.all D.one
theorem rowsOkB_spec {k : Nat} {ys : List (List D)} (q : rowsOkB k ys = true) : X9 k ys := fun row hr => by
 have := List.all_eq_true.1 q row hr
 simp only [Z1, beq_iff_eq, List.all_eq_true] at this
 exact this
end
section
section
variable (P : Program) (G : Nat → D) (env : Nat → D) (h : List Ob)
def idxF (t : TypeId) (x i : D) : Option D := match i with
 | .v (.int _ n) => match x with
  | .sl k xs => if ((elT P t).bind (szT P)) = some k ∧ 0 ≤ n ∧ n < (xs.length : Int) then (xs[n.toNat]?).map .rp else none
  | .buf i m => match h[i]? with
   | some (.buf _ k xs) => if xs.length = m ∧ ((elT P t).bind (szT P)) = some k ∧ 0 ≤ n ∧ n < (m : Int) then some (.bp i m n.toNat 0) else none
   | _ => none
  | .ptr i o => match arrT P t with
   | some (l, e) => match szT P e with
    | some z => if 0 ≤ n ∧ n < (l : Int) then some (.ptr i (o + n.toNat * z)) else none
    | none => none
   | none => none
  | .rp ds => match arrT P t with
   | some (l, e) => match szT P e with
    | some z => if 0 ≤ n ∧ n < (l : Int) then some (.rp (ds.drop (n.toNat * z))) else none
    | none => none
   | none => none
  | _ => none
 | _ => none
theorem idxF_sound {t : TypeId} {x i d : D} {K : D → Prop} (q : idxF P h t x i = some d) (k : K d) : idxA P h t x i K := by
 unfold idxF at q
 unfold idxA
 split at q
 rotate_left
 · cases q
 split at q
 · split at q
   · rename_i hc
     refine ⟨hc.1, hc.2.1, hc.2.2, fun row hr => ?_⟩
     rw [hr] at q; cases q; exact k
   · cases q
 · split at q
   · rename_i e k' xs hh
     split at q
     · rename_i hc; cases q; exact ⟨e, k', xs, hh, hc.1, hc.2.1, hc.2.2.1, hc.2.2.2, k⟩
     · cases q
   · cases q
 · split at q
   · rename_i l e ha
     split at q
     · rename_i z hz
       split at q
       · rename_i hc; cases q; exact ⟨l, e, z, ha, hz, hc.1, hc.2, k⟩
       · cases q
     · cases q
   · cases q
 · split at q
   · rename_i l e ha
     split at q
     · rename_i z hz
       split at q
       · rename_i hc; cases q; exact ⟨l, e, z, ha, hz, hc.1, hc.2, k⟩
       · cases q
     · cases q
   · cases q
 · cases q
end
end
section
section
variable (P : Program) (h : List Ob)
def slcF (t : TypeId) (x : D) (lo hi : Option D) : Option D := match x with
 | .v (.string s) => match bndD 0 lo, bndD s.size hi with
  | some l, some r => if strT P t = true ∧ 0 ≤ l ∧ l ≤ r ∧ r ≤ s.size then some (.v (.string (s.extract l.toNat r.toNat))) else none
  | _, _ => none
 | .sl k xs => match bndD 0 lo, bndD xs.length hi with
  | some l, some r => if (elT P t).bind (szT P) = some k ∧ 0 ≤ l ∧ l ≤ r ∧ r ≤ xs.length then some (.sl k ((xs.take r.toNat).drop l.toNat)) else none
  | _, _ => none
 | _ => none
theorem slcF_sound {t : TypeId} {x d : D} {lo hi : Option D} {K : D → Prop} (q : slcF P t x lo hi = some d) (k : K d) : slcA P t x lo hi K := by
 unfold slcF at q
 unfold slcA
 split at q
 · split at q
   · rename_i l r hl hr
     split at q
     · rename_i hc; cases q; exact ⟨l, r, hc.1, hl, hr, hc.2.1, hc.2.2.1, hc.2.2.2, k⟩
     · cases q
   · cases q
 · split at q
   · rename_i l r hl hr
     split at q
     · rename_i hc; cases q; exact ⟨l, r, hc.1, hl, hr, hc.2.1, hc.2.2.1, hc.2.2.2, k⟩
     · cases q
   · cases q
 · cases q
end
end
section
section
variable (P : Program) (h : List Ob)
def apF (t u : TypeId) (x y : D) : Option (List Ob × D) := match apT P t, srcD P h t u y with
 | some (e, k, by'), some ys => if rowsOkB k ys = true then match x with
   | .buf i n => match h[i]? with
     | some (.buf e2 k2 xs) => if e2 = e ∧ k2 = k ∧ xs.length = n ∧ (n + ys.length) * (by' + 1) ≤ 140737488355328 then some (h.set i (.buf e k (xs ++ ys)), .buf i (n + ys.length)) else none
     | _ => none
   | .v (.slice none 0 0) => if ys.length * (by' + 1) ≤ 140737488355328 then some (h ++ [.buf e k ys], .buf h.length ys.length) else none
   | _ => none
  else none
 | _, _ => none
theorem apF_sound {t u : TypeId} {x y d : D} {h' : List Ob} {K : List Ob → D → Prop} (q : apF P h t u x y = some (h', d)) (k : K h' d) : apA P h t u x y K := by
 unfold apF at q
 unfold apA
 split at q
 rotate_left
 · cases q
 rename_i e k' by' ys ha hs
 split at q
 rotate_left
 · cases q
 rename_i hr
 refine ⟨e, k', by', ys, ha, hs, rowsOkB_spec hr, ?_⟩
 split at q
 · split at q
   · rename_i hh
     split at q
     · rename_i hc
       obtain ⟨rfl, rfl, h1, h2⟩ := hc
       cases q; exact ⟨_, hh, h1, h2, k⟩
     · cases q
   · cases q
 · split at q
   · rename_i hc; cases q; exact ⟨hc, k⟩
   · cases q
 · cases q
end
end
section
section
variable (P : Program) (h : List Ob)
def indF (t : TypeId) (x i : D) : Option D := match x, i with
 | .v (.string s), .v (.int _ n) => if strT P t = true ∧ 0 ≤ n ∧ n < (s.size : Int) then (s.data[n.toNat]?).map fun b => .v (.int .u8 b.toNat) else none
 | .agg ds, .v (.int _ n) => match arrT P t with
  | some (l, e) => match szT P e with
   | some z => if 0 ≤ n ∧ n < (l : Int) then getD P e ds (n.toNat * z) else none
   | none => none
  | none => none
 | _, _ => none
theorem indF_sound {t : TypeId} {x i d : D} {K : D → Prop} (q : indF P t x i = some d) (k : K d) : indA P t x i K := by
 unfold indF at q
 unfold indA
 split at q
 · split at q
   · rename_i hc
     refine ⟨hc.1, hc.2.1, hc.2.2, fun b hb => ?_⟩
     rw [hb] at q; cases q; exact k
   · cases q
 · split at q
   · rename_i l e ha
     split at q
     · rename_i z hz
       split at q
       · rename_i hc; exact ⟨l, e, z, d, ha, hz, hc.1, hc.2, q, k⟩
       · cases q
     · cases q
   · cases q
 · cases q
end
end
section
section
variable (P : Program) (h : List Ob)
def bstF (a b : TypeId) (x : D) : Option D := if byT P a = true ∧ strT P b = true then match x with
 | .sl _ xs => (unBy xs).map fun bs => .v (.string ⟨bs.toArray⟩)
 | .buf i n => match h[i]? with
  | some (.buf _ k xs) => if k = 1 ∧ xs.length = n then (unBy xs).map fun bs => .v (.string ⟨bs.toArray⟩) else none
  | _ => none
 | .v (.slice none 0 0) => some (.v (.string ⟨#[]⟩))
 | _ => none
 else none
theorem Zx1 {a b : TypeId} {x d : D} {K : D → Prop} (q : bstF P h a b x = some d) (k : K d) : bstD P a b h x K := by
 unfold bstF at q
 unfold bstD
 split at q
 rotate_left
 · cases q
 rename_i hc
 refine ⟨hc.1, hc.2, ?_⟩
 split at q
 · rw [Z0] at q
   obtain ⟨bs, h1, rfl⟩ := q
   exact ⟨bs, Zn9 _ _ h1, k⟩
 · split at q
   · rename_i hh
     split at q
     · rename_i hk
       obtain ⟨rfl, h2⟩ := hk
       rw [Z0] at q
       obtain ⟨bs, h1, rfl⟩ := q
       exact ⟨_, _, bs, hh, h2, Zn9 _ _ h1, k⟩
     · cases q
   · cases q
 · cases q; exact k
 · cases q
end
end
section
section
variable (P : Program) (G : Nat → D) (env : Nat → D) (h : List Ob)
def cvF (t u : TypeId) (x : D) : Option D := match x with
 | .v (.int κ n) => convD P t u (.v (.int κ n))
 | .v (.string s) => if byT P u = true ∧ (P.underlying t).isSome = true ∧ s.size ≤ 140737488355328 then some (.sl 1 (byD s.data.toList)) else if strT P u = true ∧ (P.underlying t).isSome = true then some (.v (.string s)) else none
 | x => bstF P h t u x
theorem cvF_sound {t u : TypeId} {x d : D} {K : List Ob → D → Prop} (q : cvF P h t u x = some d) (k : K h d) : cvA P h t u x K := by
 cases x with
 | v X =>
  cases X with
  | int κ n => show on _ _; rw [show convD P t u (.v (.int κ n)) = some d from q]; exact k
  | string s =>
   unfold cvF at q
   simp only at q
   split at q
   · rename_i hc; cases q; exact .inl ⟨hc.1, hc.2.1, hc.2.2, k⟩
   · split at q
     · rename_i hc; cases q; exact .inr ⟨hc.1, hc.2, k⟩
     · cases q
  | _ => exact Zx1 P h (show bstF P h t u _ = some d by simpa only [cvF] using q) k
 | _ => exact Zx1 P h (show bstF P h t u _ = some d by simpa only [cvF] using q) k
end
end
section
section
variable (P : Program) (G : Nat → D) (env : Nat → D) (h : List Ob)
def Wm (o : Option D) : Option (List Ob × D) := o.map fun d => (h, d)
def biF (b : Builtin) (tys : List TypeId) (args : List D) : Option (List Ob × D) := match b, tys, args with
 | .len, [t], [x] => Wm h (lenD P t x)
 | .append, [t, u], [x, y] => apF P h t u x y
 | _, _, _ => none
def aF : Op → Option (List Ob × D)
 | .move x | .assign x => some (h, ev G env x)
 | .pick c x y => match ev G env c with
  | .v (.bool t) => some (h, if t then ev G env x else ev G env y)
  | _ => none
 | .binOp op t x y _ => Wm h (binD P op t x y (ev G env x) (ev G env y))
 | .unOp op _ x => Wm h (unD P op (ev G env x))
 | .convert t u x => Wm h (cvF P h t u (ev G env x))
 | .extract x i => Wm h (extrD i (ev G env x))
 | .field t x f => Wm h (fieldD P t f (ev G env x))
 | .load t x => Wm h (U4 P h t (ev G env x))
 | .store t x y => (Vk P h t (ev G env x) (ev G env y)).map fun h' => (h', .v undef)
 | .fieldAddr t x f => Wm h (Zs2 P t f (ev G env x))
 | .indexAddr t x i => Wm h (idxF P h t (ev G env x) (ev G env i))
 | .nilCheck x => if isPtr (ev G env x) = true then some (h, ev G env x) else none
 | .box _ x => (ev G env x).cells.map fun ds => (h ++ [.cells ds], .ptr h.length 0)
 | .alloc e => (Xs P e).map fun ds => (h ++ [.cells ds], .ptr h.length 0)
 | .build t parts => (Zb0 P t (parts.toList.map fun q => (q.1, ev G env q.2))).map fun ds => (h, .agg ds)
 | .buildSlice t len parts => (litD P t len (parts.toList.map fun q => (q.1, ev G env q.2))).map fun r => (h ++ [.buf r.1 r.2.1 r.2.2], .buf h.length len)
 | .slice t x lo hi none => Wm h (slcF P t (ev G env x) (lo.map (ev G env)) (hi.map (ev G env)))
 | .index t x i => Wm h (indF P t (ev G env x) (ev G env i))
 | .call ⟨.builtin b, args, tys⟩ => biF P h b tys.toList (args.toList.map (ev G env))
 | _ => none
end
end
section
variable {P : Program} {G : Nat → D} {e : Nat → D} {h : List Ob}
theorem Zc3 {op : Op} {h' : List Ob} {d : D} {K : List Ob → D → Prop} (q : aF P G e h op = some (h', d)) (k : K h' d) : aOp P G e h K op := by
 have one : ∀ {x : Option D}, Wm h x = some (h', d) → on x (K h) := fun {x} q => by
  unfold Wm at q
  rw [Z0] at q
  obtain ⟨d', h1, h2⟩ := q
  cases h2
  rw [h1]; exact k
 cases op <;> try (simp only [aF] at q; cases q; done)
 case move x => simp only [aF, Option.some.injEq, Prod.mk.injEq] at q; obtain ⟨rfl, rfl⟩ := q; exact k
 case assign x => simp only [aF, Option.some.injEq, Prod.mk.injEq] at q; obtain ⟨rfl, rfl⟩ := q; exact k
 case pick c x y =>
  simp only [aF] at q
  split at q
  · rename_i t ht; cases q; exact ⟨t, ht, k⟩
  · cases q
 case binOp => exact one q
 case unOp => exact one q
 case convert t u x =>
  simp only [aF, Wm] at q
  rw [Z0] at q
  obtain ⟨d', h1, h2⟩ := q
  cases h2
  exact cvF_sound P h h1 k
 case extract => exact one q
 case field => exact one q
 case load => exact one q
 case fieldAddr => exact one q
 case store t x y =>
  simp only [aF] at q
  rw [Z0] at q
  obtain ⟨h2, h1, h3⟩ := q
  cases h3
  exact X1.2 ⟨_, h1, k⟩
 case indexAddr t x i =>
  simp only [aF, Wm] at q
  rw [Z0] at q
  obtain ⟨d', h1, h2⟩ := q
  cases h2
  exact idxF_sound P h h1 k
 case nilCheck x =>
  simp only [aF] at q
  split at q
  · rename_i hp; cases q; exact ⟨hp, k⟩
  · cases q
 case box t x =>
  simp only [aF] at q
  rw [Z0] at q
  obtain ⟨ds, h1, h3⟩ := q
  cases h3
  exact X1.2 ⟨_, h1, k⟩
 case alloc t =>
  simp only [aF] at q
  rw [Z0] at q
  obtain ⟨ds, h1, h3⟩ := q
  cases h3
  exact X1.2 ⟨_, h1, k⟩
 case build t parts =>
  simp only [aF] at q
  rw [Z0] at q
  obtain ⟨ds, h1, h3⟩ := q
  cases h3
  exact X1.2 ⟨_, h1, k⟩
 case buildSlice t len parts =>
  simp only [aF] at q
  rw [Z0] at q
  obtain ⟨r, h1, h3⟩ := q
  cases h3
  exact X1.2 ⟨_, h1, k⟩
 case slice t x lo hi mx =>
  cases mx with
  | some m => simp only [aF] at q; cases q
  | none =>
   simp only [aF, Wm] at q
   rw [Z0] at q
   obtain ⟨d', h1, h2⟩ := q
   cases h2
   exact slcF_sound P h1 k
 case index t x i =>
  simp only [aF, Wm] at q
  rw [Z0] at q
  obtain ⟨d', h1, h2⟩ := q
  cases h2
  exact indF_sound P h1 k
 case call c =>
  obtain ⟨cal, args, tys⟩ := c
  cases cal with
  | builtin b =>
   simp only [aF] at q
   show biA P h b tys.toList (args.toList.map (ev G e)) K
   generalize tys.toList = T at q ⊢
   generalize args.toList.map (ev G e) = A at q ⊢
   unfold biF at q
   unfold biA
   split at q
   · exact one q
   · exact apF_sound P h q k
   · cases q
  | _ => simp only [aF] at q; cases q
end
section
variable {P : Program} {G : Nat → D} {e : Nat → D} {h : List Ob}
theorem rdL_mem {a : Act} {hd : List Value} {W : World} : ∀ {l : List Operand}, rdL hd h W (l.map (ev G e)) (l.map a.eval) → ∀ x ∈ l, rd hd h W (ev G e x) (a.eval x)
 | [], _, x, hx => by simp at hx
 | y :: t, q, x, hx => by
  rw [List.map_cons, List.map_cons, rdL] at q
  obtain ⟨u, v, e0, q1, q2⟩ := q
  cases e0
  rcases List.mem_cons.1 hx with rfl | hx
  · exact q1
  · exact rdL_mem q2 x hx
theorem Xu {o : Oper} {K : List Ob → D → Prop} (H : ∀ (a : Act) w hd p, Ok G w hd h p → (∀ x ∈ opds o.op, rd hd h (only p w) (ev G e x) (a.eval x)) → ∃ v w', ((execOp a.eval o).run P w = .ok (.value v) w' ∨ ((execOp a.eval o).run P w = .ok .skip w' ∧ v = undef)) ∧ Post G w hd h p K v w') : OpTri P G o ((opds o.op).map (ev G e)) h K := fun a w hd p R hdf ok ha => by
 obtain ⟨v, w', hr, q⟩ := H a w hd p ok (rdL_mem ha)
 unfold Oper.wp
 rcases hr with hr | ⟨hr, rfl⟩
 · rw [hr]; exact ⟨v, rfl, q⟩
 · rw [hr]; exact ⟨_, rfl, q⟩
theorem Post.same {w : World} {hd : List Value} {p : Nat → Bool} {K : List Ob → D → Prop} {d : D} {v : Value} (o : Ok G w hd h p) (k : K h d) (q : rd hd h (only p w) d v) : Post G w hd h p K v w := ⟨hd, h, d, p, k, o, q, .refl _ _ _ _⟩
theorem Vw {o : Oper} {d : D} (H : ∀ (a : Act) w hd p, Ok G w hd h p → (∀ x ∈ opds o.op, rd hd h (only p w) (ev G e x) (a.eval x)) → ∃ v, (execOp a.eval o).run P w = .ok (.value v) w ∧ rd hd h (only p w) d v) : OpTri P G o ((opds o.op).map (ev G e)) h (fun h' r => h' = h ∧ r = d) := Xu fun a w hd p ok ha => by
 obtain ⟨v, hr, q⟩ := H a w hd p ok ha
 exact ⟨v, w, .inl hr, .same ok ⟨rfl, rfl⟩ q⟩
section
variable (P : Program) (G : Nat → D) (e : Nat → D) (h : List Ob)
def sliF (t : TypeId) (x : D) (lo hi : Option D) : Option D := match x with
 | .buf i n => match h[i]? with
  | some (.buf _ k xs) => match bndD 0 lo, bndD n hi with
   | some l, some r => bif decide (xs.length = n) && decide ((elT P t).bind (szT P) = some k) && decide (0 ≤ l) && decide (l ≤ r) && decide (r ≤ n) then some (.win i n l.toNat r.toNat) else none
   | _, _ => none
  | _ => none
 | .win i n a b => match h[i]? with
  | some (.buf _ k xs) => match bndD 0 lo, bndD (b - a : Nat) hi with
   | some l, some r => bif decide (xs.length = n) && decide ((elT P t).bind (szT P) = some k) && decide (0 ≤ l) && decide (l ≤ r) && decide (r ≤ (b - a : Nat)) then some (.win i n (a + l.toNat) (a + r.toNat)) else none
   | _, _ => none
  | _ => none
 | .arr i o n c k => match bndD 0 lo, bndD n hi with
  | some l, some r => bif decide ((elT P t).bind (szT P) = some k) && decide (0 ≤ l) && decide (l ≤ r) && decide (r ≤ n) && decide (n ≤ c) then some (.arr i (if c = l.toNat then o else o + l.toNat * k) (r.toNat - l.toNat) (c - l.toNat) k) else none
  | _, _ => none
 | .ptr i o => match P.underlying t with
  | some (.pointer a) => match arrT P a with
   | some (n, el) => match szT P el, bndD 0 lo, bndD n hi with
    | some k, some l, some r => bif decide (0 ≤ l) && decide (l ≤ r) && decide (r ≤ n) then some (.arr i (if n = l.toNat then o else o + l.toNat * k) (r.toNat - l.toNat) (n - l.toNat) k) else none
    | _, _, _ => none
   | none => none
  | _ => none
 | .v (.slice none 0 0) => match (elT P t).bind (szT P), bndD 0 lo, bndD 0 hi with
  | some _, some l, some r => bif decide (l = 0) && decide (r = 0) then some (.v (.slice none 0 0)) else none
  | _, _, _ => none
 | .e0 => match (elT P t).bind (szT P), bndD 0 lo, bndD 0 hi with
  | some _, some l, some r => bif decide (l = 0) && decide (r = 0) then some .e0 else none
  | _, _, _ => none
 | _ => none
end
theorem Zo2 {t el k : Nat} {w : World} (he : elT P t = some el) (hs : szT P el = some k) {ad : Option Addr} {len cap : Nat} {lo hi : Option D} {vlo vhi : Option Value} {l r : Int} {hd : List Value} {W : World} (q1 : bndD 0 lo = some l) (q2 : bndD len hi = some r) (r1 : (lo = none ∧ vlo = none) ∨ ∃ d v, lo = some d ∧ vlo = some v ∧ rd hd h W d v) (r2 : (hi = none ∧ vhi = none) ∨ ∃ d v, hi = some d ∧ vhi = some v ∧ rd hd h W d v)
 (h0 : 0 ≤ l) (h1 : l ≤ r) (h2 : r ≤ len) (h3 : len ≤ cap) : (Instr.sliceAt t (.slice ad len cap) vlo vhi none).run P w = .ok (.slice (if cap = l.toNat then ad else ad.map (·.add (l.toNat * k))) (r.toNat - l.toNat) (cap - l.toNat)) w := by
 have hb := Yc9 (P := P) (w := w) (isS := true) q1 q2 r1 r2 h0 h1 h2 h3
 simp [Instr.sliceAt, Instr.slice, run_underlying (Vr he), hb, Xt hs]
theorem and5 {a b c d e : Bool} (q : (a && b && c && d && e) = true) : a = true ∧ b = true ∧ c = true ∧ d = true ∧ e = true := by
 simp only [Z1] at q; exact ⟨q.1.1.1.1, q.1.1.1.2, q.1.1.2, q.1.2, q.2⟩
theorem Jn {t k : Nat} (q : (elT P t).bind (szT P) = some k) : ∃ el, elT P t = some el ∧ szT P el = some k := by
 cases he : elT P t with
 | none => rw [he] at q; cases q
 | some el => rw [he] at q; exact ⟨el, rfl, q⟩
theorem Yp {α : Type} {b : Bool} {x : α} {y : α} (q : (bif b then some x else none) = some y) : b = true ∧ x = y := by
 cases b
 · cases q
 · cases q; exact ⟨rfl, rfl⟩
theorem sliF_run {w : World} {hd : List Value} {p : Nat → Bool} (o : Ok G w hd h p) {t : Nat} {x d : D} {lo hi : Option D} {v : Value} {vlo vhi : Option Value} (q : sliF P h t x lo hi = some d) (qx : rd hd h (only p w) x v) (r1 : (lo = none ∧ vlo = none) ∨ ∃ d v, lo = some d ∧ vlo = some v ∧ rd hd h (only p w) d v) (r2 : (hi = none ∧ vhi = none) ∨ ∃ d v, hi = some d ∧ vhi = some v ∧ rd hd h (only p w) d v) :
 ∃ u, (Instr.sliceAt t v vlo vhi none).run P w = .ok u w ∧ rd hd h (only p w) d u := by
 unfold sliF at q
 split at q
 · rename_i i n
   split at q
   rotate_left
   · cases q
   rename_i E k xs hi'
   split at q
   rotate_left
   · cases q
   rename_i l r hl hr
   obtain ⟨hc, rfl⟩ := Yp q
   obtain ⟨c1, c2, c3, c4, c5⟩ := and5 hc
   simp only [decide_eq_true_eq] at c1 c2 c3 c4 c5
   obtain ⟨el, he, hs⟩ := Jn c2
   rw [rd] at qx
   obtain ⟨_, hu, qx⟩ := qx
   have hv := (qx E k xs hi').2 c1
   obtain ⟨cs, o1, _, _, _⟩ := o.ob i _ _ hi' hv
   rw [c1] at o1
   rcases id o1.2 with ⟨rfl, hn⟩ | ⟨g, cap, cur, rfl, _, _, hnc, _⟩
   · subst hn
     have e1 : l = 0 := by omega
     have e2 : r = 0 := by omega
     subst e1; subst e2
     refine ⟨_, Zo2 he hs hl hr r1 r2 (Z2 _) (Z2 _) (Z2 _) (Z4 _), ?_⟩
     rw [rd]
     refine ⟨⟨_, _, rfl⟩, hu, fun E' k' xs' hx => ⟨by omega, fun _ => ⟨Z4 _, Z4 _, .inl ⟨rfl, rfl⟩⟩⟩⟩
   · refine ⟨_, Zo2 he hs hl hr r1 r2 c3 c4 c5 hnc, ?_⟩
     rw [rd]
     refine ⟨⟨_, _, rfl⟩, hu, fun E' k' xs' hx => ?_⟩
     rw [hi'] at hx; cases hx
     refine ⟨by omega, fun _ => ⟨by omega, by omega, .inr ⟨g, cap, (if cap = l.toNat then 0 else l.toNat * k), hv, ?_, fun hlt => ?_⟩⟩⟩
     rotate_left
     · split
       · rcases hlt with h5 | h5
         · omega
         · rw [h5]; simp
       · rfl
     congr 1
     split
     · rfl
     · simp [X6]
 · rename_i i n a b
   split at q
   rotate_left
   · cases q
   rename_i E k xs hi'
   split at q
   rotate_left
   · cases q
   rename_i l r hl hr
   obtain ⟨hc, rfl⟩ := Yp q
   obtain ⟨c1, c2, c3, c4, c5⟩ := and5 hc
   simp only [decide_eq_true_eq] at c1 c2 c3 c4 c5
   obtain ⟨el, he, hs⟩ := Jn c2
   rw [rd] at qx
   obtain ⟨_, hu, qx⟩ := qx
   obtain ⟨w1, w2, w3⟩ := (qx E k xs hi').2 c1
   rcases w3 with ⟨rfl, hn⟩ | ⟨B, cap, q0, hv, rfl, hq⟩
   · subst hn
     have e1 : l = 0 := by omega
     have e2 : r = 0 := by omega
     subst e1; subst e2
     refine ⟨_, Zo2 he hs hl (by simpa [show b - a = 0 by omega] using hr) r1 r2 (Z2 _) (Z2 _) (Z2 _) (Z4 _), ?_⟩
     rw [rd]
     refine ⟨⟨none, 0, by simp⟩, hu, fun E' k' xs' hx => ⟨by omega, fun _ => ⟨by simp, by simp; omega, .inl ⟨by simp, rfl⟩⟩⟩⟩
   · have hbc : b - a ≤ cap - a := by
      obtain ⟨cs, o1, _, _, _⟩ := o.ob i _ _ hi' hv
      rcases o1.2 with ⟨h5, _⟩ | ⟨g, cap', cur, h5, _, _, hnc, _⟩
      · cases h5
      · cases h5; omega
     refine ⟨_, Zo2 he hs hl hr r1 r2 c3 c4 c5 hbc, ?_⟩
     rw [rd]
     have e3 : a + r.toNat - (a + l.toNat) = r.toNat - l.toNat := by omega
     refine ⟨⟨_, _, by rw [e3]⟩, hu, fun E' k' xs' hx => ?_⟩
     rw [hi'] at hx; cases hx
     refine ⟨by omega, fun _ => ⟨by omega, by omega, .inr ⟨B, cap, (if cap - a = l.toNat then q0 else q0 + l.toNat * k), hv, ?_, fun hlt => ?_⟩⟩⟩
     rotate_left
     · rw [hq (by omega), Nat.add_mul]
       split
       · rename_i hcl
         rcases hlt with h | h
         · omega
         · rw [show l.toNat = 0 by omega]; simp
       · rfl
     rw [e3, show cap - (a + l.toNat) = cap - a - l.toNat by omega]
     congr 1
     split
     · rfl
     · simp [X6]
 · rename_i i o' n c k
   split at q
   rotate_left
   · cases q
   rename_i l r hl hr
   obtain ⟨hc, rfl⟩ := Yp q
   obtain ⟨c2, c3, c4, c5, c6⟩ := and5 hc
   simp only [decide_eq_true_eq] at c2 c3 c4 c5 c6
   obtain ⟨el, he, hs⟩ := Jn c2
   rw [rd] at qx
   obtain ⟨B, hB, rfl⟩ := qx
   refine ⟨_, Zo2 he hs hl hr r1 r2 c3 c4 c5 c6, ?_⟩
   rw [rd]
   refine ⟨B, hB, ?_⟩
   congr 1
   split
   · rfl
   · simp [X6]
 · rename_i i o'
   split at q
   rotate_left
   · cases q
   rename_i a hu
   split at q
   rotate_left
   · cases q
   rename_i n el ha
   split at q
   rotate_left
   · cases q
   rename_i k l r hs hl hr
   obtain ⟨hc, rfl⟩ := Yp q
   simp only [Z1, decide_eq_true_eq] at hc
   obtain ⟨⟨c3, c4⟩, c5⟩ := hc
   rw [rd] at qx
   obtain ⟨B, hB, rfl⟩ := qx
   have hb := Yc9 (P := P) (w := w) (isS := false) (len := n) (cap := n) hl hr r1 r2 c3 c4 c5 (Z4 _)
   refine ⟨_, by simp [Instr.sliceAt, Instr.sureAddr, Instr.slice, run_underlying hu, run_underlying (arrT_spec ha), asAddr, hb, Xt hs]; rfl, ?_⟩
   rw [rd]
   refine ⟨B, hB, ?_⟩
   congr 2
   split
   · rfl
   · simp [X6]
 · split at q
   rotate_left
   · cases q
   rename_i k l r hk hl hr
   obtain ⟨hc, rfl⟩ := Yp q
   simp only [Z1, decide_eq_true_eq] at hc
   obtain ⟨rfl, rfl⟩ := hc
   obtain ⟨el, he, hs⟩ := Jn hk
   rw [rd] at qx; subst qx
   exact ⟨_, Zo2 he hs hl hr r1 r2 (Z2 _) (Z2 _) (Z2 _) (Z4 _), by rw [rd]; rfl⟩
 · split at q
   rotate_left
   · cases q
   rename_i k l r hk hl hr
   obtain ⟨hc, rfl⟩ := Yp q
   simp only [Z1, decide_eq_true_eq] at hc
   obtain ⟨rfl, rfl⟩ := hc
   obtain ⟨el, he, hs⟩ := Jn hk
   rw [rd] at qx; obtain ⟨a, rfl⟩ := qx
   exact ⟨_, Zo2 he hs hl hr r1 r2 (Z2 _) (Z2 _) (Z2 _) (Z4 _), by rw [rd]; exact ⟨_, rfl⟩⟩
 · cases q
end
section
variable {P : Program} {G : Nat → D} {e : Nat → D} {h : List Ob}
section
variable (P : Program) (h : List Ob)
def makF (t : TypeId) (x y : D) : Option (List Ob × D) := match x, y with
 | .v (.int _ l), .v (.int _ c) => match apT P t with
  | some (el, k, by') => match Xs P el with
   | some zs => bif decide (0 ≤ l) && decide (l ≤ c) && decide ((by' : Int) * c ≤ 281474976710656) && decide (c ≤ 281474976710656) && decide (zs.length = k) then some (h ++ [.buf el k (Z3 l.toNat zs)], .buf h.length l.toNat) else none
   | none => none
  | none => none
 | _, _ => none
def idxN (t : TypeId) (x i : D) : Option D := match i with
 | .v (.int _ m) => match x with
  | .win i n a b => match h[i]? with
   | some (.buf _ k xs) => bif decide (xs.length = n) && decide ((elT P t).bind (szT P) = some k) && decide (0 ≤ m) && decide (m < (b - a : Nat)) then some (.bp i n (a + m.toNat) 0) else none
   | _ => none
  | .arr i o n _ k => bif decide ((elT P t).bind (szT P) = some k) && decide (0 ≤ m) && decide (m < (n : Nat)) then some (.ptr i (o + m.toNat * k)) else none
  | _ => none
 | _ => none
def nonNil (x : D) : Bool := match x with
 | .buf i n => match h[i]? with
  | some (.buf _ _ xs) => decide (xs.length = n) && decide (0 < n)
  | _ => false
 | .win i n a b => match h[i]? with
  | some (.buf _ _ xs) => decide (xs.length = n) && decide (a < b)
  | _ => false
 | .arr _ _ _ _ _ => true
 | .sl _ (_ :: _) => true
 | _ => false
def nilF (op : BinOp) (t : TypeId) (x y : D) : Option D := match y with
 | .v (.slice none 0 0) => bif slT P t && nonNil h x then (match op with
  | .eql => some (.v (.bool false))
  | .neq => some (.v (.bool true))
  | _ => none) else none
 | _ => none
def binI (op : BinOp) (k : IntKind) (a b : Int) : Option Value := match op with
 | .eql => some (.bool (decide (a = b)))
 | .neq => some (.bool (!decide (a = b)))
 | .lss => some (.bool (decide (a < b)))
 | .leq => some (.bool (decide (a ≤ b)))
 | .gtr => some (.bool (decide (b < a)))
 | .geq => some (.bool (decide (b ≤ a)))
 | .add => some (.int k (k.wrap (a + b)))
 | .sub => some (.int k (k.wrap (a - b)))
 | .mul => some (.int k (k.wrap (a * b)))
 | _ => none
def Zj8 : List UInt8 → List UInt8 → Bool
 | _, [] => false
 | [], _ :: _ => true
 | a :: s, b :: t => bif Nat.blt a.toNat b.toNat then true else bif Nat.beq a.toNat b.toNat then Zj8 s t else false
def binS (op : BinOp) (a b : ByteArray) : Option Value := match op with
 | .eql => some (.bool (decide (a.data.toList = b.data.toList)))
 | .neq => some (.bool (!decide (a.data.toList = b.data.toList)))
 | .lss => some (.bool (Zj8 a.data.toList b.data.toList))
 | .geq => some (.bool (!Zj8 a.data.toList b.data.toList))
 | .gtr => some (.bool (Zj8 b.data.toList a.data.toList))
 | .leq => some (.bool (!Zj8 b.data.toList a.data.toList))
 | _ => none
def binN (op : BinOp) (x y : D) : Option D := match x, y with
 | .v (.int j a), .v (.int k b) => bif decide (j = k) then (binI op j a b).map .v else none
 | .v (.string a), .v (.string b) => (binS op a b).map .v
 | _, _ => none
def lenN (t : TypeId) (x : D) : Option D := match x with
 | .win _ _ a b => bif slT P t then some (.v (.int .i64 (b - a : Nat))) else none
 | .arr _ _ n _ _ => bif slT P t then some (.v (.int .i64 n)) else none
 | .e0 => bif slT P t then some (.v (.int .i64 0)) else none
 | _ => none
def capN (t : TypeId) (x : D) : Option D := match x with
 | .v (.slice none 0 0) | .e0 => bif slT P t then some (.v (.int .i64 0)) else none
 | .arr _ _ _ c _ => bif slT P t then some (.v (.int .i64 c)) else none
 | _ => none
end
theorem makF_post {w : World} {hd : List Value} {p : Nat → Bool} (o : Ok G w hd h p) {t : Nat} {x y d : D} {h' : List Ob} {u v : Value} (q : makF P h t x y = some (h', d)) (qx : rd hd h (only p w) x u) (qy : rd hd h (only p w) y v) :
 ∃ r w', (Instr.makeSlice t u v).run P w = .ok r w' ∧ Post G w hd h p (fun h1 d1 => h1 = h' ∧ d1 = d) r w' := by
 unfold makF at q
 split at q
 rotate_left
 · cases q
 rename_i kl l kc c
 split at q
 rotate_left
 · cases q
 rename_i el k by' ha
 split at q
 rotate_left
 · cases q
 rename_i zs hzs
 obtain ⟨hc, hq⟩ := Yp q
 cases hq
 obtain ⟨c1, c2, c3, c4, c5⟩ := and5 hc
 simp only [decide_eq_true_eq] at c1 c2 c3 c4 c5
 rw [rd] at qx qy; subst qx; subst qy
 obtain ⟨hu, inf, z, hinf, hz, hsz, hby, hzsz, hpos⟩ := Zc1 ha
 subst hby
 have hr := run_make (P := P) w t el inf z hu hinf hz kl kc l c c1 c2 c3 (by omega)
 have hz0 : Ze5 P el = some z := by unfold Ze5; rw [hinf]; exact hz
 have hzc : (D.v z).cells = some zs := by unfold Xs at hzs; rw [hz0] at hzs; exact hzs
 have zr : ∀ {hd2 : List Value} {h2 : List Ob} {W : World}, rdL hd2 h2 W zs z.cells.toList := fun {hd2 h2 W} => Vf (d := .v z) (v := z) (by rw [rd]) hzc
 rw [hsz] at hr
 have hlc : l.toNat ≤ c.toNat := by omega
 have hmul : l.toNat * k ≤ c.toNat * k := Nat.mul_le_mul_right _ hlc
 generalize hcur : madeCells z.cells (c.toNat * k) = cur at hr
 have hcs : cur.size = c.toNat * k := by rw [← hcur, size_madeCells]
 have cell : ∀ j, j < c.toNat * k → cur[j]? = z.cells[j % k]? := fun j hj => by
  have hm : j % z.cells.size < z.cells.size := Nat.mod_lt _ (by omega)
  rw [← hcur]
  unfold madeCells
  rw [Array.getElem?_map, Array.getElem?_range, if_pos hj, ← hzsz]
  simp [hm]
 have rows : ∀ {hd2 : List Value} {h2 : List Ob} {W : World}, rdL hd2 h2 W (Z3 l.toNat zs).flatten (cur.toList.take (l.toNat * k)) := fun {hd2 h2 W} => by
  have hfl : (Z3 l.toNat zs).flatten.length = l.toNat * k := by simp [c5]
  refine (Yk _ _).2 ⟨by rw [hfl]; simp; omega, fun j d hj => ?_⟩
  have hj' : j < l.toNat * k := by rw [← hfl]; exact (List.getElem?_eq_some_iff.1 hj).1
  have hdm : j / k * k + j % k = j := Nat.div_add_mod' j k
  have hmk : j % k < k := Nat.mod_lt _ hpos
  have hfr := Ut (k := k) (Z3 l.toNat zs) (fun row hr => by rw [(List.mem_replicate.1 hr).2, c5]) (j / k) (j % k) hmk
  have hdl : j / k < l.toNat := Nat.div_lt_of_lt_mul (by rw [Nat.mul_comm]; exact hj')
  rw [hdm, List.getElem?_replicate, if_pos hdl] at hfr
  rw [hfr] at hj
  obtain ⟨u, g1, g2⟩ := ((Yk _ _).1 (zr (hd2 := hd2) (h2 := h2) (W := W))).2 (j % k) d hj
  refine ⟨u, ?_, g2⟩
  rw [List.getElem?_take, if_pos hj', Array.getElem?_toList, cell j (by omega), ← Array.getElem?_toList]; exact g1
 have g := o.grow (w' := w.alloc (.cells cur el)) (ob := .buf el k (Z3 l.toNat zs)) (u := .slice (some ⟨w.heap.size, 0, none⟩) l.toNat c.toNat) rfl rfl rfl (by simp) (fun b hb => Xa w _ hb) (fun b hb => by cases hb; rfl)
  (fun c' sb => ⟨cur.toList.take (l.toNat * k), ⟨by simp; omega, .inr ⟨w.heap.size, c.toNat, cur, by simp, Nat.zero_le _, heap_alloc_new w _, by simpa using hlc, by unfold maxLen; omega, hcs, by simp⟩⟩, rows, fun row hr => by rw [(List.mem_replicate.1 hr).2, c5], fun g hg => by cases hg; simp⟩)
 refine ⟨_, _, hr, _, _, _, _, ⟨rfl, rfl⟩, g.1, ?_, g.2⟩
 rw [rd]
 refine ⟨⟨_, _, rfl⟩, .of (ob := .buf el k (Z3 l.toNat zs)) (by simp) rfl, fun e' k' xs' hx => ?_⟩
 have : xs' = Z3 l.toNat zs := by simp at hx; exact hx.2.2.symm
 subst this
 exact ⟨by simp, fun _ => by rw [← o.len]; simp⟩
theorem idxN_run {w : World} {hd : List Value} {p : Nat → Bool} (ok : Ok G w hd h p) {t : Nat} {x i d : D} {u v : Value} (q : idxN P h t x i = some d) (qx : rd hd h (only p w) x u) (qi : rd hd h (only p w) i v) : ∃ r, (Instr.indexAt t u v).run P w = .ok r w ∧ rd hd h (only p w) d r := by
 unfold idxN at q
 split at q
 rotate_left
 · cases q
 rename_i κ m
 rw [rd] at qi; subst qi
 split at q
 · rename_i i n a b
   split at q
   rotate_left
   · cases q
   rename_i E k xs hi
   obtain ⟨hc, rfl⟩ := Yp q
   simp only [Z1, decide_eq_true_eq] at hc
   obtain ⟨⟨⟨c1, c2⟩, c3⟩, c4⟩ := hc
   obtain ⟨el, he, hs⟩ := Jn c2
   rw [rd] at qx
   obtain ⟨_, hu, qx⟩ := qx
   obtain ⟨w1, w2, w3⟩ := (qx E k xs hi).2 c1
   rcases w3 with ⟨rfl, hn⟩ | ⟨B, cap, q0, hv, rfl, hq⟩
   · omega
   · have hac : a < cap := by
      obtain ⟨cs, o1, _, _, _⟩ := ok.ob i _ _ hi hv
      rcases o1.2 with ⟨h5, _⟩ | ⟨g, cap', cur, h5, _, _, hnc, _⟩
      · cases h5
      · cases h5; omega
     refine ⟨_, by simp [Instr.indexAt, asIntOf, Go.underlying, Vr he, Xt hs, c3, c4, X6]; rfl, ?_⟩
     rw [rd]
     refine ⟨⟨_, rfl⟩, hu, fun E' k' xs' hx => ?_⟩
     rw [hi] at hx; cases hx
     exact ⟨by omega, fun _ => ⟨B, cap, hv, by rw [hq (.inl hac), Nat.add_mul, Nat.add_zero]⟩⟩
 · rename_i i o n c k
   obtain ⟨hc, rfl⟩ := Yp q
   simp only [Z1, decide_eq_true_eq] at hc
   obtain ⟨⟨c2, c3⟩, c4⟩ := hc
   obtain ⟨el, he, hs⟩ := Jn c2
   rw [rd] at qx
   obtain ⟨B, hB, rfl⟩ := qx
   refine ⟨_, by simp [Instr.indexAt, asIntOf, Go.underlying, Vr he, Xt hs, c3, c4, X6]; rfl, ?_⟩
   rw [rd]
   exact ⟨B, hB, rfl⟩
 · cases q
theorem nonNil_spec {w : World} {hd : List Value} {p : Nat → Bool} (o : Ok G w hd h p) {x : D} {u : Value} (q : nonNil h x = true) (qx : rd hd h (only p w) x u) : ∃ a n c, u = .slice (some a) n c := by
 unfold nonNil at q
 split at q
 · rename_i i n
   split at q
   · rename_i E k xs hi
     simp only [Z1, decide_eq_true_eq] at q
     rw [rd] at qx
     obtain ⟨_, hu, qx⟩ := qx
     have hv := (qx E k xs hi).2 q.1
     obtain ⟨cs, o1, _, _, _⟩ := o.ob i _ _ hi hv
     rcases id o1.2 with ⟨rfl, hn⟩ | ⟨g, cap, cur, rfl, _⟩
     · omega
     · exact ⟨_, _, _, rfl⟩
   · cases q
 · rename_i i n a b
   split at q
   · rename_i E k xs hi
     simp only [Z1, decide_eq_true_eq] at q
     rw [rd] at qx
     obtain ⟨_, hu, qx⟩ := qx
     obtain ⟨w1, w2, w3⟩ := (qx E k xs hi).2 q.1
     rcases w3 with ⟨rfl, hn⟩ | ⟨B, cap, q0, hv, rfl, hq⟩
     · omega
     · exact ⟨_, _, _, rfl⟩
   · cases q
 · rw [rd] at qx; obtain ⟨B, _, rfl⟩ := qx; exact ⟨_, _, _, rfl⟩
 · rw [rd] at qx
   obtain ⟨a, cap, rfl, _, _, hr⟩ := qx
   rw [X5] at hr
   obtain ⟨⟨b, q, rfl, _⟩, _⟩ := hr
   exact ⟨_, _, _, rfl⟩
 · cases q
theorem lessB_eq : ∀ a b : List UInt8, Zj8 a b = Op.bytesLess a b
 | [], [] => by rw [Zj8]; rfl
 | a :: s, [] => by rw [Zj8]; rfl
 | [], b :: t => by rw [Zj8]; rfl
 | a :: s, b :: t => by
  have blt : ∀ a b : Nat, Nat.blt a b = decide (a < b) := fun a b => by rw [Bool.eq_iff_iff, Nat.blt_eq, decide_eq_true_eq]
  have e1 : (a < b) = (a.toNat < b.toNat) := propext UInt8.lt_iff_toNat_lt
  have e2 : (a = b) = (a.toNat = b.toNat) := propext UInt8.toNat_inj.symm
  rw [Zj8, lessB_eq s t, blt, bqE, Op.bytesLess]
  by_cases h1 : a.toNat < b.toNat
  · simp [h1, e1]
  · by_cases h2 : a.toNat = b.toNat
    · simp [h1, e1, e2, h2]
    · simp [h1, e1, e2, h2]
end
end Go.Proofs.YtgkjcmglcnhpaaaGreatDoor
