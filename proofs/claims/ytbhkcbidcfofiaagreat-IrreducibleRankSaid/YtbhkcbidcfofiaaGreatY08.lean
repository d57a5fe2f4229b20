/-
  What the statements of the chapter share, part 08: F4, E1, E2, E3, E4, E5, E6, E7, E8, E9, N1, N2.
-/
import Derived.Test.YtbhkcbidcfofiaaGreatY07
set_option linter.unusedVariables false
set_option linter.unusedSimpArgs false
set_option maxRecDepth 100000
set_option maxHeartbeats 8000000
namespace Go.Proofs.YtbhkcbidcfofiaaGreat
open _root_.Bool renaming and_eq_true → Z1
open _root_.Int renaming le_refl → Z4
open _root_.List renaming getElem?_eq_some_iff → Z2, replicate → Z5, map_cons → Z6, getElem?_set_ne → Z8
open _root_.Nat renaming beq → Z3, le_refl → Z7
open _root_.Option renaming map_eq_some_iff → Z0
open Go.RowKit
section
variable {P : Program} {G : Nat → D} {n : Nat} {e : Nat → D} {h h1 : List Ob}
theorem Vl {f : FuncId} {fn : Func} {c : Code} {args : List D} {K : List Ob → D → Prop} (hf : P.funcs[f]? = some fn) (hb : fn.body = some c) (hn : args.length ≤ fn.ntmps)
 (H : aw P G c (fun e s => (e = .normal ∨ e = .ret) ∧ ∃ ds, resD P s fn.results.toList = some ds ∧ K s.h (outD ds)) ⟨fn.ntmps, Zs4 args, h⟩) : Does P G f h args K := by
 intro w hd p vs o ha
 have hlen := Vg ha
 refine calls_of_wp hf hb (Code.wp_mono ?_ (H ⟨w, hd, h, p⟩ { tmps := vs.toArray ++ Array.replicate (fn.ntmps - vs.toArray.size) undef, defers := [] } w ⟨hd, p, o, .refl _ _ _ _, fun t => ?_, by simp; omega, rfl⟩))
 · rintro e a' w' ⟨s', ⟨he, ds, h1, h6⟩, hd', p', r⟩
   have fin : ∃ v, (results fn a'.tmps).run P w' = .ok v w' ∧ rd hd' s'.h (only p' w') (outD ds) v := by
    obtain ⟨vs', e1, q1⟩ := Yg9 r _ _ h1
    have hl := Vg q1
    have e2 : (results fn a'.tmps).run P w' = .ok (if h : vs'.toArray.size = 1 then vs'.toArray[0] else .tuple vs'.toArray) w' := by
     rw [Yd1, Array.mapM_eq_mapM_toList]
     simp only [Sem.run_bind, Sem.run_map, e1, Result.andThen_ok]
     rfl
    refine ⟨_, e2, ?_⟩
    match ds, vs', q1, hl with
    | [], vs', q1, hl =>
     have : vs' = [] := List.eq_nil_of_length_eq_zero hl.symm
     subst this
     simp only [outD]; rw [rd]; exact ⟨#[], rfl, q1⟩
    | [d], vs', q1, hl =>
     rw [rdL] at q1; obtain ⟨u, t, rfl, q2, q3⟩ := q1
     rw [rdL] at q3; subst q3
     exact q2
    | d :: d2 :: ds, vs', q1, hl =>
     simp only [outD]
     have : ¬ vs'.toArray.size = 1 := by simp at hl ⊢; omega
     rw [dif_neg this, rd]; exact ⟨_, rfl, q1⟩
   obtain ⟨v, e2, q2⟩ := fin
   rcases he with rfl | rfl
   · exact ⟨r.defers, v, e2, v, _, _, _, _, rfl, h6, r.ok, q2, r.evo⟩
   · exact ⟨r.defers, v, e2, v, _, _, _, _, rfl, h6, r.ok, q2, r.evo⟩
 · show rd hd h (only p w) ((args[t]?).getD .any) _
   obtain ⟨_, q⟩ := (Yx _ _).1 ha
   cases hd' : args[t]? with
   | none => show rd hd h (only p w) .any _; rw [rd]; trivial
   | some d =>
    show rd hd h (only p w) d _
    obtain ⟨u, h1, h2⟩ := q t d hd'
    have : (vs.toArray ++ Array.replicate (fn.ntmps - vs.toArray.size) undef).getD t undef = u := by
     rw [Array.getD_eq_getD_getElem?, Array.getElem?_append_left (by simpa using (Z2.1 h1).1)]
     simp [h1]
    rw [this]
    exact h2
def firstN : Nat → List Nat → Bool
 | _, [] => true
 | j, a :: t => bif Z3 a j then firstN (j + 1) t else false
def idxR (R : List Nat) (k : Nat) : Nat := (R[k]?).getD 0
theorem Yk2 {R : List Nat} : ∀ k i, R[k]? = some i → idxR R k = i := fun k i q => by unfold idxR; rw [q]; rfl
def Shr (m : Nat) (h' : List Ob) (r : D) (h2 : List Ob) (r2 : D) : Prop := ∃ R, rnH R h' R = some h2 ∧ Jr R = true ∧ rnO R r = some r2 ∧ m ≤ R.length ∧ ∀ k, k < m → R[k]? = some k
theorem Post.shrink {w w' : World} {hd : List Value} {p : Nat → Bool} {K K' : List Ob → D → Prop} {v : Value} (o : Ok G w hd h p) (hG : ∀ g, low 0 (G g)) (q : Post G w hd h p K v w') (k : ∀ h' r, K h' r → ∃ h2 r2, Shr h.length h' r h2 r2 ∧ K' h2 r2) : Post G w hd h p K' v w' := by
 obtain ⟨hd', h', r, p', hk, o', qr, e⟩ := q
 obtain ⟨h2, r2, ⟨R, e1, e2, e3, e4, e5⟩, hk'⟩ := k _ _ hk
 obtain ⟨len2, L⟩ := lies_of_rn (π := idxR R) Yk2 e1 e2
 obtain ⟨f1, f2⟩ := Zt0 (π := idxR R) Yk2 _ _ e3
 have hid : ∀ i, i < h.length → idxR R i = i := fun i hi => Yk2 _ _ (e5 i hi)
 have at' : ∀ {i : Nat} {u : Value}, i < h.length → hd'[i]? = some u → (pull (idxR R) hd' h2.length)[i]? = some u := fun {i u} hi q => by
  rw [Ze0 o' L (by omega), hid i hi]; exact q
 refine ⟨_, h2, r2, p', hk', L.ok o' hG, rd_une (L.une o') o'.len (fun _ _ h => h) _ _ (by rw [len2]; exact f2) (by rw [f1]; exact qr),
  ⟨e.os, e.tape, e.output, e.size, e.keep, e.vis, e.seen, fun b hb ho => ?_, by omega, fun i B q => ?_, fun i B q => ?_, fun i q => ?_, fun i E k xs hu q => ?_⟩⟩
 · obtain ⟨i, _, ob, u, q1, q2, q3, q4⟩ := L.own o' ho
   exact e.own b hb ⟨_, ob, u, q1, q2, q3, q4⟩
 · exact at' (by rw [← o.len]; exact (Z2.1 q).1) (e.carry.ptr i B q)
 · exact at' (by rw [← o.len]; exact (Z2.1 q).1) (e.carry.mp i B q)
 · exact (L.une o').usd i (by have := q.lt; omega) (by rw [hid i q.lt]; exact e.carry.usd i q)
 · have h3 := L.at_ i _ q
   rw [hid i hu.lt] at h3
   obtain ⟨E0, ys, g1, g2, g3⟩ := e.carry.buf i E k (renR (idxR R) xs) hu h3
   rw [We, List.length_map] at g2 g3
   refine ⟨E0, ys, g1, g2, fun he => ?_⟩
   rw [Ze0 o' L (by have := hu.lt; omega), hid i hu.lt]; exact g3 he
theorem Does.shrink {f : FuncId} {args : List D} {K K' : List Ob → D → Prop} (hG : ∀ g, low 0 (G g)) (q : Does P G f h args K) (k : ∀ h' r, K h' r → ∃ h2 r2, Shr h.length h' r h2 r2 ∧ K' h2 r2) : Does P G f h args K' := Uw.2 fun w hd p vs ok ha =>
 (Uw.1 q w hd p vs ok ha).mono fun _ _ ⟨v, e, q⟩ => ⟨v, e, q.shrink ok hG k⟩
/-! Equality of data, as far as it is easily seen. -/
def vq : Value → Value → Bool
 | .int a x, .int b y => decide (a = b) && decide (x = y)
 | .bool a, .bool b => decide (a = b)
 | .string a, .string b => decide (a.data.toList = b.data.toList)
 | .slice none 0 0, .slice none 0 0 => true
 | .pointer none, .pointer none => true
 | .map none, .map none => true
 | .nilFunc, .nilFunc => true
 | .nilIface, .nilIface => true
 | _, _ => false
theorem vq_spec (a b : Value) (q : vq a b = true) : a = b := by
 unfold vq at q
 split at q
 · simp only [Z1, decide_eq_true_eq] at q; rw [q.1, q.2]
 · simp only [decide_eq_true_eq] at q; rw [q]
 · simp only [decide_eq_true_eq] at q; congr 1; exact ByteArray.ext (Array.ext' q)
 all_goals first | rfl | cases q
mutual
def dq : D → D → Bool
 | .any, .any => true
 | .v x, .v y => vq x y
 | .e0, .e0 => true
 | .sl k xs, .sl l ys => Z3 k l && dqR xs ys
 | .agg xs, .agg ys => dqL xs ys
 | .tup xs, .tup ys => dqL xs ys
 | .rp xs, .rp ys => dqL xs ys
 | .fn f xs, .fn g ys => Z3 f g && dqL xs ys
 | .ptr i o, .ptr j q => Z3 i j && Z3 o q
 | .buf i o, .buf j q => Z3 i j && Z3 o q
 | .bp i a b c, .bp j x y z => Z3 i j && (Z3 a x && (Z3 b y && Z3 c z))
 | .win i a b c, .win j x y z => Z3 i j && (Z3 a x && (Z3 b y && Z3 c z))
 | .arr i a b c d, .arr j x y z u => Z3 i j && (Z3 a x && (Z3 b y && (Z3 c z && Z3 d u)))
 | .mp i, .mp j => Z3 i j
 | _, _ => false
def dqL : List D → List D → Bool
 | [], [] => true
 | a :: s, b :: t => dq a b && dqL s t
 | _, _ => false
def dqR : List (List D) → List (List D) → Bool
 | [], [] => true
 | a :: s, b :: t => dqL a b && dqR s t
 | _, _ => false
end
mutual
theorem dq_spec : ∀ a b, dq a b = true → a = b
 | .any, b, q => by cases b <;> first | rfl | (simp [dq] at q)
 | .v x, b, q => by cases b <;> simp [dq] at q; rw [vq_spec _ _ q]
 | .e0, b, q => by cases b <;> first | rfl | (simp [dq] at q)
 | .sl k xs, b, q => by cases b <;> simp [dq] at q; rw [q.1, Yl7 _ _ q.2]
 | .agg xs, b, q => by cases b <;> simp [dq] at q; rw [Zc2 _ _ q]
 | .tup xs, b, q => by cases b <;> simp [dq] at q; rw [Zc2 _ _ q]
 | .rp xs, b, q => by cases b <;> simp [dq] at q; rw [Zc2 _ _ q]
 | .fn f xs, b, q => by cases b <;> simp [dq] at q; rw [q.1, Zc2 _ _ q.2]
 | .ptr i o, b, q => by cases b <;> simp [dq] at q; rw [q.1, q.2]
 | .buf i o, b, q => by cases b <;> simp [dq] at q; rw [q.1, q.2]
 | .bp i x y z, b, q => by cases b <;> simp [dq] at q; rw [q.1, q.2.1, q.2.2.1, q.2.2.2]
 | .win i x y z, b, q => by cases b <;> simp [dq] at q; rw [q.1, q.2.1, q.2.2.1, q.2.2.2]
 | .arr i x y z u, b, q => by cases b <;> simp [dq] at q; rw [q.1, q.2.1, q.2.2.1, q.2.2.2.1, q.2.2.2.2]
 | .mp i, b, q => by cases b <;> simp [dq] at q; rw [q]
theorem Zc2 : ∀ a b, dqL a b = true → a = b
 | [], b, q => by cases b <;> first | rfl | (simp [dqL] at q)
 | a :: s, b, q => by cases b <;> simp [dqL] at q; rw [dq_spec _ _ q.1, Zc2 _ _ q.2]
theorem Yl7 : ∀ a b, dqR a b = true → a = b
 | [], b, q => by cases b <;> first | rfl | (simp [dqR] at q)
 | a :: s, b, q => by cases b <;> simp [dqR] at q; rw [Zc2 _ _ q.1, Yl7 _ _ q.2]
end
def oq : Ob → Ob → Bool
 | .cells a, .cells b => dqL a b
 | .buf e k a, .buf f l b => Z3 e f && (Z3 k l && dqR a b)
 | .dead, .dead => true
 | .hole, .hole => true
 | _, _ => false
theorem oq_spec (a b : Ob) (q : oq a b = true) : a = b := by
 cases a <;> cases b <;> simp [oq] at q
 · rw [Zc2 _ _ q]
 · rw [q.1, q.2.1, Yl7 _ _ q.2.2]
 · rfl
 · rfl
def wrs (π : Nat → Nat) : Nat → List Ob → List Ob → List (Nat × Ob)
 | _, _, [] => []
 | j, [], o :: t => (π j, Va π o) :: wrs π (j + 1) [] t
 | j, a :: s, o :: t => bif oq a o then wrs π (j + 1) s t else (π j, Va π o) :: wrs π (j + 1) s t
theorem set_self' {h : List Ob} {i : Nat} {ob : Ob} (q : h[i]? = some ob) : h.set i ob = h := by
 apply List.ext_getElem?
 intro j
 by_cases hij : i = j
 · subst hij; rw [List.getElem?_set_self (Z2.1 q).1, q]
 · rw [Z8 hij]
theorem Zu6 {π : Nat → Nat} : ∀ (l' l h : List Ob) (j : Nat), (∀ a b, a < l'.length → b < l'.length → π (j + a) = π (j + b) → a = b) → (∀ i ob, l[i]? = some ob → h[π (j + i)]? = some (Va π ob)) → plc π h j (l'.map (Va π)) = Yv h (wrs π j l l')
 | [], l, h, j, _, _ => by cases l <;> rfl
 | o :: t, [], h, j, inj, _ => by
  rw [Z6, plc, wrs, Yv]
  exact Zu6 t [] _ (j + 1) (fun a b ha hb he => by
   have := inj (a + 1) (b + 1) (by simp; omega) (by simp; omega) (by rw [show j + (a + 1) = j + 1 + a by omega, show j + (b + 1) = j + 1 + b by omega]; exact he)
   omega) (fun i ob q => by simp at q)
 | o :: t, a :: s, h, j, inj, q => by
  have inj' : ∀ a b, a < t.length → b < t.length → π (j + 1 + a) = π (j + 1 + b) → a = b := fun a b ha hb he => by
   have := inj (a + 1) (b + 1) (by simp; omega) (by simp; omega) (by rw [show j + (a + 1) = j + 1 + a by omega, show j + (b + 1) = j + 1 + b by omega]; exact he)
   omega
  have q0 : h[π j]? = some (Va π a) := by simpa using q 0 a rfl
  rw [Z6, plc, wrs]
  cases hq : oq a o
  · simp only [cond_false]
    rw [Yv]
    by_cases hst : s.length ≤ t.length
    · refine Zu6 t s _ (j + 1) inj' fun i ob hi => ?_
      have hi' := (Z2.1 hi).1
      rw [Z8 (fun he => ?_)]
      · rw [show j + 1 + i = j + (i + 1) by omega]; exact q (i + 1) ob (by simpa using hi)
      · have := inj 0 (i + 1) (by simp) (by simp; omega) (by rw [Nat.add_zero, he]; congr 1; omega)
        omega
    · have key : ∀ (t s : List Ob) (j : Nat), wrs π j s t = wrs π j (s.take t.length) t := by
       intro t
       induction t with
       | nil => intro s j; cases s <;> rfl
       | cons o t ih =>
        intro s j
        cases s with
        | nil => rfl
        | cons a s => simp only [List.length_cons, List.take_succ_cons, wrs]; rw [ih s (j + 1)]
      rw [key]
      refine Zu6 t _ _ (j + 1) inj' fun i ob hi => ?_
      rw [List.getElem?_take] at hi
      split at hi
      · rename_i hi'
        rw [Z8 (fun he => ?_)]
        · rw [show j + 1 + i = j + (i + 1) by omega]; exact q (i + 1) ob (by simpa using hi)
        · have := inj 0 (i + 1) (by simp) (by simp; omega) (by rw [Nat.add_zero, he]; congr 1; omega)
          omega
      · cases hi
  · simp only [cond_true]
    have := oq_spec _ _ hq
    subst this
    rw [set_self' q0]
    exact Zu6 t s h (j + 1) inj' fun i ob hi => by rw [show j + 1 + i = j + (i + 1) by omega]; exact q (i + 1) ob (by simpa using hi)
end
section
def unBy : List (List D) → Option (List UInt8)
 | [] => some []
 | [.v (.int .u8 n)] :: t => if 0 ≤ n ∧ n < 256 then (unBy t).map (UInt8.ofNat n.toNat :: ·) else none
 | _ => none
theorem Zu8 : ∀ (xs : List (List D)) (bs : List UInt8), unBy xs = some bs → xs = byD bs
 | [], bs, q => by cases q; rfl
 | [.v (.int .u8 n)] :: t, bs, q => by
  rw [unBy] at q
  split at q
  · rename_i h
    rw [Z0] at q
    obtain ⟨l, h1, rfl⟩ := q
    rw [Zu8 t l h1]
    have : (((UInt8.ofNat n.toNat).toNat : Nat) : Int) = n := by rw [UInt8.toNat_ofNat']; omega
    simp [byD]
    omega
  · cases q
def rowsOkB (k : Nat) (ys : List (List D)) : Bool := ys.all fun row => row.length == k && row.all D.one
theorem rowsOkB_spec {k : Nat} {ys : List (List D)} (q : rowsOkB k ys = true) : Yr k ys := fun row hr => by
 have := List.all_eq_true.1 q row hr
 simp only [Z1, beq_iff_eq, List.all_eq_true] at this
 exact this
end
section
section
variable (P : Program) (G : Nat → D) (env : Nat → D) (h : List Ob)
def idxF (t : TypeId) (x i : D) : Option D := match i with
 | .v (.int _ n) => match x with
  | .sl k xs => if ((elT P t).bind (szT P)) = some k ∧ 0 ≤ n ∧ n < (xs.length : Int) then (xs[n.toNat]?).map .rp else none
  | .buf i m => match h[i]? with
   | some (.buf _ k xs) => if xs.length = m ∧ ((elT P t).bind (szT P)) = some k ∧ 0 ≤ n ∧ n < (m : Int) then some (.bp i m n.toNat 0) else none
   | _ => none
  | .ptr i o => match arrT P t with
   | some (l, e) => match szT P e with
    | some z => if 0 ≤ n ∧ n < (l : Int) then some (.ptr i (o + n.toNat * z)) else none
    | none => none
   | none => none
  | .rp ds => match arrT P t with
   | some (l, e) => match szT P e with
    | some z => if 0 ≤ n ∧ n < (l : Int) then some (.rp (ds.drop (n.toNat * z))) else none
    | none => none
   | none => none
  | _ => none
 | _ => none
theorem idxF_sound {t : TypeId} {x i d : D} {K : D → Prop} (q : idxF P h t x i = some d) (k : K d) : idxA P h t x i K := by
 unfold idxF at q
 unfold idxA
 split at q
 rotate_left
 · cases q
 split at q
 · split at q
   · rename_i hc
     refine ⟨hc.1, hc.2.1, hc.2.2, fun row hr => ?_⟩
     rw [hr] at q; cases q; exact k
   · cases q
 · split at q
   · rename_i e k' xs hh
     split at q
     · rename_i hc; cases q; exact ⟨e, k', xs, hh, hc.1, hc.2.1, hc.2.2.1, hc.2.2.2, k⟩
     · cases q
   · cases q
 · split at q
   · rename_i l e ha
     split at q
     · rename_i z hz
       split at q
       · rename_i hc; cases q; exact ⟨l, e, z, ha, hz, hc.1, hc.2, k⟩
       · cases q
     · cases q
   · cases q
 · split at q
   · rename_i l e ha
     split at q
     · rename_i z hz
       split at q
       · rename_i hc; cases q; exact ⟨l, e, z, ha, hz, hc.1, hc.2, k⟩
       · cases q
     · cases q
   · cases q
 · cases q
end
end
section
section
variable (P : Program) (h : List Ob)
def slcF (t : TypeId) (x : D) (lo hi : Option D) : Option D := match x with
 | .v (.string s) => match bndD 0 lo, bndD s.size hi with
  | some l, some r => if strT P t = true ∧ 0 ≤ l ∧ l ≤ r ∧ r ≤ s.size then some (.v (.string (s.extract l.toNat r.toNat))) else none
  | _, _ => none
 | .sl k xs => match bndD 0 lo, bndD xs.length hi with
  | some l, some r => if (elT P t).bind (szT P) = some k ∧ 0 ≤ l ∧ l ≤ r ∧ r ≤ xs.length then some (.sl k ((xs.take r.toNat).drop l.toNat)) else none
  | _, _ => none
 | _ => none
theorem slcF_sound {t : TypeId} {x d : D} {lo hi : Option D} {K : D → Prop} (q : slcF P t x lo hi = some d) (k : K d) : slcA P t x lo hi K := by
 unfold slcF at q
 unfold slcA
 split at q
 · split at q
   · rename_i l r hl hr
     split at q
     · rename_i hc; cases q; exact ⟨l, r, hc.1, hl, hr, hc.2.1, hc.2.2.1, hc.2.2.2, k⟩
     · cases q
   · cases q
 · split at q
   · rename_i l r hl hr
     split at q
     · rename_i hc; cases q; exact ⟨l, r, hc.1, hl, hr, hc.2.1, hc.2.2.1, hc.2.2.2, k⟩
     · cases q
   · cases q
 · cases q
end
end
section
section
variable (P : Program) (h : List Ob)
def apF (t u : TypeId) (x y : D) : Option (List Ob × D) := match apT P t, srcD P h t u y with
 | some (e, k, by'), some ys => if rowsOkB k ys = true then match x with
   | .buf i n => match h[i]? with
     | some (.buf e2 k2 xs) => if e2 = e ∧ k2 = k ∧ xs.length = n ∧ (n + ys.length) * (by' + 1) ≤ 140737488355328 then some (h.set i (.buf e k (xs ++ ys)), .buf i (n + ys.length)) else none
     | _ => none
   | .v (.slice none 0 0) => if ys.length * (by' + 1) ≤ 140737488355328 then some (h ++ [.buf e k ys], .buf h.length ys.length) else none
   | _ => none
  else none
 | _, _ => none
theorem apF_sound {t u : TypeId} {x y d : D} {h' : List Ob} {K : List Ob → D → Prop} (q : apF P h t u x y = some (h', d)) (k : K h' d) : apA P h t u x y K := by
 unfold apF at q
 unfold apA
 split at q
 rotate_left
 · cases q
 rename_i e k' by' ys ha hs
 split at q
 rotate_left
 · cases q
 rename_i hr
 refine ⟨e, k', by', ys, ha, hs, rowsOkB_spec hr, ?_⟩
 split at q
 · split at q
   · rename_i hh
     split at q
     · rename_i hc
       obtain ⟨rfl, rfl, h1, h2⟩ := hc
       cases q; exact ⟨_, hh, h1, h2, k⟩
     · cases q
   · cases q
 · split at q
   · rename_i hc; cases q; exact ⟨hc, k⟩
   · cases q
 · cases q
end
end
section
section
variable (P : Program) (h : List Ob)
def indF (t : TypeId) (x i : D) : Option D := match x, i with
 | .v (.string s), .v (.int _ n) => if strT P t = true ∧ 0 ≤ n ∧ n < (s.size : Int) then (s.data[n.toNat]?).map fun b => .v (.int .u8 b.toNat) else none
 | .agg ds, .v (.int _ n) => match arrT P t with
  | some (l, e) => match szT P e with
   | some z => if 0 ≤ n ∧ n < (l : Int) then getD P e ds (n.toNat * z) else none
   | none => none
  | none => none
 | _, _ => none
theorem indF_sound {t : TypeId} {x i d : D} {K : D → Prop} (q : indF P t x i = some d) (k : K d) : indA P t x i K := by
 unfold indF at q
 unfold indA
 split at q
 · split at q
   · rename_i hc
     refine ⟨hc.1, hc.2.1, hc.2.2, fun b hb => ?_⟩
     rw [hb] at q; cases q; exact k
   · cases q
 · split at q
   · rename_i l e ha
     split at q
     · rename_i z hz
       split at q
       · rename_i hc; exact ⟨l, e, z, d, ha, hz, hc.1, hc.2, q, k⟩
       · cases q
     · cases q
   · cases q
 · cases q
end
end
section
section
variable (P : Program) (h : List Ob)
def bstF (a b : TypeId) (x : D) : Option D := if byT P a = true ∧ strT P b = true then match x with
 | .sl _ xs => (unBy xs).map fun bs => .v (.string ⟨bs.toArray⟩)
 | .buf i n => match h[i]? with
  | some (.buf _ k xs) => if k = 1 ∧ xs.length = n then (unBy xs).map fun bs => .v (.string ⟨bs.toArray⟩) else none
  | _ => none
 | .v (.slice none 0 0) => some (.v (.string ⟨#[]⟩))
 | _ => none
 else none
theorem Yg1 {a b : TypeId} {x d : D} {K : D → Prop} (q : bstF P h a b x = some d) (k : K d) : bstD P a b h x K := by
 unfold bstF at q
 unfold bstD
 split at q
 rotate_left
 · cases q
 rename_i hc
 refine ⟨hc.1, hc.2, ?_⟩
 split at q
 · rw [Z0] at q
   obtain ⟨bs, h1, rfl⟩ := q
   exact ⟨bs, Zu8 _ _ h1, k⟩
 · split at q
   · rename_i hh
     split at q
     · rename_i hk
       obtain ⟨rfl, h2⟩ := hk
       rw [Z0] at q
       obtain ⟨bs, h1, rfl⟩ := q
       exact ⟨_, _, bs, hh, h2, Zu8 _ _ h1, k⟩
     · cases q
   · cases q
 · cases q; exact k
 · cases q
end
end
section
section
variable (P : Program) (G : Nat → D) (env : Nat → D) (h : List Ob)
def cvF (t u : TypeId) (x : D) : Option D := match x with
 | .v (.int κ n) => convD P t u (.v (.int κ n))
 | .v (.string s) => if byT P u = true ∧ (P.underlying t).isSome = true ∧ s.size ≤ 140737488355328 then some (.sl 1 (byD s.data.toList)) else if strT P u = true ∧ (P.underlying t).isSome = true then some (.v (.string s)) else none
 | x => bstF P h t u x
theorem cvF_sound {t u : TypeId} {x d : D} {K : List Ob → D → Prop} (q : cvF P h t u x = some d) (k : K h d) : cvA P h t u x K := by
 cases x with
 | v X =>
  cases X with
  | int κ n => show on _ _; rw [show convD P t u (.v (.int κ n)) = some d from q]; exact k
  | string s =>
   unfold cvF at q
   simp only at q
   split at q
   · rename_i hc; cases q; exact .inl ⟨hc.1, hc.2.1, hc.2.2, k⟩
   · split at q
     · rename_i hc; cases q; exact .inr ⟨hc.1, hc.2, k⟩
     · cases q
  | _ => exact Yg1 P h (show bstF P h t u _ = some d by simpa only [cvF] using q) k
 | _ => exact Yg1 P h (show bstF P h t u _ = some d by simpa only [cvF] using q) k
end
end
section
section
variable (P : Program) (G : Nat → D) (env : Nat → D) (h : List Ob)
def V6 (o : Option D) : Option (List Ob × D) := o.map fun d => (h, d)
def biF (b : Builtin) (tys : List TypeId) (args : List D) : Option (List Ob × D) := match b, tys, args with
 | .len, [t], [x] => V6 h (lenD P t x)
 | .append, [t, u], [x, y] => apF P h t u x y
 | _, _, _ => none
def aF : Op → Option (List Ob × D)
 | .move x | .assign x => some (h, ev G env x)
 | .pick c x y => match ev G env c with
  | .v (.bool t) => some (h, if t then ev G env x else ev G env y)
  | _ => none
 | .binOp op t x y _ => V6 h (binD P op t x y (ev G env x) (ev G env y))
 | .unOp op _ x => V6 h (unD P op (ev G env x))
 | .convert t u x => V6 h (cvF P h t u (ev G env x))
 | .extract x i => V6 h (extrD i (ev G env x))
 | .field t x f => V6 h (fieldD P t f (ev G env x))
 | .load t x => V6 h (Ug P h t (ev G env x))
 | .store t x y => (J5 P h t (ev G env x) (ev G env y)).map fun h' => (h', .v undef)
 | .fieldAddr t x f => V6 h (Zz2 P t f (ev G env x))
 | .indexAddr t x i => V6 h (idxF P h t (ev G env x) (ev G env i))
 | .nilCheck x => if isPtr (ev G env x) = true then some (h, ev G env x) else none
 | .box _ x => (ev G env x).cells.map fun ds => (h ++ [.cells ds], .ptr h.length 0)
 | .alloc e => (Vq P e).map fun ds => (h ++ [.cells ds], .ptr h.length 0)
 | .build t parts => (Zs3 P t (parts.toList.map fun q => (q.1, ev G env q.2))).map fun ds => (h, .agg ds)
 | .buildSlice t len parts => (litD P t len (parts.toList.map fun q => (q.1, ev G env q.2))).map fun r => (h ++ [.buf r.1 r.2.1 r.2.2], .buf h.length len)
 | .slice t x lo hi none => V6 h (slcF P t (ev G env x) (lo.map (ev G env)) (hi.map (ev G env)))
 | .index t x i => V6 h (indF P t (ev G env x) (ev G env i))
 | .call ⟨.builtin b, args, tys⟩ => biF P h b tys.toList (args.toList.map (ev G env))
 | _ => none
end
end
section
variable {P : Program} {G : Nat → D} {e : Nat → D} {h : List Ob}
theorem Zh3 {op : Op} {h' : List Ob} {d : D} {K : List Ob → D → Prop} (q : aF P G e h op = some (h', d)) (k : K h' d) : aOp P G e h K op := by
 have one : ∀ {x : Option D}, V6 h x = some (h', d) → on x (K h) := fun {x} q => by
  unfold V6 at q
  rw [Z0] at q
  obtain ⟨d', h1, h2⟩ := q
  cases h2
  rw [h1]; exact k
 cases op <;> try (simp only [aF] at q; cases q; done)
 case move x => simp only [aF, Option.some.injEq, Prod.mk.injEq] at q; obtain ⟨rfl, rfl⟩ := q; exact k
 case assign x => simp only [aF, Option.some.injEq, Prod.mk.injEq] at q; obtain ⟨rfl, rfl⟩ := q; exact k
 case pick c x y =>
  simp only [aF] at q
  split at q
  · rename_i t ht; cases q; exact ⟨t, ht, k⟩
  · cases q
 case binOp => exact one q
 case unOp => exact one q
 case convert t u x =>
  simp only [aF, V6] at q
  rw [Z0] at q
  obtain ⟨d', h1, h2⟩ := q
  cases h2
  exact cvF_sound P h h1 k
 case extract => exact one q
 case field => exact one q
 case load => exact one q
 case fieldAddr => exact one q
 case store t x y =>
  simp only [aF] at q
  rw [Z0] at q
  obtain ⟨h2, h1, h3⟩ := q
  cases h3
  exact X6.2 ⟨_, h1, k⟩
 case indexAddr t x i =>
  simp only [aF, V6] at q
  rw [Z0] at q
  obtain ⟨d', h1, h2⟩ := q
  cases h2
  exact idxF_sound P h h1 k
 case nilCheck x =>
  simp only [aF] at q
  split at q
  · rename_i hp; cases q; exact ⟨hp, k⟩
  · cases q
 case box t x =>
  simp only [aF] at q
  rw [Z0] at q
  obtain ⟨ds, h1, h3⟩ := q
  cases h3
  exact X6.2 ⟨_, h1, k⟩
 case alloc t =>
  simp only [aF] at q
  rw [Z0] at q
  obtain ⟨ds, h1, h3⟩ := q
  cases h3
  exact X6.2 ⟨_, h1, k⟩
 case build t parts =>
  simp only [aF] at q
  rw [Z0] at q
  obtain ⟨ds, h1, h3⟩ := q
  cases h3
  exact X6.2 ⟨_, h1, k⟩
 case buildSlice t len parts =>
  simp only [aF] at q
  rw [Z0] at q
  obtain ⟨r, h1, h3⟩ := q
  cases h3
  exact X6.2 ⟨_, h1, k⟩
 case slice t x lo hi mx =>
  cases mx with
  | some m => simp only [aF] at q; cases q
  | none =>
   simp only [aF, V6] at q
   rw [Z0] at q
   obtain ⟨d', h1, h2⟩ := q
   cases h2
   exact slcF_sound P h1 k
 case index t x i =>
  simp only [aF, V6] at q
  rw [Z0] at q
  obtain ⟨d', h1, h2⟩ := q
  cases h2
  exact indF_sound P h1 k
 case call c =>
  obtain ⟨cal, args, tys⟩ := c
  cases cal with
  | builtin b =>
   simp only [aF] at q
   show biA P h b tys.toList (args.toList.map (ev G e)) K
   generalize tys.toList = T at q ⊢
   generalize args.toList.map (ev G e) = A at q ⊢
   unfold biF at q
   unfold biA
   split at q
   · exact one q
   · exact apF_sound P h q k
   · cases q
  | _ => simp only [aF] at q; cases q
end
section
variable {P : Program} {G : Nat → D} {e : Nat → D} {h : List Ob}
theorem rdL_mem {a : Act} {hd : List Value} {W : World} : ∀ {l : List Operand}, rdL hd h W (l.map (ev G e)) (l.map a.eval) → ∀ x ∈ l, rd hd h W (ev G e x) (a.eval x)
 | [], _, x, hx => by simp at hx
 | y :: t, q, x, hx => by
  rw [Z6, Z6, rdL] at q
  obtain ⟨u, v, e0, q1, q2⟩ := q
  cases e0
  rcases List.mem_cons.1 hx with rfl | hx
  · exact q1
  · exact rdL_mem q2 x hx
theorem Zl4 {o : Oper} {K : List Ob → D → Prop} (H : ∀ (a : Act) w hd p, Ok G w hd h p → (∀ x ∈ opds o.op, rd hd h (only p w) (ev G e x) (a.eval x)) → ∃ v w', ((execOp a.eval o).run P w = .ok (.value v) w' ∨ ((execOp a.eval o).run P w = .ok .skip w' ∧ v = undef)) ∧ Post G w hd h p K v w') : OpTri P G o ((opds o.op).map (ev G e)) h K := fun a w hd p R hdf ok ha => by
 obtain ⟨v, w', hr, q⟩ := H a w hd p ok (rdL_mem ha)
 unfold Oper.wp
 rcases hr with hr | ⟨hr, rfl⟩
 · rw [hr]; exact ⟨v, rfl, q⟩
 · rw [hr]; exact ⟨_, rfl, q⟩
theorem Post.same {w : World} {hd : List Value} {p : Nat → Bool} {K : List Ob → D → Prop} {d : D} {v : Value} (o : Ok G w hd h p) (k : K h d) (q : rd hd h (only p w) d v) : Post G w hd h p K v w := ⟨hd, h, d, p, k, o, q, .refl _ _ _ _⟩
theorem Za5 {o : Oper} {d : D} (H : ∀ (a : Act) w hd p, Ok G w hd h p → (∀ x ∈ opds o.op, rd hd h (only p w) (ev G e x) (a.eval x)) → ∃ v, (execOp a.eval o).run P w = .ok (.value v) w ∧ rd hd h (only p w) d v) : OpTri P G o ((opds o.op).map (ev G e)) h (fun h' r => h' = h ∧ r = d) := Zl4 fun a w hd p ok ha => by
 obtain ⟨v, hr, q⟩ := H a w hd p ok ha
 exact ⟨v, w, .inl hr, .same ok ⟨rfl, rfl⟩ q⟩
section
variable (P : Program) (G : Nat → D) (e : Nat → D) (h : List Ob)
def sliF (t : TypeId) (x : D) (lo hi : Option D) : Option D := match x with
 | .buf i n => match h[i]? with
  | some (.buf _ k xs) => match bndD 0 lo, bndD n hi with
   | some l, some r => bif decide (xs.length = n) && decide ((elT P t).bind (szT P) = some k) && decide (0 ≤ l) && decide (l ≤ r) && decide (r ≤ n) then some (.win i n l.toNat r.toNat) else none
   | _, _ => none
  | _ => none
 | .win i n a b => match h[i]? with
  | some (.buf _ k xs) => match bndD 0 lo, bndD (b - a : Nat) hi with
   | some l, some r => bif decide (xs.length = n) && decide ((elT P t).bind (szT P) = some k) && decide (0 ≤ l) && decide (l ≤ r) && decide (r ≤ (b - a : Nat)) then some (.win i n (a + l.toNat) (a + r.toNat)) else none
   | _, _ => none
  | _ => none
 | .arr i o n c k => match bndD 0 lo, bndD n hi with
  | some l, some r => bif decide ((elT P t).bind (szT P) = some k) && decide (0 ≤ l) && decide (l ≤ r) && decide (r ≤ n) && decide (n ≤ c) then some (.arr i (if c = l.toNat then o else o + l.toNat * k) (r.toNat - l.toNat) (c - l.toNat) k) else none
  | _, _ => none
 | .ptr i o => match P.underlying t with
  | some (.pointer a) => match arrT P a with
   | some (n, el) => match szT P el, bndD 0 lo, bndD n hi with
    | some k, some l, some r => bif decide (0 ≤ l) && decide (l ≤ r) && decide (r ≤ n) then some (.arr i (if n = l.toNat then o else o + l.toNat * k) (r.toNat - l.toNat) (n - l.toNat) k) else none
    | _, _, _ => none
   | none => none
  | _ => none
 | .v (.slice none 0 0) => match (elT P t).bind (szT P), bndD 0 lo, bndD 0 hi with
  | some _, some l, some r => bif decide (l = 0) && decide (r = 0) then some (.v (.slice none 0 0)) else none
  | _, _, _ => none
 | .e0 => match (elT P t).bind (szT P), bndD 0 lo, bndD 0 hi with
  | some _, some l, some r => bif decide (l = 0) && decide (r = 0) then some .e0 else none
  | _, _, _ => none
 | _ => none
end
theorem Zv7 {t el k : Nat} {w : World} (he : elT P t = some el) (hs : szT P el = some k) {ad : Option Addr} {len cap : Nat} {lo hi : Option D} {vlo vhi : Option Value} {l r : Int} {hd : List Value} {W : World} (q1 : bndD 0 lo = some l) (q2 : bndD len hi = some r) (r1 : (lo = none ∧ vlo = none) ∨ ∃ d v, lo = some d ∧ vlo = some v ∧ rd hd h W d v) (r2 : (hi = none ∧ vhi = none) ∨ ∃ d v, hi = some d ∧ vhi = some v ∧ rd hd h W d v)
 (h0 : 0 ≤ l) (h1 : l ≤ r) (h2 : r ≤ len) (h3 : len ≤ cap) : (Instr.sliceAt t (.slice ad len cap) vlo vhi none).run P w = .ok (.slice (if cap = l.toNat then ad else ad.map (·.add (l.toNat * k))) (r.toNat - l.toNat) (cap - l.toNat)) w := by
 have hb := Ym4 (P := P) (w := w) (isS := true) q1 q2 r1 r2 h0 h1 h2 h3
 simp [Instr.sliceAt, Instr.slice, run_underlying (Zc1 he), hb, Wc hs]
theorem and5 {a b c d e : Bool} (q : (a && b && c && d && e) = true) : a = true ∧ b = true ∧ c = true ∧ d = true ∧ e = true := by
 simp only [Z1] at q; exact ⟨q.1.1.1.1, q.1.1.1.2, q.1.1.2, q.1.2, q.2⟩
theorem Zk2 {t k : Nat} (q : (elT P t).bind (szT P) = some k) : ∃ el, elT P t = some el ∧ szT P el = some k := by
 cases he : elT P t with
 | none => rw [he] at q; cases q
 | some el => rw [he] at q; exact ⟨el, rfl, q⟩
theorem Yw {α : Type} {b : Bool} {x : α} {y : α} (q : (bif b then some x else none) = some y) : b = true ∧ x = y := by
 cases b
 · cases q
 · cases q; exact ⟨rfl, rfl⟩
theorem sliF_run {w : World} {hd : List Value} {p : Nat → Bool} (o : Ok G w hd h p) {t : Nat} {x d : D} {lo hi : Option D} {v : Value} {vlo vhi : Option Value} (q : sliF P h t x lo hi = some d) (qx : rd hd h (only p w) x v) (r1 : (lo = none ∧ vlo = none) ∨ ∃ d v, lo = some d ∧ vlo = some v ∧ rd hd h (only p w) d v) (r2 : (hi = none ∧ vhi = none) ∨ ∃ d v, hi = some d ∧ vhi = some v ∧ rd hd h (only p w) d v) :
 ∃ u, (Instr.sliceAt t v vlo vhi none).run P w = .ok u w ∧ rd hd h (only p w) d u := by
 unfold sliF at q
 split at q
 · rename_i i n
   split at q
   rotate_left
   · cases q
   rename_i E k xs hi'
   split at q
   rotate_left
   · cases q
   rename_i l r hl hr
   obtain ⟨hc, rfl⟩ := Yw q
   obtain ⟨c1, c2, c3, c4, c5⟩ := and5 hc
   simp only [decide_eq_true_eq] at c1 c2 c3 c4 c5
   obtain ⟨el, he, hs⟩ := Zk2 c2
   rw [rd] at qx
   obtain ⟨_, hu, qx⟩ := qx
   have hv := (qx E k xs hi').2 c1
   obtain ⟨cs, o1, _, _, _⟩ := o.ob i _ _ hi' hv
   rw [c1] at o1
   rcases id o1.2 with ⟨rfl, hn⟩ | ⟨g, cap, cur, rfl, _, _, hnc, _⟩
   · subst hn
     have e1 : l = 0 := by omega
     have e2 : r = 0 := by omega
     subst e1; subst e2
     refine ⟨_, Zv7 he hs hl hr r1 r2 (Z4 _) (Z4 _) (Z4 _) (Z7 _), ?_⟩
     rw [rd]
     refine ⟨⟨_, _, rfl⟩, hu, fun E' k' xs' hx => ⟨by omega, fun _ => ⟨Z7 _, Z7 _, .inl ⟨rfl, rfl⟩⟩⟩⟩
   · refine ⟨_, Zv7 he hs hl hr r1 r2 c3 c4 c5 hnc, ?_⟩
     rw [rd]
     refine ⟨⟨_, _, rfl⟩, hu, fun E' k' xs' hx => ?_⟩
     rw [hi'] at hx; cases hx
     refine ⟨by omega, fun _ => ⟨by omega, by omega, .inr ⟨g, cap, (if cap = l.toNat then 0 else l.toNat * k), hv, ?_, fun hlt => ?_⟩⟩⟩
     rotate_left
     · split
       · rcases hlt with h5 | h5
         · omega
         · rw [h5]; simp
       · rfl
     congr 1
     split
     · rfl
     · simp [Xj]
 · rename_i i n a b
   split at q
   rotate_left
   · cases q
   rename_i E k xs hi'
   split at q
   rotate_left
   · cases q
   rename_i l r hl hr
   obtain ⟨hc, rfl⟩ := Yw q
   obtain ⟨c1, c2, c3, c4, c5⟩ := and5 hc
   simp only [decide_eq_true_eq] at c1 c2 c3 c4 c5
   obtain ⟨el, he, hs⟩ := Zk2 c2
   rw [rd] at qx
   obtain ⟨_, hu, qx⟩ := qx
   obtain ⟨w1, w2, w3⟩ := (qx E k xs hi').2 c1
   rcases w3 with ⟨rfl, hn⟩ | ⟨B, cap, q0, hv, rfl, hq⟩
   · subst hn
     have e1 : l = 0 := by omega
     have e2 : r = 0 := by omega
     subst e1; subst e2
     refine ⟨_, Zv7 he hs hl (by simpa [show b - a = 0 by omega] using hr) r1 r2 (Z4 _) (Z4 _) (Z4 _) (Z7 _), ?_⟩
     rw [rd]
     refine ⟨⟨none, 0, by simp⟩, hu, fun E' k' xs' hx => ⟨by omega, fun _ => ⟨by simp, by simp; omega, .inl ⟨by simp, rfl⟩⟩⟩⟩
   · have hbc : b - a ≤ cap - a := by
      obtain ⟨cs, o1, _, _, _⟩ := o.ob i _ _ hi' hv
      rcases o1.2 with ⟨h5, _⟩ | ⟨g, cap', cur, h5, _, _, hnc, _⟩
      · cases h5
      · cases h5; omega
     refine ⟨_, Zv7 he hs hl hr r1 r2 c3 c4 c5 hbc, ?_⟩
     rw [rd]
     have e3 : a + r.toNat - (a + l.toNat) = r.toNat - l.toNat := by omega
     refine ⟨⟨_, _, by rw [e3]⟩, hu, fun E' k' xs' hx => ?_⟩
     rw [hi'] at hx; cases hx
     refine ⟨by omega, fun _ => ⟨by omega, by omega, .inr ⟨B, cap, (if cap - a = l.toNat then q0 else q0 + l.toNat * k), hv, ?_, fun hlt => ?_⟩⟩⟩
     rotate_left
     · rw [hq (by omega), Nat.add_mul]
       split
       · rename_i hcl
         rcases hlt with h | h
         · omega
         · rw [show l.toNat = 0 by omega]; simp
       · rfl
     rw [e3, show cap - (a + l.toNat) = cap - a - l.toNat by omega]
     congr 1
     split
     · rfl
     · simp [Xj]
 · rename_i i o' n c k
   split at q
   rotate_left
   · cases q
   rename_i l r hl hr
   obtain ⟨hc, rfl⟩ := Yw q
   obtain ⟨c2, c3, c4, c5, c6⟩ := and5 hc
   simp only [decide_eq_true_eq] at c2 c3 c4 c5 c6
   obtain ⟨el, he, hs⟩ := Zk2 c2
   rw [rd] at qx
   obtain ⟨B, hB, rfl⟩ := qx
   refine ⟨_, Zv7 he hs hl hr r1 r2 c3 c4 c5 c6, ?_⟩
   rw [rd]
   refine ⟨B, hB, ?_⟩
   congr 1
   split
   · rfl
   · simp [Xj]
 · rename_i i o'
   split at q
   rotate_left
   · cases q
   rename_i a hu
   split at q
   rotate_left
   · cases q
   rename_i n el ha
   split at q
   rotate_left
   · cases q
   rename_i k l r hs hl hr
   obtain ⟨hc, rfl⟩ := Yw q
   simp only [Z1, decide_eq_true_eq] at hc
   obtain ⟨⟨c3, c4⟩, c5⟩ := hc
   rw [rd] at qx
   obtain ⟨B, hB, rfl⟩ := qx
   have hb := Ym4 (P := P) (w := w) (isS := false) (len := n) (cap := n) hl hr r1 r2 c3 c4 c5 (Z7 _)
   refine ⟨_, by simp [Instr.sliceAt, Instr.sureAddr, Instr.slice, run_underlying hu, run_underlying (arrT_spec ha), asAddr, hb, Wc hs]; rfl, ?_⟩
   rw [rd]
   refine ⟨B, hB, ?_⟩
   congr 2
   split
   · rfl
   · simp [Xj]
 · split at q
   rotate_left
   · cases q
   rename_i k l r hk hl hr
   obtain ⟨hc, rfl⟩ := Yw q
   simp only [Z1, decide_eq_true_eq] at hc
   obtain ⟨rfl, rfl⟩ := hc
   obtain ⟨el, he, hs⟩ := Zk2 hk
   rw [rd] at qx; subst qx
   exact ⟨_, Zv7 he hs hl hr r1 r2 (Z4 _) (Z4 _) (Z4 _) (Z7 _), by rw [rd]; rfl⟩
 · split at q
   rotate_left
   · cases q
   rename_i k l r hk hl hr
   obtain ⟨hc, rfl⟩ := Yw q
   simp only [Z1, decide_eq_true_eq] at hc
   obtain ⟨rfl, rfl⟩ := hc
   obtain ⟨el, he, hs⟩ := Zk2 hk
   rw [rd] at qx; obtain ⟨a, rfl⟩ := qx
   exact ⟨_, Zv7 he hs hl hr r1 r2 (Z4 _) (Z4 _) (Z4 _) (Z7 _), by rw [rd]; exact ⟨_, rfl⟩⟩
 · cases q
end
section
variable {P : Program} {G : Nat → D} {e : Nat → D} {h : List Ob}
section
variable (P : Program) (h : List Ob)
def makF (t : TypeId) (x y : D) : Option (List Ob × D) := match x, y with
 | .v (.int _ l), .v (.int _ c) => match apT P t with
  | some (el, k, by') => match Vq P el with
   | some zs => bif decide (0 ≤ l) && decide (l ≤ c) && decide ((by' : Int) * c ≤ 281474976710656) && decide (c ≤ 281474976710656) && decide (zs.length = k) then some (h ++ [.buf el k (Z5 l.toNat zs)], .buf h.length l.toNat) else none
   | none => none
  | none => none
 | _, _ => none
def idxN (t : TypeId) (x i : D) : Option D := match i with
 | .v (.int _ m) => match x with
  | .win i n a b => match h[i]? with
   | some (.buf _ k xs) => bif decide (xs.length = n) && decide ((elT P t).bind (szT P) = some k) && decide (0 ≤ m) && decide (m < (b - a : Nat)) then some (.bp i n (a + m.toNat) 0) else none
   | _ => none
  | .arr i o n _ k => bif decide ((elT P t).bind (szT P) = some k) && decide (0 ≤ m) && decide (m < (n : Nat)) then some (.ptr i (o + m.toNat * k)) else none
  | _ => none
 | _ => none
def nonNil (x : D) : Bool := match x with
 | .buf i n => match h[i]? with
  | some (.buf _ _ xs) => decide (xs.length = n) && decide (0 < n)
  | _ => false
 | .win i n a b => match h[i]? with
  | some (.buf _ _ xs) => decide (xs.length = n) && decide (a < b)
  | _ => false
 | .arr _ _ _ _ _ => true
 | .sl _ (_ :: _) => true
 | _ => false
def nilF (op : BinOp) (t : TypeId) (x y : D) : Option D := match y with
 | .v (.slice none 0 0) => bif slT P t && nonNil h x then (match op with
  | .eql => some (.v (.bool false))
  | .neq => some (.v (.bool true))
  | _ => none) else none
 | _ => none
def binI (op : BinOp) (k : IntKind) (a b : Int) : Option Value := match op with
 | .eql => some (.bool (decide (a = b)))
 | .neq => some (.bool (!decide (a = b)))
 | .lss => some (.bool (decide (a < b)))
 | .leq => some (.bool (decide (a ≤ b)))
 | .gtr => some (.bool (decide (b < a)))
 | .geq => some (.bool (decide (b ≤ a)))
 | .add => some (.int k (k.wrap (a + b)))
 | .sub => some (.int k (k.wrap (a - b)))
 | .mul => some (.int k (k.wrap (a * b)))
 | _ => none
def Zq3 : List UInt8 → List UInt8 → Bool
 | _, [] => false
 | [], _ :: _ => true
 | a :: s, b :: t => bif Nat.blt a.toNat b.toNat then true else bif Z3 a.toNat b.toNat then Zq3 s t else false
def binS (op : BinOp) (a b : ByteArray) : Option Value := match op with
 | .eql => some (.bool (decide (a.data.toList = b.data.toList)))
 | .neq => some (.bool (!decide (a.data.toList = b.data.toList)))
 | .lss => some (.bool (Zq3 a.data.toList b.data.toList))
 | .geq => some (.bool (!Zq3 a.data.toList b.data.toList))
 | .gtr => some (.bool (Zq3 b.data.toList a.data.toList))
 | .leq => some (.bool (!Zq3 b.data.toList a.data.toList))
 | _ => none
def binN (op : BinOp) (x y : D) : Option D := match x, y with
 | .v (.int j a), .v (.int k b) => bif decide (j = k) then (binI op j a b).map .v else none
 | .v (.string a), .v (.string b) => (binS op a b).map .v
 | _, _ => none
def lenN (t : TypeId) (x : D) : Option D := match x with
 | .win _ _ a b => bif slT P t then some (.v (.int .i64 (b - a : Nat))) else none
 | .arr _ _ n _ _ => bif slT P t then some (.v (.int .i64 n)) else none
 | .e0 => bif slT P t then some (.v (.int .i64 0)) else none
 | _ => none
def capN (t : TypeId) (x : D) : Option D := match x with
 | .v (.slice none 0 0) | .e0 => bif slT P t then some (.v (.int .i64 0)) else none
 | .arr _ _ _ c _ => bif slT P t then some (.v (.int .i64 c)) else none
 | _ => none
end
theorem makF_post {w : World} {hd : List Value} {p : Nat → Bool} (o : Ok G w hd h p) {t : Nat} {x y d : D} {h' : List Ob} {u v : Value} (q : makF P h t x y = some (h', d)) (qx : rd hd h (only p w) x u) (qy : rd hd h (only p w) y v) :
 ∃ r w', (Instr.makeSlice t u v).run P w = .ok r w' ∧ Post G w hd h p (fun h1 d1 => h1 = h' ∧ d1 = d) r w' := by
 unfold makF at q
 split at q
 rotate_left
 · cases q
 rename_i kl l kc c
 split at q
 rotate_left
 · cases q
 rename_i el k by' ha
 split at q
 rotate_left
 · cases q
 rename_i zs hzs
 obtain ⟨hc, hq⟩ := Yw q
 cases hq
 obtain ⟨c1, c2, c3, c4, c5⟩ := and5 hc
 simp only [decide_eq_true_eq] at c1 c2 c3 c4 c5
 rw [rd] at qx qy; subst qx; subst qy
 obtain ⟨hu, inf, z, hinf, hz, hsz, hby, hzsz, hpos⟩ := Zo7 ha
 subst hby
 have hr := run_make (P := P) w t el inf z hu hinf hz kl kc l c c1 c2 c3 (by omega)
 have hz0 : Zk8 P el = some z := by unfold Zk8; rw [hinf]; exact hz
 have hzc : (D.v z).cells = some zs := by unfold Vq at hzs; rw [hz0] at hzs; exact hzs
 have zr : ∀ {hd2 : List Value} {h2 : List Ob} {W : World}, rdL hd2 h2 W zs z.cells.toList := fun {hd2 h2 W} => U0 (d := .v z) (v := z) (by rw [rd]) hzc
 rw [hsz] at hr
 have hlc : l.toNat ≤ c.toNat := by omega
 have hmul : l.toNat * k ≤ c.toNat * k := Nat.mul_le_mul_right _ hlc
 generalize hcur : madeCells z.cells (c.toNat * k) = cur at hr
 have hcs : cur.size = c.toNat * k := by rw [← hcur, size_madeCells]
 have cell : ∀ j, j < c.toNat * k → cur[j]? = z.cells[j % k]? := fun j hj => by
  have hm : j % z.cells.size < z.cells.size := Nat.mod_lt _ (by omega)
  rw [← hcur]
  unfold madeCells
  rw [Array.getElem?_map, Array.getElem?_range, if_pos hj, ← hzsz]
  simp [hm]
 have rows : ∀ {hd2 : List Value} {h2 : List Ob} {W : World}, rdL hd2 h2 W (Z5 l.toNat zs).flatten (cur.toList.take (l.toNat * k)) := fun {hd2 h2 W} => by
  have hfl : (Z5 l.toNat zs).flatten.length = l.toNat * k := by simp [c5]
  refine (Yx _ _).2 ⟨by rw [hfl]; simp; omega, fun j d hj => ?_⟩
  have hj' : j < l.toNat * k := by rw [← hfl]; exact (Z2.1 hj).1
  have hdm : j / k * k + j % k = j := Nat.div_add_mod' j k
  have hmk : j % k < k := Nat.mod_lt _ hpos
  have hfr := Jx (k := k) (Z5 l.toNat zs) (fun row hr => by rw [(List.mem_replicate.1 hr).2, c5]) (j / k) (j % k) hmk
  have hdl : j / k < l.toNat := Nat.div_lt_of_lt_mul (by rw [Nat.mul_comm]; exact hj')
  rw [hdm, List.getElem?_replicate, if_pos hdl] at hfr
  rw [hfr] at hj
  obtain ⟨u, g1, g2⟩ := ((Yx _ _).1 (zr (hd2 := hd2) (h2 := h2) (W := W))).2 (j % k) d hj
  refine ⟨u, ?_, g2⟩
  rw [List.getElem?_take, if_pos hj', Array.getElem?_toList, cell j (by omega), ← Array.getElem?_toList]; exact g1
 have g := o.grow (w' := w.alloc (.cells cur el)) (ob := .buf el k (Z5 l.toNat zs)) (u := .slice (some ⟨w.heap.size, 0, none⟩) l.toNat c.toNat) rfl rfl rfl (by simp) (fun b hb => Wt w _ hb) (fun b hb => by cases hb; rfl)
  (fun c' sb => ⟨cur.toList.take (l.toNat * k), ⟨by simp; omega, .inr ⟨w.heap.size, c.toNat, cur, by simp, Nat.zero_le _, heap_alloc_new w _, by simpa using hlc, by unfold maxLen; omega, hcs, by simp⟩⟩, rows, fun row hr => by rw [(List.mem_replicate.1 hr).2, c5], fun g hg => by cases hg; simp⟩)
 refine ⟨_, _, hr, _, _, _, _, ⟨rfl, rfl⟩, g.1, ?_, g.2⟩
 rw [rd]
 refine ⟨⟨_, _, rfl⟩, .of (ob := .buf el k (Z5 l.toNat zs)) (by simp) rfl, fun e' k' xs' hx => ?_⟩
 have : xs' = Z5 l.toNat zs := by simp at hx; exact hx.2.2.symm
 subst this
 exact ⟨by simp, fun _ => by rw [← o.len]; simp⟩
theorem idxN_run {w : World} {hd : List Value} {p : Nat → Bool} (ok : Ok G w hd h p) {t : Nat} {x i d : D} {u v : Value} (q : idxN P h t x i = some d) (qx : rd hd h (only p w) x u) (qi : rd hd h (only p w) i v) : ∃ r, (Instr.indexAt t u v).run P w = .ok r w ∧ rd hd h (only p w) d r := by
 unfold idxN at q
 split at q
 rotate_left
 · cases q
 rename_i κ m
 rw [rd] at qi; subst qi
 split at q
 · rename_i i n a b
   split at q
   rotate_left
   · cases q
   rename_i E k xs hi
   obtain ⟨hc, rfl⟩ := Yw q
   simp only [Z1, decide_eq_true_eq] at hc
   obtain ⟨⟨⟨c1, c2⟩, c3⟩, c4⟩ := hc
   obtain ⟨el, he, hs⟩ := Zk2 c2
   rw [rd] at qx
   obtain ⟨_, hu, qx⟩ := qx
   obtain ⟨w1, w2, w3⟩ := (qx E k xs hi).2 c1
   rcases w3 with ⟨rfl, hn⟩ | ⟨B, cap, q0, hv, rfl, hq⟩
   · omega
   · have hac : a < cap := by
      obtain ⟨cs, o1, _, _, _⟩ := ok.ob i _ _ hi hv
      rcases o1.2 with ⟨h5, _⟩ | ⟨g, cap', cur, h5, _, _, hnc, _⟩
      · cases h5
      · cases h5; omega
     refine ⟨_, by simp [Instr.indexAt, asIntOf, Go.underlying, Zc1 he, Wc hs, c3, c4, Xj]; rfl, ?_⟩
     rw [rd]
     refine ⟨⟨_, rfl⟩, hu, fun E' k' xs' hx => ?_⟩
     rw [hi] at hx; cases hx
     exact ⟨by omega, fun _ => ⟨B, cap, hv, by rw [hq (.inl hac), Nat.add_mul, Nat.add_zero]⟩⟩
 · rename_i i o n c k
   obtain ⟨hc, rfl⟩ := Yw q
   simp only [Z1, decide_eq_true_eq] at hc
   obtain ⟨⟨c2, c3⟩, c4⟩ := hc
   obtain ⟨el, he, hs⟩ := Zk2 c2
   rw [rd] at qx
   obtain ⟨B, hB, rfl⟩ := qx
   refine ⟨_, by simp [Instr.indexAt, asIntOf, Go.underlying, Zc1 he, Wc hs, c3, c4, Xj]; rfl, ?_⟩
   rw [rd]
   exact ⟨B, hB, rfl⟩
 · cases q
theorem nonNil_spec {w : World} {hd : List Value} {p : Nat → Bool} (o : Ok G w hd h p) {x : D} {u : Value} (q : nonNil h x = true) (qx : rd hd h (only p w) x u) : ∃ a n c, u = .slice (some a) n c := by
 unfold nonNil at q
 split at q
 · rename_i i n
   split at q
   · rename_i E k xs hi
     simp only [Z1, decide_eq_true_eq] at q
     rw [rd] at qx
     obtain ⟨_, hu, qx⟩ := qx
     have hv := (qx E k xs hi).2 q.1
     obtain ⟨cs, o1, _, _, _⟩ := o.ob i _ _ hi hv
     rcases id o1.2 with ⟨rfl, hn⟩ | ⟨g, cap, cur, rfl, _⟩
     · omega
     · exact ⟨_, _, _, rfl⟩
   · cases q
 · rename_i i n a b
   split at q
   · rename_i E k xs hi
     simp only [Z1, decide_eq_true_eq] at q
     rw [rd] at qx
     obtain ⟨_, hu, qx⟩ := qx
     obtain ⟨w1, w2, w3⟩ := (qx E k xs hi).2 q.1
     rcases w3 with ⟨rfl, hn⟩ | ⟨B, cap, q0, hv, rfl, hq⟩
     · omega
     · exact ⟨_, _, _, rfl⟩
   · cases q
 · rw [rd] at qx; obtain ⟨B, _, rfl⟩ := qx; exact ⟨_, _, _, rfl⟩
 · rw [rd] at qx
   obtain ⟨a, cap, rfl, _, _, hr⟩ := qx
   rw [Xo] at hr
   obtain ⟨⟨b, q, rfl, _⟩, _⟩ := hr
   exact ⟨_, _, _, rfl⟩
 · cases q
theorem lessB_eq : ∀ a b : List UInt8, Zq3 a b = Op.bytesLess a b
 | [], [] => by rw [Zq3]; rfl
 | a :: s, [] => by rw [Zq3]; rfl
 | [], b :: t => by rw [Zq3]; rfl
 | a :: s, b :: t => by
  have blt : ∀ a b : Nat, Nat.blt a b = decide (a < b) := fun a b => by rw [Bool.eq_iff_iff, Nat.blt_eq, decide_eq_true_eq]
  have e1 : (a < b) = (a.toNat < b.toNat) := propext UInt8.lt_iff_toNat_lt
  have e2 : (a = b) = (a.toNat = b.toNat) := propext UInt8.toNat_inj.symm
  rw [Zq3, lessB_eq s t, blt, bqE, Op.bytesLess]
  by_cases h1 : a.toNat < b.toNat
  · simp [h1, e1]
  · by_cases h2 : a.toNat = b.toNat
    · simp [h1, e1, e2, h2]
    · simp [h1, e1, e2, h2]
section
variable {P : Program} {G : Nat → D} {e : Nat → D} {h : List Ob} {dst : Option Nat} {t f : Nat} {x y : Operand} {ty : TypeId} {pos : String} {aft : Array Edge} {gd : Option (Nat × Bool)} {caps : Array Operand}
theorem tri_mkf : OpTri P G ⟨dst, .makeFunc (.func f) #[] caps, ty, pos, aft, gd⟩ ((opds (.makeFunc (.func f) #[] caps)).map (ev G e)) h (fun h1 d1 => h1 = h ∧ d1 = .fn f (caps.toList.map (ev G e))) := by
 refine Za5 fun a w hd p ok ha => ⟨.func (.func f) #[] (caps.map a.eval), by simp [execOp, Instr.makeFunc], ?_⟩
 rw [rd]
 refine ⟨_, rfl, ?_⟩
 have ho : opds (.makeFunc (.func f) #[] caps) = caps.toList := by simp [opds, Op.operands]
 have ha : ∀ x ∈ caps.toList, rd hd h (only p w) (ev G e x) (a.eval x) := fun x hx => ha x (by rw [ho]; exact hx)
 rw [Array.toList_map]
 generalize caps.toList = l at ha
 induction l with
 | nil => rw [List.map_nil, List.map_nil, rdL]
 | cons x t ih => rw [Z6, Z6, rdL]; exact ⟨_, _, rfl, ha x (by simp), ih fun y hy => ha y (by simp [hy])⟩
end
end
end Go.Proofs.YtbhkcbidcfofiaaGreat
