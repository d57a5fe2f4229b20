/-
  What the statements of the chapter share, part 08: F3, F4, WR0.
-/
import Derived.Test.YtbhkcbidcfofiaaGreatY06
import Derived.Test.YtbhkcbidcfofiaaGreatY07
set_option linter.unusedVariables false
set_option linter.unusedSimpArgs false
set_option maxRecDepth 100000
set_option maxHeartbeats 8000000
namespace Go.Proofs.YtbhkcbidcfofiaaGreat
open _root_.List renaming getElem?_eq_some_iff → Z0, getElem?_eq_getElem → Z2, getElem?_append_left → Z3
open _root_.Nat renaming beq → Z1
open Go.RowKit
section
set_option linter.unusedSectionVars false
theorem bqT {a b : Nat} (q : Z1 a b = true) : a = b := Nat.eq_of_beq_eq_true q
theorem bqF {a b : Nat} (q : Z1 a b = false) : a ≠ b := Nat.ne_of_beq_eq_false q
inductive Tr where
 | leaf
 | node (d : D) (l r : Tr)
def Tr.get : Tr → Nat → D
 | .leaf, _ => .any
 | .node d l r, i => bif Z1 i 0 then d else bif Z1 (i % 2) 1 then l.get (i / 2) else r.get (i / 2 - 1)
def Tr.set : Nat → Tr → Nat → D → Tr
 | 0, t, _, _ => t
 | k + 1, .leaf, i, d => bif Z1 i 0 then .node d .leaf .leaf else bif Z1 (i % 2) 1 then .node .any (Tr.set k .leaf (i / 2) d) .leaf else .node .any .leaf (Tr.set k .leaf (i / 2 - 1) d)
 | k + 1, .node d0 l r, i, d => bif Z1 i 0 then .node d l r else bif Z1 (i % 2) 1 then .node d0 (Tr.set k l (i / 2) d) r else .node d0 l (Tr.set k r (i / 2 - 1) d)
/-! The names that a datum bears. -/
mutual
def refs : D → List Nat
 | .any | .v _ | .e0 => []
 | .sl _ xs => refsR xs
 | .agg ds | .tup ds | .rp ds | .fn _ ds => refsL ds
 | .ptr i _ | .buf i _ | .bp i _ _ _ | .win i _ _ _ | .arr i _ _ _ _ | .mp i => [i]
def refsL : List D → List Nat
 | [] => []
 | d :: t => match refs d with
  | [] => refsL t
  | a :: l => a :: l ++ refsL t
def refsR : List (List D) → List Nat
 | [] => []
 | d :: t => match refsL d with
  | [] => refsR t
  | a :: l => a :: l ++ refsR t
end
def refsOb : Ob → List Nat
 | .cells ds => refsL ds
 | .buf _ _ xs => refsR xs
 | .map es _ => refsL (es.map (·.2.2))
 | .iter m _ _ _ => [m]
 | .hole | .dead => []
def memN (i : Nat) : List Nat → Bool
 | [] => false
 | a :: t => bif Z1 a i then true else memN i t
def addR (R : List Nat) : List Nat → List Nat
 | [] => R
 | i :: t => bif memN i R then addR R t else addR (R ++ [i]) t
def closeR (h : List Ob) : Nat → Nat → List Nat → List Nat
 | 0, _, R => R
 | k + 1, j, R => match R[j]? with
  | none => R
  | some i => match h[i]? with
   | some ob => closeR h k (j + 1) (addR R (refsOb ob))
   | none => closeR h k (j + 1) R
def pos (i : Nat) : List Nat → Option Nat
 | [] => none
 | a :: t => bif Z1 a i then some 0 else match pos i t with
  | some j => some (j + 1)
  | none => none
theorem Jx {i : Nat} : ∀ (R : List Nat) (j : Nat), pos i R = some j → R[j]? = some i
 | [], _, q => by simp [pos] at q
 | a :: t, j, q => by
  rw [pos] at q
  cases hb : Z1 a i
  · rw [hb] at q
    simp only [cond_false] at q
    split at q
    · rename_i j' hj; cases q; simpa using Jx t j' hj
    · cases q
  · rw [hb] at q
    simp only [cond_true, Option.some.injEq] at q
    subst q
    simpa using bqT hb
mutual
def rnO (R : List Nat) : D → Option D
 | .any => some .any
 | .v x => some (.v x)
 | .e0 => some .e0
 | .sl k xs => match rnR R xs with
  | some ys => some (.sl k ys)
  | none => none
 | .agg ds => match rnL R ds with
  | some ys => some (.agg ys)
  | none => none
 | .tup ds => match rnL R ds with
  | some ys => some (.tup ys)
  | none => none
 | .rp ds => match rnL R ds with
  | some ys => some (.rp ys)
  | none => none
 | .fn f ds => match rnL R ds with
  | some ys => some (.fn f ys)
  | none => none
 | .ptr i o => match pos i R with
  | some j => some (.ptr j o)
  | none => none
 | .buf i n => match pos i R with
  | some j => some (.buf j n)
  | none => none
 | .bp i n r c => match pos i R with
  | some j => some (.bp j n r c)
  | none => none
 | .win i n a b => match pos i R with
  | some j => some (.win j n a b)
  | none => none
 | .arr i o n c k => match pos i R with
  | some j => some (.arr j o n c k)
  | none => none
 | .mp i => match pos i R with
  | some j => some (.mp j)
  | none => none
def rnL (R : List Nat) : List D → Option (List D)
 | [] => some []
 | d :: t => match rnO R d with
  | some d' => match rnL R t with
   | some t' => some (d' :: t')
   | none => none
  | none => none
def rnR (R : List Nat) : List (List D) → Option (List (List D))
 | [] => some []
 | d :: t => match rnL R d with
  | some d' => match rnR R t with
   | some t' => some (d' :: t')
   | none => none
  | none => none
end
section
variable {R : List Nat} {π : Nat → Nat} (hπ : ∀ k i, R[k]? = some i → π k = i)
include hπ
mutual
theorem Yk7 : ∀ d d', rnO R d = some d' → ren π d' = d ∧ low R.length d'
 | .any, d', q => by rw [rnO] at q; cases q; exact ⟨by rw [ren], by rw [low]; trivial⟩
 | .v x, d', q => by rw [rnO] at q; cases q; exact ⟨by rw [ren], by rw [low]; trivial⟩
 | .e0, d', q => by rw [rnO] at q; cases q; exact ⟨by rw [ren], by rw [low]; trivial⟩
 | .sl k xs, d', q => by
  rw [rnO] at q; split at q
  · rename_i ys hy; cases q; obtain ⟨h1, h2⟩ := Yk6 xs ys hy; exact ⟨by rw [ren, h1], by rw [low]; exact h2⟩
  · cases q
 | .agg xs, d', q => by
  rw [rnO] at q; split at q
  · rename_i ys hy; cases q; obtain ⟨h1, h2⟩ := Zb7 xs ys hy; exact ⟨by rw [ren, h1], by rw [low]; exact h2⟩
  · cases q
 | .tup xs, d', q => by
  rw [rnO] at q; split at q
  · rename_i ys hy; cases q; obtain ⟨h1, h2⟩ := Zb7 xs ys hy; exact ⟨by rw [ren, h1], by rw [low]; exact h2⟩
  · cases q
 | .rp xs, d', q => by
  rw [rnO] at q; split at q
  · rename_i ys hy; cases q; obtain ⟨h1, h2⟩ := Zb7 xs ys hy; exact ⟨by rw [ren, h1], by rw [low]; exact h2⟩
  · cases q
 | .fn f xs, d', q => by
  rw [rnO] at q; split at q
  · rename_i ys hy; cases q; obtain ⟨h1, h2⟩ := Zb7 xs ys hy; exact ⟨by rw [ren, h1], by rw [low]; exact h2⟩
  · cases q
 | .ptr i o, d', q => by
  rw [rnO] at q; split at q
  · rename_i j hj; cases q; have := Jx _ _ hj; exact ⟨by rw [ren, hπ _ _ this], by rw [low]; exact (Z0.1 this).1⟩
  · cases q
 | .buf i o, d', q => by
  rw [rnO] at q; split at q
  · rename_i j hj; cases q; have := Jx _ _ hj; exact ⟨by rw [ren, hπ _ _ this], by rw [low]; exact (Z0.1 this).1⟩
  · cases q
 | .bp i n r c, d', q => by
  rw [rnO] at q; split at q
  · rename_i j hj; cases q; have := Jx _ _ hj; exact ⟨by rw [ren, hπ _ _ this], by rw [low]; exact (Z0.1 this).1⟩
  · cases q
 | .win i n r c, d', q => by
  rw [rnO] at q; split at q
  · rename_i j hj; cases q; have := Jx _ _ hj; exact ⟨by rw [ren, hπ _ _ this], by rw [low]; exact (Z0.1 this).1⟩
  · cases q
 | .arr i n r c k, d', q => by
  rw [rnO] at q; split at q
  · rename_i j hj; cases q; have := Jx _ _ hj; exact ⟨by rw [ren, hπ _ _ this], by rw [low]; exact (Z0.1 this).1⟩
  · cases q
 | .mp i, d', q => by
  rw [rnO] at q; split at q
  · rename_i j hj; cases q; have := Jx _ _ hj; exact ⟨by rw [ren, hπ _ _ this], by rw [low]; exact (Z0.1 this).1⟩
  · cases q
theorem Zb7 : ∀ d d', rnL R d = some d' → renL π d' = d ∧ lowL R.length d'
 | [], d', q => by rw [rnL] at q; cases q; exact ⟨by rw [renL], by rw [lowL]; trivial⟩
 | d :: t, d', q => by
  rw [rnL] at q; split at q
  · rename_i d1 h1
    split at q
    · rename_i t1 h2
      cases q
      obtain ⟨a1, a2⟩ := Yk7 d d1 h1
      obtain ⟨b1, b2⟩ := Zb7 t t1 h2
      exact ⟨by rw [renL, a1, b1], by rw [lowL]; exact ⟨a2, b2⟩⟩
    · cases q
  · cases q
theorem Yk6 : ∀ d d', rnR R d = some d' → renR π d' = d ∧ lowR R.length d'
 | [], d', q => by rw [rnR] at q; cases q; exact ⟨by rw [renR], by rw [lowR]; trivial⟩
 | d :: t, d', q => by
  rw [rnR] at q; split at q
  · rename_i d1 h1
    split at q
    · rename_i t1 h2
      cases q
      obtain ⟨a1, a2⟩ := Zb7 d d1 h1
      obtain ⟨b1, b2⟩ := Yk6 t t1 h2
      exact ⟨by rw [renR, a1, b1], by rw [lowR]; exact ⟨a2, b2⟩⟩
    · cases q
  · cases q
end
end
def rnE (R : List Nat) : List (Value × Nat × D) → Option (List (Value × Nat × D))
 | [] => some []
 | (x, b, d) :: t => match rnO R d with
  | some d' => match rnE R t with
   | some t' => some ((x, b, d') :: t')
   | none => none
  | none => none
def rnOb (R : List Nat) : Ob → Option Ob
 | .cells ds => match rnL R ds with
  | some ys => some (.cells ys)
  | none => none
 | .buf e k xs => match rnR R xs with
  | some ys => some (.buf e k ys)
  | none => none
 | .map es c => match rnE R es with
  | some ys => some (.map ys c)
  | none => none
 | .iter m s l a => match pos m R with
  | some j => some (.iter j s l a)
  | none => none
 | .hole => some .hole
 | .dead => some .dead
def rnH (R : List Nat) (h : List Ob) : List Nat → Option (List Ob)
 | [] => some []
 | i :: t => match h[i]? with
  | some ob => match rnOb R ob with
   | some ob' => match rnH R h t with
    | some l => some (ob' :: l)
    | none => none
   | none => none
  | none => none
def Ya0 : List Nat → Bool
 | [] => true
 | a :: t => bif memN a t then false else Ya0 t
theorem memN_iff {i : Nat} : ∀ l, memN i l = true ↔ i ∈ l
 | [] => by simp [memN]
 | a :: t => by
  rw [memN]
  cases hb : Z1 a i
  · have h2 : a ≠ i := bqF hb
    simp [memN_iff t, Ne.symm h2]
  · have h2 : a = i := bqT hb
    simp [h2]
theorem Zz9 : ∀ l, Ya0 l = true → l.Nodup
 | [], _ => List.nodup_nil
 | a :: t, q => by
  rw [Ya0] at q
  cases hm : memN a t
  · rw [hm] at q
    exact List.nodup_cons.2 ⟨fun h => (by rw [(memN_iff t).2 h] at hm; cases hm), Zz9 t q⟩
  · rw [hm] at q; cases q
section
variable {R : List Nat} {π : Nat → Nat} (hπ : ∀ k i, R[k]? = some i → π k = i)
include hπ
theorem rnE_spec : ∀ d d', rnE R d = some d' → (d'.map fun e => (e.1, e.2.1, ren π e.2.2)) = d ∧ lowL R.length (d'.map (·.2.2))
 | [], d', q => by rw [rnE] at q; cases q; exact ⟨rfl, by rw [List.map_nil, lowL]; trivial⟩
 | (x, b, d) :: t, d', q => by
  rw [rnE] at q; split at q
  · rename_i d1 h1
    split at q
    · rename_i t1 h2
      cases q
      obtain ⟨a1, a2⟩ := Yk7 hπ d d1 h1
      obtain ⟨b1, b2⟩ := rnE_spec t t1 h2
      exact ⟨by rw [List.map_cons, b1, a1], by rw [List.map_cons, lowL]; exact ⟨a2, b2⟩⟩
    · cases q
  · cases q
theorem rnOb_spec {ob ob' : Ob} (q : rnOb R ob = some ob') : Ve π ob' = ob ∧ Yf1 R.length ob' := by
 cases ob <;> rw [rnOb] at q
 case cells ds => split at q
                  · rename_i hy; cases q; obtain ⟨h1, h2⟩ := Zb7 hπ _ _ hy; exact ⟨by rw [Ve, h1], h2⟩
                  · cases q
 case buf e k xs => split at q
                    · rename_i hy; cases q; obtain ⟨h1, h2⟩ := Yk6 hπ _ _ hy; exact ⟨by rw [Ve, h1], h2⟩
                    · cases q
 case map es c => split at q
                  · rename_i hy; cases q; obtain ⟨h1, h2⟩ := rnE_spec hπ _ _ hy; exact ⟨by rw [Ve, h1], h2⟩
                  · cases q
 case iter m s l a => split at q
                      · rename_i j hj; cases q; have := Jx _ _ hj; exact ⟨by rw [Ve, hπ _ _ this], (Z0.1 this).1⟩
                      · cases q
 case hole => cases q; exact ⟨rfl, trivial⟩
 case dead => cases q; exact ⟨rfl, trivial⟩
theorem rnH_spec {h : List Ob} : ∀ (l : List Nat) (h1 : List Ob), rnH R h l = some h1 → h1.length = l.length ∧ ∀ (k : Nat) (ob : Ob), h1[k]? = some ob → ∃ i : Nat, l[k]? = some i ∧ h[i]? = some (Ve π ob) ∧ Yf1 R.length ob
 | [], h1, q => by rw [rnH] at q; cases q; exact ⟨rfl, fun k ob hk => by simp at hk⟩
 | i :: t, h1, q => by
  rw [rnH] at q
  split at q
  rotate_left
  · cases q
  rename_i ob hob
  split at q
  rotate_left
  · cases q
  rename_i ob' hob'
  split at q
  rotate_left
  · cases q
  rename_i l hl
  cases q
  obtain ⟨e1, e2⟩ := rnH_spec t l hl
  obtain ⟨f1, f2⟩ := rnOb_spec hπ hob'
  refine ⟨by simp [e1], fun k o hk => ?_⟩
  cases k with
  | zero => simp at hk; subst hk; exact ⟨i, rfl, by rw [f1]; exact hob, f2⟩
  | succ k => simpa using e2 k o (by simpa using hk)
theorem lies_of_rn {h h1 : List Ob} (q : rnH R h R = some h1) (nd : Ya0 R = true) : h1.length = R.length ∧ Lies π h1 h := by
 obtain ⟨e1, e2⟩ := rnH_spec hπ R h1 q
 refine ⟨e1, fun i ob hi => ?_, fun i j hi hj he => ?_, fun ob hob => ?_⟩
 · obtain ⟨x, h2, h3, _⟩ := e2 i ob hi
   rw [hπ _ _ h2]; exact h3
 · have hi' : i < R.length := by omega
   have hj' : j < R.length := by omega
   have h2 := hπ i _ (Z2 hi')
   have h3 := hπ j _ (Z2 hj')
   have : R[i] = R[j] := by rw [← h2, ← h3, he]
   exact (List.getElem_inj (Zz9 R nd)).1 this
 · obtain ⟨i, hi, rfl⟩ := List.getElem_of_mem hob
   obtain ⟨_, _, _, h4⟩ := e2 i _ (Z2 hi)
   rw [e1]; exact h4
end
def plcN (R : List Nat) (L j : Nat) : Nat := match R[j]? with
 | some i => i
 | none => L + (j - R.length)
end
section
variable {P : Program} {G : Nat → D} {n : Nat} {e : Nat → D} {h h1 : List Ob}
theorem Vo {f : FuncId} {fn : Func} {c : Code} {args : List D} {K : List Ob → D → Prop} (hf : P.funcs[f]? = some fn) (hb : fn.body = some c) (hn : args.length ≤ fn.ntmps)
 (H : aw P G c (fun e s => (e = .normal ∨ e = .ret) ∧ ∃ ds, resD P s fn.results.toList = some ds ∧ K s.h (outD ds)) ⟨fn.ntmps, Yj2 args, h⟩) : Does P G f h args K := by
 intro w hd p vs o ha
 have hlen := Ud ha
 refine calls_of_wp hf hb (Code.wp_mono ?_ (H ⟨w, hd, h, p⟩ { tmps := vs.toArray ++ Array.replicate (fn.ntmps - vs.toArray.size) undef, defers := [] } w ⟨hd, p, o, .refl _ _ _ _, fun t => ?_, by simp; omega, rfl⟩))
 · rintro e a' w' ⟨s', ⟨he, ds, h1, h6⟩, hd', p', r⟩
   have fin : ∃ v, (results fn a'.tmps).run P w' = .ok v w' ∧ rd hd' s'.h (only p' w') (outD ds) v := by
    obtain ⟨vs', e1, q1⟩ := Yk4 r _ _ h1
    have hl := Ud q1
    have e2 : (results fn a'.tmps).run P w' = .ok (if h : vs'.toArray.size = 1 then vs'.toArray[0] else .tuple vs'.toArray) w' := by
     rw [Yg1, Array.mapM_eq_mapM_toList]
     simp only [Sem.run_bind, Sem.run_map, e1, Result.andThen_ok]
     rfl
    refine ⟨_, e2, ?_⟩
    match ds, vs', q1, hl with
    | [], vs', q1, hl =>
     have : vs' = [] := List.eq_nil_of_length_eq_zero hl.symm
     subst this
     simp only [outD]; rw [rd]; exact ⟨#[], rfl, q1⟩
    | [d], vs', q1, hl =>
     rw [rdL] at q1; obtain ⟨u, t, rfl, q2, q3⟩ := q1
     rw [rdL] at q3; subst q3
     exact q2
    | d :: d2 :: ds, vs', q1, hl =>
     simp only [outD]
     have : ¬ vs'.toArray.size = 1 := by simp at hl ⊢; omega
     rw [dif_neg this, rd]; exact ⟨_, rfl, q1⟩
   obtain ⟨v, e2, q2⟩ := fin
   rcases he with rfl | rfl
   · exact ⟨r.defers, v, e2, v, _, _, _, _, rfl, h6, r.ok, q2, r.evo⟩
   · exact ⟨r.defers, v, e2, v, _, _, _, _, rfl, h6, r.ok, q2, r.evo⟩
 · show rd hd h (only p w) ((args[t]?).getD .any) _
   obtain ⟨_, q⟩ := (Xg _ _).1 ha
   cases hd' : args[t]? with
   | none => show rd hd h (only p w) .any _; rw [rd]; trivial
   | some d =>
    show rd hd h (only p w) d _
    obtain ⟨u, h1, h2⟩ := q t d hd'
    have : (vs.toArray ++ Array.replicate (fn.ntmps - vs.toArray.size) undef).getD t undef = u := by
     rw [Array.getD_eq_getD_getElem?, Array.getElem?_append_left (by simpa using (Z0.1 h1).1)]
     simp [h1]
    rw [this]
    exact h2
def firstN : Nat → List Nat → Bool
 | _, [] => true
 | j, a :: t => bif Z1 a j then firstN (j + 1) t else false
def idxR (R : List Nat) (k : Nat) : Nat := (R[k]?).getD 0
theorem idxR_at {R : List Nat} : ∀ k i, R[k]? = some i → idxR R k = i := fun k i q => by unfold idxR; rw [q]; rfl
def Shr (m : Nat) (h' : List Ob) (r : D) (h2 : List Ob) (r2 : D) : Prop := ∃ R, rnH R h' R = some h2 ∧ Ya0 R = true ∧ rnO R r = some r2 ∧ m ≤ R.length ∧ ∀ k, k < m → R[k]? = some k
theorem Post.shrink {w w' : World} {hd : List Value} {p : Nat → Bool} {K K' : List Ob → D → Prop} {v : Value} (o : Ok G w hd h p) (hG : ∀ g, low 0 (G g)) (q : Post G w hd h p K v w') (k : ∀ h' r, K h' r → ∃ h2 r2, Shr h.length h' r h2 r2 ∧ K' h2 r2) : Post G w hd h p K' v w' := by
 obtain ⟨hd', h', r, p', hk, o', qr, e⟩ := q
 obtain ⟨h2, r2, ⟨R, e1, e2, e3, e4, e5⟩, hk'⟩ := k _ _ hk
 obtain ⟨len2, L⟩ := lies_of_rn (π := idxR R) idxR_at e1 e2
 obtain ⟨f1, f2⟩ := Yk7 (π := idxR R) idxR_at _ _ e3
 have hid : ∀ i, i < h.length → idxR R i = i := fun i hi => idxR_at _ _ (e5 i hi)
 have at' : ∀ {i : Nat} {u : Value}, i < h.length → hd'[i]? = some u → (pull (idxR R) hd' h2.length)[i]? = some u := fun {i u} hi q => by
  rw [Zf7 o' L (by omega), hid i hi]; exact q
 refine ⟨_, h2, r2, p', hk', L.ok o' hG, rd_une (L.une o') o'.len (fun _ _ h => h) _ _ (by rw [len2]; exact f2) (by rw [f1]; exact qr),
  ⟨e.os, e.tape, e.output, e.size, e.keep, e.vis, e.seen, fun b hb ho => ?_, by omega, fun i B q => ?_, fun i B q => ?_, fun i q => ?_, fun i E k xs hu q => ?_⟩⟩
 · obtain ⟨i, _, ob, u, q1, q2, q3, q4⟩ := L.own o' ho
   exact e.own b hb ⟨_, ob, u, q1, q2, q3, q4⟩
 · exact at' (by rw [← o.len]; exact (Z0.1 q).1) (e.carry.ptr i B q)
 · exact at' (by rw [← o.len]; exact (Z0.1 q).1) (e.carry.mp i B q)
 · exact (L.une o').usd i (by have := q.lt; omega) (by rw [hid i q.lt]; exact e.carry.usd i q)
 · have h3 := L.at_ i _ q
   rw [hid i hu.lt] at h3
   obtain ⟨E0, ys, g1, g2, g3⟩ := e.carry.buf i E k (renR (idxR R) xs) hu h3
   rw [V5, List.length_map] at g2 g3
   refine ⟨E0, ys, g1, g2, fun he => ?_⟩
   rw [Zf7 o' L (by have := hu.lt; omega), hid i hu.lt]; exact g3 he
theorem Does.shrink {f : FuncId} {args : List D} {K K' : List Ob → D → Prop} (hG : ∀ g, low 0 (G g)) (q : Does P G f h args K) (k : ∀ h' r, K h' r → ∃ h2 r2, Shr h.length h' r h2 r2 ∧ K' h2 r2) : Does P G f h args K' := Jn.2 fun w hd p vs ok ha =>
 (Jn.1 q w hd p vs ok ha).mono fun _ _ ⟨v, e, q⟩ => ⟨v, e, q.shrink ok hG k⟩
/-! Equality of data, as far as it is easily seen. -/
def vq : Value → Value → Bool
 | .int a x, .int b y => decide (a = b) && decide (x = y)
 | .bool a, .bool b => decide (a = b)
 | .string a, .string b => decide (a.data.toList = b.data.toList)
 | .slice none 0 0, .slice none 0 0 => true
 | .pointer none, .pointer none => true
 | .map none, .map none => true
 | .nilFunc, .nilFunc => true
 | .nilIface, .nilIface => true
 | _, _ => false
theorem vq_spec (a b : Value) (q : vq a b = true) : a = b := by
 unfold vq at q
 split at q
 · simp only [Bool.and_eq_true, decide_eq_true_eq] at q; rw [q.1, q.2]
 · simp only [decide_eq_true_eq] at q; rw [q]
 · simp only [decide_eq_true_eq] at q; congr 1; exact ByteArray.ext (Array.ext' q)
 all_goals first | rfl | cases q
mutual
def dq : D → D → Bool
 | .any, .any => true
 | .v x, .v y => vq x y
 | .e0, .e0 => true
 | .sl k xs, .sl l ys => Z1 k l && dqR xs ys
 | .agg xs, .agg ys => dqL xs ys
 | .tup xs, .tup ys => dqL xs ys
 | .rp xs, .rp ys => dqL xs ys
 | .fn f xs, .fn g ys => Z1 f g && dqL xs ys
 | .ptr i o, .ptr j q => Z1 i j && Z1 o q
 | .buf i o, .buf j q => Z1 i j && Z1 o q
 | .bp i a b c, .bp j x y z => Z1 i j && (Z1 a x && (Z1 b y && Z1 c z))
 | .win i a b c, .win j x y z => Z1 i j && (Z1 a x && (Z1 b y && Z1 c z))
 | .arr i a b c d, .arr j x y z u => Z1 i j && (Z1 a x && (Z1 b y && (Z1 c z && Z1 d u)))
 | .mp i, .mp j => Z1 i j
 | _, _ => false
def dqL : List D → List D → Bool
 | [], [] => true
 | a :: s, b :: t => dq a b && dqL s t
 | _, _ => false
def dqR : List (List D) → List (List D) → Bool
 | [], [] => true
 | a :: s, b :: t => dqL a b && dqR s t
 | _, _ => false
end
mutual
theorem dq_spec : ∀ a b, dq a b = true → a = b
 | .any, b, q => by cases b <;> first | rfl | (simp [dq] at q)
 | .v x, b, q => by cases b <;> simp [dq] at q; rw [vq_spec _ _ q]
 | .e0, b, q => by cases b <;> first | rfl | (simp [dq] at q)
 | .sl k xs, b, q => by cases b <;> simp [dq] at q; rw [q.1, dqR_spec _ _ q.2]
 | .agg xs, b, q => by cases b <;> simp [dq] at q; rw [Zj3 _ _ q]
 | .tup xs, b, q => by cases b <;> simp [dq] at q; rw [Zj3 _ _ q]
 | .rp xs, b, q => by cases b <;> simp [dq] at q; rw [Zj3 _ _ q]
 | .fn f xs, b, q => by cases b <;> simp [dq] at q; rw [q.1, Zj3 _ _ q.2]
 | .ptr i o, b, q => by cases b <;> simp [dq] at q; rw [q.1, q.2]
 | .buf i o, b, q => by cases b <;> simp [dq] at q; rw [q.1, q.2]
 | .bp i x y z, b, q => by cases b <;> simp [dq] at q; rw [q.1, q.2.1, q.2.2.1, q.2.2.2]
 | .win i x y z, b, q => by cases b <;> simp [dq] at q; rw [q.1, q.2.1, q.2.2.1, q.2.2.2]
 | .arr i x y z u, b, q => by cases b <;> simp [dq] at q; rw [q.1, q.2.1, q.2.2.1, q.2.2.2.1, q.2.2.2.2]
 | .mp i, b, q => by cases b <;> simp [dq] at q; rw [q]
theorem Zj3 : ∀ a b, dqL a b = true → a = b
 | [], b, q => by cases b <;> first | rfl | (simp [dqL] at q)
 | a :: s, b, q => by cases b <;> simp [dqL] at q; rw [dq_spec _ _ q.1, Zj3 _ _ q.2]
theorem dqR_spec : ∀ a b, dqR a b = true → a = b
 | [], b, q => by cases b <;> first | rfl | (simp [dqR] at q)
 | a :: s, b, q => by cases b <;> simp [dqR] at q; rw [Zj3 _ _ q.1, dqR_spec _ _ q.2]
end
def oq : Ob → Ob → Bool
 | .cells a, .cells b => dqL a b
 | .buf e k a, .buf f l b => Z1 e f && (Z1 k l && dqR a b)
 | .dead, .dead => true
 | .hole, .hole => true
 | _, _ => false
def wrs (π : Nat → Nat) : Nat → List Ob → List Ob → List (Nat × Ob)
 | _, _, [] => []
 | j, [], o :: t => (π j, Ve π o) :: wrs π (j + 1) [] t
 | j, a :: s, o :: t => bif oq a o then wrs π (j + 1) s t else (π j, Ve π o) :: wrs π (j + 1) s t
end
section
theorem Ze0 (m : Nat) (l : List UInt8) : low m (.sl 1 (byD l)) := by
 rw [low, Zp4]
 intro row hr
 obtain ⟨b, _, rfl⟩ := List.mem_map.1 hr
 simp [lowL, low]
theorem lowH_set {m : Nat} {h : List Ob} {i : Nat} {ob : Ob} (q : lowH m h) (r : Yf1 m ob) : lowH m (h.set i ob) := fun x hx => by
 rcases List.mem_or_eq_of_mem_set hx with h | rfl
 · exact q x h
 · exact r
theorem Js {h : List Ob} {i : Nat} {ob : Ob} (hi : h[i]? = some ob) : h.set i ob = h := by
 apply List.ext_getElem?
 intro j
 by_cases hij : i = j
 · subst hij; rw [List.getElem?_set_self (Z0.1 hi).1, hi]
 · rw [List.getElem?_set_ne hij]
theorem byD_app (a b : List UInt8) : byD a ++ byD b = byD (a ++ b) := by simp [byD]
section
variable {P : Program} {G : Nat → D} {n : Nat} {e : Nat → D} {h : List Ob}
theorem Sit.via {B : Base} {a : Act} {w : World} {hd hd' : List Value} {p p' : Nat → Bool} {h' : List Ob} (r : Sat G B ⟨n, e, h⟩ a w hd p) (o : Ok G w hd' h' p') (ev : Evo w hd h p w hd' h' p') : Sit G B ⟨n, e, h'⟩ a w :=
 ⟨hd', p', o, r.evo.trans ev, fun t => ev.rd r.ok (r.tmp t), r.size, r.defers⟩
theorem Zz1 {hd : List Value} {W : World} {j E k : Nat} {u : Value} (hj : h[j]? = some (.buf E k [])) (hu : hd[j]? = some (.slice none 0 0)) (q : rd hd h W (.v (.slice none 0 0)) u) : rd hd h W (.buf j 0) u := by
 rw [rd] at q
 subst q
 rw [rd]
 exact ⟨⟨_, _, rfl⟩, .of hj rfl, fun e k xs hx => by rw [hj] at hx; cases hx; exact ⟨Nat.le_refl _, fun _ => hu⟩⟩
theorem Ye5 {B : Base} {a : Act} {w : World} (E k : Nat) {i : Nat} {xs bs : List D} (hi : h[i]? = some (.cells (xs ++ .v (.slice none 0 0) :: bs))) (r : Sit G B ⟨n, e, h⟩ a w) : Sit G B ⟨n, e, (h.set i (.cells (xs ++ .buf h.length 0 :: bs))) ++ [.buf E k []]⟩ a w := by
 have hil := (Z0.1 hi).1
 obtain ⟨hd, p, r⟩ := r
 obtain ⟨o, ev⟩ := Ok.grow (ob := .buf E k []) (u := .slice none 0 0) (w' := w) r.ok rfl rfl rfl (Nat.le_refl _) (fun _ _ => rfl) (fun b hb => by cases hb) (fun c s => ⟨[], World.ownsRow_nil _ _ _ _, by simp [rdL], fun row h => by simp at h, fun g h => by cases h⟩)
 have r1 : Sat G B ⟨n, e, h ++ [.buf E k []]⟩ a w (hd ++ [.slice none 0 0]) _ := ⟨o, r.evo.trans ev, fun t => ev.rd r.ok (r.tmp t), r.size, r.defers⟩
 have hl : i < hd.length := by rw [r.ok.len]; exact hil
 obtain ⟨u, hu⟩ : ∃ u, hd[i]? = some u := ⟨_, Z2 hl⟩
 have hi2 : (h ++ [Ob.buf E k []])[i]? = some (.cells (xs ++ .v (.slice none 0 0) :: bs)) := by rw [Z3 hil, hi]
 have hu2 : (hd ++ [Value.slice none 0 0])[i]? = some u := by rw [Z3 hl, hu]
 obtain ⟨BB, cs, t, e1, e2, e3, e4⟩ := o.ob i _ u hi2 hu2
 have e5 : rdL (hd ++ [Value.slice none 0 0]) (h ++ [.buf E k []]) (only (fun b => p b && b != w.heap.size) w) (xs ++ .buf h.length 0 :: bs) cs.toList := by
  rw [Xg] at e3 ⊢
  refine ⟨by simpa using e3.1, fun j d hj => ?_⟩
  by_cases hjl : j = xs.length
  · subst hjl
    simp at hj; subst hj
    obtain ⟨u', h1, h2⟩ := e3.2 xs.length (.v (.slice none 0 0)) (by simp)
    exact ⟨u', h1, Zz1 (k := k) (E := E) (by simp) (by rw [← r.ok.len]; simp) h2⟩
  · refine e3.2 j d ?_
    rw [List.getElem?_append] at hj ⊢
    split at hj
    · rename_i hlt; rw [if_pos hlt]; exact hj
    · rename_i hge
      rw [if_neg hge]
      obtain ⟨m, hm⟩ : ∃ m, j - xs.length = m + 1 := ⟨j - xs.length - 1, by omega⟩
      rw [hm] at hj ⊢
      simpa using hj
 obtain ⟨o2, ev2⟩ := Ok.repl (ob' := .cells (xs ++ .buf h.length 0 :: bs)) (u' := u) (w' := w) o hi2 hu2 rfl rfl rfl rfl (Nat.le_refl _) (fun _ _ _ => rfl) (fun b hb => .inl hb) (fun _ _ => rfl) (fun _ _ _ h => by cases h) (fun c s => by
  refine ⟨BB, cs, t, e1, e2, Xv c s _ _ e5, by simp [e4]⟩)
 have := Sit.via r1 o2 ev2
 rwa [List.set_append_left _ _ hil] at this
theorem Uf {c : Code} {Q : Exit → S → Prop} (E k i : Nat) (xs bs : List D) (hi : h[i]? = some (.cells (xs ++ .v (.slice none 0 0) :: bs))) (q : aw P G c Q ⟨n, e, (h.set i (.cells (xs ++ .buf h.length 0 :: bs))) ++ [.buf E k []]⟩) : aw P G c Q ⟨n, e, h⟩ := fun B a w r => q B a w (Ye5 E k hi r)
theorem ao_nilcell {ops : Array Oper} {l : List Oper} {Q : S → Prop} (E k i : Nat) (xs bs : List D) (hi : h[i]? = some (.cells (xs ++ .v (.slice none 0 0) :: bs))) (q : ao P G ops l Q ⟨n, e, (h.set i (.cells (xs ++ .buf h.length 0 :: bs))) ++ [.buf E k []]⟩) : ao P G ops l Q ⟨n, e, h⟩ := fun B a w r R hR => q B a w (Ye5 E k hi r) R hR
end
end
end Go.Proofs.YtbhkcbidcfofiaaGreat
