/-
  What the statements of the chapter share, part 04: D5, D6.
-/
import Derived.Test.YtbhkcbidcfofiaaGreatY03
import Derived.Laws.CopyRow
set_option linter.unusedVariables false
set_option linter.unusedSimpArgs false
set_option maxRecDepth 100000
set_option maxHeartbeats 8000000
namespace Go.Proofs.YtbhkcbidcfofiaaGreat
open _root_.List renaming getElem?_take → Z0, getElem?_eq_some_iff → Z1, getElem?_append_right → Z2, getElem?_append_left → Z3, getElem?_eq_getElem → Z4, length_set → Z6
open _root_.Option renaming map_eq_some_iff → Z5
open Go.RowKit
section
variable {P : Program} {G : Nat → D} {B : Base} {s : S} {a : Act} {w w' : World} {hd hd' : List Value} {h h' : List Ob} {p p' : Nat → Bool}
def putL {α : Type} (ds : List α) (o : Nat) (es : List α) : List α := ds.take o ++ es ++ ds.drop (o + es.length)
def Zd8 (P : Program) (h : List Ob) (t : TypeId) (x y : D) : Option (List Ob) := match y.cells with
 | none => none
 | some es => if es.all D.one && szT P t == some es.length then match x with
   | .ptr i o => match h[i]? with
    | some (.cells ds) => if o + es.length ≤ ds.length then some (h.set i (.cells (putL ds o es))) else none
    | _ => none
   | .bp i n r j => match h[i]? with
    | some (.buf e k xs) => if xs.length = n then match xs[r]? with
      | some row => if j + es.length ≤ row.length then some (h.set i (.buf e k (xs.set r (putL row j es)))) else none
      | none => none
     else none
    | _ => none
   | _ => none
  else none
theorem Za6 {d : D} {es : List D} {v : Value} {W : World} (q : rd hd h W d v) (he : d.cells = some es) : rdL hd h W es v.cells.toList := by
 have one : ∀ {d : D} {v : Value}, rd hd h W d v → (∀ cs, v ≠ .agg cs) → rdL hd h W [d] v.cells.toList := fun {d v} q hv => by
  have : v.cells = #[v] := by cases v <;> first | rfl | exact absurd rfl (hv _)
  rw [this, rdL]; exact ⟨v, [], rfl, q, by rw [rdL]⟩
 cases d with
 | agg ds => rw [rd] at q; obtain ⟨cs, rfl, q2⟩ := q; simp only [D.cells] at he; cases he; exact q2
 | v x =>
  have q0 := q
  rw [rd] at q; subst q
  cases v with
  | agg cs =>
   simp only [D.cells] at he; cases he
   exact (Xg _ _).2 ⟨by simp [Value.cells], fun j d hj => by
    simp only [List.getElem?_map, Z5] at hj
    obtain ⟨u, h1, rfl⟩ := hj
    exact ⟨u, h1, by rw [rd]⟩⟩
  | _ => simp only [D.cells, D.one, Value.oneCell', if_true, if_false, Bool.false_eq_true] at he <;> first | cases he | skip
         all_goals exact one q0 (by intro cs hc; cases hc)
 | sl k xs => simp only [D.cells, D.one, if_true] at he; cases he; refine one q ?_; rw [rd] at q; obtain ⟨_, _, rfl, _⟩ := q; intro cs hc; cases hc
 | rp ds => simp only [D.cells, D.one, if_true] at he; cases he; refine one q ?_; rw [rd] at q; obtain ⟨_, _, rfl, _⟩ := q; intro cs hc; cases hc
 | ptr i o => simp only [D.cells, D.one, if_true] at he; cases he; refine one q ?_; rw [rd] at q; obtain ⟨_, _, rfl⟩ := q; intro cs hc; cases hc
 | fn f ds => simp only [D.cells, D.one, if_true] at he; cases he; refine one q ?_; rw [rd] at q; obtain ⟨_, rfl, _⟩ := q; intro cs hc; cases hc
 | buf i n => simp only [D.cells, D.one, if_true] at he; cases he; refine one q ?_; rw [rd] at q; obtain ⟨⟨_, _, rfl⟩, _⟩ := q; intro cs hc; cases hc
 | bp i n r j => simp only [D.cells, D.one, if_true] at he; cases he; refine one q ?_; rw [rd] at q; obtain ⟨⟨_, rfl⟩, _⟩ := q; intro cs hc; cases hc
 | win i n a b => simp only [D.cells, D.one, if_true] at he; cases he; refine one q ?_; rw [rd] at q; obtain ⟨⟨_, _, rfl⟩, _⟩ := q; intro cs hc; cases hc
 | arr i o n c k => simp only [D.cells, D.one, if_true] at he; cases he; refine one q ?_; rw [rd] at q; obtain ⟨_, _, rfl⟩ := q; intro cs hc; cases hc
 | mp i => simp only [D.cells, D.one, if_true] at he; cases he; refine one q ?_; rw [rd] at q; obtain ⟨_, _, rfl⟩ := q; intro cs hc; cases hc
 | e0 => simp only [D.cells, D.one, if_true] at he; cases he; refine one q ?_; rw [rd] at q; obtain ⟨_, rfl⟩ := q; intro cs hc; cases hc
 | _ => simp [D.cells, D.one] at he
theorem rd_one' {d : D} {v : Value} {W : World} (q : rd hd h W d v) (h1 : d.one = true) : v.oneCell' = true := by
 cases d with
 | v x => rw [rd] at q; subst q; exact h1
 | sl k xs => rw [rd] at q; obtain ⟨_, _, rfl, _⟩ := q; rfl
 | rp ds => rw [rd] at q; obtain ⟨_, _, rfl, _⟩ := q; rfl
 | ptr i o => rw [rd] at q; obtain ⟨_, _, rfl⟩ := q; rfl
 | fn f ds => rw [rd] at q; obtain ⟨_, rfl, _⟩ := q; rfl
 | buf i n => rw [rd] at q; obtain ⟨⟨_, _, rfl⟩, _⟩ := q; rfl
 | bp i n r j => rw [rd] at q; obtain ⟨⟨_, rfl⟩, _⟩ := q; rfl
 | win i n a b => rw [rd] at q; obtain ⟨⟨_, _, rfl⟩, _⟩ := q; rfl
 | arr i o n c k => rw [rd] at q; obtain ⟨_, _, rfl⟩ := q; rfl
 | mp i => rw [rd] at q; obtain ⟨_, _, rfl⟩ := q; rfl
 | e0 => rw [rd] at q; obtain ⟨_, rfl⟩ := q; rfl
 | _ => simp [D.one] at h1
theorem Zi6 {es : List D} {vs : List Value} {W : World} (q : rdL hd h W es vs) (h1 : es.all D.one = true) : ∀ v ∈ vs, v.oneCell' = true := fun v hv => by
 obtain ⟨hl, hq⟩ := (Xg _ _).1 q
 obtain ⟨j, hj, rfl⟩ := List.getElem_of_mem hv
 obtain ⟨u, e1, e2⟩ := hq j _ (Z4 (by omega))
 rw [Z4 hj] at e1; cases e1
 exact rd_one' e2 (List.all_eq_true.1 h1 _ (List.getElem_mem _))
theorem Wr {a b : List D} {x y : List Value} {W : World} (h1 : rdL hd h W a x) (h2 : rdL hd h W b y) : rdL hd h W (a ++ b) (x ++ y) := by
 obtain ⟨l1, q1⟩ := (Xg _ _).1 h1
 obtain ⟨l2, q2⟩ := (Xg _ _).1 h2
 refine (Xg _ _).2 ⟨by simp [l1, l2], fun j d hj => ?_⟩
 rcases Nat.lt_or_ge j a.length with hl | hl
 · rw [Z3 hl] at hj
   obtain ⟨u, e1, e2⟩ := q1 j d hj
   exact ⟨u, by rw [Z3 (by omega)]; exact e1, e2⟩
 · rw [Z2 hl] at hj
   obtain ⟨u, e1, e2⟩ := q2 _ d hj
   exact ⟨u, by rw [Z2 (by omega), ← l1]; exact e1, e2⟩
theorem Yl2 {a : List D} {x : List Value} {W : World} (h1 : rdL hd h W a x) (n : Nat) : rdL hd h W (a.take n) (x.take n) := by
 obtain ⟨l1, q1⟩ := (Xg _ _).1 h1
 refine (Xg _ _).2 ⟨by simp [l1], fun j d hj => ?_⟩
 rw [Z0] at hj ⊢
 split at hj
 · rename_i hn; rw [if_pos hn]; exact q1 j d hj
 · cases hj
theorem Yl4 {a : List D} {x : List Value} {W : World} (h1 : rdL hd h W a x) (n : Nat) : rdL hd h W (a.drop n) (x.drop n) := by
 obtain ⟨l1, q1⟩ := (Xg _ _).1 h1
 refine (Xg _ _).2 ⟨by simp [l1], fun j d hj => ?_⟩
 rw [List.getElem?_drop] at hj ⊢
 exact q1 _ d hj
theorem Ud {a : List D} {x : List Value} {W : World} (h1 : rdL hd h W a x) : a.length = x.length := ((Xg _ _).1 h1).1
theorem Yl3 {a b : List D} {x y : List Value} {W : World} (h1 : rdL hd h W a x) (h2 : rdL hd h W b y) (o : Nat) : rdL hd h W (putL a o b) (putL x o y) := by
 unfold putL
 rw [Ud h2]
 exact Wr (Wr (Yl2 h1 o) h2) (Yl4 h1 _)
theorem Wj {w : World} {g : Nat} {cs : Array Value} : (w.setRow g cs).os = w.os ∧ (w.setRow g cs).tape = w.tape ∧ (w.setRow g cs).output = w.output ∧ (w.setRow g cs).heap.size = w.heap.size ∧ ∀ b, b ≠ g → (w.setRow g cs).heap[b]? = w.heap[b]? := by
 unfold World.setRow
 refine ⟨rfl, rfl, rfl, by simp, fun b hb => ?_⟩
 simp [Array.getElem?_modify, Ne.symm hb]
theorem putL_flat {α : Type} {k : Nat} : ∀ (xs : List (List α)) (_ : ∀ row ∈ xs, row.length = k) (r j : Nat) (row es : List α), xs[r]? = some row → j + es.length ≤ k → (xs.set r (putL row j es)).flatten = putL xs.flatten (r * k + j) es
 | [], _, r, j, row, es, hr, _ => by simp at hr
 | x :: t, hx, 0, j, row, es, hr, hj => by
  simp at hr; subst hr
  have e := hx x (by simp)
  simp only [List.set_cons_zero, List.flatten_cons, putL, Nat.zero_mul, Nat.zero_add]
  rw [List.take_append_of_le_length (by omega), List.drop_append_of_le_length (by omega)]
  simp [List.append_assoc]
 | x :: t, hx, r + 1, j, row, es, hr, hj => by
  have e := hx x (by simp)
  have ih := putL_flat t (fun row hr => hx row (by simp [hr])) r j row es (by simpa using hr) hj
  simp only [List.set_cons_succ, List.flatten_cons, ih]
  unfold putL
  rw [show (r + 1) * k + j = x.length + (r * k + j) by rw [e, Nat.succ_mul]; omega, List.take_append, List.drop_append]
  simp [List.take_of_length_le, Nat.add_assoc]
theorem Ym2 {α : Type} {L : List α} {o : Nat} {es : List α} (h : o + es.length ≤ L.length) (i : Nat) : (putL L o es)[i]? = if o ≤ i ∧ i < o + es.length then es[i - o]? else L[i]? := by
 unfold putL
 have e1 : (L.take o).length = o := by simp; omega
 rcases Nat.lt_or_ge i o with h1 | h1
 · rw [List.append_assoc, Z3 (by omega), if_neg (by omega), Z0, if_pos h1]
 · rcases Nat.lt_or_ge i (o + es.length) with h2 | h2
   · rw [if_pos ⟨h1, h2⟩, Z3 (by simp; omega), Z2 (by omega), e1]
   · rw [if_neg (by omega), Z2 (by simp; omega), List.getElem?_drop]
     congr 1; simp; omega
theorem putL_take {α : Type} {L : List α} {o m : Nat} {es : List α} (h : o + es.length ≤ m) (hm : m ≤ L.length) : (putL L o es).take m = putL (L.take m) o es := by
 apply List.ext_getElem?
 intro i
 rw [Z0, Ym2 (by omega), Ym2 (by simp; omega), Z0]
 by_cases hi : i < m
 · rw [if_pos hi, if_pos hi]
 · rw [if_neg hi, if_neg (by omega), if_neg hi]
theorem Ym1 {α : Type} {L : List α} {o : Nat} {es : List α} (h : o + es.length ≤ L.length) : (putL L o es).length = L.length := by
 unfold putL; simp; omega
theorem setRow_at {w : World} {g : Nat} {cs cs' : Array Value} {t : TypeId} {fr : Nat × Nat} (hg : w.heap[g]? = some (.cells cs t fr)) : (w.setRow g cs').heap[g]? = some (.cells cs' t fr) := setRow_heap w g cs cs' t fr hg
theorem Zu3 {t : TypeId} {g o : Nat} {cur : Array Value} {ty : TypeId} {u : Value} (hg : w.heap[g]? = some (.cells cur ty (0, 0))) (hs : szT P t = some u.cells.size) (hl : o + u.cells.size ≤ cur.size) (h1 : ∀ v ∈ u.cells.toList, v.oneCell' = true) :
 (Instr.storeAt t (.pointer (some ⟨g, o, none⟩)) u).run P w = .ok () (w.setRow g (putL cur.toList o u.cells.toList).toArray) := by
 have := run_storeCells_at (P := P) g o ty u.cells.toList 0 cur w hg (by simpa using hl) h1
 unfold putL
 simp only [Nat.add_zero] at this
 simp [Instr.storeAt, Instr.sureAddr, storeVar, U7 hs, this]
theorem run_storeD (o : Ok G w hd h p) {t : TypeId} {x y : D} {v u : Value} (q1 : rd hd h (only p w) x v) (q2 : rd hd h (only p w) y u) (hs : Zd8 P h t x y = some h') :
 ∃ w' hd' p', (Instr.storeAt t v u).run P w = .ok () w' ∧ Ok G w' hd' h' p' ∧ Evo w hd h p w' hd' h' p' := by
 unfold Zd8 at hs
 cases hes : y.cells with
 | none => rw [hes] at hs; cases hs
 | some es =>
 rw [hes] at hs
 simp only at hs
 split at hs
 rotate_left
 · cases hs
 rename_i hc
 simp only [Bool.and_eq_true, beq_iff_eq] at hc
 obtain ⟨hone, hsz⟩ := hc
 have hrc := Za6 q2 hes
 have hlen : es.length = u.cells.size := by simpa using Ud hrc
 rw [hlen] at hsz
 have honev := Zi6 hrc hone
 cases x with
 | ptr i off =>
  rw [rd] at q1
  obtain ⟨Bk, h1, rfl⟩ := q1
  simp only at hs
  cases hi : h[i]? with
  | none => rw [hi] at hs; cases hs
  | some ob =>
  rw [hi] at hs
  cases ob with
  | cells ds =>
   simp only at hs
   split at hs
   rotate_left
   · cases hs
   rename_i hle
   cases hs
   obtain ⟨B', cs, ty, hB, h2, h3, h4⟩ := o.ob i _ _ hi h1
   cases hB
   have hl3 : ds.length = cs.size := by simpa using Ud h3
   refine ⟨_, _, _, Zu3 h2 hsz (by omega) honev, o.repl hi h1 rfl Wj.1 Wj.2.1 Wj.2.2.1 (Nat.le_of_eq Wj.2.2.2.1.symm) (fun b _ hb => Wj.2.2.2.2 b fun e => hb (by rw [e]; rfl)) (fun b hb => .inl hb) (fun _ _ => rfl) (fun _ _ _ e => by cases e) fun c sb => ?_⟩
   have hlt := (Array.getElem?_eq_some_iff.1 h2).1
   exact ⟨Bk, _, ty, rfl, setRow_at h2, Xv c sb _ _ (Yl3 h3 hrc off), by simp [h4]⟩
  | _ => cases hs
 | bp i n r j =>
  rw [rd] at q1
  obtain ⟨_, hi0, h1⟩ := q1
  simp only at hs
  cases hi : h[i]? with
  | none => rw [hi] at hs; cases hs
  | some ob =>
  rw [hi] at hs
  cases ob with
  | buf e k xs =>
   simp only at hs
   split at hs
   rotate_left
   · cases hs
   rename_i hn
   obtain ⟨Bk, cap, h3, rfl⟩ := (h1 e k xs hi).2 hn
   cases hr : xs[r]? with
   | none => rw [hr] at hs; cases hs
   | some row =>
   rw [hr] at hs
   simp only at hs
   split at hs
   rotate_left
   · cases hs
   rename_i hle
   cases hs
   obtain ⟨cs, q3, q4, q5, q6⟩ := o.ob i _ _ hi h3
   have hk := q5 row (List.mem_of_getElem? hr)
   have hrl : r < xs.length := (Z1.1 hr).1
   rcases id q3.2 with ⟨hnil, _⟩ | ⟨g, cap', cur, hsl, hb0, hg, hnc, hcm, hcs, htake⟩
   · cases hnil
   cases hsl
   have hin : r * k + j + es.length ≤ xs.length * k := by
    have : (r + 1) * k ≤ xs.length * k := Nat.mul_le_mul_right _ hrl
    rw [Nat.succ_mul] at this; omega
   have hcc : xs.length * k ≤ cap * k := Nat.mul_le_mul_right _ hnc
   refine ⟨_, _, _, Zu3 hg hsz (by omega) honev, o.repl hi h3 rfl Wj.1 Wj.2.1 Wj.2.2.1 (Nat.le_of_eq Wj.2.2.2.1.symm) (fun b _ hb => Wj.2.2.2.2 b fun e => hb (by rw [e]; rfl)) (fun b hb => .inl hb) (fun _ _ => rfl) (fun e' k' xs' e => by cases e; exact ⟨e, xs, rfl, by simp, fun _ => rfl⟩) fun c sb => ?_⟩
   refine ⟨putL cs (r * k + j) u.cells.toList, ⟨?_, .inr ⟨Bk, cap, _, by rw [Z6, hn], hb0, setRow_at hg, by simpa using hnc, hcm, ?_, ?_⟩⟩, ?_, fun row' hr' => ?_, fun g hg' => ?_⟩
   · rw [Ym1 (by have := q3.1; simp; omega), Z6]; exact q3.1
   · rw [List.size_toArray, Ym1 (by simp; omega)]; simpa using hcs
   · rw [Z6, ← htake, List.toList_toArray]
     exact putL_take (by simp; omega) (by simp; omega)
   · rw [putL_flat xs q5 r j row es hr (by omega)]
     exact Xv c sb _ _ (Yl3 q4 hrc _)
   · rcases List.mem_or_eq_of_mem_set hr' with h | rfl
     · exact q5 _ h
     · rw [Ym1 hle]; exact hk
   · have := q6 g hg'
     simp [this]
  | _ => cases hs
 | _ => cases hs
end
section
variable {P : Program} {G : Nat → D} {B : Base} {s : S} {a : Act} {w w' : World} {hd hd' : List Value} {h h' : List Ob} {p p' : Nat → Bool}
mutual
def low (m : Nat) : D → Prop
 | .any | .v _ => True
 | .sl _ xs => lowR m xs
 | .agg ds | .tup ds | .rp ds | .fn _ ds => lowL m ds
 | .e0 => True
 | .ptr i _ | .buf i _ | .bp i _ _ _ | .win i _ _ _ | .arr i _ _ _ _ | .mp i => i < m
def lowL (m : Nat) : List D → Prop
 | [] => True
 | d :: t => low m d ∧ lowL m t
def lowR (m : Nat) : List (List D) → Prop
 | [] => True
 | d :: t => lowL m d ∧ lowR m t
end
theorem Zj0 (m : Nat) : ∀ l : List D, lowL m l ↔ ∀ d ∈ l, low m d
 | [] => by rw [lowL]; simp
 | d :: t => by rw [lowL, Zj0 m t]; simp
theorem Zp4 (m : Nat) : ∀ l : List (List D), lowR m l ↔ ∀ d ∈ l, lowL m d
 | [] => by rw [lowR]; simp
 | d :: t => by rw [lowR, Zp4 m t]; simp
def Yf1 (m : Nat) : Ob → Prop
 | .cells ds => lowL m ds
 | .buf _ _ xs => lowR m xs
 | .map es _ => lowL m (es.map (·.2.2))
 | .iter i _ _ _ => i < m
 | .hole | .dead => True
def lowH (m : Nat) (h : List Ob) : Prop := ∀ ob ∈ h, Yf1 m ob
mutual
theorem Zp3 {m n : Nat} (k : m ≤ n) : ∀ d, low m d → low n d
 | .any, _ => by rw [low]; trivial
 | .v _, _ => by rw [low]; trivial
 | .sl _ xs, q => by rw [low] at q ⊢; exact lowR_mono k xs q
 | .agg ds, q => by rw [low] at q ⊢; exact Uk k ds q
 | .tup ds, q => by rw [low] at q ⊢; exact Uk k ds q
 | .rp ds, q => by rw [low] at q ⊢; exact Uk k ds q
 | .fn _ ds, q => by rw [low] at q ⊢; exact Uk k ds q
 | .ptr i _, q => by rw [low] at q ⊢; omega
 | .buf i _, q => by rw [low] at q ⊢; omega
 | .bp i _ _ _, q => by rw [low] at q ⊢; omega
 | .win i _ _ _, q => by rw [low] at q ⊢; omega
 | .arr i _ _ _ _, q => by rw [low] at q ⊢; omega
 | .mp i, q => by rw [low] at q ⊢; omega
 | .e0, _ => by rw [low]; trivial
theorem Uk {m n : Nat} (k : m ≤ n) : ∀ d, lowL m d → lowL n d
 | [], _ => by rw [lowL]; trivial
 | d :: t, q => by rw [lowL] at q ⊢; exact ⟨Zp3 k d q.1, Uk k t q.2⟩
theorem lowR_mono {m n : Nat} (k : m ≤ n) : ∀ d, lowR m d → lowR n d
 | [], _ => by rw [lowR]; trivial
 | d :: t, q => by rw [lowR] at q ⊢; exact ⟨Uk k d q.1, lowR_mono k t q.2⟩
end
mutual
theorem rd_low (hl : hd.length = h.length) : ∀ (d : D) (u : Value), rd hd h w d u → low h.length d
 | .any, _, _ => by rw [low]; trivial
 | .v _, _, _ => by rw [low]; trivial
 | .sl k xs, u, q => by rw [rd] at q; obtain ⟨a, cap, _, _, _, q⟩ := q; rw [low]; exact Yg4 hl k a xs 0 q
 | .agg ds, u, q => by rw [rd] at q; obtain ⟨cs, _, q⟩ := q; rw [low]; exact Zf4 hl ds _ q
 | .tup ds, u, q => by rw [rd] at q; obtain ⟨cs, _, q⟩ := q; rw [low]; exact Zf4 hl ds _ q
 | .rp ds, u, q => by rw [rd] at q; obtain ⟨b, o, _, q⟩ := q; rw [low]; exact Yl9 hl ds b o q
 | .fn _ ds, u, q => by rw [rd] at q; obtain ⟨cs, _, q⟩ := q; rw [low]; exact Zf4 hl ds _ q
 | .ptr i _, u, q => by rw [rd] at q; obtain ⟨b, q, _⟩ := q; rw [low]; exact hl ▸ (Z1.1 q).1
 | .buf i _, u, q => by rw [rd] at q; rw [low]; exact q.2.1.lt
 | .bp i _ _ _, u, q => by rw [rd] at q; rw [low]; exact q.2.1.lt
 | .win i _ _ _, u, q => by rw [rd] at q; rw [low]; exact q.2.1.lt
 | .arr i _ _ _ _, u, q => by rw [rd] at q; obtain ⟨b, q, _⟩ := q; rw [low]; exact hl ▸ (Z1.1 q).1
 | .mp i, u, q => by rw [rd] at q; obtain ⟨b, q, _⟩ := q; rw [low]; exact hl ▸ (Z1.1 q).1
 | .e0, _, _ => by rw [low]; trivial
theorem Zf4 (hl : hd.length = h.length) : ∀ (ds : List D) (us : List Value), rdL hd h w ds us → lowL h.length ds
 | [], _, _ => by rw [lowL]; trivial
 | d :: t, us, q => by rw [rdL] at q; obtain ⟨u, v, _, q1, q2⟩ := q; rw [lowL]; exact ⟨rd_low hl d u q1, Zf4 hl t v q2⟩
theorem Yl9 (hl : hd.length = h.length) : ∀ (ds : List D) (b o : Nat), rdAt hd h w b o ds → lowL h.length ds
 | [], _, _, _ => by rw [lowL]; trivial
 | d :: t, b, o, q => by rw [rdAt] at q; obtain ⟨⟨u, _, q1⟩, q2⟩ := q; rw [lowL]; exact ⟨rd_low hl d u q1, Yl9 hl t b _ q2⟩
theorem Yg4 (hl : hd.length = h.length) (k : Nat) (a : Option Addr) : ∀ (xs : List (List D)) (o : Nat), W5 hd h w k a o xs → lowR h.length xs
 | [], _, _ => by rw [lowR]; trivial
 | d :: t, o, q => by rw [W5] at q; obtain ⟨⟨b, r, _, q1⟩, _, q2⟩ := q; rw [lowR]; exact ⟨Yl9 hl d b _ q1, Yg4 hl k a t _ q2⟩
end
theorem Jy {m : Nat} {xs : List (List D)} : lowL m xs.flatten ↔ lowR m xs := by
 rw [Zj0, Zp4]
 constructor
 · intro q l hl; rw [Zj0]; intro d hd; exact q d (List.mem_flatten.2 ⟨l, hl, hd⟩)
 · intro q d hd
   obtain ⟨l, hl, hd⟩ := List.mem_flatten.1 hd
   exact (Zj0 m l).1 (q l hl) d hd
theorem Ok.allLow (o : Ok G w hd h p) : lowH h.length h := fun ob hob => by
 obtain ⟨i, hi, rfl⟩ := List.getElem_of_mem hob
 have hid' : i < hd.length := by rw [o.len]; exact hi
 have := o.ob i _ _ (Z4 hi) (Z4 hid')
 generalize h[i] = ob at this
 cases ob with
 | dead => trivial
 | cells ds => obtain ⟨B, cs, t, _, _, h3, _⟩ := this; exact Zf4 o.len _ _ h3
 | buf e k xs => obtain ⟨cs, _, h3, _⟩ := this; exact Jy.1 (Zf4 o.len _ _ h3)
 | map es clock => obtain ⟨r, arr, _, _, _, h3, _⟩ := this; exact Zf4 o.len _ _ h3
 | iter m since seen last => obtain ⟨B, r, _, _, h3, _⟩ := this; exact o.len ▸ (Z1.1 h3).1
 | hole => trivial
theorem used.take {h : List Ob} {i m : Nat} (q : used h i) (l : i < m) : used (h.take m) i := by
 obtain ⟨ob, q1, q2⟩ := q
 exact ⟨ob, by rw [Z0, if_pos l]; exact q1, q2⟩
mutual
theorem Zf1 {m : Nat} (hl : hd.length = h.length) : ∀ (d : D) (u : Value), low m d → rd hd h w d u → rd (hd.take m) (h.take m) w d u
 | .any, _, _, _ => by rw [rd]; trivial
 | .v _, _, _, q => by rw [rd] at q ⊢; exact q
 | .sl k xs, u, l, q => by rw [low] at l; rw [rd] at q ⊢; obtain ⟨a, cap, q1, q2, q3, q⟩ := q; exact ⟨a, cap, q1, q2, q3, Zz3 hl k a xs 0 l q⟩
 | .agg ds, u, l, q => by rw [low] at l; rw [rd] at q ⊢; obtain ⟨cs, q1, q⟩ := q; exact ⟨cs, q1, Vb hl ds _ l q⟩
 | .tup ds, u, l, q => by rw [low] at l; rw [rd] at q ⊢; obtain ⟨cs, q1, q⟩ := q; exact ⟨cs, q1, Vb hl ds _ l q⟩
 | .rp ds, u, l, q => by rw [low] at l; rw [rd] at q ⊢; obtain ⟨b, o, q1, q⟩ := q; exact ⟨b, o, q1, Zs3 hl ds b o l q⟩
 | .fn _ ds, u, l, q => by rw [low] at l; rw [rd] at q ⊢; obtain ⟨cs, q1, q⟩ := q; exact ⟨cs, q1, Vb hl ds _ l q⟩
 | .ptr i _, u, l, q => by rw [low] at l; rw [rd] at q ⊢; obtain ⟨b, q1, q⟩ := q; exact ⟨b, by rw [Z0, if_pos l]; exact q1, q⟩
 | .buf i _, u, l, q => by
   rw [low] at l; rw [rd] at q ⊢; obtain ⟨q0, q1, q⟩ := q
   refine ⟨q0, q1.take l, fun e k xs hx => ?_⟩
   rw [Z0, if_pos l] at hx ⊢
   exact q e k xs hx
 | .bp i _ _ _, u, l, q => by
   rw [low] at l; rw [rd] at q ⊢; obtain ⟨q0, q1, q⟩ := q
   refine ⟨q0, q1.take l, fun e k xs hx => ?_⟩
   rw [Z0, if_pos l] at hx ⊢
   exact q e k xs hx
 | .win i _ _ _, u, l, q => by
   rw [low] at l; rw [rd] at q ⊢; obtain ⟨q0, q1, q⟩ := q
   refine ⟨q0, q1.take l, fun e k xs hx => ?_⟩
   rw [Z0, if_pos l] at hx ⊢
   exact q e k xs hx
 | .arr i _ _ _ _, u, l, q => by rw [low] at l; rw [rd] at q ⊢; obtain ⟨b, q1, q⟩ := q; exact ⟨b, by rw [Z0, if_pos l]; exact q1, q⟩
 | .mp i, u, l, q => by rw [low] at l; rw [rd] at q ⊢; obtain ⟨b, q1, q⟩ := q; exact ⟨b, by rw [Z0, if_pos l]; exact q1, q⟩
 | .e0, u, _, q => by rw [rd] at q ⊢; exact q
theorem Vb {m : Nat} (hl : hd.length = h.length) : ∀ (ds : List D) (us : List Value), lowL m ds → rdL hd h w ds us → rdL (hd.take m) (h.take m) w ds us
 | [], _, _, q => by rw [rdL] at q ⊢; exact q
 | d :: t, us, l, q => by rw [lowL] at l; rw [rdL] at q ⊢; obtain ⟨u, v, q0, q1, q2⟩ := q; exact ⟨u, v, q0, Zf1 hl d u l.1 q1, Vb hl t v l.2 q2⟩
theorem Zs3 {m : Nat} (hl : hd.length = h.length) : ∀ (ds : List D) (b o : Nat), lowL m ds → rdAt hd h w b o ds → rdAt (hd.take m) (h.take m) w b o ds
 | [], _, _, _, _ => by rw [rdAt]; trivial
 | d :: t, b, o, l, q => by rw [lowL] at l; rw [rdAt] at q ⊢; obtain ⟨⟨u, q0, q1⟩, q2⟩ := q; exact ⟨⟨u, q0, Zf1 hl d u l.1 q1⟩, Zs3 hl t b _ l.2 q2⟩
theorem Zz3 {m : Nat} (hl : hd.length = h.length) (k : Nat) (a : Option Addr) : ∀ (xs : List (List D)) (o : Nat), lowR m xs → W5 hd h w k a o xs → W5 (hd.take m) (h.take m) w k a o xs
 | [], _, _, _ => by rw [W5]; trivial
 | d :: t, o, l, q => by rw [lowR] at l; rw [W5] at q ⊢; obtain ⟨⟨b, r, q0, q1⟩, q2, q3⟩ := q; exact ⟨⟨b, r, q0, Zs3 hl d b _ l.1 q1⟩, q2, Zz3 hl k a t _ l.2 q3⟩
end
def Zm7 (S : Nat → Bool) (h : List Ob) : List Ob := h.mapIdx fun i ob => if S i then .dead else ob
def cv1 (S : Nat → Bool) (h : List Ob) : D → D
 | .buf i n => if S i then (match h[i]? with
   | some (.buf _ k xs) => if xs.length = n then .sl k xs else .any
   | _ => .any) else .buf i n
 | d => d
def cvD (S : Nat → Bool) (h : List Ob) : D → D
 | .agg ds => .agg (ds.map (cv1 S h))
 | .tup ds => .tup (ds.map (cv1 S h))
 | d => cv1 S h d
theorem Ok.give (o : Ok G w hd h p) (S : Nat → Bool) : ∃ p', Ok G w hd (Zm7 S h) p' ∧ Evo w hd h p w hd (Zm7 S h) p' ∧ ∀ d u, rd hd h (only p w) d u → rd hd (Zm7 S h) (only p' w) (cvD S h d) u := by
 obtain ⟨p', o', e, hv⟩ := o.kill S
 have c1 : ∀ d u, rd hd h (only p w) d u → rd hd (Zm7 S h) (only p' w) (cv1 S h d) u := fun d u q => by
  have q0 := e.rd o q
  cases d with
  | buf i n =>
   simp only [cv1]
   cases hs : S i
   · exact q0
   · simp only [if_true]
     cases hi : h[i]? with
     | none => simp only; rw [rd]; trivial
     | some ob =>
      cases ob with
      | buf E k xs =>
       simp only
       split
       · rename_i hn
         rw [rd] at q
         have hu := (q.2.2 E k xs hi).2 hn
         obtain ⟨cs, q1, q2, q3, q4⟩ := o.ob i _ _ hi hu
         exact buf_reads q1 (e.rdL o q2) q3 fun g hg => hv i _ u g hs hi rfl hu hg
       · rw [rd]; trivial
      | _ => simp only; rw [rd]; trivial
  | _ => exact q0
 have cl : ∀ ds us, rdL hd h (only p w) ds us → rdL hd (Zm7 S h) (only p' w) (ds.map (cv1 S h)) us := fun ds us q => by
  obtain ⟨l, q⟩ := (Xg _ _).1 q
  refine (Xg _ _).2 ⟨by simpa using l, fun j d hj => ?_⟩
  rw [List.getElem?_map, Z5] at hj
  obtain ⟨d', h1, rfl⟩ := hj
  obtain ⟨u, h2, h3⟩ := q j d' h1
  exact ⟨u, h2, c1 d' u h3⟩
 refine ⟨p', o', e, fun d u q => ?_⟩
 cases d with
 | agg ds => rw [rd] at q; obtain ⟨cs, q1, q⟩ := q; simp only [cvD]; rw [rd]; exact ⟨cs, q1, cl _ _ q⟩
 | tup ds => rw [rd] at q; obtain ⟨cs, q1, q⟩ := q; simp only [cvD]; rw [rd]; exact ⟨cs, q1, cl _ _ q⟩
 | _ => exact c1 _ u q
theorem Ok.take (o : Ok G w hd h p) {m : Nat} (hm : lowH m (h.take m)) (hg : ∀ g, low m (G g)) : Ok G w (hd.take m) (h.take m) p := by
 have tk : ∀ {i : Nat} {ob : Ob}, (h.take m)[i]? = some ob → i < m ∧ h[i]? = some ob := fun {i ob} q => by
  rw [Z0] at q; split at q
  · exact ⟨by assumption, q⟩
  · cases q
 have tu : ∀ {i : Nat} {u : Value}, (hd.take m)[i]? = some u → hd[i]? = some u := fun {i u} q => by
  rw [Z0] at q; split at q
  · exact q
  · cases q
 refine ⟨by simp [o.len], fun i ob u q1 q2 => ?_, fun i j oi oj ui uj b q1 q2 l1 l2 r1 r2 => o.inj i j oi oj ui uj b (tk q1).2 (tk q2).2 l1 l2 (tu r1) (tu r2), fun g => Zf1 o.len _ _ (hg g) (o.gl g), o.ex⟩
 have hlow := hm ob (List.mem_of_getElem? q1)
 have := o.ob i ob u (tk q1).2 (tu q2)
 cases ob with
 | dead => trivial
 | cells ds => obtain ⟨B, cs, t, e1, e2, e3, e4⟩ := this; exact ⟨B, cs, t, e1, e2, Vb o.len _ _ hlow e3, e4⟩
 | buf e k xs => obtain ⟨cs, e1, e2, e3, e4⟩ := this; exact ⟨cs, e1, Vb o.len _ _ (Jy.2 hlow) e2, e3, e4⟩
 | map es clock => obtain ⟨r, arr, e1, e2, e3, e4, e5⟩ := this; exact ⟨r, arr, e1, e2, e3, Vb o.len _ _ hlow e4, e5⟩
 | iter i' since seen last => obtain ⟨B, r, e1, e2, e3, e4⟩ := this; exact ⟨B, r, e1, e2, by rw [Z0, if_pos (show i' < m from hlow)]; exact e3, e4⟩
 | hole => exact this
theorem Evo.take (e : Evo w hd h p w' hd' h' p') (o : Ok G w hd h p) {m : Nat} (hm : h.length ≤ m) (hl : m ≤ h'.length) : Evo w hd h p w' (hd'.take m) (h'.take m) p' := by
 refine ⟨e.os, e.tape, e.output, e.size, e.keep, e.vis, e.seen, fun b hb => ?_, by simp; omega, fun i Bk q => ?_, fun i Bk q => ?_, fun i q => (e.carry.usd i q).take (by have := q.lt; omega), fun i E k xs hi q => ?_⟩
 · rintro ⟨i, ob, u, q1, q2, q3, q4⟩
   rw [Z0] at q1 q3
   split at q1
   · rename_i him; rw [if_pos him] at q3; exact e.own b hb ⟨i, ob, u, q1, q2, q3, q4⟩
   · cases q1
 · have := (Z1.1 q).1
   rw [Z0, if_pos (by have := o.len; omega)]; exact e.carry.ptr i Bk q
 · have := (Z1.1 q).1
   rw [Z0, if_pos (by have := o.len; omega)]; exact e.carry.mp i Bk q
 · have := hi.lt
   rw [Z0, if_pos (by omega)] at q
   obtain ⟨e0, ys, q1, q2, q3⟩ := e.carry.buf i E k xs hi q
   exact ⟨e0, ys, q1, q2, fun he => by rw [Z0, if_pos (by omega)]; exact q3 he⟩
end
end Go.Proofs.YtbhkcbidcfofiaaGreat
