/-
  What the statements of the chapter share, part 02: VOwn, VFr.
-/
import Derived.Test.YtmdjnaobllajmaaGreatDoorE01
import Derived.Lib.AppendStr
import Derived.Maps.AppendAt
set_option linter.unusedVariables false
set_option linter.unusedSimpArgs false
set_option maxRecDepth 100000
set_option maxHeartbeats 8000000
namespace Go.Proofs.YtmdjnaobllajmaaGreatDoor
open Go.RowKit
def Ext (W : World) : Type := {u : World // Below W.heap.size W u}
instance extNonempty (W : World) : Nonempty (Ext W) := ⟨⟨W, Below.refl _ _⟩⟩
theorem Ext.cell {W : World} (x : Ext W) {p : Addr} {v : Value} (h : W.cell? p = some v) : x.1.cell? p = some v := (x.2.cell (World.block_lt_of_cell? W _ h)).trans h
theorem ext_call {P : Program} {f : FuncId} {args : Array Value} {W : World} {v : Value} (x : Ext W) (h : Calls P f args x.1 fun e w' => e = .returned v ∧ Below x.1.heap.size x.1 w') :
    Calls P f args x.1 fun e w' => e = .returned v ∧ ∃ y : Ext W, w' = y.1 := h.mono fun _ w' ⟨he, hb⟩ => ⟨he, ⟨w', x.2.trans (hb.mono x.2.size)⟩, rfl⟩
theorem ext_same {P : Program} {f : FuncId} {args : Array Value} {W : World} {v : Value} (x : Ext W) (h : Calls P f args x.1 fun e w' => e = .returned v ∧ w' = x.1) :
    Calls P f args x.1 fun e w' => e = .returned v ∧ ∃ y : Ext W, w' = y.1 := h.mono fun _ w' ⟨he, hb⟩ => ⟨he, x, hb⟩
theorem bx2 {W : World} {N : Nat} {a0 a1 : Value} {r : List Value} (h : ∀ x : Ext W, ∀ (i : Nat) q, (List.toArray (a0 :: a1 :: r))[i]? = some q → x.1.cell? ⟨N, i, none⟩ = some q) :
    (∀ x : Ext W, x.1.cell? ⟨N, 0, none⟩ = some a0) ∧ (∀ x : Ext W, x.1.cell? ⟨N, 1, none⟩ = some a1) :=
  ⟨fun x => h x 0 _ rfl, fun x => h x 1 _ rfl⟩
theorem bx3 {W : World} {N : Nat} {a0 a1 a2 : Value} {r : List Value} (h : ∀ x : Ext W, ∀ (i : Nat) q, (List.toArray (a0 :: a1 :: a2 :: r))[i]? = some q → x.1.cell? ⟨N, i, none⟩ = some q) :
    (∀ x : Ext W, x.1.cell? ⟨N, 0, none⟩ = some a0) ∧ (∀ x : Ext W, x.1.cell? ⟨N, 1, none⟩ = some a1) ∧ (∀ x : Ext W, x.1.cell? ⟨N, 2, none⟩ = some a2) :=
  ⟨fun x => h x 0 _ rfl, fun x => h x 1 _ rfl, fun x => h x 2 _ rfl⟩
theorem bx4 {W : World} {N : Nat} {a0 a1 a2 a3 : Value} {r : List Value} (h : ∀ x : Ext W, ∀ (i : Nat) q, (List.toArray (a0 :: a1 :: a2 :: a3 :: r))[i]? = some q → x.1.cell? ⟨N, i, none⟩ = some q) :
    (∀ x : Ext W, x.1.cell? ⟨N, 0, none⟩ = some a0) ∧ (∀ x : Ext W, x.1.cell? ⟨N, 1, none⟩ = some a1) ∧ (∀ x : Ext W, x.1.cell? ⟨N, 2, none⟩ = some a2) ∧ (∀ x : Ext W, x.1.cell? ⟨N, 3, none⟩ = some a3) :=
  ⟨fun x => h x 0 _ rfl, fun x => h x 1 _ rfl, fun x => h x 2 _ rfl, fun x => h x 3 _ rfl⟩
theorem bx5 {W : World} {N : Nat} {a0 a1 a2 a3 a4 : Value} {r : List Value} (h : ∀ x : Ext W, ∀ (i : Nat) q, (List.toArray (a0 :: a1 :: a2 :: a3 :: a4 :: r))[i]? = some q → x.1.cell? ⟨N, i, none⟩ = some q) :
    (∀ x : Ext W, x.1.cell? ⟨N, 0, none⟩ = some a0) ∧ (∀ x : Ext W, x.1.cell? ⟨N, 1, none⟩ = some a1) ∧ (∀ x : Ext W, x.1.cell? ⟨N, 2, none⟩ = some a2) ∧ (∀ x : Ext W, x.1.cell? ⟨N, 3, none⟩ = some a3) ∧ (∀ x : Ext W, x.1.cell? ⟨N, 4, none⟩ = some a4) :=
  ⟨fun x => h x 0 _ rfl, fun x => h x 1 _ rfl, fun x => h x 2 _ rfl, fun x => h x 3 _ rfl, fun x => h x 4 _ rfl⟩
theorem bx6 {W : World} {N : Nat} {a0 a1 a2 a3 a4 a5 : Value} {r : List Value} (h : ∀ x : Ext W, ∀ (i : Nat) q, (List.toArray (a0 :: a1 :: a2 :: a3 :: a4 :: a5 :: r))[i]? = some q → x.1.cell? ⟨N, i, none⟩ = some q) :
    (∀ x : Ext W, x.1.cell? ⟨N, 0, none⟩ = some a0) ∧ (∀ x : Ext W, x.1.cell? ⟨N, 1, none⟩ = some a1) ∧ (∀ x : Ext W, x.1.cell? ⟨N, 2, none⟩ = some a2) ∧ (∀ x : Ext W, x.1.cell? ⟨N, 3, none⟩ = some a3) ∧ (∀ x : Ext W, x.1.cell? ⟨N, 4, none⟩ = some a4) ∧ (∀ x : Ext W, x.1.cell? ⟨N, 5, none⟩ = some a5) :=
  ⟨fun x => h x 0 _ rfl, fun x => h x 1 _ rfl, fun x => h x 2 _ rfl, fun x => h x 3 _ rfl, fun x => h x 4 _ rfl, fun x => h x 5 _ rfl⟩
theorem cx2 {W : World} {b o : Nat} {a0 a1 : Value} {r : List Value} (h : ∀ x : Ext W, CellsAt x.1 b o (a0 :: a1 :: r)) :
 (∀ x : Ext W, x.1.cell? ⟨b, o, none⟩ = some a0) ∧ (∀ x : Ext W, x.1.cell? ⟨b, o + 1, none⟩ = some a1) :=
 ⟨fun x => h x 0 (by simp), fun x => h x 1 (by simp)⟩
theorem cx4 {W : World} {b o : Nat} {a0 a1 a2 a3 : Value} {r : List Value} (h : ∀ x : Ext W, CellsAt x.1 b o (a0 :: a1 :: a2 :: a3 :: r)) :
 (∀ x : Ext W, x.1.cell? ⟨b, o, none⟩ = some a0) ∧ (∀ x : Ext W, x.1.cell? ⟨b, o + 1, none⟩ = some a1) ∧ (∀ x : Ext W, x.1.cell? ⟨b, o + 2, none⟩ = some a2) ∧ (∀ x : Ext W, x.1.cell? ⟨b, o + 3, none⟩ = some a3) :=
 ⟨fun x => h x 0 (by simp), fun x => h x 1 (by simp), fun x => h x 2 (by simp), fun x => h x 3 (by simp)⟩
theorem cx6 {W : World} {b o : Nat} {a0 a1 a2 a3 a4 a5 : Value} {r : List Value} (h : ∀ x : Ext W, CellsAt x.1 b o (a0 :: a1 :: a2 :: a3 :: a4 :: a5 :: r)) :
 (∀ x : Ext W, x.1.cell? ⟨b, o, none⟩ = some a0) ∧ (∀ x : Ext W, x.1.cell? ⟨b, o + 1, none⟩ = some a1) ∧ (∀ x : Ext W, x.1.cell? ⟨b, o + 2, none⟩ = some a2) ∧ (∀ x : Ext W, x.1.cell? ⟨b, o + 3, none⟩ = some a3) ∧ (∀ x : Ext W, x.1.cell? ⟨b, o + 4, none⟩ = some a4) ∧ (∀ x : Ext W, x.1.cell? ⟨b, o + 5, none⟩ = some a5) :=
 ⟨fun x => h x 0 (by simp), fun x => h x 1 (by simp), fun x => h x 2 (by simp), fun x => h x 3 (by simp), fun x => h x 4 (by simp), fun x => h x 5 (by simp)⟩
def Box (W : World) (b : Nat) (cs : Array Value) : Prop := ∀ (i : Nat) q, cs[i]? = some q → W.cell? ⟨b, i, none⟩ = some q
theorem Box.ext {W : World} {b : Nat} {cs : Array Value} (h : Box W b cs) (x : Ext W) : Box x.1 b cs := fun i q hq => x.cell (h i q hq)
theorem Box.below {W W' : World} {b : Nat} {cs : Array Value} (h : Box W b cs) (hb : Below W.heap.size W W') : Box W' b cs := h.ext ⟨W', hb⟩
theorem Box.new (W : World) (cs : Array Value) (t : TypeId) (b : Nat) (h : b = W.heap.size) : Box (W.alloc (.cells cs t)) b cs := fun i q hq => by subst h; rw [World.cell?_alloc_at _ _ _ _ rfl]; exact hq
theorem Box.alloc {W : World} {b : Nat} {cs : Array Value} (h : Box W b cs) (O : Obj) : Box (W.alloc O) b cs := h.below ((Below.refl _ _).alloc (Nat.le_refl _) O)
theorem two_box (w : World) (a b : Array Value) (t u : TypeId) : ∃ W2, Hid ((w.alloc (.cells a t)).alloc (.cells b u) = W2) ∧ Hid (∀ x : Ext W2, Below w.heap.size w x.1) ∧ Hid (Box W2 w.heap.size a) ∧ Hid (Box W2 (w.heap.size + 1) b) :=
 ⟨_, hid rfl, hid fun x => (((Below.refl _ _).alloc (Nat.le_refl _) _).alloc (by simp) _).trans (x.2.mono (by simp; omega)), hid ((Box.new _ _ _ _ rfl).alloc _), hid (Box.new _ _ _ _ (by simp))⟩
theorem wp_region_ext {P : Program} {id : Nat} {Q : Exit → Act → World → Prop} {a : Act} {W : World} {l : List Oper} (hm : P.follows .mixedOrders = true) (hB : Region.lexB .any l.toArray = true)
 (h : wpQuiet P l.toArray (fun w' => ∃ x : Ext W, w' = x.1) (fun a' => ∀ w', (∃ x : Ext W, w' = x.1) → Q .normal a' w') l a) : (Code.region id l.toArray true).wp P Q a W :=
 wp_region_quiet (C := fun w' => ∃ x : Ext W, w' = x.1) hm hB ⟨⟨_, (Below.refl _ _).drew⟩, rfl⟩ (by simpa using h)
def Src (w : World) (sz : Nat) (u : Value) (m : Nat) (news : List Value) : Prop :=
 ∃ ax c, u = .slice ax m c ∧ news.length = m * sz ∧ (ax = none → m = 0 ∧ c = 0) ∧ (∀ ad, ax = some ad → ∀ (j : Nat) q, news[j]? = some q → w.cell? (ad.add j) = some q) ∧ ∀ q ∈ news, q.oneCell' = true
theorem addr_add (b o j : Nat) : (⟨b, o, none⟩ : Addr).add j = ⟨b, o + j, none⟩ := by unfold Addr.add; split <;> simp_all
theorem Src.of_block {w : World} {g : Nat} {cs : Array Value} {t : TypeId} {fr : Nat × Nat} (hg : w.heap[g]? = some (.cells cs t fr)) (sz m c : Nat) (hl : cs.size = m * sz) (h1 : ∀ q ∈ cs.toList, q.oneCell' = true) : Src w sz (.slice (some ⟨g, 0, none⟩) m c) m cs.toList := by
 refine ⟨_, c, rfl, by simpa using hl, by simp, fun ad had j q hq => ?_, h1⟩
 cases had
 rw [addr_add, Nat.zero_add, cell_of_row w g j cs t fr hg]
 simpa using hq
theorem owns_shape {w : World} {base E size : Nat} {v : Value} {n : Nat} {xs : List Value} (h : w.ownsRow base E size v n xs) : ∃ a cap, v = .slice a n cap := by
 rcases h.2 with ⟨rfl, hn⟩ | ⟨g, cap, cur, rfl, _⟩
 · subst hn; exact ⟨none, 0, rfl⟩
 · exact ⟨_, cap, rfl⟩
theorem owns_made {w : World} {base E sz : Nat} {g : Nat} (cur : Array Value) (n : Nat) (hg : w.heap[g]? = some (.cells cur E (0, 0))) (hb : base ≤ g) (hn : cur.size = n * sz) (hm : n ≤ maxLen) :
 w.ownsRow base E sz (.slice (some ⟨g, 0, none⟩) n n) n cur.toList :=
 ⟨by simpa using hn, .inr ⟨g, n, cur, rfl, hb, hg, Nat.le_refl _, hm, hn, by rw [← hn, ← Array.length_toList, List.take_length]⟩⟩
theorem owns_tag {w : World} {base E size g : Nat} {v : Value} {n : Nat} {xs : List Value} (h : w.ownsRow base E size v n xs) (hg : v.ownBlock = some g) : base ≤ g ∧ g < w.heap.size ∧ ∃ cur, w.heap[g]? = some (.cells cur E (0, 0)) := by
 have hl := h.lt g hg
 rcases h.2 with ⟨rfl, _⟩ | ⟨g', cap, cur, rfl, hb, hgg, _⟩
 · simp [Value.ownBlock] at hg
 · simp [Value.ownBlock] at hg
   subst hg
   exact ⟨hb, hl.2, cur, hgg⟩
theorem owns_of_block {w w' : World} {base E size : Nat} {v : Value} {n : Nat} {xs : List Value} (h : w.ownsRow base E size v n xs) (hk : ∀ g, v.ownBlock = some g → w'.heap[g]? = w.heap[g]?) : w'.ownsRow base E size v n xs := by
 refine ⟨h.1, ?_⟩
 rcases h.2 with hn | ⟨g, cap, cur, rfl, hb, hgg, rest⟩
 · exact .inl hn
 · exact .inr ⟨g, cap, cur, rfl, hb, (hk g rfl).trans hgg, rest⟩
theorem owns_below {w w' : World} {base E size : Nat} {v : Value} {n : Nat} {xs : List Value} (h : w.ownsRow base E size v n xs) (hb : Below w.heap.size w w') : w'.ownsRow base E size v n xs :=
 owns_of_block h fun g hg => hb.block g (h.lt g hg).2
theorem owns_base {w : World} {base base' E size : Nat} {v : Value} {n : Nat} {xs : List Value} (h : w.ownsRow base E size v n xs) (hb : base' ≤ base) : w.ownsRow base' E size v n xs := by
 refine ⟨h.1, ?_⟩
 rcases h.2 with hn | ⟨g, cap, cur, rfl, hb2, rest⟩
 · exact .inl hn
 · exact .inr ⟨g, cap, cur, rfl, Nat.le_trans hb hb2, rest⟩
theorem SlRd.of_owns {α : Type} {w : World} {base E sz : Nat} {v : Value} {l : List α} {R : α → List Value → Prop} (f : α → List Value) (hf : ∀ x, (f x).length = sz) (hR : ∀ x ∈ l, R x (f x))
 (h : w.ownsRow base E sz v l.length (l.flatMap f)) : SlRd w sz R v l := by
 obtain ⟨hl, hr⟩ := h
 rcases hr with ⟨rfl, hn⟩ | ⟨g, cap, cur, rfl, hb, hg, hn, hcap, hsz, htake⟩
 · have : l = [] := List.length_eq_zero_iff.1 hn
   subst this
   exact ⟨none, 0, rfl, ⟨fun _ => rfl, by simp⟩, by decide, fun i hi => by simp at hi⟩
 · refine ⟨some ⟨g, 0, none⟩, cap, rfl, ⟨by simp, hn⟩, hcap, fun i hi => ⟨g, 0, f l[i], rfl, hf _, ?_, hR _ (List.getElem_mem hi)⟩⟩
   intro j hj
   rw [Nat.zero_add, cell_of_row w g _ cur E (0, 0) hg]
   have hlt : i * sz + j < l.length * sz := by
    rw [hf] at hj
    have : (i + 1) * sz ≤ l.length * sz := Nat.mul_le_mul_right _ hi
    rw [Nat.succ_mul] at this
    omega
   have e1 : (cur.toList.take (l.length * sz))[i * sz + j]? = cur[i * sz + j]? := by
    rw [List.getElem?_take, if_pos hlt]; simp
   rw [← e1, htake]
   exact flat_at f sz hf l i hi j (by rw [hf] at hj; exact hj) ▸ (List.getElem?_eq_getElem hj ▸ rfl)
 where
 flat_at {α : Type} (f : α → List Value) (sz : Nat) (hf : ∀ x, (f x).length = sz) : ∀ (l : List α) (i : Nat) (hi : i < l.length) (j : Nat), j < sz → (l.flatMap f)[i * sz + j]? = (f l[i])[j]?
  | x :: t, 0, _, j, hj => by
    rw [List.flatMap_cons, Nat.zero_mul, Nat.zero_add, List.getElem?_append_left (by rw [hf]; exact hj)]; rfl
  | x :: t, i + 1, hi, j, hj => by
    rw [List.flatMap_cons, List.getElem?_append_right (by rw [hf, Nat.succ_mul]; omega), hf, show (i + 1) * sz + j - sz = i * sz + j by rw [Nat.succ_mul]; omega]
    exact flat_at f sz hf t i (by simpa using hi) j hj
def cutA (b o cap k sz : Nat) : Option Addr := if cap = k then some ⟨b, o, none⟩ else some ⟨b, o + k * sz, none⟩
theorem run_slice_from {P : Program} (W : World) (t e : TypeId) (ht : P.underlying t = some (.slice e)) (sz : Nat) (hz : ∀ w, (Go.sizeOf e).run P w = .ok sz w) (b o len cap k : Nat) (hk : k ≤ len) :
 (Instr.slice t (.slice (some ⟨b, o, none⟩) len cap) (some (.int .i64 (k : Int))) none none).run P W = .ok (.slice (cutA b o cap k sz) (len - k) (cap - k)) W := by
 have ht' : P.underlying t = some (.slice (P.elem t)) := by simp [Program.elem, ht]
 have he : P.elem t = e := by simp [Program.elem, ht]
 rw [run_slice_l W t _ _ _ ht' .i64 _ (by omega) (by omega), he, hz]
 unfold cutA
 by_cases h1 : cap = k
 · subst h1
   simp [Result.andThen, sliced]
 · by_cases h0 : k = 0
   · subst h0
     simp [Result.andThen, sliced, Addr.add, h1]
   · simp [Result.andThen, sliced, Addr.add, h1, h0]
theorem SlRd.cut {α : Type} {w : World} {sz : Nat} {R : α → List Value → Prop} {b o n cap : Nat} {l : List α} (h : SlRd w sz R (.slice (some ⟨b, o, none⟩) n cap) l) (k : Nat) (hk : k ≤ l.length) :
 SlRd w sz R (.slice (cutA b o cap k sz) (n - k) (cap - k)) (l.drop k) := by
 obtain ⟨a, c, hv, hn, hm, hc⟩ := h
 cases hv
 refine ⟨_, cap - k, by rw [List.length_drop], ⟨?_, by rw [List.length_drop]; omega⟩, by omega, fun i hi => ?_⟩
 · unfold cutA; split <;> intro h <;> cases h
 · rw [List.length_drop] at hi
   obtain ⟨b', o', cs, ha', hl', hcs, hr⟩ := hc (k + i) (by omega)
   cases ha'
   refine ⟨b, o + k * sz, cs, by unfold cutA; rw [if_neg (by omega)], hl', ?_, by rw [List.getElem_drop]; exact hr⟩
   rw [show o + k * sz + i * sz = o + (k + i) * sz by rw [Nat.add_mul]; omega]
   exact hcs
structure Appd (w w' : World) (base e size : Nat) (v v' : Value) (N : Nat) (L : List Value) : Prop where
 own : w'.ownsRow base e size v' N L
 grown : w.grownBy w' v.ownBlock
 at_ : v'.ownBlock = v.ownBlock ∨ v'.ownBlock = some w.heap.size
section
variable {P : Program} {w : World}
theorem run_append_src {base : Nat} {t ty e : TypeId} {i : TypeInfo} {z : Value} {size bytes : Nat} (ht : P.underlying t = some (.slice e)) (hi : P.info? e = some i) (hz : i.zero = some z)
 (hsize : i.size = size) (hby : i.bytes = bytes) (hzs : z.cells.size = size) (hsz : 0 < size) {v : Value} {n : Nat} {xs : List Value} (hown : w.ownsRow base e size v n xs)
 {u : Value} {m : Nat} {news : List Value} (hs : Src w size u m news) (h63 : n + m ≤ maxLen) (hbytes : (n + m) * bytes ≤ 140737488355328) (hbase : base ≤ w.heap.size) :
 ∃ v' w', (Builtin.append_ #[t, t] ty #[v, u]).run P w = .ok v' w' ∧ Appd w w' base e size v v' (n + m) (xs ++ news) := by
 obtain ⟨ax, c, rfl, hl, hnone, hnews, h1⟩ := hs
 cases ax with
 | some ad =>
   obtain ⟨v', w', hr, h2, h3, _, h5⟩ := run_append_own_at (P := P) w base t ty e i z size bytes ht hi hz hsize hby hzs hsz v n xs hown ad m c news hl (hnews ad rfl) h1 h63 hbytes hbase
   exact ⟨v', w', hr, h2, h3, h5⟩
 | none =>
   obtain ⟨rfl, rfl⟩ := hnone rfl
   have hn : news = [] := List.eq_nil_of_length_eq_zero (by simpa using hl)
   subst hn
   obtain ⟨a', cap', rfl⟩ := owns_shape hown
   have hrun := run_append_owned_none (P := P) (w := w) base t ty e i size ht hi _ n xs hown
   exact ⟨_, w, hrun, by simpa using hown, ⟨rfl, rfl, rfl, Nat.le_refl _, fun _ _ _ => rfl⟩, .inl rfl⟩
theorem run_append_str {base : Nat} {t u ty e : TypeId} {i : TypeInfo} (ht : P.underlying t = some (.slice e)) (hu : P.underlying u = some .string) (hi : P.info? e = some i) (hz : i.zero = some (.int .u8 0))
 (hsize : i.size = 1) (hby : i.bytes = 1) {v : Value} {n : Nat} {xs : List Value} (hown : w.ownsRow base e 1 v n xs) (s : ByteArray)
 (h63 : n + s.size ≤ maxLen) (hbytes : n + s.size ≤ 140737488355328) (hbase : base ≤ w.heap.size) :
 ∃ v' w', (Builtin.append_ #[t, u] ty #[v, .string s]).run P w = .ok v' w' ∧ Appd w w' base e 1 v v' (n + s.size) (xs ++ Lib.strCells s) := by
 obtain ⟨v', w', hr, h2, h3, h4⟩ := Lib.run_append_own_string (P := P) w base t u ty e i ht hu hi hz hsize hby v n xs hown s h63 hbytes hbase
 refine ⟨v', w', hr, h2, h3, ?_⟩
 have hsmall : n + s.size ≤ 9223372036854775807 := by simp only [maxLen] at h63; omega
 rcases hown.2 with ⟨rfl, rfl⟩ | ⟨g, cap, cur, rfl, hbg, hg, hnc, hcm, hcs, htake⟩
 · by_cases hm : s.size = 0
   · rw [h4.2 ⟨rfl, hm⟩]; exact .inl rfl
   · have hr2 := run_append_nil_string (P := P) w t u ty e i (.int .u8 0) ht hu hi hz s (by omega) (by omega) (by rw [hby]; omega)
     rw [hr2] at hr
     injection hr with hr _
     rw [← hr]
     exact .inr rfl
 · by_cases hroom : n + s.size ≤ cap
   · have hcs' : cur.size = cap := by simpa using hcs
     have hr2 := Lib.run_append_room_string (P := P) w t u ty e i ht hu hi hsize g n cap cur hg s hroom (by omega)
     rw [hr2] at hr
     injection hr with hr _
     rw [← hr]
     exact .inl rfl
   · have holds : ∀ j u, xs[j]? = some u → w.cell? ((⟨g, 0, none⟩ : Addr).add j) = some u := hown.cells (g := g) rfl
     have hxl : xs.length = n := by simpa using hown.1
     have hr2 := Lib.run_append_grow_string (P := P) w t u ty e i (.int .u8 0) ht hu hi hz ⟨g, 0, none⟩ n cap xs (by rw [hsize]; simpa using hxl) holds s (by omega) (by omega) (by rw [hby]; exact growslice_fits (by omega) (by omega))
     rw [hr2] at hr
     injection hr with hr _
     rw [← hr]
     exact .inr rfl
theorem wp_append {o : Oper} {a : Act} {K : Act → World → Prop} {Q : Exit → Act → World → Prop} (s x : Operand) (t : TypeId) (ho : o.op = .call { callee := .builtin .append, args := #[s, x], argTypes := #[t, t] })
 (base e size bytes : Nat) {z : Value} {i : TypeInfo} (ht : P.underlying t = some (.slice e)) (hi : P.info? e = some i) (hz : i.zero = some z)
 (hsize : i.size = size) (hby : i.bytes = bytes) (hzs : z.cells.size = size) (hsz : 0 < size) (v : Value) (n : Nat) (xs : List Value) (hs : a.eval s = v) (hown : w.ownsRow base e size v n xs)
 (u : Value) (m : Nat) (news : List Value) (hx : a.eval x = u) (hsrc : Src w size u m news) (N : Nat) (hN : n + m = N) (L : List Value) (hL : xs ++ news = L) (h63 : N ≤ maxLen) (hbytes : N * bytes ≤ 140737488355328) (hbase : base ≤ w.heap.size)
 (h : ∀ a' cap' w', Appd w w' base e size v (.slice a' N cap') N L → K (a.put o.dst (.slice a' N cap')) w') : o.wp P a w K Q := by
 subst hN
 subst hL
 obtain ⟨v', w', hrun, h2⟩ := run_append_src (P := P) (w := w) (ty := o.type) ht hi hz hsize hby hzs hsz hown hsrc h63 hbytes hbase
 obtain ⟨a', cap', rfl⟩ := owns_shape h2.own
 unfold Oper.wp execOp
 simp only [ho, resolve, invoke, builtin, Sem.run_bind, Sem.run_pure, Result.andThen_ok, List.map_toArray, List.map_cons, List.map_nil, hs, hx, hrun]
 exact h a' cap' w' h2
theorem wpList_append {ops : Array Oper} {rest : List Oper} {o : Oper} {a : Act} {Q : Exit → Act → World → Prop} (hgd : o.guard = none) (s x : Operand) (t : TypeId) (ho : o.op = .call { callee := .builtin .append, args := #[s, x], argTypes := #[t, t] })
 (base e size bytes : Nat) {z : Value} {i : TypeInfo} (ht : P.underlying t = some (.slice e)) (hi : P.info? e = some i) (hz : i.zero = some z)
 (hsize : i.size = size) (hby : i.bytes = bytes) (hzs : z.cells.size = size) (hsz : 0 < size) (v : Value) (n : Nat) (xs : List Value) (hs : a.eval s = v) (hown : w.ownsRow base e size v n xs)
 (u : Value) (m : Nat) (news : List Value) (hx : a.eval x = u) (hsrc : Src w size u m news) (N : Nat) (hN : n + m = N) (L : List Value) (hL : xs ++ news = L) (h63 : N ≤ maxLen) (hbytes : N * bytes ≤ 140737488355328) (hbase : base ≤ w.heap.size)
 (h : ∀ a' cap' w', Appd w w' base e size v (.slice a' N cap') N L → wpList P ops Q rest (a.put o.dst (.slice a' N cap')) w') : wpList P ops Q (o :: rest) a w :=
 wpList_plain hgd fun _ hK => wp_append s x t ho base e size bytes ht hi hz hsize hby hzs hsz v n xs hs hown u m news hx hsrc N hN L hL h63 hbytes hbase fun a' cap' w' h2 => hK _ _ (h a' cap' w' h2)
theorem step_append {ops : Array Oper} {o : Oper} {a : Act} {K : Act → World → Prop} {Q : Exit → Act → World → Prop} {E : Prop} (hgd : o.guard = none) (s x : Operand) (t : TypeId) (ho : o.op = .call { callee := .builtin .append, args := #[s, x], argTypes := #[t, t] })
 (base e size bytes : Nat) {z : Value} {i : TypeInfo} (ht : P.underlying t = some (.slice e)) (hi : P.info? e = some i) (hz : i.zero = some z)
 (hsize : i.size = size) (hby : i.bytes = bytes) (hzs : z.cells.size = size) (hsz : 0 < size) (v : Value) (n : Nat) (xs : List Value) (hs : a.eval s = v) (hown : w.ownsRow base e size v n xs)
 (u : Value) (m : Nat) (news : List Value) (hx : a.eval x = u) (hsrc : Src w size u m news) (N : Nat) (hN : n + m = N) (L : List Value) (hL : xs ++ news = L) (h63 : N ≤ maxLen) (hbytes : N * bytes ≤ 140737488355328) (hbase : base ≤ w.heap.size)
 (h : ∀ a' cap' w', Appd w w' base e size v (.slice a' N cap') N L → K (a.put o.dst (.slice a' N cap')) w') : if Region.wanted o (yielded ops a.tmps) = true then Oper.wp P o a w K Q else E := by
 rw [if_pos (by simp [Region.wanted, hgd])]
 exact wp_append s x t ho base e size bytes ht hi hz hsize hby hzs hsz v n xs hs hown u m news hx hsrc N hN L hL h63 hbytes hbase h
theorem wp_appendS {o : Oper} {a : Act} {K : Act → World → Prop} {Q : Exit → Act → World → Prop} (s x : Operand) (t u : TypeId) (ho : o.op = .call { callee := .builtin .append, args := #[s, x], argTypes := #[t, u] })
 (base e : Nat) {i : TypeInfo} (ht : P.underlying t = some (.slice e)) (hu : P.underlying u = some .string) (hi : P.info? e = some i) (hz : i.zero = some (.int .u8 0)) (hsize : i.size = 1) (hby : i.bytes = 1)
 (v : Value) (n : Nat) (xs : List Value) (hs : a.eval s = v) (hown : w.ownsRow base e 1 v n xs) (q : ByteArray) (hx : a.eval x = .string q) (N : Nat) (hN : n + q.size = N) (L : List Value) (hL : xs ++ Lib.strCells q = L)
 (h63 : N ≤ maxLen) (hbytes : N ≤ 140737488355328) (hbase : base ≤ w.heap.size)
 (h : ∀ a' cap' w', Appd w w' base e 1 v (.slice a' N cap') N L → K (a.put o.dst (.slice a' N cap')) w') : o.wp P a w K Q := by
 subst hN
 subst hL
 obtain ⟨v', w', hrun, h2⟩ := run_append_str (P := P) (w := w) (ty := o.type) ht hu hi hz hsize hby hown q h63 hbytes hbase
 obtain ⟨a', cap', rfl⟩ := owns_shape h2.own
 unfold Oper.wp execOp
 simp only [ho, resolve, invoke, builtin, Sem.run_bind, Sem.run_pure, Result.andThen_ok, List.map_toArray, List.map_cons, List.map_nil, hs, hx, hrun]
 exact h a' cap' w' h2
theorem wpList_appendS {ops : Array Oper} {rest : List Oper} {o : Oper} {a : Act} {Q : Exit → Act → World → Prop} (hgd : o.guard = none) (s x : Operand) (t u : TypeId) (ho : o.op = .call { callee := .builtin .append, args := #[s, x], argTypes := #[t, u] })
 (base e : Nat) {i : TypeInfo} (ht : P.underlying t = some (.slice e)) (hu : P.underlying u = some .string) (hi : P.info? e = some i) (hz : i.zero = some (.int .u8 0)) (hsize : i.size = 1) (hby : i.bytes = 1)
 (v : Value) (n : Nat) (xs : List Value) (hs : a.eval s = v) (hown : w.ownsRow base e 1 v n xs) (q : ByteArray) (hx : a.eval x = .string q) (N : Nat) (hN : n + q.size = N) (L : List Value) (hL : xs ++ Lib.strCells q = L)
 (h63 : N ≤ maxLen) (hbytes : N ≤ 140737488355328) (hbase : base ≤ w.heap.size)
 (h : ∀ a' cap' w', Appd w w' base e 1 v (.slice a' N cap') N L → wpList P ops Q rest (a.put o.dst (.slice a' N cap')) w') : wpList P ops Q (o :: rest) a w :=
 wpList_plain hgd fun _ hK => wp_appendS s x t u ho base e ht hu hi hz hsize hby v n xs hs hown q hx N hN L hL h63 hbytes hbase fun a' cap' w' h2 => hK _ _ (h a' cap' w' h2)
end
def Sub (w w' : World) : Prop := ∀ p v, w.cell? p = some v → w'.cell? p = some v
theorem Sub.refl (w : World) : Sub w w := fun _ _ h => h
theorem Sub.trans {a b c : World} (h : Sub a b) (k : Sub b c) : Sub a c := fun p v q => k p v (h p v q)
theorem Sub.of_below {w w' : World} (h : Below w.heap.size w w') : Sub w w' := fun _ _ q => (h.cell (World.block_lt_of_cell? w _ q)).trans q
theorem CellsAt.mono {w w' : World} {b o : Nat} {cs : List Value} (h : CellsAt w b o cs) (hs : Sub w w') : CellsAt w' b o cs := fun j hj => hs _ _ (h j hj)
theorem SlRd.mono {α : Type} {w w' : World} {sz : Nat} {R R' : α → List Value → Prop} {v : Value} {l : List α} (h : SlRd w sz R v l) (hs : Sub w w') (hR : ∀ x cs, x ∈ l → R x cs → R' x cs) : SlRd w' sz R' v l := by
 obtain ⟨a, cap, hv, hn, hm, hc⟩ := h
 refine ⟨a, cap, hv, hn, hm, fun i hi => ?_⟩
 obtain ⟨b, o, cs, ha, hl, hcs, hr⟩ := hc i hi
 exact ⟨b, o, cs, ha, hl, hcs.mono hs, hR _ _ (List.getElem_mem hi) hr⟩
theorem Strs.mono {w w' : World} {v : Value} {l : List ByteArray} (h : Strs w v l) (hs : Sub w w') : Strs w' v l := SlRd.mono h hs fun _ _ _ h => h
theorem ruleRd.mono {w w' : World} {r : Rl} {cs : List Value} (h : ruleRd w r cs) (hs : Sub w w') : ruleRd w' r cs := by
 obtain ⟨v, hv, hc, hm⟩ := h
 exact ⟨v, hv, hc.mono hs, hm⟩
theorem entryRd.mono {w w' : World} {r : En} {cs : List Value} (h : entryRd w r cs) (hs : Sub w w') : entryRd w' r cs := by
 obtain ⟨v, hv, hc, hm⟩ := h
 exact ⟨v, hv, SlRd.mono hc hs fun _ _ _ h => h, hm⟩
theorem latRd.mono {w w' : World} (hs : Sub w w') : ∀ (l : Lat) (cs : List Value), latRd w l cs → latRd w' l cs
 | .mk k lo hi ns ps rs, cs, h => by
   obtain ⟨vn, vp, vr, h1, h2, h3, h4, h5⟩ := (latRd_iff _ _ _).1 h
   refine (latRd_iff _ _ _).2 ⟨vn, vp, vr, h1, h2, h3.mono hs, ?_, SlRd.mono h5 hs fun _ _ _ h => h.mono hs⟩
   exact SlRd.mono h4 hs fun x cs hx hr => latRd.mono hs x cs hr
 termination_by l => SizeOf.sizeOf l
 decreasing_by
  have := List.sizeOf_lt_of_mem hx
  simp only [Lat.parts] at this
  simp only [Lat.mk.sizeOf_spec]
  omega
theorem valRd.mono {w w' : World} (hs : Sub w w') : ∀ (l : Val) (cs : List Value), valRd w l cs → valRd w' l cs
 | .mk n ns ps es, cs, h => by
   obtain ⟨vn, vp, ve, h1, h2, h3, h4, h5⟩ := (valRd_iff _ _ _).1 h
   refine (valRd_iff _ _ _).2 ⟨vn, vp, ve, h1, h2, h3.mono hs, ?_, SlRd.mono h5 hs fun _ _ _ h => h.mono hs⟩
   exact SlRd.mono h4 hs fun x cs hx hr => valRd.mono hs x cs hr
 termination_by l => SizeOf.sizeOf l
 decreasing_by
  have := List.sizeOf_lt_of_mem hx
  simp only [Val.parts] at this
  simp only [Val.mk.sizeOf_spec]
  omega
def only (S : Nat → Bool) (w : World) : World := { w with heap := w.heap.mapIdx fun i o => if S i then o else .cells #[] 0 (0, 0) }
theorem only_cell (S : Nat → Bool) (w : World) (p : Addr) : (only S w).cell? p = if S p.block then w.cell? p else none := by
 unfold World.cell? only
 simp only [Array.getElem?_mapIdx]
 cases h : w.heap[p.block]? with
 | none => simp
 | some o =>
   cases hs : S p.block
   · simp [hs]
   · simp [hs]
theorem only_sub (S : Nat → Bool) (w : World) : Sub (only S w) w := fun p v h => by
  rw [only_cell] at h
  split at h
  · exact h
  · cases h
theorem only_keep {S S' : Nat → Bool} {w w' : World} (h : ∀ b, S b = true → b < w.heap.size → S' b = true ∧ w'.heap[b]? = w.heap[b]?) : Sub (only S w) (only S' w') := fun p v hp => by
  rw [only_cell] at hp ⊢
  cases hs : S p.block
  · rw [hs] at hp; cases hp
  · rw [hs] at hp
    simp only [if_true] at hp
    obtain ⟨h1, h2⟩ := h p.block hs (World.block_lt_of_cell? w p hp)
    rw [h1]
    simp only [if_true]
    rw [World.cell?_of_block (w := w) h2]
    exact hp
def from_ (n : Nat) : Nat → Bool := fun b => decide (n ≤ b)
def butOwn (n : Nat) (v : Value) : Nat → Bool := fun b => decide (n ≤ b) && decide (v.ownBlock ≠ some b)
structure Rws {α : Type} (w : World) (base E sz : Nat) (R : World → α → List Value → Prop) (v : Value) (l : List α) (css : List (List Value)) : Prop where
 own : w.ownsRow base E sz v l.length css.flatten
 len : css.length = l.length
 each : ∀ cs ∈ css, cs.length = sz
 read : ∀ i (h : i < l.length) (h' : i < css.length), R (only (butOwn base v) w) l[i] css[i]
theorem flatten_at (sz : Nat) : ∀ (css : List (List Value)), (∀ cs ∈ css, cs.length = sz) → ∀ (i : Nat) (hi : i < css.length) (j : Nat), j < sz → css.flatten[i * sz + j]? = css[i][j]?
 | x :: t, h, 0, _, j, hj => by
   rw [List.flatten_cons, Nat.zero_mul, Nat.zero_add, List.getElem?_append_left (by rw [h x (by simp)]; exact hj)]; rfl
 | x :: t, h, i + 1, hi, j, hj => by
   rw [List.flatten_cons, List.getElem?_append_right (by rw [h x (by simp), Nat.succ_mul]; omega), h x (by simp), show (i + 1) * sz + j - sz = i * sz + j by rw [Nat.succ_mul]; omega]
   exact flatten_at sz t (fun cs hc => h cs (by simp [hc])) i (by simpa using hi) j hj
theorem Rws.nil {α : Type} (w : World) (base E sz : Nat) (R : World → α → List Value → Prop) : Rws w base E sz R (.slice none 0 0) [] [] :=
 ⟨World.ownsRow_nil _ _ _ _, rfl, by simp, fun i h => by simp at h⟩
theorem Rws.reads {α : Type} {w : World} {base E sz : Nat} {R : World → α → List Value → Prop} {v : Value} {l : List α} {css : List (List Value)} (h : Rws w base E sz R v l css)
 (hR : ∀ {a b : World} {x cs}, Sub a b → R a x cs → R b x cs) : SlRd (only (from_ base) w) sz (R (only (from_ base) w)) v l := by
 obtain ⟨hl, hr⟩ := h.own
 have hsub : Sub (only (butOwn base v) w) (only (from_ base) w) := only_keep fun b hb _ => ⟨by unfold butOwn at hb; unfold from_; simp only [Bool.and_eq_true] at hb; exact hb.1, rfl⟩
 rcases hr with ⟨rfl, hn⟩ | ⟨g, cap, cur, rfl, hb, hg, hn, hcap, hsz, htake⟩
 · have : l = [] := List.length_eq_zero_iff.1 hn
   subst this
   exact ⟨none, 0, rfl, ⟨fun _ => rfl, by simp⟩, by decide, fun i hi => by simp at hi⟩
 · refine ⟨some ⟨g, 0, none⟩, cap, rfl, ⟨by simp, hn⟩, hcap, fun i hi => ?_⟩
   have hi' : i < css.length := by rw [h.len]; exact hi
   have hcl := h.each css[i] (List.getElem_mem hi')
   refine ⟨g, 0, css[i], rfl, hcl, fun j hj => ?_, hR hsub (h.read i hi hi')⟩
   rw [only_cell, show from_ base g = true from decide_eq_true hb]
   simp only [if_true]
   rw [Nat.zero_add, cell_of_row w g _ cur E (0, 0) hg]
   have hjs : j < sz := by rw [hcl] at hj; exact hj
   have hlt : i * sz + j < l.length * sz := by
    have : (i + 1) * sz ≤ l.length * sz := Nat.mul_le_mul_right _ hi
    rw [Nat.succ_mul] at this
    omega
   have e1 : (cur.toList.take (l.length * sz))[i * sz + j]? = cur[i * sz + j]? := by
    rw [List.getElem?_take, if_pos hlt]; simp
   rw [← e1, htake, flatten_at sz css h.each i hi' j hjs, List.getElem?_eq_getElem hj]
theorem Rws.keep {α : Type} {w w' : World} {base E sz : Nat} {R : World → α → List Value → Prop} {v : Value} {l : List α} {css : List (List Value)} (h : Rws w base E sz R v l css)
 (hR : ∀ {a b : World} {x cs}, Sub a b → R a x cs → R b x cs) (hk : ∀ b, base ≤ b → b < w.heap.size → w'.heap[b]? = w.heap[b]?) : Rws w' base E sz R v l css :=
 ⟨owns_of_block h.own fun g hg => hk g (h.own.lt g hg).1 (h.own.lt g hg).2, h.len, h.each, fun i hi hi' => hR (only_keep fun b hb hl => ⟨hb, hk b (by unfold butOwn at hb; simp only [Bool.and_eq_true] at hb; exact of_decide_eq_true hb.1) hl⟩) (h.read i hi hi')⟩
theorem Rws.push {α : Type} {w w' : World} {base E sz : Nat} {R : World → α → List Value → Prop} {v v' : Value} {l : List α} {css : List (List Value)} {x : α} {cs : List Value} {N : Nat} {L : List Value} (h : Rws w base E sz R v l css)
 (hR : ∀ {a b : World} {x cs}, Sub a b → R a x cs → R b x cs) (hA : Appd w w' base E sz v v' N L) (hN : N = l.length + 1) (hL : L = css.flatten ++ cs) (hc : cs.length = sz) (hx : R (only (butOwn base v) w) x cs) :
 Rws w' base E sz R v' (l ++ [x]) (css ++ [cs]) := by
 have hsub : Sub (only (butOwn base v) w) (only (butOwn base v') w') := only_keep fun b hb hl => by
   unfold butOwn at hb ⊢
   simp only [Bool.and_eq_true, decide_eq_true_eq] at hb ⊢
   refine ⟨⟨hb.1, ?_⟩, hA.grown.block b hl (fun e => hb.2 e.symm)⟩
   rcases hA.at_ with e | e
   · rw [e]; exact hb.2
   · rw [e]
     intro e2
     injection e2 with e2
     omega
 refine ⟨?_, by rw [List.length_append, List.length_append, h.len]; rfl, ?_, fun i hi hi' => ?_⟩
 · have := hA.own
   rw [hN, hL] at this
   rw [List.length_append, List.flatten_append, List.flatten_cons, List.flatten_nil, List.append_nil]
   exact this
 · intro c hcm
   rcases List.mem_append.1 hcm with hm | hm
   · exact h.each c hm
   · rw [List.mem_singleton.1 hm]; exact hc
 · by_cases hlt : i < l.length
   · rw [List.getElem_append_left hlt, List.getElem_append_left (by rw [h.len]; exact hlt)]
     exact hR hsub (h.read i hlt (by rw [h.len]; exact hlt))
   · have hil : i = l.length := by simp at hi; omega
     subst hil
     rw [List.getElem_append_right (by omega), List.getElem_append_right (by rw [h.len]; omega)]
     simp only [h.len, Nat.sub_self, List.getElem_singleton]
     exact hR hsub hx
end Go.Proofs.YtmdjnaobllajmaaGreatDoor
