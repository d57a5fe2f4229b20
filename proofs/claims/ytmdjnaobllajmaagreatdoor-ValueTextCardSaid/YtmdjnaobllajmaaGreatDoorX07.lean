/-
  What the statements of the chapter share, part 07: VOwn, VClk, VClk2, VClk3, VReg, VFr.
-/
import Derived.Test.YtmdjnaobllajmaaGreatDoorX01
import Derived.Test.YtmdjnaobllajmaaGreatDoorX06
import Derived.Lib.AppendStr
import Derived.Maps.AppendAt
set_option linter.unusedVariables false
set_option linter.unusedSimpArgs false
set_option maxRecDepth 100000
set_option maxHeartbeats 8000000
namespace Go.Proofs.YtmdjnaobllajmaaGreatDoor
open Go.RowKit
def Ext (W : World) : Type := {u : World // Below W.heap.size W u}
instance extNonempty (W : World) : Nonempty (Ext W) := ⟨⟨W, Below.refl _ _⟩⟩
theorem Ext.cell {W : World} (x : Ext W) {p : Addr} {v : Value} (h : W.cell? p = some v) : x.1.cell? p = some v := (x.2.cell (World.block_lt_of_cell? W _ h)).trans h
theorem ext_call {P : Program} {f : FuncId} {args : Array Value} {W : World} {v : Value} (x : Ext W) (h : Calls P f args x.1 fun e w' => e = .returned v ∧ Below x.1.heap.size x.1 w') :
    Calls P f args x.1 fun e w' => e = .returned v ∧ ∃ y : Ext W, w' = y.1 := h.mono fun _ w' ⟨he, hb⟩ => ⟨he, ⟨w', x.2.trans (hb.mono x.2.size)⟩, rfl⟩
theorem ext_same {P : Program} {f : FuncId} {args : Array Value} {W : World} {v : Value} (x : Ext W) (h : Calls P f args x.1 fun e w' => e = .returned v ∧ w' = x.1) :
    Calls P f args x.1 fun e w' => e = .returned v ∧ ∃ y : Ext W, w' = y.1 := h.mono fun _ w' ⟨he, hb⟩ => ⟨he, x, hb⟩
theorem bx2 {W : World} {N : Nat} {a0 a1 : Value} {r : List Value} (h : ∀ x : Ext W, ∀ (i : Nat) q, (List.toArray (a0 :: a1 :: r))[i]? = some q → x.1.cell? ⟨N, i, none⟩ = some q) :
    (∀ x : Ext W, x.1.cell? ⟨N, 0, none⟩ = some a0) ∧ (∀ x : Ext W, x.1.cell? ⟨N, 1, none⟩ = some a1) :=
  ⟨fun x => h x 0 _ rfl, fun x => h x 1 _ rfl⟩
theorem bx3 {W : World} {N : Nat} {a0 a1 a2 : Value} {r : List Value} (h : ∀ x : Ext W, ∀ (i : Nat) q, (List.toArray (a0 :: a1 :: a2 :: r))[i]? = some q → x.1.cell? ⟨N, i, none⟩ = some q) :
    (∀ x : Ext W, x.1.cell? ⟨N, 0, none⟩ = some a0) ∧ (∀ x : Ext W, x.1.cell? ⟨N, 1, none⟩ = some a1) ∧ (∀ x : Ext W, x.1.cell? ⟨N, 2, none⟩ = some a2) :=
  ⟨fun x => h x 0 _ rfl, fun x => h x 1 _ rfl, fun x => h x 2 _ rfl⟩
theorem bx4 {W : World} {N : Nat} {a0 a1 a2 a3 : Value} {r : List Value} (h : ∀ x : Ext W, ∀ (i : Nat) q, (List.toArray (a0 :: a1 :: a2 :: a3 :: r))[i]? = some q → x.1.cell? ⟨N, i, none⟩ = some q) :
    (∀ x : Ext W, x.1.cell? ⟨N, 0, none⟩ = some a0) ∧ (∀ x : Ext W, x.1.cell? ⟨N, 1, none⟩ = some a1) ∧ (∀ x : Ext W, x.1.cell? ⟨N, 2, none⟩ = some a2) ∧ (∀ x : Ext W, x.1.cell? ⟨N, 3, none⟩ = some a3) :=
  ⟨fun x => h x 0 _ rfl, fun x => h x 1 _ rfl, fun x => h x 2 _ rfl, fun x => h x 3 _ rfl⟩
theorem bx5 {W : World} {N : Nat} {a0 a1 a2 a3 a4 : Value} {r : List Value} (h : ∀ x : Ext W, ∀ (i : Nat) q, (List.toArray (a0 :: a1 :: a2 :: a3 :: a4 :: r))[i]? = some q → x.1.cell? ⟨N, i, none⟩ = some q) :
    (∀ x : Ext W, x.1.cell? ⟨N, 0, none⟩ = some a0) ∧ (∀ x : Ext W, x.1.cell? ⟨N, 1, none⟩ = some a1) ∧ (∀ x : Ext W, x.1.cell? ⟨N, 2, none⟩ = some a2) ∧ (∀ x : Ext W, x.1.cell? ⟨N, 3, none⟩ = some a3) ∧ (∀ x : Ext W, x.1.cell? ⟨N, 4, none⟩ = some a4) :=
  ⟨fun x => h x 0 _ rfl, fun x => h x 1 _ rfl, fun x => h x 2 _ rfl, fun x => h x 3 _ rfl, fun x => h x 4 _ rfl⟩
theorem bx6 {W : World} {N : Nat} {a0 a1 a2 a3 a4 a5 : Value} {r : List Value} (h : ∀ x : Ext W, ∀ (i : Nat) q, (List.toArray (a0 :: a1 :: a2 :: a3 :: a4 :: a5 :: r))[i]? = some q → x.1.cell? ⟨N, i, none⟩ = some q) :
    (∀ x : Ext W, x.1.cell? ⟨N, 0, none⟩ = some a0) ∧ (∀ x : Ext W, x.1.cell? ⟨N, 1, none⟩ = some a1) ∧ (∀ x : Ext W, x.1.cell? ⟨N, 2, none⟩ = some a2) ∧ (∀ x : Ext W, x.1.cell? ⟨N, 3, none⟩ = some a3) ∧ (∀ x : Ext W, x.1.cell? ⟨N, 4, none⟩ = some a4) ∧ (∀ x : Ext W, x.1.cell? ⟨N, 5, none⟩ = some a5) :=
  ⟨fun x => h x 0 _ rfl, fun x => h x 1 _ rfl, fun x => h x 2 _ rfl, fun x => h x 3 _ rfl, fun x => h x 4 _ rfl, fun x => h x 5 _ rfl⟩
theorem cx2 {W : World} {b o : Nat} {a0 a1 : Value} {r : List Value} (h : ∀ x : Ext W, CellsAt x.1 b o (a0 :: a1 :: r)) :
 (∀ x : Ext W, x.1.cell? ⟨b, o, none⟩ = some a0) ∧ (∀ x : Ext W, x.1.cell? ⟨b, o + 1, none⟩ = some a1) :=
 ⟨fun x => h x 0 (by simp), fun x => h x 1 (by simp)⟩
theorem cx4 {W : World} {b o : Nat} {a0 a1 a2 a3 : Value} {r : List Value} (h : ∀ x : Ext W, CellsAt x.1 b o (a0 :: a1 :: a2 :: a3 :: r)) :
 (∀ x : Ext W, x.1.cell? ⟨b, o, none⟩ = some a0) ∧ (∀ x : Ext W, x.1.cell? ⟨b, o + 1, none⟩ = some a1) ∧ (∀ x : Ext W, x.1.cell? ⟨b, o + 2, none⟩ = some a2) ∧ (∀ x : Ext W, x.1.cell? ⟨b, o + 3, none⟩ = some a3) :=
 ⟨fun x => h x 0 (by simp), fun x => h x 1 (by simp), fun x => h x 2 (by simp), fun x => h x 3 (by simp)⟩
theorem cx6 {W : World} {b o : Nat} {a0 a1 a2 a3 a4 a5 : Value} {r : List Value} (h : ∀ x : Ext W, CellsAt x.1 b o (a0 :: a1 :: a2 :: a3 :: a4 :: a5 :: r)) :
 (∀ x : Ext W, x.1.cell? ⟨b, o, none⟩ = some a0) ∧ (∀ x : Ext W, x.1.cell? ⟨b, o + 1, none⟩ = some a1) ∧ (∀ x : Ext W, x.1.cell? ⟨b, o + 2, none⟩ = some a2) ∧ (∀ x : Ext W, x.1.cell? ⟨b, o + 3, none⟩ = some a3) ∧ (∀ x : Ext W, x.1.cell? ⟨b, o + 4, none⟩ = some a4) ∧ (∀ x : Ext W, x.1.cell? ⟨b, o + 5, none⟩ = some a5) :=
 ⟨fun x => h x 0 (by simp), fun x => h x 1 (by simp), fun x => h x 2 (by simp), fun x => h x 3 (by simp), fun x => h x 4 (by simp), fun x => h x 5 (by simp)⟩
def Box (W : World) (b : Nat) (cs : Array Value) : Prop := ∀ (i : Nat) q, cs[i]? = some q → W.cell? ⟨b, i, none⟩ = some q
theorem Box.ext {W : World} {b : Nat} {cs : Array Value} (h : Box W b cs) (x : Ext W) : Box x.1 b cs := fun i q hq => x.cell (h i q hq)
theorem Box.below {W W' : World} {b : Nat} {cs : Array Value} (h : Box W b cs) (hb : Below W.heap.size W W') : Box W' b cs := h.ext ⟨W', hb⟩
theorem Box.new (W : World) (cs : Array Value) (t : TypeId) (b : Nat) (h : b = W.heap.size) : Box (W.alloc (.cells cs t)) b cs := fun i q hq => by subst h; rw [World.cell?_alloc_at _ _ _ _ rfl]; exact hq
theorem Box.alloc {W : World} {b : Nat} {cs : Array Value} (h : Box W b cs) (O : Obj) : Box (W.alloc O) b cs := h.below ((Below.refl _ _).alloc (Nat.le_refl _) O)
theorem two_box (w : World) (a b : Array Value) (t u : TypeId) : ∃ W2, Hid ((w.alloc (.cells a t)).alloc (.cells b u) = W2) ∧ Hid (∀ x : Ext W2, Below w.heap.size w x.1) ∧ Hid (Box W2 w.heap.size a) ∧ Hid (Box W2 (w.heap.size + 1) b) :=
 ⟨_, hid rfl, hid fun x => (((Below.refl _ _).alloc (Nat.le_refl _) _).alloc (by simp) _).trans (x.2.mono (by simp; omega)), hid ((Box.new _ _ _ _ rfl).alloc _), hid (Box.new _ _ _ _ (by simp))⟩
theorem wp_region_ext {P : Program} {id : Nat} {Q : Exit → Act → World → Prop} {a : Act} {W : World} {l : List Oper} (hm : P.follows .mixedOrders = true) (hB : Region.lexB .any l.toArray = true)
 (h : wpQuiet P l.toArray (fun w' => ∃ x : Ext W, w' = x.1) (fun a' => ∀ w', (∃ x : Ext W, w' = x.1) → Q .normal a' w') l a) : (Code.region id l.toArray true).wp P Q a W :=
 wp_region_quiet (C := fun w' => ∃ x : Ext W, w' = x.1) hm hB ⟨⟨_, (Below.refl _ _).drew⟩, rfl⟩ (by simpa using h)
def Src (w : World) (sz : Nat) (u : Value) (m : Nat) (news : List Value) : Prop :=
 ∃ ax c, u = .slice ax m c ∧ news.length = m * sz ∧ (ax = none → m = 0 ∧ c = 0) ∧ (∀ ad, ax = some ad → ∀ (j : Nat) q, news[j]? = some q → w.cell? (ad.add j) = some q) ∧ ∀ q ∈ news, q.oneCell' = true
theorem addr_add (b o j : Nat) : (⟨b, o, none⟩ : Addr).add j = ⟨b, o + j, none⟩ := by unfold Addr.add; split <;> simp_all
theorem Src.of_block {w : World} {g : Nat} {cs : Array Value} {t : TypeId} {fr : Nat × Nat} (hg : w.heap[g]? = some (.cells cs t fr)) (sz m c : Nat) (hl : cs.size = m * sz) (h1 : ∀ q ∈ cs.toList, q.oneCell' = true) : Src w sz (.slice (some ⟨g, 0, none⟩) m c) m cs.toList := by
 refine ⟨_, c, rfl, by simpa using hl, by simp, fun ad had j q hq => ?_, h1⟩
 cases had
 rw [addr_add, Nat.zero_add, cell_of_row w g j cs t fr hg]
 simpa using hq
theorem owns_shape {w : World} {base E size : Nat} {v : Value} {n : Nat} {xs : List Value} (h : w.ownsRow base E size v n xs) : ∃ a cap, v = .slice a n cap := by
 rcases h.2 with ⟨rfl, hn⟩ | ⟨g, cap, cur, rfl, _⟩
 · subst hn; exact ⟨none, 0, rfl⟩
 · exact ⟨_, cap, rfl⟩
theorem owns_made {w : World} {base E sz : Nat} {g : Nat} (cur : Array Value) (n : Nat) (hg : w.heap[g]? = some (.cells cur E (0, 0))) (hb : base ≤ g) (hn : cur.size = n * sz) (hm : n ≤ maxLen) :
 w.ownsRow base E sz (.slice (some ⟨g, 0, none⟩) n n) n cur.toList :=
 ⟨by simpa using hn, .inr ⟨g, n, cur, rfl, hb, hg, Nat.le_refl _, hm, hn, by rw [← hn, ← Array.length_toList, List.take_length]⟩⟩
theorem owns_tag {w : World} {base E size g : Nat} {v : Value} {n : Nat} {xs : List Value} (h : w.ownsRow base E size v n xs) (hg : v.ownBlock = some g) : base ≤ g ∧ g < w.heap.size ∧ ∃ cur, w.heap[g]? = some (.cells cur E (0, 0)) := by
 have hl := h.lt g hg
 rcases h.2 with ⟨rfl, _⟩ | ⟨g', cap, cur, rfl, hb, hgg, _⟩
 · simp [Value.ownBlock] at hg
 · simp [Value.ownBlock] at hg
   subst hg
   exact ⟨hb, hl.2, cur, hgg⟩
theorem owns_of_block {w w' : World} {base E size : Nat} {v : Value} {n : Nat} {xs : List Value} (h : w.ownsRow base E size v n xs) (hk : ∀ g, v.ownBlock = some g → w'.heap[g]? = w.heap[g]?) : w'.ownsRow base E size v n xs := by
 refine ⟨h.1, ?_⟩
 rcases h.2 with hn | ⟨g, cap, cur, rfl, hb, hgg, rest⟩
 · exact .inl hn
 · exact .inr ⟨g, cap, cur, rfl, hb, (hk g rfl).trans hgg, rest⟩
theorem owns_below {w w' : World} {base E size : Nat} {v : Value} {n : Nat} {xs : List Value} (h : w.ownsRow base E size v n xs) (hb : Below w.heap.size w w') : w'.ownsRow base E size v n xs :=
 owns_of_block h fun g hg => hb.block g (h.lt g hg).2
theorem owns_base {w : World} {base base' E size : Nat} {v : Value} {n : Nat} {xs : List Value} (h : w.ownsRow base E size v n xs) (hb : base' ≤ base) : w.ownsRow base' E size v n xs := by
 refine ⟨h.1, ?_⟩
 rcases h.2 with hn | ⟨g, cap, cur, rfl, hb2, rest⟩
 · exact .inl hn
 · exact .inr ⟨g, cap, cur, rfl, Nat.le_trans hb hb2, rest⟩
theorem SlRd.of_owns {α : Type} {w : World} {base E sz : Nat} {v : Value} {l : List α} {R : α → List Value → Prop} (f : α → List Value) (hf : ∀ x, (f x).length = sz) (hR : ∀ x ∈ l, R x (f x))
 (h : w.ownsRow base E sz v l.length (l.flatMap f)) : SlRd w sz R v l := by
 obtain ⟨hl, hr⟩ := h
 rcases hr with ⟨rfl, hn⟩ | ⟨g, cap, cur, rfl, hb, hg, hn, hcap, hsz, htake⟩
 · have : l = [] := List.length_eq_zero_iff.1 hn
   subst this
   exact ⟨none, 0, rfl, ⟨fun _ => rfl, by simp⟩, by decide, fun i hi => by simp at hi⟩
 · refine ⟨some ⟨g, 0, none⟩, cap, rfl, ⟨by simp, hn⟩, hcap, fun i hi => ⟨g, 0, f l[i], rfl, hf _, ?_, hR _ (List.getElem_mem hi)⟩⟩
   intro j hj
   rw [Nat.zero_add, cell_of_row w g _ cur E (0, 0) hg]
   have hlt : i * sz + j < l.length * sz := by
    rw [hf] at hj
    have : (i + 1) * sz ≤ l.length * sz := Nat.mul_le_mul_right _ hi
    rw [Nat.succ_mul] at this
    omega
   have e1 : (cur.toList.take (l.length * sz))[i * sz + j]? = cur[i * sz + j]? := by
    rw [List.getElem?_take, if_pos hlt]; simp
   rw [← e1, htake]
   exact flat_at f sz hf l i hi j (by rw [hf] at hj; exact hj) ▸ (List.getElem?_eq_getElem hj ▸ rfl)
 where
 flat_at {α : Type} (f : α → List Value) (sz : Nat) (hf : ∀ x, (f x).length = sz) : ∀ (l : List α) (i : Nat) (hi : i < l.length) (j : Nat), j < sz → (l.flatMap f)[i * sz + j]? = (f l[i])[j]?
  | x :: t, 0, _, j, hj => by
    rw [List.flatMap_cons, Nat.zero_mul, Nat.zero_add, List.getElem?_append_left (by rw [hf]; exact hj)]; rfl
  | x :: t, i + 1, hi, j, hj => by
    rw [List.flatMap_cons, List.getElem?_append_right (by rw [hf, Nat.succ_mul]; omega), hf, show (i + 1) * sz + j - sz = i * sz + j by rw [Nat.succ_mul]; omega]
    exact flat_at f sz hf t i (by simpa using hi) j hj
def cutA (b o cap k sz : Nat) : Option Addr := if cap = k then some ⟨b, o, none⟩ else some ⟨b, o + k * sz, none⟩
theorem run_slice_from {P : Program} (W : World) (t e : TypeId) (ht : P.underlying t = some (.slice e)) (sz : Nat) (hz : ∀ w, (Go.sizeOf e).run P w = .ok sz w) (b o len cap k : Nat) (hk : k ≤ len) :
 (Instr.slice t (.slice (some ⟨b, o, none⟩) len cap) (some (.int .i64 (k : Int))) none none).run P W = .ok (.slice (cutA b o cap k sz) (len - k) (cap - k)) W := by
 have ht' : P.underlying t = some (.slice (P.elem t)) := by simp [Program.elem, ht]
 have he : P.elem t = e := by simp [Program.elem, ht]
 rw [run_slice_l W t _ _ _ ht' .i64 _ (by omega) (by omega), he, hz]
 unfold cutA
 by_cases h1 : cap = k
 · subst h1
   simp [Result.andThen, sliced]
 · by_cases h0 : k = 0
   · subst h0
     simp [Result.andThen, sliced, Addr.add, h1]
   · simp [Result.andThen, sliced, Addr.add, h1, h0]
theorem SlRd.cut {α : Type} {w : World} {sz : Nat} {R : α → List Value → Prop} {b o n cap : Nat} {l : List α} (h : SlRd w sz R (.slice (some ⟨b, o, none⟩) n cap) l) (k : Nat) (hk : k ≤ l.length) :
 SlRd w sz R (.slice (cutA b o cap k sz) (n - k) (cap - k)) (l.drop k) := by
 obtain ⟨a, c, hv, hn, hm, hc⟩ := h
 cases hv
 refine ⟨_, cap - k, by rw [List.length_drop], ⟨?_, by rw [List.length_drop]; omega⟩, by omega, fun i hi => ?_⟩
 · unfold cutA; split <;> intro h <;> cases h
 · rw [List.length_drop] at hi
   obtain ⟨b', o', cs, ha', hl', hcs, hr⟩ := hc (k + i) (by omega)
   cases ha'
   refine ⟨b, o + k * sz, cs, by unfold cutA; rw [if_neg (by omega)], hl', ?_, by rw [List.getElem_drop]; exact hr⟩
   rw [show o + k * sz + i * sz = o + (k + i) * sz by rw [Nat.add_mul]; omega]
   exact hcs
structure Appd (w w' : World) (base e size : Nat) (v v' : Value) (N : Nat) (L : List Value) : Prop where
 own : w'.ownsRow base e size v' N L
 grown : w.grownBy w' v.ownBlock
 at_ : v'.ownBlock = v.ownBlock ∨ v'.ownBlock = some w.heap.size
section
variable {P : Program} {w : World}
theorem run_append_src {base : Nat} {t ty e : TypeId} {i : TypeInfo} {z : Value} {size bytes : Nat} (ht : P.underlying t = some (.slice e)) (hi : P.info? e = some i) (hz : i.zero = some z)
 (hsize : i.size = size) (hby : i.bytes = bytes) (hzs : z.cells.size = size) (hsz : 0 < size) {v : Value} {n : Nat} {xs : List Value} (hown : w.ownsRow base e size v n xs)
 {u : Value} {m : Nat} {news : List Value} (hs : Src w size u m news) (h63 : n + m ≤ maxLen) (hbytes : (n + m) * bytes ≤ 140737488355328) (hbase : base ≤ w.heap.size) :
 ∃ v' w', (Builtin.append_ #[t, t] ty #[v, u]).run P w = .ok v' w' ∧ Appd w w' base e size v v' (n + m) (xs ++ news) := by
 obtain ⟨ax, c, rfl, hl, hnone, hnews, h1⟩ := hs
 cases ax with
 | some ad =>
   obtain ⟨v', w', hr, h2, h3, _, h5⟩ := run_append_own_at (P := P) w base t ty e i z size bytes ht hi hz hsize hby hzs hsz v n xs hown ad m c news hl (hnews ad rfl) h1 h63 hbytes hbase
   exact ⟨v', w', hr, h2, h3, h5⟩
 | none =>
   obtain ⟨rfl, rfl⟩ := hnone rfl
   have hn : news = [] := List.eq_nil_of_length_eq_zero (by simpa using hl)
   subst hn
   obtain ⟨a', cap', rfl⟩ := owns_shape hown
   have hrun := run_append_owned_none (P := P) (w := w) base t ty e i size ht hi _ n xs hown
   exact ⟨_, w, hrun, by simpa using hown, ⟨rfl, rfl, rfl, Nat.le_refl _, fun _ _ _ => rfl⟩, .inl rfl⟩
theorem run_append_str {base : Nat} {t u ty e : TypeId} {i : TypeInfo} (ht : P.underlying t = some (.slice e)) (hu : P.underlying u = some .string) (hi : P.info? e = some i) (hz : i.zero = some (.int .u8 0))
 (hsize : i.size = 1) (hby : i.bytes = 1) {v : Value} {n : Nat} {xs : List Value} (hown : w.ownsRow base e 1 v n xs) (s : ByteArray)
 (h63 : n + s.size ≤ maxLen) (hbytes : n + s.size ≤ 140737488355328) (hbase : base ≤ w.heap.size) :
 ∃ v' w', (Builtin.append_ #[t, u] ty #[v, .string s]).run P w = .ok v' w' ∧ Appd w w' base e 1 v v' (n + s.size) (xs ++ Lib.strCells s) := by
 obtain ⟨v', w', hr, h2, h3, h4⟩ := Lib.run_append_own_string (P := P) w base t u ty e i ht hu hi hz hsize hby v n xs hown s h63 hbytes hbase
 refine ⟨v', w', hr, h2, h3, ?_⟩
 have hsmall : n + s.size ≤ 9223372036854775807 := by simp only [maxLen] at h63; omega
 rcases hown.2 with ⟨rfl, rfl⟩ | ⟨g, cap, cur, rfl, hbg, hg, hnc, hcm, hcs, htake⟩
 · by_cases hm : s.size = 0
   · rw [h4.2 ⟨rfl, hm⟩]; exact .inl rfl
   · have hr2 := run_append_nil_string (P := P) w t u ty e i (.int .u8 0) ht hu hi hz s (by omega) (by omega) (by rw [hby]; omega)
     rw [hr2] at hr
     injection hr with hr _
     rw [← hr]
     exact .inr rfl
 · by_cases hroom : n + s.size ≤ cap
   · have hcs' : cur.size = cap := by simpa using hcs
     have hr2 := Lib.run_append_room_string (P := P) w t u ty e i ht hu hi hsize g n cap cur hg s hroom (by omega)
     rw [hr2] at hr
     injection hr with hr _
     rw [← hr]
     exact .inl rfl
   · have holds : ∀ j u, xs[j]? = some u → w.cell? ((⟨g, 0, none⟩ : Addr).add j) = some u := hown.cells (g := g) rfl
     have hxl : xs.length = n := by simpa using hown.1
     have hr2 := Lib.run_append_grow_string (P := P) w t u ty e i (.int .u8 0) ht hu hi hz ⟨g, 0, none⟩ n cap xs (by rw [hsize]; simpa using hxl) holds s (by omega) (by omega) (by rw [hby]; exact growslice_fits (by omega) (by omega))
     rw [hr2] at hr
     injection hr with hr _
     rw [← hr]
     exact .inr rfl
theorem wp_append {o : Oper} {a : Act} {K : Act → World → Prop} {Q : Exit → Act → World → Prop} (s x : Operand) (t : TypeId) (ho : o.op = .call { callee := .builtin .append, args := #[s, x], argTypes := #[t, t] })
 (base e size bytes : Nat) {z : Value} {i : TypeInfo} (ht : P.underlying t = some (.slice e)) (hi : P.info? e = some i) (hz : i.zero = some z)
 (hsize : i.size = size) (hby : i.bytes = bytes) (hzs : z.cells.size = size) (hsz : 0 < size) (v : Value) (n : Nat) (xs : List Value) (hs : a.eval s = v) (hown : w.ownsRow base e size v n xs)
 (u : Value) (m : Nat) (news : List Value) (hx : a.eval x = u) (hsrc : Src w size u m news) (N : Nat) (hN : n + m = N) (L : List Value) (hL : xs ++ news = L) (h63 : N ≤ maxLen) (hbytes : N * bytes ≤ 140737488355328) (hbase : base ≤ w.heap.size)
 (h : ∀ a' cap' w', Appd w w' base e size v (.slice a' N cap') N L → K (a.put o.dst (.slice a' N cap')) w') : o.wp P a w K Q := by
 subst hN
 subst hL
 obtain ⟨v', w', hrun, h2⟩ := run_append_src (P := P) (w := w) (ty := o.type) ht hi hz hsize hby hzs hsz hown hsrc h63 hbytes hbase
 obtain ⟨a', cap', rfl⟩ := owns_shape h2.own
 unfold Oper.wp execOp
 simp only [ho, resolve, invoke, builtin, Sem.run_bind, Sem.run_pure, Result.andThen_ok, List.map_toArray, List.map_cons, List.map_nil, hs, hx, hrun]
 exact h a' cap' w' h2
theorem wpList_append {ops : Array Oper} {rest : List Oper} {o : Oper} {a : Act} {Q : Exit → Act → World → Prop} (hgd : o.guard = none) (s x : Operand) (t : TypeId) (ho : o.op = .call { callee := .builtin .append, args := #[s, x], argTypes := #[t, t] })
 (base e size bytes : Nat) {z : Value} {i : TypeInfo} (ht : P.underlying t = some (.slice e)) (hi : P.info? e = some i) (hz : i.zero = some z)
 (hsize : i.size = size) (hby : i.bytes = bytes) (hzs : z.cells.size = size) (hsz : 0 < size) (v : Value) (n : Nat) (xs : List Value) (hs : a.eval s = v) (hown : w.ownsRow base e size v n xs)
 (u : Value) (m : Nat) (news : List Value) (hx : a.eval x = u) (hsrc : Src w size u m news) (N : Nat) (hN : n + m = N) (L : List Value) (hL : xs ++ news = L) (h63 : N ≤ maxLen) (hbytes : N * bytes ≤ 140737488355328) (hbase : base ≤ w.heap.size)
 (h : ∀ a' cap' w', Appd w w' base e size v (.slice a' N cap') N L → wpList P ops Q rest (a.put o.dst (.slice a' N cap')) w') : wpList P ops Q (o :: rest) a w :=
 wpList_plain hgd fun _ hK => wp_append s x t ho base e size bytes ht hi hz hsize hby hzs hsz v n xs hs hown u m news hx hsrc N hN L hL h63 hbytes hbase fun a' cap' w' h2 => hK _ _ (h a' cap' w' h2)
theorem step_append {ops : Array Oper} {o : Oper} {a : Act} {K : Act → World → Prop} {Q : Exit → Act → World → Prop} {E : Prop} (hgd : o.guard = none) (s x : Operand) (t : TypeId) (ho : o.op = .call { callee := .builtin .append, args := #[s, x], argTypes := #[t, t] })
 (base e size bytes : Nat) {z : Value} {i : TypeInfo} (ht : P.underlying t = some (.slice e)) (hi : P.info? e = some i) (hz : i.zero = some z)
 (hsize : i.size = size) (hby : i.bytes = bytes) (hzs : z.cells.size = size) (hsz : 0 < size) (v : Value) (n : Nat) (xs : List Value) (hs : a.eval s = v) (hown : w.ownsRow base e size v n xs)
 (u : Value) (m : Nat) (news : List Value) (hx : a.eval x = u) (hsrc : Src w size u m news) (N : Nat) (hN : n + m = N) (L : List Value) (hL : xs ++ news = L) (h63 : N ≤ maxLen) (hbytes : N * bytes ≤ 140737488355328) (hbase : base ≤ w.heap.size)
 (h : ∀ a' cap' w', Appd w w' base e size v (.slice a' N cap') N L → K (a.put o.dst (.slice a' N cap')) w') : if Region.wanted o (yielded ops a.tmps) = true then Oper.wp P o a w K Q else E := by
 rw [if_pos (by simp [Region.wanted, hgd])]
 exact wp_append s x t ho base e size bytes ht hi hz hsize hby hzs hsz v n xs hs hown u m news hx hsrc N hN L hL h63 hbytes hbase h
theorem wp_appendS {o : Oper} {a : Act} {K : Act → World → Prop} {Q : Exit → Act → World → Prop} (s x : Operand) (t u : TypeId) (ho : o.op = .call { callee := .builtin .append, args := #[s, x], argTypes := #[t, u] })
 (base e : Nat) {i : TypeInfo} (ht : P.underlying t = some (.slice e)) (hu : P.underlying u = some .string) (hi : P.info? e = some i) (hz : i.zero = some (.int .u8 0)) (hsize : i.size = 1) (hby : i.bytes = 1)
 (v : Value) (n : Nat) (xs : List Value) (hs : a.eval s = v) (hown : w.ownsRow base e 1 v n xs) (q : ByteArray) (hx : a.eval x = .string q) (N : Nat) (hN : n + q.size = N) (L : List Value) (hL : xs ++ Lib.strCells q = L)
 (h63 : N ≤ maxLen) (hbytes : N ≤ 140737488355328) (hbase : base ≤ w.heap.size)
 (h : ∀ a' cap' w', Appd w w' base e 1 v (.slice a' N cap') N L → K (a.put o.dst (.slice a' N cap')) w') : o.wp P a w K Q := by
 subst hN
 subst hL
 obtain ⟨v', w', hrun, h2⟩ := run_append_str (P := P) (w := w) (ty := o.type) ht hu hi hz hsize hby hown q h63 hbytes hbase
 obtain ⟨a', cap', rfl⟩ := owns_shape h2.own
 unfold Oper.wp execOp
 simp only [ho, resolve, invoke, builtin, Sem.run_bind, Sem.run_pure, Result.andThen_ok, List.map_toArray, List.map_cons, List.map_nil, hs, hx, hrun]
 exact h a' cap' w' h2
theorem wpList_appendS {ops : Array Oper} {rest : List Oper} {o : Oper} {a : Act} {Q : Exit → Act → World → Prop} (hgd : o.guard = none) (s x : Operand) (t u : TypeId) (ho : o.op = .call { callee := .builtin .append, args := #[s, x], argTypes := #[t, u] })
 (base e : Nat) {i : TypeInfo} (ht : P.underlying t = some (.slice e)) (hu : P.underlying u = some .string) (hi : P.info? e = some i) (hz : i.zero = some (.int .u8 0)) (hsize : i.size = 1) (hby : i.bytes = 1)
 (v : Value) (n : Nat) (xs : List Value) (hs : a.eval s = v) (hown : w.ownsRow base e 1 v n xs) (q : ByteArray) (hx : a.eval x = .string q) (N : Nat) (hN : n + q.size = N) (L : List Value) (hL : xs ++ Lib.strCells q = L)
 (h63 : N ≤ maxLen) (hbytes : N ≤ 140737488355328) (hbase : base ≤ w.heap.size)
 (h : ∀ a' cap' w', Appd w w' base e 1 v (.slice a' N cap') N L → wpList P ops Q rest (a.put o.dst (.slice a' N cap')) w') : wpList P ops Q (o :: rest) a w :=
 wpList_plain hgd fun _ hK => wp_appendS s x t u ho base e ht hu hi hz hsize hby v n xs hs hown q hx N hN L hL h63 hbytes hbase fun a' cap' w' h2 => hK _ _ (h a' cap' w' h2)
end
theorem tick_cells {w : World} {a : Option Addr} {n cap : Nat} {c : List Tk} (h : SlRd w 2 tickRd (.slice a n cap) c) (k : Nat) (hk : k < c.length) :
 ∃ b o, a = some ⟨b, o, none⟩ ∧ w.cell? ⟨b, o + k * 2, none⟩ = some (.int .i64 c[k].process) ∧ w.cell? ⟨b, o + k * 2 + 1, none⟩ = some (.int .i64 c[k].n) ∧ I64 c[k].process ∧ I64 c[k].n := by
 obtain ⟨b, o, cs, ha, _, hcs, rfl, h1, h2⟩ := h.at k hk
 exact ⟨b, o, ha, hcs 0 (by simp), hcs 1 (by simp), h1, h2⟩
def lastOf (c : List Tk) : Nat → Int
 | 0 => -1
 | k + 1 => match c[k]? with
   | some t => t.process
   | none => -1
theorem lastOf_succ (c : List Tk) (k : Nat) (h : k < c.length) : lastOf c (k + 1) = c[k].process := by
 show (match c[k]? with
  | some t => t.process
  | none => -1) = _
 rw [List.getElem?_eq_getElem h]
theorem clockValid_any (v : Value) (c : List Tk) (w : World) (hv : SlRd w 2 tickRd v c) :
 Calls Tryz.prog 117 #[v] w fun e w' => e = .returned (.bool (clockB c)) ∧ Below w.heap.size w w' := by
 obtain ⟨a, cap, rfl, _, hmax⟩ := hv.shape
 have HV := hid hv
 clear hv
 go_enter Tryz.func117, Tryz.ntmps117
 go_wp2_with fail
 go_loopw [3, 5, 8] (fun l _ i wr => ∃ (k : Nat), k ≤ c.length ∧ i = .int .i64 k ∧ l = .int .i64 (lastOf c k) ∧ Hid (clockB c = clockFrom (lastOf c k) (c.drop k)) ∧ Hid (Below w.heap.size w wr)) (fun _ _ i _ => c.length - (intOf i).toNat)
 case atStart => exact ⟨0, Nat.zero_le _, rfl, rfl, hid (by rw [List.drop_zero]; rfl), hid (Below.refl _ _)⟩
 case round =>
  obtain ⟨k, hk, rfl, rfl, He, HW⟩ := hrel
  by_cases hlt : k < c.length
  · obtain ⟨b, o, rfl, h0, h1, hi0, hi1⟩ := tick_cells HV.out k hlt
    have c0 : wr.cell? ⟨b, o + k * 2, none⟩ = some (.int .i64 c[k].process) := (HW.out.cell (World.block_lt_of_cell? w _ h0)).trans h0
    have c1 : wr.cell? ⟨b, o + k * 2 + 1, none⟩ = some (.int .i64 c[k].n) := (HW.out.cell (World.block_lt_of_cell? w _ h1)).trans h1
    have HL := hid (lastOf_succ c k hlt)
    have HD : Hid (clockB c = (tickB (lastOf c k) c[k] && clockFrom c[k].process (c.drop (k + 1)))) := hid (by rw [He.out, drop_consS c k hlt, clockFrom])
    have HA : Hid (∀ O, Below w.heap.size w (wr.alloc O)) := hid fun O => HW.out.alloc HW.out.size O
    clear h0 h1
    generalize lastOf c k = l at HD ⊢
    have HT : Hid (tickB l c[k] = decide (l < c[k].process ∧ c[k].process ≤ 63 ∧ 1 ≤ c[k].n ∧ c[k].n ≤ 1000000000000000)) := hid rfl
    generalize hp : c[k].process = p at *
    generalize hn : c[k].n = n at *
    clear hp hn
    by_cases ht : l < p ∧ p ≤ 63 ∧ 1 ≤ n ∧ n ≤ 1000000000000000
    · have HE : Hid (clockB c = clockFrom p (c.drop (k + 1))) := hid (by rw [HD.out, HT.out, decide_eq_true ht, Bool.true_and])
      obtain ⟨t1, t2, t3, t4⟩ := ht
      go_wp2_with fail
      go_roundw
      case rel => exact ⟨k + 1, by omega, by go_num, by rw [HL.out], hid (by rw [HL.out]; exact HE.out), hid (HA.out _)⟩
      case measure => simp [intOf]; omega
    · have HE : Hid (clockB c = false) := hid (by rw [HD.out, HT.out, decide_eq_false ht, Bool.false_and])
      have hx : p ≤ l ∨ (l < p ∧ 63 < p) ∨ (l < p ∧ p ≤ 63 ∧ n < 1) ∨ (l < p ∧ p ≤ 63 ∧ 1 ≤ n ∧ 1000000000000000 < n) := by omega
      clear ht
      rcases hx with h | ⟨h, h2⟩ | ⟨h, h2, h3⟩ | ⟨h, h2, h3, h4⟩
      all_goals
       go_wp2_with fail
       all_goals
        go_ret
        exact ⟨ret_bool HE.out.symm, HA.out _⟩
  · have HF : Hid (clockB c = true) := hid (by rw [He.out, List.drop_eq_nil_of_le (by omega)]; rfl)
    go_wp2_with fail
    go_ret
    exact ⟨ret_bool HF.out.symm, HW.out⟩
def lenOf : Value → Nat | .slice _ n _ => n | _ => 0
theorem SlRd.cons2 {w : World} {v : Value} {x : Tk} {t : List Tk} (h : SlRd w 2 tickRd v (x :: t)) :
 ∃ b o cap, v = .slice (some ⟨b, o, none⟩) (t.length + 1) cap ∧ (t.length + 1 ≤ cap ∧ cap ≤ 9223372036854775807 ∧ I64 x.process ∧ I64 x.n) ∧ w.cell? ⟨b, o, none⟩ = some (.int .i64 x.process) ∧ w.cell? ⟨b, o + 1, none⟩ = some (.int .i64 x.n) ∧
   SlRd w 2 tickRd (.slice (cutA b o cap 1 2) t.length (cap - 1)) t ∧ SlRd w 2 tickRd (.slice (some ⟨b, o, none⟩) (t.length + 1) cap) (x :: t) := by
 obtain ⟨a, cap, hv, hn, hm, hc⟩ := h
 obtain ⟨b, o, ha, h0, h1, hi0, hi1⟩ := tick_cells (c := x :: t) ⟨a, cap, rfl, hn, hm, hc⟩ 0 (by simp)
 subst ha
 refine ⟨b, o, cap, hv, ⟨hn.2, by unfold maxLen at hm; omega, hi0, hi1⟩, by simpa using h0, by simpa using h1, ?_, ⟨_, cap, rfl, hn, hm, hc⟩⟩
 exact SlRd.cut (l := x :: t) (n := t.length + 1) ⟨_, cap, rfl, hn, hm, hc⟩ 1 (by simp)
theorem size_tick : ∀ w, (Go.sizeOf 99).run Tryz.prog w = .ok 2 w := fun _ => by kernel_rfl
theorem run_tail_tick (b o n cap : Nat) (W : World) : (Instr.slice 41 (.slice (some ⟨b, o, none⟩) (n + 1) cap) (some (.int .i64 1)) none none).run Tryz.prog W = .ok (.slice (cutA b o cap 1 2) n (cap - 1)) W :=
 run_slice_from W 41 99 Tryz.underlying41 2 size_tick b o (n + 1) cap 1 (by omega)
theorem clockFrom_len : ∀ (c : List Tk) (l : Int), -1 ≤ l → clockFrom l c = true → c.length ≤ (63 - l).toNat
 | [], l, _, _ => Nat.zero_le _
 | t :: r, l, hl, h => by
   rw [clockFrom, Bool.and_eq_true] at h
   have h1 : l < t.process ∧ t.process ≤ 63 ∧ 1 ≤ t.n ∧ t.n ≤ 1000000000000000 := of_decide_eq_true h.1
   have := clockFrom_len r t.process (by omega) h.2
   simp only [List.length_cons]
   omega
theorem clockB_len {c : List Tk} (h : clockB c = true) : c.length ≤ 64 := clockFrom_len c (-1) (by omega) h
theorem SlRd.nil0 {α : Type} {w : World} {sz : Nat} {R : α → List Value → Prop} {v : Value} (h : SlRd w sz R v []) : ∃ ad cap, v = .slice ad 0 cap := by
 obtain ⟨a, cap, hv, _⟩ := h
 exact ⟨a, cap, hv⟩
theorem infoTick : (Tryz.prog.info? 99).map (fun i => (i.zero, i.size, i.bytes)) = some (some (.agg #[.int .i64 0, .int .i64 0]), 2, 16) := by kernel_rfl
def tickL (t : Tk) : List Value := [.int .i64 t.process, .int .i64 t.n]
theorem i64_0 : I64 0 := ⟨by decide, by decide⟩
def I64t (t : Tk) : Prop := I64 t.process ∧ I64 t.n
def TksPost (w : World) (c : List Tk) (e : Ending) (w' : World) : Prop := ∃ r, e = .returned r ∧ SlRd w' 2 tickRd r c ∧ Below w.heap.size w w'
theorem walk_nn (ch : Int → Int → Int) : walkT ch [] [] = [] := by rw [walkT]
theorem walk_cn (ch : Int → Int → Int) (x : Tk) (a : List Tk) : walkT ch (x :: a) [] = emitT x.process (ch x.n 0) (walkT ch a []) := by rw [walkT]
theorem walk_nc (ch : Int → Int → Int) (y : Tk) (b : List Tk) : walkT ch [] (y :: b) = emitT y.process (ch 0 y.n) (walkT ch [] b) := by rw [walkT]
theorem walk_lt (ch : Int → Int → Int) (x y : Tk) (a b : List Tk) (h : x.process < y.process) : walkT ch (x :: a) (y :: b) = emitT x.process (ch x.n 0) (walkT ch a (y :: b)) := by rw [walkT, if_pos h]
theorem walk_gt (ch : Int → Int → Int) (x y : Tk) (a b : List Tk) (h : y.process < x.process) : walkT ch (x :: a) (y :: b) = emitT y.process (ch 0 y.n) (walkT ch (x :: a) b) := by rw [walkT, if_neg (by omega), if_pos h]
theorem walk_eq (ch : Int → Int → Int) (x y : Tk) (a b : List Tk) (h : y.process = x.process) : walkT ch (x :: a) (y :: b) = emitT x.process (ch x.n y.n) (walkT ch a b) := by rw [walkT, if_neg (by omega), if_neg (by omega)]
theorem walk_minus (ch : Int → Int → Int) (HF : ∀ m n W, Calls Tryz.prog 171 #[.int .i64 m, .int .i64 n] W fun e w' => e = .returned (.int .i64 (ch m n)) ∧ w' = W) (hch : ∀ m n, I64 m → I64 n → I64 (ch m n))
    (v u : Value) (a b : List Tk) (w : World) (hv : SlRd w 2 tickRd v a) (hu : SlRd w 2 tickRd u b) (ha : clockB a = true) (hb : clockB b = true) :
    Calls Tryz.prog 170 #[v, u, .func (.func 171) #[] #[]] w (TksPost w (walkT ch a b)) := by
  have H2 := hid HF
  obtain ⟨i0, hi0, hz0, hz1, hz2⟩ := info_parts infoTick
  have HCH := hid hch
  have H1a := hid (fun W (h : Below w.heap.size w W) => clockValid_any v a W (SlRd.below hv h fun _ _ _ h => h))
  have H1b := hid (fun W (h : Below w.heap.size w W) => clockValid_any u b W (SlRd.below hu h fun _ _ _ h => h))
  have HV := hid hv
  have HU := hid hu
  have HLA := hid (clockB_len ha)
  have HLB := hid (clockB_len hb)
  have HA := hid ha
  have HBB := hid hb
  clear HF hch hv hu ha hb
  have HR0 : Hid (walkT ch a b = walkT ch a b) := hid rfl
  generalize hR : walkT ch a b = R at HR0 ⊢
  have HR : Hid (R = walkT ch a b) := hid hR.symm
  clear HR0 hR
  go_enter Tryz.func170, Tryz.ntmps170
  go_wp2_with fail
  refine (H1a.out _ (Below.refl _ _)).mono ?_
  rintro e w1 ⟨rfl, hb1⟩
  rw [HA.out]
  have HB1 := hid hb1
  clear hb1
  go_wp2_with fail
  refine (H1b.out _ HB1.out).mono ?_
  rintro e w2 ⟨rfl, hb2⟩
  rw [HBB.out]
  have HB2 : Hid (Below w.heap.size w w2) := hid (HB1.out.trans (hb2.mono HB1.out.size))
  clear hb2
  go_wp2_with fail
  go_loopw [0, 1, 7] (fun v0 v1 vo wr => ∃ (a' b' done : List Tk), Hid (SlRd w 2 tickRd v0 a') ∧ Hid (SlRd w 2 tickRd v1 b') ∧ Hid (Below w.heap.size w wr) ∧ wr.ownsRow w.heap.size 99 2 vo done.length (done.flatMap tickL) ∧
      Hid (∀ t ∈ done, I64t t) ∧ Hid (R = done ++ walkT ch a' b') ∧ done.length + a'.length + b'.length ≤ 128) (fun v0 v1 _ _ => lenOf v0 + lenOf v1)
  case atStart =>
   exact ⟨a, b, [], HV, HU, HB2, World.ownsRow_nil _ _ _ _, hid (by simp), HR, by have := HLA.out; have := HLB.out; simp; omega⟩
  case round =>
   obtain ⟨a', b', done, HV0, HV1, HW, hown, HD, HE, hlen⟩ := hrel
   obtain ⟨ao, co, rfl⟩ := owns_shape hown
   have Hown := hid hown
   clear hown
   rcases a' with _ | ⟨⟨xp, xn⟩, a'⟩
   · obtain ⟨a0, c0, rfl⟩ := HV0.out.nil0
     rcases b' with _ | ⟨⟨yp, yn⟩, b'⟩
     · obtain ⟨a1, c1, rfl⟩ := HV1.out.nil0
       go_wp2_with fail
       go_ret
       have h1 := HE.out
       rw [walk_nn, List.append_nil] at h1
       exact ⟨_, rfl, by rw [h1]; exact SlRd.of_owns tickL (fun _ => rfl) (fun t ht => ⟨rfl, (HD.out t ht).1, (HD.out t ht).2⟩) Hown.out, HW.out⟩
     · obtain ⟨bb, o, cap, rfl, ⟨hc1, hc2, hi1, hi2⟩, q0, q1, hs, hs'⟩ := HV1.out.cons2
       replace q0 := (HW.out.cell (World.block_lt_of_cell? w _ q0)).trans q0
       replace q1 := (HW.out.cell (World.block_lt_of_cell? w _ q1)).trans q1
       have HSF := hid hs'
       clear hs'
       have hsl1 := run_tail_tick bb o b'.length cap
       have HS := hid hs
       clear hs
       have e1 : (((b'.length : Int) + 1) == 0) = false := by simp; omega
       have HI1 := hid hi1
       have HI2 := hid hi2
       clear hi1 hi2
       have HE1 : Hid (R = done ++ emitT yp (ch 0 yn) (walkT ch [] b')) := hid (by rw [HE.out, walk_nc _ _ _ ])
       have HIT : Hid (I64t ⟨yp, ch 0 yn⟩) := hid ⟨HI1.out, HCH.out _ _ i64_0 HI2.out⟩
       have HLEN : Hid (done.length + ([] : List Tk).length + b'.length + 1 ≤ 128) := hid (by simp only [List.length_cons, List.length_nil] at hlen ⊢ <;> omega)
       clear hlen
       go_wp2_with fail
       go_quiet (fail)
       go_wp2_with fail
       go_quiet (fail)
       go_wp2_with fail
       go_quiet (fail)
       go_wp2_with fail
       clear hsl1
       refine (H2.out _ _ _).mono ?_
       rintro e w9 ⟨rfl, rfl⟩
       generalize hk : ch 0 yn = k at HE1 HIT ⊢
       clear hk
       by_cases hpos : 0 < k
       · have HE2 : Hid (R = (done ++ [⟨yp, k⟩]) ++ walkT ch [] b') := hid (by rw [HE1.out]; unfold emitT; rw [if_pos hpos, List.append_assoc]; rfl)
         have HX : Hid (done.flatMap tickL ++ [.int .i64 yp, .int .i64 k] = (done ++ ([⟨yp, k⟩] : List Tk)).flatMap tickL) := hid (by rw [List.flatMap_append]; rfl)
         go_wp2_with (at_builtin; refine wpList_append rfl (.tmp 105) (.tmp 109) 41 rfl w.heap.size 99 2 16 Tryz.underlying41 hi0 hz0 hz1 hz2 rfl (by decide) _ done.length _ rfl (Hown.out.alloc _) _ 1 [.int .i64 yp, .int .i64 k] rfl (Src.of_block (cs := #[.int .i64 yp, .int .i64 k]) (heap_alloc_new _ _) 2 1 1 rfl (by simp [Value.oneCell'])) _ rfl _ HX.out (by have := HLEN.out; unfold maxLen; omega) (by have := HLEN.out; omega) (by have := HW.out.size; simp; omega) ?_; intro na nc w10 had)
         have HAD := hid had
         have HW10 : Hid (Below w.heap.size w w10) := hid (((below_drewN' HW.out _).alloc (by have := HW.out.size; simpa using this) _).grown had.grown (by have := HW.out.size; simp; omega) (fun g hg => (Hown.out.lt g hg).1))
         clear had
         go_roundw
         case rel => exact ⟨[], b', done ++ [⟨yp, k⟩], hid (HV0.out), hid (HS.out), HW10, by simpa using HAD.out.own, hid (by intro t ht; rcases List.mem_append.1 ht with h | h; exact HD.out t h; rw [List.mem_singleton.1 h]; exact HIT.out), HE2, by have := HLEN.out; simp only [List.length_append, List.length_cons, List.length_nil] at this ⊢ <;> omega⟩
         case measure => simp [lenOf] <;> omega
       · have HE2 : Hid (R = done ++ walkT ch [] b') := hid (by rw [HE1.out]; unfold emitT; rw [if_neg hpos])
         go_wp2_with fail
         go_roundw
         case rel => exact ⟨[], b', done, hid (HV0.out), hid (HS.out), hid (below_drewN' HW.out _), Hown.out, HD, HE2, by have := HLEN.out; omega⟩
         case measure => simp [lenOf] <;> omega
   · rcases b' with _ | ⟨⟨yp, yn⟩, b'⟩
     · obtain ⟨a1, c1, rfl⟩ := HV1.out.nil0
       obtain ⟨ab, ao1, acap, rfl, ⟨hd1, hd2, hj1, hj2⟩, p0, p1, hsa, hsa'⟩ := HV0.out.cons2
       replace p0 := (HW.out.cell (World.block_lt_of_cell? w _ p0)).trans p0
       replace p1 := (HW.out.cell (World.block_lt_of_cell? w _ p1)).trans p1
       have HSAF := hid hsa'
       clear hsa'
       have hsl2 := run_tail_tick ab ao1 a'.length acap
       have HSA := hid hsa
       clear hsa
       have e2 : (((a'.length : Int) + 1) == 0) = false := by simp; omega
       have e3 : decide ((0 : Int) < (a'.length : Int) + 1) = true := decide_eq_true (by omega)
       have HJ1 := hid hj1
       have HJ2 := hid hj2
       clear hj1 hj2
       have HE1 : Hid (R = done ++ emitT xp (ch xn 0) (walkT ch a' [])) := hid (by rw [HE.out, walk_cn _ _ _ ])
       have HIT : Hid (I64t ⟨xp, ch xn 0⟩) := hid ⟨HJ1.out, HCH.out _ _ HJ2.out i64_0⟩
       have HLEN : Hid (done.length + a'.length + ([] : List Tk).length + 1 ≤ 128) := hid (by simp only [List.length_cons, List.length_nil] at hlen ⊢ <;> omega)
       clear hlen
       go_wp2_with fail
       go_quiet (fail)
       go_wp2_with fail
       go_quiet (fail)
       go_wp2_with fail
       clear hsl2
       refine (H2.out _ _ _).mono ?_
       rintro e w9 ⟨rfl, rfl⟩
       generalize hk : ch xn 0 = k at HE1 HIT ⊢
       clear hk
       by_cases hpos : 0 < k
       · have HE2 : Hid (R = (done ++ [⟨xp, k⟩]) ++ walkT ch a' []) := hid (by rw [HE1.out]; unfold emitT; rw [if_pos hpos, List.append_assoc]; rfl)
         have HX : Hid (done.flatMap tickL ++ [.int .i64 xp, .int .i64 k] = (done ++ ([⟨xp, k⟩] : List Tk)).flatMap tickL) := hid (by rw [List.flatMap_append]; rfl)
         go_wp2_with (at_builtin; refine wpList_append rfl (.tmp 105) (.tmp 109) 41 rfl w.heap.size 99 2 16 Tryz.underlying41 hi0 hz0 hz1 hz2 rfl (by decide) _ done.length _ rfl (Hown.out.alloc _) _ 1 [.int .i64 xp, .int .i64 k] rfl (Src.of_block (cs := #[.int .i64 xp, .int .i64 k]) (heap_alloc_new _ _) 2 1 1 rfl (by simp [Value.oneCell'])) _ rfl _ HX.out (by have := HLEN.out; unfold maxLen; omega) (by have := HLEN.out; omega) (by have := HW.out.size; simp; omega) ?_; intro na nc w10 had)
         have HAD := hid had
         have HW10 : Hid (Below w.heap.size w w10) := hid (((below_drewN' HW.out _).alloc (by have := HW.out.size; simpa using this) _).grown had.grown (by have := HW.out.size; simp; omega) (fun g hg => (Hown.out.lt g hg).1))
         clear had
         go_roundw
         case rel => exact ⟨a', [], done ++ [⟨xp, k⟩], hid (HSA.out), hid (HV1.out), HW10, by simpa using HAD.out.own, hid (by intro t ht; rcases List.mem_append.1 ht with h | h; exact HD.out t h; rw [List.mem_singleton.1 h]; exact HIT.out), HE2, by have := HLEN.out; simp only [List.length_append, List.length_cons, List.length_nil] at this ⊢ <;> omega⟩
         case measure => simp [lenOf] <;> omega
       · have HE2 : Hid (R = done ++ walkT ch a' []) := hid (by rw [HE1.out]; unfold emitT; rw [if_neg hpos])
         go_wp2_with fail
         go_roundw
         case rel => exact ⟨a', [], done, hid (HSA.out), hid (HV1.out), hid (below_drewN' HW.out _), Hown.out, HD, HE2, by have := HLEN.out; omega⟩
         case measure => simp [lenOf] <;> omega
     · by_cases hlt : xp < yp
       · obtain ⟨bb, o, cap, rfl, ⟨hc1, hc2, hi1, hi2⟩, q0, q1, hs, hs'⟩ := HV1.out.cons2
         replace q0 := (HW.out.cell (World.block_lt_of_cell? w _ q0)).trans q0
         replace q1 := (HW.out.cell (World.block_lt_of_cell? w _ q1)).trans q1
         have HSF := hid hs'
         clear hs'
         have hsl1 := run_tail_tick bb o b'.length cap
         have HS := hid hs
         clear hs
         have e1 : (((b'.length : Int) + 1) == 0) = false := by simp; omega
         have HI1 := hid hi1
         have HI2 := hid hi2
         clear hi1 hi2
         obtain ⟨ab, ao1, acap, rfl, ⟨hd1, hd2, hj1, hj2⟩, p0, p1, hsa, hsa'⟩ := HV0.out.cons2
         replace p0 := (HW.out.cell (World.block_lt_of_cell? w _ p0)).trans p0
         replace p1 := (HW.out.cell (World.block_lt_of_cell? w _ p1)).trans p1
         have HSAF := hid hsa'
         clear hsa'
         have hsl2 := run_tail_tick ab ao1 a'.length acap
         have HSA := hid hsa
         clear hsa
         have e2 : (((a'.length : Int) + 1) == 0) = false := by simp; omega
         have e3 : decide ((0 : Int) < (a'.length : Int) + 1) = true := decide_eq_true (by omega)
         have HJ1 := hid hj1
         have HJ2 := hid hj2
         clear hj1 hj2
         have e4 : decide (xp < yp) = true := decide_eq_true hlt
         have HE1 : Hid (R = done ++ emitT xp (ch xn 0) (walkT ch a' (⟨yp, yn⟩ :: b'))) := hid (by rw [HE.out, walk_lt _ _ _ _ _ hlt])
         have HIT : Hid (I64t ⟨xp, ch xn 0⟩) := hid ⟨HJ1.out, HCH.out _ _ HJ2.out i64_0⟩
         have HLEN : Hid (done.length + a'.length + (⟨yp, yn⟩ :: b').length + 1 ≤ 128) := hid (by simp only [List.length_cons, List.length_nil] at hlen ⊢ <;> omega)
         clear hlen
         go_wp2_with fail
         go_quiet (fail)
         go_wp2_with fail
         go_quiet (fail)
         go_wp2_with fail
         clear hsl1 hsl2
         refine (H2.out _ _ _).mono ?_
         rintro e w9 ⟨rfl, rfl⟩
         generalize hk : ch xn 0 = k at HE1 HIT ⊢
         clear hk
         by_cases hpos : 0 < k
         · have HE2 : Hid (R = (done ++ [⟨xp, k⟩]) ++ walkT ch a' (⟨yp, yn⟩ :: b')) := hid (by rw [HE1.out]; unfold emitT; rw [if_pos hpos, List.append_assoc]; rfl)
           have HX : Hid (done.flatMap tickL ++ [.int .i64 xp, .int .i64 k] = (done ++ ([⟨xp, k⟩] : List Tk)).flatMap tickL) := hid (by rw [List.flatMap_append]; rfl)
           go_wp2_with (at_builtin; refine wpList_append rfl (.tmp 105) (.tmp 109) 41 rfl w.heap.size 99 2 16 Tryz.underlying41 hi0 hz0 hz1 hz2 rfl (by decide) _ done.length _ rfl (Hown.out.alloc _) _ 1 [.int .i64 xp, .int .i64 k] rfl (Src.of_block (cs := #[.int .i64 xp, .int .i64 k]) (heap_alloc_new _ _) 2 1 1 rfl (by simp [Value.oneCell'])) _ rfl _ HX.out (by have := HLEN.out; unfold maxLen; omega) (by have := HLEN.out; omega) (by have := HW.out.size; simp; omega) ?_; intro na nc w10 had)
           have HAD := hid had
           have HW10 : Hid (Below w.heap.size w w10) := hid (((below_drewN' HW.out _).alloc (by have := HW.out.size; simpa using this) _).grown had.grown (by have := HW.out.size; simp; omega) (fun g hg => (Hown.out.lt g hg).1))
           clear had
           go_roundw
           case rel => exact ⟨a', (⟨yp, yn⟩ :: b'), done ++ [⟨xp, k⟩], hid (HSA.out), hid (HSF.out), HW10, by simpa using HAD.out.own, hid (by intro t ht; rcases List.mem_append.1 ht with h | h; exact HD.out t h; rw [List.mem_singleton.1 h]; exact HIT.out), HE2, by have := HLEN.out; simp only [List.length_append, List.length_cons, List.length_nil] at this ⊢ <;> omega⟩
           case measure => simp [lenOf] <;> omega
         · have HE2 : Hid (R = done ++ walkT ch a' (⟨yp, yn⟩ :: b')) := hid (by rw [HE1.out]; unfold emitT; rw [if_neg hpos])
           go_wp2_with fail
           go_roundw
           case rel => exact ⟨a', (⟨yp, yn⟩ :: b'), done, hid (HSA.out), hid (HSF.out), hid (below_drewN' HW.out _), Hown.out, HD, HE2, by have := HLEN.out; omega⟩
           case measure => simp [lenOf] <;> omega
       · by_cases hlt2 : yp < xp
         · replace hlt := hlt2
           clear hlt2
           obtain ⟨bb, o, cap, rfl, ⟨hc1, hc2, hi1, hi2⟩, q0, q1, hs, hs'⟩ := HV1.out.cons2
           replace q0 := (HW.out.cell (World.block_lt_of_cell? w _ q0)).trans q0
           replace q1 := (HW.out.cell (World.block_lt_of_cell? w _ q1)).trans q1
           have HSF := hid hs'
           clear hs'
           have hsl1 := run_tail_tick bb o b'.length cap
           have HS := hid hs
           clear hs
           have e1 : (((b'.length : Int) + 1) == 0) = false := by simp; omega
           have HI1 := hid hi1
           have HI2 := hid hi2
           clear hi1 hi2
           obtain ⟨ab, ao1, acap, rfl, ⟨hd1, hd2, hj1, hj2⟩, p0, p1, hsa, hsa'⟩ := HV0.out.cons2
           replace p0 := (HW.out.cell (World.block_lt_of_cell? w _ p0)).trans p0
           replace p1 := (HW.out.cell (World.block_lt_of_cell? w _ p1)).trans p1
           have HSAF := hid hsa'
           clear hsa'
           have hsl2 := run_tail_tick ab ao1 a'.length acap
           have HSA := hid hsa
           clear hsa
           have e2 : (((a'.length : Int) + 1) == 0) = false := by simp; omega
           have e3 : decide ((0 : Int) < (a'.length : Int) + 1) = true := decide_eq_true (by omega)
           have HJ1 := hid hj1
           have HJ2 := hid hj2
           clear hj1 hj2
           have e4 : decide (xp < yp) = false := decide_eq_false (by omega)
           have e5 : decide (yp < xp) = true := decide_eq_true hlt
           have HE1 : Hid (R = done ++ emitT yp (ch 0 yn) (walkT ch (⟨xp, xn⟩ :: a') b')) := hid (by rw [HE.out, walk_gt _ _ _ _ _ hlt])
           have HIT : Hid (I64t ⟨yp, ch 0 yn⟩) := hid ⟨HI1.out, HCH.out _ _ i64_0 HI2.out⟩
           have HLEN : Hid (done.length + (⟨xp, xn⟩ :: a').length + b'.length + 1 ≤ 128) := hid (by simp only [List.length_cons, List.length_nil] at hlen ⊢ <;> omega)
           clear hlen
           go_wp2_with fail
           go_quiet (fail)
           go_wp2_with fail
           go_quiet (fail)
           go_wp2_with fail
           go_quiet (fail)
           go_wp2_with fail
           clear hsl1 hsl2
           refine (H2.out _ _ _).mono ?_
           rintro e w9 ⟨rfl, rfl⟩
           generalize hk : ch 0 yn = k at HE1 HIT ⊢
           clear hk
           by_cases hpos : 0 < k
           · have HE2 : Hid (R = (done ++ [⟨yp, k⟩]) ++ walkT ch (⟨xp, xn⟩ :: a') b') := hid (by rw [HE1.out]; unfold emitT; rw [if_pos hpos, List.append_assoc]; rfl)
             have HX : Hid (done.flatMap tickL ++ [.int .i64 yp, .int .i64 k] = (done ++ ([⟨yp, k⟩] : List Tk)).flatMap tickL) := hid (by rw [List.flatMap_append]; rfl)
             go_wp2_with (at_builtin; refine wpList_append rfl (.tmp 105) (.tmp 109) 41 rfl w.heap.size 99 2 16 Tryz.underlying41 hi0 hz0 hz1 hz2 rfl (by decide) _ done.length _ rfl (Hown.out.alloc _) _ 1 [.int .i64 yp, .int .i64 k] rfl (Src.of_block (cs := #[.int .i64 yp, .int .i64 k]) (heap_alloc_new _ _) 2 1 1 rfl (by simp [Value.oneCell'])) _ rfl _ HX.out (by have := HLEN.out; unfold maxLen; omega) (by have := HLEN.out; omega) (by have := HW.out.size; simp; omega) ?_; intro na nc w10 had)
             have HAD := hid had
             have HW10 : Hid (Below w.heap.size w w10) := hid (((below_drewN' HW.out _).alloc (by have := HW.out.size; simpa using this) _).grown had.grown (by have := HW.out.size; simp; omega) (fun g hg => (Hown.out.lt g hg).1))
             clear had
             go_roundw
             case rel => exact ⟨(⟨xp, xn⟩ :: a'), b', done ++ [⟨yp, k⟩], hid (HSAF.out), hid (HS.out), HW10, by simpa using HAD.out.own, hid (by intro t ht; rcases List.mem_append.1 ht with h | h; exact HD.out t h; rw [List.mem_singleton.1 h]; exact HIT.out), HE2, by have := HLEN.out; simp only [List.length_append, List.length_cons, List.length_nil] at this ⊢ <;> omega⟩
             case measure => simp [lenOf] <;> omega
           · have HE2 : Hid (R = done ++ walkT ch (⟨xp, xn⟩ :: a') b') := hid (by rw [HE1.out]; unfold emitT; rw [if_neg hpos])
             go_wp2_with fail
             go_roundw
             case rel => exact ⟨(⟨xp, xn⟩ :: a'), b', done, hid (HSAF.out), hid (HS.out), hid (below_drewN' HW.out _), Hown.out, HD, HE2, by have := HLEN.out; omega⟩
             case measure => simp [lenOf] <;> omega
         · replace hlt : yp = xp := by omega
           clear hlt2
           obtain ⟨bb, o, cap, rfl, ⟨hc1, hc2, hi1, hi2⟩, q0, q1, hs, hs'⟩ := HV1.out.cons2
           replace q0 := (HW.out.cell (World.block_lt_of_cell? w _ q0)).trans q0
           replace q1 := (HW.out.cell (World.block_lt_of_cell? w _ q1)).trans q1
           have HSF := hid hs'
           clear hs'
           have hsl1 := run_tail_tick bb o b'.length cap
           have HS := hid hs
           clear hs
           have e1 : (((b'.length : Int) + 1) == 0) = false := by simp; omega
           have HI1 := hid hi1
           have HI2 := hid hi2
           clear hi1 hi2
           obtain ⟨ab, ao1, acap, rfl, ⟨hd1, hd2, hj1, hj2⟩, p0, p1, hsa, hsa'⟩ := HV0.out.cons2
           replace p0 := (HW.out.cell (World.block_lt_of_cell? w _ p0)).trans p0
           replace p1 := (HW.out.cell (World.block_lt_of_cell? w _ p1)).trans p1
           have HSAF := hid hsa'
           clear hsa'
           have hsl2 := run_tail_tick ab ao1 a'.length acap
           have HSA := hid hsa
           clear hsa
           have e2 : (((a'.length : Int) + 1) == 0) = false := by simp; omega
           have e3 : decide ((0 : Int) < (a'.length : Int) + 1) = true := decide_eq_true (by omega)
           have HJ1 := hid hj1
           have HJ2 := hid hj2
           clear hj1 hj2
           have e4 : decide (xp < yp) = false := decide_eq_false (by omega)
           have e5 : decide (yp < xp) = false := decide_eq_false (by omega)
           have HE1 : Hid (R = done ++ emitT xp (ch xn yn) (walkT ch a' b')) := hid (by rw [HE.out, walk_eq _ _ _ _ _ hlt])
           have HIT : Hid (I64t ⟨xp, ch xn yn⟩) := hid ⟨HJ1.out, HCH.out _ _ HJ2.out HI2.out⟩
           have HLEN : Hid (done.length + a'.length + b'.length + 1 ≤ 128) := hid (by simp only [List.length_cons, List.length_nil] at hlen ⊢ <;> omega)
           clear hlen
           go_wp2_with fail
           go_quiet (fail)
           go_wp2_with fail
           go_quiet (fail)
           go_wp2_with fail
           go_quiet (fail)
           go_wp2_with fail
           clear hsl1 hsl2
           refine (H2.out _ _ _).mono ?_
           rintro e w9 ⟨rfl, rfl⟩
           generalize hk : ch xn yn = k at HE1 HIT ⊢
           clear hk
           by_cases hpos : 0 < k
           · have HE2 : Hid (R = (done ++ [⟨xp, k⟩]) ++ walkT ch a' b') := hid (by rw [HE1.out]; unfold emitT; rw [if_pos hpos, List.append_assoc]; rfl)
             have HX : Hid (done.flatMap tickL ++ [.int .i64 xp, .int .i64 k] = (done ++ ([⟨xp, k⟩] : List Tk)).flatMap tickL) := hid (by rw [List.flatMap_append]; rfl)
             go_wp2_with (at_builtin; refine wpList_append rfl (.tmp 105) (.tmp 109) 41 rfl w.heap.size 99 2 16 Tryz.underlying41 hi0 hz0 hz1 hz2 rfl (by decide) _ done.length _ rfl (Hown.out.alloc _) _ 1 [.int .i64 xp, .int .i64 k] rfl (Src.of_block (cs := #[.int .i64 xp, .int .i64 k]) (heap_alloc_new _ _) 2 1 1 rfl (by simp [Value.oneCell'])) _ rfl _ HX.out (by have := HLEN.out; unfold maxLen; omega) (by have := HLEN.out; omega) (by have := HW.out.size; simp; omega) ?_; intro na nc w10 had)
             have HAD := hid had
             have HW10 : Hid (Below w.heap.size w w10) := hid (((below_drewN' HW.out _).alloc (by have := HW.out.size; simpa using this) _).grown had.grown (by have := HW.out.size; simp; omega) (fun g hg => (Hown.out.lt g hg).1))
             clear had
             go_roundw
             case rel => exact ⟨a', b', done ++ [⟨xp, k⟩], hid (HSA.out), hid (HS.out), HW10, by simpa using HAD.out.own, hid (by intro t ht; rcases List.mem_append.1 ht with h | h; exact HD.out t h; rw [List.mem_singleton.1 h]; exact HIT.out), HE2, by have := HLEN.out; simp only [List.length_append, List.length_cons, List.length_nil] at this ⊢ <;> omega⟩
             case measure => simp [lenOf] <;> omega
           · have HE2 : Hid (R = done ++ walkT ch a' b') := hid (by rw [HE1.out]; unfold emitT; rw [if_neg hpos])
             go_wp2_with fail
             go_roundw
             case rel => exact ⟨a', b', done, hid (HSA.out), hid (HS.out), hid (below_drewN' HW.out _), Hown.out, HD, HE2, by have := HLEN.out; omega⟩
             case measure => simp [lenOf] <;> omega
theorem minusCh_any (m n : Int) (w : World) : Calls Tryz.prog 171 #[.int .i64 m, .int .i64 n] w fun e w' => e = .returned (.int .i64 (minusCh m n)) ∧ w' = w := by
  by_cases h : n < m
  · have HC : Hid (minusCh m n = m) := hid (if_pos h)
    go_enter Tryz.func171, Tryz.ntmps171
    go_wp2
    go_ret
    exact ⟨ret_int HC.out.symm, rfl⟩
  · have HC : Hid (minusCh m n = 0) := hid (if_neg h)
    go_enter Tryz.func171, Tryz.ntmps171
    go_wp2
    go_ret
    exact ⟨ret_int HC.out.symm, rfl⟩
theorem minusCh_i64 (m n : Int) (hm : I64 m) (_ : I64 n) : I64 (minusCh m n) := by
 unfold minusCh
 split
 · exact hm
 · exact i64_0
theorem minus_any (v u : Value) (a b : List Tk) (w : World) (hv : SlRd w 2 tickRd v a) (hu : SlRd w 2 tickRd u b) (ha : clockB a = true) (hb : clockB b = true) :
 Calls Tryz.prog 153 #[v, u] w fun e w' => TksPost w (minusT a b) e w' := by
 have HC : Hid (∀ W, W = w → Calls Tryz.prog 170 #[v, u, .func (.func 171) #[] #[]] W (TksPost w (minusT a b))) := hid fun W hW => by
   subst hW
   exact walk_minus minusCh minusCh_any minusCh_i64 v u a b W hv hu ha hb
 generalize minusT a b = R at HC ⊢
 obtain ⟨aa, ca, rfl, _, _⟩ := hv.shape
 obtain ⟨ab, cb, rfl, _, _⟩ := hu.shape
 clear hv hu ha hb
 go_enter Tryz.func153, Tryz.ntmps153
 go_wp2_with fail
 refine (HC.out _ rfl).mono ?_
 rintro e w' ⟨r, rfl, h⟩
 go_wp2_with fail
 go_ret
 exact ⟨r, rfl, h⟩
theorem clockCmp_any (v u : Value) (a b : List Tk) (w : World) (hv : SlRd w 2 tickRd v a) (hu : SlRd w 2 tickRd u b) :
 Calls Tryz.prog 118 #[v, u] w fun e w' => e = .returned (.int .i64 (clockC a b)) ∧ Below w.heap.size w w' := by
 have H1a := hid (fun W (h : Below w.heap.size w W) => clockValid_any v a W (SlRd.below hv h fun _ _ _ h => h))
 have H1b := hid (fun W (h : Below w.heap.size w W) => clockValid_any u b W (SlRd.below hu h fun _ _ _ h => h))
 have H2a := hid (fun W (h : Below w.heap.size w W) => minus_any v u a b W (SlRd.below hv h fun _ _ _ h => h) (SlRd.below hu h fun _ _ _ h => h))
 have H2b := hid (fun W (h : Below w.heap.size w W) => minus_any u v b a W (SlRd.below hu h fun _ _ _ h => h) (SlRd.below hv h fun _ _ _ h => h))
 obtain ⟨aa, ca, rfl, _, _⟩ := hv.shape
 obtain ⟨ab, cb, rfl, _, _⟩ := hu.shape
 have HC : Hid (clockC a b = if !clockB a || !clockB b then 3 else if (minusT a b).length = 0 ∧ (minusT b a).length = 0 then 0 else if (minusT a b).length = 0 then 1 else if (minusT b a).length = 0 then 2 else 3) := hid rfl
 generalize clockC a b = C at HC ⊢
 generalize minusT a b = m1 at HC H2a
 generalize minusT b a = m2 at HC H2b
 clear hv hu
 cases ha : clockB a
 · have HC2 : Hid (C = 3) := hid (by rw [HC.out, ha]; rfl)
   have HA := hid ha
   clear ha
   go_enter Tryz.func118, Tryz.ntmps118
   go_wp2_with fail
   refine (H1a.out _ (Below.refl _ _)).mono ?_
   rintro e w1 ⟨rfl, hb1⟩
   rw [HA.out]
   have HB1 := hid hb1
   clear hb1
   go_wp2_with fail
   go_ret
   exact ⟨ret_int HC2.out.symm, HB1.out⟩
 · cases hb : clockB b
   · have HC2 : Hid (C = 3) := hid (by rw [HC.out, ha, hb]; rfl)
     have HA := hid ha
     have HBB := hid hb
     clear ha hb
     go_enter Tryz.func118, Tryz.ntmps118
     go_wp2_with fail
     refine (H1a.out _ (Below.refl _ _)).mono ?_
     rintro e w1 ⟨rfl, hb1⟩
     rw [HA.out]
     have HB1 := hid hb1
     clear hb1
     go_wp2_with fail
     refine (H1b.out _ HB1.out).mono ?_
     rintro e w2 ⟨rfl, hb2⟩
     rw [HBB.out]
     have HB2 : Hid (Below w.heap.size w w2) := hid (HB1.out.trans (hb2.mono HB1.out.size))
     clear hb2
     go_wp2_with fail
     go_ret
     exact ⟨ret_int HC2.out.symm, HB2.out⟩
   · have HC2 : Hid (C = if m1.length = 0 ∧ m2.length = 0 then 0 else if m1.length = 0 then 1 else if m2.length = 0 then 2 else 3) := hid (by rw [HC.out, ha, hb]; rfl)
     have HA := hid ha
     have HBB := hid hb
     clear ha hb
     go_enter Tryz.func118, Tryz.ntmps118
     go_wp2_with fail
     refine (H1a.out _ (Below.refl _ _)).mono ?_
     rintro e w1 ⟨rfl, hb1⟩
     rw [HA.out]
     have HB1 := hid hb1
     clear hb1
     go_wp2_with fail
     refine (H1b.out _ HB1.out).mono ?_
     rintro e w2 ⟨rfl, hb2⟩
     rw [HBB.out]
     have HB2 : Hid (Below w.heap.size w w2) := hid (HB1.out.trans (hb2.mono HB1.out.size))
     clear hb2
     go_wp2_with fail
     refine (H2a.out _ HB2.out HA.out HBB.out).mono ?_
     rintro e w3 ⟨r1, rfl, hr1, hb3⟩
     have HB3 : Hid (Below w.heap.size w w3) := hid (HB2.out.trans (hb3.mono HB2.out.size))
     obtain ⟨a1, c1, rfl, _, _⟩ := hr1.shape
     clear hb3 hr1
     go_wp2_with fail
     refine (H2b.out _ HB3.out HBB.out HA.out).mono ?_
     rintro e w4 ⟨r2, rfl, hr2, hb4⟩
     have HB4 : Hid (Below w.heap.size w w4) := hid (HB3.out.trans (hb4.mono HB3.out.size))
     obtain ⟨a2, c2, rfl, _, _⟩ := hr2.shape
     clear hb4 hr2
     go_wp2_with fail
     all_goals
      go_ret
      exact ⟨ret_int (by rw [HC2.out]; simp_all), HB4.out⟩
theorem SlRd.take {α : Type} {w : World} {sz : Nat} {R : α → List Value → Prop} {a : Option Addr} {n cap : Nat} {l : List α} (h : SlRd w sz R (.slice a n cap) l) (k : Nat) (hk : k ≤ l.length) : SlRd w sz R (.slice a k cap) (l.take k) := by
 obtain ⟨a', cap', hv, hn, hm, hc⟩ := h
 cases hv
 refine ⟨a, cap, by rw [List.length_take, Nat.min_eq_left hk], ⟨hn.1, by rw [List.length_take]; omega⟩, hm, fun i hi => ?_⟩
 rw [List.length_take] at hi
 obtain ⟨b, o, cs, ha, hl, hcs, hr⟩ := hc i (by omega)
 refine ⟨b, o, cs, ha, hl, hcs, ?_⟩
 rw [List.getElem_take]
 exact hr
def pairB (e f : En) : Bool := !((clockC e.clock f.clock == 1) || (clockC e.clock f.clock == 2))
theorem entryB_eq (list : List En) (k : Nat) (h : k < list.length) : entryB list k list[k] = (decide (list[k].clock.length ≠ 0) && (clockB list[k].clock && (nameB list[k].name && (decide (k = 0 ∨ entC (list[k - 1]'(by omega)) list[k] < 0) && (list.take k).all (pairB list[k]))))) := by
  unfold entryB
  rw [List.getElem?_eq_getElem (show k - 1 < list.length by omega)]
  simp only [Bool.and_assoc]
  rfl
theorem regGo_step (list : List En) (k : Nat) (h : k < list.length) : regGo list k (list.drop k) = (entryB list k list[k] && regGo list (k + 1) (list.drop (k + 1))) := by
 rw [drop_consS list k h, regGo]
theorem register_any (v : Value) (l : List En) (w : World) (hv : SlRd w 2 (entryRd w) v l) :
 Calls Tryz.prog 67 #[v] w fun e w' => e = .returned (.bool (regB l)) ∧ Below w.heap.size w w' := by
 obtain ⟨a, cap, rfl, hlc, hmax⟩ := hv.shape
 have HV := hid hv
 clear hv
 have HR : Hid (regB l = regGo l 0 (l.drop 0)) := hid (by rw [List.drop_zero]; rfl)
 generalize regB l = R at HR ⊢
 go_enter Tryz.func67, Tryz.ntmps67
 go_wp2_with fail
 go_loopw [3, 4, 6, 7, 10] (fun _ _ _ _ i wr => ∃ (k : Nat), k ≤ l.length ∧ i = .int .i64 k ∧ Hid (R = regGo l k (l.drop k)) ∧ Hid (Below w.heap.size w wr)) (fun _ _ _ _ i _ => l.length - (intOf i).toNat)
 case atStart => exact ⟨0, Nat.zero_le _, rfl, HR, hid (Below.refl _ _)⟩
 case round =>
  obtain ⟨k, hk, rfl, He, HW⟩ := hrel
  by_cases hlt : k < l.length
  · obtain ⟨b, o, cs, rfl, hl0, hcs, hr⟩ := HV.out.at k hlt
    have HRK := hid hr
    obtain ⟨vc, rfl, hsc, hnm⟩ := hr
    have c0 : wr.cell? ⟨b, o + k * 2, none⟩ = some vc := (hcs.below HW.out) 0 (by simp)
    have c1 : wr.cell? ⟨b, o + k * 2 + 1, none⟩ = some (.string l[k].name) := (hcs.below HW.out) 1 (by simp)
    obtain ⟨ac, cc, rfl, _, hmc⟩ := hsc.shape
    have HSC := hid hsc
    have HNM := hid hnm
    clear hcs hsc hnm
    have HD : Hid (R = ((decide (l[k].clock.length ≠ 0) && (clockB l[k].clock && (nameB l[k].name && (decide (k = 0 ∨ entC (l[k - 1]'(by omega)) l[k] < 0) && (l.take k).all (pairB l[k]))))) && regGo l (k + 1) (l.drop (k + 1)))) := hid (by rw [He.out, regGo_step l k hlt, entryB_eq l k hlt])
    have HX0 : Hid (∀ x : Ext (wr.alloc (.cells #[.slice ac l[k].clock.length cc, .string l[k].name] 43)), x.1.cell? ⟨wr.heap.size, 0, none⟩ = some (.slice ac l[k].clock.length cc)) := hid fun x => x.cell (by rw [World.cell?_alloc_at _ _ _ _ rfl]; rfl)
    have HX1 : Hid (∀ x : Ext (wr.alloc (.cells #[.slice ac l[k].clock.length cc, .string l[k].name] 43)), x.1.cell? ⟨wr.heap.size, 1, none⟩ = some (.string l[k].name)) := hid fun x => x.cell (by rw [World.cell?_alloc_at _ _ _ _ rfl]; rfl)
    have HBX : Hid (∀ w', Below (wr.alloc (.cells #[.slice ac l[k].clock.length cc, .string l[k].name] 43)).heap.size (wr.alloc (.cells #[.slice ac l[k].clock.length cc, .string l[k].name] 43)) w' → Below w.heap.size w w') := hid fun w' h => (HW.out.alloc HW.out.size _).trans (h.mono (by have := HW.out.size; simp; omega))
    by_cases hz : l[k].clock.length = 0
    · have HE : Hid (R = false) := hid (by rw [HD.out, decide_eq_false (show ¬ (l[k].clock.length ≠ 0) by omega)]; rfl)
      have hz0 : ((l[k].clock.length : Int) == 0) = true := by rw [hz]; rfl
      clear hz
      go_wp2_with fail
      go_quiet (fail)
      go_wp2_with fail
      go_ret
      exact ⟨ret_bool HE.out.symm, below_drewN' (HBX.out _ (Below.refl _ _)) _⟩
    have hz0 : ((l[k].clock.length : Int) == 0) = false := by simp; exact fun h => hz (by rw [h]; rfl)
    have HD1 : Hid (R = ((clockB l[k].clock && (nameB l[k].name && (decide (k = 0 ∨ entC (l[k - 1]'(by omega)) l[k] < 0) && (l.take k).all (pairB l[k])))) && regGo l (k + 1) (l.drop (k + 1)))) := hid (by rw [HD.out, decide_eq_true (show l[k].clock.length ≠ 0 from hz), Bool.true_and])
    clear hz
    go_wp2_with fail
    generalize hWB : wr.alloc (.cells #[.slice ac l[k].clock.length cc, .string l[k].name] 43) = WB at HX0 HX1 HBX ⊢
    clear hWB
    have hx0 := HX0.out
    have hx1 := HX1.out
    cases hcv : clockB l[k].clock
    · have HE : Hid (R = false) := hid (by rw [HD1.out, hcv]; rfl)
      have HVC : Hid (∀ W, Below w.heap.size w W → Calls Tryz.prog 117 #[.slice ac l[k].clock.length cc] W fun e w' => e = .returned (.bool false) ∧ Below W.heap.size W w') := hid fun W h => by have := clockValid_any _ l[k].clock W (SlRd.below HSC.out h fun _ _ _ h => h); rw [hcv] at this; exact this
      clear hcv
      go_wp2_with fail
      refine wp_region_ext (by kernel_rfl) (by kernel_rfl) ?_
      repeat (go_big_quiet_step ((go_at_call 117; exact ext_call _ (HVC.out _ (HBX.out _ (Subtype.property _))))))
      refine wpQuiet_nil ?_
      rintro _ ⟨x, rfl⟩
      have HBW := hid x.2
      all_goals
       go_wp2_with fail
       go_ret
       exact ⟨ret_bool HE.out.symm, HBX.out _ HBW.out⟩
    cases hcn : nameB l[k].name
    · have HE : Hid (R = false) := hid (by rw [HD1.out, hcv, hcn]; rfl)
      have HVC : Hid (∀ W, Below w.heap.size w W → Calls Tryz.prog 117 #[.slice ac l[k].clock.length cc] W fun e w' => e = .returned (.bool true) ∧ Below W.heap.size W w') := hid fun W h => by have := clockValid_any _ l[k].clock W (SlRd.below HSC.out h fun _ _ _ h => h); rw [hcv] at this; exact this
      have HVN : Hid (∀ W, Calls Tryz.prog 114 #[.string l[k].name] W fun e w' => e = .returned (.bool false) ∧ w' = W) := hid fun W => by have := nameValid_any l[k].name W HNM.out; rw [hcn] at this; exact this
      clear hcv hcn
      go_wp2_with fail
      refine wp_region_ext (by kernel_rfl) (by kernel_rfl) ?_
      repeat (go_big_quiet_step (first | (go_at_call 117; exact ext_call _ (HVC.out _ (HBX.out _ (Subtype.property _)))) | (go_at_call 114; exact ext_same _ (HVN.out _))))
      refine wpQuiet_nil ?_
      rintro _ ⟨x, rfl⟩
      have HBW := hid x.2
      all_goals
       go_wp2_with fail
       go_ret
       exact ⟨ret_bool HE.out.symm, HBX.out _ HBW.out⟩
    have HD2 : Hid (R = ((decide (k = 0 ∨ entC (l[k - 1]'(by omega)) l[k] < 0) && (l.take k).all (pairB l[k])) && regGo l (k + 1) (l.drop (k + 1)))) := hid (by rw [HD1.out, hcv, hcn]; rfl)
    have HVC : Hid (∀ W, Below w.heap.size w W → Calls Tryz.prog 117 #[.slice ac l[k].clock.length cc] W fun e w' => e = .returned (.bool true) ∧ Below W.heap.size W w') := hid fun W h => by have := clockValid_any _ l[k].clock W (SlRd.below HSC.out h fun _ _ _ h => h); rw [hcv] at this; exact this
    have HVN : Hid (∀ W, Calls Tryz.prog 114 #[.string l[k].name] W fun e w' => e = .returned (.bool true) ∧ w' = W) := hid fun W => by have := nameValid_any l[k].name W HNM.out; rw [hcn] at this; exact this
    clear hcv hcn
    by_cases hk0 : k = 0
    · have HE : Hid (R = ((l.take k).all (pairB l[k]) && regGo l (k + 1) (l.drop (k + 1)))) := hid (by rw [HD2.out, decide_eq_true (.inl hk0), Bool.true_and])
      have hkb : decide (0 < k) = false := decide_eq_false (by omega)
      have hkc : decide ((0 : Int) < (k : Int)) = false := decide_eq_false (by omega)
      have HK0 := hid hk0
      clear hk0
      go_wp2_with fail
      refine wp_region_ext (by kernel_rfl) (by kernel_rfl) ?_
      repeat (go_big_quiet_step (first | (go_at_call 117; exact ext_call _ (HVC.out _ (HBX.out _ (Subtype.property _)))) | (go_at_call 114; exact ext_same _ (HVN.out _))))
      refine wpQuiet_nil ?_
      rintro _ ⟨x, rfl⟩
      have HBW := hid x.2
      clear hx0 hx1
      have d0 := HX0.out x
      go_wp2_with fail
      obtain ⟨wo, rfl⟩ : ∃ wo : World, wo = wr := ⟨_, rfl⟩
      go_loopw [6, 7, 49] (fun _ _ i wq => ∃ (j : Nat), j ≤ k ∧ i = .int .i64 j ∧ Hid (R = (((l.take k).drop j).all (pairB l[k]) && regGo l (k + 1) (l.drop (k + 1)))) ∧ Hid (Below WB.heap.size WB wq)) (fun _ _ i _ => k - (intOf i).toNat)
      case atStart => exact ⟨0, Nat.zero_le _, rfl, hid (by rw [List.drop_zero]; exact HE.out), HBW⟩
      case round =>
       obtain ⟨j, hj, rfl, Hj, HWQ⟩ := hrel
       by_cases hjk : j < k
       · have hjl : j < (l.take k).length := by rw [List.length_take]; omega
         have HDJ : Hid (R = ((pairB l[k] l[j] && ((l.take k).drop (j + 1)).all (pairB l[k])) && regGo l (k + 1) (l.drop (k + 1)))) := hid (by rw [Hj.out, drop_consS _ j hjl, List.all_cons, List.getElem_take])
         obtain ⟨b', o', cs', hb', _, hcs', hr'⟩ := HV.out.at j (by omega)
         cases hb'
         obtain ⟨vj, rfl, hsj, hnj⟩ := hr'
         have HWQ2 := hid (HBX.out _ HWQ.out)
         have j0 : wr.cell? ⟨b, o + j * 2, none⟩ = some vj := (hcs'.below HWQ2.out) 0 (by simp)
         have j1 : wr.cell? ⟨b, o + j * 2 + 1, none⟩ = some (.string l[j].name) := (hcs'.below HWQ2.out) 1 (by simp)
         obtain ⟨aj, cj, rfl, _, _⟩ := hsj.shape
         have HSJ := hid hsj
         have e0 := HX0.out ⟨_, HWQ.out⟩
         have e0a := fun O => cell_alloc (o := O) e0
         have HAW : Hid (∀ O, Below WB.heap.size WB (wr.alloc O)) := hid fun O => HWQ.out.alloc HWQ.out.size O
         have HA0 : Hid (∀ O, Below wr.heap.size wr (wr.alloc O)) := hid fun O => (Below.refl _ _).alloc (Nat.le_refl _) O
         clear hcs' hsj hnj e0
         have hjl2 : (j : Int) < (k : Int) := by omega
         go_wp2_with fail
         refine (clockCmp_any _ _ l[k].clock l[j].clock _ (SlRd.below HSC.out (HBX.out _ (HAW.out _)) fun _ _ _ h => h) (SlRd.below HSJ.out (HBX.out _ (HAW.out _)) fun _ _ _ h => h)).mono ?_
         rintro e wc ⟨rfl, hbc⟩
         have HBC : Hid (Below WB.heap.size WB wc) := hid ((HAW.out _).trans (hbc.mono (HAW.out _).size))
         clear hbc
         have HPB : Hid (pairB l[k] l[j] = !((clockC l[k].clock l[j].clock == 1) || (clockC l[k].clock l[j].clock == 2))) := hid rfl
         generalize clockC l[k].clock l[j].clock = cv at HPB ⊢
         by_cases h1 : cv = 1
         · have HX : Hid (R = false) := hid (by rw [HDJ.out, HPB.out, h1]; rfl)
           subst h1
           go_wp2_with fail
           go_ret
           exact ⟨ret_bool HX.out.symm, (HBX.out _ HBC.out)⟩
         · have h1b : (cv == 1) = false := by simpa using h1
           by_cases h2 : cv = 2
           · have HX : Hid (R = false) := hid (by rw [HDJ.out, HPB.out, h2]; rfl)
             subst h2
             clear h1
             go_wp2_with fail
             go_ret
             exact ⟨ret_bool HX.out.symm, (HBX.out _ HBC.out)⟩
           · have h2b : (cv == 2) = false := by simpa using h2
             have HX : Hid (R = (((l.take k).drop (j + 1)).all (pairB l[k]) && regGo l (k + 1) (l.drop (k + 1)))) := hid (by rw [HDJ.out, HPB.out, h1b, h2b]; rfl)
             clear h1 h2
             go_wp2_with fail
             go_roundw
             case rel => exact ⟨j + 1, by omega, by go_num, HX, HBC⟩
             case measure => simp [intOf]; omega
       · have HX : Hid (R = regGo l (k + 1) (l.drop (k + 1))) := hid (by rw [Hj.out, List.drop_eq_nil_of_le (by rw [List.length_take]; omega)]; rfl)
         go_wp2_with fail
         go_roundw
         case rel => exact ⟨k + 1, by omega, by go_num, HX, hid (HBX.out _ HWQ.out)⟩
         case measure => simp [intOf]; omega
    · have hkp : k - 1 < l.length := by omega
      obtain ⟨bp, op, csp, hbp, _, hcsp, hrp⟩ := HV.out.at (k - 1) (by omega)
      cases hbp
      have HRP := hid hrp
      obtain ⟨vcp, rfl, hsp, hnp⟩ := hrp
      obtain ⟨ap, cp, rfl, _, _⟩ := hsp.shape
      obtain ⟨hp0, hp1⟩ := cx2 fun x : Ext WB => hcsp.below (HBX.out _ x.2)
      clear hcsp hsp hnp
      have hkb : decide (0 < k) = true := decide_eq_true (by omega)
      have hkc : decide ((0 : Int) < (k : Int)) = true := decide_eq_true (by omega)
      have hk1 : IntKind.i64.wrap ((k : Int) - 1) = (k : Int) - 1 := IntWalk.i64_in _ (by omega)
      have hk2 : (0 : Int) ≤ (k : Int) - 1 := by omega
      have hk3 : ((k : Int) - 1).toNat = k - 1 := by omega
      have hk4 : 1 ≤ k := by omega
      have hk5 : (k : Int) - 1 < (l.length : Int) := by omega
      have HVE : Hid (∀ W, Below w.heap.size w W → Calls Tryz.prog 46 #[.agg #[.slice ap (l[k - 1]'hkp).clock.length cp, .string (l[k - 1]'hkp).name], .agg #[.slice ac l[k].clock.length cc, .string l[k].name]] W fun e w' => e = .returned (.int .i64 (entC (l[k - 1]'hkp) l[k])) ∧ Below W.heap.size W w') :=
        hid fun W h => compareEntries_any _ _ [_, _] [_, _] W (entryRd.below HRP.out h) (entryRd.below HRK.out h)
      generalize hev : entC (l[k - 1]'hkp) l[k] = ev at HVE HD2
      clear hev
      by_cases hlt0 : ev < 0
      · have HE : Hid (R = ((l.take k).all (pairB l[k]) && regGo l (k + 1) (l.drop (k + 1)))) := hid (by rw [HD2.out, decide_eq_true (.inr hlt0), Bool.true_and])
        have hd : decide (0 ≤ ev) = false := decide_eq_false (by omega)
        go_wp2_with fail
        refine wp_region_ext (by kernel_rfl) (by kernel_rfl) ?_
        repeat (go_big_quiet_step (first | (go_at_call 117; exact ext_call _ (HVC.out _ (HBX.out _ (Subtype.property _)))) | (go_at_call 114; exact ext_same _ (HVN.out _)) | (go_at_call 46; exact ext_call _ (HVE.out _ (HBX.out _ (Subtype.property _))))))
        refine wpQuiet_nil ?_
        rintro _ ⟨x, rfl⟩
        have HBW := hid x.2
        clear hx0 hx1 hp0 hp1
        have d0 := HX0.out x
        go_wp2_with fail
        obtain ⟨wo, rfl⟩ : ∃ wo : World, wo = wr := ⟨_, rfl⟩
        go_loopw [6, 7, 49] (fun _ _ i wq => ∃ (j : Nat), j ≤ k ∧ i = .int .i64 j ∧ Hid (R = (((l.take k).drop j).all (pairB l[k]) && regGo l (k + 1) (l.drop (k + 1)))) ∧ Hid (Below WB.heap.size WB wq)) (fun _ _ i _ => k - (intOf i).toNat)
        case atStart => exact ⟨0, Nat.zero_le _, rfl, hid (by rw [List.drop_zero]; exact HE.out), HBW⟩
        case round =>
         obtain ⟨j, hj, rfl, Hj, HWQ⟩ := hrel
         by_cases hjk : j < k
         · have hjl : j < (l.take k).length := by rw [List.length_take]; omega
           have HDJ : Hid (R = ((pairB l[k] l[j] && ((l.take k).drop (j + 1)).all (pairB l[k])) && regGo l (k + 1) (l.drop (k + 1)))) := hid (by rw [Hj.out, drop_consS _ j hjl, List.all_cons, List.getElem_take])
           obtain ⟨b', o', cs', hb', _, hcs', hr'⟩ := HV.out.at j (by omega)
           cases hb'
           obtain ⟨vj, rfl, hsj, hnj⟩ := hr'
           have HWQ2 := hid (HBX.out _ HWQ.out)
           have j0 : wr.cell? ⟨b, o + j * 2, none⟩ = some vj := (hcs'.below HWQ2.out) 0 (by simp)
           have j1 : wr.cell? ⟨b, o + j * 2 + 1, none⟩ = some (.string l[j].name) := (hcs'.below HWQ2.out) 1 (by simp)
           obtain ⟨aj, cj, rfl, _, _⟩ := hsj.shape
           have HSJ := hid hsj
           have e0 := HX0.out ⟨_, HWQ.out⟩
           have e0a := fun O => cell_alloc (o := O) e0
           have HAW : Hid (∀ O, Below WB.heap.size WB (wr.alloc O)) := hid fun O => HWQ.out.alloc HWQ.out.size O
           have HA0 : Hid (∀ O, Below wr.heap.size wr (wr.alloc O)) := hid fun O => (Below.refl _ _).alloc (Nat.le_refl _) O
           clear hcs' hsj hnj e0
           have hjl2 : (j : Int) < (k : Int) := by omega
           go_wp2_with fail
           refine (clockCmp_any _ _ l[k].clock l[j].clock _ (SlRd.below HSC.out (HBX.out _ (HAW.out _)) fun _ _ _ h => h) (SlRd.below HSJ.out (HBX.out _ (HAW.out _)) fun _ _ _ h => h)).mono ?_
           rintro e wc ⟨rfl, hbc⟩
           have HBC : Hid (Below WB.heap.size WB wc) := hid ((HAW.out _).trans (hbc.mono (HAW.out _).size))
           clear hbc
           have HPB : Hid (pairB l[k] l[j] = !((clockC l[k].clock l[j].clock == 1) || (clockC l[k].clock l[j].clock == 2))) := hid rfl
           generalize clockC l[k].clock l[j].clock = cv at HPB ⊢
           by_cases h1 : cv = 1
           · have HX : Hid (R = false) := hid (by rw [HDJ.out, HPB.out, h1]; rfl)
             subst h1
             go_wp2_with fail
             go_ret
             exact ⟨ret_bool HX.out.symm, (HBX.out _ HBC.out)⟩
           · have h1b : (cv == 1) = false := by simpa using h1
             by_cases h2 : cv = 2
             · have HX : Hid (R = false) := hid (by rw [HDJ.out, HPB.out, h2]; rfl)
               subst h2
               clear h1
               go_wp2_with fail
               go_ret
               exact ⟨ret_bool HX.out.symm, (HBX.out _ HBC.out)⟩
             · have h2b : (cv == 2) = false := by simpa using h2
               have HX : Hid (R = (((l.take k).drop (j + 1)).all (pairB l[k]) && regGo l (k + 1) (l.drop (k + 1)))) := hid (by rw [HDJ.out, HPB.out, h1b, h2b]; rfl)
               clear h1 h2
               go_wp2_with fail
               go_roundw
               case rel => exact ⟨j + 1, by omega, by go_num, HX, HBC⟩
               case measure => simp [intOf]; omega
         · have HX : Hid (R = regGo l (k + 1) (l.drop (k + 1))) := hid (by rw [Hj.out, List.drop_eq_nil_of_le (by rw [List.length_take]; omega)]; rfl)
           go_wp2_with fail
           go_roundw
           case rel => exact ⟨k + 1, by omega, by go_num, HX, hid (HBX.out _ HWQ.out)⟩
           case measure => simp [intOf]; omega
      · have HE : Hid (R = false) := hid (by rw [HD2.out, decide_eq_false (by omega)]; rfl)
        have hd : decide (0 ≤ ev) = true := decide_eq_true (by omega)
        go_wp2_with fail
        refine wp_region_ext (by kernel_rfl) (by kernel_rfl) ?_
        repeat (go_big_quiet_step (first | (go_at_call 117; exact ext_call _ (HVC.out _ (HBX.out _ (Subtype.property _)))) | (go_at_call 114; exact ext_same _ (HVN.out _)) | (go_at_call 46; exact ext_call _ (HVE.out _ (HBX.out _ (Subtype.property _))))))
        refine wpQuiet_nil ?_
        rintro _ ⟨x, rfl⟩
        have HBW := hid x.2
        all_goals
         go_wp2_with fail
         go_ret
         exact ⟨ret_bool HE.out.symm, HBX.out _ HBW.out⟩
  · have HF : Hid (R = true) := hid (by rw [He.out, List.drop_eq_nil_of_le (by omega)]; rfl)
    go_wp2_with fail
    go_ret
    exact ⟨ret_bool HF.out.symm, HW.out⟩
def Sub (w w' : World) : Prop := ∀ p v, w.cell? p = some v → w'.cell? p = some v
theorem Sub.refl (w : World) : Sub w w := fun _ _ h => h
theorem Sub.trans {a b c : World} (h : Sub a b) (k : Sub b c) : Sub a c := fun p v q => k p v (h p v q)
theorem Sub.of_below {w w' : World} (h : Below w.heap.size w w') : Sub w w' := fun _ _ q => (h.cell (World.block_lt_of_cell? w _ q)).trans q
theorem CellsAt.mono {w w' : World} {b o : Nat} {cs : List Value} (h : CellsAt w b o cs) (hs : Sub w w') : CellsAt w' b o cs := fun j hj => hs _ _ (h j hj)
theorem SlRd.mono {α : Type} {w w' : World} {sz : Nat} {R R' : α → List Value → Prop} {v : Value} {l : List α} (h : SlRd w sz R v l) (hs : Sub w w') (hR : ∀ x cs, x ∈ l → R x cs → R' x cs) : SlRd w' sz R' v l := by
 obtain ⟨a, cap, hv, hn, hm, hc⟩ := h
 refine ⟨a, cap, hv, hn, hm, fun i hi => ?_⟩
 obtain ⟨b, o, cs, ha, hl, hcs, hr⟩ := hc i hi
 exact ⟨b, o, cs, ha, hl, hcs.mono hs, hR _ _ (List.getElem_mem hi) hr⟩
theorem Strs.mono {w w' : World} {v : Value} {l : List ByteArray} (h : Strs w v l) (hs : Sub w w') : Strs w' v l := SlRd.mono h hs fun _ _ _ h => h
theorem ruleRd.mono {w w' : World} {r : Rl} {cs : List Value} (h : ruleRd w r cs) (hs : Sub w w') : ruleRd w' r cs := by
 obtain ⟨v, hv, hc, hm⟩ := h
 exact ⟨v, hv, hc.mono hs, hm⟩
theorem entryRd.mono {w w' : World} {r : En} {cs : List Value} (h : entryRd w r cs) (hs : Sub w w') : entryRd w' r cs := by
 obtain ⟨v, hv, hc, hm⟩ := h
 exact ⟨v, hv, SlRd.mono hc hs fun _ _ _ h => h, hm⟩
theorem latRd.mono {w w' : World} (hs : Sub w w') : ∀ (l : Lat) (cs : List Value), latRd w l cs → latRd w' l cs
 | .mk k lo hi ns ps rs, cs, h => by
   obtain ⟨vn, vp, vr, h1, h2, h3, h4, h5⟩ := (latRd_iff _ _ _).1 h
   refine (latRd_iff _ _ _).2 ⟨vn, vp, vr, h1, h2, h3.mono hs, ?_, SlRd.mono h5 hs fun _ _ _ h => h.mono hs⟩
   exact SlRd.mono h4 hs fun x cs hx hr => latRd.mono hs x cs hr
 termination_by l => SizeOf.sizeOf l
 decreasing_by
  have := List.sizeOf_lt_of_mem hx
  simp only [Lat.parts] at this
  simp only [Lat.mk.sizeOf_spec]
  omega
theorem valRd.mono {w w' : World} (hs : Sub w w') : ∀ (l : Val) (cs : List Value), valRd w l cs → valRd w' l cs
 | .mk n ns ps es, cs, h => by
   obtain ⟨vn, vp, ve, h1, h2, h3, h4, h5⟩ := (valRd_iff _ _ _).1 h
   refine (valRd_iff _ _ _).2 ⟨vn, vp, ve, h1, h2, h3.mono hs, ?_, SlRd.mono h5 hs fun _ _ _ h => h.mono hs⟩
   exact SlRd.mono h4 hs fun x cs hx hr => valRd.mono hs x cs hr
 termination_by l => SizeOf.sizeOf l
 decreasing_by
  have := List.sizeOf_lt_of_mem hx
  simp only [Val.parts] at this
  simp only [Val.mk.sizeOf_spec]
  omega
def only (S : Nat → Bool) (w : World) : World := { w with heap := w.heap.mapIdx fun i o => if S i then o else .cells #[] 0 (0, 0) }
theorem only_cell (S : Nat → Bool) (w : World) (p : Addr) : (only S w).cell? p = if S p.block then w.cell? p else none := by
 unfold World.cell? only
 simp only [Array.getElem?_mapIdx]
 cases h : w.heap[p.block]? with
 | none => simp
 | some o =>
   cases hs : S p.block
   · simp [hs]
   · simp [hs]
theorem only_sub (S : Nat → Bool) (w : World) : Sub (only S w) w := fun p v h => by
  rw [only_cell] at h
  split at h
  · exact h
  · cases h
theorem only_keep {S S' : Nat → Bool} {w w' : World} (h : ∀ b, S b = true → b < w.heap.size → S' b = true ∧ w'.heap[b]? = w.heap[b]?) : Sub (only S w) (only S' w') := fun p v hp => by
  rw [only_cell] at hp ⊢
  cases hs : S p.block
  · rw [hs] at hp; cases hp
  · rw [hs] at hp
    simp only [if_true] at hp
    obtain ⟨h1, h2⟩ := h p.block hs (World.block_lt_of_cell? w p hp)
    rw [h1]
    simp only [if_true]
    rw [World.cell?_of_block (w := w) h2]
    exact hp
def from_ (n : Nat) : Nat → Bool := fun b => decide (n ≤ b)
def butOwn (n : Nat) (v : Value) : Nat → Bool := fun b => decide (n ≤ b) && decide (v.ownBlock ≠ some b)
structure Rws {α : Type} (w : World) (base E sz : Nat) (R : World → α → List Value → Prop) (v : Value) (l : List α) (css : List (List Value)) : Prop where
 own : w.ownsRow base E sz v l.length css.flatten
 len : css.length = l.length
 each : ∀ cs ∈ css, cs.length = sz
 read : ∀ i (h : i < l.length) (h' : i < css.length), R (only (butOwn base v) w) l[i] css[i]
theorem flatten_at (sz : Nat) : ∀ (css : List (List Value)), (∀ cs ∈ css, cs.length = sz) → ∀ (i : Nat) (hi : i < css.length) (j : Nat), j < sz → css.flatten[i * sz + j]? = css[i][j]?
 | x :: t, h, 0, _, j, hj => by
   rw [List.flatten_cons, Nat.zero_mul, Nat.zero_add, List.getElem?_append_left (by rw [h x (by simp)]; exact hj)]; rfl
 | x :: t, h, i + 1, hi, j, hj => by
   rw [List.flatten_cons, List.getElem?_append_right (by rw [h x (by simp), Nat.succ_mul]; omega), h x (by simp), show (i + 1) * sz + j - sz = i * sz + j by rw [Nat.succ_mul]; omega]
   exact flatten_at sz t (fun cs hc => h cs (by simp [hc])) i (by simpa using hi) j hj
theorem Rws.nil {α : Type} (w : World) (base E sz : Nat) (R : World → α → List Value → Prop) : Rws w base E sz R (.slice none 0 0) [] [] :=
 ⟨World.ownsRow_nil _ _ _ _, rfl, by simp, fun i h => by simp at h⟩
theorem Rws.reads {α : Type} {w : World} {base E sz : Nat} {R : World → α → List Value → Prop} {v : Value} {l : List α} {css : List (List Value)} (h : Rws w base E sz R v l css)
 (hR : ∀ {a b : World} {x cs}, Sub a b → R a x cs → R b x cs) : SlRd (only (from_ base) w) sz (R (only (from_ base) w)) v l := by
 obtain ⟨hl, hr⟩ := h.own
 have hsub : Sub (only (butOwn base v) w) (only (from_ base) w) := only_keep fun b hb _ => ⟨by unfold butOwn at hb; unfold from_; simp only [Bool.and_eq_true] at hb; exact hb.1, rfl⟩
 rcases hr with ⟨rfl, hn⟩ | ⟨g, cap, cur, rfl, hb, hg, hn, hcap, hsz, htake⟩
 · have : l = [] := List.length_eq_zero_iff.1 hn
   subst this
   exact ⟨none, 0, rfl, ⟨fun _ => rfl, by simp⟩, by decide, fun i hi => by simp at hi⟩
 · refine ⟨some ⟨g, 0, none⟩, cap, rfl, ⟨by simp, hn⟩, hcap, fun i hi => ?_⟩
   have hi' : i < css.length := by rw [h.len]; exact hi
   have hcl := h.each css[i] (List.getElem_mem hi')
   refine ⟨g, 0, css[i], rfl, hcl, fun j hj => ?_, hR hsub (h.read i hi hi')⟩
   rw [only_cell, show from_ base g = true from decide_eq_true hb]
   simp only [if_true]
   rw [Nat.zero_add, cell_of_row w g _ cur E (0, 0) hg]
   have hjs : j < sz := by rw [hcl] at hj; exact hj
   have hlt : i * sz + j < l.length * sz := by
    have : (i + 1) * sz ≤ l.length * sz := Nat.mul_le_mul_right _ hi
    rw [Nat.succ_mul] at this
    omega
   have e1 : (cur.toList.take (l.length * sz))[i * sz + j]? = cur[i * sz + j]? := by
    rw [List.getElem?_take, if_pos hlt]; simp
   rw [← e1, htake, flatten_at sz css h.each i hi' j hjs, List.getElem?_eq_getElem hj]
theorem Rws.keep {α : Type} {w w' : World} {base E sz : Nat} {R : World → α → List Value → Prop} {v : Value} {l : List α} {css : List (List Value)} (h : Rws w base E sz R v l css)
 (hR : ∀ {a b : World} {x cs}, Sub a b → R a x cs → R b x cs) (hk : ∀ b, base ≤ b → b < w.heap.size → w'.heap[b]? = w.heap[b]?) : Rws w' base E sz R v l css :=
 ⟨owns_of_block h.own fun g hg => hk g (h.own.lt g hg).1 (h.own.lt g hg).2, h.len, h.each, fun i hi hi' => hR (only_keep fun b hb hl => ⟨hb, hk b (by unfold butOwn at hb; simp only [Bool.and_eq_true] at hb; exact of_decide_eq_true hb.1) hl⟩) (h.read i hi hi')⟩
theorem Rws.push {α : Type} {w w' : World} {base E sz : Nat} {R : World → α → List Value → Prop} {v v' : Value} {l : List α} {css : List (List Value)} {x : α} {cs : List Value} {N : Nat} {L : List Value} (h : Rws w base E sz R v l css)
 (hR : ∀ {a b : World} {x cs}, Sub a b → R a x cs → R b x cs) (hA : Appd w w' base E sz v v' N L) (hN : N = l.length + 1) (hL : L = css.flatten ++ cs) (hc : cs.length = sz) (hx : R (only (butOwn base v) w) x cs) :
 Rws w' base E sz R v' (l ++ [x]) (css ++ [cs]) := by
 have hsub : Sub (only (butOwn base v) w) (only (butOwn base v') w') := only_keep fun b hb hl => by
   unfold butOwn at hb ⊢
   simp only [Bool.and_eq_true, decide_eq_true_eq] at hb ⊢
   refine ⟨⟨hb.1, ?_⟩, hA.grown.block b hl (fun e => hb.2 e.symm)⟩
   rcases hA.at_ with e | e
   · rw [e]; exact hb.2
   · rw [e]
     intro e2
     injection e2 with e2
     omega
 refine ⟨?_, by rw [List.length_append, List.length_append, h.len]; rfl, ?_, fun i hi hi' => ?_⟩
 · have := hA.own
   rw [hN, hL] at this
   rw [List.length_append, List.flatten_append, List.flatten_cons, List.flatten_nil, List.append_nil]
   exact this
 · intro c hcm
   rcases List.mem_append.1 hcm with hm | hm
   · exact h.each c hm
   · rw [List.mem_singleton.1 hm]; exact hc
 · by_cases hlt : i < l.length
   · rw [List.getElem_append_left hlt, List.getElem_append_left (by rw [h.len]; exact hlt)]
     exact hR hsub (h.read i hlt (by rw [h.len]; exact hlt))
   · have hil : i = l.length := by simp at hi; omega
     subst hil
     rw [List.getElem_append_right (by omega), List.getElem_append_right (by rw [h.len]; omega)]
     simp only [h.len, Nat.sub_self, List.getElem_singleton]
     exact hR hsub hx
end Go.Proofs.YtmdjnaobllajmaaGreatDoor
