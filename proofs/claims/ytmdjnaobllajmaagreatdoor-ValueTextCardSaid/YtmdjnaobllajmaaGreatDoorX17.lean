/-
  What the statements of the chapter share, part 17: VTop0.
-/
import Derived.Test.YtmdjnaobllajmaaGreatDoorX15
import Derived.Test.YtmdjnaobllajmaaGreatDoorX16
set_option linter.unusedVariables false
set_option linter.unusedSimpArgs false
set_option maxRecDepth 100000
set_option maxHeartbeats 8000000
namespace Go.Proofs.YtmdjnaobllajmaaGreatDoor
open Go.RowKit
mutual
def topV : Lat → Val × Bool
 | .mk k lo hi ns ps _ => if k = 1 then (.mk 1 [] [] [], true) else if k = 2 then (.mk hi [] [] [], true) else if k = 3 then (.mk lo [] [] [], true) else if k = 8 then (.mk 2 [] [] [], true)
   else if k = 4 ∨ k = 10 then (.mk 0 ns [] [], decide (0 < ns.length)) else if k = 9 then (zeroV, false)
   else if k = 5 then topMap ns ps else if topOk ps then (.mk 0 [] (topVs ps) [], true) else (zeroV, false)
def topMap : List ByteArray → List Lat → Val × Bool
 | _, [] => (zeroV, true)
 | ns, p :: _ => if trivB p then (zeroV, true) else if (topV p).2 = false ∨ ns.length = 0 then (zeroV, false) else (.mk 0 ns (List.replicate ns.length (topV p).1) [], true)
def topVs : List Lat → List Val
 | [] => []
 | p :: t => (topV p).1 :: topVs t
def topOk : List Lat → Bool
 | [] => true
 | p :: t => (topV p).2 && topOk t
end
theorem topVs_eq : ∀ l, topVs l = l.map fun p => (topV p).1
  | [] => by rw [topVs]; rfl
  | p :: t => by rw [topVs, topVs_eq t]; rfl
theorem topOk_eq : ∀ l, topOk l = l.all fun p => (topV p).2
  | [] => by rw [topOk]; rfl
  | p :: t => by rw [topOk, topOk_eq t]; rfl
def TopPost (w : World) (x : Val × Bool) (e : Ending) (w' : World) : Prop := ∃ cs, e = .returned (.tuple #[.agg cs.toArray, .bool x.2]) ∧ valRd (only (from_ w.heap.size) w') x.1 cs ∧ Below w.heap.size w w'
theorem Src.of_strs {w : World} {a : Option Addr} {n cap : Nat} {l : List ByteArray} (h : Strs w (.slice a n cap) l) : Src w 1 (.slice a n cap) l.length (l.map Value.string) := by
 obtain ⟨a', c', hv, hn, hm, hc⟩ := h
 cases hv
 refine ⟨a, cap, rfl, by simp, fun e => ?_, fun ad had j q hq => ?_, fun q hq => ?_⟩
 · have := hn.1 e
   have := hn.2
   exact ⟨by omega, by omega⟩
 · have hj : j < l.length := by
    rcases Nat.lt_or_ge j l.length with h | h
    · exact h
    · rw [List.getElem?_eq_none (by simpa using h)] at hq; cases hq
   obtain ⟨b, o, cs, ha, hl, hcs, hr, _⟩ := hc j hj
   rw [had] at ha
   cases ha
   subst hr
   rw [addr_add]
   have := hcs 0 (by simp)
   simp only [List.getElem_cons_zero, Nat.mul_one, Nat.add_zero] at this
   rw [this]
   rw [List.getElem?_eq_getElem (by simpa using hj), List.getElem_map] at hq
   exact hq
 · obtain ⟨s, _, rfl⟩ := List.mem_map.1 hq
   rfl
theorem strs_le {w : World} {v : Value} {l : List ByteArray} (h : Strs w v l) : ∀ s ∈ l, s.size ≤ maxLen := fun s hs => by
  obtain ⟨a', c', hv, hn, hm, hc⟩ := h
  obtain ⟨i, hi, rfl⟩ := List.getElem_of_mem hs
  obtain ⟨b, o, cs, ha, hl, hcs, hr, hq⟩ := hc i hi
  exact hq
theorem strs_owns {w : World} {base : Nat} {v : Value} {l : List ByteArray} (h : w.ownsRow base 9 1 v l.length (l.map Value.string)) (hl : ∀ s ∈ l, s.size ≤ maxLen) : Strs (only (from_ base) w) v l := by
 have hR : Rws w base 9 1 (fun _ => strRd) v l (l.map fun s => [Value.string s]) := ⟨by
   have e : (l.map fun s => [Value.string s]).flatten = l.map Value.string := by
     rw [← List.flatMap_def]
     clear h hl
     induction l with
     | nil => rfl
     | cons x t ih => rw [List.flatMap_cons, ih]; rfl
   rw [e]; exact h, by simp, fun cs hc => by obtain ⟨s, _, rfl⟩ := List.mem_map.1 hc; rfl, fun i hi hi' => by rw [List.getElem_map]; exact ⟨rfl, hl _ (List.getElem_mem hi)⟩⟩
 exact hR.reads fun _ h => h
def StrsPost (w : World) (l : List ByteArray) (e : Ending) (w' : World) : Prop := ∃ a c, e = .returned (.slice a l.length c) ∧ Strs (only (from_ w.heap.size) w') (.slice a l.length c) l ∧ Below w.heap.size w w'
theorem clone_any (v : Value) (l : List ByteArray) (w : World) (hv : Strs w v l) (hl : l.length ≤ 1000000000) : Calls Tryz.prog 71 #[v] w (StrsPost w l) := by
 obtain ⟨i0, hi0, hz0, hz1, hz2⟩ := info_parts infoString
 obtain ⟨a, c, rfl, hcap, hm⟩ := hv.shape
 have HV := hid hv
 have HM := hid hl
 have HLE := hid (strs_le hv)
 have HN : Hid (a = none → l = [] ∧ c = 0) := hid fun e => by
   obtain ⟨a', c', hq, hn, _⟩ := hv
   cases hq
   have h1 := hn.1 e
   exact ⟨List.eq_nil_of_length_eq_zero (by omega), h1⟩
 clear hv hl
 show Calls _ _ _ _ fun e w' => Hid (StrsPost w l e w')
 cases a with
 | none =>
   obtain ⟨rfl, rfl⟩ := HN.out rfl
   have hnil := run_eql_nil_slice (P := Tryz.prog) w 22 9 none 0 0 0 0 Tryz.underlying22
   go_enter Tryz.func71, Tryz.ntmps71
   go_wp2_with fail
   go_ret
   exact hid ⟨_, _, rfl, sl_none _ _ _, Below.refl _ _⟩
 | some ad =>
   have hnil := Lib.run_eql_slice_nil (P := Tryz.prog) w 22 9 (some ad) l.length c 0 0 Tryz.underlying22
   have HSRC : Hid (∀ O, Src (w.alloc O) 1 (.slice (some ad) l.length c) l.length (l.map Value.string)) := hid fun O => Src.of_strs (Strs.below HV.out ((Below.refl _ _).alloc (Nat.le_refl _) O))
   go_enter Tryz.func71, Tryz.ntmps71
   go_wp2_with (at_builtin; refine wpList_append rfl (.tmp 5) (.tmp 6) 22 rfl w.heap.size 9 1 16 Tryz.underlying22 hi0 hz0 hz1 hz2 rfl (by decide) (.slice (some ⟨w.heap.size, 0, none⟩) 0 0) 0 [] rfl (owns_made #[] 0 (heap_alloc_new w _) (Nat.le_refl _) rfl (by decide)) (.slice (some ad) l.length c) l.length (l.map Value.string) rfl (HSRC.out _) l.length (Nat.zero_add _) (l.map Value.string) rfl (by have := HM.out; unfold maxLen; omega) (by have := HM.out; omega) (by simp) ?_; intro na nc w2 had; have HAD := hid had; clear had)
   go_ret
   exact hid ⟨_, _, rfl, strs_owns HAD.out.own HLE.out, ((Below.refl _ _).alloc (Nat.le_refl _) _).grown HAD.out.grown (by simp) (fun g hg => by simp [Value.ownBlock] at hg; omega)⟩
structure BvSt (w wr : World) (lc : Array Value) (n vn vp ve : Value) : Prop where
 box : wr.heap[w.heap.size]? = some (.cells lc 26 (0, 0))
 res : wr.heap[w.heap.size + 1]? = some (.cells #[.int .i64 0, .slice none 0 0, .slice none 0 0, .slice none 0 0] 30 (0, 0))
 val : wr.heap[w.heap.size + 1 + 1]? = some (.cells #[n, vn, vp, ve] 30 (0, 0))
 bel : Below w.heap.size w wr
section
variable {w wr w1 : World} {lc : Array Value} {n vn vp ve : Value}
theorem BvSt.cellL (h : BvSt w wr lc n vn vp ve) {i : Nat} {v : Value} (e : lc[i]? = some v) : wr.cell? ⟨w.heap.size, i, none⟩ = some v := (cell_at_block h.box).trans e
theorem BvSt.cellR (h : BvSt w wr lc n vn vp ve) {i : Nat} {v : Value} (e : (#[.int .i64 0, .slice none 0 0, .slice none 0 0, .slice none 0 0] : Array Value)[i]? = some v) : wr.cell? ⟨w.heap.size + 1, i, none⟩ = some v := (cell_at_block h.res).trans e
theorem BvSt.cellV (h : BvSt w wr lc n vn vp ve) {i : Nat} {v : Value} (e : (#[n, vn, vp, ve] : Array Value)[i]? = some v) : wr.cell? ⟨w.heap.size + 1 + 1, i, none⟩ = some v := (cell_at_block h.val).trans e
theorem BvSt.freeR (h : BvSt w wr lc n vn vp ve) (i : Nat) : wr.frozen? ⟨w.heap.size + 1, i, none⟩ = false := free_at_block h.res
theorem BvSt.freeV (h : BvSt w wr lc n vn vp ve) (i : Nat) : wr.frozen? ⟨w.heap.size + 1 + 1, i, none⟩ = false := free_at_block h.val
theorem BvSt.big (h : BvSt w wr lc n vn vp ve) : w.heap.size + 3 ≤ wr.heap.size := block_lt h.val
theorem BvSt.far (h : BvSt w wr lc n vn vp ve) (k : Below (w.heap.size + 3) wr w1) : BvSt w w1 lc n vn vp ve :=
 ⟨(k.block _ (by omega)).trans h.box, (k.block _ (by omega)).trans h.res, (k.block _ (by omega)).trans h.val, h.bel.trans (k.mono (by omega))⟩
theorem BvSt.below (h : BvSt w wr lc n vn vp ve) (k : Below wr.heap.size wr w1) : BvSt w w1 lc n vn vp ve := h.far (k.mono h.big)
theorem BvSt.alloc (h : BvSt w wr lc n vn vp ve) (O : Obj) : BvSt w (wr.alloc O) lc n vn vp ve := h.below ((Below.refl _ _).alloc (Nat.le_refl _) O)
theorem BvSt.drewN (h : BvSt w wr lc n vn vp ve) (q : Nat) : BvSt w (wr.drewN q) lc n vn vp ve := h.below (below_drewN' (Below.refl _ _) q)
theorem BvSt.grown (h : BvSt w wr lc n vn vp ve) {row : Option Nat} (hg : wr.grownBy w1 row) (hr : ∀ k, row = some k → w.heap.size + 3 ≤ k) : BvSt w w1 lc n vn vp ve :=
 h.far ((Below.refl _ _).grown hg h.big hr)
theorem BvSt.set (h : BvSt w wr lc n vn vp ve) (i : Nat) (u : Value) {n' vn' vp' ve' : Value} (hc : (#[n, vn, vp, ve]).setIfInBounds i u = #[n', vn', vp', ve']) : BvSt w (wr.setCell ⟨w.heap.size + 1 + 1, i, none⟩ u) lc n' vn' vp' ve' :=
 ⟨(Below.heap_setCell _ _ _ _ (by show w.heap.size ≠ w.heap.size + 1 + 1; omega)).trans h.box, (Below.heap_setCell _ _ _ _ (by simp)).trans h.res, by rw [← hc]; exact block_set h.val u, h.bel.setCell (by simp; omega) u⟩
theorem BvSt.post (h : BvSt w wr lc n vn vp ve) {x : Val × Bool} {y : Val} {b : Bool} (hx : valRd (only (from_ (w.heap.size + 3)) wr) y [n, vn, vp, ve]) (hR : x = (y, b)) (p q r s : Value) :
 TopPost w x (.returned (.tuple #[.agg #[n, vn, vp, ve], .bool b])) ((((wr.setCell ⟨w.heap.size + 1, 0, none⟩ p).setCell ⟨w.heap.size + 1, 1, none⟩ q).setCell ⟨w.heap.size + 1, 2, none⟩ r).setCell ⟨w.heap.size + 1, 3, none⟩ s) := by
 subst hR
 exact ⟨_, rfl, valRd_mono' ((sub_sets wr (w.heap.size + 1) (w.heap.size + 3) (by omega) p q r s).trans (only_from_mono _ (by omega))) hx, below_sets h.bel (by omega) p q r s⟩
theorem BvSt.post0 (h : BvSt w wr lc n vn vp ve) {x : Val × Bool} (hR : x = (zeroV, false)) (p q r s : Value) :
 TopPost w x (.returned (.tuple #[.agg #[.int .i64 0, .slice none 0 0, .slice none 0 0, .slice none 0 0], .bool false])) ((((wr.setCell ⟨w.heap.size + 1, 0, none⟩ p).setCell ⟨w.heap.size + 1, 1, none⟩ q).setCell ⟨w.heap.size + 1, 2, none⟩ r).setCell ⟨w.heap.size + 1, 3, none⟩ s) := by
 subst hR
 exact ⟨_, rfl, zeroV_rd _, below_sets h.bel (by omega) p q r s⟩
theorem BvSt.start (w : World) (lc : Array Value) : BvSt w (((w.alloc (.cells lc 26 (0, 0))).alloc (.cells #[.int .i64 0, .slice none 0 0, .slice none 0 0, .slice none 0 0] 30 (0, 0))).alloc (.cells #[.int .i64 0, .slice none 0 0, .slice none 0 0, .slice none 0 0] 30 (0, 0))) lc (.int .i64 0) (.slice none 0 0) (.slice none 0 0) (.slice none 0 0) :=
 ⟨block_alloc (block_alloc (heap_alloc_new _ _) _) _, block_alloc (heap_new_at _ _ _ (by simp)) _, heap_new_at _ _ _ (by simp), (((Below.refl _ _).alloc (Nat.le_refl _) _).alloc (by simp) _).alloc (by simp; omega) _⟩
end
theorem TopPost.drew {w w' : World} {x : Val × Bool} {e : Ending} (h : TopPost w x e w') : TopPost w x e w'.drew := by
 obtain ⟨cs, h1, h2, h3⟩ := h
 exact ⟨cs, h1, valRd_mono' (a := only (from_ w.heap.size) w') (only_keep fun _ hb _ => ⟨hb, rfl⟩) h2, h3.drew⟩
def TopOk (l : Lat) : Prop := ∀ (cl : List Value) (w : World), latRd w l cl → Calls Tryz.prog 39 #[.agg cl.toArray] w (TopPost w (topV l))
end Go.Proofs.YtmdjnaobllajmaaGreatDoor
