/-
  The closure of subsets at a full choice: the choice is copied and appended to the result.
-/
import Derived.Test.YtaifmlbhglfbeaaWalkE
import Derived.OneCell
namespace Go.Proofs.Ytaifmlbhglfbeaa
open Go.RowKit

theorem leaf_post {B k : Nat} {v : Value} {ms ch : List Int} {vo : Value} {us : List Value} {xss : List (List Int)} {w w1 w2 : World} {a1 a2 : Option Addr} {c1 c2 : Nat} {row1 : Option Nat}
    (hp : PS B k v ms w vo us xss) (hrow1 : ∀ g, row1 = some g → w.heap.size ≤ g)
    (hown1 : w1.ownsRow w.heap.size 3 1 (.slice a1 ch.length c1) ch.length (ch.map (Value.int .i64)))
    (hgrow1 : (w.alloc (.cells #[] 3)).drew.grownBy w1 row1)
    (hown2 : w2.ownsRow (B + 4) 25 1 (.slice a2 (us.length + 1) c2) (us.length + 1) (us ++ [.slice a1 ch.length c1]))
    (hgrow2 : (w1.alloc (.cells #[.slice a1 ch.length c1] 25)).grownBy w2 vo.ownBlock) :
    ∃ vo' us', PS B k v ms (w2.setCell ⟨B + 2, 0, none⟩ (.slice a2 (us.length + 1) c2)) vo' us' (xss ++ [ch]) ∧ Kp (B + 4) (B + 2) w (w2.setCell ⟨B + 2, 0, none⟩ (.slice a2 (us.length + 1) c2)) := by
  have hbig := hp.big
  have k1 : Kp (B + 4) (B + 2) w w1 := (((Kp.refl (B + 4) (B + 2) w).alloc hbig (.cells #[] 3)).drew).grownNew hgrow1 hbig hrow1
  have hs1 := k1.size
  have hvo : ∀ g, vo.ownBlock = some g → B + 4 ≤ g ∧ g < w.heap.size ∧ ∃ cur, w.heap[g]? = some (.cells cur 25 (0, 0)) := fun g hg => ⟨(hp.ll.own.lt g hg).1, (hp.ll.own.lt g hg).2, (owns_tag hp.ll.own hg).2⟩
  have hvo1 : ∀ g, vo.ownBlock = some g → w1.heap[g]? = w.heap[g]? := fun g hg => by
    have hlt := (hvo g hg).2.1
    exact (hgrow1.block g (by simp; omega) (fun e => by have := hrow1 g e.symm; omega)).trans (Below.heap_alloc w _ _ hlt)
  have kk : Kp (B + 4) (B + 2) w1 (w2.setCell ⟨B + 2, 0, none⟩ (.slice a2 (us.length + 1) c2)) := by
    refine (((Kp.refl (B + 4) (B + 2) w1).alloc (by omega) (.cells #[.slice a1 ch.length c1] 25)).grown hgrow2 (by simp; omega) fun g hg => ?_).setVar (by omega) _ _
    obtain ⟨h1, h2, cur, h3⟩ := hvo g hg
    refine ⟨h1, fun cur' fr' h => ?_⟩
    rw [Below.heap_alloc _ _ _ (by omega), hvo1 g hg, h3] at h
    cases h
  have k4 := k1.trans kk
  refine ⟨.slice a2 (us.length + 1) c2, us ++ [.slice a1 ch.length c1], ⟨?_, ?_, ?_, ?_, ?_, ?_⟩, k4⟩
  · exact (k4.low B (by omega) (by omega)).trans hp.M
  · exact (k4.low (B + 1) (by omega) (by omega)).trans hp.K
  · have hO : w2.heap[B + 2]? = some (.cells #[vo] 30 (0, 0)) := by
      rw [hgrow2.block (B + 2) (by simp; omega) (fun e => by have := (hvo (B + 2) e.symm).1; omega), Below.heap_alloc _ _ _ (by omega), hgrow1.block (B + 2) (by simp; omega) (fun e => by have := hrow1 (B + 2) e.symm; omega)]
      exact (Below.heap_alloc w _ _ (by omega)).trans hp.O
    exact one_setCell hO
  · exact (k4.low (B + 3) (by omega) (by omega)).trans hp.F
  · refine OwnLL.snoc ?_ hp.ll.len (fun i u x hu hx => ?_) ?_
    · have := ownsRow_setCell_below hown2 (a := ⟨B + 2, 0, none⟩) (by show B + 2 < B + 4; omega) (.slice a2 (us.length + 1) c2)
      simpa using this
    · exact owns_of_block (hp.ll.els i u x hu hx) (fun g hg => by
        obtain ⟨hb, cur, hc⟩ := owns_tag (hp.ll.els i u x hu hx) hg
        exact k4.rows g cur (0, 0) hb hc)
    · refine owns_of_block (owns_base hown1 hbig) (fun g hg => ?_)
      obtain ⟨hb, cur, hc⟩ := owns_tag hown1 hg
      exact kk.rows g cur (0, 0) (by omega) hc
  · have := k4.size; omega

set_option maxRecDepth 100000 in
set_option maxHeartbeats 3200000 in
theorem pick_leaf (B k : Nat) (v : Value) (ms : List Int) (fr : Int) (ch : List Int) (cv : Value) (vo : Value) (us : List Value) (xss : List (List Int)) (w : World)
    (hk : k ≤ 100) (hch : ch.length = k) (hp : PS B k v ms w vo us xss) (hcv : w.ownsRow (B + 4) 3 1 cv ch.length (ch.map (Value.int .i64))) (hbd : xss.length + 1 ≤ 100000) :
    Calls Try.prog 43 #[.int .i64 fr, cv, .pointer (some ⟨B + 1, 0, none⟩), .pointer (some ⟨B + 2, 0, none⟩), .pointer (some ⟨B, 0, none⟩), .pointer (some ⟨B + 3, 0, none⟩)] w fun e w' =>
      e = .returned (.tuple #[]) ∧ ∃ vo' us', PS B k v ms w' vo' us' (xss ++ [ch]) ∧ Kp (B + 4) (B + 2) w w' := by
  obtain ⟨ac, cc, rfl⟩ := owns_shape hcv
  obtain ⟨ax, c, hax, hl, hnone, hnews, h1⟩ := (Ints.of_owns hcv).src
  cases hax
  obtain ⟨i0, hi, hz0, hz1, hz2⟩ := info_parts Try.infoInt
  obtain ⟨j0, hj, hy0, hy1, hy2⟩ := info_parts Try.infoSl
  have hcK := cell_of_blk hp.K
  have hcO := cell_of_blk hp.O
  have hfO := frozen_of_blk (off := 0) hp.O
  have hbig := hp.big
  have HK : ((ch.length : Int) == (k : Int)) = true := by simp [hch]
  have hch100 : ch.length ≤ 100 := by omega
  have Hch := hid hch; clear hch
  have Hlen := hid hp.ll.len
  have HL2 : us.length ≤ 99999 := by have := hp.ll.len; omega
  have hown0 := hp.ll.own
  have hlt := hown0.lt
  have HT := hid (fun g hg => owns_tag hown0 (g := g) hg)
  have HS : Hid (∀ w' : World, w'.heap[B + 2]? = w.heap[B + 2]? → w'.cell? ⟨B + 2, 0, none⟩ = some vo ∧ w'.frozen? ⟨B + 2, 0, none⟩ = false) :=
    hid fun w' h => ⟨(World.cell?_of_block (w := w) (a := ⟨B + 2, 0, none⟩) h).trans hcO, (World.frozen?_of_block (w := w) (a := ⟨B + 2, 0, none⟩) h).trans hfO⟩
  go_enter Try.func43, Try.ntmps43
  go_wp2_with fail
  have hcA : ∀ o, (w.alloc o).cell? ⟨B + 2, 0, none⟩ = some vo := fun o => (World.cell?_alloc_lt _ _ _ (World.block_lt_of_cell? w _ hcO)).trans hcO
  go_region_law
    (first
      | (refine step_append_any (by rfl) (.tmp 14) (.tmp 15) 25 (by rfl) w.heap.size 3 i0 (.int .i64 0) 1 8 Try.underlying25 hi hz0 hz1 hz2 rfl (by decide) _ 0 [] (by rfl) (owns_made #[] 0 (heap_alloc_new w _) (Nat.le_refl _) rfl (by decide)) ac ch.length cc (ch.map (Value.int .i64)) (by rfl) hl hnone (fun ad had j q hq => (World.cell?_alloc_lt _ _ _ (World.block_lt_of_cell? w _ (hnews ad had j q hq))).trans (hnews ad had j q hq)) h1 ch.length (Nat.zero_add _) (ch.map (Value.int .i64)) (by rfl) (by unfold maxLen; omega) (by omega) (by simp) ?_; intro a1 c1 w1 hown1 hgrow1
         have HB1 : Hid (w1.heap[B + 2]? = w.heap[B + 2]?) := hid ((hgrow1.block (B + 2) (by simp; omega) (by simp [Value.ownBlock]; omega)).trans (Below.heap_alloc w _ _ (by omega)))
         have Howns : Hid (w1.ownsRow (B + 4) 25 1 vo us.length us) := hid (owns_of_block hown0 fun g hg => (hgrow1.block g (by have := (hlt g hg).2; simp; omega) (by simp [Value.ownBlock]; have := (hlt g hg).2; omega)).trans (Below.heap_alloc w _ _ (hlt g hg).2))
         obtain ⟨hc1, hf1⟩ := HS.out w1 HB1.out
         have hcB : ∀ o, (w1.alloc o).cell? ⟨B + 2, 0, none⟩ = some vo := fun o => (World.cell?_alloc_lt _ _ _ (World.block_lt_of_cell? w1 _ hc1)).trans hc1)
      | (refine step_append_any (by rfl) (.tmp 13) (.tmp 17) 30 (by rfl) (B + 4) 25 j0 (.slice none 0 0) 1 24 Try.underlying30 hj hy0 hy1 hy2 rfl (by decide) _ us.length us (by rfl) (Howns.out.alloc _) (some ⟨w1.heap.size, 0, none⟩) 1 1 [.slice a1 ch.length c1] (by rfl) rfl (by simp) (fun ad had j q hq => by cases had; exact World.news_of_block (cs := #[.slice a1 ch.length c1]) (heap_alloc_new w1 _) j q hq) (by simp [Value.oneCell']) (us.length + 1) (by rfl) (us ++ [.slice a1 ch.length c1]) (by rfl) (by unfold maxLen; omega) (by omega) (by have := hgrow1.size; simp at this; simp; omega) ?_; intro a2 c2 w2 hown2 hgrow2
         have HB2 : Hid (w2.heap[B + 2]? = w.heap[B + 2]?) := hid ((hgrow2.block (B + 2) (by have := hgrow1.size; simp at this; simp; omega) (fun e => by have := (hlt (B + 2) e.symm).1; omega)).trans ((Below.heap_alloc w1 _ _ (by have := hgrow1.size; simp at this; omega)).trans HB1.out))
         obtain ⟨hc2, hf2⟩ := HS.out w2 HB2.out))
  all_goals
    go_wp2
    (try simp only [Exit.inBlock, Exit.then])
    refine bodyPost_ret (results_none rfl _ _ _) rfl ?_
    exact ⟨rfl, leaf_post hp (fun g hg => by simp [Value.ownBlock] at hg; omega) hown1 hgrow1 hown2 hgrow2⟩
end Go.Proofs.Ytaifmlbhglfbeaa
