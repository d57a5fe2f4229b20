/-
  The closure of subsets, whole; and subsets.
-/
import Derived.Test.YtaifmlbhglfbeaaWalkF
import Derived.Deep.LoopGhost
namespace Go.Proofs.Ytaifmlbhglfbeaa
open Go.RowKit

theorem PS.below {B k : Nat} {v : Value} {ms : List Int} {w w' : World} {vo : Value} {us : List Value} {xss : List (List Int)} (h : PS B k v ms w vo us xss) (hb : Below w.heap.size w w') : PS B k v ms w' vo us xss := by
  have hbig := h.big
  exact ⟨(hb.block _ (by omega)).trans h.M, (hb.block _ (by omega)).trans h.K, (hb.block _ (by omega)).trans h.O, (hb.block _ (by omega)).trans h.F,
    h.ll.kept (fun g hg => hb.block g (h.ll.own.lt g hg).2) (fun b cur fr _ hc => hb.block b (by rw [Array.getElem?_eq_some_iff] at hc; exact hc.1)), by have := hb.size; omega⟩

theorem Kp.of_below {base Bo : Nat} {w w' : World} (h : Below w.heap.size w w') (hb : base ≤ w.heap.size) : Kp base Bo w w' :=
  ⟨h.os, h.tape, h.output, h.size, fun b hb' _ => h.block b (by omega), fun b cur fr _ hc => h.block b (by rw [Array.getElem?_eq_some_iff] at hc; exact hc.1)⟩

theorem comb_step (n : Nat) (ms : List Int) (j : Nat) (h : j < ms.length) : comb (n + 1) (ms.drop j) = (comb n (ms.drop (j + 1))).map (ms[j] :: ·) ++ comb (n + 1) (ms.drop (j + 1)) := by
  rw [drop_cons ms j h, comb]
theorem comb_nil (n : Nat) (ms : List Int) (j : Nat) (h : ms.length ≤ j) : comb (n + 1) (ms.drop j) = [] := by
  rw [List.drop_eq_nil_of_le h, comb]
theorem map_cons_append (ch : List Int) (x : Int) (l : List (List Int)) : (l.map (x :: ·)).map (ch ++ ·) = l.map ((ch ++ [x]) ++ ·) := by
  rw [List.map_map]
  exact List.map_congr_left fun a _ => by simp

set_option maxRecDepth 100000 in
set_option maxHeartbeats 3200000 in
theorem pick_any (B k : Nat) (v : Value) (ms : List Int) (hk : k ≤ 100) (hms : ms.length ≤ 100) (fuel : Nat) : ∀ (fr : Nat) (fi : Int) (ch : List Int) (cv : Value) (vo : Value) (us : List Value) (xss : List (List Int)) (w : World),
    fi = fr → fr ≤ ms.length → ms.length - fr ≤ fuel → ch.length ≤ k → PS B k v ms w vo us xss → IntsLow B w v ms → w.ownsRow (B + 4) 3 1 cv ch.length (ch.map (Value.int .i64)) →
    xss.length + (comb (k - ch.length) (ms.drop fr)).length ≤ 99999 →
    Calls Try.prog 43 #[.int .i64 fi, cv, .pointer (some ⟨B + 1, 0, none⟩), .pointer (some ⟨B + 2, 0, none⟩), .pointer (some ⟨B, 0, none⟩), .pointer (some ⟨B + 3, 0, none⟩)] w fun e w' =>
      e = .returned (.tuple #[]) ∧ ∃ vo' us', PS B k v ms w' vo' us' (xss ++ (comb (k - ch.length) (ms.drop fr)).map (ch ++ ·)) ∧ Kp (B + 4) (B + 2) w w' := by
  induction fuel with
  | zero =>
    intro fr fi ch cv vo us xss w hfi hfr hfuel hchk hp hv hcv hbd
    subst hfi
    by_cases heq : ch.length = k
    · rw [show k - ch.length = 0 by omega] at hbd ⊢
      simp only [comb, List.length_singleton, List.map_cons, List.map_nil, List.append_nil] at hbd ⊢
      exact pick_leaf B k v ms fr ch cv vo us xss w hk heq hp hcv (by omega)
    obtain ⟨n, hn⟩ : ∃ n, k - ch.length = n + 1 := ⟨k - ch.length - 1, by omega⟩
    rw [hn] at hbd ⊢
    rw [comb_nil n ms fr (by omega), List.map_nil, List.append_nil]
    have hcK := cell_of_blk hp.K
    have hM := cell_of_blk hp.M
    obtain ⟨ac, cc, rfl⟩ := owns_shape hcv
    have HK : ((ch.length : Int) == (k : Int)) = false := by simp; omega
    obtain ⟨⟨a, cap, rfl, hnn, hmax, hcells⟩, hlow⟩ := hv
    have Hp := hid hp
    clear hp hlow hcells hnn heq hn
    obtain rfl : fr = ms.length := by omega
    go_enter Try.func43, Try.ntmps43
    go_wp2_with fail
    refine wp_loop_rounds 1 ?_
    rw [rounds_succ]
    go_wp2
    go_end0
    exact ⟨rfl, vo, us, Hp.out, Kp.refl _ _ _⟩
  | succ fuel ih =>
    intro fr fi ch cv vo us xss w hfi hfr hfuel hchk hp hv hcv hbd
    subst hfi
    by_cases heq : ch.length = k
    · rw [show k - ch.length = 0 by omega] at hbd ⊢
      simp only [comb, List.length_singleton, List.map_cons, List.map_nil, List.append_nil] at hbd ⊢
      exact pick_leaf B k v ms fr ch cv vo us xss w hk heq hp hcv (by omega)
    obtain ⟨n, hn⟩ : ∃ n, k - ch.length = n + 1 := ⟨k - ch.length - 1, by omega⟩
    rw [hn] at hbd ⊢
    have Hn := hid hn; clear hn
    have IH := hid ih; clear ih
    obtain ⟨ac, cc, rfl⟩ := owns_shape hcv
    have hch100 : ch.length ≤ 100 := by omega
    obtain ⟨i0, hi, hz0, hz1, hz2⟩ := info_parts Try.infoInt
    have hcK := cell_of_blk hp.K
    have hbig := hp.big
    have hchk1 : ch.length + 1 ≤ k := by omega
    have HK : ((ch.length : Int) == (k : Int)) = false := by simp; omega
    have hv0 := hv
    obtain ⟨⟨a, cap, rfl, hnn, hmax, hcells⟩, hlow⟩ := hv
    have Hlow := hid hlow; clear hlow
    have Hcells := hid hcells; clear hcells
    have Hnn := hid hnn; clear hnn
    have Hp := hid hp; clear hp
    have Heq := hid heq; clear heq
    go_enter Try.func43, Try.ntmps43
    go_wp2_with fail
    go_loopw [8] (fun i wr => ∃ (j : Nat) (vo' : Value) (us' : List Value) (D : List (List Int)), j ≤ ms.length ∧ fr ≤ j ∧ i = .int .i64 j ∧ PS B k (.slice a ms.length cap) ms wr vo' us' (xss ++ D) ∧ Kp (B + 4) (B + 2) w wr ∧
        D ++ (comb (n + 1) (ms.drop j)).map (ch ++ ·) = (comb (n + 1) (ms.drop fr)).map (ch ++ ·)) (fun i _ => ms.length - (intOf i).toNat)
    case atStart => exact ⟨fr, vo, us, [], hfr, Nat.le_refl _, rfl, by simpa using Hp.out, Kp.refl _ _ _, by simp⟩
    case round =>
      obtain ⟨j, vo', us', D, hj, hfj, rfl, hp', hkp, hD⟩ := hrel
      have HD := hid hD; clear hD
      have hM := cell_of_blk hp'.M
      by_cases hlt : j < ms.length
      · have hwb := hp'.big
        have hvr : IntsLow B wr (.slice a ms.length cap) ms := hv0.kp (by omega) (by omega) hkp
        obtain ⟨b, off, rfl, hcell⟩ := hvr.1.cell j hlt
        have hcvr : wr.ownsRow (B + 4) 3 1 (.slice ac ch.length cc) ch.length (ch.map (Value.int .i64)) := owns_of_block hcv fun g hg => by
          obtain ⟨hb, cur, hc⟩ := owns_tag hcv hg
          exact hkp.rows g cur (0, 0) hb hc
        obtain ⟨ax, c, hax, hl, hnone, hnews, h1⟩ := (Ints.of_owns hcvr).src
        cases hax
        have hF := cell_of_blk hp'.F
        have hj0 : (0 : Int) ≤ (j : Int) := by omega
        have hj1 : (j : Int) < (ms.length : Int) := by omega
        have hjw : IntKind.i64.wrap ((j : Int) + 1) = (j : Int) + 1 := IntWalk.i64_in _ (by omega)
        have hbB : b < B := by
          rcases Hlow.out _ _ _ rfl with h | h
          · omega
          · exact h
        have HS : Hid (∀ w' : World, Kp (B + 4) (B + 2) wr w' → w'.cell? ⟨B + 3, 0, none⟩ = some (.func (.func 43) #[] #[.pointer (some ⟨B + 1, 0, none⟩), .pointer (some ⟨B + 2, 0, none⟩), .pointer (some ⟨B, 0, none⟩), .pointer (some ⟨B + 3, 0, none⟩)]) ∧ w'.cell? ⟨B, 0, none⟩ = some (.slice (some ⟨b, off, none⟩) ms.length cap) ∧ w'.cell? ⟨b, off + j, none⟩ = some (.int .i64 ms[j])) :=
          hid fun w' h => ⟨(World.cell?_of_block (w := wr) (a := ⟨B + 3, 0, none⟩) (h.low (B + 3) (by omega) (by omega))).trans hF, (World.cell?_of_block (w := wr) (a := ⟨B, 0, none⟩) (h.low B (by omega) (by omega))).trans hM, (World.cell?_of_block (w := wr) (a := ⟨b, off + j, none⟩) (h.low b (by omega) (by omega))).trans hcell⟩
        have HSB : Hid (∀ w' : World, Below wr.heap.size wr w' → w'.cell? ⟨B + 3, 0, none⟩ = some (.func (.func 43) #[] #[.pointer (some ⟨B + 1, 0, none⟩), .pointer (some ⟨B + 2, 0, none⟩), .pointer (some ⟨B, 0, none⟩), .pointer (some ⟨B + 3, 0, none⟩)]) ∧ w'.cell? ⟨B, 0, none⟩ = some (.slice (some ⟨b, off, none⟩) ms.length cap) ∧ w'.cell? ⟨b, off + j, none⟩ = some (.int .i64 ms[j])) := hid fun w' h => HS.out w' (Kp.of_below h hwb)
        have Hp' := hid hp'; clear hp'
        have HCn : Hid (k - (ch ++ [ms[j]]).length = n) := hid (by have := Hn.out; simp; omega)
        have HBd : Hid ((xss ++ D).length + (comb (k - (ch ++ [ms[j]]).length) (ms.drop (j + 1))).length ≤ 99999) := hid (by
          have e1 := congrArg List.length HD.out
          have e2 := congrArg List.length (comb_step n ms j hlt)
          rw [HCn.out]
          simp only [List.length_append, List.length_map] at e1 e2 ⊢
          omega)
        have HD2 : Hid ((D ++ (comb n (ms.drop (j + 1))).map ((ch ++ [ms[j]]) ++ ·)) ++ (comb (n + 1) (ms.drop (j + 1))).map (ch ++ ·) = (comb (n + 1) (ms.drop fr)).map (ch ++ ·)) := hid (by
          rw [← HD.out, comb_step n ms j hlt, List.map_append, map_cons_append, List.append_assoc])
        go_wp2_with fail
        go_region_held3 (fun w' => w'.cell? ⟨B + 3, 0, none⟩ = some (.func (.func 43) #[] #[.pointer (some ⟨B + 1, 0, none⟩), .pointer (some ⟨B + 2, 0, none⟩), .pointer (some ⟨B, 0, none⟩), .pointer (some ⟨B + 3, 0, none⟩)]) ∧ w'.cell? ⟨B, 0, none⟩ = some (.slice (some ⟨b, off, none⟩) ms.length cap) ∧ w'.cell? ⟨b, off + j, none⟩ = some (.int .i64 ms[j]))
          (first
            | exact HSB.out _ (Below.refl _ _).drew
            | exact HSB.out _ ((Below.refl _ _).alloc (Nat.le_refl _) _)
            | exact HSB.out _ ((Below.refl _ _).alloc (Nat.le_refl _) _).drew
            | exact HSB.out _ (((Below.refl _ _).alloc (Nat.le_refl _) _).alloc (by simp) _)
            | exact HSB.out _ (((Below.refl _ _).alloc (Nat.le_refl _) _).alloc (by simp) _).drew
            | exact HS3.out
            | exact HSB.out _ HB2.out
            | exact HSB.out _ HB1.out
            | exact HSB.out _ (HB1.out.alloc HB1.out.size _)
            | skip)
          (first
            | (refine step_append_any (by rfl) (.tmp 29) (.tmp 30) 25 (by rfl) wr.heap.size 3 i0 (.int .i64 0) 1 8 Try.underlying25 hi hz0 hz1 hz2 rfl (by decide) (.slice (some ⟨_, 0, none⟩) 0 0) 0 [] (by rfl) ?_ ac ch.length cc (ch.map (Value.int .i64)) (by rfl) hl hnone ?_ h1 ch.length (Nat.zero_add _) (ch.map (Value.int .i64)) (by rfl) (by unfold maxLen; omega) (by omega) ?_ ?_
               · first
                   | exact owns_made #[] 0 (heap_alloc_new wr _) (Nat.le_refl _) rfl (by decide)
                   | exact (owns_made #[] 0 (heap_alloc_new wr _) (Nat.le_refl _) rfl (by decide)).alloc _
                   | exact owns_made #[] 0 (heap_new_at (wr.alloc _) _ _ (by simp)) (by simp) rfl (by decide)
               · intro ad had jq q hq
                 have hq1 := hnews ad had jq q hq
                 have hq2 := World.block_lt_of_cell? wr _ hq1
                 first
                   | exact (World.cell?_alloc_lt _ _ _ hq2).trans hq1
                   | exact (World.cell?_alloc_lt _ _ _ (by simp; omega)).trans ((World.cell?_alloc_lt _ _ _ hq2).trans hq1)
               · simp <;> omega
               intro a1 c1 w1 hown1 hgrow1
               have HB1 : Hid (Below wr.heap.size wr w1) := hid (by
                 first
                   | exact (((Below.refl _ _).alloc (Nat.le_refl _) _).drew).grown hgrow1 (by simp) (fun g hg => by simp [Value.ownBlock] at hg; omega)
                   | exact ((((Below.refl _ _).alloc (Nat.le_refl _) _).alloc (by simp) _).drew).grown hgrow1 (by simp; omega) (fun g hg => by simp [Value.ownBlock] at hg; omega)))
            | (refine step_append_any (by rfl) (.tmp 31) (.tmp 36) 25 (by rfl) wr.heap.size 3 i0 (.int .i64 0) 1 8 Try.underlying25 hi hz0 hz1 hz2 rfl (by decide) (.slice a1 ch.length c1) ch.length (ch.map (Value.int .i64)) (by rfl) ?_ (some ⟨_, 0, none⟩) 1 1 [.int .i64 ms[j]] (by rfl) rfl (by simp) ?_ (by simp [Value.oneCell']) (ch.length + 1) (by rfl) (ch.map (Value.int .i64) ++ [.int .i64 ms[j]]) (by rfl) (by unfold maxLen; omega) (by omega) ?_ ?_
               · first
                   | exact hown1
                   | exact hown1.alloc _
               · intro ad had jq q hq
                 cases had
                 first
                   | exact World.news_of_block (cs := #[.int .i64 ms[j]]) (heap_alloc_new w1 _) jq q hq
                   | exact World.news_of_block (cs := #[.int .i64 ms[j]]) ((hgrow1.block _ (by simp) (by simp [Value.ownBlock])).trans (heap_new_at (wr.alloc _) _ _ (by simp))) jq q hq
                   | exact World.news_of_block (cs := #[.int .i64 ms[j]]) ((hgrow1.block _ (by simp; omega) (by simp [Value.ownBlock])).trans ((Below.heap_alloc (wr.alloc _) _ _ (by simp)).trans (heap_alloc_new wr _))) jq q hq
               · have := HB1.out.size; simp <;> omega
               intro a2 c2 w2 hown2 hgrow2
               have HB2 : Hid (Below wr.heap.size wr w2) := hid (by
                 first
                   | exact (HB1.out.alloc HB1.out.size _).grown hgrow2 (by have := HB1.out.size; simp; omega) (fun g hg => (hown1.lt g hg).1)
                   | exact HB1.out.grown hgrow2 HB1.out.size (fun g hg => (hown1.lt g hg).1)))
            | (go_at_call 43
               refine (IH.out (j + 1) ((j : Int) + 1) (ch ++ [ms[j]]) (.slice a2 (ch.length + 1) c2) vo' us' (xss ++ D) w2 (by omega) (by omega) (by omega) ?_ (Hp'.out.below HB2.out) (hvr.kp (by omega) (by omega) (Kp.of_below (base := B + 4) (Bo := B + 2) HB2.out hwb)) ?_ ?_).mono ?_
               · simp; omega
               · exact owns_base (by simpa using hown2) hwb
               · exact HBd.out
               rintro e w3 ⟨rfl, vo3, us3, hp3, hk3⟩
               have Hk : Hid (Kp (B + 4) (B + 2) wr w3) := hid ((Kp.of_below HB2.out hwb).trans hk3)
               have Hp3 := hid hp3
               clear hp3 hk3
               have HS3 := hid (HS.out w3 Hk.out)))
        all_goals
          go_wp2
          go_roundw
          case rel => exact ⟨j + 1, vo3, us3, D ++ (comb n (ms.drop (j + 1))).map ((ch ++ [ms[j]]) ++ ·), by omega, by omega, by go_num, by have := Hp3.out; rw [HCn.out, List.append_assoc] at this; exact this, hkp.trans Hk.out, HD2.out⟩
          case measure => simp [intOf]; omega
      · go_wp2
        go_end0
        refine ⟨rfl, ⟨vo', us', ?_⟩, hkp⟩
        have h1 := HD.out
        rw [comb_nil n ms j (by omega), List.map_nil, List.append_nil] at h1
        rw [← h1]
        exact hp'
end Go.Proofs.Ytaifmlbhglfbeaa
