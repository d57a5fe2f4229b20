/-
  The walk of the law QuorumLeast.
-/
import Derived.Test.YtaifmlbhglfbeaaLawE
namespace Go.Proofs.Ytaifmlbhglfbeaa
open Go.RowKit

/-- A row that is not empty, and what is left of it without its first element. -/
theorem row_tail {w : World} {u : Value} {s : List Int} (h : RowOf w u s) (h1 : 1 ≤ s.length) :
    ∃ g cs, u = .slice (some ⟨g, 0, none⟩) s.length cs ∧ s.length ≤ cs ∧ ∀ q, (q = 1 ∨ s.length = 1) → Ints w (.slice (some ⟨g, q, none⟩) (s.length - 1) (cs - 1)) s.tail := by
  have hi := Ints.of_owns h
  rcases h.2 with ⟨_, hn⟩ | ⟨g, cap, cur, rfl, hb, hg, hn, hcap, hsz, htake⟩
  · omega
  · refine ⟨g, cap, rfl, hn, fun q hq => ?_⟩
    have hlt : s.tail.length = s.length - 1 := List.length_tail
    refine ⟨some ⟨g, q, none⟩, cap - 1, by rw [hlt], ⟨by simp, by rw [hlt]; omega⟩, by unfold maxLen at hcap; rw [hlt]; omega, fun i hi' => ?_⟩
    rw [hlt] at hi'
    obtain ⟨b, off, e, hcell⟩ := hi.cell (i + 1) (by omega)
    cases e
    rcases hq with rfl | hq
    · refine ⟨g, 1, rfl, ?_⟩
      rw [show 1 + i = 0 + (i + 1) by omega, hcell]
      simp
    · omega

set_option maxRecDepth 100000 in
set_option maxHeartbeats 4000000 in
theorem quorumLeast_walk (m : Int) (v : Value) (ms : List Int) (w : World) (hv : Ints w v ms) :
    Calls Try.prog 11 #[.int .i64 m, v] w fun e w' => e = .returned (.bool true) ∧ Below w.heap.size w w' := by
  have hl := hv.len
  obtain ⟨a, c, rfl⟩ := hv.shape
  have Hv := hid hv
  clear hv
  by_cases h8 : 8 < ms.length
  · go_enter Try.func11, Try.ntmps11
    go_wp2_with fail
    refine (awake_any w).mono ?_
    rintro e W ⟨rfl, hb⟩
    go_wp2_with fail
    go_ret
    exact ⟨rfl, hb⟩
  have h8' : (ms.length : Int) ≤ 8 := by omega
  cases hvd : validB m ms
  · have HV := hid hvd
    clear hvd
    go_enter Try.func11, Try.ntmps11
    go_wp2_with fail
    refine (awake_any w).mono ?_
    rintro e W ⟨rfl, hb⟩
    have H1 := hid (Hv.out.below hb)
    go_wp2_with fail
    refine (valid_any m _ ms W H1.out).mono ?_
    rintro e W ⟨rfl, rfl⟩
    rw [HV.out]
    go_wp2_with fail
    go_ret
    exact ⟨rfl, hb⟩
  · have HV := hid hvd
    clear hvd
    go_enter Try.func11, Try.ntmps11
    go_wp2_with fail
    refine (awake_any w).mono ?_
    rintro e W ⟨rfl, hb⟩
    have H0 := hid (Hv.out.below hb)
    go_wp2_with fail
    refine (valid_any m _ ms W H0.out).mono ?_
    rintro e W ⟨rfl, rfl⟩
    rw [HV.out]
    go_wp2_with fail
    refine (minimal_any m _ ms W H0.out).mono ?_
    rintro e W1 ⟨ao, co, us, rfl, hO, hb1⟩
    have L1 := hid hO.oll.llt
    have H1 := hid (H0.out.below hb1)
    replace hb := hb.trans (hb1.mono hb.size)
    clear hO hb1 H0
    go_wp2_with fail
    refine (blocking_any m _ ms W1 H1.out).mono ?_
    rintro e W2 ⟨ao2, co2, us2, rfl, hO, hb1⟩
    have LL_us2 := hid hO.oll.llt
    have LL_us := hid (L1.out.below hb1)
    have H2 := hid (H1.out.below hb1)
    replace hb := hb.trans (hb1.mono hb.size)
    clear hO hb1 H1 L1
    have hmx := LL_us.out.max
    have hmx2 := LL_us2.out.max
    have hp1 : (0 : Int) < (us.length : Int) := by have := LL_us.out.len; have := min_pos HV.out; omega
    have hp2 : (0 : Int) < (us2.length : Int) := by have := LL_us2.out.len; have := blk_pos HV.out; omega
    have hp1' : 0 < us.length := by omega
    have hp2' : 0 < us2.length := by omega
    go_wp2_with fail
    go_loopw [8] (fun i wr => ∃ (k : Nat), k ≤ us.length ∧ i = .int .i64 k ∧ Hid (∃ n, wr = W2.drewN n)) (fun i _ => us.length - (intOf i).toNat)
    case atStart => exact ⟨0, Nat.zero_le _, rfl, hid ⟨0, rfl⟩⟩
    case round =>
      obtain ⟨k, hk, rfl, Hwr⟩ := hrel
      by_cases hlt : k < us.length
      · have hkR : k < (minL m ms).length := by have := LL_us.out.len; omega
        obtain ⟨ao', co', heq, hcells⟩ := LL_us.out.shape
        cases heq
        obtain ⟨b2, off2, rfl, hc0⟩ := hcells k hlt
        have hrow0 : RowOf W2 us[k] (minL m ms)[k] := LL_us.out.els k us[k] (minL m ms)[k] (by simp [hlt]) (by simp [hkR])
        obtain ⟨f1, f2, f3, f4⟩ := min_mem HV.out (List.getElem_mem hkR)
        have hc : wr.cell? ⟨b2, off2 + k, none⟩ = some us[k] := by obtain ⟨n, rfl⟩ := Hwr.out; exact hc0
        have hrow : RowOf wr us[k] (minL m ms)[k] := by obtain ⟨n, rfl⟩ := Hwr.out; exact hrow0
        have hms : Ints wr (.slice a ms.length c) ms := by obtain ⟨n, rfl⟩ := Hwr.out; exact H2.out.drewN n
        generalize hs : (minL m ms)[k] = s at f1 f2 f3 f4 hrow
        clear hs hrow0 hc0 hcells
        obtain ⟨g, cs, hg, hcs, htail⟩ := row_tail hrow f2
        rw [hg] at hc hrow
        have HI := hid (Ints.of_owns hrow)
        have HC1 : Hid (∀ q, Calls Try.prog 22 #[.int .i64 m, .slice a ms.length c, .slice (some ⟨g, 0, none⟩) s.length cs] (wr.drewN q) fun e w' => e = .returned (.bool true) ∧ w' = wr.drewN q) :=
          hid fun q => (is_any m _ _ ms s (wr.drewN q) (hms.drewN q) (HI.out.drewN q)).mono fun e w' ⟨he, hw⟩ => ⟨by rw [he, f3], hw⟩
        have HC2 : Hid (∀ z q, Ints wr z s.tail → Calls Try.prog 22 #[.int .i64 m, .slice a ms.length c, z] (wr.drewN q) fun e w' => e = .returned (.bool false) ∧ w' = wr.drewN q) :=
          hid fun z q hz => (is_any m _ _ ms s.tail (wr.drewN q) (hms.drewN q) (hz.drewN q)).mono fun e w' ⟨he, hw⟩ => ⟨by rw [he, f4], hw⟩
        have HT := hid htail
        have HC0 : Hid (∀ q, Calls Try.prog 15 #[.int .i64 m, .int .i64 ms.length] (wr.drewN q) fun e w' => e = .returned (.int .i64 (needI m ms.length)) ∧ w' = wr.drewN q) := hid fun q => need_any _ _ _
        have hne : ((s.length : Int) != needI m ms.length) = false := by simp; omega
        have hk0 : (0 : Int) ≤ (k : Int) := by omega
        have hk1 : (k : Int) < (us.length : Int) := by omega
        have hl1 : (1 : Int) ≤ (s.length : Int) := by omega
        have hl2 : (s.length : Int) ≤ (cs : Int) := by omega
        have hl3 : 1 ≤ s.length := f2
        skip
        have hfb := faults_bd m ms.length
        have hnb := need_bd m ms.length
        clear f1 f2 f3 f4 htail hrow hg hms
        by_cases hc1 : cs = 1
        · obtain ⟨y, rfl⟩ := List.length_eq_one_iff.1 (show s.length = 1 by omega)
          subst hc1
          have HT1 : Hid (Ints wr (.slice (some ⟨g, 0, none⟩) 0 0) [y].tail) := hid (HT.out 0 (Or.inr rfl))
          have hlen1 : [y].length = 1 := rfl
          simp only [hlen1] at hne hc HC1 hl1 hl2 hl3 ⊢
          clear hlen1
          have hne1 : ((1 : Int) != needI m ms.length) = false := by have h := hne; rw [Int.natCast_one] at h; exact h
          go_wp2_with fail
          go_quiet ((first
            | (go_at_call 15; exact Calls.quiet_of_same (HC0.out _))
            | (go_at_call 22; with_reducible exact Calls.quiet_of_same (HC1.out _))
            | (go_at_call 22; exact Calls.quiet_of_same (HC2.out _ _ HT1.out))))
          go_wp2
          go_roundw
          case rel => exact ⟨k + 1, by omega, by go_num, hid (by obtain ⟨n, rfl⟩ := Hwr.out; exact ⟨n + nq, by first | rfl | rw [World.drewN_drewN]⟩)⟩
          case measure => simp [intOf]; omega
        · have HT1 : Hid (Ints wr (.slice (some ⟨g, 1, none⟩) (s.length - 1) (cs - 1)) s.tail) := hid (HT.out 1 (Or.inl rfl))
          go_wp2_with fail
          go_quiet ((first
            | (go_at_call 15; exact Calls.quiet_of_same (HC0.out _))
            | (go_at_call 22; with_reducible exact Calls.quiet_of_same (HC1.out _))
            | (go_at_call 22; exact Calls.quiet_of_same (HC2.out _ _ HT1.out))))
          go_wp2
          go_roundw
          case rel => exact ⟨k + 1, by omega, by go_num, hid (by obtain ⟨n, rfl⟩ := Hwr.out; exact ⟨n + nq, by first | rfl | rw [World.drewN_drewN]⟩)⟩
          case measure => simp [intOf]; omega
      · have Hwr1 := Hwr
        go_wp2_with fail
        obtain ⟨wo, rfl⟩ : ∃ wo : World, wo = wr := ⟨_, rfl⟩
        go_loopw [9] (fun i wr => ∃ (k : Nat), k ≤ us2.length ∧ i = .int .i64 k ∧ Hid (∃ n, wr = W2.drewN n)) (fun i _ => us2.length - (intOf i).toNat)
        case atStart => exact ⟨0, Nat.zero_le _, rfl, Hwr1⟩
        case round =>
          obtain ⟨k, hk, rfl, Hwr⟩ := hrel
          by_cases hlt : k < us2.length
          · have hkR : k < (blkL m ms).length := by have := LL_us2.out.len; omega
            obtain ⟨ao', co', heq, hcells⟩ := LL_us2.out.shape
            cases heq
            obtain ⟨b2, off2, rfl, hc0⟩ := hcells k hlt
            have hrow0 : RowOf W2 us2[k] (blkL m ms)[k] := LL_us2.out.els k us2[k] (blkL m ms)[k] (by simp [hlt]) (by simp [hkR])
            obtain ⟨f1, f2, f3, f4⟩ := blk_mem HV.out (List.getElem_mem hkR)
            have hc : wr.cell? ⟨b2, off2 + k, none⟩ = some us2[k] := by obtain ⟨n, rfl⟩ := Hwr.out; exact hc0
            have hrow : RowOf wr us2[k] (blkL m ms)[k] := by obtain ⟨n, rfl⟩ := Hwr.out; exact hrow0
            have hms : Ints wr (.slice a ms.length c) ms := by obtain ⟨n, rfl⟩ := Hwr.out; exact H2.out.drewN n
            generalize hs : (blkL m ms)[k] = s at f1 f2 f3 f4 hrow
            clear hs hrow0 hc0 hcells
            obtain ⟨g, cs, hg, hcs, htail⟩ := row_tail hrow f2
            rw [hg] at hc hrow
            have HI := hid (Ints.of_owns hrow)
            have HC1 : Hid (∀ q, Calls Try.prog 31 #[.int .i64 m, .slice a ms.length c, .slice (some ⟨g, 0, none⟩) s.length cs] (wr.drewN q) fun e w' => e = .returned (.bool true) ∧ w' = wr.drewN q) :=
              hid fun q => (blocks_any m _ _ ms s (wr.drewN q) (hms.drewN q) (HI.out.drewN q)).mono fun e w' ⟨he, hw⟩ => ⟨by rw [he, f3], hw⟩
            have HC2 : Hid (∀ z q, Ints wr z s.tail → Calls Try.prog 31 #[.int .i64 m, .slice a ms.length c, z] (wr.drewN q) fun e w' => e = .returned (.bool false) ∧ w' = wr.drewN q) :=
              hid fun z q hz => (blocks_any m _ _ ms s.tail (wr.drewN q) (hms.drewN q) (hz.drewN q)).mono fun e w' ⟨he, hw⟩ => ⟨by rw [he, f4], hw⟩
            have HT := hid htail
            have HC0 : Hid (∀ q, Calls Try.prog 13 #[.int .i64 m, .int .i64 ms.length] (wr.drewN q) fun e w' => e = .returned (.int .i64 (faultsI m ms.length)) ∧ w' = wr.drewN q) := hid fun q => faults_any _ _ _
            have hne : ((s.length : Int) != (faultsI m ms.length + 1)) = false := by simp; omega
            have hk0 : (0 : Int) ≤ (k : Int) := by omega
            have hk1 : (k : Int) < (us2.length : Int) := by omega
            have hl1 : (1 : Int) ≤ (s.length : Int) := by omega
            have hl2 : (s.length : Int) ≤ (cs : Int) := by omega
            have hl3 : 1 ≤ s.length := f2
            have hw1 : IntKind.i64.wrap (faultsI m ms.length + 1) = faultsI m ms.length + 1 := IntWalk.i64_in _ (by have := faults_bd m ms.length; omega)
            have hfb := faults_bd m ms.length
            have hnb := need_bd m ms.length
            clear f1 f2 f3 f4 htail hrow hg hms
            by_cases hc1 : cs = 1
            · obtain ⟨y, rfl⟩ := List.length_eq_one_iff.1 (show s.length = 1 by omega)
              subst hc1
              have HT1 : Hid (Ints wr (.slice (some ⟨g, 0, none⟩) 0 0) [y].tail) := hid (HT.out 0 (Or.inr rfl))
              have hlen1 : [y].length = 1 := rfl
              simp only [hlen1] at hne hc HC1 hl1 hl2 hl3 ⊢
              clear hlen1
              have hne1 : ((1 : Int) != (faultsI m ms.length + 1)) = false := by have h := hne; rw [Int.natCast_one] at h; exact h
              go_wp2_with fail
              go_quiet ((first
                | (go_at_call 13; exact Calls.quiet_of_same (HC0.out _))
                | (go_at_call 31; with_reducible exact Calls.quiet_of_same (HC1.out _))
                | (go_at_call 31; exact Calls.quiet_of_same (HC2.out _ _ HT1.out))))
              go_wp2
              go_roundw
              case rel => exact ⟨k + 1, by omega, by go_num, hid (by obtain ⟨n, rfl⟩ := Hwr.out; exact ⟨n + nq, by first | rfl | rw [World.drewN_drewN]⟩)⟩
              case measure => simp [intOf]; omega
            · have HT1 : Hid (Ints wr (.slice (some ⟨g, 1, none⟩) (s.length - 1) (cs - 1)) s.tail) := hid (HT.out 1 (Or.inl rfl))
              go_wp2_with fail
              go_quiet ((first
                | (go_at_call 13; exact Calls.quiet_of_same (HC0.out _))
                | (go_at_call 31; with_reducible exact Calls.quiet_of_same (HC1.out _))
                | (go_at_call 31; exact Calls.quiet_of_same (HC2.out _ _ HT1.out))))
              go_wp2
              go_roundw
              case rel => exact ⟨k + 1, by omega, by go_num, hid (by obtain ⟨n, rfl⟩ := Hwr.out; exact ⟨n + nq, by first | rfl | rw [World.drewN_drewN]⟩)⟩
              case measure => simp [intOf]; omega
          · have hbw : Below w.heap.size w wr := by
              obtain ⟨n, rfl⟩ := Hwr.out
              exact below_drewN' hb n
            go_wp2
            go_ret
            exact ⟨rfl, hbw⟩

end Go.Proofs.Ytaifmlbhglfbeaa
