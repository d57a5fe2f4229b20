/-
  The walks of the reference's Same, SameAll (of equal lists), quorums.
-/
import Derived.Test.YtaifmlbhglfbeaaWalkK
namespace Go.Proofs.Ytaifmlbhglfbeaa
open Go.RowKit

set_option maxHeartbeats 1000000 in
theorem same_eq (v u : Value) (xs : List Int) (w : World) (hv : Ints w v xs) (hu : Ints w u xs) :
    Calls Try.prog 37 #[v, u] w fun e w' => e = .returned (.bool true) ∧ ∃ n, w' = w.drewN n := by
  obtain ⟨a, cap, rfl, _, hmax, hc⟩ := hv
  obtain ⟨a2, cap2, rfl, _, _, hc2⟩ := hu
  go_enter Try.func37, Try.ntmps37
  go_wp2
  go_loopw [5] (fun i wr => ∃ (k n : Nat), wr = w.drewN n ∧ k ≤ xs.length ∧ i = .int .i64 k) (fun i _ => xs.length - (intOf i).toNat)
  case atStart => exact ⟨0, 0, rfl, Nat.zero_le _, rfl⟩
  case round =>
    obtain ⟨k, n, rfl, hk, rfl⟩ := hrel
    by_cases hlt : k < xs.length
    · obtain ⟨b, off, rfl, hcell⟩ := hc k hlt
      obtain ⟨b2, off2, rfl, hcell2⟩ := hc2 k hlt
      clear hc hc2
      have hk1 : (k : Int) < (xs.length : Int) := by omega
      go_wp2
      go_quiet (fail)
      go_wp2
      go_roundw
      case rel => exact ⟨k + 1, n + nq, by first | rfl | rw [World.drewN_drewN], by omega, by go_num⟩
      case measure => simp [intOf]; omega
    · go_wp2
      go_ret
      exact ⟨rfl, n, rfl⟩

set_option maxHeartbeats 1000000 in
theorem sameAll_eq (v u : Value) (us us2 : List Value) (xss : List (List Int)) (w : World) (hv : LLt w v us xss) (hu : LLt w u us2 xss) :
    Calls Try.prog 26 #[v, u] w fun e w' => e = .returned (.bool true) ∧ ∃ n, w' = w.drewN n := by
  obtain ⟨a, cap, rfl, hc⟩ := hv.shape
  obtain ⟨a2, cap2, rfl, hc2⟩ := hu.shape
  have hmax := hv.max
  have hl2 : us2.length = us.length := by rw [hv.len, hu.len]
  have HE1 := hid (fun i x y (h1 : us[i]? = some x) (h2 : xss[i]? = some y) => Ints.of_owns (hv.els i x y h1 h2))
  have HE2 := hid (fun i x y (h1 : us2[i]? = some x) (h2 : xss[i]? = some y) => Ints.of_owns (hu.els i x y h1 h2))
  have Hl := hid hv.len
  rw [hl2]
  have Hl2 := hid hl2
  clear hl2 hv hu
  have Hc := hid hc
  have Hc2 := hid hc2
  clear hc hc2
  go_enter Try.func26, Try.ntmps26
  go_wp2
  go_loopw [5] (fun i wr => ∃ (k : Nat), k ≤ us.length ∧ i = .int .i64 k ∧ Hid (∃ n, wr = w.drewN n)) (fun i _ => us.length - (intOf i).toNat)
  case atStart => exact ⟨0, Nat.zero_le _, rfl, hid ⟨0, rfl⟩⟩
  case round =>
    obtain ⟨k, hk, rfl, Hwr⟩ := hrel
    by_cases hlt : k < us.length
    · obtain ⟨b, off, rfl, hcell0⟩ := Hc.out k hlt
      obtain ⟨b2, off2, rfl, hcell20⟩ := Hc2.out k (by rw [Hl2.out]; exact hlt)
      have hk1 : (k : Int) < (us.length : Int) := by omega
      have H2 : k < us2.length := by rw [Hl2.out]; exact hlt
      have Hx : k < xss.length := by rw [← Hl.out]; exact hlt
      have hcell : wr.cell? ⟨b, off + k, none⟩ = some us[k] := by obtain ⟨n, rfl⟩ := Hwr.out; exact hcell0
      have hcell2 : wr.cell? ⟨b2, off2 + k, none⟩ = some us2[k] := by obtain ⟨n, rfl⟩ := Hwr.out; exact hcell20
      have HC : Hid (∀ m, Calls Try.prog 37 #[us[k], us2[k]] (wr.drewN m) fun e w' => e = .returned (.bool true) ∧ ∃ n, w' = (wr.drewN m).drewN n) := hid fun m => by
        obtain ⟨n, rfl⟩ := Hwr.out
        exact same_eq us[k] us2[k] xss[k] _ (HE1.out k us[k] xss[k] (by simp [hlt]) (by simp [Hx])) (HE2.out k us2[k] xss[k] (by simp [H2]) (by simp [Hx]))
      clear HE1 HE2 Hc Hc2 hcell0 hcell20
      go_wp2
      go_quiet ((go_at_call 37; exact Calls.quiet_of (HC.out _)))
      go_wp2
      go_roundw
      case rel => exact ⟨k + 1, by omega, by go_num, hid (by obtain ⟨n, rfl⟩ := Hwr.out; exact ⟨n + nq, by rw [World.drewN_drewN]⟩)⟩
      case measure => simp [intOf]; omega
    · have h := Hwr.out
      go_wp2
      go_ret
      exact ⟨rfl, Hwr.out⟩

theorem filter_take (p : List Int → Bool) (L : List (List Int)) (k : Nat) (h : k < L.length) : (L.take (k + 1)).filter p = (L.take k).filter p ++ (if p L[k] then [L[k]] else []) := by
  rw [List.take_succ_eq_append_getElem h, List.filter_append]
  congr 1
  cases hp : p L[k] <;> simp [hp]

set_option maxRecDepth 100000 in
set_option maxHeartbeats 2000000 in
theorem quorums_any (m : Int) (v : Value) (ms : List Int) (w : World) (hv : Ints w v ms) (hlen : ms.length ≤ 10) : Calls Try.prog 40 #[.int .i64 m, v] w (OPost (quorumsL m ms) w) := by
  obtain ⟨j0, hj, hy0, hy1, hy2⟩ := info_parts Try.infoSl
  obtain ⟨a, cap, rfl⟩ := hv.shape
  have HV := hid hv
  have hpow : 2 ^ ms.length ≤ 2 ^ 10 := Nat.pow_le_pow_right (by omega) hlen
  have hsl := subs_len ms
  go_enter Try.func40, Try.ntmps40
  go_wp2_with fail
  refine (rsubs_any 10 _ ms w hlen (Nat.le_refl _) hv).mono ?_
  rintro e w1 ⟨ao, co, us, rfl, hR, hb1⟩
  have HV1 := hid (HV.out.below hb1)
  have hRL := hid hR.llt
  have hus : us.length ≤ 1024 := by have := hR.len; omega
  have HR := hid hR.len
  clear hR hpow hsl hv
  go_wp2_with fail
  go_loopw [5, 7] (fun vo i wr => ∃ (k : Nat) (us' : List Value), k ≤ us.length ∧ i = .int .i64 k ∧ OLL w1.heap.size wr vo us' (((subsL ms).take k).filter (isB m ms)) ∧ Below w1.heap.size w1 wr) (fun _ i _ => us.length - (intOf i).toNat)
  case atStart => exact ⟨0, [], Nat.zero_le _, rfl, OLL.nil _ _, Below.refl _ _⟩
  case round =>
    obtain ⟨k, us', hk, rfl, hO, hnx⟩ := hrel
    have hOl : us'.length ≤ 1024 := by
      have := hO.len
      have h2 := List.length_filter_le (isB m ms) ((subsL ms).take k)
      rw [List.length_take] at h2
      omega
    by_cases hlt : k < us.length
    · have hkR : k < (subsL ms).length := by have := HR.out; omega
      obtain ⟨ao', co', heq, hcells⟩ := hRL.out.shape
      cases heq
      obtain ⟨b2, off2, rfl, hc2⟩ := hcells k hlt
      have hrow : RowOf wr us[k] (subsL ms)[k] := (hRL.out.els k us[k] (subsL ms)[k] (by simp [hlt]) (by simp [hkR])).below hnx
      have hc2r : wr.cell? ⟨b2, off2 + k, none⟩ = some us[k] := (hnx.cell (World.block_lt_of_cell? w1 _ hc2)).trans hc2
      obtain ⟨ar, cr, hur⟩ := owns_shape hrow
      have Hrow := hid hrow
      rw [hur] at hc2r Hrow
      have HFT := hid (filter_take (isB m ms) (subsL ms) k hkR)
      have HI := hid (ris_any m _ _ ms (subsL ms)[k] wr (HV1.out.below hnx) (Ints.of_owns Hrow.out) (by omega))
      have hnxs := hnx.size
      have HO := hid hO
      clear hcells hc2 hrow hur hO
      cases his : isB m ms (subsL ms)[k]
      all_goals
        have HIS := hid his
        clear his
        go_wp2_with fail
        refine HI.out.mono ?_
        rintro e w2 ⟨rfl, hb2⟩
        rw [HIS.out]
        have hc3 : w2.cell? ⟨b2, off2 + k, none⟩ = some (.slice ar (subsL ms)[k].length cr) := (hb2.cell (World.block_lt_of_cell? wr _ hc2r)).trans hc2r
        have hb2s := hb2.size
        have HO2 := hid (HO.out.below hb2)
        have HB2 := hid (hnx.trans (hb2.mono hnxs))
        have Hrow2 := hid (Hrow.out.below hb2)
        clear hb2
      · go_wp2_with fail
        go_roundw
        case rel => exact ⟨k + 1, us', by omega, by go_num, by rw [HFT.out, HIS.out]; simpa using HO2.out, HB2.out⟩
        case measure => simp [intOf]; omega
      · go_wp2_with (first | (at_builtin; refine wpList_append_any rfl (.tmp 23) (.tmp 28) 30 rfl w1.heap.size 25 j0 (.slice none 0 0) 1 24 Try.underlying30 hj hy0 hy1 hy2 rfl (by decide) _ us'.length us' rfl (HO2.out.own.alloc _) (some ⟨w2.heap.size, 0, none⟩) 1 1 [.slice ar (subsL ms)[k].length cr] rfl rfl (by simp) (fun ad had jq q hq => by cases had; exact World.news_of_block (cs := #[.slice ar (subsL ms)[k].length cr]) (heap_alloc_new w2 _) jq q hq) (by simp [Value.oneCell']) (us'.length + 1) rfl (us' ++ [.slice ar (subsL ms)[k].length cr]) rfl (by unfold maxLen; omega) (by omega) (by simp; omega) ?_))
        intro a2 c2 w3 hown2 hgrow2
        have HO3 := hid (OLL.append HO2.out Hrow2.out hown2 hgrow2)
        have HB3 : Hid (Below w1.heap.size w1 w3) := hid ((HB2.out.alloc (by omega) _).grown hgrow2 (by simp; omega) (fun g hg => ((HO2.out.own).lt g hg).1))
        clear hown2 hgrow2
        go_wp2
        go_roundw
        case rel => exact ⟨k + 1, us' ++ [.slice ar (subsL ms)[k].length cr], by omega, by go_num, by rw [HFT.out, HIS.out]; simpa using HO3.out, HB3.out⟩
        case measure => simp [intOf]; omega
    · have hkl : k = us.length := by omega
      have HF : Hid (OLL w1.heap.size wr u5 us' (quorumsL m ms)) := hid (by
        have h := hO
        rw [hkl, HR.out, List.take_length] at h
        exact h)
      clear hO hkl
      obtain ⟨af, cf, hvf⟩ := owns_shape HF.out.own
      have hfin : OPost (quorumsL m ms) w (.returned u5) wr := ⟨af, cf, us', congrArg Ending.returned hvf, by rw [← hvf]; exact HF.out.base hb1.size, hb1.trans (hnx.mono hb1.size)⟩
      go_wp2
      go_ret
      exact hfin
end Go.Proofs.Ytaifmlbhglfbeaa
