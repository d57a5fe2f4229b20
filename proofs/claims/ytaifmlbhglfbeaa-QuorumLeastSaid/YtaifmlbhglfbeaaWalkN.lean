/-
  The walks of the reference's Minimal, Blocks, Blocking.
-/
import Derived.Test.YtaifmlbhglfbeaaWalkM
namespace Go.Proofs.Ytaifmlbhglfbeaa
open Go.RowKit

theorem quorums_bd (m : Int) (ms : List Int) (h : ms.length ≤ 10) : (quorumsL m ms).length ≤ 1024 ∧ ∀ (i : Nat) (hi : i < (quorumsL m ms).length), (quorumsL m ms)[i].length ≤ 1000 := by
  have h1 := subs_len ms
  have h2 : 2 ^ ms.length ≤ 2 ^ 10 := Nat.pow_le_pow_right (by omega) h
  have h3 := List.length_filter_le (isB m ms) (subsL ms)
  refine ⟨by unfold quorumsL; omega, fun i hi => ?_⟩
  have hm : (quorumsL m ms)[i] ∈ quorumsL m ms := List.getElem_mem hi
  have := ((mem_subs ms _).1 (List.mem_filter.1 hm).1).length_le
  omega

set_option maxHeartbeats 1000000 in
theorem rminimal_any (m : Int) (v : Value) (ms : List Int) (w : World) (hv : Ints w v ms) (hlen : ms.length ≤ 10) :
    Calls Try.prog 28 #[.int .i64 m, v] w (OPost (rminL m ms) w) := by
  have HV := rvalid_any m v ms w hv
  have hbd := quorums_bd m ms hlen
  cases hs : validB m ms
  · have H := hid hs; clear hs
    have hfin : ∀ n, OPost (rminL m ms) w (.returned (.slice none 0 0)) (w.drewN n) := fun n => ⟨none, 0, [], rfl, by unfold rminL; rw [H.out]; exact OLL.nil _ _, below_drewN' (Below.refl _ _) n⟩
    have HF := hid hfin
    clear hfin
    go_enter Try.func28, Try.ntmps28
    go_wp2_with fail
    refine HV.mono ?_
    rintro e w' ⟨rfl, n, rfl⟩
    rw [H.out]
    go_wp2_with fail
    go_ret
    exact HF.out n
  · have H := hid hs; clear hs
    have HB := hid hbd; clear hbd
    have Hv := hid hv
    go_enter Try.func28, Try.ntmps28
    go_wp2_with fail
    refine HV.mono ?_
    rintro e w' ⟨rfl, n, rfl⟩
    rw [H.out]
    go_wp2_with fail
    refine (quorums_any m v ms (w.drewN n) (Hv.out.drewN n) hlen).mono ?_
    rintro e w1 ⟨ao, co, us, rfl, hO, hb1⟩
    have hb : Below w.heap.size w w1 := (below_drewN' (Below.refl _ _) n).trans hb1
    go_wp2_with fail
    refine (least_any _ us (quorumsL m ms) w1 hO.llt (by have := hO.len; have := HB.out.1; omega) HB.out.2).mono ?_
    rintro e w2 ⟨ao2, co2, us2, rfl, hO2, hb2⟩
    have hfin : OPost (rminL m ms) w (.returned (.slice ao2 us2.length co2)) w2 := ⟨ao2, co2, us2, rfl, by unfold rminL; rw [H.out]; exact hO2.base hb.size, hb.trans (hb2.mono hb.size)⟩
    clear hO hO2 hb1 hb2
    go_wp2_with fail
    go_ret
    exact hfin

set_option maxRecDepth 100000 in
set_option maxHeartbeats 2000000 in
theorem rblocks_any (m : Int) (v u : Value) (ms x : List Int) (w : World) (hv : Ints w v ms) (hu : Ints w u x) (hlen : ms.length ≤ 10) :
    Calls Try.prog 32 #[.int .i64 m, v, u] w fun e w' => e = .returned (.bool (rblocksL m ms x)) ∧ Below w.heap.size w w' := by
  have HV := rvalid_any m v ms w hv
  have hbd := quorums_bd m ms hlen
  cases hs : validB m ms
  · have HR : Hid (rblocksL m ms x = false) := hid (by unfold rblocksL; rw [hs]; rfl)
    have H := hid hs; clear hs
    go_enter Try.func32, Try.ntmps32
    go_wp2_with fail
    refine HV.mono ?_
    rintro e w' ⟨rfl, n, rfl⟩
    rw [H.out]
    go_wp2_with fail
    go_ret
    exact ⟨ret_bool HR.out.symm, below_drewN' (Below.refl _ _) n⟩
  · have HR : Hid (rblocksL m ms x = (quorumsL m ms).all fun q => !((partL q x true).length == 0)) := hid (by unfold rblocksL; rw [hs]; rfl)
    have H := hid hs; clear hs
    have HB := hid hbd; clear hbd
    have Hv := hid hv
    have Hu := hid hu
    go_enter Try.func32, Try.ntmps32
    go_wp2_with fail
    refine HV.mono ?_
    rintro e w' ⟨rfl, n, rfl⟩
    rw [H.out]
    go_wp2_with fail
    refine (quorums_any m v ms (w.drewN n) (Hv.out.drewN n) hlen).mono ?_
    rintro e w1 ⟨ao, co, us, rfl, hO, hb1⟩
    have hb : Below w.heap.size w w1 := (below_drewN' (Below.refl _ _) n).trans hb1
    have hRL := hid hO.llt
    have HL := hid hO.len
    have hus : us.length ≤ 1024 := by have := hO.len; have := HB.out.1; omega
    have Hu1 := hid (Hu.out.below hb)
    clear hO hb1
    go_wp2_with fail
    go_loopw [8] (fun i wr => ∃ (k : Nat), k ≤ us.length ∧ i = .int .i64 k ∧ Hid (rblocksL m ms x = ((quorumsL m ms).drop k).all fun q => !((partL q x true).length == 0)) ∧ Below w1.heap.size w1 wr) (fun i _ => us.length - (intOf i).toNat)
    case atStart => exact ⟨0, Nat.zero_le _, rfl, hid (by rw [HR.out, List.drop_zero]), Below.refl _ _⟩
    case round =>
      obtain ⟨k, hk, rfl, HA, hnx⟩ := hrel
      by_cases hlt : k < us.length
      · have hkR : k < (quorumsL m ms).length := by have := HL.out; omega
        obtain ⟨ao', co', heq, hcells⟩ := hRL.out.shape
        cases heq
        obtain ⟨b2, off2, rfl, hc2⟩ := hcells k hlt
        have hrow : RowOf wr us[k] (quorumsL m ms)[k] := (hRL.out.els k us[k] (quorumsL m ms)[k] (by simp [hlt]) (by simp [hkR])).below hnx
        have hc2r : wr.cell? ⟨b2, off2 + k, none⟩ = some us[k] := (hnx.cell (World.block_lt_of_cell? w1 _ hc2)).trans hc2
        have HA2 : Hid (rblocksL m ms x = (!((partL (quorumsL m ms)[k] x true).length == 0) && ((quorumsL m ms).drop (k + 1)).all fun q => !((partL q x true).length == 0))) := hid (by rw [HA.out, List.drop_eq_getElem_cons hkR, List.all_cons])
        have HP := hid (part_any us[k] u (quorumsL m ms)[k] x true wr (Ints.of_owns hrow) (Hu1.out.below hnx) (by have := HB.out.2 k hkR; omega))
        have hnxs := hnx.size
        clear hcells hc2 hrow HA
        cases hz : ((partL (quorumsL m ms)[k] x true).length == 0)
        all_goals
          have HZ := hid hz
          clear hz
          go_wp2_with fail
          refine HP.out.mono ?_
          rintro e w2 ⟨ar, cr, rfl, _hown, hb2⟩
        · have hzi : (((partL (quorumsL m ms)[k] x true).length : Int) == 0) = false := by have := HZ.out; simp at this ⊢; omega
          have HB2 := hid (hnx.trans (hb2.mono hnxs))
          clear hb2 _hown
          go_wp2
          go_roundw
          case rel => exact ⟨k + 1, by omega, by go_num, hid (by rw [HA2.out, HZ.out]; rfl), HB2.out⟩
          case measure => simp [intOf]; omega
        · have hzi : (((partL (quorumsL m ms)[k] x true).length : Int) == 0) = true := by have := HZ.out; simp at this ⊢; omega
          have HB2 := hid (hb.trans ((hnx.trans (hb2.mono hnxs)).mono hb.size))
          clear hb2 _hown
          go_wp2
          go_ret
          exact ⟨ret_bool (by rw [HA2.out, HZ.out]; rfl), HB2.out⟩
      · have hdr : Hid ((quorumsL m ms).drop k = []) := hid (List.drop_eq_nil_of_le (by have := HL.out; omega))
        go_wp2
        go_ret
        exact ⟨ret_bool (by rw [HA.out, hdr.out]; rfl), hb.trans (hnx.mono hb.size)⟩

set_option maxRecDepth 100000 in
set_option maxHeartbeats 2000000 in
theorem rblocking_any (m : Int) (v : Value) (ms : List Int) (w : World) (hv : Ints w v ms) (hlen : ms.length ≤ 10) :
    Calls Try.prog 30 #[.int .i64 m, v] w (OPost (rblkL m ms) w) := by
  have HV := rvalid_any m v ms w hv
  cases hs : validB m ms
  · have H := hid hs; clear hs
    have hfin : ∀ n, OPost (rblkL m ms) w (.returned (.slice none 0 0)) (w.drewN n) := fun n => ⟨none, 0, [], rfl, by unfold rblkL; rw [H.out]; exact OLL.nil _ _, below_drewN' (Below.refl _ _) n⟩
    have HF := hid hfin
    clear hfin
    go_enter Try.func30, Try.ntmps30
    go_wp2_with fail
    refine HV.mono ?_
    rintro e w' ⟨rfl, n, rfl⟩
    rw [H.out]
    go_wp2_with fail
    go_ret
    exact HF.out n
  · have H := hid hs; clear hs
    obtain ⟨j0, hj, hy0, hy1, hy2⟩ := info_parts Try.infoSl
    have Hv := hid hv
    have hpow : 2 ^ ms.length ≤ 2 ^ 10 := Nat.pow_le_pow_right (by omega) hlen
    have hsl := subs_len ms
    go_enter Try.func30, Try.ntmps30
    go_wp2_with fail
    refine HV.mono ?_
    rintro e w' ⟨rfl, n, rfl⟩
    rw [H.out]
    go_wp2_with fail
    refine (rsubs_any 10 v ms (w.drewN n) hlen (Nat.le_refl _) (Hv.out.drewN n)).mono ?_
    rintro e w1 ⟨ao, co, us, rfl, hR, hb1⟩
    have hb : Below w.heap.size w w1 := (below_drewN' (Below.refl _ _) n).trans hb1
    have HV1 := hid (Hv.out.below hb)
    have hRL := hid hR.llt
    have hus : us.length ≤ 1024 := by have := hR.len; omega
    have HR := hid hR.len
    clear hR hpow hsl hb1
    go_wp2_with fail
    go_loopw [5, 7] (fun vo i wr => ∃ (k : Nat) (us' : List Value), k ≤ us.length ∧ i = .int .i64 k ∧ OLL w1.heap.size wr vo us' (((subsL ms).take k).filter (rblocksL m ms)) ∧ Below w1.heap.size w1 wr) (fun _ i _ => us.length - (intOf i).toNat)
    case atStart => exact ⟨0, [], Nat.zero_le _, rfl, OLL.nil _ _, Below.refl _ _⟩
    case round =>
      obtain ⟨k, us', hk, rfl, hO, hnx⟩ := hrel
      have hOl : us'.length ≤ 1024 := by
        have := hO.len
        have h2 := List.length_filter_le (rblocksL m ms) ((subsL ms).take k)
        rw [List.length_take] at h2
        omega
      by_cases hlt : k < us.length
      · have hkR : k < (subsL ms).length := by have := HR.out; omega
        obtain ⟨ao', co', heq, hcells⟩ := hRL.out.shape
        cases heq
        obtain ⟨b2, off2, rfl, hc2⟩ := hcells k hlt
        have hrow : RowOf wr us[k] (subsL ms)[k] := (hRL.out.els k us[k] (subsL ms)[k] (by simp [hlt]) (by simp [hkR])).below hnx
        have hc2r : wr.cell? ⟨b2, off2 + k, none⟩ = some us[k] := (hnx.cell (World.block_lt_of_cell? w1 _ hc2)).trans hc2
        obtain ⟨ar, cr, hur⟩ := owns_shape hrow
        have Hrow := hid hrow
        rw [hur] at hc2r Hrow
        have HFT := hid (filter_take (rblocksL m ms) (subsL ms) k hkR)
        have HI := hid (rblocks_any m _ _ ms (subsL ms)[k] wr (HV1.out.below hnx) (Ints.of_owns Hrow.out) hlen)
        have hnxs := hnx.size
        have HO := hid hO
        clear hcells hc2 hrow hur hO
        cases his : rblocksL m ms (subsL ms)[k]
        all_goals
          have HIS := hid his
          clear his
          go_wp2_with fail
          refine HI.out.mono ?_
          rintro e w2 ⟨rfl, hb2⟩
          rw [HIS.out]
          have hc3 : w2.cell? ⟨b2, off2 + k, none⟩ = some (.slice ar (subsL ms)[k].length cr) := (hb2.cell (World.block_lt_of_cell? wr _ hc2r)).trans hc2r
          have hb2s := hb2.size
          have HO2 := hid (HO.out.below hb2)
          have HB2 := hid (hnx.trans (hb2.mono hnxs))
          have Hrow2 := hid (Hrow.out.below hb2)
          clear hb2
        · go_wp2_with fail
          go_roundw
          case rel => exact ⟨k + 1, us', by omega, by go_num, by rw [HFT.out, HIS.out]; simpa using HO2.out, HB2.out⟩
          case measure => simp [intOf]; omega
        · go_wp2_with (first | (at_builtin; refine wpList_append_any rfl (.tmp 27) (.tmp 32) 30 rfl w1.heap.size 25 j0 (.slice none 0 0) 1 24 Try.underlying30 hj hy0 hy1 hy2 rfl (by decide) _ us'.length us' rfl (HO2.out.own.alloc _) (some ⟨w2.heap.size, 0, none⟩) 1 1 [.slice ar (subsL ms)[k].length cr] rfl rfl (by simp) (fun ad had jq q hq => by cases had; exact World.news_of_block (cs := #[.slice ar (subsL ms)[k].length cr]) (heap_alloc_new w2 _) jq q hq) (by simp [Value.oneCell']) (us'.length + 1) rfl (us' ++ [.slice ar (subsL ms)[k].length cr]) rfl (by unfold maxLen; omega) (by omega) (by simp; omega) ?_))
          intro a2 c2 w3 hown2 hgrow2
          have HO3 := hid (OLL.append HO2.out Hrow2.out hown2 hgrow2)
          have HB3 : Hid (Below w1.heap.size w1 w3) := hid ((HB2.out.alloc (by omega) _).grown hgrow2 (by simp; omega) (fun g hg => ((HO2.out.own).lt g hg).1))
          clear hown2 hgrow2
          go_wp2
          go_roundw
          case rel => exact ⟨k + 1, us' ++ [.slice ar (subsL ms)[k].length cr], by omega, by go_num, by rw [HFT.out, HIS.out]; simpa using HO3.out, HB3.out⟩
          case measure => simp [intOf]; omega
      · have hkl : k = us.length := by omega
        have HF : Hid (OLL w1.heap.size wr u5 us' ((subsL ms).filter (rblocksL m ms))) := hid (by
          have h := hO
          rw [hkl, HR.out, List.take_length] at h
          exact h)
        have hbds : ∀ (i : Nat) (hi : i < ((subsL ms).filter (rblocksL m ms)).length), ((subsL ms).filter (rblocksL m ms))[i].length ≤ 1000 := fun i hi => by
          have hm : ((subsL ms).filter (rblocksL m ms))[i] ∈ (subsL ms).filter (rblocksL m ms) := List.getElem_mem hi
          have := ((mem_subs ms _).1 (List.mem_filter.1 hm).1).length_le
          omega
        have HD := hid hbds
        clear hO hkl hbds
        go_wp2_with fail
        refine (least_any _ us' _ wr HF.out.llt (by omega) HD.out).mono ?_
        rintro e w2 ⟨ao2, co2, us2, rfl, hO2, hb2⟩
        have hbr : Below w.heap.size w wr := hb.trans (hnx.mono hb.size)
        have hfin : OPost (rblkL m ms) w (.returned (.slice ao2 us2.length co2)) w2 := ⟨ao2, co2, us2, rfl, by unfold rblkL; rw [H.out]; exact hO2.base hbr.size, hbr.trans (hb2.mono hbr.size)⟩
        clear hO2 hb2 hbr
        go_wp2
        go_ret
        exact hfin
end Go.Proofs.Ytaifmlbhglfbeaa
