/-
  What the statements of the chapter share, part 23: VE7, VBox.
-/
import Derived.Test.YtmdjnaobllajmaaGreatDoorE08
import Derived.Test.YtmdjnaobllajmaaGreatDoorE20
set_option linter.unusedVariables false
set_option linter.unusedSimpArgs false
set_option maxRecDepth 100000
set_option maxHeartbeats 8000000
namespace Go.Proofs.YtmdjnaobllajmaaGreatDoor
open Go.RowKit
theorem least_any (f : Nat) : ∀ (l : Lat) (cs : List Value) (w : World), SizeOf.sizeOf l ≤ f → latRd w l cs → WfL l →
 Calls Tryz.prog 62 #[.agg cs.toArray] w (ValPost w (botV l)) := by
 induction f with
 | zero => intro l cs w hn; cases l; simp at hn
 | succ f ih =>
   intro l cs w hn hl hwf
   have IH := hid ih
   have HSZ := hid hn
   have HWF := hid hwf
   obtain ⟨vn, vp, vr, rfl, ⟨hi1, hi2, hi3⟩, hns, hps, hrs⟩ := (latRd_iff _ _ _).1 hl
   obtain ⟨k, lo, hi', ns, ps, rs⟩ := l
   simp only [Lat.kind, Lat.lo, Lat.hi, Lat.names, Lat.parts, Lat.rules] at hi1 hi2 hi3 hns hps hrs ⊢
   obtain ⟨an, cn, rfl, _, _⟩ := hns.shape
   obtain ⟨ap, cp, rfl, _, hmp⟩ := hps.shape
   obtain ⟨ar, cr, rfl, _, _⟩ := hrs.shape
   have HPS := hid hps
   have HI2 := hid hi2
   have HI3 := hid hi3
   have HB := hid (botV_eq k lo hi' ns ps rs)
   have HP8 : Hid (ps.length ≤ 8) := hid (by have := HWF.out.kinds; simp only [Lat.kind, Lat.parts, Lat.names] at this; omega)
   have HPW : Hid (∀ p ∈ ps, WfL p) := hid fun p hp => HWF.out.part hp
   have HLE : Hid (∀ p ∈ ps, SizeOf.sizeOf p ≤ f) := hid fun p hp => by have := sizeOf_part (l := .mk k lo hi' ns ps rs) (p := p) hp; have := HSZ.out; omega
   generalize botV (.mk k lo hi' ns ps rs) = R at HB ⊢
   clear hl hns hps hrs hn ih hi1 hi2 hi3 hwf
   by_cases h2 : k = 2
   · have HR : Hid (R = .mk lo [] [] []) := hid (by rw [HB.out, if_pos h2])
     subst h2
     go_enter Tryz.func62, Tryz.ntmps62
     go_wp2_with fail
     refine bodyPost_ret (v := .agg #[.int .i64 lo, .slice none 0 0, .slice none 0 0, .slice none 0 0]) (by simp [results, Tryz.results62, go_sem]) rfl ⟨[_, _, _, _], rfl, by rw [HR.out]; exact valRd_flat _ _ HI2.out, by repeat (first | exact Below.refl _ _ | refine Below.setCell ?_ (by simp) _ | refine Below.alloc ?_ (by simp <;> omega) _ | refine Below.drew ?_)⟩
   by_cases h3 : k = 3
   · have HR : Hid (R = .mk hi' [] [] []) := hid (by rw [HB.out, if_neg h2, if_pos h3])
     subst h3
     clear h2
     go_enter Tryz.func62, Tryz.ntmps62
     go_wp2_with fail
     refine bodyPost_ret (v := .agg #[.int .i64 hi', .slice none 0 0, .slice none 0 0, .slice none 0 0]) (by simp [results, Tryz.results62, go_sem]) rfl ⟨[_, _, _, _], rfl, by rw [HR.out]; exact valRd_flat _ _ HI3.out, by repeat (first | exact Below.refl _ _ | refine Below.setCell ?_ (by simp) _ | refine Below.alloc ?_ (by simp <;> omega) _ | refine Below.drew ?_)⟩
   have e2 : (k == 2) = false := by simpa using h2
   have e3 : (k == 3) = false := by simpa using h3
   by_cases h67 : k = 6 ∨ k = 7
   · have HR : Hid (R = .mk 0 [] (ps.map botV) []) := hid (by rw [HB.out, if_neg h2, if_neg h3, if_pos h67])
     clear h2 h3 HB
     rcases h67 with rfl | rfl
     all_goals
      obtain ⟨i0, hi0, hz0, hz1, hz2⟩ := info_parts infoVal
      go_enter Tryz.func62, Tryz.ntmps62
      go_wp2_with fail
      go_loopw [4] (fun i wr => ∃ (j : Nat) (vo : Value) (css : List (List Value)), j ≤ ps.length ∧ i = .int .i64 j ∧ wr.heap[w.heap.size + 1 + 1]? = some (.cells #[.int .i64 0, .slice none 0 0, vo, .slice none 0 0] 30 (0, 0)) ∧
        wr.heap[w.heap.size + 1]? = some (.cells #[.int .i64 0, .slice none 0 0, .slice none 0 0, .slice none 0 0] 30 (0, 0)) ∧ Hid (wr.cell? ⟨w.heap.size, 4, none⟩ = some (.slice ap ps.length cp) ∧ w.heap.size < wr.heap.size) ∧ Hid (Below w.heap.size w wr) ∧ Hid (Rws wr (w.heap.size + 3) 30 4 valRd vo ((ps.map botV).take j) css)) (fun i _ => ps.length - (intOf i).toNat)
      case atStart => exact ⟨0, .slice none 0 0, [], Nat.zero_le _, rfl, heap_new_at _ _ _ (by simp), block_alloc (heap_new_at _ _ _ (by simp)) _, hid ⟨by first | exact cell_alloc (cell_alloc (by rw [World.cell?_alloc_at _ _ _ _ rfl]; rfl) _) _ | simp, by simp; omega⟩, hid (by repeat (first | exact Below.refl _ _ | refine Below.setCell ?_ (by simp) _ | refine Below.alloc ?_ (by simp <;> omega) _ | refine Below.drew ?_)), hid (by rw [List.take_zero]; exact Rws.nil _ _ _ _ _)⟩
      case round =>
       obtain ⟨j, vo, css, hj, rfl, hKv, hKr, HKL, HW, HRW⟩ := hrel
       have HKR := hid hKr
       clear hKr
       by_cases hlt : j < ps.length
       · obtain ⟨b, o, cs, ha, hl0, hcs, hlp⟩ := HPS.out.at j hlt
         subst ha
         obtain ⟨an0, cn0, ap0, cp0, ar0, cr0, rfl, hyi, hyn, hyp, hyr, _⟩ := latRd.lay hlp
         have HLP := hid hlp
         obtain ⟨f0, f1, f2, f3, f4, f5⟩ := (hcs.below HW.out).six
         clear hlp hcs hyi hyn hyp hyr
         obtain ⟨ao, co, rfl⟩ := owns_shape HRW.out.own
         have hKlt := block_lt hKv
         have HKV := hid hKv
         have HWB := HW
         have hl4 : wr.cell? ⟨w.heap.size, 4, none⟩ = some (.slice (some ⟨b, o, none⟩) ps.length cp) := HKL.out.1
         have HKA : Hid (wr.heap[w.heap.size + 1 + 1]? = some (.cells #[.int .i64 0, .slice none 0 0, .slice ao ((ps.map botV).take j).length co, .slice none 0 0] 30 (0, 0))) := HKV
         have hi1 : (j : Int) < (ps.length : Int) := by omega
         have hlen : ((ps.map botV).take j).length = j := by rw [List.length_take, List.length_map]; omega
         have HLEN := hid hlen
         rw [hlen] at HRW HKA
         have HRA : Hid (Rws wr (w.heap.size + 3) 30 4 valRd (.slice ao j co) ((ps.map botV).take j) css) := HRW
         have hk2 : wr.cell? ⟨w.heap.size + 1 + 1, 2, none⟩ = some (.slice ao j co) := by rw [cell_at_block HKA.out]; rfl
         have hwlt : w.heap.size + 1 + 1 < wr.heap.size := block_lt HKA.out
         have HWLT := hid hwlt
         have HJ : Hid (j + 1 ≤ 9223372036854775807 ∧ j + 1 ≤ ps.length) := hid (by omega)
         clear hlen hKv hwlt
         go_wp2_with fail
         go_region_law
          (first
            | (refine step_append (by rfl) (.tmp 29) (.tmp 36) 27 (by rfl) (w.heap.size + 3) 30 4 80 Tryz.underlying27 hi0 hz0 hz1 hz2 rfl (by decide) (.slice ao j co) j css.flatten (by rfl) (HOW.out _) _ 1 [.int .i64 (botV ps[j]).n, .slice bn (botV ps[j]).names.length bcn, .slice bp (botV ps[j]).parts.length bcp, .slice be (botV ps[j]).entries.length bce] (by rfl) (Src.of_block (cs := #[.int .i64 (botV ps[j]).n, .slice bn (botV ps[j]).names.length bcn, .slice bp (botV ps[j]).parts.length bcp, .slice be (botV ps[j]).entries.length bce]) (heap_alloc_new _ _) 4 1 1 rfl (by simp [Value.oneCell'])) (j + 1) rfl _ rfl HMX.out.1 HMX.out.2 (HBS.out _) ?_
               intro na nc w2 had
               have HAD := hid had
               have HK2 : Hid (w2.heap[w.heap.size + 1 + 1]? = some (.cells #[.int .i64 0, .slice none 0 0, .slice ao j co, .slice none 0 0] 30 (0, 0))) := hid ((had.grown.block _ (by have := HSW.out; simp; omega) HNE.out).trans (block_alloc HK1.out _))
               have hk4 : w2.cell? ⟨w.heap.size + 1 + 1, 2, none⟩ = some (.slice ao j co) := by rw [cell_at_block HK2.out]; rfl
               have hk5 : w2.frozen? ⟨w.heap.size + 1 + 1, 2, none⟩ = false := free_at_block HK2.out
               clear had)
            | (go_simp
               go_at_call 62
               refine (IH.out ps[j] [.int .i64 ps[j].kind, .int .i64 ps[j].lo, .int .i64 ps[j].hi, .slice an0 ps[j].names.length cn0, .slice ap0 ps[j].parts.length cp0, .slice ar0 ps[j].rules.length cr0] _ (HLE.out _ (List.getElem_mem hlt)) (latRd.below (HWB.out.drew) _ _ HLP.out) (HPW.out _ (List.getElem_mem hlt))).mono ?_
               rintro e w1 ⟨cs1, rfl, hv1, hb1⟩
               have HX1 := hid hv1
               obtain ⟨bn, bcn, bp, bcp, be, bce, rfl, _, hsn, hsp, hse, _⟩ := valRd.lay hv1
               have HB1 : Hid (Below wr.heap.size wr w1) := hid ((Below.refl _ _).drew.trans hb1)
               have HR1 : Hid (Rws w1 (w.heap.size + 3) 30 4 valRd (.slice ao j co) ((ps.map botV).take j) css) := hid (HRA.out.keep valRd_mono' fun b hb hl => HB1.out.block b hl)
               have HK1 : Hid (w1.heap[w.heap.size + 1 + 1]? = some (.cells #[.int .i64 0, .slice none 0 0, .slice ao j co, .slice none 0 0] 30 (0, 0))) := hid ((HB1.out.block _ HWLT.out).trans HKA.out)
               have hk3 : w1.cell? ⟨w.heap.size + 1 + 1, 2, none⟩ = some (.slice ao j co) := by rw [cell_at_block HK1.out]; rfl
               have hk3a : ∀ O, (w1.alloc O).cell? ⟨w.heap.size + 1 + 1, 2, none⟩ = some (.slice ao j co) := fun O => cell_alloc hk3 O
               have HOW : Hid (∀ O, (w1.alloc O).ownsRow (w.heap.size + 3) 30 4 (.slice ao j co) j css.flatten) := hid fun O => by have := HR1.out.own; rw [HLEN.out] at this; exact this.alloc O
               have HMX : Hid (j + 1 ≤ maxLen ∧ (j + 1) * 80 ≤ 140737488355328) := hid (by have := HP8.out; have := HJ.out; unfold maxLen; omega)
               have HBS : Hid (∀ O, w.heap.size + 3 ≤ (w1.alloc O).heap.size) := hid fun O => by have := HB1.out.size; have := HWLT.out; simp; omega
               have HSW : Hid (w.heap.size + 1 + 1 < w1.heap.size) := hid (block_lt HK1.out)
               have HNE : Hid (some (w.heap.size + 1 + 1) ≠ (Value.slice ao j co).ownBlock) := hid fun e => by have := (HOW.out (.cells #[] 0 (0, 0))).lt _ e.symm; omega
               clear hv1 hb1 hsn hsp hse))
         all_goals
          have HKF : Hid (∀ u, (w2.setCell ⟨w.heap.size + 1 + 1, 2, none⟩ u).heap[w.heap.size + 1 + 1]? = some (.cells #[.int .i64 0, .slice none 0 0, u, .slice none 0 0] 30 (0, 0))) := hid fun u => block_set HK2.out u
          have HKG : Hid (∀ u, (w2.setCell ⟨w.heap.size + 1 + 1, 2, none⟩ u).heap[w.heap.size + 1]? = some (.cells #[.int .i64 0, .slice none 0 0, .slice none 0 0, .slice none 0 0] 30 (0, 0))) := hid fun u => by
            rw [Below.heap_setCell _ _ _ _ (by simp), HAD.out.grown.block _ (by have := HSW.out; simp; omega) (fun e => by have := (HOW.out (.cells #[] 0 (0, 0))).lt _ e.symm; omega)]
            exact block_alloc ((HB1.out.block _ (by have := HWLT.out; omega)).trans HKR.out) _
          have HKB : Hid (∀ u, (w2.setCell ⟨w.heap.size + 1 + 1, 2, none⟩ u).cell? ⟨w.heap.size, 4, none⟩ = some (.slice (some ⟨b, o, none⟩) ps.length cp)) := hid fun u => by
            have q1 : (w2.setCell ⟨w.heap.size + 1 + 1, 2, none⟩ u).heap[w.heap.size]? = w2.heap[w.heap.size]? := Below.heap_setCell _ _ _ _ (by show w.heap.size ≠ w.heap.size + 1 + 1; omega)
            have q2 := HAD.out.grown.block w.heap.size (by have := HSW.out; simp; omega) (fun e => by have := (HOW.out (.cells #[] 0 (0, 0))).lt _ e.symm; omega)
            refine (World.cell?_of_block (a := ⟨w.heap.size, 4, none⟩) (q1.trans q2)).trans ?_
            exact cell_alloc ((HB1.out.cell (by have := HWLT.out; show w.heap.size < _; omega)).trans HKL.out.1) _
          have HKS : Hid (∀ u, w.heap.size < (w2.setCell ⟨w.heap.size + 1 + 1, 2, none⟩ u).heap.size) := hid fun u => by have := block_lt HK2.out; simp; omega
          have HBF : Hid (∀ u, Below w.heap.size w (w2.setCell ⟨w.heap.size + 1 + 1, 2, none⟩ u)) := hid fun u =>
           (((HWB.out.trans (HB1.out.mono HWB.out.size)).alloc (by have := HSW.out; omega) _).grown HAD.out.grown (by have := HSW.out; simp; omega) (fun g hg => by have := (HOW.out (.cells #[] 0 (0, 0))).lt g hg; omega)).setCell (by simp; omega) u
          have HRF : Hid (∀ u, Rws (w2.setCell ⟨w.heap.size + 1 + 1, 2, none⟩ u) (w.heap.size + 3) 30 4 valRd (.slice na (j + 1) nc) ((ps.map botV).take (j + 1)) (css ++ [[.int .i64 (botV ps[j]).n, .slice bn (botV ps[j]).names.length bcn, .slice bp (botV ps[j]).parts.length bcp, .slice be (botV ps[j]).entries.length bce]])) := hid fun u => by
            have hp := (HR1.out.keep valRd_mono' (w' := w1.alloc (.cells #[.int .i64 (botV ps[j]).n, .slice bn (botV ps[j]).names.length bcn, .slice bp (botV ps[j]).parts.length bcp, .slice be (botV ps[j]).entries.length bce] 30)) (fun b _ hl => Below.heap_alloc _ _ _ hl)).push valRd_mono' (x := botV ps[j]) (cs := [.int .i64 (botV ps[j]).n, .slice bn (botV ps[j]).names.length bcn, .slice bp (botV ps[j]).parts.length bcp, .slice be (botV ps[j]).entries.length bce]) HAD.out (by rw [HLEN.out]) rfl rfl
              (valRd_mono' (only_keep fun b hb hl => ⟨by
                unfold from_ at hb
                unfold butOwn
                have hb' := of_decide_eq_true hb
                simp only [Bool.and_eq_true, decide_eq_true_eq]
                refine ⟨by have := HWLT.out; have : wr.drew.heap.size = wr.heap.size := rfl; omega, fun e => ?_⟩
                have := (HRA.out.own).lt b e
                have : wr.drew.heap.size = wr.heap.size := rfl
                omega, Below.heap_alloc _ _ _ hl⟩) HX1.out)
            rw [show (ps.map botV).take (j + 1) = (ps.map botV).take j ++ [botV ps[j]] by rw [List.take_succ_eq_append_getElem (by rw [List.length_map]; exact HJ.out.2), List.getElem_map]]
            exact hp.keep valRd_mono' fun b hb hl => Below.heap_setCell _ _ _ _ (by simp; omega)
          go_wp2_with fail
          go_roundw
          case rel => exact ⟨j + 1, _, _, HJ.out.2, by go_num, HKF.out _, HKG.out _, hid ⟨HKB.out _, HKS.out _⟩, hid (HBF.out _), hid (HRF.out _)⟩
          case measure => simp [intOf]; omega
       · have hjj : j = ps.length := by omega
         subst hjj
         have HRS := hid (HRW.out.reads valRd_mono')
         rw [List.take_of_length_le (by rw [List.length_map]; exact Nat.le_refl _)] at HRS
         obtain ⟨ao, co, rfl⟩ := owns_shape HRW.out.own
         have hl4 := HKL.out.1
         have hk2 : ∀ i, wr.cell? ⟨w.heap.size + 1 + 1, i, none⟩ = #[.int .i64 0, .slice none 0 0, .slice ao ((ps.map botV).take ps.length).length co, .slice none 0 0][i]? := fun i => cell_at_block hKv
         have hk3 : ∀ i, wr.cell? ⟨w.heap.size + 1, i, none⟩ = #[.int .i64 0, .slice none 0 0, .slice none 0 0, .slice none 0 0][i]? := fun i => cell_at_block HKR.out
         have hk4 : ∀ i, wr.frozen? ⟨w.heap.size + 1, i, none⟩ = false := fun i => free_at_block HKR.out
         clear hKv
         have HBS : Hid (∀ u, Below w.heap.size w (wr.setCell ⟨w.heap.size + 1, 0, none⟩ u)) := hid fun u => HW.out.setCell (by simp) u
         go_wp2_with fail
         refine bodyPost_ret (v := .agg #[.int .i64 0, .slice none 0 0, .slice ao ((ps.map botV).take ps.length).length co, .slice none 0 0]) ?_ rfl ⟨[_, _, _, _], rfl, ?_, ?_⟩
         · simp [results, Tryz.results62, go_sem, hk3, hk2, hk4]
         · rw [HR.out]
           have hs : ∀ (a b c d : Value), Sub (only (from_ (w.heap.size + 3)) wr) (only (from_ w.heap.size) ((((wr.setCell ⟨w.heap.size + 1, 0, none⟩ a).setCell ⟨w.heap.size + 1, 1, none⟩ b).setCell ⟨w.heap.size + 1, 2, none⟩ c).setCell ⟨w.heap.size + 1, 3, none⟩ d)) := fun a b c d => only_keep fun g hg _ => by
             have hg' := of_decide_eq_true hg
             refine ⟨decide_eq_true (by omega), ?_⟩
             rw [Below.heap_setCell _ _ _ _ (by simp; omega), Below.heap_setCell _ _ _ _ (by simp; omega), Below.heap_setCell _ _ _ _ (by simp; omega), Below.heap_setCell _ _ _ _ (by simp; omega)]
           exact valRd_parts _ (SlRd.mono HRS.out (hs _ _ _ _) fun _ _ _ h => valRd_mono' (hs _ _ _ _) h)
         · exact (((HW.out.setCell (by simp) _).setCell (by simp) _).setCell (by simp) _).setCell (by simp) _
   · have HR : Hid (R = zeroV) := hid (by rw [HB.out, if_neg h2, if_neg h3, if_neg h67])
     have e6 : (k == 6) = false := by simp; omega
     have e7 : (k == 7) = false := by simp; omega
     clear h2 h3 h67
     go_enter Tryz.func62, Tryz.ntmps62
     go_wp2_with fail
     refine bodyPost_ret (v := .agg #[.int .i64 0, .slice none 0 0, .slice none 0 0, .slice none 0 0]) (by simp [results, Tryz.results62, go_sem]) rfl ⟨[_, _, _, _], rfl, by rw [HR.out]; exact valRd_flat _ _ i64_0, by repeat (first | exact Below.refl _ _ | refine Below.setCell ?_ (by simp) _ | refine Below.alloc ?_ (by simp <;> omega) _ | refine Below.drew ?_)⟩

end Go.Proofs.YtmdjnaobllajmaaGreatDoor
