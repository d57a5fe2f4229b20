/-
  What the statements of the chapter share, part 08: VBot, VElem, VElem2, VElem3, VElem4, VEP.
-/
import Derived.Test.YtmdjnaobllajmaaGreatDoorT07
set_option linter.unusedVariables false
set_option linter.unusedSimpArgs false
set_option maxRecDepth 100000
set_option maxHeartbeats 8000000
namespace Go.Proofs.YtmdjnaobllajmaaGreatDoor
open Go.RowKit
def ValPost (w : World) (x : Val) (e : Ending) (w' : World) : Prop := ∃ cs, e = .returned (.agg cs.toArray) ∧ valRd (only (from_ w.heap.size) w') x cs ∧ Below w.heap.size w w'
theorem botV_eq (k lo hi : Int) (ns : List ByteArray) (ps : List Lat) (rs : List Rl) : botV (.mk k lo hi ns ps rs) = if k = 2 then .mk lo [] [] [] else if k = 3 then .mk hi [] [] [] else if k = 6 ∨ k = 7 then .mk 0 [] (ps.map botV) [] else zeroV := by
 rw [botV, botVs_eq]
theorem sl_none {α : Type} (w : World) (sz : Nat) (R : α → List Value → Prop) : SlRd w sz R (.slice none 0 0) [] := ⟨none, 0, rfl, ⟨fun _ => rfl, Nat.le_refl _⟩, by decide, fun i hi => by simp at hi⟩
theorem valRd_flat (w : World) (n : Int) (h : I64 n) : valRd w (.mk n [] [] []) [.int .i64 n, .slice none 0 0, .slice none 0 0, .slice none 0 0] :=
 (valRd_iff _ _ _).2 ⟨_, _, _, rfl, h, sl_none _ _ _, sl_none _ _ _, sl_none _ _ _⟩
theorem infoVal : (Tryz.prog.info? 30).map (fun i => (i.zero, i.size, i.bytes)) = some (some (.agg #[.int .i64 0, .slice none 0 0, .slice none 0 0, .slice none 0 0]), 4, 80) := by kernel_rfl
theorem cell_at_block {w : World} {g i : Nat} {cs : Array Value} {t : TypeId} {fr : Nat × Nat} (h : w.heap[g]? = some (.cells cs t fr)) : w.cell? ⟨g, i, none⟩ = cs[i]? := cell_of_row w g i cs t fr h
theorem free_at_block {w : World} {g i : Nat} {cs : Array Value} {t : TypeId} (h : w.heap[g]? = some (.cells cs t (0, 0))) : w.frozen? ⟨g, i, none⟩ = false := by simp [World.frozen?, h]
theorem block_lt {w : World} {g : Nat} {o : Obj} (h : w.heap[g]? = some o) : g < w.heap.size := (Array.getElem?_eq_some_iff.1 h).1
theorem block_set {w : World} {g i : Nat} {cs : Array Value} {t : TypeId} {fr : Nat × Nat} (h : w.heap[g]? = some (.cells cs t fr)) (u : Value) : (w.setCell ⟨g, i, none⟩ u).heap[g]? = some (.cells (cs.setIfInBounds i u) t fr) := by
 simp [World.setCell, Array.getElem?_modify, h]
theorem block_alloc {w : World} {g : Nat} {o : Obj} (h : w.heap[g]? = some o) (O : Obj) : (w.alloc O).heap[g]? = some o := (Below.heap_alloc w O g (block_lt h)).trans h
theorem valRd_mono' {a b : World} {x : Val} {cs : List Value} (h : Sub a b) (k : valRd a x cs) : valRd b x cs := valRd.mono h _ _ k
theorem valRd_parts (w : World) {v : Value} {l : List Val} (h : SlRd w 4 (valRd w) v l) : valRd w (.mk 0 [] l []) [.int .i64 0, .slice none 0 0, v, .slice none 0 0] :=
 (valRd_iff _ _ _).2 ⟨_, _, _, rfl, i64_0, sl_none _ _ _, h, sl_none _ _ _⟩
theorem bottom_any (f : Nat) : ∀ (l : Lat) (cs : List Value) (w : World), SizeOf.sizeOf l ≤ f → latRd w l cs → WfL l →
 Calls Tryz.prog 61 #[.agg cs.toArray] w (ValPost w (botV l)) := by
 induction f with
 | zero => intro l cs w hn; cases l; simp at hn
 | succ f ih =>
   intro l cs w hn hl hwf
   have IH := hid ih
   have HSZ := hid hn
   have HWF := hid hwf
   obtain ⟨vn, vp, vr, rfl, ⟨hi1, hi2, hi3⟩, hns, hps, hrs⟩ := (latRd_iff _ _ _).1 hl
   obtain ⟨k, lo, hi', ns, ps, rs⟩ := l
   simp only [Lat.kind, Lat.lo, Lat.hi, Lat.names, Lat.parts, Lat.rules] at hi1 hi2 hi3 hns hps hrs ⊢
   obtain ⟨an, cn, rfl, _, _⟩ := hns.shape
   obtain ⟨ap, cp, rfl, _, hmp⟩ := hps.shape
   obtain ⟨ar, cr, rfl, _, _⟩ := hrs.shape
   have HPS := hid hps
   have HI2 := hid hi2
   have HI3 := hid hi3
   have HB := hid (botV_eq k lo hi' ns ps rs)
   have HP8 : Hid (ps.length ≤ 8) := hid (by have := HWF.out.kinds; simp only [Lat.kind, Lat.parts, Lat.names] at this; omega)
   have HPW : Hid (∀ p ∈ ps, WfL p) := hid fun p hp => HWF.out.part hp
   have HLE : Hid (∀ p ∈ ps, SizeOf.sizeOf p ≤ f) := hid fun p hp => by have := sizeOf_part (l := .mk k lo hi' ns ps rs) (p := p) hp; have := HSZ.out; omega
   generalize botV (.mk k lo hi' ns ps rs) = R at HB ⊢
   clear hl hns hps hrs hn ih hi1 hi2 hi3 hwf
   by_cases h2 : k = 2
   · have HR : Hid (R = .mk lo [] [] []) := hid (by rw [HB.out, if_pos h2])
     subst h2
     go_enter Tryz.func61, Tryz.ntmps61
     go_wp2_with fail
     refine bodyPost_ret (v := .agg #[.int .i64 lo, .slice none 0 0, .slice none 0 0, .slice none 0 0]) (by simp [results, Tryz.results61, go_sem]) rfl ⟨[_, _, _, _], rfl, by rw [HR.out]; exact valRd_flat _ _ HI2.out, by repeat (first | exact Below.refl _ _ | refine Below.setCell ?_ (by simp) _ | refine Below.alloc ?_ (by simp <;> omega) _ | refine Below.drew ?_)⟩
   by_cases h3 : k = 3
   · have HR : Hid (R = .mk hi' [] [] []) := hid (by rw [HB.out, if_neg h2, if_pos h3])
     subst h3
     clear h2
     go_enter Tryz.func61, Tryz.ntmps61
     go_wp2_with fail
     refine bodyPost_ret (v := .agg #[.int .i64 hi', .slice none 0 0, .slice none 0 0, .slice none 0 0]) (by simp [results, Tryz.results61, go_sem]) rfl ⟨[_, _, _, _], rfl, by rw [HR.out]; exact valRd_flat _ _ HI3.out, by repeat (first | exact Below.refl _ _ | refine Below.setCell ?_ (by simp) _ | refine Below.alloc ?_ (by simp <;> omega) _ | refine Below.drew ?_)⟩
   have e2 : (k == 2) = false := by simpa using h2
   have e3 : (k == 3) = false := by simpa using h3
   by_cases h67 : k = 6 ∨ k = 7
   · have HR : Hid (R = .mk 0 [] (ps.map botV) []) := hid (by rw [HB.out, if_neg h2, if_neg h3, if_pos h67])
     clear h2 h3 HB
     rcases h67 with rfl | rfl
     all_goals
      obtain ⟨i0, hi0, hz0, hz1, hz2⟩ := info_parts infoVal
      go_enter Tryz.func61, Tryz.ntmps61
      go_wp2_with fail
      go_loopw [5, 24] (fun _ i wr => ∃ (j : Nat) (vo : Value) (css : List (List Value)), j ≤ ps.length ∧ i = .int .i64 j ∧ wr.heap[w.heap.size + 1 + 1]? = some (.cells #[.int .i64 0, .slice none 0 0, vo, .slice none 0 0] 30 (0, 0)) ∧
        wr.heap[w.heap.size + 1]? = some (.cells #[.int .i64 0, .slice none 0 0, .slice none 0 0, .slice none 0 0] 30 (0, 0)) ∧ Hid (Below w.heap.size w wr) ∧ Hid (Rws wr (w.heap.size + 3) 30 4 valRd vo ((ps.map botV).take j) css)) (fun _ i _ => ps.length - (intOf i).toNat)
      case atStart => exact ⟨0, .slice none 0 0, [], Nat.zero_le _, rfl, heap_new_at _ _ _ (by simp), block_alloc (heap_new_at _ _ _ (by simp)) _, hid (by repeat (first | exact Below.refl _ _ | refine Below.setCell ?_ (by simp) _ | refine Below.alloc ?_ (by simp <;> omega) _ | refine Below.drew ?_)), hid (by rw [List.take_zero]; exact Rws.nil _ _ _ _ _)⟩
      case round =>
       obtain ⟨j, vo, css, hj, rfl, hKv, hKr, HW, HRW⟩ := hrel
       have HKR := hid hKr
       clear hKr
       by_cases hlt : j < ps.length
       · obtain ⟨b, o, cs, ha, hl0, hcs, hlp⟩ := HPS.out.at j hlt
         subst ha
         obtain ⟨an0, cn0, ap0, cp0, ar0, cr0, rfl, hyi, hyn, hyp, hyr, _⟩ := latRd.lay hlp
         have HLP := hid hlp
         obtain ⟨f0, f1, f2, f3, f4, f5⟩ := (hcs.below HW.out).six
         clear hlp hcs hyi hyn hyp hyr
         obtain ⟨ao, co, rfl⟩ := owns_shape HRW.out.own
         have hKlt := block_lt hKv
         have HKV := hid hKv
         go_wp2_with fail
         have HW1 : Hid (∀ O, Below wr.heap.size wr (wr.alloc O)) := hid fun O => (Below.refl _ _).alloc (Nat.le_refl _) O
         have HBX : Hid (∀ (i : Nat) (v : Value), #[Value.int .i64 ps[j].kind, .int .i64 ps[j].lo, .int .i64 ps[j].hi, .slice an0 ps[j].names.length cn0, .slice ap0 ps[j].parts.length cp0, .slice ar0 ps[j].rules.length cr0][i]? = some v → (wr.alloc (.cells #[.int .i64 ps[j].kind, .int .i64 ps[j].lo, .int .i64 ps[j].hi, .slice an0 ps[j].names.length cn0, .slice ap0 ps[j].parts.length cp0, .slice ar0 ps[j].rules.length cr0] 26)).cell? ⟨wr.heap.size, i, none⟩ = some v) := hid fun i v hv => by
           rw [World.cell?_alloc_at _ _ _ _ rfl]; exact hv
         have HWA := hid (HW1.out (.cells #[.int .i64 ps[j].kind, .int .i64 ps[j].lo, .int .i64 ps[j].hi, .slice an0 ps[j].names.length cn0, .slice ap0 ps[j].parts.length cp0, .slice ar0 ps[j].rules.length cr0] 26))
         generalize wr.alloc (.cells #[.int .i64 ps[j].kind, .int .i64 ps[j].lo, .int .i64 ps[j].hi, .slice an0 ps[j].names.length cn0, .slice ap0 ps[j].parts.length cp0, .slice ar0 ps[j].rules.length cr0] 26) = WA at HBX HWA ⊢
         have HWB : Hid (Below w.heap.size w WA) := hid (HW.out.trans (HWA.out.mono HW.out.size))
         have g0 := HBX.out 0 _ rfl
         have g1 := HBX.out 1 _ rfl
         have g2 := HBX.out 2 _ rfl
         have g3 := HBX.out 3 _ rfl
         have g4 := HBX.out 4 _ rfl
         have g5 := HBX.out 5 _ rfl
         have HKA : Hid (WA.heap[w.heap.size + 1 + 1]? = some (.cells #[.int .i64 0, .slice none 0 0, .slice ao ((ps.map botV).take j).length co, .slice none 0 0] 30 (0, 0))) := hid ((HWA.out.block _ hKlt).trans HKV.out)
         have hlen : ((ps.map botV).take j).length = j := by rw [List.length_take, List.length_map]; omega
         have HLEN := hid hlen
         rw [hlen] at HRW HKA
         have HRA : Hid (Rws WA (w.heap.size + 3) 30 4 valRd (.slice ao j co) ((ps.map botV).take j) css) := hid (HRW.out.keep valRd_mono' fun b hb hl => HWA.out.block b hl)
         have hk2 : WA.cell? ⟨w.heap.size + 1 + 1, 2, none⟩ = some (.slice ao j co) := by rw [cell_at_block HKA.out]; rfl
         have hwlt : w.heap.size + 1 + 1 < WA.heap.size := block_lt HKA.out
         have HWLT := hid hwlt
         have HJ : Hid (j + 1 ≤ 9223372036854775807 ∧ j + 1 ≤ ps.length) := hid (by omega)
         clear hlen f0 f1 f2 f3 f4 f5 hKv hwlt
         go_region_law
          (first
            | (refine step_append (by rfl) (.tmp 29) (.tmp 32) 27 (by rfl) (w.heap.size + 3) 30 4 80 Tryz.underlying27 hi0 hz0 hz1 hz2 rfl (by decide) (.slice ao j co) j css.flatten (by rfl) (HOW.out _) _ 1 [.int .i64 (botV ps[j]).n, .slice bn (botV ps[j]).names.length bcn, .slice bp (botV ps[j]).parts.length bcp, .slice be (botV ps[j]).entries.length bce] (by rfl) (Src.of_block (cs := #[.int .i64 (botV ps[j]).n, .slice bn (botV ps[j]).names.length bcn, .slice bp (botV ps[j]).parts.length bcp, .slice be (botV ps[j]).entries.length bce]) (heap_alloc_new _ _) 4 1 1 rfl (by simp [Value.oneCell'])) (j + 1) rfl _ rfl HMX.out.1 HMX.out.2 (HBS.out _) ?_
               intro na nc w2 had
               have HAD := hid had
               have HK2 : Hid (w2.heap[w.heap.size + 1 + 1]? = some (.cells #[.int .i64 0, .slice none 0 0, .slice ao j co, .slice none 0 0] 30 (0, 0))) := hid ((had.grown.block _ (by have := HSW.out; simp; omega) HNE.out).trans (block_alloc HK1.out _))
               have hk4 : w2.cell? ⟨w.heap.size + 1 + 1, 2, none⟩ = some (.slice ao j co) := by rw [cell_at_block HK2.out]; rfl
               have hk5 : w2.frozen? ⟨w.heap.size + 1 + 1, 2, none⟩ = false := free_at_block HK2.out
               clear had)
            | (go_simp
               go_at_call 61
               refine (IH.out ps[j] [.int .i64 ps[j].kind, .int .i64 ps[j].lo, .int .i64 ps[j].hi, .slice an0 ps[j].names.length cn0, .slice ap0 ps[j].parts.length cp0, .slice ar0 ps[j].rules.length cr0] _ (HLE.out _ (List.getElem_mem hlt)) (latRd.below (HWB.out.drew) _ _ HLP.out) (HPW.out _ (List.getElem_mem hlt))).mono ?_
               rintro e w1 ⟨cs1, rfl, hv1, hb1⟩
               have HX1 := hid hv1
               obtain ⟨bn, bcn, bp, bcp, be, bce, rfl, _, hsn, hsp, hse, _⟩ := valRd.lay hv1
               have HB1 : Hid (Below WA.heap.size WA w1) := hid ((Below.refl _ _).drew.trans hb1)
               have HR1 : Hid (Rws w1 (w.heap.size + 3) 30 4 valRd (.slice ao j co) ((ps.map botV).take j) css) := hid (HRA.out.keep valRd_mono' fun b hb hl => HB1.out.block b hl)
               have HK1 : Hid (w1.heap[w.heap.size + 1 + 1]? = some (.cells #[.int .i64 0, .slice none 0 0, .slice ao j co, .slice none 0 0] 30 (0, 0))) := hid ((HB1.out.block _ HWLT.out).trans HKA.out)
               have hk3 : w1.cell? ⟨w.heap.size + 1 + 1, 2, none⟩ = some (.slice ao j co) := by rw [cell_at_block HK1.out]; rfl
               have hk3a : ∀ O, (w1.alloc O).cell? ⟨w.heap.size + 1 + 1, 2, none⟩ = some (.slice ao j co) := fun O => cell_alloc hk3 O
               have HOW : Hid (∀ O, (w1.alloc O).ownsRow (w.heap.size + 3) 30 4 (.slice ao j co) j css.flatten) := hid fun O => by have := HR1.out.own; rw [HLEN.out] at this; exact this.alloc O
               have HMX : Hid (j + 1 ≤ maxLen ∧ (j + 1) * 80 ≤ 140737488355328) := hid (by have := HP8.out; have := HJ.out; unfold maxLen; omega)
               have HBS : Hid (∀ O, w.heap.size + 3 ≤ (w1.alloc O).heap.size) := hid fun O => by have := HB1.out.size; have := HWLT.out; simp; omega
               have HSW : Hid (w.heap.size + 1 + 1 < w1.heap.size) := hid (block_lt HK1.out)
               have HNE : Hid (some (w.heap.size + 1 + 1) ≠ (Value.slice ao j co).ownBlock) := hid fun e => by have := (HOW.out (.cells #[] 0 (0, 0))).lt _ e.symm; omega
               clear hv1 hb1 hsn hsp hse))
         all_goals
          have HKF : Hid (∀ u, (w2.setCell ⟨w.heap.size + 1 + 1, 2, none⟩ u).heap[w.heap.size + 1 + 1]? = some (.cells #[.int .i64 0, .slice none 0 0, u, .slice none 0 0] 30 (0, 0))) := hid fun u => block_set HK2.out u
          have HKG : Hid (∀ u, (w2.setCell ⟨w.heap.size + 1 + 1, 2, none⟩ u).heap[w.heap.size + 1]? = some (.cells #[.int .i64 0, .slice none 0 0, .slice none 0 0, .slice none 0 0] 30 (0, 0))) := hid fun u => by
            rw [Below.heap_setCell _ _ _ _ (by simp), HAD.out.grown.block _ (by have := HSW.out; simp; omega) (fun e => by have := (HOW.out (.cells #[] 0 (0, 0))).lt _ e.symm; omega)]
            exact block_alloc ((HB1.out.block _ (by have := HWLT.out; omega)).trans ((HWA.out.block _ (block_lt HKR.out)).trans HKR.out)) _
          have HBF : Hid (∀ u, Below w.heap.size w (w2.setCell ⟨w.heap.size + 1 + 1, 2, none⟩ u)) := hid fun u =>
           (((HWB.out.trans (HB1.out.mono HWB.out.size)).alloc (by have := HSW.out; omega) _).grown HAD.out.grown (by have := HSW.out; simp; omega) (fun g hg => by have := (HOW.out (.cells #[] 0 (0, 0))).lt g hg; omega)).setCell (by simp; omega) u
          have HRF : Hid (∀ u, Rws (w2.setCell ⟨w.heap.size + 1 + 1, 2, none⟩ u) (w.heap.size + 3) 30 4 valRd (.slice na (j + 1) nc) ((ps.map botV).take (j + 1)) (css ++ [[.int .i64 (botV ps[j]).n, .slice bn (botV ps[j]).names.length bcn, .slice bp (botV ps[j]).parts.length bcp, .slice be (botV ps[j]).entries.length bce]])) := hid fun u => by
            have hp := (HR1.out.keep valRd_mono' (w' := w1.alloc (.cells #[.int .i64 (botV ps[j]).n, .slice bn (botV ps[j]).names.length bcn, .slice bp (botV ps[j]).parts.length bcp, .slice be (botV ps[j]).entries.length bce] 30)) (fun b _ hl => Below.heap_alloc _ _ _ hl)).push valRd_mono' (x := botV ps[j]) (cs := [.int .i64 (botV ps[j]).n, .slice bn (botV ps[j]).names.length bcn, .slice bp (botV ps[j]).parts.length bcp, .slice be (botV ps[j]).entries.length bce]) HAD.out (by rw [HLEN.out]) rfl rfl
              (valRd_mono' (only_keep fun b hb hl => ⟨by
                unfold from_ at hb
                unfold butOwn
                have hb' := of_decide_eq_true hb
                simp only [Bool.and_eq_true, decide_eq_true_eq]
                refine ⟨by have := HWLT.out; have : WA.drew.heap.size = WA.heap.size := rfl; omega, fun e => ?_⟩
                have := (HRA.out.own).lt b e
                have : WA.drew.heap.size = WA.heap.size := rfl
                omega, Below.heap_alloc _ _ _ hl⟩) HX1.out)
            rw [show (ps.map botV).take (j + 1) = (ps.map botV).take j ++ [botV ps[j]] by rw [List.take_succ_eq_append_getElem (by rw [List.length_map]; exact HJ.out.2), List.getElem_map]]
            exact hp.keep valRd_mono' fun b hb hl => Below.heap_setCell _ _ _ _ (by simp; omega)
          go_wp2_with fail
          go_roundw
          case rel => exact ⟨j + 1, _, _, HJ.out.2, by go_num, HKF.out _, HKG.out _, hid (HBF.out _), hid (HRF.out _)⟩
          case measure => simp [intOf]; omega
       · have hjj : j = ps.length := by omega
         subst hjj
         have HRS := hid (HRW.out.reads valRd_mono')
         rw [List.take_of_length_le (by rw [List.length_map]; exact Nat.le_refl _)] at HRS
         obtain ⟨ao, co, rfl⟩ := owns_shape HRW.out.own
         have hk2 : ∀ i, wr.cell? ⟨w.heap.size + 1 + 1, i, none⟩ = #[.int .i64 0, .slice none 0 0, .slice ao ((ps.map botV).take ps.length).length co, .slice none 0 0][i]? := fun i => cell_at_block hKv
         have hk3 : ∀ i, wr.cell? ⟨w.heap.size + 1, i, none⟩ = #[.int .i64 0, .slice none 0 0, .slice none 0 0, .slice none 0 0][i]? := fun i => cell_at_block HKR.out
         have hk4 : ∀ i, wr.frozen? ⟨w.heap.size + 1, i, none⟩ = false := fun i => free_at_block HKR.out
         clear hKv
         have HBS : Hid (∀ u, Below w.heap.size w (wr.setCell ⟨w.heap.size + 1, 0, none⟩ u)) := hid fun u => HW.out.setCell (by simp) u
         go_wp2_with fail
         refine bodyPost_ret (v := .agg #[.int .i64 0, .slice none 0 0, .slice ao ((ps.map botV).take ps.length).length co, .slice none 0 0]) ?_ rfl ⟨[_, _, _, _], rfl, ?_, ?_⟩
         · simp [results, Tryz.results61, go_sem, hk3, hk2, hk4]
         · rw [HR.out]
           have hs : ∀ (a b c d : Value), Sub (only (from_ (w.heap.size + 3)) wr) (only (from_ w.heap.size) ((((wr.setCell ⟨w.heap.size + 1, 0, none⟩ a).setCell ⟨w.heap.size + 1, 1, none⟩ b).setCell ⟨w.heap.size + 1, 2, none⟩ c).setCell ⟨w.heap.size + 1, 3, none⟩ d)) := fun a b c d => only_keep fun g hg _ => by
             have hg' := of_decide_eq_true hg
             refine ⟨decide_eq_true (by omega), ?_⟩
             rw [Below.heap_setCell _ _ _ _ (by simp; omega), Below.heap_setCell _ _ _ _ (by simp; omega), Below.heap_setCell _ _ _ _ (by simp; omega), Below.heap_setCell _ _ _ _ (by simp; omega)]
           exact valRd_parts _ (SlRd.mono HRS.out (hs _ _ _ _) fun _ _ _ h => valRd_mono' (hs _ _ _ _) h)
         · exact (((HW.out.setCell (by simp) _).setCell (by simp) _).setCell (by simp) _).setCell (by simp) _
   · have HR : Hid (R = zeroV) := hid (by rw [HB.out, if_neg h2, if_neg h3, if_neg h67])
     have e6 : (k == 6) = false := by simp; omega
     have e7 : (k == 7) = false := by simp; omega
     clear h2 h3 h67
     go_enter Tryz.func61, Tryz.ntmps61
     go_wp2_with fail
     refine bodyPost_ret (v := .agg #[.int .i64 0, .slice none 0 0, .slice none 0 0, .slice none 0 0]) (by simp [results, Tryz.results61, go_sem]) rfl ⟨[_, _, _, _], rfl, by rw [HR.out]; exact valRd_flat _ _ i64_0, by repeat (first | exact Below.refl _ _ | refine Below.setCell ?_ (by simp) _ | refine Below.alloc ?_ (by simp <;> omega) _ | refine Below.drew ?_)⟩
theorem used_hid {w W : World} {v : Val} {a b c d : Value} (HB : Hid (∀ x : Ext W, Below w.heap.size w x.1)) (HV : Hid (valRd w v [a, b, c, d])) :
 Hid (∀ (q1 q2 q3 q4 : Bool) (x : Ext W), Calls Tryz.prog 64 #[.agg #[a, b, c, d], .bool q1, .bool q2, .bool q3, .bool q4] x.1 fun e w' => e = .returned (.bool (usedB v q1 q2 q3 q4)) ∧ ∃ y : Ext W, w' = y.1) :=
 hid fun _ _ _ _ x => ext_call x (used_any _ [a, b, c, d] _ _ _ _ _ (valRd.below (HB.out x) _ _ HV.out))
theorem Ext.sub {W : World} (x : Ext W) : Sub W x.1 := Sub.of_below x.2
theorem ext_self (W : World) : ∃ x : Ext W, W = x.1 := ⟨⟨W, Below.refl _ _⟩, rfl⟩
theorem elemB_eq (l : Lat) (v : Val) : elemB l v = (if l.kind = 1 then usedB v true false false false && decide (v.n = 0 ∨ v.n = 1)
 else if l.kind = 2 ∨ l.kind = 3 then usedB v true false false false && decide (l.lo ≤ v.n ∧ v.n ≤ l.hi)
 else if l.kind = 4 then usedB v false true false false && allowedB l.names v.names
 else if l.kind = 10 then usedB v false true false false && allowedB l.names v.names && closedB l.rules v.names
 else if l.kind = 8 then (if v.n = 0 ∨ v.n = 2 then usedB v true false false false else if v.n = 1 then usedB v true true false false && decide (v.names.length = 1) && allowedB l.names v.names else false)
 else if l.kind = 9 then usedB v false false false true && regB v.entries
 else if l.kind = 5 then usedB v false true true false && decide (v.names.length = v.parts.length) && allowedB l.names v.names && mapB l.parts v.parts
 else usedB v false false true false && decide (v.parts.length = l.parts.length) && elemsB l.parts v.parts) := by
 cases l
 rw [elemB]
 rfl
theorem elem_1 (lo hi' : Int) (ns : List ByteArray) (ps : List Lat) (rs : List Rl) (an ap ar : Option Addr) (cn cp cr : Nat) (vn : Int) (vns : List ByteArray) (vps : List Val) (ves : List En) (bn bp be : Option Addr) (bcn bcp bce : Nat) (w : World)
 (HL : Hid (latRd w (.mk 1 lo hi' ns ps rs) [.int .i64 1, .int .i64 lo, .int .i64 hi', .slice an ns.length cn, .slice ap ps.length cp, .slice ar rs.length cr])) (HV : Hid (valRd w (.mk vn vns vps ves) [.int .i64 vn, .slice bn vns.length bcn, .slice bp vps.length bcp, .slice be ves.length bce])) :
 Calls Tryz.prog 37 #[.agg #[.int .i64 1, .int .i64 lo, .int .i64 hi', .slice an ns.length cn, .slice ap ps.length cp, .slice ar rs.length cr], .agg #[.int .i64 vn, .slice bn vns.length bcn, .slice bp vps.length bcp, .slice be ves.length bce]] w fun e w' => e = .returned (.bool (elemB (.mk 1 lo hi' ns ps rs) (.mk vn vns vps ves))) ∧ Below w.heap.size w w' := by
 have HE : Hid (elemB (.mk 1 lo hi' ns ps rs) (.mk vn vns vps ves) = (usedB (.mk vn vns vps ves) true false false false && decide (vn = 0 ∨ vn = 1))) := hid (by rw [elemB_eq]; rfl)
 generalize elemB (.mk 1 lo hi' ns ps rs) (.mk vn vns vps ves) = R at HE ⊢
 obtain ⟨W2, hW, HB, HBl, HBv⟩ := two_box w #[.int .i64 1, .int .i64 lo, .int .i64 hi', .slice an ns.length cn, .slice ap ps.length cp, .slice ar rs.length cr] #[.int .i64 vn, .slice bn vns.length bcn, .slice bp vps.length bcp, .slice be ves.length bce] 26 30
 go_enter Tryz.func37, Tryz.ntmps37
 go_wp2_with fail
 rw [hW.out]
 clear hW
 obtain ⟨x0, hx⟩ := ext_self W2
 rw [hx]
 clear hx
 have l0 : ∀ x : Ext W2, x.1.cell? ⟨w.heap.size, 0, none⟩ = some (.int .i64 1) := fun x => HBl.out.ext x 0 _ rfl
 obtain ⟨v0, v1, v2, v3⟩ := bx4 fun x : Ext W2 => HBv.out.ext x
 have HCU := used_hid HB HV
 go_wp2_with (first | (go_at_call 64; refine (HCU.out _ _ _ _ _).mono ?_; rintro e w1 ⟨rfl, y, rfl⟩))
 all_goals
  go_ret
  exact ⟨ret_bool (by rw [HE.out] <;> (simp_all <;> rfl)), HB.out _⟩
theorem elem_23 (k : Int) (hk : k = 2 ∨ k = 3) (lo hi' : Int) (ns : List ByteArray) (ps : List Lat) (rs : List Rl) (an ap ar : Option Addr) (cn cp cr : Nat) (vn : Int) (vns : List ByteArray) (vps : List Val) (ves : List En) (bn bp be : Option Addr) (bcn bcp bce : Nat) (w : World)
 (HL : Hid (latRd w (.mk k lo hi' ns ps rs) [.int .i64 k, .int .i64 lo, .int .i64 hi', .slice an ns.length cn, .slice ap ps.length cp, .slice ar rs.length cr])) (HV : Hid (valRd w (.mk vn vns vps ves) [.int .i64 vn, .slice bn vns.length bcn, .slice bp vps.length bcp, .slice be ves.length bce])) :
 Calls Tryz.prog 37 #[.agg #[.int .i64 k, .int .i64 lo, .int .i64 hi', .slice an ns.length cn, .slice ap ps.length cp, .slice ar rs.length cr], .agg #[.int .i64 vn, .slice bn vns.length bcn, .slice bp vps.length bcp, .slice be ves.length bce]] w fun e w' => e = .returned (.bool (elemB (.mk k lo hi' ns ps rs) (.mk vn vns vps ves))) ∧ Below w.heap.size w w' := by
 have HE : Hid (elemB (.mk k lo hi' ns ps rs) (.mk vn vns vps ves) = (usedB (.mk vn vns vps ves) true false false false && decide (lo ≤ vn ∧ vn ≤ hi'))) := hid (by rw [elemB_eq]; rcases hk with rfl | rfl <;> rfl)
 generalize elemB (.mk k lo hi' ns ps rs) (.mk vn vns vps ves) = R at HE ⊢
 obtain ⟨W2, hW, HB, HBl, HBv⟩ := two_box w #[.int .i64 k, .int .i64 lo, .int .i64 hi', .slice an ns.length cn, .slice ap ps.length cp, .slice ar rs.length cr] #[.int .i64 vn, .slice bn vns.length bcn, .slice bp vps.length bcp, .slice be ves.length bce] 26 30
 rcases hk with rfl | rfl
 all_goals
  go_enter Tryz.func37, Tryz.ntmps37
  go_wp2_with fail
  rw [hW.out]
  clear hW
  obtain ⟨x0, hx⟩ := ext_self W2
  rw [hx]
  clear hx
  obtain ⟨l0, l1, l2⟩ := bx3 fun x : Ext W2 => HBl.out.ext x
  obtain ⟨v0, v1, v2, v3⟩ := bx4 fun x : Ext W2 => HBv.out.ext x
  have HCU := used_hid HB HV
  go_wp2_with (first | (go_at_call 64; refine (HCU.out _ _ _ _ _).mono ?_; rintro e w1 ⟨rfl, y, rfl⟩))
  all_goals
   go_ret
   exact ⟨ret_bool (by rw [HE.out] <;> (simp_all <;> omega)), HB.out _⟩
theorem elem_4 (lo hi' : Int) (ns : List ByteArray) (ps : List Lat) (rs : List Rl) (an ap ar : Option Addr) (cn cp cr : Nat) (vn : Int) (vns : List ByteArray) (vps : List Val) (ves : List En) (bn bp be : Option Addr) (bcn bcp bce : Nat) (w : World)
 (HL : Hid (latRd w (.mk 4 lo hi' ns ps rs) [.int .i64 4, .int .i64 lo, .int .i64 hi', .slice an ns.length cn, .slice ap ps.length cp, .slice ar rs.length cr])) (HV : Hid (valRd w (.mk vn vns vps ves) [.int .i64 vn, .slice bn vns.length bcn, .slice bp vps.length bcp, .slice be ves.length bce])) :
 Calls Tryz.prog 37 #[.agg #[.int .i64 4, .int .i64 lo, .int .i64 hi', .slice an ns.length cn, .slice ap ps.length cp, .slice ar rs.length cr], .agg #[.int .i64 vn, .slice bn vns.length bcn, .slice bp vps.length bcp, .slice be ves.length bce]] w fun e w' => e = .returned (.bool (elemB (.mk 4 lo hi' ns ps rs) (.mk vn vns vps ves))) ∧ Below w.heap.size w w' := by
 have HE : Hid (elemB (.mk 4 lo hi' ns ps rs) (.mk vn vns vps ves) = (usedB (.mk vn vns vps ves) false true false false && allowedB ns vns)) := hid (by rw [elemB_eq]; rfl)
 generalize elemB (.mk 4 lo hi' ns ps rs) (.mk vn vns vps ves) = R at HE ⊢
 obtain ⟨W2, hW, HB, HBl, HBv⟩ := two_box w #[.int .i64 4, .int .i64 lo, .int .i64 hi', .slice an ns.length cn, .slice ap ps.length cp, .slice ar rs.length cr] #[.int .i64 vn, .slice bn vns.length bcn, .slice bp vps.length bcp, .slice be ves.length bce] 26 30
 go_enter Tryz.func37, Tryz.ntmps37
 go_wp2_with fail
 rw [hW.out]
 clear hW
 obtain ⟨x0, hx⟩ := ext_self W2
 rw [hx]
 clear hx
 obtain ⟨l0, -, -, l3⟩ := bx4 fun x : Ext W2 => HBl.out.ext x
 obtain ⟨v0, v1, v2, v3⟩ := bx4 fun x : Ext W2 => HBv.out.ext x
 have HCU := used_hid HB HV
 have HCA : Hid (∀ x : Ext W2, Calls Tryz.prog 65 #[.slice an ns.length cn, .slice bn vns.length bcn] x.1 fun e w' => e = .returned (.bool (allowedB ns vns)) ∧ ∃ y : Ext W2, w' = y.1) := hid fun x => by
   obtain ⟨_, _, _, hh, _, h3, _⟩ := (latRd_iff _ _ _).1 (latRd.below (HB.out x) _ _ HL.out)
   obtain ⟨_, _, _, gg, _, g3, _⟩ := (valRd_iff _ _ _).1 (valRd.below (HB.out x) _ _ HV.out)
   cases hh; cases gg
   exact ext_call x (allowed_any _ _ ns vns _ h3 g3)
 go_wp2_with (first | (go_at_call 64; refine (HCU.out _ _ _ _ _).mono ?_; rintro e w1 ⟨rfl, y, rfl⟩) | (go_at_call 65; refine (HCA.out _).mono ?_; rintro e w1 ⟨rfl, y, rfl⟩))
 all_goals
  go_ret
  exact ⟨ret_bool (by rw [HE.out] <;> (simp_all)), HB.out _⟩
theorem elem_10 (lo hi' : Int) (ns : List ByteArray) (ps : List Lat) (rs : List Rl) (an ap ar : Option Addr) (cn cp cr : Nat) (vn : Int) (vns : List ByteArray) (vps : List Val) (ves : List En) (bn bp be : Option Addr) (bcn bcp bce : Nat) (w : World)
 (HL : Hid (latRd w (.mk 10 lo hi' ns ps rs) [.int .i64 10, .int .i64 lo, .int .i64 hi', .slice an ns.length cn, .slice ap ps.length cp, .slice ar rs.length cr])) (HV : Hid (valRd w (.mk vn vns vps ves) [.int .i64 vn, .slice bn vns.length bcn, .slice bp vps.length bcp, .slice be ves.length bce])) :
 Calls Tryz.prog 37 #[.agg #[.int .i64 10, .int .i64 lo, .int .i64 hi', .slice an ns.length cn, .slice ap ps.length cp, .slice ar rs.length cr], .agg #[.int .i64 vn, .slice bn vns.length bcn, .slice bp vps.length bcp, .slice be ves.length bce]] w fun e w' => e = .returned (.bool (elemB (.mk 10 lo hi' ns ps rs) (.mk vn vns vps ves))) ∧ Below w.heap.size w w' := by
 have HE : Hid (elemB (.mk 10 lo hi' ns ps rs) (.mk vn vns vps ves) = (usedB (.mk vn vns vps ves) false true false false && allowedB ns vns && closedB rs vns)) := hid (by rw [elemB_eq]; rfl)
 generalize elemB (.mk 10 lo hi' ns ps rs) (.mk vn vns vps ves) = R at HE ⊢
 obtain ⟨W2, hW, HB, HBl, HBv⟩ := two_box w #[.int .i64 10, .int .i64 lo, .int .i64 hi', .slice an ns.length cn, .slice ap ps.length cp, .slice ar rs.length cr] #[.int .i64 vn, .slice bn vns.length bcn, .slice bp vps.length bcp, .slice be ves.length bce] 26 30
 go_enter Tryz.func37, Tryz.ntmps37
 go_wp2_with fail
 rw [hW.out]
 clear hW
 obtain ⟨x0, hx⟩ := ext_self W2
 rw [hx]
 clear hx
 obtain ⟨l0, -, -, l3, -, l5⟩ := bx6 fun x : Ext W2 => HBl.out.ext x
 obtain ⟨v0, v1, v2, v3⟩ := bx4 fun x : Ext W2 => HBv.out.ext x
 have HCU := used_hid HB HV
 have HCA : Hid (∀ x : Ext W2, Calls Tryz.prog 65 #[.slice an ns.length cn, .slice bn vns.length bcn] x.1 fun e w' => e = .returned (.bool (allowedB ns vns)) ∧ ∃ y : Ext W2, w' = y.1) := hid fun x => by
   obtain ⟨_, _, _, hh, _, h3, _⟩ := (latRd_iff _ _ _).1 (latRd.below (HB.out x) _ _ HL.out)
   obtain ⟨_, _, _, gg, _, g3, _⟩ := (valRd_iff _ _ _).1 (valRd.below (HB.out x) _ _ HV.out)
   cases hh; cases gg
   exact ext_call x (allowed_any _ _ ns vns _ h3 g3)
 have HCC : Hid (∀ x : Ext W2, Calls Tryz.prog 66 #[.slice ar rs.length cr, .slice bn vns.length bcn] x.1 fun e w' => e = .returned (.bool (closedB rs vns)) ∧ ∃ y : Ext W2, w' = y.1) := hid fun x => by
   obtain ⟨_, _, _, hh, _, _, _, h5⟩ := (latRd_iff _ _ _).1 (latRd.below (HB.out x) _ _ HL.out)
   obtain ⟨_, _, _, gg, _, g3, _⟩ := (valRd_iff _ _ _).1 (valRd.below (HB.out x) _ _ HV.out)
   cases hh; cases gg
   exact ext_call x (closed_any _ _ rs vns _ h5 g3)
 go_wp2_with (first | (go_at_call 64; refine (HCU.out _ _ _ _ _).mono ?_; rintro e w1 ⟨rfl, y, rfl⟩) | (go_at_call 65; refine (HCA.out _).mono ?_; rintro e w1 ⟨rfl, y, rfl⟩) | (go_at_call 66; refine (HCC.out _).mono ?_; rintro e w1 ⟨rfl, y, rfl⟩))
 all_goals
  go_ret
  exact ⟨ret_bool (by rw [HE.out] <;> (simp_all)), HB.out _⟩
theorem elem_9 (lo hi' : Int) (ns : List ByteArray) (ps : List Lat) (rs : List Rl) (an ap ar : Option Addr) (cn cp cr : Nat) (vn : Int) (vns : List ByteArray) (vps : List Val) (ves : List En) (bn bp be : Option Addr) (bcn bcp bce : Nat) (w : World)
 (HL : Hid (latRd w (.mk 9 lo hi' ns ps rs) [.int .i64 9, .int .i64 lo, .int .i64 hi', .slice an ns.length cn, .slice ap ps.length cp, .slice ar rs.length cr])) (HV : Hid (valRd w (.mk vn vns vps ves) [.int .i64 vn, .slice bn vns.length bcn, .slice bp vps.length bcp, .slice be ves.length bce])) :
 Calls Tryz.prog 37 #[.agg #[.int .i64 9, .int .i64 lo, .int .i64 hi', .slice an ns.length cn, .slice ap ps.length cp, .slice ar rs.length cr], .agg #[.int .i64 vn, .slice bn vns.length bcn, .slice bp vps.length bcp, .slice be ves.length bce]] w fun e w' => e = .returned (.bool (elemB (.mk 9 lo hi' ns ps rs) (.mk vn vns vps ves))) ∧ Below w.heap.size w w' := by
 have HE : Hid (elemB (.mk 9 lo hi' ns ps rs) (.mk vn vns vps ves) = (usedB (.mk vn vns vps ves) false false false true && regB ves)) := hid (by rw [elemB_eq]; rfl)
 generalize elemB (.mk 9 lo hi' ns ps rs) (.mk vn vns vps ves) = R at HE ⊢
 obtain ⟨W2, hW, HB, HBl, HBv⟩ := two_box w #[.int .i64 9, .int .i64 lo, .int .i64 hi', .slice an ns.length cn, .slice ap ps.length cp, .slice ar rs.length cr] #[.int .i64 vn, .slice bn vns.length bcn, .slice bp vps.length bcp, .slice be ves.length bce] 26 30
 go_enter Tryz.func37, Tryz.ntmps37
 go_wp2_with fail
 rw [hW.out]
 clear hW
 obtain ⟨x0, hx⟩ := ext_self W2
 rw [hx]
 clear hx
 have l0 : ∀ x : Ext W2, x.1.cell? ⟨w.heap.size, 0, none⟩ = some (.int .i64 9) := fun x => HBl.out.ext x 0 _ rfl
 obtain ⟨v0, v1, v2, v3⟩ := bx4 fun x : Ext W2 => HBv.out.ext x
 have HCU := used_hid HB HV
 have HCR : Hid (∀ x : Ext W2, Calls Tryz.prog 67 #[.slice be ves.length bce] x.1 fun e w' => e = .returned (.bool (regB ves)) ∧ ∃ y : Ext W2, w' = y.1) := hid fun x => by
   obtain ⟨_, _, _, gg, _, _, _, g5⟩ := (valRd_iff _ _ _).1 (valRd.below (HB.out x) _ _ HV.out)
   cases gg
   exact ext_call x (register_any _ ves _ g5)
 go_wp2_with (first | (go_at_call 64; refine (HCU.out _ _ _ _ _).mono ?_; rintro e w1 ⟨rfl, y, rfl⟩) | (go_at_call 67; refine (HCR.out _).mono ?_; rintro e w1 ⟨rfl, y, rfl⟩))
 all_goals
  go_ret
  exact ⟨ret_bool (by rw [HE.out] <;> (simp_all)), HB.out _⟩
theorem elem_8_0 (lo hi' : Int) (ns : List ByteArray) (ps : List Lat) (rs : List Rl) (an ap ar : Option Addr) (cn cp cr : Nat) (vns : List ByteArray) (vps : List Val) (ves : List En) (bn bp be : Option Addr) (bcn bcp bce : Nat) (w : World)
 (HL : Hid (latRd w (.mk 8 lo hi' ns ps rs) [.int .i64 8, .int .i64 lo, .int .i64 hi', .slice an ns.length cn, .slice ap ps.length cp, .slice ar rs.length cr])) (HV : Hid (valRd w (.mk 0 vns vps ves) [.int .i64 0, .slice bn vns.length bcn, .slice bp vps.length bcp, .slice be ves.length bce])) :
 Calls Tryz.prog 37 #[.agg #[.int .i64 8, .int .i64 lo, .int .i64 hi', .slice an ns.length cn, .slice ap ps.length cp, .slice ar rs.length cr], .agg #[.int .i64 0, .slice bn vns.length bcn, .slice bp vps.length bcp, .slice be ves.length bce]] w fun e w' => e = .returned (.bool (elemB (.mk 8 lo hi' ns ps rs) (.mk 0 vns vps ves))) ∧ Below w.heap.size w w' := by
 have HE : Hid (elemB (.mk 8 lo hi' ns ps rs) (.mk 0 vns vps ves) = (usedB (.mk 0 vns vps ves) true false false false)) := hid (by rw [elemB_eq]; rfl)
 generalize elemB (.mk 8 lo hi' ns ps rs) (.mk 0 vns vps ves) = R at HE ⊢
 obtain ⟨W2, hW, HB, HBl, HBv⟩ := two_box w #[.int .i64 8, .int .i64 lo, .int .i64 hi', .slice an ns.length cn, .slice ap ps.length cp, .slice ar rs.length cr] #[.int .i64 0, .slice bn vns.length bcn, .slice bp vps.length bcp, .slice be ves.length bce] 26 30
 go_enter Tryz.func37, Tryz.ntmps37
 go_wp2_with fail
 rw [hW.out]
 clear hW
 obtain ⟨x0, hx⟩ := ext_self W2
 rw [hx]
 clear hx
 obtain ⟨l0, -, -, l3⟩ := bx4 fun x : Ext W2 => HBl.out.ext x
 obtain ⟨v0, v1, v2, v3⟩ := bx4 fun x : Ext W2 => HBv.out.ext x
 have HCU := used_hid HB HV
 have HCA : Hid (∀ x : Ext W2, Calls Tryz.prog 65 #[.slice an ns.length cn, .slice bn vns.length bcn] x.1 fun e w' => e = .returned (.bool (allowedB ns vns)) ∧ ∃ y : Ext W2, w' = y.1) := hid fun x => by
   obtain ⟨_, _, _, hh, _, h3, _⟩ := (latRd_iff _ _ _).1 (latRd.below (HB.out x) _ _ HL.out)
   obtain ⟨_, _, _, gg, _, g3, _⟩ := (valRd_iff _ _ _).1 (valRd.below (HB.out x) _ _ HV.out)
   cases hh; cases gg
   exact ext_call x (allowed_any _ _ ns vns _ h3 g3)
 go_wp2_with (first | (go_at_call 64; refine (HCU.out _ _ _ _ _).mono ?_; rintro e w1 ⟨rfl, y, rfl⟩))
 all_goals
  go_ret
  exact ⟨ret_bool (by rw [HE.out] <;> (simp_all <;> (intros; omega))), HB.out _⟩
theorem elem_8_2 (lo hi' : Int) (ns : List ByteArray) (ps : List Lat) (rs : List Rl) (an ap ar : Option Addr) (cn cp cr : Nat) (vns : List ByteArray) (vps : List Val) (ves : List En) (bn bp be : Option Addr) (bcn bcp bce : Nat) (w : World)
 (HL : Hid (latRd w (.mk 8 lo hi' ns ps rs) [.int .i64 8, .int .i64 lo, .int .i64 hi', .slice an ns.length cn, .slice ap ps.length cp, .slice ar rs.length cr])) (HV : Hid (valRd w (.mk 2 vns vps ves) [.int .i64 2, .slice bn vns.length bcn, .slice bp vps.length bcp, .slice be ves.length bce])) :
 Calls Tryz.prog 37 #[.agg #[.int .i64 8, .int .i64 lo, .int .i64 hi', .slice an ns.length cn, .slice ap ps.length cp, .slice ar rs.length cr], .agg #[.int .i64 2, .slice bn vns.length bcn, .slice bp vps.length bcp, .slice be ves.length bce]] w fun e w' => e = .returned (.bool (elemB (.mk 8 lo hi' ns ps rs) (.mk 2 vns vps ves))) ∧ Below w.heap.size w w' := by
 have HE : Hid (elemB (.mk 8 lo hi' ns ps rs) (.mk 2 vns vps ves) = (usedB (.mk 2 vns vps ves) true false false false)) := hid (by rw [elemB_eq]; rfl)
 generalize elemB (.mk 8 lo hi' ns ps rs) (.mk 2 vns vps ves) = R at HE ⊢
 obtain ⟨W2, hW, HB, HBl, HBv⟩ := two_box w #[.int .i64 8, .int .i64 lo, .int .i64 hi', .slice an ns.length cn, .slice ap ps.length cp, .slice ar rs.length cr] #[.int .i64 2, .slice bn vns.length bcn, .slice bp vps.length bcp, .slice be ves.length bce] 26 30
 go_enter Tryz.func37, Tryz.ntmps37
 go_wp2_with fail
 rw [hW.out]
 clear hW
 obtain ⟨x0, hx⟩ := ext_self W2
 rw [hx]
 clear hx
 obtain ⟨l0, -, -, l3⟩ := bx4 fun x : Ext W2 => HBl.out.ext x
 obtain ⟨v0, v1, v2, v3⟩ := bx4 fun x : Ext W2 => HBv.out.ext x
 have HCU := used_hid HB HV
 have HCA : Hid (∀ x : Ext W2, Calls Tryz.prog 65 #[.slice an ns.length cn, .slice bn vns.length bcn] x.1 fun e w' => e = .returned (.bool (allowedB ns vns)) ∧ ∃ y : Ext W2, w' = y.1) := hid fun x => by
   obtain ⟨_, _, _, hh, _, h3, _⟩ := (latRd_iff _ _ _).1 (latRd.below (HB.out x) _ _ HL.out)
   obtain ⟨_, _, _, gg, _, g3, _⟩ := (valRd_iff _ _ _).1 (valRd.below (HB.out x) _ _ HV.out)
   cases hh; cases gg
   exact ext_call x (allowed_any _ _ ns vns _ h3 g3)
 go_wp2_with (first | (go_at_call 64; refine (HCU.out _ _ _ _ _).mono ?_; rintro e w1 ⟨rfl, y, rfl⟩))
 all_goals
  go_ret
  exact ⟨ret_bool (by rw [HE.out] <;> (simp_all <;> (intros; omega))), HB.out _⟩
theorem elem_8_1 (lo hi' : Int) (ns : List ByteArray) (ps : List Lat) (rs : List Rl) (an ap ar : Option Addr) (cn cp cr : Nat) (vns : List ByteArray) (vps : List Val) (ves : List En) (bn bp be : Option Addr) (bcn bcp bce : Nat) (w : World)
 (HL : Hid (latRd w (.mk 8 lo hi' ns ps rs) [.int .i64 8, .int .i64 lo, .int .i64 hi', .slice an ns.length cn, .slice ap ps.length cp, .slice ar rs.length cr])) (HV : Hid (valRd w (.mk 1 vns vps ves) [.int .i64 1, .slice bn vns.length bcn, .slice bp vps.length bcp, .slice be ves.length bce])) :
 Calls Tryz.prog 37 #[.agg #[.int .i64 8, .int .i64 lo, .int .i64 hi', .slice an ns.length cn, .slice ap ps.length cp, .slice ar rs.length cr], .agg #[.int .i64 1, .slice bn vns.length bcn, .slice bp vps.length bcp, .slice be ves.length bce]] w fun e w' => e = .returned (.bool (elemB (.mk 8 lo hi' ns ps rs) (.mk 1 vns vps ves))) ∧ Below w.heap.size w w' := by
 have HE : Hid (elemB (.mk 8 lo hi' ns ps rs) (.mk 1 vns vps ves) = (usedB (.mk 1 vns vps ves) true true false false && decide (vns.length = 1) && allowedB ns vns)) := hid (by rw [elemB_eq]; rfl)
 generalize elemB (.mk 8 lo hi' ns ps rs) (.mk 1 vns vps ves) = R at HE ⊢
 obtain ⟨W2, hW, HB, HBl, HBv⟩ := two_box w #[.int .i64 8, .int .i64 lo, .int .i64 hi', .slice an ns.length cn, .slice ap ps.length cp, .slice ar rs.length cr] #[.int .i64 1, .slice bn vns.length bcn, .slice bp vps.length bcp, .slice be ves.length bce] 26 30
 go_enter Tryz.func37, Tryz.ntmps37
 go_wp2_with fail
 rw [hW.out]
 clear hW
 obtain ⟨x0, hx⟩ := ext_self W2
 rw [hx]
 clear hx
 obtain ⟨l0, -, -, l3⟩ := bx4 fun x : Ext W2 => HBl.out.ext x
 obtain ⟨v0, v1, v2, v3⟩ := bx4 fun x : Ext W2 => HBv.out.ext x
 have HCU := used_hid HB HV
 have HCA : Hid (∀ x : Ext W2, Calls Tryz.prog 65 #[.slice an ns.length cn, .slice bn vns.length bcn] x.1 fun e w' => e = .returned (.bool (allowedB ns vns)) ∧ ∃ y : Ext W2, w' = y.1) := hid fun x => by
   obtain ⟨_, _, _, hh, _, h3, _⟩ := (latRd_iff _ _ _).1 (latRd.below (HB.out x) _ _ HL.out)
   obtain ⟨_, _, _, gg, _, g3, _⟩ := (valRd_iff _ _ _).1 (valRd.below (HB.out x) _ _ HV.out)
   cases hh; cases gg
   exact ext_call x (allowed_any _ _ ns vns _ h3 g3)
 go_wp2_with (first | (go_at_call 64; refine (HCU.out _ _ _ _ _).mono ?_; rintro e w1 ⟨rfl, y, rfl⟩) | (go_at_call 65; refine (HCA.out _).mono ?_; rintro e w1 ⟨rfl, y, rfl⟩))
 all_goals
  go_ret
  exact ⟨ret_bool (by rw [HE.out] <;> (simp_all <;> (intros; omega))), HB.out _⟩
theorem elem_8 (lo hi' : Int) (ns : List ByteArray) (ps : List Lat) (rs : List Rl) (an ap ar : Option Addr) (cn cp cr : Nat) (vn : Int) (vns : List ByteArray) (vps : List Val) (ves : List En) (bn bp be : Option Addr) (bcn bcp bce : Nat) (w : World)
 (HL : Hid (latRd w (.mk 8 lo hi' ns ps rs) [.int .i64 8, .int .i64 lo, .int .i64 hi', .slice an ns.length cn, .slice ap ps.length cp, .slice ar rs.length cr])) (HV : Hid (valRd w (.mk vn vns vps ves) [.int .i64 vn, .slice bn vns.length bcn, .slice bp vps.length bcp, .slice be ves.length bce])) :
 Calls Tryz.prog 37 #[.agg #[.int .i64 8, .int .i64 lo, .int .i64 hi', .slice an ns.length cn, .slice ap ps.length cp, .slice ar rs.length cr], .agg #[.int .i64 vn, .slice bn vns.length bcn, .slice bp vps.length bcp, .slice be ves.length bce]] w fun e w' => e = .returned (.bool (elemB (.mk 8 lo hi' ns ps rs) (.mk vn vns vps ves))) ∧ Below w.heap.size w w' := by
 by_cases h0 : vn = 0
 · subst h0; exact elem_8_0 lo hi' ns ps rs an ap ar cn cp cr vns vps ves bn bp be bcn bcp bce w HL HV
 by_cases h2 : vn = 2
 · subst h2; exact elem_8_2 lo hi' ns ps rs an ap ar cn cp cr vns vps ves bn bp be bcn bcp bce w HL HV
 by_cases h1 : vn = 1
 · subst h1; exact elem_8_1 lo hi' ns ps rs an ap ar cn cp cr vns vps ves bn bp be bcn bcp bce w HL HV
 have HE : Hid (elemB (.mk 8 lo hi' ns ps rs) (.mk vn vns vps ves) = false) := hid (by rw [elemB_eq]; show (if vn = 0 ∨ vn = 2 then _ else if vn = 1 then _ else false) = false; rw [if_neg (by omega), if_neg h1])
 generalize elemB (.mk 8 lo hi' ns ps rs) (.mk vn vns vps ves) = R at HE ⊢
 have e0 : (vn == 0) = false := by simpa using h0
 have e1 : (vn == 1) = false := by simpa using h1
 have e2 : (vn == 2) = false := by simpa using h2
 clear h0 h1 h2
 have HB : Hid (∀ O1 O2, Below w.heap.size w ((w.alloc O1).alloc O2)) := hid fun O1 O2 => ((Below.refl _ _).alloc (Nat.le_refl _) O1).alloc (by simp) O2
 go_enter Tryz.func37, Tryz.ntmps37
 go_wp2_with fail
 go_ret
 exact ⟨ret_bool HE.out.symm, HB.out _ _⟩
theorem elem_67 (k : Int) (hk : k = 6 ∨ k = 7) (lo hi' : Int) (ns : List ByteArray) (ps : List Lat) (rs : List Rl) (an ap ar : Option Addr) (cn cp cr : Nat) (vn : Int) (vns : List ByteArray) (vps : List Val) (ves : List En) (bn bp be : Option Addr) (bcn bcp bce : Nat) (w : World)
 (HL : Hid (latRd w (.mk k lo hi' ns ps rs) [.int .i64 k, .int .i64 lo, .int .i64 hi', .slice an ns.length cn, .slice ap ps.length cp, .slice ar rs.length cr])) (HV : Hid (valRd w (.mk vn vns vps ves) [.int .i64 vn, .slice bn vns.length bcn, .slice bp vps.length bcp, .slice be ves.length bce]))
 (HWF : Hid (WfL (.mk k lo hi' ns ps rs))) (HIH : Hid (∀ p ∈ ps, ∀ (v : Val) (cl cv : List Value) (W : World), latRd W p cl → valRd W v cv → Calls Tryz.prog 37 #[.agg cl.toArray, .agg cv.toArray] W fun e w' => e = .returned (.bool (elemB p v)) ∧ Below W.heap.size W w')) :
 Calls Tryz.prog 37 #[.agg #[.int .i64 k, .int .i64 lo, .int .i64 hi', .slice an ns.length cn, .slice ap ps.length cp, .slice ar rs.length cr], .agg #[.int .i64 vn, .slice bn vns.length bcn, .slice bp vps.length bcp, .slice be ves.length bce]] w fun e w' => e = .returned (.bool (elemB (.mk k lo hi' ns ps rs) (.mk vn vns vps ves))) ∧ Below w.heap.size w w' := by
 have HE : Hid (elemB (.mk k lo hi' ns ps rs) (.mk vn vns vps ves) = (usedB (.mk vn vns vps ves) false false true false && decide (vps.length = ps.length) && elemsB ps vps)) := hid (by rw [elemB_eq]; rcases hk with rfl | rfl <;> rfl)
 generalize elemB (.mk k lo hi' ns ps rs) (.mk vn vns vps ves) = R at HE ⊢
 obtain ⟨W2, hW, HB, HBl, HBv⟩ := two_box w #[.int .i64 k, .int .i64 lo, .int .i64 hi', .slice an ns.length cn, .slice ap ps.length cp, .slice ar rs.length cr] #[.int .i64 vn, .slice bn vns.length bcn, .slice bp vps.length bcp, .slice be ves.length bce] 26 30
 have HVP : Hid (SlRd w 4 (valRd w) (.slice bp vps.length bcp) vps) := hid (by obtain ⟨_, _, _, gg, _, _, g4, _⟩ := (valRd_iff _ _ _).1 HV.out; cases gg; exact g4)
 have HLPS : Hid (SlRd w 6 (latRd w) (.slice ap ps.length cp) ps) := hid (by obtain ⟨_, _, _, hh, _, _, h4, _⟩ := (latRd_iff _ _ _).1 HL.out; cases hh; exact h4)
 have HVM : Hid (vps.length ≤ 9223372036854775807) := hid (by obtain ⟨_, _, _, _, h⟩ := HVP.out.shape; exact h)
 rcases hk with rfl | rfl
 all_goals
  go_enter Tryz.func37, Tryz.ntmps37
  go_wp2_with fail
  rw [hW.out]
  clear hW
  obtain ⟨x0, hx⟩ := ext_self W2
  rw [hx]
  clear hx
  obtain ⟨l0, -, -, -, l4⟩ := bx5 fun x : Ext W2 => HBl.out.ext x
  obtain ⟨v0, v1, v2, v3⟩ := bx4 fun x : Ext W2 => HBv.out.ext x
  have HCU := used_hid HB HV
  cases hu : usedB (.mk vn vns vps ves) false false true false
  · have HCU2 : Hid (∀ x : Ext W2, Calls Tryz.prog 64 #[.agg #[.int .i64 vn, .slice bn vns.length bcn, .slice bp vps.length bcp, .slice be ves.length bce], .bool false, .bool false, .bool true, .bool false] x.1 fun e w' => e = .returned (.bool false) ∧ ∃ y : Ext W2, w' = y.1) := hid fun x => by have := HCU.out false false true false x; rw [hu] at this; exact this
    have HF : Hid (R = false) := hid (by rw [HE.out, hu]; rfl)
    clear hu
    go_wp2_with (go_at_call 64; refine (HCU2.out _).mono ?_; rintro e w1 ⟨rfl, y, rfl⟩)
    go_ret
    exact ⟨ret_bool HF.out.symm, HB.out _⟩
  have HCU2 : Hid (∀ x : Ext W2, Calls Tryz.prog 64 #[.agg #[.int .i64 vn, .slice bn vns.length bcn, .slice bp vps.length bcp, .slice be ves.length bce], .bool false, .bool false, .bool true, .bool false] x.1 fun e w' => e = .returned (.bool true) ∧ ∃ y : Ext W2, w' = y.1) := hid fun x => by have := HCU.out false false true false x; rw [hu] at this; exact this
  by_cases hlen : vps.length = ps.length
  · have HD : Hid (R = elemsB (ps.drop 0) (vps.drop 0)) := hid (by rw [HE.out, hu, decide_eq_true hlen]; rfl)
    have HLEN := hid hlen
    have hlb : ((vps.length : Int) != (ps.length : Int)) = false := by simp [hlen]
    have hvm := HVM.out
    clear hu hlen
    go_wp2_with (go_at_call 64; refine (HCU2.out _).mono ?_; rintro e w1 ⟨rfl, y, rfl⟩)
    clear v0 v1 v2 v3 l0
    go_loopw [7, 8, 169] (fun _ _ i wr => ∃ (j : Nat) (x : Ext W2), j ≤ vps.length ∧ i = .int .i64 j ∧ wr = x.1 ∧ Hid (R = elemsB (ps.drop j) (vps.drop j))) (fun _ _ i _ => vps.length - (intOf i).toNat)
    case atStart => exact ⟨0, _, Nat.zero_le _, rfl, rfl, HD⟩
    case round =>
     obtain ⟨j, x, hj, rfl, rfl, He⟩ := hrel
     by_cases hlt : j < vps.length
     · have hil : j < ps.length := by have := HLEN.out; omega
       have HDJ : Hid (R = (elemB ps[j] vps[j] && elemsB (ps.drop (j + 1)) (vps.drop (j + 1)))) := hid (by rw [He.out, drop_consS ps j hil, drop_consS vps j hlt, elemsB])
       obtain ⟨pb, po, pcs, hpb, _, pcell, prd⟩ := (HVP.out).at j hlt
       subst hpb
       have HPR := hid prd
       obtain ⟨en, ecn, ep, ecp, ee, ece, rfl, _, pn, pp, pe, _⟩ := valRd.lay prd
       have r0 : x.1.cell? ⟨pb, po + j * 4, none⟩ = some (.int .i64 vps[j].n) := (pcell.below (HB.out x)) 0 (by simp)
       have r1 : x.1.cell? ⟨pb, po + j * 4 + 1, none⟩ = some (.slice en vps[j].names.length ecn) := (pcell.below (HB.out x)) 1 (by simp)
       have r2 : x.1.cell? ⟨pb, po + j * 4 + 2, none⟩ = some (.slice ep vps[j].parts.length ecp) := (pcell.below (HB.out x)) 2 (by simp)
       have r3 : x.1.cell? ⟨pb, po + j * 4 + 3, none⟩ = some (.slice ee vps[j].entries.length ece) := (pcell.below (HB.out x)) 3 (by simp)
       clear prd pn pp pe pcell
       obtain ⟨lb, lo2, lcs, hlb, _, lcell, lrd⟩ := (HLPS.out).at j hil
       subst hlb
       have HLR := hid lrd
       obtain ⟨dn, dcn, dp, dcp, dr, dcr, rfl, _, ln, lp, lr, _⟩ := latRd.lay lrd
       have HLC : Hid (∀ z : World, Below w.heap.size w z → z.cell? ⟨lb, lo2 + j * 6, none⟩ = some (.int .i64 ps[j].kind) ∧ z.cell? ⟨lb, lo2 + j * 6 + 1, none⟩ = some (.int .i64 ps[j].lo) ∧ z.cell? ⟨lb, lo2 + j * 6 + 2, none⟩ = some (.int .i64 ps[j].hi) ∧ z.cell? ⟨lb, lo2 + j * 6 + 3, none⟩ = some (.slice dn ps[j].names.length dcn) ∧ z.cell? ⟨lb, lo2 + j * 6 + 4, none⟩ = some (.slice dp ps[j].parts.length dcp) ∧ z.cell? ⟨lb, lo2 + j * 6 + 5, none⟩ = some (.slice dr ps[j].rules.length dcr)) := hid fun z hz => by have := (lcell.below hz).six; simpa using this
       clear lrd ln lp lr lcell
       have hji : (j : Int) < (ps.length : Int) := by omega
       have hj0 : (0 : Int) ≤ (j : Int) := by omega
       go_wp2_with fail
       have HBB : Hid (∀ y : Ext (x.1.alloc (.cells #[.int .i64 vps[j].n, .slice en vps[j].names.length ecn, .slice ep vps[j].parts.length ecp, .slice ee vps[j].entries.length ece] 30)), Below w.heap.size w y.1) := hid fun y => ((HB.out x).alloc (HB.out x).size _).trans (y.2.mono (by have := (HB.out x).size; simp; omega))
       have HPB : Hid (∀ y : Ext (x.1.alloc (.cells #[.int .i64 vps[j].n, .slice en vps[j].names.length ecn, .slice ep vps[j].parts.length ecp, .slice ee vps[j].entries.length ece] 30)), ∀ (i : Nat) v, #[.int .i64 vps[j].n, .slice en vps[j].names.length ecn, .slice ep vps[j].parts.length ecp, .slice ee vps[j].entries.length ece][i]? = some v → y.1.cell? ⟨x.1.heap.size, i, none⟩ = some v) := hid fun y i v hv => y.cell (by rw [World.cell?_alloc_at _ _ _ _ rfl]; exact hv)
       have HUP : Hid (∀ y : Ext (x.1.alloc (.cells #[.int .i64 vps[j].n, .slice en vps[j].names.length ecn, .slice ep vps[j].parts.length ecp, .slice ee vps[j].entries.length ece] 30)), ∃ x' : Ext W2, y.1 = x'.1) := hid fun y => ⟨⟨y.1, (x.2.alloc x.2.size _).trans (y.2.mono (by have := x.2.size; simp; omega))⟩, rfl⟩
       generalize x.1.heap.size = NB at HPB ⊢
       generalize x.1.alloc (.cells #[.int .i64 vps[j].n, .slice en vps[j].names.length ecn, .slice ep vps[j].parts.length ecp, .slice ee vps[j].entries.length ece] 30) = WB at HBB HPB HUP ⊢
       have l4b : ∀ y : Ext WB, y.1.cell? ⟨w.heap.size, 4, none⟩ = some (.slice (some ⟨lb, lo2, none⟩) ps.length cp) := fun y => by obtain ⟨x', h⟩ := HUP.out y; rw [h]; exact l4 x'
       obtain ⟨p0, p1, p2, p3⟩ := bx4 fun y : Ext WB => HPB.out y
       have k0 : ∀ y : Ext WB, y.1.cell? ⟨lb, lo2 + j * 6, none⟩ = some (.int .i64 ps[j].kind) := fun y => (HLC.out _ (HBB.out y)).1
       have k1 : ∀ y : Ext WB, y.1.cell? ⟨lb, lo2 + j * 6 + 1, none⟩ = some (.int .i64 ps[j].lo) := fun y => (HLC.out _ (HBB.out y)).2.1
       have k2 : ∀ y : Ext WB, y.1.cell? ⟨lb, lo2 + j * 6 + 2, none⟩ = some (.int .i64 ps[j].hi) := fun y => (HLC.out _ (HBB.out y)).2.2.1
       have k3 : ∀ y : Ext WB, y.1.cell? ⟨lb, lo2 + j * 6 + 3, none⟩ = some (.slice dn ps[j].names.length dcn) := fun y => (HLC.out _ (HBB.out y)).2.2.2.1
       have k4 : ∀ y : Ext WB, y.1.cell? ⟨lb, lo2 + j * 6 + 4, none⟩ = some (.slice dp ps[j].parts.length dcp) := fun y => (HLC.out _ (HBB.out y)).2.2.2.2.1
       have k5 : ∀ y : Ext WB, y.1.cell? ⟨lb, lo2 + j * 6 + 5, none⟩ = some (.slice dr ps[j].rules.length dcr) := fun y => (HLC.out _ (HBB.out y)).2.2.2.2.2
       have HEL : Hid (∀ y : Ext WB, Calls Tryz.prog 37 #[.agg #[.int .i64 ps[j].kind, .int .i64 ps[j].lo, .int .i64 ps[j].hi, .slice dn ps[j].names.length dcn, .slice dp ps[j].parts.length dcp, .slice dr ps[j].rules.length dcr], .agg #[.int .i64 vps[j].n, .slice en vps[j].names.length ecn, .slice ep vps[j].parts.length ecp, .slice ee vps[j].entries.length ece]] y.1 fun e w' => e = .returned (.bool (elemB ps[j] vps[j])) ∧ ∃ z : Ext WB, w' = z.1) := hid fun y => ext_call y (HIH.out _ (List.getElem_mem hil) vps[j] [.int .i64 ps[j].kind, .int .i64 ps[j].lo, .int .i64 ps[j].hi, .slice dn ps[j].names.length dcn, .slice dp ps[j].parts.length dcp, .slice dr ps[j].rules.length dcr] [.int .i64 vps[j].n, .slice en vps[j].names.length ecn, .slice ep vps[j].parts.length ecp, .slice ee vps[j].entries.length ece] _ (latRd.below (HBB.out y) _ _ HLR.out) (valRd.below (HBB.out y) _ _ HPR.out))
       cases hel : elemB ps[j] vps[j]
       · have HEL2 : Hid (∀ y : Ext WB, Calls Tryz.prog 37 #[.agg #[.int .i64 ps[j].kind, .int .i64 ps[j].lo, .int .i64 ps[j].hi, .slice dn ps[j].names.length dcn, .slice dp ps[j].parts.length dcp, .slice dr ps[j].rules.length dcr], .agg #[.int .i64 vps[j].n, .slice en vps[j].names.length ecn, .slice ep vps[j].parts.length ecp, .slice ee vps[j].entries.length ece]] y.1 fun e w' => e = .returned (.bool false) ∧ ∃ z : Ext WB, w' = z.1) := hid fun y => by have := HEL.out y; rw [hel] at this; exact this
         have HF : Hid (R = false) := hid (by rw [HDJ.out, hel]; rfl)
         clear hel
         refine wp_region_ext (by kernel_rfl) (by kernel_rfl) ?_
         repeat (go_big_quiet_step ((go_at_call 37; exact HEL2.out _)))
         refine wpQuiet_nil ?_
         rintro _ ⟨z, rfl⟩
         obtain ⟨x', hx'⟩ := HUP.out z
         rw [hx']
         clear hx' p0 p1 p2 p3 k0 k1 k2 k3 k4 k5 l4b
         go_wp2_with fail
         go_ret
         exact ⟨ret_bool HF.out.symm, HB.out _⟩
       · have HEL2 : Hid (∀ y : Ext WB, Calls Tryz.prog 37 #[.agg #[.int .i64 ps[j].kind, .int .i64 ps[j].lo, .int .i64 ps[j].hi, .slice dn ps[j].names.length dcn, .slice dp ps[j].parts.length dcp, .slice dr ps[j].rules.length dcr], .agg #[.int .i64 vps[j].n, .slice en vps[j].names.length ecn, .slice ep vps[j].parts.length ecp, .slice ee vps[j].entries.length ece]] y.1 fun e w' => e = .returned (.bool true) ∧ ∃ z : Ext WB, w' = z.1) := hid fun y => by have := HEL.out y; rw [hel] at this; exact this
         have HF : Hid (R = elemsB (ps.drop (j + 1)) (vps.drop (j + 1))) := hid (by rw [HDJ.out, hel]; rfl)
         clear hel
         refine wp_region_ext (by kernel_rfl) (by kernel_rfl) ?_
         repeat (go_big_quiet_step ((go_at_call 37; exact HEL2.out _)))
         refine wpQuiet_nil ?_
         rintro _ ⟨z, rfl⟩
         obtain ⟨x', hx'⟩ := HUP.out z
         rw [hx']
         clear hx' p0 p1 p2 p3 k0 k1 k2 k3 k4 k5 l4b
         go_wp2_with fail
         go_roundw
         case rel => exact ⟨j + 1, x', by omega, by go_num, rfl, HF⟩
         case measure => simp [intOf]; omega
     · have HF : Hid (R = true) := hid (by rw [He.out, show vps.drop j = [] from List.drop_eq_nil_of_le (by omega), show ps.drop j = [] from List.drop_eq_nil_of_le (by have := HLEN.out; omega), elemsB])
       go_wp2_with fail
       go_ret
       exact ⟨ret_bool HF.out.symm, HB.out _⟩
  · have HF : Hid (R = false) := hid (by rw [HE.out, decide_eq_false hlen, Bool.and_false, Bool.false_and])
    have hlb : ((vps.length : Int) != (ps.length : Int)) = true := by simp; omega
    clear hu hlen
    go_wp2_with (go_at_call 64; refine (HCU2.out _).mono ?_; rintro e w1 ⟨rfl, y, rfl⟩)
    go_ret
    exact ⟨ret_bool HF.out.symm, HB.out _⟩
theorem mapB_eq (ps : List Lat) (vs : List Val) (h : 0 < ps.length) : mapB ps vs = vs.all fun v => elemB ps[0] v && decide (valC v (botV ps[0]) ≠ 0) := by
  cases ps with
  | nil => simp at h
  | cons p t => rw [mapB]; rfl
theorem elem_5 (lo hi' : Int) (ns : List ByteArray) (ps : List Lat) (rs : List Rl) (an ap ar : Option Addr) (cn cp cr : Nat) (vn : Int) (vns : List ByteArray) (vps : List Val) (ves : List En) (bn bp be : Option Addr) (bcn bcp bce : Nat) (w : World)
 (HL : Hid (latRd w (.mk 5 lo hi' ns ps rs) [.int .i64 5, .int .i64 lo, .int .i64 hi', .slice an ns.length cn, .slice ap ps.length cp, .slice ar rs.length cr])) (HV : Hid (valRd w (.mk vn vns vps ves) [.int .i64 vn, .slice bn vns.length bcn, .slice bp vps.length bcp, .slice be ves.length bce]))
 (HWF : Hid (WfL (.mk 5 lo hi' ns ps rs))) (HIH : Hid (∀ p ∈ ps, ∀ (v : Val) (cl cv : List Value) (W : World), latRd W p cl → valRd W v cv → Calls Tryz.prog 37 #[.agg cl.toArray, .agg cv.toArray] W fun e w' => e = .returned (.bool (elemB p v)) ∧ Below W.heap.size W w')) :
 Calls Tryz.prog 37 #[.agg #[.int .i64 5, .int .i64 lo, .int .i64 hi', .slice an ns.length cn, .slice ap ps.length cp, .slice ar rs.length cr], .agg #[.int .i64 vn, .slice bn vns.length bcn, .slice bp vps.length bcp, .slice be ves.length bce]] w fun e w' => e = .returned (.bool (elemB (.mk 5 lo hi' ns ps rs) (.mk vn vns vps ves))) ∧ Below w.heap.size w w' := by
 have HE : Hid (elemB (.mk 5 lo hi' ns ps rs) (.mk vn vns vps ves) = (usedB (.mk vn vns vps ves) false true true false && decide (vns.length = vps.length) && allowedB ns vns && mapB ps vps)) := hid (by rw [elemB_eq]; rfl)
 generalize elemB (.mk 5 lo hi' ns ps rs) (.mk vn vns vps ves) = R at HE ⊢
 obtain ⟨W2, hW, HB, HBl, HBv⟩ := two_box w #[.int .i64 5, .int .i64 lo, .int .i64 hi', .slice an ns.length cn, .slice ap ps.length cp, .slice ar rs.length cr] #[.int .i64 vn, .slice bn vns.length bcn, .slice bp vps.length bcp, .slice be ves.length bce] 26 30
 have HVP : Hid (SlRd w 4 (valRd w) (.slice bp vps.length bcp) vps) := hid (by obtain ⟨_, _, _, gg, _, _, g4, _⟩ := (valRd_iff _ _ _).1 HV.out; cases gg; exact g4)
 have HLPS : Hid (SlRd w 6 (latRd w) (.slice ap ps.length cp) ps) := hid (by obtain ⟨_, _, _, hh, _, _, h4, _⟩ := (latRd_iff _ _ _).1 HL.out; cases hh; exact h4)
 have HVM : Hid (vps.length ≤ 9223372036854775807) := hid (by obtain ⟨_, _, _, _, h⟩ := HVP.out.shape; exact h)
 go_enter Tryz.func37, Tryz.ntmps37
 go_wp2_with fail
 rw [hW.out]
 clear hW
 obtain ⟨x0, hx⟩ := ext_self W2
 rw [hx]
 clear hx
 obtain ⟨l0, -, -, l3, l4⟩ := bx5 fun x : Ext W2 => HBl.out.ext x
 obtain ⟨v0, v1, v2, v3⟩ := bx4 fun x : Ext W2 => HBv.out.ext x
 have HCU := used_hid HB HV
 have HCA : Hid (∀ x : Ext W2, Calls Tryz.prog 65 #[.slice an ns.length cn, .slice bn vns.length bcn] x.1 fun e w' => e = .returned (.bool (allowedB ns vns)) ∧ ∃ y : Ext W2, w' = y.1) := hid fun x => by
   obtain ⟨_, _, _, hh, _, h3, _⟩ := (latRd_iff _ _ _).1 (latRd.below (HB.out x) _ _ HL.out)
   obtain ⟨_, _, _, gg, _, g3, _⟩ := (valRd_iff _ _ _).1 (valRd.below (HB.out x) _ _ HV.out)
   cases hh; cases gg
   exact ext_call x (allowed_any _ _ ns vns _ h3 g3)
 cases hu : usedB (.mk vn vns vps ves) false true true false
 · have HCU2 : Hid (∀ x : Ext W2, Calls Tryz.prog 64 #[.agg #[.int .i64 vn, .slice bn vns.length bcn, .slice bp vps.length bcp, .slice be ves.length bce], .bool false, .bool true, .bool true, .bool false] x.1 fun e w' => e = .returned (.bool false) ∧ ∃ y : Ext W2, w' = y.1) := hid fun x => by have := HCU.out false true true false x; rw [hu] at this; exact this
   have HF : Hid (R = false) := hid (by rw [HE.out, hu]; rfl)
   clear hu
   go_wp2_with (go_at_call 64; refine (HCU2.out _).mono ?_; rintro e w1 ⟨rfl, y, rfl⟩)
   go_ret
   exact ⟨ret_bool HF.out.symm, HB.out _⟩
 have HCU2 : Hid (∀ x : Ext W2, Calls Tryz.prog 64 #[.agg #[.int .i64 vn, .slice bn vns.length bcn, .slice bp vps.length bcp, .slice be ves.length bce], .bool false, .bool true, .bool true, .bool false] x.1 fun e w' => e = .returned (.bool true) ∧ ∃ y : Ext W2, w' = y.1) := hid fun x => by have := HCU.out false true true false x; rw [hu] at this; exact this
 by_cases hlen : vns.length = vps.length
 · have hlb : ((vns.length : Int) != (vps.length : Int)) = false := by simp [hlen]
   cases ha : allowedB ns vns
   · have HCA2 : Hid (∀ x : Ext W2, Calls Tryz.prog 65 #[.slice an ns.length cn, .slice bn vns.length bcn] x.1 fun e w' => e = .returned (.bool false) ∧ ∃ y : Ext W2, w' = y.1) := hid fun x => by have := HCA.out x; rw [ha] at this; exact this
     have HF : Hid (R = false) := hid (by rw [HE.out, hu, ha, decide_eq_true hlen]; rfl)
     clear hu ha hlen
     go_wp2_with (first | (go_at_call 64; refine (HCU2.out _).mono ?_; rintro e w1 ⟨rfl, y, rfl⟩) | (go_at_call 65; refine (HCA2.out _).mono ?_; rintro e w1 ⟨rfl, y, rfl⟩))
     go_ret
     exact ⟨ret_bool HF.out.symm, HB.out _⟩
   have HCA2 : Hid (∀ x : Ext W2, Calls Tryz.prog 65 #[.slice an ns.length cn, .slice bn vns.length bcn] x.1 fun e w' => e = .returned (.bool true) ∧ ∃ y : Ext W2, w' = y.1) := hid fun x => by have := HCA.out x; rw [ha] at this; exact this
   have hil : 0 < ps.length := by have h1 : ps.length = 1 := HWF.out.kinds.2.1 rfl; omega
   have HD : Hid (R = (vps.drop 0).all fun v => elemB ps[0] v && decide (valC v (botV ps[0]) ≠ 0)) := hid (by rw [HE.out, hu, ha, decide_eq_true hlen, mapB_eq ps vps hil]; rfl)
   have hvm := HVM.out
   have hil0 : (0 : Int) < (ps.length : Int) := by omega
   clear hu ha hlen
   go_wp2_with (first | (go_at_call 64; refine (HCU2.out _).mono ?_; rintro e w1 ⟨rfl, y, rfl⟩) | (go_at_call 65; refine (HCA2.out _).mono ?_; rintro e w1 ⟨rfl, y, rfl⟩))
   clear v0 v1 v2 v3 l0 l3
   go_loopw [6, 133] (fun _ i wr => ∃ (j : Nat) (x : Ext W2), j ≤ vps.length ∧ i = .int .i64 j ∧ wr = x.1 ∧ Hid (R = (vps.drop j).all fun v => elemB ps[0] v && decide (valC v (botV ps[0]) ≠ 0))) (fun _ i _ => vps.length - (intOf i).toNat)
   case atStart => exact ⟨0, _, Nat.zero_le _, rfl, rfl, HD⟩
   case round =>
    obtain ⟨j, x, hj, rfl, rfl, He⟩ := hrel
    by_cases hlt : j < vps.length
    · have HDJ : Hid (R = ((elemB ps[0] vps[j] && decide (valC vps[j] (botV ps[0]) ≠ 0)) && (vps.drop (j + 1)).all fun v => elemB ps[0] v && decide (valC v (botV ps[0]) ≠ 0))) := hid (by rw [He.out, drop_consS vps j hlt, List.all_cons])
      obtain ⟨pb, po, pcs, hpb, _, pcell, prd⟩ := (HVP.out).at j hlt
      subst hpb
      have HPR := hid prd
      obtain ⟨en, ecn, ep, ecp, ee, ece, rfl, _, pn, pp, pe, _⟩ := valRd.lay prd
      have r0 : x.1.cell? ⟨pb, po + j * 4, none⟩ = some (.int .i64 vps[j].n) := (pcell.below (HB.out x)) 0 (by simp)
      have r1 : x.1.cell? ⟨pb, po + j * 4 + 1, none⟩ = some (.slice en vps[j].names.length ecn) := (pcell.below (HB.out x)) 1 (by simp)
      have r2 : x.1.cell? ⟨pb, po + j * 4 + 2, none⟩ = some (.slice ep vps[j].parts.length ecp) := (pcell.below (HB.out x)) 2 (by simp)
      have r3 : x.1.cell? ⟨pb, po + j * 4 + 3, none⟩ = some (.slice ee vps[j].entries.length ece) := (pcell.below (HB.out x)) 3 (by simp)
      clear prd pn pp pe pcell
      obtain ⟨lb, lo2, lcs, hlb, _, lcell, lrd⟩ := (HLPS.out).at 0 hil
      subst hlb
      have HLR := hid lrd
      obtain ⟨dn, dcn, dp, dcp, dr, dcr, rfl, _, ln, lp, lr, _⟩ := latRd.lay lrd
      have HLC : Hid (∀ z : World, Below w.heap.size w z → z.cell? ⟨lb, lo2, none⟩ = some (.int .i64 ps[0].kind) ∧ z.cell? ⟨lb, lo2 + 1, none⟩ = some (.int .i64 ps[0].lo) ∧ z.cell? ⟨lb, lo2 + 2, none⟩ = some (.int .i64 ps[0].hi) ∧ z.cell? ⟨lb, lo2 + 3, none⟩ = some (.slice dn ps[0].names.length dcn) ∧ z.cell? ⟨lb, lo2 + 4, none⟩ = some (.slice dp ps[0].parts.length dcp) ∧ z.cell? ⟨lb, lo2 + 5, none⟩ = some (.slice dr ps[0].rules.length dcr)) := hid fun z hz => by have := (lcell.below hz).six; simpa using this
      clear lrd ln lp lr lcell
      go_wp2_with fail
      have HBB : Hid (∀ y : Ext (x.1.alloc (.cells #[.int .i64 vps[j].n, .slice en vps[j].names.length ecn, .slice ep vps[j].parts.length ecp, .slice ee vps[j].entries.length ece] 30)), Below w.heap.size w y.1) := hid fun y => ((HB.out x).alloc (HB.out x).size _).trans (y.2.mono (by have := (HB.out x).size; simp; omega))
      have HPB : Hid (∀ y : Ext (x.1.alloc (.cells #[.int .i64 vps[j].n, .slice en vps[j].names.length ecn, .slice ep vps[j].parts.length ecp, .slice ee vps[j].entries.length ece] 30)), ∀ (i : Nat) v, #[.int .i64 vps[j].n, .slice en vps[j].names.length ecn, .slice ep vps[j].parts.length ecp, .slice ee vps[j].entries.length ece][i]? = some v → y.1.cell? ⟨x.1.heap.size, i, none⟩ = some v) := hid fun y i v hv => y.cell (by rw [World.cell?_alloc_at _ _ _ _ rfl]; exact hv)
      have HUP : Hid (∀ y : Ext (x.1.alloc (.cells #[.int .i64 vps[j].n, .slice en vps[j].names.length ecn, .slice ep vps[j].parts.length ecp, .slice ee vps[j].entries.length ece] 30)), ∃ x' : Ext W2, y.1 = x'.1) := hid fun y => ⟨⟨y.1, (x.2.alloc x.2.size _).trans (y.2.mono (by have := x.2.size; simp; omega))⟩, rfl⟩
      generalize x.1.heap.size = NB at HPB ⊢
      generalize x.1.alloc (.cells #[.int .i64 vps[j].n, .slice en vps[j].names.length ecn, .slice ep vps[j].parts.length ecp, .slice ee vps[j].entries.length ece] 30) = WB at HBB HPB HUP ⊢
      have l4b : ∀ y : Ext WB, y.1.cell? ⟨w.heap.size, 4, none⟩ = some (.slice (some ⟨lb, lo2, none⟩) ps.length cp) := fun y => by obtain ⟨x', h⟩ := HUP.out y; rw [h]; exact l4 x'
      obtain ⟨p0, p1, p2, p3⟩ := bx4 fun y : Ext WB => HPB.out y
      have k0 : ∀ y : Ext WB, y.1.cell? ⟨lb, lo2, none⟩ = some (.int .i64 ps[0].kind) := fun y => (HLC.out _ (HBB.out y)).1
      have k1 : ∀ y : Ext WB, y.1.cell? ⟨lb, lo2 + 1, none⟩ = some (.int .i64 ps[0].lo) := fun y => (HLC.out _ (HBB.out y)).2.1
      have k2 : ∀ y : Ext WB, y.1.cell? ⟨lb, lo2 + 2, none⟩ = some (.int .i64 ps[0].hi) := fun y => (HLC.out _ (HBB.out y)).2.2.1
      have k3 : ∀ y : Ext WB, y.1.cell? ⟨lb, lo2 + 3, none⟩ = some (.slice dn ps[0].names.length dcn) := fun y => (HLC.out _ (HBB.out y)).2.2.2.1
      have k4 : ∀ y : Ext WB, y.1.cell? ⟨lb, lo2 + 4, none⟩ = some (.slice dp ps[0].parts.length dcp) := fun y => (HLC.out _ (HBB.out y)).2.2.2.2.1
      have k5 : ∀ y : Ext WB, y.1.cell? ⟨lb, lo2 + 5, none⟩ = some (.slice dr ps[0].rules.length dcr) := fun y => (HLC.out _ (HBB.out y)).2.2.2.2.2
      have HEL : Hid (∀ y : Ext WB, Calls Tryz.prog 37 #[.agg #[.int .i64 ps[0].kind, .int .i64 ps[0].lo, .int .i64 ps[0].hi, .slice dn ps[0].names.length dcn, .slice dp ps[0].parts.length dcp, .slice dr ps[0].rules.length dcr], .agg #[.int .i64 vps[j].n, .slice en vps[j].names.length ecn, .slice ep vps[j].parts.length ecp, .slice ee vps[j].entries.length ece]] y.1 fun e w' => e = .returned (.bool (elemB ps[0] vps[j])) ∧ ∃ z : Ext WB, w' = z.1) := hid fun y => ext_call y (HIH.out _ (List.getElem_mem hil) vps[j] [.int .i64 ps[0].kind, .int .i64 ps[0].lo, .int .i64 ps[0].hi, .slice dn ps[0].names.length dcn, .slice dp ps[0].parts.length dcp, .slice dr ps[0].rules.length dcr] [.int .i64 vps[j].n, .slice en vps[j].names.length ecn, .slice ep vps[j].parts.length ecp, .slice ee vps[j].entries.length ece] _ (latRd.below (HBB.out y) _ _ HLR.out) (valRd.below (HBB.out y) _ _ HPR.out))
      cases hel : elemB ps[0] vps[j]
      · have HEL2 : Hid (∀ y : Ext WB, Calls Tryz.prog 37 #[.agg #[.int .i64 ps[0].kind, .int .i64 ps[0].lo, .int .i64 ps[0].hi, .slice dn ps[0].names.length dcn, .slice dp ps[0].parts.length dcp, .slice dr ps[0].rules.length dcr], .agg #[.int .i64 vps[j].n, .slice en vps[j].names.length ecn, .slice ep vps[j].parts.length ecp, .slice ee vps[j].entries.length ece]] y.1 fun e w' => e = .returned (.bool false) ∧ ∃ z : Ext WB, w' = z.1) := hid fun y => by have := HEL.out y; rw [hel] at this; exact this
        have HF : Hid (R = false) := hid (by rw [HDJ.out, hel]; rfl)
        clear hel
        refine wp_region_ext (by kernel_rfl) (by kernel_rfl) ?_
        repeat (go_big_quiet_step ((go_at_call 37; exact HEL2.out _)))
        refine wpQuiet_nil ?_
        rintro _ ⟨z, rfl⟩
        obtain ⟨x', hx'⟩ := HUP.out z
        rw [hx']
        clear hx' p0 p1 p2 p3 k0 k1 k2 k3 k4 k5 l4b
        go_wp2_with fail
        go_ret
        exact ⟨ret_bool HF.out.symm, HB.out _⟩
      · have HEL3 : Hid (∀ W, Below WB.heap.size WB W → Calls Tryz.prog 37 #[.agg #[.int .i64 ps[0].kind, .int .i64 ps[0].lo, .int .i64 ps[0].hi, .slice dn ps[0].names.length dcn, .slice dp ps[0].parts.length dcp, .slice dr ps[0].rules.length dcr], .agg #[.int .i64 vps[j].n, .slice en vps[j].names.length ecn, .slice ep vps[j].parts.length ecp, .slice ee vps[j].entries.length ece]] W fun e w' => e = .returned (.bool true) ∧ Below W.heap.size W w') := hid fun W h => by
          have := HIH.out _ (List.getElem_mem hil) vps[j] [.int .i64 ps[0].kind, .int .i64 ps[0].lo, .int .i64 ps[0].hi, .slice dn ps[0].names.length dcn, .slice dp ps[0].parts.length dcp, .slice dr ps[0].rules.length dcr] [.int .i64 vps[j].n, .slice en vps[j].names.length ecn, .slice ep vps[j].parts.length ecp, .slice ee vps[j].entries.length ece] W (latRd.below (HBB.out ⟨W, h⟩) _ _ HLR.out) (valRd.below (HBB.out ⟨W, h⟩) _ _ HPR.out)
          rw [hel] at this; exact this
        have HBOT : Hid (∀ W, Below WB.heap.size WB W → Calls Tryz.prog 61 #[.agg #[.int .i64 ps[0].kind, .int .i64 ps[0].lo, .int .i64 ps[0].hi, .slice dn ps[0].names.length dcn, .slice dp ps[0].parts.length dcp, .slice dr ps[0].rules.length dcr]] W (ValPost W (botV ps[0]))) := hid fun W h => bottom_any _ ps[0] [.int .i64 ps[0].kind, .int .i64 ps[0].lo, .int .i64 ps[0].hi, .slice dn ps[0].names.length dcn, .slice dp ps[0].parts.length dcp, .slice dr ps[0].rules.length dcr] W (Nat.le_refl _) (latRd.below (HBB.out ⟨W, h⟩) _ _ HLR.out) (HWF.out.part (List.getElem_mem hil))
        have HS : Hid (∀ y : Ext WB, y.1.cell? ⟨w.heap.size, 4, none⟩ = some (.slice (some ⟨lb, lo2, none⟩) ps.length cp) ∧ y.1.cell? ⟨lb, lo2, none⟩ = some (.int .i64 ps[0].kind) ∧ y.1.cell? ⟨lb, lo2 + 1, none⟩ = some (.int .i64 ps[0].lo) ∧ y.1.cell? ⟨lb, lo2 + 2, none⟩ = some (.int .i64 ps[0].hi) ∧ y.1.cell? ⟨lb, lo2 + 3, none⟩ = some (.slice dn ps[0].names.length dcn) ∧ y.1.cell? ⟨lb, lo2 + 4, none⟩ = some (.slice dp ps[0].parts.length dcp) ∧ y.1.cell? ⟨lb, lo2 + 5, none⟩ = some (.slice dr ps[0].rules.length dcr) ∧ y.1.cell? ⟨NB, 0, none⟩ = some (.int .i64 vps[j].n) ∧ y.1.cell? ⟨NB, 1, none⟩ = some (.slice en vps[j].names.length ecn) ∧ y.1.cell? ⟨NB, 2, none⟩ = some (.slice ep vps[j].parts.length ecp) ∧ y.1.cell? ⟨NB, 3, none⟩ = some (.slice ee vps[j].entries.length ece)) := hid fun y => ⟨l4b y, k0 y, k1 y, k2 y, k3 y, k4 y, k5 y, p0 y, p1 y, p2 y, p3 y⟩
        clear l4b k0 k1 k2 k3 k4 k5 p0 p1 p2 p3
        cases hq : decide (valC vps[j] (botV ps[0]) = 0)
        · have hne : ¬ (valC vps[j] (botV ps[0]) = 0) := of_decide_eq_false hq
          have HF : Hid (R = (vps.drop (j + 1)).all fun v => elemB ps[0] v && decide (valC v (botV ps[0]) ≠ 0)) := hid (by rw [HDJ.out, hel, decide_eq_true (show valC vps[j] (botV ps[0]) ≠ 0 from hne)]; rfl)
          clear hel hne
          have HEQ2 : Hid (∀ (W : World) (cs : List Value), Below WB.heap.size WB W → valRd W (botV ps[0]) cs → Calls Tryz.prog 22 #[.agg #[.int .i64 vps[j].n, .slice en vps[j].names.length ecn, .slice ep vps[j].parts.length ecp, .slice ee vps[j].entries.length ece], .agg cs.toArray] W fun e w' => e = .returned (.bool false) ∧ Below W.heap.size W w') := hid fun W cs h hc => by have := equal_any vps[j] (botV ps[0]) [.int .i64 vps[j].n, .slice en vps[j].names.length ecn, .slice ep vps[j].parts.length ecp, .slice ee vps[j].entries.length ece] cs W (valRd.below (HBB.out ⟨W, h⟩) _ _ HPR.out) hc; rw [hq] at this; exact this
          clear hq
          first
           | (go_region_held3 (fun w' => w'.cell? ⟨w.heap.size, 4, none⟩ = some (.slice (some ⟨lb, lo2, none⟩) ps.length cp) ∧ w'.cell? ⟨lb, lo2, none⟩ = some (.int .i64 ps[0].kind) ∧ w'.cell? ⟨lb, lo2 + 1, none⟩ = some (.int .i64 ps[0].lo) ∧ w'.cell? ⟨lb, lo2 + 2, none⟩ = some (.int .i64 ps[0].hi) ∧ w'.cell? ⟨lb, lo2 + 3, none⟩ = some (.slice dn ps[0].names.length dcn) ∧ w'.cell? ⟨lb, lo2 + 4, none⟩ = some (.slice dp ps[0].parts.length dcp) ∧ w'.cell? ⟨lb, lo2 + 5, none⟩ = some (.slice dr ps[0].rules.length dcr) ∧ w'.cell? ⟨NB, 0, none⟩ = some (.int .i64 vps[j].n) ∧ w'.cell? ⟨NB, 1, none⟩ = some (.slice en vps[j].names.length ecn) ∧ w'.cell? ⟨NB, 2, none⟩ = some (.slice ep vps[j].parts.length ecp) ∧ w'.cell? ⟨NB, 3, none⟩ = some (.slice ee vps[j].entries.length ece))
               (first
                 | exact HS.out ⟨_, (Below.refl _ _).drew⟩
                 | exact HS.out ⟨_, HB7.out⟩
                 | exact HS.out ⟨_, HB6.out⟩
                 | exact HS.out ⟨_, HB5.out⟩
                 | skip)
               (first
                 | (go_at_call 37
                    refine (HEL3.out _ (Below.refl _ _).drew).mono ?_
                    rintro e w5 ⟨rfl, hb5⟩
                    have HB5 : Hid (Below WB.heap.size WB w5) := hid ((Below.refl _ _).drew.trans hb5)
                    clear hb5)
                 | (go_at_call 61
                    refine (HBOT.out _ HB5.out).mono ?_
                    rintro e w6 ⟨cs6, rfl, hv6, hb6⟩
                    have HV6 := hid (valRd_mono' (only_sub _ _) hv6)
                    have HB6 : Hid (Below WB.heap.size WB w6) := hid (HB5.out.trans (hb6.mono HB5.out.size))
                    clear hb6 hv6)
                 | (go_at_call 22
                    refine (HEQ2.out _ _ HB6.out HV6.out).mono ?_
                    rintro e w7 ⟨rfl, hb7⟩
                    have HB7 : Hid (Below WB.heap.size WB w7) := hid (HB6.out.trans (hb7.mono HB6.out.size))
                    clear hb7)))
           | fail
          all_goals
           obtain ⟨x', hx'⟩ := HUP.out ⟨_, HB7.out⟩
           have hx2 : w7 = x'.1 := hx'
           rw [hx2]
           go_wp2_with fail
           go_roundw
           case rel => exact ⟨j + 1, x', by omega, by go_num, rfl, HF⟩
           case measure => simp [intOf]; omega
        · have hne : valC vps[j] (botV ps[0]) = 0 := of_decide_eq_true hq
          have HF : Hid (R = false) := hid (by rw [HDJ.out, hel, decide_eq_false (show ¬ (valC vps[j] (botV ps[0]) ≠ 0) from fun h => h hne)]; rfl)
          clear hel hne
          have HEQ2 : Hid (∀ (W : World) (cs : List Value), Below WB.heap.size WB W → valRd W (botV ps[0]) cs → Calls Tryz.prog 22 #[.agg #[.int .i64 vps[j].n, .slice en vps[j].names.length ecn, .slice ep vps[j].parts.length ecp, .slice ee vps[j].entries.length ece], .agg cs.toArray] W fun e w' => e = .returned (.bool true) ∧ Below W.heap.size W w') := hid fun W cs h hc => by have := equal_any vps[j] (botV ps[0]) [.int .i64 vps[j].n, .slice en vps[j].names.length ecn, .slice ep vps[j].parts.length ecp, .slice ee vps[j].entries.length ece] cs W (valRd.below (HBB.out ⟨W, h⟩) _ _ HPR.out) hc; rw [hq] at this; exact this
          clear hq
          first
           | (go_region_held3 (fun w' => w'.cell? ⟨w.heap.size, 4, none⟩ = some (.slice (some ⟨lb, lo2, none⟩) ps.length cp) ∧ w'.cell? ⟨lb, lo2, none⟩ = some (.int .i64 ps[0].kind) ∧ w'.cell? ⟨lb, lo2 + 1, none⟩ = some (.int .i64 ps[0].lo) ∧ w'.cell? ⟨lb, lo2 + 2, none⟩ = some (.int .i64 ps[0].hi) ∧ w'.cell? ⟨lb, lo2 + 3, none⟩ = some (.slice dn ps[0].names.length dcn) ∧ w'.cell? ⟨lb, lo2 + 4, none⟩ = some (.slice dp ps[0].parts.length dcp) ∧ w'.cell? ⟨lb, lo2 + 5, none⟩ = some (.slice dr ps[0].rules.length dcr) ∧ w'.cell? ⟨NB, 0, none⟩ = some (.int .i64 vps[j].n) ∧ w'.cell? ⟨NB, 1, none⟩ = some (.slice en vps[j].names.length ecn) ∧ w'.cell? ⟨NB, 2, none⟩ = some (.slice ep vps[j].parts.length ecp) ∧ w'.cell? ⟨NB, 3, none⟩ = some (.slice ee vps[j].entries.length ece))
               (first
                 | exact HS.out ⟨_, (Below.refl _ _).drew⟩
                 | exact HS.out ⟨_, HB7.out⟩
                 | exact HS.out ⟨_, HB6.out⟩
                 | exact HS.out ⟨_, HB5.out⟩
                 | skip)
               (first
                 | (go_at_call 37
                    refine (HEL3.out _ (Below.refl _ _).drew).mono ?_
                    rintro e w5 ⟨rfl, hb5⟩
                    have HB5 : Hid (Below WB.heap.size WB w5) := hid ((Below.refl _ _).drew.trans hb5)
                    clear hb5)
                 | (go_at_call 61
                    refine (HBOT.out _ HB5.out).mono ?_
                    rintro e w6 ⟨cs6, rfl, hv6, hb6⟩
                    have HV6 := hid (valRd_mono' (only_sub _ _) hv6)
                    have HB6 : Hid (Below WB.heap.size WB w6) := hid (HB5.out.trans (hb6.mono HB5.out.size))
                    clear hb6 hv6)
                 | (go_at_call 22
                    refine (HEQ2.out _ _ HB6.out HV6.out).mono ?_
                    rintro e w7 ⟨rfl, hb7⟩
                    have HB7 : Hid (Below WB.heap.size WB w7) := hid (HB6.out.trans (hb7.mono HB6.out.size))
                    clear hb7)))
           | fail
          all_goals
           go_wp2_with fail
           go_ret
           exact ⟨ret_bool HF.out.symm, HBB.out ⟨_, HB7.out⟩⟩
    · have HF : Hid (R = true) := hid (by rw [He.out, show vps.drop j = [] from List.drop_eq_nil_of_le (by omega)]; rfl)
      go_wp2_with fail
      go_ret
      exact ⟨ret_bool HF.out.symm, HB.out _⟩
 · have HF : Hid (R = false) := hid (by rw [HE.out, decide_eq_false hlen, Bool.and_false, Bool.false_and, Bool.false_and])
   have hlb : ((vns.length : Int) != (vps.length : Int)) = true := by simp; omega
   clear hu hlen
   go_wp2_with (go_at_call 64; refine (HCU2.out _).mono ?_; rintro e w1 ⟨rfl, y, rfl⟩)
   go_ret
   exact ⟨ret_bool HF.out.symm, HB.out _⟩
theorem element_any (f : Nat) : ∀ (l : Lat) (v : Val) (cl cv : List Value) (w : World), SizeOf.sizeOf l ≤ f → latRd w l cl → valRd w v cv → WfL l →
 Calls Tryz.prog 37 #[.agg cl.toArray, .agg cv.toArray] w fun e w' => e = .returned (.bool (elemB l v)) ∧ Below w.heap.size w w' := by
 induction f with
 | zero => intro l v cl cv w hn; cases l; simp at hn
 | succ f ih =>
   intro l v cl cv w hn hl hv hwf
   have hih : ∀ p ∈ l.parts, ∀ (v : Val) (cl cv : List Value) (W : World), latRd W p cl → valRd W v cv → Calls Tryz.prog 37 #[.agg cl.toArray, .agg cv.toArray] W fun e w' => e = .returned (.bool (elemB p v)) ∧ Below W.heap.size W w' :=
     fun p hp v cl cv W h1 h2 => ih p v cl cv W (by have := sizeOf_part hp; omega) h1 h2 (hwf.part hp)
   obtain ⟨a1, a2, a3, rfl, _, hns, hps, hrs⟩ := (latRd_iff _ _ _).1 hl
   obtain ⟨b1, b2, b3, rfl, _, hvn, hvp, hve⟩ := (valRd_iff _ _ _).1 hv
   obtain ⟨an, cn, rfl, _, _⟩ := hns.shape
   obtain ⟨ap, cp, rfl, _, _⟩ := hps.shape
   obtain ⟨ar, cr, rfl, _, _⟩ := hrs.shape
   obtain ⟨bn, bcn, rfl, _, _⟩ := hvn.shape
   obtain ⟨bp, bcp, rfl, _, _⟩ := hvp.shape
   obtain ⟨be, bce, rfl, _, _⟩ := hve.shape
   have hk := hwf.kinds.1
   clear hns hps hrs hvn hvp hve hn ih
   obtain ⟨k, lo, hi', ns, ps, rs⟩ := l
   obtain ⟨vn, vns, vps, ves⟩ := v
   simp only [Lat.kind, Lat.lo, Lat.hi, Lat.names, Lat.parts, Lat.rules, Val.n, Val.names, Val.parts, Val.entries] at hl hv hk hih ⊢
   obtain ⟨h1, h2⟩ := hk
   have hx : k = 1 ∨ k = 2 ∨ k = 3 ∨ k = 4 ∨ k = 5 ∨ k = 6 ∨ k = 7 ∨ k = 8 ∨ k = 9 ∨ k = 10 := by omega
   clear h1 h2
   rcases hx with rfl | rfl | rfl | rfl | rfl | rfl | rfl | rfl | rfl | rfl
   · exact elem_1 lo hi' ns ps rs an ap ar cn cp cr vn vns vps ves bn bp be bcn bcp bce w (hid hl) (hid hv)
   · exact elem_23 2 (.inl rfl) lo hi' ns ps rs an ap ar cn cp cr vn vns vps ves bn bp be bcn bcp bce w (hid hl) (hid hv)
   · exact elem_23 3 (.inr rfl) lo hi' ns ps rs an ap ar cn cp cr vn vns vps ves bn bp be bcn bcp bce w (hid hl) (hid hv)
   · exact elem_4 lo hi' ns ps rs an ap ar cn cp cr vn vns vps ves bn bp be bcn bcp bce w (hid hl) (hid hv)
   · exact elem_5 lo hi' ns ps rs an ap ar cn cp cr vn vns vps ves bn bp be bcn bcp bce w (hid hl) (hid hv) (hid hwf) (hid hih)
   · exact elem_67 6 (.inl rfl) lo hi' ns ps rs an ap ar cn cp cr vn vns vps ves bn bp be bcn bcp bce w (hid hl) (hid hv) (hid hwf) (hid hih)
   · exact elem_67 7 (.inr rfl) lo hi' ns ps rs an ap ar cn cp cr vn vns vps ves bn bp be bcn bcp bce w (hid hl) (hid hv) (hid hwf) (hid hih)
   · exact elem_8 lo hi' ns ps rs an ap ar cn cp cr vn vns vps ves bn bp be bcn bcp bce w (hid hl) (hid hv)
   · exact elem_9 lo hi' ns ps rs an ap ar cn cp cr vn vns vps ves bn bp be bcn bcp bce w (hid hl) (hid hv)
   · exact elem_10 lo hi' ns ps rs an ap ar cn cp cr vn vns vps ves bn bp be bcn bcp bce w (hid hl) (hid hv)
theorem valid_any (l : Lat) (v : Val) (cl cv : List Value) (w : World) (hl : latRd w l cl) (hv : valRd w v cv) :
 Calls Tryz.prog 15 #[.agg cl.toArray, .agg cv.toArray] w fun e w' => e = .returned (.bool (validB l v)) ∧ Below w.heap.size w w' := by
 have HC : Hid (∀ W, Below w.heap.size w W → Calls Tryz.prog 36 #[.agg cl.toArray] W fun e w' => e = .returned (.int .i64 (chkE l)) ∧ Below W.heap.size W w') := hid fun W h => check_any l cl W (latRd.below h _ _ hl)
 have HEL : Hid (chkE l = 0 → ∀ W, Below w.heap.size w W → Calls Tryz.prog 37 #[.agg cl.toArray, .agg cv.toArray] W fun e w' => e = .returned (.bool (elemB l v)) ∧ Below W.heap.size W w') := hid fun h0 W h => element_any _ l v cl cv W (Nat.le_refl _) (latRd.below h _ _ hl) (valRd.below h _ _ hv) (chkE_wf h0)
 have HE : Hid (validB l v = (decide (chkE l = 0) && elemB l v)) := hid rfl
 generalize validB l v = R at HE ⊢
 generalize elemB l v = B at HE HEL
 generalize chkE l = E at HC HEL HE
 obtain ⟨a1, a2, a3, rfl, _, hns, hps, hrs⟩ := (latRd_iff _ _ _).1 hl
 obtain ⟨b1, b2, b3, rfl, _, hvn, hvp, hve⟩ := (valRd_iff _ _ _).1 hv
 obtain ⟨an, cn, rfl, _, _⟩ := hns.shape
 obtain ⟨ap, cp, rfl, _, _⟩ := hps.shape
 obtain ⟨ar, cr, rfl, _, _⟩ := hrs.shape
 obtain ⟨bn, bcn, rfl, _, _⟩ := hvn.shape
 obtain ⟨bp, bcp, rfl, _, _⟩ := hvp.shape
 obtain ⟨be, bce, rfl, _, _⟩ := hve.shape
 clear hns hps hrs hvn hvp hve hl hv
 have HB : Hid (∀ O1 O2, Below w.heap.size w ((w.alloc O1).alloc O2)) := hid fun O1 O2 => ((Below.refl _ _).alloc (Nat.le_refl _) O1).alloc (by simp) O2
 go_enter Tryz.func15, Tryz.ntmps15
 go_wp2_with fail
 generalize hW2 : (w.alloc (.cells #[.int .i64 l.kind, .int .i64 l.lo, .int .i64 l.hi, .slice an l.names.length cn, .slice ap l.parts.length cp, .slice ar l.rules.length cr] 26)).alloc (.cells #[.int .i64 v.n, .slice bn v.names.length bcn, .slice bp v.parts.length bcp, .slice be v.entries.length bce] 30) = W2
 have HB2 : Hid (Below w.heap.size w W2) := hid (by rw [← hW2]; exact HB.out _ _)
 have HX : Hid (∀ w', Below W2.heap.size W2 w' → (∀ (i : Nat) u, #[Value.int .i64 l.kind, .int .i64 l.lo, .int .i64 l.hi, .slice an l.names.length cn, .slice ap l.parts.length cp, .slice ar l.rules.length cr][i]? = some u → w'.cell? ⟨w.heap.size, i, none⟩ = some u) ∧ (∀ (i : Nat) u, #[Value.int .i64 v.n, .slice bn v.names.length bcn, .slice bp v.parts.length bcp, .slice be v.entries.length bce][i]? = some u → w'.cell? ⟨w.heap.size + 1, i, none⟩ = some u)) :=
  hid fun w' h => two_boxes w _ _ 26 30 (by rw [← hW2] at h; exact h.mono (by simp))
 clear hW2
 refine (HC.out _ HB2.out).mono ?_
 rintro e w1 ⟨rfl, hb1⟩
 have HB1 : Hid (Below W2.heap.size W2 w1) := hid hb1
 have HBW := hid (HB2.out.trans (hb1.mono HB2.out.size))
 clear hb1
 have f0 := (HX.out _ HB1.out).1 0 _ rfl
 have f1 := (HX.out _ HB1.out).1 1 _ rfl
 have f2 := (HX.out _ HB1.out).1 2 _ rfl
 have f3 := (HX.out _ HB1.out).1 3 _ rfl
 have f4 := (HX.out _ HB1.out).1 4 _ rfl
 have f5 := (HX.out _ HB1.out).1 5 _ rfl
 have g0 := (HX.out _ HB1.out).2 0 _ rfl
 have g1 := (HX.out _ HB1.out).2 1 _ rfl
 have g2 := (HX.out _ HB1.out).2 2 _ rfl
 have g3 := (HX.out _ HB1.out).2 3 _ rfl
 by_cases hE : E = 0
 · subst hE
   have HE2 : Hid (R = B) := hid (by rw [HE.out]; simp)
   have HEL2 := hid (HEL.out rfl)
   clear HEL
   go_wp2_with fail
   refine (HEL2.out _ HBW.out).mono ?_
   rintro e w2 ⟨rfl, hb2⟩
   have HBF := hid (HBW.out.trans (hb2.mono HBW.out.size))
   clear hb2
   go_wp2_with fail
   go_ret
   exact ⟨ret_bool HE2.out.symm, HBF.out⟩
 · have hEb : (E == 0) = false := by simpa using hE
   have HE2 : Hid (R = false) := hid (by rw [HE.out, decide_eq_false hE]; rfl)
   clear hE
   go_wp2_with fail
   go_ret
   exact ⟨ret_bool HE2.out.symm, HBW.out⟩
def ValEPost (w : World) (x : Val × Int) (e : Ending) (w' : World) : Prop := ∃ cs, e = .returned (.tuple #[.agg cs.toArray, .int .i64 x.2]) ∧ valRd (only (from_ w.heap.size) w') x.1 cs ∧ Below w.heap.size w w'
def bottomE (l : Lat) : Val × Int := if chkE l = 0 then (botV l, 0) else (zeroV, 1)
def isBotB (l : Lat) (v : Val) : Bool := decide (chkE l = 0) && decide (valC v (botV l) = 0)
theorem zeroV_rd (w : World) : valRd w zeroV [.int .i64 0, .slice none 0 0, .slice none 0 0, .slice none 0 0] := valRd_flat w 0 i64_0
theorem below_sets {w w' : World} {B b : Nat} (h : Below B w w') (hb : B ≤ b) (x y z u : Value) : Below B w ((((w'.setCell ⟨b, 0, none⟩ x).setCell ⟨b, 1, none⟩ y).setCell ⟨b, 2, none⟩ z).setCell ⟨b, 3, none⟩ u) := (((h.setCell hb _).setCell hb _).setCell hb _).setCell hb _
theorem sub_sets (w : World) (b n : Nat) (hb : b < n) (x y z u : Value) : Sub (only (from_ n) w) (only (from_ n) ((((w.setCell ⟨b, 0, none⟩ x).setCell ⟨b, 1, none⟩ y).setCell ⟨b, 2, none⟩ z).setCell ⟨b, 3, none⟩ u)) := only_keep fun g hg _ => by
  have hg' := of_decide_eq_true hg
  refine ⟨hg, ?_⟩
  rw [Below.heap_setCell _ _ _ _ (by show g ≠ b; omega), Below.heap_setCell _ _ _ _ (by show g ≠ b; omega), Below.heap_setCell _ _ _ _ (by show g ≠ b; omega), Below.heap_setCell _ _ _ _ (by show g ≠ b; omega)]
theorem only_from_mono {n m : Nat} (w : World) (h : n ≤ m) : Sub (only (from_ m) w) (only (from_ n) w) := only_keep fun g hg _ => ⟨decide_eq_true (by have := of_decide_eq_true hg; omega), rfl⟩
end Go.Proofs.YtmdjnaobllajmaaGreatDoor
