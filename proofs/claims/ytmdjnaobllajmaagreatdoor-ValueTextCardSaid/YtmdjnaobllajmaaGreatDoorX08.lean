/-
  What the statements of the chapter share, part 08: VWf, VBot, VElem, VNod, DSpec, PElem.
-/
import Derived.Test.YtmdjnaobllajmaaGreatDoorX03
import Derived.Test.YtmdjnaobllajmaaGreatDoorX05
import Derived.Test.YtmdjnaobllajmaaGreatDoorX07
set_option linter.unusedVariables false
set_option linter.unusedSimpArgs false
set_option maxRecDepth 100000
set_option maxHeartbeats 8000000
namespace Go.Proofs.YtmdjnaobllajmaaGreatDoor
open Go.RowKit
inductive WfL : Lat → Prop
 | mk (l : Lat) (h1 : shapeB l = false) (h2 : checkE l = 0) (h3 : ∀ p ∈ l.parts, WfL p) : WfL l
theorem WfL.shape {l : Lat} (h : WfL l) : shapeB l = false := by cases h; assumption
theorem WfL.check {l : Lat} (h : WfL l) : checkE l = 0 := by cases h; assumption
theorem WfL.part {l p : Lat} (h : WfL l) (hp : p ∈ l.parts) : WfL p := by cases h; rename_i h; exact h p hp
theorem goL_zero (g : Lat → Nat → Int × Nat) : ∀ (ps : List Lat) (n : Nat), (goL g ps n).1 = 0 → ∀ p ∈ ps, ∃ m, (g p m).1 = 0
 | [], _, _, p, hp => by simp at hp
 | q :: t, n, h, p, hp => by
   unfold goL at h
   by_cases h0 : (g q n).1 = 0
   · rw [if_neg (fun h => h h0)] at h
     rcases List.mem_cons.1 hp with rfl | hp
     · exact ⟨n, h0⟩
     · exact goL_zero g t _ h p hp
   · rw [if_pos h0] at h; exact absurd h h0
theorem visit_wf : ∀ (f : Nat) (l : Lat) (n : Nat), (visitF f l n).1 = 0 → WfL l
 | 0, l, n, h => by unfold visitF at h; exact absurd (show (6 : Int) = 0 from h) (by decide)
 | f + 1, l, n, h => by
   have e : visitF (f + 1) l n = if 64 ≤ n then (6, n) else if shapeB l then (1, n + 1) else if checkE l ≠ 0 then (checkE l, n + 1) else goL (visitF f) l.parts (n + 1) := by cases l; rfl
   rw [e] at h
   by_cases h1 : 64 ≤ n
   · rw [if_pos h1] at h; exact absurd (show (6 : Int) = 0 from h) (by decide)
   rw [if_neg h1] at h
   cases h2 : shapeB l
   · rw [if_neg (by rw [h2]; exact Bool.false_ne_true)] at h
     by_cases h3 : checkE l = 0
     · rw [if_neg (fun h => h h3)] at h
       exact .mk l h2 h3 fun p hp => by
         obtain ⟨m, hm⟩ := goL_zero _ _ _ h p hp
         exact visit_wf f p m hm
     · rw [if_pos h3] at h; exact absurd h h3
   · rw [if_pos h2] at h; exact absurd (show (1 : Int) = 0 from h) (by decide)
theorem chkE_wf {l : Lat} (h : chkE l = 0) : WfL l := visit_wf 6 l 0 h
theorem orI4_zero {a b c d : Int} (h : orI [a, b, c, d] = 0) : a = 0 ∧ b = 0 ∧ c = 0 ∧ d = 0 := by
 unfold orI at h
 by_cases ha : a = 0
 · rw [if_pos ha] at h; unfold orI at h
   by_cases hb : b = 0
   · rw [if_pos hb] at h; unfold orI at h
     by_cases hc : c = 0
     · rw [if_pos hc] at h; unfold orI at h
       by_cases hd : d = 0
       · exact ⟨ha, hb, hc, hd⟩
       · rw [if_neg hd] at h; exact absurd h hd
     · rw [if_neg hc] at h; exact absurd h hc
   · rw [if_neg hb] at h; exact absurd h hb
 · rw [if_neg ha] at h; exact absurd h ha
theorem whenI_zero {b : Bool} {e : Int} (he : e ≠ 0) (h : whenI b e = 0) : b = false := by
 cases b
 · rfl
 · exact absurd h he
theorem WfL.limits {l : Lat} (h : WfL l) : limitsB l = false := whenI_zero (by decide) (orI4_zero h.check).1
theorem WfL.spell {l : Lat} (h : WfL l) : spellB l = false := whenI_zero (by decide) (orI4_zero h.check).2.1
theorem WfL.ranges {l : Lat} (h : WfL l) : rangesB l = false := whenI_zero (by decide) (orI4_zero h.check).2.2.1
theorem WfL.kinds {l : Lat} (h : WfL l) : (1 ≤ l.kind ∧ l.kind ≤ 10) ∧ (l.kind = 5 → l.parts.length = 1) ∧ (l.kind = 7 → l.parts.length = 2) ∧ (l.kind = 6 → l.parts.length = l.names.length ∧ 1 ≤ l.names.length ∧ l.names.length ≤ 8) ∧
 (l.kind ≠ 5 → l.kind ≠ 6 → l.kind ≠ 7 → l.parts.length = 0) ∧ (l.kind ≠ 2 → l.kind ≠ 3 → l.lo = 0 ∧ l.hi = 0) ∧ (l.kind ≠ 10 → l.rules.length = 0) ∧ l.names.length ≤ 32 ∧ l.rules.length ≤ 32 ∧ (l.kind = 10 → 1 ≤ l.names.length ∧ l.names.length ≤ 12) ∧
 (l.kind = 1 ∨ l.kind = 2 ∨ l.kind = 3 ∨ l.kind = 7 ∨ l.kind = 9 → l.names.length = 0) := by
 have h1 := h.shape
 have h2 : ¬ (mostN l.kind < l.names.length ∨ 32 < l.rules.length) := of_decide_eq_false h.limits
 have hA : l.kind = 6 → l.names.length ≤ 8 := fun e => by unfold mostN at h2; rw [if_pos e] at h2; omega
 have hB : l.kind = 10 → l.names.length ≤ 12 := fun e => by unfold mostN at h2; rw [if_neg (by omega), if_pos e] at h2; omega
 have hC : l.names.length ≤ 32 := by
  unfold mostN at h2
  by_cases e : l.kind = 6
  · have := hA e; omega
  · by_cases e' : l.kind = 10
    · have := hB e'; omega
    · rw [if_neg e, if_neg e'] at h2; omega
 have hD : l.rules.length ≤ 32 := by omega
 unfold shapeB shapeC at h1
 rcases shape_kinds l.kind l.names.length with ⟨hk, hx⟩ | ⟨hk, hx⟩ | ⟨hk, hx⟩ | ⟨hk, hx⟩ | ⟨hk, hx⟩ | ⟨hk, hx⟩ | ⟨hk, hx⟩ | ⟨hk, hx⟩
 all_goals
  rw [hk] at h1
  simp only [Bool.or_eq_false_iff, Bool.and_eq_false_iff, decide_eq_false_iff_not, Bool.not_true, Bool.not_false, Bool.true_and, Bool.false_and, reduceCtorEq, false_or, true_or, Decidable.not_not, Bool.true_eq_false, and_true, true_and] at h1
 all_goals omega
def ValPost (w : World) (x : Val) (e : Ending) (w' : World) : Prop := ∃ cs, e = .returned (.agg cs.toArray) ∧ valRd (only (from_ w.heap.size) w') x cs ∧ Below w.heap.size w w'
theorem botV_eq (k lo hi : Int) (ns : List ByteArray) (ps : List Lat) (rs : List Rl) : botV (.mk k lo hi ns ps rs) = if k = 2 then .mk lo [] [] [] else if k = 3 then .mk hi [] [] [] else if k = 6 ∨ k = 7 then .mk 0 [] (ps.map botV) [] else zeroV := by
 rw [botV, botVs_eq]
theorem sl_none {α : Type} (w : World) (sz : Nat) (R : α → List Value → Prop) : SlRd w sz R (.slice none 0 0) [] := ⟨none, 0, rfl, ⟨fun _ => rfl, Nat.le_refl _⟩, by decide, fun i hi => by simp at hi⟩
theorem valRd_flat (w : World) (n : Int) (h : I64 n) : valRd w (.mk n [] [] []) [.int .i64 n, .slice none 0 0, .slice none 0 0, .slice none 0 0] :=
 (valRd_iff _ _ _).2 ⟨_, _, _, rfl, h, sl_none _ _ _, sl_none _ _ _, sl_none _ _ _⟩
theorem infoVal : (Tryz.prog.info? 30).map (fun i => (i.zero, i.size, i.bytes)) = some (some (.agg #[.int .i64 0, .slice none 0 0, .slice none 0 0, .slice none 0 0]), 4, 80) := by kernel_rfl
theorem cell_at_block {w : World} {g i : Nat} {cs : Array Value} {t : TypeId} {fr : Nat × Nat} (h : w.heap[g]? = some (.cells cs t fr)) : w.cell? ⟨g, i, none⟩ = cs[i]? := cell_of_row w g i cs t fr h
theorem free_at_block {w : World} {g i : Nat} {cs : Array Value} {t : TypeId} (h : w.heap[g]? = some (.cells cs t (0, 0))) : w.frozen? ⟨g, i, none⟩ = false := by simp [World.frozen?, h]
theorem block_lt {w : World} {g : Nat} {o : Obj} (h : w.heap[g]? = some o) : g < w.heap.size := (Array.getElem?_eq_some_iff.1 h).1
theorem block_set {w : World} {g i : Nat} {cs : Array Value} {t : TypeId} {fr : Nat × Nat} (h : w.heap[g]? = some (.cells cs t fr)) (u : Value) : (w.setCell ⟨g, i, none⟩ u).heap[g]? = some (.cells (cs.setIfInBounds i u) t fr) := by
 simp [World.setCell, Array.getElem?_modify, h]
theorem block_alloc {w : World} {g : Nat} {o : Obj} (h : w.heap[g]? = some o) (O : Obj) : (w.alloc O).heap[g]? = some o := (Below.heap_alloc w O g (block_lt h)).trans h
theorem valRd_mono' {a b : World} {x : Val} {cs : List Value} (h : Sub a b) (k : valRd a x cs) : valRd b x cs := valRd.mono h _ _ k
theorem valRd_parts (w : World) {v : Value} {l : List Val} (h : SlRd w 4 (valRd w) v l) : valRd w (.mk 0 [] l []) [.int .i64 0, .slice none 0 0, v, .slice none 0 0] :=
 (valRd_iff _ _ _).2 ⟨_, _, _, rfl, i64_0, sl_none _ _ _, h, sl_none _ _ _⟩
theorem bottom_any (f : Nat) : ∀ (l : Lat) (cs : List Value) (w : World), SizeOf.sizeOf l ≤ f → latRd w l cs → WfL l →
 Calls Tryz.prog 61 #[.agg cs.toArray] w (ValPost w (botV l)) := by
 induction f with
 | zero => intro l cs w hn; cases l; simp at hn
 | succ f ih =>
   intro l cs w hn hl hwf
   have IH := hid ih
   have HSZ := hid hn
   have HWF := hid hwf
   obtain ⟨vn, vp, vr, rfl, ⟨hi1, hi2, hi3⟩, hns, hps, hrs⟩ := (latRd_iff _ _ _).1 hl
   obtain ⟨k, lo, hi', ns, ps, rs⟩ := l
   simp only [Lat.kind, Lat.lo, Lat.hi, Lat.names, Lat.parts, Lat.rules] at hi1 hi2 hi3 hns hps hrs ⊢
   obtain ⟨an, cn, rfl, _, _⟩ := hns.shape
   obtain ⟨ap, cp, rfl, _, hmp⟩ := hps.shape
   obtain ⟨ar, cr, rfl, _, _⟩ := hrs.shape
   have HPS := hid hps
   have HI2 := hid hi2
   have HI3 := hid hi3
   have HB := hid (botV_eq k lo hi' ns ps rs)
   have HP8 : Hid (ps.length ≤ 8) := hid (by have := HWF.out.kinds; simp only [Lat.kind, Lat.parts, Lat.names] at this; omega)
   have HPW : Hid (∀ p ∈ ps, WfL p) := hid fun p hp => HWF.out.part hp
   have HLE : Hid (∀ p ∈ ps, SizeOf.sizeOf p ≤ f) := hid fun p hp => by have := sizeOf_part (l := .mk k lo hi' ns ps rs) (p := p) hp; have := HSZ.out; omega
   generalize botV (.mk k lo hi' ns ps rs) = R at HB ⊢
   clear hl hns hps hrs hn ih hi1 hi2 hi3 hwf
   by_cases h2 : k = 2
   · have HR : Hid (R = .mk lo [] [] []) := hid (by rw [HB.out, if_pos h2])
     subst h2
     go_enter Tryz.func61, Tryz.ntmps61
     go_wp2_with fail
     refine bodyPost_ret (v := .agg #[.int .i64 lo, .slice none 0 0, .slice none 0 0, .slice none 0 0]) (by simp [results, Tryz.results61, go_sem]) rfl ⟨[_, _, _, _], rfl, by rw [HR.out]; exact valRd_flat _ _ HI2.out, by repeat (first | exact Below.refl _ _ | refine Below.setCell ?_ (by simp) _ | refine Below.alloc ?_ (by simp <;> omega) _ | refine Below.drew ?_)⟩
   by_cases h3 : k = 3
   · have HR : Hid (R = .mk hi' [] [] []) := hid (by rw [HB.out, if_neg h2, if_pos h3])
     subst h3
     clear h2
     go_enter Tryz.func61, Tryz.ntmps61
     go_wp2_with fail
     refine bodyPost_ret (v := .agg #[.int .i64 hi', .slice none 0 0, .slice none 0 0, .slice none 0 0]) (by simp [results, Tryz.results61, go_sem]) rfl ⟨[_, _, _, _], rfl, by rw [HR.out]; exact valRd_flat _ _ HI3.out, by repeat (first | exact Below.refl _ _ | refine Below.setCell ?_ (by simp) _ | refine Below.alloc ?_ (by simp <;> omega) _ | refine Below.drew ?_)⟩
   have e2 : (k == 2) = false := by simpa using h2
   have e3 : (k == 3) = false := by simpa using h3
   by_cases h67 : k = 6 ∨ k = 7
   · have HR : Hid (R = .mk 0 [] (ps.map botV) []) := hid (by rw [HB.out, if_neg h2, if_neg h3, if_pos h67])
     clear h2 h3 HB
     rcases h67 with rfl | rfl
     all_goals
      obtain ⟨i0, hi0, hz0, hz1, hz2⟩ := info_parts infoVal
      go_enter Tryz.func61, Tryz.ntmps61
      go_wp2_with fail
      go_loopw [5, 24] (fun _ i wr => ∃ (j : Nat) (vo : Value) (css : List (List Value)), j ≤ ps.length ∧ i = .int .i64 j ∧ wr.heap[w.heap.size + 1 + 1]? = some (.cells #[.int .i64 0, .slice none 0 0, vo, .slice none 0 0] 30 (0, 0)) ∧
        wr.heap[w.heap.size + 1]? = some (.cells #[.int .i64 0, .slice none 0 0, .slice none 0 0, .slice none 0 0] 30 (0, 0)) ∧ Hid (Below w.heap.size w wr) ∧ Hid (Rws wr (w.heap.size + 3) 30 4 valRd vo ((ps.map botV).take j) css)) (fun _ i _ => ps.length - (intOf i).toNat)
      case atStart => exact ⟨0, .slice none 0 0, [], Nat.zero_le _, rfl, heap_new_at _ _ _ (by simp), block_alloc (heap_new_at _ _ _ (by simp)) _, hid (by repeat (first | exact Below.refl _ _ | refine Below.setCell ?_ (by simp) _ | refine Below.alloc ?_ (by simp <;> omega) _ | refine Below.drew ?_)), hid (by rw [List.take_zero]; exact Rws.nil _ _ _ _ _)⟩
      case round =>
       obtain ⟨j, vo, css, hj, rfl, hKv, hKr, HW, HRW⟩ := hrel
       have HKR := hid hKr
       clear hKr
       by_cases hlt : j < ps.length
       · obtain ⟨b, o, cs, ha, hl0, hcs, hlp⟩ := HPS.out.at j hlt
         subst ha
         obtain ⟨an0, cn0, ap0, cp0, ar0, cr0, rfl, hyi, hyn, hyp, hyr, _⟩ := latRd.lay hlp
         have HLP := hid hlp
         obtain ⟨f0, f1, f2, f3, f4, f5⟩ := (hcs.below HW.out).six
         clear hlp hcs hyi hyn hyp hyr
         obtain ⟨ao, co, rfl⟩ := owns_shape HRW.out.own
         have hKlt := block_lt hKv
         have HKV := hid hKv
         go_wp2_with fail
         have HW1 : Hid (∀ O, Below wr.heap.size wr (wr.alloc O)) := hid fun O => (Below.refl _ _).alloc (Nat.le_refl _) O
         have HBX : Hid (∀ (i : Nat) (v : Value), #[Value.int .i64 ps[j].kind, .int .i64 ps[j].lo, .int .i64 ps[j].hi, .slice an0 ps[j].names.length cn0, .slice ap0 ps[j].parts.length cp0, .slice ar0 ps[j].rules.length cr0][i]? = some v → (wr.alloc (.cells #[.int .i64 ps[j].kind, .int .i64 ps[j].lo, .int .i64 ps[j].hi, .slice an0 ps[j].names.length cn0, .slice ap0 ps[j].parts.length cp0, .slice ar0 ps[j].rules.length cr0] 26)).cell? ⟨wr.heap.size, i, none⟩ = some v) := hid fun i v hv => by
           rw [World.cell?_alloc_at _ _ _ _ rfl]; exact hv
         have HWA := hid (HW1.out (.cells #[.int .i64 ps[j].kind, .int .i64 ps[j].lo, .int .i64 ps[j].hi, .slice an0 ps[j].names.length cn0, .slice ap0 ps[j].parts.length cp0, .slice ar0 ps[j].rules.length cr0] 26))
         generalize wr.alloc (.cells #[.int .i64 ps[j].kind, .int .i64 ps[j].lo, .int .i64 ps[j].hi, .slice an0 ps[j].names.length cn0, .slice ap0 ps[j].parts.length cp0, .slice ar0 ps[j].rules.length cr0] 26) = WA at HBX HWA ⊢
         have HWB : Hid (Below w.heap.size w WA) := hid (HW.out.trans (HWA.out.mono HW.out.size))
         have g0 := HBX.out 0 _ rfl
         have g1 := HBX.out 1 _ rfl
         have g2 := HBX.out 2 _ rfl
         have g3 := HBX.out 3 _ rfl
         have g4 := HBX.out 4 _ rfl
         have g5 := HBX.out 5 _ rfl
         have HKA : Hid (WA.heap[w.heap.size + 1 + 1]? = some (.cells #[.int .i64 0, .slice none 0 0, .slice ao ((ps.map botV).take j).length co, .slice none 0 0] 30 (0, 0))) := hid ((HWA.out.block _ hKlt).trans HKV.out)
         have hlen : ((ps.map botV).take j).length = j := by rw [List.length_take, List.length_map]; omega
         have HLEN := hid hlen
         rw [hlen] at HRW HKA
         have HRA : Hid (Rws WA (w.heap.size + 3) 30 4 valRd (.slice ao j co) ((ps.map botV).take j) css) := hid (HRW.out.keep valRd_mono' fun b hb hl => HWA.out.block b hl)
         have hk2 : WA.cell? ⟨w.heap.size + 1 + 1, 2, none⟩ = some (.slice ao j co) := by rw [cell_at_block HKA.out]; rfl
         have hwlt : w.heap.size + 1 + 1 < WA.heap.size := block_lt HKA.out
         have HWLT := hid hwlt
         have HJ : Hid (j + 1 ≤ 9223372036854775807 ∧ j + 1 ≤ ps.length) := hid (by omega)
         clear hlen f0 f1 f2 f3 f4 f5 hKv hwlt
         go_region_law
          (first
            | (refine step_append (by rfl) (.tmp 29) (.tmp 32) 27 (by rfl) (w.heap.size + 3) 30 4 80 Tryz.underlying27 hi0 hz0 hz1 hz2 rfl (by decide) (.slice ao j co) j css.flatten (by rfl) (HOW.out _) _ 1 [.int .i64 (botV ps[j]).n, .slice bn (botV ps[j]).names.length bcn, .slice bp (botV ps[j]).parts.length bcp, .slice be (botV ps[j]).entries.length bce] (by rfl) (Src.of_block (cs := #[.int .i64 (botV ps[j]).n, .slice bn (botV ps[j]).names.length bcn, .slice bp (botV ps[j]).parts.length bcp, .slice be (botV ps[j]).entries.length bce]) (heap_alloc_new _ _) 4 1 1 rfl (by simp [Value.oneCell'])) (j + 1) rfl _ rfl HMX.out.1 HMX.out.2 (HBS.out _) ?_
               intro na nc w2 had
               have HAD := hid had
               have HK2 : Hid (w2.heap[w.heap.size + 1 + 1]? = some (.cells #[.int .i64 0, .slice none 0 0, .slice ao j co, .slice none 0 0] 30 (0, 0))) := hid ((had.grown.block _ (by have := HSW.out; simp; omega) HNE.out).trans (block_alloc HK1.out _))
               have hk4 : w2.cell? ⟨w.heap.size + 1 + 1, 2, none⟩ = some (.slice ao j co) := by rw [cell_at_block HK2.out]; rfl
               have hk5 : w2.frozen? ⟨w.heap.size + 1 + 1, 2, none⟩ = false := free_at_block HK2.out
               clear had)
            | (go_simp
               go_at_call 61
               refine (IH.out ps[j] [.int .i64 ps[j].kind, .int .i64 ps[j].lo, .int .i64 ps[j].hi, .slice an0 ps[j].names.length cn0, .slice ap0 ps[j].parts.length cp0, .slice ar0 ps[j].rules.length cr0] _ (HLE.out _ (List.getElem_mem hlt)) (latRd.below (HWB.out.drew) _ _ HLP.out) (HPW.out _ (List.getElem_mem hlt))).mono ?_
               rintro e w1 ⟨cs1, rfl, hv1, hb1⟩
               have HX1 := hid hv1
               obtain ⟨bn, bcn, bp, bcp, be, bce, rfl, _, hsn, hsp, hse, _⟩ := valRd.lay hv1
               have HB1 : Hid (Below WA.heap.size WA w1) := hid ((Below.refl _ _).drew.trans hb1)
               have HR1 : Hid (Rws w1 (w.heap.size + 3) 30 4 valRd (.slice ao j co) ((ps.map botV).take j) css) := hid (HRA.out.keep valRd_mono' fun b hb hl => HB1.out.block b hl)
               have HK1 : Hid (w1.heap[w.heap.size + 1 + 1]? = some (.cells #[.int .i64 0, .slice none 0 0, .slice ao j co, .slice none 0 0] 30 (0, 0))) := hid ((HB1.out.block _ HWLT.out).trans HKA.out)
               have hk3 : w1.cell? ⟨w.heap.size + 1 + 1, 2, none⟩ = some (.slice ao j co) := by rw [cell_at_block HK1.out]; rfl
               have hk3a : ∀ O, (w1.alloc O).cell? ⟨w.heap.size + 1 + 1, 2, none⟩ = some (.slice ao j co) := fun O => cell_alloc hk3 O
               have HOW : Hid (∀ O, (w1.alloc O).ownsRow (w.heap.size + 3) 30 4 (.slice ao j co) j css.flatten) := hid fun O => by have := HR1.out.own; rw [HLEN.out] at this; exact this.alloc O
               have HMX : Hid (j + 1 ≤ maxLen ∧ (j + 1) * 80 ≤ 140737488355328) := hid (by have := HP8.out; have := HJ.out; unfold maxLen; omega)
               have HBS : Hid (∀ O, w.heap.size + 3 ≤ (w1.alloc O).heap.size) := hid fun O => by have := HB1.out.size; have := HWLT.out; simp; omega
               have HSW : Hid (w.heap.size + 1 + 1 < w1.heap.size) := hid (block_lt HK1.out)
               have HNE : Hid (some (w.heap.size + 1 + 1) ≠ (Value.slice ao j co).ownBlock) := hid fun e => by have := (HOW.out (.cells #[] 0 (0, 0))).lt _ e.symm; omega
               clear hv1 hb1 hsn hsp hse))
         all_goals
          have HKF : Hid (∀ u, (w2.setCell ⟨w.heap.size + 1 + 1, 2, none⟩ u).heap[w.heap.size + 1 + 1]? = some (.cells #[.int .i64 0, .slice none 0 0, u, .slice none 0 0] 30 (0, 0))) := hid fun u => block_set HK2.out u
          have HKG : Hid (∀ u, (w2.setCell ⟨w.heap.size + 1 + 1, 2, none⟩ u).heap[w.heap.size + 1]? = some (.cells #[.int .i64 0, .slice none 0 0, .slice none 0 0, .slice none 0 0] 30 (0, 0))) := hid fun u => by
            rw [Below.heap_setCell _ _ _ _ (by simp), HAD.out.grown.block _ (by have := HSW.out; simp; omega) (fun e => by have := (HOW.out (.cells #[] 0 (0, 0))).lt _ e.symm; omega)]
            exact block_alloc ((HB1.out.block _ (by have := HWLT.out; omega)).trans ((HWA.out.block _ (block_lt HKR.out)).trans HKR.out)) _
          have HBF : Hid (∀ u, Below w.heap.size w (w2.setCell ⟨w.heap.size + 1 + 1, 2, none⟩ u)) := hid fun u =>
           (((HWB.out.trans (HB1.out.mono HWB.out.size)).alloc (by have := HSW.out; omega) _).grown HAD.out.grown (by have := HSW.out; simp; omega) (fun g hg => by have := (HOW.out (.cells #[] 0 (0, 0))).lt g hg; omega)).setCell (by simp; omega) u
          have HRF : Hid (∀ u, Rws (w2.setCell ⟨w.heap.size + 1 + 1, 2, none⟩ u) (w.heap.size + 3) 30 4 valRd (.slice na (j + 1) nc) ((ps.map botV).take (j + 1)) (css ++ [[.int .i64 (botV ps[j]).n, .slice bn (botV ps[j]).names.length bcn, .slice bp (botV ps[j]).parts.length bcp, .slice be (botV ps[j]).entries.length bce]])) := hid fun u => by
            have hp := (HR1.out.keep valRd_mono' (w' := w1.alloc (.cells #[.int .i64 (botV ps[j]).n, .slice bn (botV ps[j]).names.length bcn, .slice bp (botV ps[j]).parts.length bcp, .slice be (botV ps[j]).entries.length bce] 30)) (fun b _ hl => Below.heap_alloc _ _ _ hl)).push valRd_mono' (x := botV ps[j]) (cs := [.int .i64 (botV ps[j]).n, .slice bn (botV ps[j]).names.length bcn, .slice bp (botV ps[j]).parts.length bcp, .slice be (botV ps[j]).entries.length bce]) HAD.out (by rw [HLEN.out]) rfl rfl
              (valRd_mono' (only_keep fun b hb hl => ⟨by
                unfold from_ at hb
                unfold butOwn
                have hb' := of_decide_eq_true hb
                simp only [Bool.and_eq_true, decide_eq_true_eq]
                refine ⟨by have := HWLT.out; have : WA.drew.heap.size = WA.heap.size := rfl; omega, fun e => ?_⟩
                have := (HRA.out.own).lt b e
                have : WA.drew.heap.size = WA.heap.size := rfl
                omega, Below.heap_alloc _ _ _ hl⟩) HX1.out)
            rw [show (ps.map botV).take (j + 1) = (ps.map botV).take j ++ [botV ps[j]] by rw [List.take_succ_eq_append_getElem (by rw [List.length_map]; exact HJ.out.2), List.getElem_map]]
            exact hp.keep valRd_mono' fun b hb hl => Below.heap_setCell _ _ _ _ (by simp; omega)
          go_wp2_with fail
          go_roundw
          case rel => exact ⟨j + 1, _, _, HJ.out.2, by go_num, HKF.out _, HKG.out _, hid (HBF.out _), hid (HRF.out _)⟩
          case measure => simp [intOf]; omega
       · have hjj : j = ps.length := by omega
         subst hjj
         have HRS := hid (HRW.out.reads valRd_mono')
         rw [List.take_of_length_le (by rw [List.length_map]; exact Nat.le_refl _)] at HRS
         obtain ⟨ao, co, rfl⟩ := owns_shape HRW.out.own
         have hk2 : ∀ i, wr.cell? ⟨w.heap.size + 1 + 1, i, none⟩ = #[.int .i64 0, .slice none 0 0, .slice ao ((ps.map botV).take ps.length).length co, .slice none 0 0][i]? := fun i => cell_at_block hKv
         have hk3 : ∀ i, wr.cell? ⟨w.heap.size + 1, i, none⟩ = #[.int .i64 0, .slice none 0 0, .slice none 0 0, .slice none 0 0][i]? := fun i => cell_at_block HKR.out
         have hk4 : ∀ i, wr.frozen? ⟨w.heap.size + 1, i, none⟩ = false := fun i => free_at_block HKR.out
         clear hKv
         have HBS : Hid (∀ u, Below w.heap.size w (wr.setCell ⟨w.heap.size + 1, 0, none⟩ u)) := hid fun u => HW.out.setCell (by simp) u
         go_wp2_with fail
         refine bodyPost_ret (v := .agg #[.int .i64 0, .slice none 0 0, .slice ao ((ps.map botV).take ps.length).length co, .slice none 0 0]) ?_ rfl ⟨[_, _, _, _], rfl, ?_, ?_⟩
         · simp [results, Tryz.results61, go_sem, hk3, hk2, hk4]
         · rw [HR.out]
           have hs : ∀ (a b c d : Value), Sub (only (from_ (w.heap.size + 3)) wr) (only (from_ w.heap.size) ((((wr.setCell ⟨w.heap.size + 1, 0, none⟩ a).setCell ⟨w.heap.size + 1, 1, none⟩ b).setCell ⟨w.heap.size + 1, 2, none⟩ c).setCell ⟨w.heap.size + 1, 3, none⟩ d)) := fun a b c d => only_keep fun g hg _ => by
             have hg' := of_decide_eq_true hg
             refine ⟨decide_eq_true (by omega), ?_⟩
             rw [Below.heap_setCell _ _ _ _ (by simp; omega), Below.heap_setCell _ _ _ _ (by simp; omega), Below.heap_setCell _ _ _ _ (by simp; omega), Below.heap_setCell _ _ _ _ (by simp; omega)]
           exact valRd_parts _ (SlRd.mono HRS.out (hs _ _ _ _) fun _ _ _ h => valRd_mono' (hs _ _ _ _) h)
         · exact (((HW.out.setCell (by simp) _).setCell (by simp) _).setCell (by simp) _).setCell (by simp) _
   · have HR : Hid (R = zeroV) := hid (by rw [HB.out, if_neg h2, if_neg h3, if_neg h67])
     have e6 : (k == 6) = false := by simp; omega
     have e7 : (k == 7) = false := by simp; omega
     clear h2 h3 h67
     go_enter Tryz.func61, Tryz.ntmps61
     go_wp2_with fail
     refine bodyPost_ret (v := .agg #[.int .i64 0, .slice none 0 0, .slice none 0 0, .slice none 0 0]) (by simp [results, Tryz.results61, go_sem]) rfl ⟨[_, _, _, _], rfl, by rw [HR.out]; exact valRd_flat _ _ i64_0, by repeat (first | exact Below.refl _ _ | refine Below.setCell ?_ (by simp) _ | refine Below.alloc ?_ (by simp <;> omega) _ | refine Below.drew ?_)⟩
theorem used_hid {w W : World} {v : Val} {a b c d : Value} (HB : Hid (∀ x : Ext W, Below w.heap.size w x.1)) (HV : Hid (valRd w v [a, b, c, d])) :
 Hid (∀ (q1 q2 q3 q4 : Bool) (x : Ext W), Calls Tryz.prog 64 #[.agg #[a, b, c, d], .bool q1, .bool q2, .bool q3, .bool q4] x.1 fun e w' => e = .returned (.bool (usedB v q1 q2 q3 q4)) ∧ ∃ y : Ext W, w' = y.1) :=
 hid fun _ _ _ _ x => ext_call x (used_any _ [a, b, c, d] _ _ _ _ _ (valRd.below (HB.out x) _ _ HV.out))
theorem Ext.sub {W : World} (x : Ext W) : Sub W x.1 := Sub.of_below x.2
theorem ext_self (W : World) : ∃ x : Ext W, W = x.1 := ⟨⟨W, Below.refl _ _⟩, rfl⟩
theorem elemB_eq (l : Lat) (v : Val) : elemB l v = (if l.kind = 1 then usedB v true false false false && decide (v.n = 0 ∨ v.n = 1)
 else if l.kind = 2 ∨ l.kind = 3 then usedB v true false false false && decide (l.lo ≤ v.n ∧ v.n ≤ l.hi)
 else if l.kind = 4 then usedB v false true false false && allowedB l.names v.names
 else if l.kind = 10 then usedB v false true false false && allowedB l.names v.names && closedB l.rules v.names
 else if l.kind = 8 then (if v.n = 0 ∨ v.n = 2 then usedB v true false false false else if v.n = 1 then usedB v true true false false && decide (v.names.length = 1) && allowedB l.names v.names else false)
 else if l.kind = 9 then usedB v false false false true && regB v.entries
 else if l.kind = 5 then usedB v false true true false && decide (v.names.length = v.parts.length) && allowedB l.names v.names && mapB l.parts v.parts
 else usedB v false false true false && decide (v.parts.length = l.parts.length) && elemsB l.parts v.parts) := by
 cases l
 rw [elemB]
 rfl
theorem elem_1 (lo hi' : Int) (ns : List ByteArray) (ps : List Lat) (rs : List Rl) (an ap ar : Option Addr) (cn cp cr : Nat) (vn : Int) (vns : List ByteArray) (vps : List Val) (ves : List En) (bn bp be : Option Addr) (bcn bcp bce : Nat) (w : World)
 (HL : Hid (latRd w (.mk 1 lo hi' ns ps rs) [.int .i64 1, .int .i64 lo, .int .i64 hi', .slice an ns.length cn, .slice ap ps.length cp, .slice ar rs.length cr])) (HV : Hid (valRd w (.mk vn vns vps ves) [.int .i64 vn, .slice bn vns.length bcn, .slice bp vps.length bcp, .slice be ves.length bce])) :
 Calls Tryz.prog 37 #[.agg #[.int .i64 1, .int .i64 lo, .int .i64 hi', .slice an ns.length cn, .slice ap ps.length cp, .slice ar rs.length cr], .agg #[.int .i64 vn, .slice bn vns.length bcn, .slice bp vps.length bcp, .slice be ves.length bce]] w fun e w' => e = .returned (.bool (elemB (.mk 1 lo hi' ns ps rs) (.mk vn vns vps ves))) ∧ Below w.heap.size w w' := by
 have HE : Hid (elemB (.mk 1 lo hi' ns ps rs) (.mk vn vns vps ves) = (usedB (.mk vn vns vps ves) true false false false && decide (vn = 0 ∨ vn = 1))) := hid (by rw [elemB_eq]; rfl)
 generalize elemB (.mk 1 lo hi' ns ps rs) (.mk vn vns vps ves) = R at HE ⊢
 obtain ⟨W2, hW, HB, HBl, HBv⟩ := two_box w #[.int .i64 1, .int .i64 lo, .int .i64 hi', .slice an ns.length cn, .slice ap ps.length cp, .slice ar rs.length cr] #[.int .i64 vn, .slice bn vns.length bcn, .slice bp vps.length bcp, .slice be ves.length bce] 26 30
 go_enter Tryz.func37, Tryz.ntmps37
 go_wp2_with fail
 rw [hW.out]
 clear hW
 obtain ⟨x0, hx⟩ := ext_self W2
 rw [hx]
 clear hx
 have l0 : ∀ x : Ext W2, x.1.cell? ⟨w.heap.size, 0, none⟩ = some (.int .i64 1) := fun x => HBl.out.ext x 0 _ rfl
 obtain ⟨v0, v1, v2, v3⟩ := bx4 fun x : Ext W2 => HBv.out.ext x
 have HCU := used_hid HB HV
 go_wp2_with (first | (go_at_call 64; refine (HCU.out _ _ _ _ _).mono ?_; rintro e w1 ⟨rfl, y, rfl⟩))
 all_goals
  go_ret
  exact ⟨ret_bool (by rw [HE.out] <;> (simp_all <;> rfl)), HB.out _⟩
theorem elem_23 (k : Int) (hk : k = 2 ∨ k = 3) (lo hi' : Int) (ns : List ByteArray) (ps : List Lat) (rs : List Rl) (an ap ar : Option Addr) (cn cp cr : Nat) (vn : Int) (vns : List ByteArray) (vps : List Val) (ves : List En) (bn bp be : Option Addr) (bcn bcp bce : Nat) (w : World)
 (HL : Hid (latRd w (.mk k lo hi' ns ps rs) [.int .i64 k, .int .i64 lo, .int .i64 hi', .slice an ns.length cn, .slice ap ps.length cp, .slice ar rs.length cr])) (HV : Hid (valRd w (.mk vn vns vps ves) [.int .i64 vn, .slice bn vns.length bcn, .slice bp vps.length bcp, .slice be ves.length bce])) :
 Calls Tryz.prog 37 #[.agg #[.int .i64 k, .int .i64 lo, .int .i64 hi', .slice an ns.length cn, .slice ap ps.length cp, .slice ar rs.length cr], .agg #[.int .i64 vn, .slice bn vns.length bcn, .slice bp vps.length bcp, .slice be ves.length bce]] w fun e w' => e = .returned (.bool (elemB (.mk k lo hi' ns ps rs) (.mk vn vns vps ves))) ∧ Below w.heap.size w w' := by
 have HE : Hid (elemB (.mk k lo hi' ns ps rs) (.mk vn vns vps ves) = (usedB (.mk vn vns vps ves) true false false false && decide (lo ≤ vn ∧ vn ≤ hi'))) := hid (by rw [elemB_eq]; rcases hk with rfl | rfl <;> rfl)
 generalize elemB (.mk k lo hi' ns ps rs) (.mk vn vns vps ves) = R at HE ⊢
 obtain ⟨W2, hW, HB, HBl, HBv⟩ := two_box w #[.int .i64 k, .int .i64 lo, .int .i64 hi', .slice an ns.length cn, .slice ap ps.length cp, .slice ar rs.length cr] #[.int .i64 vn, .slice bn vns.length bcn, .slice bp vps.length bcp, .slice be ves.length bce] 26 30
 rcases hk with rfl | rfl
 all_goals
  go_enter Tryz.func37, Tryz.ntmps37
  go_wp2_with fail
  rw [hW.out]
  clear hW
  obtain ⟨x0, hx⟩ := ext_self W2
  rw [hx]
  clear hx
  obtain ⟨l0, l1, l2⟩ := bx3 fun x : Ext W2 => HBl.out.ext x
  obtain ⟨v0, v1, v2, v3⟩ := bx4 fun x : Ext W2 => HBv.out.ext x
  have HCU := used_hid HB HV
  go_wp2_with (first | (go_at_call 64; refine (HCU.out _ _ _ _ _).mono ?_; rintro e w1 ⟨rfl, y, rfl⟩))
  all_goals
   go_ret
   exact ⟨ret_bool (by rw [HE.out] <;> (simp_all <;> omega)), HB.out _⟩
theorem elem_4 (lo hi' : Int) (ns : List ByteArray) (ps : List Lat) (rs : List Rl) (an ap ar : Option Addr) (cn cp cr : Nat) (vn : Int) (vns : List ByteArray) (vps : List Val) (ves : List En) (bn bp be : Option Addr) (bcn bcp bce : Nat) (w : World)
 (HL : Hid (latRd w (.mk 4 lo hi' ns ps rs) [.int .i64 4, .int .i64 lo, .int .i64 hi', .slice an ns.length cn, .slice ap ps.length cp, .slice ar rs.length cr])) (HV : Hid (valRd w (.mk vn vns vps ves) [.int .i64 vn, .slice bn vns.length bcn, .slice bp vps.length bcp, .slice be ves.length bce])) :
 Calls Tryz.prog 37 #[.agg #[.int .i64 4, .int .i64 lo, .int .i64 hi', .slice an ns.length cn, .slice ap ps.length cp, .slice ar rs.length cr], .agg #[.int .i64 vn, .slice bn vns.length bcn, .slice bp vps.length bcp, .slice be ves.length bce]] w fun e w' => e = .returned (.bool (elemB (.mk 4 lo hi' ns ps rs) (.mk vn vns vps ves))) ∧ Below w.heap.size w w' := by
 have HE : Hid (elemB (.mk 4 lo hi' ns ps rs) (.mk vn vns vps ves) = (usedB (.mk vn vns vps ves) false true false false && allowedB ns vns)) := hid (by rw [elemB_eq]; rfl)
 generalize elemB (.mk 4 lo hi' ns ps rs) (.mk vn vns vps ves) = R at HE ⊢
 obtain ⟨W2, hW, HB, HBl, HBv⟩ := two_box w #[.int .i64 4, .int .i64 lo, .int .i64 hi', .slice an ns.length cn, .slice ap ps.length cp, .slice ar rs.length cr] #[.int .i64 vn, .slice bn vns.length bcn, .slice bp vps.length bcp, .slice be ves.length bce] 26 30
 go_enter Tryz.func37, Tryz.ntmps37
 go_wp2_with fail
 rw [hW.out]
 clear hW
 obtain ⟨x0, hx⟩ := ext_self W2
 rw [hx]
 clear hx
 obtain ⟨l0, -, -, l3⟩ := bx4 fun x : Ext W2 => HBl.out.ext x
 obtain ⟨v0, v1, v2, v3⟩ := bx4 fun x : Ext W2 => HBv.out.ext x
 have HCU := used_hid HB HV
 have HCA : Hid (∀ x : Ext W2, Calls Tryz.prog 65 #[.slice an ns.length cn, .slice bn vns.length bcn] x.1 fun e w' => e = .returned (.bool (allowedB ns vns)) ∧ ∃ y : Ext W2, w' = y.1) := hid fun x => by
   obtain ⟨_, _, _, hh, _, h3, _⟩ := (latRd_iff _ _ _).1 (latRd.below (HB.out x) _ _ HL.out)
   obtain ⟨_, _, _, gg, _, g3, _⟩ := (valRd_iff _ _ _).1 (valRd.below (HB.out x) _ _ HV.out)
   cases hh; cases gg
   exact ext_call x (allowed_any _ _ ns vns _ h3 g3)
 go_wp2_with (first | (go_at_call 64; refine (HCU.out _ _ _ _ _).mono ?_; rintro e w1 ⟨rfl, y, rfl⟩) | (go_at_call 65; refine (HCA.out _).mono ?_; rintro e w1 ⟨rfl, y, rfl⟩))
 all_goals
  go_ret
  exact ⟨ret_bool (by rw [HE.out] <;> (simp_all)), HB.out _⟩
theorem elem_10 (lo hi' : Int) (ns : List ByteArray) (ps : List Lat) (rs : List Rl) (an ap ar : Option Addr) (cn cp cr : Nat) (vn : Int) (vns : List ByteArray) (vps : List Val) (ves : List En) (bn bp be : Option Addr) (bcn bcp bce : Nat) (w : World)
 (HL : Hid (latRd w (.mk 10 lo hi' ns ps rs) [.int .i64 10, .int .i64 lo, .int .i64 hi', .slice an ns.length cn, .slice ap ps.length cp, .slice ar rs.length cr])) (HV : Hid (valRd w (.mk vn vns vps ves) [.int .i64 vn, .slice bn vns.length bcn, .slice bp vps.length bcp, .slice be ves.length bce])) :
 Calls Tryz.prog 37 #[.agg #[.int .i64 10, .int .i64 lo, .int .i64 hi', .slice an ns.length cn, .slice ap ps.length cp, .slice ar rs.length cr], .agg #[.int .i64 vn, .slice bn vns.length bcn, .slice bp vps.length bcp, .slice be ves.length bce]] w fun e w' => e = .returned (.bool (elemB (.mk 10 lo hi' ns ps rs) (.mk vn vns vps ves))) ∧ Below w.heap.size w w' := by
 have HE : Hid (elemB (.mk 10 lo hi' ns ps rs) (.mk vn vns vps ves) = (usedB (.mk vn vns vps ves) false true false false && allowedB ns vns && closedB rs vns)) := hid (by rw [elemB_eq]; rfl)
 generalize elemB (.mk 10 lo hi' ns ps rs) (.mk vn vns vps ves) = R at HE ⊢
 obtain ⟨W2, hW, HB, HBl, HBv⟩ := two_box w #[.int .i64 10, .int .i64 lo, .int .i64 hi', .slice an ns.length cn, .slice ap ps.length cp, .slice ar rs.length cr] #[.int .i64 vn, .slice bn vns.length bcn, .slice bp vps.length bcp, .slice be ves.length bce] 26 30
 go_enter Tryz.func37, Tryz.ntmps37
 go_wp2_with fail
 rw [hW.out]
 clear hW
 obtain ⟨x0, hx⟩ := ext_self W2
 rw [hx]
 clear hx
 obtain ⟨l0, -, -, l3, -, l5⟩ := bx6 fun x : Ext W2 => HBl.out.ext x
 obtain ⟨v0, v1, v2, v3⟩ := bx4 fun x : Ext W2 => HBv.out.ext x
 have HCU := used_hid HB HV
 have HCA : Hid (∀ x : Ext W2, Calls Tryz.prog 65 #[.slice an ns.length cn, .slice bn vns.length bcn] x.1 fun e w' => e = .returned (.bool (allowedB ns vns)) ∧ ∃ y : Ext W2, w' = y.1) := hid fun x => by
   obtain ⟨_, _, _, hh, _, h3, _⟩ := (latRd_iff _ _ _).1 (latRd.below (HB.out x) _ _ HL.out)
   obtain ⟨_, _, _, gg, _, g3, _⟩ := (valRd_iff _ _ _).1 (valRd.below (HB.out x) _ _ HV.out)
   cases hh; cases gg
   exact ext_call x (allowed_any _ _ ns vns _ h3 g3)
 have HCC : Hid (∀ x : Ext W2, Calls Tryz.prog 66 #[.slice ar rs.length cr, .slice bn vns.length bcn] x.1 fun e w' => e = .returned (.bool (closedB rs vns)) ∧ ∃ y : Ext W2, w' = y.1) := hid fun x => by
   obtain ⟨_, _, _, hh, _, _, _, h5⟩ := (latRd_iff _ _ _).1 (latRd.below (HB.out x) _ _ HL.out)
   obtain ⟨_, _, _, gg, _, g3, _⟩ := (valRd_iff _ _ _).1 (valRd.below (HB.out x) _ _ HV.out)
   cases hh; cases gg
   exact ext_call x (closed_any _ _ rs vns _ h5 g3)
 go_wp2_with (first | (go_at_call 64; refine (HCU.out _ _ _ _ _).mono ?_; rintro e w1 ⟨rfl, y, rfl⟩) | (go_at_call 65; refine (HCA.out _).mono ?_; rintro e w1 ⟨rfl, y, rfl⟩) | (go_at_call 66; refine (HCC.out _).mono ?_; rintro e w1 ⟨rfl, y, rfl⟩))
 all_goals
  go_ret
  exact ⟨ret_bool (by rw [HE.out] <;> (simp_all)), HB.out _⟩
theorem elem_9 (lo hi' : Int) (ns : List ByteArray) (ps : List Lat) (rs : List Rl) (an ap ar : Option Addr) (cn cp cr : Nat) (vn : Int) (vns : List ByteArray) (vps : List Val) (ves : List En) (bn bp be : Option Addr) (bcn bcp bce : Nat) (w : World)
 (HL : Hid (latRd w (.mk 9 lo hi' ns ps rs) [.int .i64 9, .int .i64 lo, .int .i64 hi', .slice an ns.length cn, .slice ap ps.length cp, .slice ar rs.length cr])) (HV : Hid (valRd w (.mk vn vns vps ves) [.int .i64 vn, .slice bn vns.length bcn, .slice bp vps.length bcp, .slice be ves.length bce])) :
 Calls Tryz.prog 37 #[.agg #[.int .i64 9, .int .i64 lo, .int .i64 hi', .slice an ns.length cn, .slice ap ps.length cp, .slice ar rs.length cr], .agg #[.int .i64 vn, .slice bn vns.length bcn, .slice bp vps.length bcp, .slice be ves.length bce]] w fun e w' => e = .returned (.bool (elemB (.mk 9 lo hi' ns ps rs) (.mk vn vns vps ves))) ∧ Below w.heap.size w w' := by
 have HE : Hid (elemB (.mk 9 lo hi' ns ps rs) (.mk vn vns vps ves) = (usedB (.mk vn vns vps ves) false false false true && regB ves)) := hid (by rw [elemB_eq]; rfl)
 generalize elemB (.mk 9 lo hi' ns ps rs) (.mk vn vns vps ves) = R at HE ⊢
 obtain ⟨W2, hW, HB, HBl, HBv⟩ := two_box w #[.int .i64 9, .int .i64 lo, .int .i64 hi', .slice an ns.length cn, .slice ap ps.length cp, .slice ar rs.length cr] #[.int .i64 vn, .slice bn vns.length bcn, .slice bp vps.length bcp, .slice be ves.length bce] 26 30
 go_enter Tryz.func37, Tryz.ntmps37
 go_wp2_with fail
 rw [hW.out]
 clear hW
 obtain ⟨x0, hx⟩ := ext_self W2
 rw [hx]
 clear hx
 have l0 : ∀ x : Ext W2, x.1.cell? ⟨w.heap.size, 0, none⟩ = some (.int .i64 9) := fun x => HBl.out.ext x 0 _ rfl
 obtain ⟨v0, v1, v2, v3⟩ := bx4 fun x : Ext W2 => HBv.out.ext x
 have HCU := used_hid HB HV
 have HCR : Hid (∀ x : Ext W2, Calls Tryz.prog 67 #[.slice be ves.length bce] x.1 fun e w' => e = .returned (.bool (regB ves)) ∧ ∃ y : Ext W2, w' = y.1) := hid fun x => by
   obtain ⟨_, _, _, gg, _, _, _, g5⟩ := (valRd_iff _ _ _).1 (valRd.below (HB.out x) _ _ HV.out)
   cases gg
   exact ext_call x (register_any _ ves _ g5)
 go_wp2_with (first | (go_at_call 64; refine (HCU.out _ _ _ _ _).mono ?_; rintro e w1 ⟨rfl, y, rfl⟩) | (go_at_call 67; refine (HCR.out _).mono ?_; rintro e w1 ⟨rfl, y, rfl⟩))
 all_goals
  go_ret
  exact ⟨ret_bool (by rw [HE.out] <;> (simp_all)), HB.out _⟩
theorem elem_8_0 (lo hi' : Int) (ns : List ByteArray) (ps : List Lat) (rs : List Rl) (an ap ar : Option Addr) (cn cp cr : Nat) (vns : List ByteArray) (vps : List Val) (ves : List En) (bn bp be : Option Addr) (bcn bcp bce : Nat) (w : World)
 (HL : Hid (latRd w (.mk 8 lo hi' ns ps rs) [.int .i64 8, .int .i64 lo, .int .i64 hi', .slice an ns.length cn, .slice ap ps.length cp, .slice ar rs.length cr])) (HV : Hid (valRd w (.mk 0 vns vps ves) [.int .i64 0, .slice bn vns.length bcn, .slice bp vps.length bcp, .slice be ves.length bce])) :
 Calls Tryz.prog 37 #[.agg #[.int .i64 8, .int .i64 lo, .int .i64 hi', .slice an ns.length cn, .slice ap ps.length cp, .slice ar rs.length cr], .agg #[.int .i64 0, .slice bn vns.length bcn, .slice bp vps.length bcp, .slice be ves.length bce]] w fun e w' => e = .returned (.bool (elemB (.mk 8 lo hi' ns ps rs) (.mk 0 vns vps ves))) ∧ Below w.heap.size w w' := by
 have HE : Hid (elemB (.mk 8 lo hi' ns ps rs) (.mk 0 vns vps ves) = (usedB (.mk 0 vns vps ves) true false false false)) := hid (by rw [elemB_eq]; rfl)
 generalize elemB (.mk 8 lo hi' ns ps rs) (.mk 0 vns vps ves) = R at HE ⊢
 obtain ⟨W2, hW, HB, HBl, HBv⟩ := two_box w #[.int .i64 8, .int .i64 lo, .int .i64 hi', .slice an ns.length cn, .slice ap ps.length cp, .slice ar rs.length cr] #[.int .i64 0, .slice bn vns.length bcn, .slice bp vps.length bcp, .slice be ves.length bce] 26 30
 go_enter Tryz.func37, Tryz.ntmps37
 go_wp2_with fail
 rw [hW.out]
 clear hW
 obtain ⟨x0, hx⟩ := ext_self W2
 rw [hx]
 clear hx
 obtain ⟨l0, -, -, l3⟩ := bx4 fun x : Ext W2 => HBl.out.ext x
 obtain ⟨v0, v1, v2, v3⟩ := bx4 fun x : Ext W2 => HBv.out.ext x
 have HCU := used_hid HB HV
 have HCA : Hid (∀ x : Ext W2, Calls Tryz.prog 65 #[.slice an ns.length cn, .slice bn vns.length bcn] x.1 fun e w' => e = .returned (.bool (allowedB ns vns)) ∧ ∃ y : Ext W2, w' = y.1) := hid fun x => by
   obtain ⟨_, _, _, hh, _, h3, _⟩ := (latRd_iff _ _ _).1 (latRd.below (HB.out x) _ _ HL.out)
   obtain ⟨_, _, _, gg, _, g3, _⟩ := (valRd_iff _ _ _).1 (valRd.below (HB.out x) _ _ HV.out)
   cases hh; cases gg
   exact ext_call x (allowed_any _ _ ns vns _ h3 g3)
 go_wp2_with (first | (go_at_call 64; refine (HCU.out _ _ _ _ _).mono ?_; rintro e w1 ⟨rfl, y, rfl⟩))
 all_goals
  go_ret
  exact ⟨ret_bool (by rw [HE.out] <;> (simp_all <;> (intros; omega))), HB.out _⟩
theorem elem_8_2 (lo hi' : Int) (ns : List ByteArray) (ps : List Lat) (rs : List Rl) (an ap ar : Option Addr) (cn cp cr : Nat) (vns : List ByteArray) (vps : List Val) (ves : List En) (bn bp be : Option Addr) (bcn bcp bce : Nat) (w : World)
 (HL : Hid (latRd w (.mk 8 lo hi' ns ps rs) [.int .i64 8, .int .i64 lo, .int .i64 hi', .slice an ns.length cn, .slice ap ps.length cp, .slice ar rs.length cr])) (HV : Hid (valRd w (.mk 2 vns vps ves) [.int .i64 2, .slice bn vns.length bcn, .slice bp vps.length bcp, .slice be ves.length bce])) :
 Calls Tryz.prog 37 #[.agg #[.int .i64 8, .int .i64 lo, .int .i64 hi', .slice an ns.length cn, .slice ap ps.length cp, .slice ar rs.length cr], .agg #[.int .i64 2, .slice bn vns.length bcn, .slice bp vps.length bcp, .slice be ves.length bce]] w fun e w' => e = .returned (.bool (elemB (.mk 8 lo hi' ns ps rs) (.mk 2 vns vps ves))) ∧ Below w.heap.size w w' := by
 have HE : Hid (elemB (.mk 8 lo hi' ns ps rs) (.mk 2 vns vps ves) = (usedB (.mk 2 vns vps ves) true false false false)) := hid (by rw [elemB_eq]; rfl)
 generalize elemB (.mk 8 lo hi' ns ps rs) (.mk 2 vns vps ves) = R at HE ⊢
 obtain ⟨W2, hW, HB, HBl, HBv⟩ := two_box w #[.int .i64 8, .int .i64 lo, .int .i64 hi', .slice an ns.length cn, .slice ap ps.length cp, .slice ar rs.length cr] #[.int .i64 2, .slice bn vns.length bcn, .slice bp vps.length bcp, .slice be ves.length bce] 26 30
 go_enter Tryz.func37, Tryz.ntmps37
 go_wp2_with fail
 rw [hW.out]
 clear hW
 obtain ⟨x0, hx⟩ := ext_self W2
 rw [hx]
 clear hx
 obtain ⟨l0, -, -, l3⟩ := bx4 fun x : Ext W2 => HBl.out.ext x
 obtain ⟨v0, v1, v2, v3⟩ := bx4 fun x : Ext W2 => HBv.out.ext x
 have HCU := used_hid HB HV
 have HCA : Hid (∀ x : Ext W2, Calls Tryz.prog 65 #[.slice an ns.length cn, .slice bn vns.length bcn] x.1 fun e w' => e = .returned (.bool (allowedB ns vns)) ∧ ∃ y : Ext W2, w' = y.1) := hid fun x => by
   obtain ⟨_, _, _, hh, _, h3, _⟩ := (latRd_iff _ _ _).1 (latRd.below (HB.out x) _ _ HL.out)
   obtain ⟨_, _, _, gg, _, g3, _⟩ := (valRd_iff _ _ _).1 (valRd.below (HB.out x) _ _ HV.out)
   cases hh; cases gg
   exact ext_call x (allowed_any _ _ ns vns _ h3 g3)
 go_wp2_with (first | (go_at_call 64; refine (HCU.out _ _ _ _ _).mono ?_; rintro e w1 ⟨rfl, y, rfl⟩))
 all_goals
  go_ret
  exact ⟨ret_bool (by rw [HE.out] <;> (simp_all <;> (intros; omega))), HB.out _⟩
theorem elem_8_1 (lo hi' : Int) (ns : List ByteArray) (ps : List Lat) (rs : List Rl) (an ap ar : Option Addr) (cn cp cr : Nat) (vns : List ByteArray) (vps : List Val) (ves : List En) (bn bp be : Option Addr) (bcn bcp bce : Nat) (w : World)
 (HL : Hid (latRd w (.mk 8 lo hi' ns ps rs) [.int .i64 8, .int .i64 lo, .int .i64 hi', .slice an ns.length cn, .slice ap ps.length cp, .slice ar rs.length cr])) (HV : Hid (valRd w (.mk 1 vns vps ves) [.int .i64 1, .slice bn vns.length bcn, .slice bp vps.length bcp, .slice be ves.length bce])) :
 Calls Tryz.prog 37 #[.agg #[.int .i64 8, .int .i64 lo, .int .i64 hi', .slice an ns.length cn, .slice ap ps.length cp, .slice ar rs.length cr], .agg #[.int .i64 1, .slice bn vns.length bcn, .slice bp vps.length bcp, .slice be ves.length bce]] w fun e w' => e = .returned (.bool (elemB (.mk 8 lo hi' ns ps rs) (.mk 1 vns vps ves))) ∧ Below w.heap.size w w' := by
 have HE : Hid (elemB (.mk 8 lo hi' ns ps rs) (.mk 1 vns vps ves) = (usedB (.mk 1 vns vps ves) true true false false && decide (vns.length = 1) && allowedB ns vns)) := hid (by rw [elemB_eq]; rfl)
 generalize elemB (.mk 8 lo hi' ns ps rs) (.mk 1 vns vps ves) = R at HE ⊢
 obtain ⟨W2, hW, HB, HBl, HBv⟩ := two_box w #[.int .i64 8, .int .i64 lo, .int .i64 hi', .slice an ns.length cn, .slice ap ps.length cp, .slice ar rs.length cr] #[.int .i64 1, .slice bn vns.length bcn, .slice bp vps.length bcp, .slice be ves.length bce] 26 30
 go_enter Tryz.func37, Tryz.ntmps37
 go_wp2_with fail
 rw [hW.out]
 clear hW
 obtain ⟨x0, hx⟩ := ext_self W2
 rw [hx]
 clear hx
 obtain ⟨l0, -, -, l3⟩ := bx4 fun x : Ext W2 => HBl.out.ext x
 obtain ⟨v0, v1, v2, v3⟩ := bx4 fun x : Ext W2 => HBv.out.ext x
 have HCU := used_hid HB HV
 have HCA : Hid (∀ x : Ext W2, Calls Tryz.prog 65 #[.slice an ns.length cn, .slice bn vns.length bcn] x.1 fun e w' => e = .returned (.bool (allowedB ns vns)) ∧ ∃ y : Ext W2, w' = y.1) := hid fun x => by
   obtain ⟨_, _, _, hh, _, h3, _⟩ := (latRd_iff _ _ _).1 (latRd.below (HB.out x) _ _ HL.out)
   obtain ⟨_, _, _, gg, _, g3, _⟩ := (valRd_iff _ _ _).1 (valRd.below (HB.out x) _ _ HV.out)
   cases hh; cases gg
   exact ext_call x (allowed_any _ _ ns vns _ h3 g3)
 go_wp2_with (first | (go_at_call 64; refine (HCU.out _ _ _ _ _).mono ?_; rintro e w1 ⟨rfl, y, rfl⟩) | (go_at_call 65; refine (HCA.out _).mono ?_; rintro e w1 ⟨rfl, y, rfl⟩))
 all_goals
  go_ret
  exact ⟨ret_bool (by rw [HE.out] <;> (simp_all <;> (intros; omega))), HB.out _⟩
theorem elem_8 (lo hi' : Int) (ns : List ByteArray) (ps : List Lat) (rs : List Rl) (an ap ar : Option Addr) (cn cp cr : Nat) (vn : Int) (vns : List ByteArray) (vps : List Val) (ves : List En) (bn bp be : Option Addr) (bcn bcp bce : Nat) (w : World)
 (HL : Hid (latRd w (.mk 8 lo hi' ns ps rs) [.int .i64 8, .int .i64 lo, .int .i64 hi', .slice an ns.length cn, .slice ap ps.length cp, .slice ar rs.length cr])) (HV : Hid (valRd w (.mk vn vns vps ves) [.int .i64 vn, .slice bn vns.length bcn, .slice bp vps.length bcp, .slice be ves.length bce])) :
 Calls Tryz.prog 37 #[.agg #[.int .i64 8, .int .i64 lo, .int .i64 hi', .slice an ns.length cn, .slice ap ps.length cp, .slice ar rs.length cr], .agg #[.int .i64 vn, .slice bn vns.length bcn, .slice bp vps.length bcp, .slice be ves.length bce]] w fun e w' => e = .returned (.bool (elemB (.mk 8 lo hi' ns ps rs) (.mk vn vns vps ves))) ∧ Below w.heap.size w w' := by
 by_cases h0 : vn = 0
 · subst h0; exact elem_8_0 lo hi' ns ps rs an ap ar cn cp cr vns vps ves bn bp be bcn bcp bce w HL HV
 by_cases h2 : vn = 2
 · subst h2; exact elem_8_2 lo hi' ns ps rs an ap ar cn cp cr vns vps ves bn bp be bcn bcp bce w HL HV
 by_cases h1 : vn = 1
 · subst h1; exact elem_8_1 lo hi' ns ps rs an ap ar cn cp cr vns vps ves bn bp be bcn bcp bce w HL HV
 have HE : Hid (elemB (.mk 8 lo hi' ns ps rs) (.mk vn vns vps ves) = false) := hid (by rw [elemB_eq]; show (if vn = 0 ∨ vn = 2 then _ else if vn = 1 then _ else false) = false; rw [if_neg (by omega), if_neg h1])
 generalize elemB (.mk 8 lo hi' ns ps rs) (.mk vn vns vps ves) = R at HE ⊢
 have e0 : (vn == 0) = false := by simpa using h0
 have e1 : (vn == 1) = false := by simpa using h1
 have e2 : (vn == 2) = false := by simpa using h2
 clear h0 h1 h2
 have HB : Hid (∀ O1 O2, Below w.heap.size w ((w.alloc O1).alloc O2)) := hid fun O1 O2 => ((Below.refl _ _).alloc (Nat.le_refl _) O1).alloc (by simp) O2
 go_enter Tryz.func37, Tryz.ntmps37
 go_wp2_with fail
 go_ret
 exact ⟨ret_bool HE.out.symm, HB.out _ _⟩
theorem nodesN_eq (v : Val) : nodesN v = 1 + v.names.length + v.entries.length + nodesNs v.parts + (v.entries.map fun e => e.clock.length).sum := by
  cases v; rw [nodesN]; rfl
theorem nodesNs_drop (l : List Val) (j : Nat) (h : j < l.length) : nodesNs (l.drop j) = nodesN l[j] + nodesNs (l.drop (j + 1)) := by
 rw [drop_consS l j h, nodesNs]
theorem clocks_drop (l : List En) (j : Nat) (h : j < l.length) : ((l.drop j).map fun e => e.clock.length).sum = l[j].clock.length + ((l.drop (j + 1)).map fun e => e.clock.length).sum := by
  rw [drop_consS l j h]; rfl
theorem sizeOf_vp {v p : Val} (h : p ∈ v.parts) : SizeOf.sizeOf p < SizeOf.sizeOf v := by
 cases v
 have := List.sizeOf_lt_of_mem h
 simp only [Val.parts] at this
 simp only [Val.mk.sizeOf_spec]
 omega
theorem nodes_any (f : Nat) : ∀ (v : Val) (cs : List Value) (w : World), SizeOf.sizeOf v ≤ f → valRd w v cs → nodesN v ≤ 1000000000000 →
 Calls Tryz.prog 23 #[.agg cs.toArray] w fun e w' => e = .returned (.int .i64 (nodesN v : Nat)) ∧ Below w.heap.size w w' := by
 induction f with
 | zero => intro v cs w hn; cases v; simp at hn
 | succ f ih =>
   intro v cs w hn hv hb
   have IH := hid ih
   obtain ⟨bvn, dvn, bvp, dvp, bve, dve, rfl, gvi, gvn, gvp, gve, ⟨_, nvn⟩, ⟨_, nvp⟩, _, nve⟩ := valRd.lay hv
   have HIP : Hid (∀ p ∈ v.parts, SizeOf.sizeOf p ≤ f) := hid fun p hp => by have := sizeOf_vp hp; omega
   obtain ⟨n, ns, ps, es⟩ := v
   simp only [Val.n, Val.names, Val.parts, Val.entries] at gvn gvp gve nvn nvp nve HIP ⊢
   have HT : Hid (nodesN (.mk n ns ps es) = 1 + ns.length + es.length + nodesNs ps + (es.map fun e => e.clock.length).sum) := hid (nodesN_eq _)
   generalize nodesN (.mk n ns ps es) = T at HT hb ⊢
   have HP := hid gvp
   have HE := hid gve
   have HTB := hid hb
   clear hv hn ih gvn gvp gve gvi hb
   have HB : Hid (∀ x : Ext (w.alloc (.cells #[.int .i64 n, .slice bvn ns.length dvn, .slice bvp ps.length dvp, .slice bve es.length dve] 30)), Below w.heap.size w x.1) := hid fun x => ((Below.refl _ _).alloc (Nat.le_refl _) _).trans (x.2.mono (by simp))
   have HX : Hid (∀ (x : Ext (w.alloc (.cells #[.int .i64 n, .slice bvn ns.length dvn, .slice bvp ps.length dvp, .slice bve es.length dve] 30))) (i : Nat) v, #[Value.int .i64 n, .slice bvn ns.length dvn, .slice bvp ps.length dvp, .slice bve es.length dve][i]? = some v → x.1.cell? ⟨w.heap.size, i, none⟩ = some v) := hid fun x i v hv => x.cell (by rw [World.cell?_alloc_at _ _ _ _ rfl]; exact hv)
   have hw1 : wrap64 (wrap64 (1 + (ns.length : Int)) + es.length) = ((1 + ns.length + es.length : Nat) : Int) := by have := HT.out; have := HTB.out; rw [IntWalk.wrap64_in (1 + (ns.length : Int)) (by omega), IntWalk.wrap64_in _ (by omega)]; omega
   have HW1 := hid hw1
   clear hw1
   go_enter Tryz.func23, Tryz.ntmps23
   go_wp2_with fail
   generalize w.alloc (.cells #[.int .i64 n, .slice bvn ns.length dvn, .slice bvp ps.length dvp, .slice bve es.length dve] 30) = W1 at HB HX ⊢
   obtain ⟨x0, hx⟩ := ext_self W1
   rw [hx]
   clear hx
   obtain ⟨-, c1, c2, c3⟩ := bx4 fun x : Ext W1 => HX.out x
   go_wp2_with fail
   go_loopw [3, 5, 19] (fun n _ i wr => ∃ (j m : Nat) (x : Ext W1), j ≤ ps.length ∧ i = .int .i64 j ∧ n = .int .i64 m ∧ wr = x.1 ∧ Hid (m + nodesNs (ps.drop j) + (es.map fun e => e.clock.length).sum = T)) (fun _ _ i _ => ps.length - (intOf i).toNat)
   case atStart => exact ⟨0, 1 + ns.length + es.length, x0, Nat.zero_le _, rfl, by rw [HW1.out], rfl, hid (by rw [HT.out]; rfl)⟩
   case round =>
    obtain ⟨j, m, x, hj, rfl, rfl, rfl, He⟩ := hrel
    by_cases hlt : j < ps.length
    · obtain ⟨pb, po, pcs, hpb, _, pcell, prd⟩ := (HP.out).at j hlt
      subst hpb
      have HPR := hid prd
      obtain ⟨bqn, dqn, bqp, dqp, bqe, dqe, rfl, gqi, gqn, gqp, gqe, ⟨_, nqn⟩, ⟨_, nqp⟩, _, nqe⟩ := valRd.lay prd
      have r0 : x.1.cell? ⟨pb, po + j * 4, none⟩ = some (.int .i64 ps[j].n) := (pcell.below (HB.out x)) 0 (by simp)
      have r1 : x.1.cell? ⟨pb, po + j * 4 + 1, none⟩ = some (.slice bqn ps[j].names.length dqn) := (pcell.below (HB.out x)) 1 (by simp)
      have r2 : x.1.cell? ⟨pb, po + j * 4 + 2, none⟩ = some (.slice bqp ps[j].parts.length dqp) := (pcell.below (HB.out x)) 2 (by simp)
      have r3 : x.1.cell? ⟨pb, po + j * 4 + 3, none⟩ = some (.slice bqe ps[j].entries.length dqe) := (pcell.below (HB.out x)) 3 (by simp)
      have HS : Hid (m + nodesN ps[j] + nodesNs (ps.drop (j + 1)) + (es.map fun e => e.clock.length).sum = T) := hid (by rw [← He.out, nodesNs_drop ps j hlt]; omega)
      have hmb : (m : Int) + (nodesN ps[j] : Int) ≤ 1000000000000 := by have := HS.out; have := HTB.out; omega
      clear prd gqi gqn gqp gqe pcell nqn nqp nqe
      go_wp2_with fail
      refine (IH.out ps[j] [.int .i64 ps[j].n, .slice bqn ps[j].names.length dqn, .slice bqp ps[j].parts.length dqp, .slice bqe ps[j].entries.length dqe] _ (HIP.out _ (List.getElem_mem hlt)) (valRd.below ((HB.out x).alloc (HB.out x).size _) _ _ HPR.out) (by have := HS.out; have := HTB.out; omega)).mono ?_
      rintro e w2 ⟨rfl, hb2⟩
      have HX2 : Hid (Below W1.heap.size W1 w2) := hid ((x.2.alloc x.2.size _).trans (hb2.mono (by have := x.2.size; simp; omega)))
      clear hb2
      go_wp2_with fail
      go_roundw
      case rel => exact ⟨j + 1, m + nodesN ps[j], ⟨w2, HX2.out⟩, by omega, by go_num, by go_num, rfl, HS⟩
      case measure => simp [intOf]; omega
    · have HS : Hid (m + ((es.drop 0).map fun e => e.clock.length).sum = T) := hid (by rw [← He.out, show ps.drop j = [] from List.drop_eq_nil_of_le (by omega), nodesNs]; rfl)
      go_wp2_with fail
      clear He
      go_loopw [3, 7, 31] (fun n _ i wr => ∃ (k m : Nat) (x : Ext W1), k ≤ es.length ∧ i = .int .i64 k ∧ n = .int .i64 m ∧ wr = x.1 ∧ Hid (m + ((es.drop k).map fun e => e.clock.length).sum = T)) (fun _ _ i _ => es.length - (intOf i).toNat)
      case atStart => exact ⟨0, m, x, Nat.zero_le _, rfl, rfl, rfl, HS⟩
      case round =>
       obtain ⟨k, m, x, hk, rfl, rfl, rfl, He⟩ := hrel
       by_cases hlt : k < es.length
       · obtain ⟨pb, po, pcs, hpb, _, pcell, ev, rfl, hec, hen⟩ := (HE.out).at k hlt
         subst hpb
         obtain ⟨ea, ec, rfl, _, eb⟩ := hec.shape
         have r0 : x.1.cell? ⟨pb, po + k * 2, none⟩ = some (.slice ea es[k].clock.length ec) := (pcell.below (HB.out x)) 0 (by simp)
         have r1 : x.1.cell? ⟨pb, po + k * 2 + 1, none⟩ = some (.string es[k].name) := (pcell.below (HB.out x)) 1 (by simp)
         have HS2 : Hid (m + es[k].clock.length + ((es.drop (k + 1)).map fun e => e.clock.length).sum = T) := hid (by rw [← He.out, clocks_drop es k hlt]; omega)
         have hmb : (m : Int) + (es[k].clock.length : Int) ≤ 1000000000000 := by have := HS2.out; have := HTB.out; omega
         have HUP : Hid (∀ O, Below W1.heap.size W1 (x.1.alloc O)) := hid fun O => x.2.alloc x.2.size _
         clear pcell hec
         go_wp2_with fail
         go_roundw
         case rel => exact ⟨k + 1, m + es[k].clock.length, ⟨_, HUP.out _⟩, by omega, by go_num, by go_num, rfl, HS2⟩
         case measure => simp [intOf]; omega
       · have HF : Hid (m = T) := hid (by have := He.out; rw [show es.drop k = [] from List.drop_eq_nil_of_le (by omega)] at this; simpa using this)
         go_wp2_with fail
         go_ret
         exact ⟨by rw [HF.out]; rfl, HB.out _⟩
def strOf (l : List UInt8) : ByteArray := ⟨l.toArray⟩
def rdText (s : RS) : ByteArray × RS := (strOf (rdBytes s).1, (rdBytes s).2)
def rdSmall (m : Nat) (s : RS) : Nat × RS := (if m < (rdUint s).1 then 0 else (rdUint s).1, if m < (rdUint s).1 then (rdUint s).2.fail else (rdUint s).2)
theorem rdSmall_le (m : Nat) (s : RS) : (rdSmall m s).1 ≤ m := by
 unfold rdSmall
 show (if m < (rdUint s).1 then 0 else (rdUint s).1) ≤ m
 split <;> omega
def rdLoop {α : Type} (f : RS → α × RS) : Nat → RS → List α × RS
 | 0, s => ([], s)
 | n + 1, s => if s.err = 0 then ((f s).1 :: (rdLoop f n (f s).2).1, (rdLoop f n (f s).2).2) else ([], s)
theorem rdLoop_zero {α : Type} (f : RS → α × RS) (s : RS) : rdLoop f 0 s = ([], s) := rfl
theorem rdLoop_bad {α : Type} (f : RS → α × RS) (n : Nat) (s : RS) (h : s.err ≠ 0) : rdLoop f n s = ([], s) := by
 cases n with
 | zero => rfl
 | succ n => unfold rdLoop; rw [if_neg h]
theorem rdLoop_go {α : Type} (f : RS → α × RS) (n : Nat) (s : RS) (h : s.err = 0) : rdLoop f (n + 1) s = ((f s).1 :: (rdLoop f n (f s).2).1, (rdLoop f n (f s).2).2) := by
 conv => lhs; unfold rdLoop
 rw [if_pos h]
def LoopAt {α : Type} (R : List α × RS) (f : RS → α × RS) (acc : List α) (k : Nat) (s : RS) : Prop := R = (acc ++ (rdLoop f k s).1, (rdLoop f k s).2)
theorem LoopAt.start {α : Type} (f : RS → α × RS) (k : Nat) (s : RS) : LoopAt (rdLoop f k s) f [] k s := rfl
theorem LoopAt.step {α : Type} {R : List α × RS} {f : RS → α × RS} {acc : List α} {k : Nat} {s : RS} (h : LoopAt R f acc (k + 1) s) (he : s.err = 0) : LoopAt R f (acc ++ [(f s).1]) k (f s).2 := by
 unfold LoopAt at h ⊢
 rw [h, rdLoop_go f k s he, List.append_assoc]
 rfl
theorem LoopAt.end0 {α : Type} {R : List α × RS} {f : RS → α × RS} {acc : List α} {s : RS} (h : LoopAt R f acc 0 s) : R = (acc, s) := by
 unfold LoopAt at h
 rw [h, rdLoop_zero, List.append_nil]
theorem LoopAt.endE {α : Type} {R : List α × RS} {f : RS → α × RS} {acc : List α} {k : Nat} {s : RS} (h : LoopAt R f acc k s) (he : s.err ≠ 0) : R = (acc, s) := by
 unfold LoopAt at h
 rw [h, rdLoop_bad f k s he, List.append_nil]
def rdTick (s : RS) : Tk × RS := (⟨((rdSmall 63 s).1 : Nat), ((rdSmall 1000000000000000 (rdSmall 63 s).2).1 : Nat)⟩, (rdSmall 1000000000000000 (rdSmall 63 s).2).2)
def rdClock (s : RS) : List Tk × RS := rdLoop rdTick (rdCount s).1 (rdCount s).2
def rdEntry (s : RS) : En × RS := (⟨(rdClock s).1, (rdText (rdClock s).2).1⟩, (rdText (rdClock s).2).2)
def rdPair (f : RS → Val × RS) (s : RS) : (ByteArray × Val) × RS := (((rdText s).1, (f (rdText s).2).1), (f (rdText s).2).2)
mutual
def readV : Lat → RS → Val × RS
 | .mk k _ _ _ ps _, s =>
   if k = 1 then (.mk (if (rdBool s).1 then 1 else 0) [] [] [], (rdBool s).2)
   else if k = 2 ∨ k = 3 then (.mk (rdInt s).1 [] [] [], (rdInt s).2)
   else if k = 4 ∨ k = 10 then (.mk 0 (rdLoop rdText (rdCount s).1 (rdCount s).2).1 [] [], (rdLoop rdText (rdCount s).1 (rdCount s).2).2)
   else if k = 5 then (.mk 0 ((readMap ps (rdCount s).1 (rdCount s).2).1.map Prod.fst) ((readMap ps (rdCount s).1 (rdCount s).2).1.map Prod.snd) [], (readMap ps (rdCount s).1 (rdCount s).2).2)
   else if k = 8 then (if (rdSmall 2 s).1 = 1 then (.mk 1 [(rdText (rdSmall 2 s).2).1] [] [], (rdText (rdSmall 2 s).2).2) else (.mk ((rdSmall 2 s).1 : Nat) [] [] [], (rdSmall 2 s).2))
   else if k = 9 then (.mk 0 [] [] (rdLoop rdEntry (rdCount s).1 (rdCount s).2).1, (rdLoop rdEntry (rdCount s).1 (rdCount s).2).2)
   else (.mk 0 [] (readParts ps s).1 [], (readParts ps s).2)
def readMap : List Lat → Nat → RS → List (ByteArray × Val) × RS
 | [], _, s => ([], s)
 | p :: _, n, s => rdLoop (rdPair (readV p)) n s
def readParts : List Lat → RS → List Val × RS
 | [], s => ([], s)
 | p :: ps, s => ((readV p s).1 :: (readParts ps (readV p s).2).1, (readParts ps (readV p s).2).2)
end
theorem usedB_4 {v : Val} {n list parts entries : Bool} : usedB v n list parts entries = true ↔ (n = true ∨ v.n = 0) ∧ (list = true ∨ v.names = []) ∧ (parts = true ∨ v.parts = []) ∧ (entries = true ∨ v.entries = []) := by
 unfold usedB
 simp only [Bool.and_eq_true, Bool.or_eq_true, decide_eq_true_eq, List.length_eq_zero_iff, and_assoc]
section
variable {k lo hi : Int} {ns : List ByteArray} {ps : List Lat} {rs : List Rl} {v : Val}
theorem isE_1 : elemB (.mk 1 lo hi ns ps rs) v = true ↔ (v.n = 0 ∨ v.n = 1) ∧ v.names = [] ∧ v.parts = [] ∧ v.entries = [] := by
 rw [elemB, if_pos (by rfl), Bool.and_eq_true, usedB_4, decide_eq_true_eq]
 simp only [Bool.false_eq_true, false_or, true_or, true_and]
 exact and_comm
theorem isE_23 (e : k = 2 ∨ k = 3) : elemB (.mk k lo hi ns ps rs) v = true ↔ (lo ≤ v.n ∧ v.n ≤ hi) ∧ v.names = [] ∧ v.parts = [] ∧ v.entries = [] := by
 rw [elemB, if_neg (by omega), if_pos e, Bool.and_eq_true, usedB_4, decide_eq_true_eq]
 simp only [Bool.false_eq_true, false_or, true_or, true_and]
 exact and_comm
theorem isE_4 : elemB (.mk 4 lo hi ns ps rs) v = true ↔ (v.n = 0 ∧ v.parts = [] ∧ v.entries = []) ∧ allowedB ns v.names = true := by
 rw [elemB, if_neg (by decide), if_neg (by decide), if_pos (by rfl), Bool.and_eq_true, usedB_4]
 simp only [Bool.false_eq_true, false_or, true_or, true_and]
theorem isE_10 : elemB (.mk 10 lo hi ns ps rs) v = true ↔ (v.n = 0 ∧ v.parts = [] ∧ v.entries = []) ∧ allowedB ns v.names = true ∧ closedB rs v.names = true := by
 rw [elemB, if_neg (by decide), if_neg (by decide), if_neg (by decide), if_pos (by rfl), Bool.and_eq_true, Bool.and_eq_true, usedB_4]
 simp only [Bool.false_eq_true, false_or, true_or, true_and, and_assoc]
theorem isE_410 (e : k = 4 ∨ k = 10) (h : elemB (.mk k lo hi ns ps rs) v = true) : (v.n = 0 ∧ v.parts = [] ∧ v.entries = []) ∧ allowedB ns v.names = true := by
 rcases e with rfl | rfl
 · exact isE_4.1 h
 · exact ⟨(isE_10.1 h).1, (isE_10.1 h).2.1⟩
theorem isE_8 : elemB (.mk 8 lo hi ns ps rs) v = true ↔ v.parts = [] ∧ v.entries = [] ∧ ((v.n = 0 ∧ v.names = []) ∨ (v.n = 2 ∧ v.names = []) ∨ (v.n = 1 ∧ v.names.length = 1 ∧ allowedB ns v.names = true)) := by
 rw [elemB, if_neg (by decide), if_neg (by decide), if_neg (by decide), if_neg (by decide), if_pos (by rfl)]
 by_cases h02 : v.n = 0 ∨ v.n = 2
 · rw [if_pos h02, usedB_4]
   simp only [Bool.false_eq_true, false_or, true_or, true_and]
   constructor
   · rintro ⟨a, b, c⟩
     refine ⟨b, c, ?_⟩
     rcases h02 with h | h
     · exact .inl ⟨h, a⟩
     · exact .inr (.inl ⟨h, a⟩)
   · rintro ⟨b, c, h | h | h⟩
     · exact ⟨h.2, b, c⟩
     · exact ⟨h.2, b, c⟩
     · omega
 · rw [if_neg h02]
   by_cases h1 : v.n = 1
   · rw [if_pos h1, Bool.and_eq_true, Bool.and_eq_true, usedB_4, decide_eq_true_eq]
     simp only [Bool.false_eq_true, false_or, true_or, true_and]
     constructor
     · rintro ⟨⟨⟨a, b⟩, c⟩, d⟩
       exact ⟨a, b, .inr (.inr ⟨h1, c, d⟩)⟩
     · rintro ⟨b, c, h | h | h⟩
       · omega
       · omega
       · exact ⟨⟨⟨b, c⟩, h.2.1⟩, h.2.2⟩
   · rw [if_neg h1]
     constructor
     · intro h; cases h
     · rintro ⟨_, _, h | h | h⟩ <;> omega
theorem isE_9 : elemB (.mk 9 lo hi ns ps rs) v = true ↔ (v.n = 0 ∧ v.names = [] ∧ v.parts = []) ∧ regB v.entries = true := by
 rw [elemB, if_neg (by decide), if_neg (by decide), if_neg (by decide), if_neg (by decide), if_neg (by decide), if_pos (by rfl), Bool.and_eq_true, usedB_4]
 simp only [Bool.false_eq_true, false_or, true_or, true_and, and_true]
theorem isE_5 : elemB (.mk 5 lo hi ns ps rs) v = true ↔ (v.n = 0 ∧ v.entries = []) ∧ v.names.length = v.parts.length ∧ allowedB ns v.names = true ∧ mapB ps v.parts = true := by
 rw [elemB, if_neg (by decide), if_neg (by decide), if_neg (by decide), if_neg (by decide), if_neg (by decide), if_neg (by decide), if_pos (by rfl), Bool.and_eq_true, Bool.and_eq_true, Bool.and_eq_true, usedB_4, decide_eq_true_eq]
 simp only [Bool.false_eq_true, false_or, true_or, true_and, and_assoc]
theorem isE_67 (e : k = 6 ∨ k = 7) : elemB (.mk k lo hi ns ps rs) v = true ↔ (v.n = 0 ∧ v.names = [] ∧ v.entries = []) ∧ v.parts.length = ps.length ∧ elemsB ps v.parts = true := by
 rw [elemB, if_neg (by omega), if_neg (by omega), if_neg (by omega), if_neg (by omega), if_neg (by omega), if_neg (by omega), if_neg (by omega), Bool.and_eq_true, Bool.and_eq_true, usedB_4, decide_eq_true_eq]
 simp only [Bool.false_eq_true, false_or, true_or, true_and, and_assoc]
end
theorem mapB_one (p : Lat) (vs : List Val) : mapB [p] vs = true ↔ ∀ v ∈ vs, elemB p v = true ∧ valC v (botV p) ≠ 0 := by
 rw [mapB, List.all_eq_true]
 constructor
 · intro h v hv
   have := h v hv
   rw [Bool.and_eq_true, decide_eq_true_eq] at this
   exact this
 · intro h v hv
   rw [Bool.and_eq_true, decide_eq_true_eq]
   exact h v hv
theorem elemsB_iff : ∀ (ps : List Lat) (vs : List Val), vs.length = ps.length → (elemsB ps vs = true ↔ ∀ i (h : i < ps.length) (h' : i < vs.length), elemB ps[i] vs[i] = true)
 | [], [], _ => ⟨fun _ i h => by simp at h, fun _ => by rw [elemsB]⟩
 | [], _ :: _, h => by simp at h
 | _ :: _, [], h => by simp at h
 | p :: ps, v :: vs, h => by
   rw [elemsB, Bool.and_eq_true, elemsB_iff ps vs (by simpa using h)]
   constructor
   · rintro ⟨h1, h2⟩ i hi hi'
     cases i with
     | zero => exact h1
     | succ i => exact h2 i (by simpa using hi) (by simpa using hi')
   · intro h
     exact ⟨h 0 (by simp) (by simp), fun i hi hi' => h (i + 1) (by simpa using hi) (by simpa using hi')⟩
theorem allowed_names {only list : List ByteArray} (h : allowedB only list = true) : ∀ s ∈ list, nameB s = true := fun s hs => by
  unfold allowedB at h
  rw [Bool.and_eq_true] at h
  have := List.all_eq_true.1 h.2 s hs
  unfold memB at this
  rw [Bool.and_eq_true] at this
  exact this.1
theorem name_le {s : ByteArray} (h : nameB s = true) : 1 ≤ s.size ∧ s.size ≤ 16 := by
 unfold nameB at h
 rw [Bool.and_eq_true] at h
 exact of_decide_eq_true h.1
end Go.Proofs.YtmdjnaobllajmaaGreatDoor
