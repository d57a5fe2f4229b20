/-
  What the statements of the chapter share, part 16: VRead7, VRead8, VRead9, VEP, VEnc, VDec, VTri.
-/
import Derived.Test.YtmdjnaobllajmaaGreatDoorX12
import Derived.Test.YtmdjnaobllajmaaGreatDoorX13
import Derived.Test.YtmdjnaobllajmaaGreatDoorX15
set_option linter.unusedVariables false
set_option linter.unusedSimpArgs false
set_option maxRecDepth 100000
set_option maxHeartbeats 8000000
namespace Go.Proofs.YtmdjnaobllajmaaGreatDoor
open Go.RowKit
theorem read_prod7 (l : Lat) (B : Nat) (rv : Value) (s : RS) (cs : List Value) (w : World) (h : RdAt w B rv s) (hl : s.data.length ≤ 1000000000) (hr : latRd (only (notB B) w) l cs) (hk : l.kind = 7) (hp8 : l.parts.length ≤ 8)
 (ih : ∀ p ∈ l.parts, ∀ (s : RS) (cs : List Value) (w : World), RdAt w B rv s → s.data.length ≤ 1000000000 → latRd (only (notB B) w) p cs → Calls Tryz.prog 54 #[.pointer (some ⟨B, 0, none⟩), .agg cs.toArray] w (ReadPost B rv w (readV p s))) :
 Calls Tryz.prog 54 #[.pointer (some ⟨B, 0, none⟩), .agg cs.toArray] w (ReadPost B rv w (readV l s)) := by
 obtain ⟨vn, vp, vr, rfl, ⟨hi1, hi2, hi3⟩, hns, hps, hrs⟩ := (latRd_iff _ _ _).1 hr
 obtain ⟨k, lo, hi', ns, ps, rs⟩ := l
 simp only [Lat.kind, Lat.lo, Lat.hi, Lat.names, Lat.parts, Lat.rules] at hi1 hi2 hi3 hns hps hrs hk hp8 ih ⊢
 subst hk
 have IH := hid ih
 have HP8 := hid hp8
 have HPS := hid hps
 have HRV : Hid (readV (.mk 7 lo hi' ns ps rs) s = (.mk 0 [] (readParts ps s).1 [], (readParts ps s).2)) := hid (by rw [readV]; rfl)
 generalize readV (.mk 7 lo hi' ns ps rs) s = R at HRV ⊢
 have HLA := hid (PartsAt.start ps s)
 generalize readParts ps s = RL at HRV HLA
 obtain ⟨ap, cp, rfl, _, hm⟩ := hps.shape
 have HST := hid (RdSt.start h #[.int .i64 7, .int .i64 lo, .int .i64 hi', vn, .slice ap ps.length cp, vr])
 have HL := hid hl
 clear h hl hr hns hps hrs ih hp8
 obtain ⟨j0, hj0, hy0, hy1, hy2⟩ := info_parts infoVal
 have ks0 := HST.out.cellV 0
 have ks1 := HST.out.cellV 1
 have ks2 := HST.out.cellV 2
 have ks3 := HST.out.cellV 3
 have rr0 := HST.out.cellR 0
 have rr1 := HST.out.cellR 1
 have rr2 := HST.out.cellR 2
 have rr3 := HST.out.cellR 3
 have es0 := HST.out.freeR 0
 have es1 := HST.out.freeR 1
 have es2 := HST.out.freeR 2
 have es3 := HST.out.freeR 3
 have zs0 := HST.out.freeV 0
 have zs1 := HST.out.freeV 1
 have zs2 := HST.out.freeV 2
 have zs3 := HST.out.freeV 3
 simp only [List.getElem?_toArray, List.getElem?_cons_zero, List.getElem?_cons_succ] at ks0 ks1 ks2 ks3 rr0 rr1 rr2 rr3
 clear ks0 ks1 ks2 ks3 rr0 rr1 rr2 rr3 es0 es1 es2 es3 zs0 zs1 zs2 zs3
 go_enter Tryz.func54, Tryz.ntmps54
 go_wp2_with fail
 go_loopw [12, 18] (fun _ i wr => ∃ (j : Nat) (s : RS) (vq : Value) (av : List Val) (cV : List (List Value)), j ≤ ps.length ∧ i = .int .i64 j ∧ Hid (av.length = j) ∧ Hid (RdSt w wr B rv s #[.int .i64 7, .int .i64 lo, .int .i64 hi', vn, .slice ap ps.length cp, vr] (.int .i64 0) (.slice none 0 0) vq (.slice none 0 0)) ∧
     Hid (Rws wr (w.heap.size + 3) 30 4 valRd vq av cV) ∧ Hid (PartsAt RL ps av j s) ∧ Hid (s.data.length ≤ 1000000000)) (fun _ i _ => ps.length - (intOf i).toNat)
 case atStart => exact ⟨0, s, _, [], [], Nat.zero_le _, rfl, hid rfl, HST, hid (Rws.nil _ _ _ _ _), HLA, HL⟩
 case round =>
  obtain ⟨j, s2, vq, av, cV, hj, rfl, HAV, STW, HRP, HLW, HNW⟩ := hrel
  obtain ⟨aq, cq, rfl⟩ := owns_shape HRP.out.own
  clear HLA
  by_cases hlt : j < ps.length
  · obtain ⟨b, o, cs0, ha, hl0, hcs, hlp⟩ := HPS.out.at j hlt
    subst ha
    obtain ⟨an0, cn0, ap0, cp0, ar0, cr0, rfl, hyi, hyn, hyp, hyr, _⟩ := latRd.lay hlp
    have HLP := hid hlp
    obtain ⟨f0, f1, f2, f3, f4, f5⟩ := hcs.six
    have f0 := STW.out.latCell f0
    have f1 := STW.out.latCell f1
    have f2 := STW.out.latCell f2
    have f3 := STW.out.latCell f3
    have f4 := STW.out.latCell f4
    have f5 := STW.out.latCell f5
    clear hlp hcs hyi hyn hyp hyr
    have HLS : Hid (PartsAt RL ps (av ++ [(readV ps[j] s2).1]) (j + 1) (readV ps[j] s2).2) := hid (HLW.out.step hlt)
    have HJ : Hid (j + 1 ≤ 9223372036854775807 ∧ j + 1 ≤ ps.length) := hid (by omega)
    have HMY : Hid (av.length + 1 ≤ maxLen ∧ (av.length + 1) * 80 ≤ 140737488355328) := hid (by have := HAV.out; have := HP8.out; unfold maxLen; omega)
    go_wp2_with fail
    have ST6 := hid (STW.out.alloc (.cells #[.int .i64 ps[j].kind, .int .i64 ps[j].lo, .int .i64 ps[j].hi, .slice an0 ps[j].names.length cn0, .slice ap0 ps[j].parts.length cp0, .slice ar0 ps[j].rules.length cr0] 26 (0, 0)))
    have HP6 : Hid (Rws (wr.alloc (.cells #[.int .i64 ps[j].kind, .int .i64 ps[j].lo, .int .i64 ps[j].hi, .slice an0 ps[j].names.length cn0, .slice ap0 ps[j].parts.length cp0, .slice ar0 ps[j].rules.length cr0] 26 (0, 0))) (w.heap.size + 3) 30 4 valRd (.slice aq av.length cq) av cV) := hid (HRP.out.keep valRd_mono' fun b _ hl => Below.heap_alloc _ _ _ hl)
    have HBX : Hid (∀ (i : Nat) (v : Value), #[.int .i64 ps[j].kind, .int .i64 ps[j].lo, .int .i64 ps[j].hi, .slice an0 ps[j].names.length cn0, .slice ap0 ps[j].parts.length cp0, .slice ar0 ps[j].rules.length cr0][i]? = some v → (wr.alloc (.cells #[.int .i64 ps[j].kind, .int .i64 ps[j].lo, .int .i64 ps[j].hi, .slice an0 ps[j].names.length cn0, .slice ap0 ps[j].parts.length cp0, .slice ar0 ps[j].rules.length cr0] 26 (0, 0))).cell? ⟨wr.heap.size, i, none⟩ = some v) := hid fun i v hv => by
      rw [World.cell?_alloc_at _ _ _ _ rfl]; exact hv
    have g0 := HBX.out 0 _ rfl
    have g1 := HBX.out 1 _ rfl
    have g2 := HBX.out 2 _ rfl
    have g3 := HBX.out 3 _ rfl
    have g4 := HBX.out 4 _ rfl
    have g5 := HBX.out 5 _ rfl
    have k62 := ST6.out.cellV 2
    simp only [List.getElem?_toArray, List.getElem?_cons_zero, List.getElem?_cons_succ] at k62
    clear f0 f1 f2 f3 f4 f5 STW HRP HBX
    generalize wr.alloc (.cells #[.int .i64 ps[j].kind, .int .i64 ps[j].lo, .int .i64 ps[j].hi, .slice an0 ps[j].names.length cn0, .slice ap0 ps[j].parts.length cp0, .slice ar0 ps[j].rules.length cr0] 26 (0, 0)) = w6 at ST6 HP6 g0 g1 g2 g3 g4 g5 k62 ⊢
    have HDR6 : Hid (∀ q, RdAt (w6.drewN q) B rv s2 ∧ latRd (only (notB B) (w6.drewN q)) ps[j] [.int .i64 ps[j].kind, .int .i64 ps[j].lo, .int .i64 ps[j].hi, .slice an0 ps[j].names.length cn0, .slice ap0 ps[j].parts.length cp0, .slice ar0 ps[j].rules.length cr0]) := hid fun q => ⟨(ST6.out.drewN q).rd, (ST6.out.drewN q).lat HLP.out⟩
    go_region_law
     (first
       | (refine step_append (by rfl) (.tmp 23) (.tmp 27) 27 (by rfl) (w.heap.size + 3) 30 4 80 Tryz.underlying27 hj0 hy0 hy1 hy2 rfl (by decide) (.slice aq av.length cq) av.length cV.flatten (by rfl) (HOWV.out _) _ 1 [.int .i64 x.n, .slice xn x.names.length xcn, .slice xp x.parts.length xcp, .slice xe x.entries.length xce] (by rfl) (Src.of_block (cs := #[.int .i64 x.n, .slice xn x.names.length xcn, .slice xp x.parts.length xcp, .slice xe x.entries.length xce]) (heap_alloc_new _ _) 4 1 1 rfl (by simp [Value.oneCell'])) (av.length + 1) rfl _ rfl HMY.out.1 HMY.out.2 (HBV.out _) ?_
          intro na2 nc2 w9 had
          have HAD := hid had
          have ST9 : Hid (RdSt w w9 B rv s4 #[.int .i64 7, .int .i64 lo, .int .i64 hi', vn, .slice (some ⟨b, o, none⟩) ps.length cp, vr] (.int .i64 0) (.slice none 0 0) (.slice aq av.length cq) (.slice none 0 0)) := hid ((ST7.out.alloc _).grown had.grown (fun g hg => ((HOWV.out (.cells #[] 0 (0, 0))).lt g hg).1))
          have kv2 := ST9.out.cellV 2
          have zv2 := ST9.out.freeV 2
          simp only [List.getElem?_toArray, List.getElem?_cons_zero, List.getElem?_cons_succ] at kv2
          clear had)
       | (go_simp
          go_at_call 54
          refine (IH.out ps[j] (List.getElem_mem hlt) s2 [.int .i64 ps[j].kind, .int .i64 ps[j].lo, .int .i64 ps[j].hi, .slice an0 ps[j].names.length cn0, .slice ap0 ps[j].parts.length cp0, .slice ar0 ps[j].rules.length cr0] _ (HDR6.out _).1 HNW.out (HDR6.out _).2).mono ?_
          rintro e w7 ⟨cs7, rfl, hv7, hp⟩
          have ST7 : Hid (RdSt w w7 B rv (readV ps[j] s2).2 #[.int .i64 7, .int .i64 lo, .int .i64 hi', vn, .slice (some ⟨b, o, none⟩) ps.length cp, vr] (.int .i64 0) (.slice none 0 0) (.slice aq av.length cq) (.slice none 0 0)) := hid ((ST6.out.drewN _).call hp)
          have HX7 : Hid (valRd (only (from_ w6.heap.size) w7) (readV ps[j] s2).1 cs7) := hid hv7
          have HKP : Hid (∀ b, w.heap.size + 3 ≤ b → b < w6.heap.size → w7.heap[b]? = w6.heap[b]?) := hid fun b hb hl => hp.2.block b hl (by have := ST7.out.lt; omega)
          have HRP7 : Hid (Rws w7 (w.heap.size + 3) 30 4 valRd (.slice aq av.length cq) av cV) := hid (HP6.out.keep valRd_mono' HKP.out)
          have HOLD : Hid (∀ g, (Value.slice aq av.length cq).ownBlock = some g → g < w6.heap.size) := hid fun g h => (HP6.out.own.lt g h).2
          have HOWV : Hid (∀ O, (w7.alloc O).ownsRow (w.heap.size + 3) 30 4 (.slice aq av.length cq) av.length cV.flatten) := hid fun O => owns_below HRP7.out.own ((Below.refl _ _).alloc (Nat.le_refl _) O)
          have HBV : Hid (∀ O, w.heap.size + 3 ≤ (w7.alloc O).heap.size) := hid fun O => (ST7.out.alloc O).big
          have ka2 := fun O => (ST7.out.alloc O).cellV 2
          have za2 := fun O => (ST7.out.alloc O).freeV 2
          have kb2 := ST7.out.cellV 2
          simp only [List.getElem?_toArray, List.getElem?_cons_zero, List.getElem?_cons_succ] at ka2 kb2
          have HD4 : Hid ((readV ps[j] s2).2.data.length ≤ 1000000000) := hid (by have := (HDR6.out 0).1.len hp.1; have := HNW.out; omega)
          generalize readV ps[j] s2 = q at HX7 HLS HD4 hp hv7 ST7 ⊢
          obtain ⟨x, s4⟩ := q
          simp only at HX7 HLS HD4 hv7 ST7 ⊢
          obtain ⟨xn, xcn, xp, xcp, xe, xce, rfl, _, hsn, hsp, hse, _⟩ := valRd.lay hv7
          clear hp hv7 hsn hsp hse))
    all_goals
     have HAX : Hid (Appd (w7.alloc (.cells #[.int .i64 x.n, .slice xn x.names.length xcn, .slice xp x.parts.length xcp, .slice xe x.entries.length xce] 30 (0, 0))) w9 (w.heap.size + 3) 30 4 (.slice aq av.length cq) (.slice na2 (av.length + 1) nc2) (av.length + 1) (cV.flatten ++ [.int .i64 x.n, .slice xn x.names.length xcn, .slice xp x.parts.length xcp, .slice xe x.entries.length xce])) := HAD
     have STA := hid (ST9.out.set 2 (.slice na2 (av.length + 1) nc2) (n' := .int .i64 0) rfl)
     have HPA : Hid (Rws (w9.setCell ⟨w.heap.size + 1 + 1, 2, none⟩ (.slice na2 (av.length + 1) nc2)) (w.heap.size + 3) 30 4 valRd (.slice na2 (av.length + 1) nc2) (av ++ [x]) (cV ++ [[.int .i64 x.n, .slice xn x.names.length xcn, .slice xp x.parts.length xcp, .slice xe x.entries.length xce]])) := hid
      (((HRP7.out.keep valRd_mono' fun b _ hl => Below.heap_alloc _ _ _ hl).push valRd_mono' HAX.out rfl rfl rfl (valRd_mono' (only_keep fun b hb hl => by
          have hb' := of_decide_eq_true hb
          refine ⟨?_, Below.heap_alloc _ _ _ hl⟩
          unfold butOwn
          simp only [Bool.and_eq_true, decide_eq_true_eq]
          refine ⟨by have := ST6.out.big; omega, fun e => ?_⟩
          have := HOLD.out b e; omega) HX7.out)).keep valRd_mono' fun b hb _ => Below.heap_setCell _ _ _ _ (by show b ≠ w.heap.size + 1 + 1; omega))
     have HLV : Hid ((av ++ [x]).length = j + 1) := hid (by have := HAV.out; simp; omega)
     clear HAD kv2 zv2 ka2 za2 kb2 k62 g0 g1 g2 g3 g4 g5
     go_wp2_with fail
     go_roundw
     case rel => exact ⟨j + 1, s4, _, av ++ [x], _, HJ.out.2, by go_num, HLV, STA, HPA, HLS, HD4⟩
     case measure => simp [intOf]; omega
  · have hjj : j = ps.length := by omega
    subst hjj
    have HE := hid HLW.out.end0
    have kw0 := STW.out.cellV 0
    have kw1 := STW.out.cellV 1
    have kw2 := STW.out.cellV 2
    have kw3 := STW.out.cellV 3
    have rw0 := STW.out.cellR 0
    have rw1 := STW.out.cellR 1
    have rw2 := STW.out.cellR 2
    have rw3 := STW.out.cellR 3
    have ew0 := STW.out.freeR 0
    have ew1 := STW.out.freeR 1
    have ew2 := STW.out.freeR 2
    have ew3 := STW.out.freeR 3
    have zw0 := STW.out.freeV 0
    have zw1 := STW.out.freeV 1
    have zw2 := STW.out.freeV 2
    have zw3 := STW.out.freeV 3
    simp only [List.getElem?_toArray, List.getElem?_cons_zero, List.getElem?_cons_succ] at kw0 kw1 kw2 kw3 rw0 rw1 rw2 rw3
    go_wp2_with fail
    refine bodyPost_ret (v := .agg #[.int .i64 0, .slice none 0 0, .slice aq av.length cq, .slice none 0 0]) (by simp [results, Tryz.results54, go_sem, kw0, kw1, kw2, kw3, rw0, rw1, rw2, rw3, ew0, ew1, ew2, ew3]) rfl (RdSt.post (x := .mk 0 [] av []) STW.out ((valRd_iff _ _ _).2 ⟨_, _, _, rfl, i64_0, sl_none _ _ _, HRP.out.reads valRd_mono', sl_none _ _ _⟩) (by rw [HRV.out, HE.out]) _ _ _ _)
theorem infoTick2 : (Tryz.prog.info? 99).map (fun i => (i.zero, i.size, i.bytes)) = some (some (.agg #[.int .i64 0, .int .i64 0]), 2, 16) := by kernel_rfl
theorem infoEntry : (Tryz.prog.info? 43).map (fun i => (i.zero, i.size, i.bytes)) = some (some (.agg #[.slice none 0 0, .string ByteArray.empty]), 2, 40) := by kernel_rfl
theorem entryRd_mono' {a b : World} {x : En} {cs : List Value} (h : Sub a b) (k : entryRd a x cs) : entryRd b x cs := entryRd.mono k h
theorem Rws.frame {α : Type} {w w' : World} {base E sz : Nat} {R : World → α → List Value → Prop} {v : Value} {l : List α} {css : List (List Value)} (h : Rws w base E sz R v l css)
 (hR : ∀ {a b : World} {x cs}, Sub a b → R a x cs → R b x cs) (hk : ∀ b, base ≤ b → b < w.heap.size → w'.heap[b]? = w.heap[b]?) : Rws w' base E sz R v l css := h.keep hR hk
theorem read_reg (l : Lat) (B : Nat) (rv : Value) (s : RS) (cs : List Value) (w : World) (h : RdAt w B rv s) (hl : s.data.length ≤ 1000000000) (hr : latRd (only (notB B) w) l cs) (hk : l.kind = 9) :
 Calls Tryz.prog 54 #[.pointer (some ⟨B, 0, none⟩), .agg cs.toArray] w (ReadPost B rv w (readV l s)) := by
 obtain ⟨vn, vp, vr, rfl, ⟨hi1, hi2, hi3⟩, hns, hps, hrs⟩ := (latRd_iff _ _ _).1 hr
 obtain ⟨k, lo, hi', ns, ps, rs⟩ := l
 simp only [Lat.kind, Lat.lo, Lat.hi, Lat.names, Lat.parts, Lat.rules] at hi1 hi2 hi3 hns hps hrs hk ⊢
 subst hk
 have HRV : Hid (readV (.mk 9 lo hi' ns ps rs) s = (.mk 0 [] [] (rdLoop rdEntry (rdCount s).1 (rdCount s).2).1, (rdLoop rdEntry (rdCount s).1 (rdCount s).2).2)) := hid (by rw [readV]; rfl)
 generalize readV (.mk 9 lo hi' ns ps rs) s = R at HRV ⊢
 have HST := hid (RdSt.start h #[.int .i64 9, .int .i64 lo, .int .i64 hi', vn, vp, vr])
 have HL := hid hl
 have HO := hid h
 have HO1 := hid HST.out.rd
 have HC := hid (rdCount_ok h.ok)
 clear h hl hr hns hps hrs
 obtain ⟨i0, hi0, hz0, hz1, hz2⟩ := info_parts infoTick2
 obtain ⟨j0, hj0, hy0, hy1, hy2⟩ := info_parts infoEntry
 go_enter Tryz.func54, Tryz.ntmps54
 go_wp2_with fail
 refine (rCount_any B rv s _ HO1.out HL.out).mono ?_
 rintro e w1 ⟨rfl, hp⟩
 have ST1 := hid (HST.out.call hp)
 clear hp
 have HL1 : Hid ((rdCount s).2.data.length = s.data.length) := hid (congrArg List.length HC.out.2.1)
 generalize rdCount s = q at HRV HC HL1 ST1 ⊢
 obtain ⟨N, s1⟩ := q
 simp only at HRV HC HL1 ST1 ⊢
 have HLA := hid (LoopAt.start rdEntry N s1)
 generalize rdLoop rdEntry N s1 = RL at HRV HLA
 have HN : Hid (N ≤ 1000000000 ∧ s1.data.length ≤ 1000000000) := hid (by have := HC.out.2.2; have := HL1.out; have := HL.out; omega)
 clear HC HL1
 go_wp2_with fail
 go_loopw [7, 8, 9, 10] (fun n _ _ _ wr => ∃ (k : Nat) (s : RS) (ve : Value) (acc : List En) (cE : List (List Value)), n = .int .i64 k ∧ Hid (RdSt w wr B rv s #[.int .i64 9, .int .i64 lo, .int .i64 hi', vn, vp, vr] (.int .i64 0) (.slice none 0 0) (.slice none 0 0) ve) ∧
     Hid (Rws wr (w.heap.size + 3) 43 2 entryRd ve acc cE) ∧ Hid (LoopAt RL rdEntry acc k s) ∧ Hid (acc.length + k ≤ 1000000000 ∧ s.data.length ≤ 1000000000)) (fun n _ _ _ _ => (intOf n).toNat)
 case atStart => exact ⟨N, s1, _, [], [], rfl, ST1, hid (Rws.nil _ _ _ _ _), HLA, hid (by have := HN.out; simp; omega)⟩
 case round =>
  obtain ⟨k, s2, ve, acc, cE, rfl, STW, HRE, HLW, HNW⟩ := hrel
  obtain ⟨ae, ce, rfl⟩ := owns_shape HRE.out.own
  have HOW := hid STW.out.rd
  clear HLA
  have kw0 := STW.out.cellV 0
  have kw1 := STW.out.cellV 1
  have kw2 := STW.out.cellV 2
  have kw3 := STW.out.cellV 3
  have rw0 := STW.out.cellR 0
  have rw1 := STW.out.cellR 1
  have rw2 := STW.out.cellR 2
  have rw3 := STW.out.cellR 3
  have ew0 := STW.out.freeR 0
  have ew1 := STW.out.freeR 1
  have ew2 := STW.out.freeR 2
  have ew3 := STW.out.freeR 3
  have zw0 := STW.out.freeV 0
  have zw1 := STW.out.freeV 1
  have zw2 := STW.out.freeV 2
  have zw3 := STW.out.freeV 3
  simp only [List.getElem?_toArray, List.getElem?_cons_zero, List.getElem?_cons_succ] at kw0 kw1 kw2 kw3 rw0 rw1 rw2 rw3
  have HFIN : Hid (∀ (a b c d : Value), RL = (acc, s2) → ReadPost B rv w R (.returned (.agg #[.int .i64 0, .slice none 0 0, .slice none 0 0, .slice ae acc.length ce])) ((((wr.setCell ⟨w.heap.size + 1, 0, none⟩ a).setCell ⟨w.heap.size + 1, 1, none⟩ b).setCell ⟨w.heap.size + 1, 2, none⟩ c).setCell ⟨w.heap.size + 1, 3, none⟩ d)) := hid fun a b c d hE =>
   RdSt.post (x := .mk 0 [] [] acc) STW.out ((valRd_iff _ _ _).2 ⟨_, _, _, rfl, i64_0, sl_none _ _ _, sl_none _ _ _, HRE.out.reads entryRd_mono'⟩) (by rw [HRV.out, hE]) _ _ _ _
  by_cases hk0 : k = 0
  · have HK := hid hk0
    subst hk0
    have HE := hid HLW.out.end0
    go_wp2_with fail
    refine bodyPost_ret (v := .agg #[.int .i64 0, .slice none 0 0, .slice none 0 0, .slice ae acc.length ce]) (by simp [results, Tryz.results54, go_sem, kw0, kw1, kw2, kw3, rw0, rw1, rw2, rw3, ew0, ew1, ew2, ew3]) rfl (HFIN.out _ _ _ _ HE.out)
  · have hkp : 0 < k := by omega
    have HK := hid hk0
    clear hk0
    go_wp2_with fail
    refine (rErr_any B rv s2 _ HOW.out).mono ?_
    rintro e w2 ⟨rfl, rfl⟩
    by_cases he : s2.err = 0
    · have HE := hid he
      have heb : (s2.err == 0) = true := by simpa using he
      clear he
      have HLS : Hid (LoopAt RL rdEntry (acc ++ [(rdEntry s2).1]) (k - 1) (rdEntry s2).2) := hid (by
       have := HLW.out
       rw [show k = k - 1 + 1 by omega] at this
       exact this.step HE.out)
      have HMX : Hid (acc.length + 1 ≤ maxLen ∧ (acc.length + 1) * 40 ≤ 140737488355328) := hid (by have := HNW.out; have := HK.out; unfold maxLen; omega)
      obtain ⟨wo, rfl⟩ : ∃ wo : World, wo = w2 := ⟨_, rfl⟩
      have HGW : Hid (w.heap.size + 3 ≤ wo.heap.size) := hid STW.out.big
      clear kw0 kw1 kw2 kw3 rw0 rw1 rw2 rw3 ew0 ew1 ew2 ew3 zw0 zw1 zw2 zw3 HFIN
      go_wp2_with fail
      have STA := hid (STW.out.alloc (.cells #[.slice none 0 0, .string ByteArray.empty] 43 (0, 0)))
      have HCO := hid (rdCount_ok STW.out.ok)
      refine (rCount_any B rv s2 _ STA.out.rd HNW.out.2).mono ?_
      rintro e w3 ⟨rfl, hp⟩
      have STB := hid (STA.out.call hp)
      have HGB : Hid (w3.heap[wo.heap.size]? = some (.cells #[.slice none 0 0, .string ByteArray.empty] 43 (0, 0))) := hid ((hp.2.block _ (by simp) (by have := STW.out.lt; have := HGW.out; omega)).trans (heap_alloc_new _ _))
      have HFB : Hid (∀ b, w.heap.size + 3 ≤ b → b < wo.heap.size → w3.heap[b]? = wo.heap[b]?) := hid fun b h1 h2 => (hp.2.block b (by simp; omega) (by have := STW.out.lt; omega)).trans (Below.heap_alloc _ _ _ h2)
      have HRY : Hid (rdEntry s2 = (⟨(rdLoop rdTick (rdCount s2).1 (rdCount s2).2).1, (rdText (rdLoop rdTick (rdCount s2).1 (rdCount s2).2).2).1⟩, (rdText (rdLoop rdTick (rdCount s2).1 (rdCount s2).2).2).2)) := hid rfl
      have HCL : Hid ((rdCount s2).1 ≤ 1000000000 ∧ (rdCount s2).2.data.length ≤ 1000000000) := hid (by have h1 := HCO.out.2.2; have h2 := congrArg List.length HCO.out.2.1; have := HNW.out; omega)
      generalize rdCount s2 = q at HRY HCL hp STB ⊢
      obtain ⟨M, s4⟩ := q
      simp only at HRY HCL STB ⊢
      clear hp HCO
      have HLB := hid (LoopAt.start rdTick M s4)
      generalize rdLoop rdTick M s4 = RT at HRY HLB
      go_wp2_with fail
      go_loopw [9, 10] (fun n _ wr => ∃ (kk : Nat) (s5 : RS) (vc : Value) (accT : List Tk) (cT : List (List Value)), n = .int .i64 kk ∧ Hid (RdSt w wr B rv s5 #[.int .i64 9, .int .i64 lo, .int .i64 hi', vn, vp, vr] (.int .i64 0) (.slice none 0 0) (.slice none 0 0) (.slice ae acc.length ce)) ∧
          Hid (wr.heap[wo.heap.size]? = some (.cells #[vc, .string ByteArray.empty] 43 (0, 0))) ∧ Hid (Rws wr (wo.heap.size + 1) 99 2 (fun _ => tickRd) vc accT cT) ∧
          Hid (∀ b, w.heap.size + 3 ≤ b → b < wo.heap.size → wr.heap[b]? = wo.heap[b]?) ∧ Hid (LoopAt RT rdTick accT kk s5) ∧ Hid (accT.length + kk ≤ 1000000000 ∧ s5.data.length ≤ 1000000000)) (fun n _ _ => (intOf n).toNat)
      case atStart => exact ⟨M, s4, _, [], [], rfl, STB, HGB, hid (Rws.nil _ _ _ _ _), HFB, HLB, hid (by have := HCL.out; simp; omega)⟩
      case round =>
       obtain ⟨kk, s5, vc, accT, cT, rfl, STT, HGT, HRT, HFR, HLT, HNT⟩ := hrel
       obtain ⟨at', ct, rfl⟩ := owns_shape HRT.out.own
       have HOT := hid STT.out.rd
       by_cases hkk : kk = 0
       · have HKK := hid hkk
         subst hkk
         have HEX : Hid (RT = (accT, s5)) := hid (HLT.out.end0)
         have HNM : Hid ((rdEntry s2) = (⟨accT, (rdText s5).1⟩, (rdText s5).2)) := hid (by rw [HRY.out, HEX.out])
         go_wp2_with fail
         have HOX := hid STT.out.rd
         refine (rText_any B rv s5 _ HOX.out HNT.out.2).mono ?_
         rintro e w7 ⟨rfl, hp⟩
         have ST7 := hid (STT.out.call hp)
         have HX7 : Hid ((rdText s5).1.size ≤ maxLen) := hid (by have := rdText_le STT.out.ok; have := HNT.out.2; unfold maxLen; omega)
         have HNX7 : Hid ((rdText s5).2.data.length ≤ 1000000000) := hid (by have := HOX.out.len hp.1; have := HNT.out.2; omega)
         have HG7 : Hid (w7.heap[wo.heap.size]? = some (.cells #[.slice at' accT.length ct, .string ByteArray.empty] 43 (0, 0))) := hid ((hp.2.block _ (block_lt HGT.out) (by have := STT.out.lt; have := HGW.out; omega)).trans HGT.out)
         have HRT7 : Hid (Rws w7 (wo.heap.size + 1) 99 2 (fun _ => tickRd) (.slice at' accT.length ct) accT cT) := hid (HRT.out.keep (fun _ h => h) fun b hb hl => hp.2.block b hl (by have := STT.out.lt; have := HGW.out; omega))
         have HFR7 : Hid (∀ b, w.heap.size + 3 ≤ b → b < wo.heap.size → w7.heap[b]? = wo.heap[b]?) := hid fun b h1 h2 => (hp.2.block b (by have := block_lt HGT.out; omega) (by have := STT.out.lt; omega)).trans (HFR.out b h1 h2)
         generalize rdText s5 = q at HNM HX7 HNX7 hp ST7 ⊢
         obtain ⟨nm, s7⟩ := q
         simp only at HNM HX7 HNX7 ST7 ⊢
         clear hp
         have y0 := cell_at_block (i := 0) HG7.out
         have y1 := cell_at_block (i := 1) HG7.out
         have y2 := free_at_block (i := 1) HG7.out
         have k73 := ST7.out.cellV 3
         simp only [List.getElem?_toArray, List.getElem?_cons_zero, List.getElem?_cons_succ] at y0 y1 k73
         have hne1 : wo.heap.size ≠ w.heap.size + 1 + 1 := by have := HGW.out; omega
         have hne2 : w.heap.size + 1 + 1 ≠ wo.heap.size := by have := HGW.out; omega
         have HG8 : Hid ((w7.setCell ⟨wo.heap.size, 1, none⟩ (.string nm)).heap[wo.heap.size]? = some (.cells #[.slice at' accT.length ct, .string nm] 43 (0, 0))) := hid (block_set HG7.out _)
         have ST8 : Hid (RdSt w (w7.setCell ⟨wo.heap.size, 1, none⟩ (.string nm)) B rv s7 #[.int .i64 9, .int .i64 lo, .int .i64 hi', vn, vp, vr] (.int .i64 0) (.slice none 0 0) (.slice none 0 0) (.slice ae acc.length ce)) := hid (ST7.out.far ((Below.refl _ _).setCell (by show w.heap.size + 3 ≤ wo.heap.size; exact HGW.out) _))
         have HRE8 : Hid (Rws (w7.setCell ⟨wo.heap.size, 1, none⟩ (.string nm)) (w.heap.size + 3) 43 2 entryRd (.slice ae acc.length ce) acc cE) := hid (Rws.frame HRE.out entryRd_mono' (fun b h1 h2 => (Below.heap_setCell _ _ _ _ (by show b ≠ wo.heap.size; omega)).trans (HFR7.out b h1 h2)))
         have HRT8 : Hid (Rws (w7.setCell ⟨wo.heap.size, 1, none⟩ (.string nm)) (wo.heap.size + 1) 99 2 (fun _ => tickRd) (.slice at' accT.length ct) accT cT) := hid (HRT7.out.keep (fun _ h => h) fun b hb _ => Below.heap_setCell _ _ _ _ (by show b ≠ wo.heap.size; omega))
         have HSZ8 : Hid (wo.heap.size < (w7.setCell ⟨wo.heap.size, 1, none⟩ (.string nm)).heap.size) := hid (block_lt HG8.out)
         have HOWE : Hid (∀ O, ((w7.setCell ⟨wo.heap.size, 1, none⟩ (.string nm)).alloc O).ownsRow (w.heap.size + 3) 43 2 (.slice ae acc.length ce) acc.length cE.flatten) := hid fun O => owns_below HRE8.out.own ((Below.refl _ _).alloc (Nat.le_refl _) O)
         have HBV : Hid (∀ O, w.heap.size + 3 ≤ ((w7.setCell ⟨wo.heap.size, 1, none⟩ (.string nm)).alloc O).heap.size) := hid fun O => (ST8.out.alloc O).big
         have HSRC : Hid (Src ((w7.setCell ⟨wo.heap.size, 1, none⟩ (.string nm)).alloc (.cells #[.slice at' accT.length ct, .string nm] 43 (0, 0))) 2 (.slice (some ⟨w7.heap.size, 0, none⟩) 1 1) 1 [.slice at' accT.length ct, .string nm]) := hid (by
          have h0 : (w7.setCell ⟨wo.heap.size, 1, none⟩ (.string nm)).heap.size = w7.heap.size := by simp [World.setCell]
          have h1 := heap_alloc_new (w7.setCell ⟨wo.heap.size, 1, none⟩ (.string nm)) (.cells #[.slice at' accT.length ct, .string nm] 43 (0, 0))
          rw [h0] at h1
          exact Src.of_block (cs := #[.slice at' accT.length ct, .string nm]) h1 2 1 1 rfl (by simp [Value.oneCell']))
         have HEW : Hid (∀ g, (Value.slice ae acc.length ce).ownBlock = some g → g < wo.heap.size) := hid fun g hg => (HRE.out.own.lt g hg).2
         have k83 := ST8.out.cellV 3
         have k83a := fun O => (ST8.out.alloc O).cellV 3
         have z83a := fun O => (ST8.out.alloc O).freeV 3
         have y8 := cell_at_block (i := 0) HG8.out
         have y9 := cell_at_block (i := 1) HG8.out
         simp only [List.getElem?_toArray, List.getElem?_cons_zero, List.getElem?_cons_succ] at y8 y9 k83 k83a
         go_wp2_with (at_builtin; refine wpList_append rfl (.tmp 129) (.tmp 131) 28 rfl (w.heap.size + 3) 43 2 40 Tryz.underlying28 hj0 hy0 hy1 hy2 rfl (by decide) (.slice ae acc.length ce) acc.length cE.flatten rfl (HOWE.out _) _ 1 [.slice at' accT.length ct, .string nm] rfl HSRC.out (acc.length + 1) rfl _ rfl HMX.out.1 HMX.out.2 (HBV.out _) ?_; intro na nc w9 had; have HAD := hid had; have ST9 : Hid (RdSt w w9 B rv s7 #[.int .i64 9, .int .i64 lo, .int .i64 hi', vn, vp, vr] (.int .i64 0) (.slice none 0 0) (.slice none 0 0) (.slice ae acc.length ce)) := hid ((ST8.out.alloc _).grown had.grown (fun g hg => ((HOWE.out (.cells #[] 0 (0, 0))).lt g hg).1)); have kv3 := ST9.out.cellV 3; have zv3 := ST9.out.freeV 3; simp only [List.getElem?_toArray, List.getElem?_cons_zero, List.getElem?_cons_succ] at kv3; clear had)
         have STA := hid (ST9.out.set 3 (.slice na (acc.length + 1) nc) (n' := .int .i64 0) rfl)
         have HRA : Hid (Rws (w9.setCell ⟨w.heap.size + 1 + 1, 3, none⟩ (.slice na (acc.length + 1) nc)) (w.heap.size + 3) 43 2 entryRd (.slice na (acc.length + 1) nc) (acc ++ [⟨accT, nm⟩]) (cE ++ [[.slice at' accT.length ct, .string nm]])) := hid
          (((HRE8.out.keep entryRd_mono' fun b _ hl => Below.heap_alloc _ _ _ hl).push entryRd_mono' HAD.out rfl rfl rfl (entryRd_mono' (only_keep fun b hb hl => by
              have hb' := of_decide_eq_true hb
              refine ⟨?_, Below.heap_alloc _ _ _ hl⟩
              unfold butOwn
              simp only [Bool.and_eq_true, decide_eq_true_eq]
              refine ⟨by have := HGW.out; omega, fun e => ?_⟩
              have := HEW.out b e; omega) (⟨_, rfl, HRT8.out.reads fun _ h => h, HX7.out⟩ : entryRd (only (from_ (wo.heap.size + 1)) (w7.setCell ⟨wo.heap.size, 1, none⟩ (.string nm))) ⟨accT, nm⟩ [.slice at' accT.length ct, .string nm]))).keep entryRd_mono' fun b hb _ => Below.heap_setCell _ _ _ _ (by show b ≠ w.heap.size + 1 + 1; omega))
         have HLS2 : Hid (LoopAt RL rdEntry (acc ++ [⟨accT, nm⟩]) (k - 1) s7) := hid (by have := HLS.out; rw [HNM.out] at this; exact this)
         have HNA : Hid ((acc ++ [(⟨accT, nm⟩ : En)]).length + (k - 1) ≤ 1000000000 ∧ s7.data.length ≤ 1000000000) := hid (by have := HNW.out; have := HNX7.out; have := HK.out; simp; omega)
         have HLV : Hid ((acc ++ [(⟨accT, nm⟩ : En)]).length = acc.length + 1) := hid (by simp)
         clear y0 y1 y2 k73 k83 k83a z83a y8 y9 kv3 zv3
         go_wp2_with fail
         have hw1 : wrap64 ((k : Int) - 1) = ((k - 1 : Nat) : Int) := by rw [IntWalk.wrap64_in _ (by have := HNW.out; omega)]; omega
         go_roundw
         case rel => exact ⟨k - 1, s7, _, acc ++ [⟨accT, nm⟩], _, by rw [hw1], STA, HRA, HLS2, HNA⟩
         case measure => simp [intOf, hw1]; omega
       · have hkq : 0 < kk := by omega
         have HKK := hid hkk
         clear hkk
         go_wp2_with fail
         refine (rErr_any B rv s5 _ HOT.out).mono ?_
         rintro e w4 ⟨rfl, rfl⟩
         by_cases he5 : s5.err = 0
         · have HE5 := hid he5
           have heb5 : (s5.err == 0) = true := by simpa using he5
           clear he5
           have HLT2 : Hid (LoopAt RT rdTick (accT ++ [(rdTick s5).1]) (kk - 1) (rdTick s5).2) := hid (by
            have := HLT.out
            rw [show kk = kk - 1 + 1 by omega] at this
            exact this.step HE5.out)
           have HTK : Hid (rdTick s5 = (⟨((rdSmall 63 s5).1 : Nat), ((rdSmall 1000000000000000 (rdSmall 63 s5).2).1 : Nat)⟩, (rdSmall 1000000000000000 (rdSmall 63 s5).2).2)) := hid rfl
           have HT1 := hid (rdSmall_le 63 s5)
           have HMT : Hid (accT.length + 1 ≤ maxLen ∧ (accT.length + 1) * 16 ≤ 140737488355328) := hid (by have := HNT.out; have := HKK.out; unfold maxLen; omega)
           go_wp2_with fail
           refine (rSmall_any B rv s5 63 _ HOT.out HNT.out.2 (by decide)).mono ?_
           rintro e w5 ⟨rfl, hp⟩
           have STU := hid (STT.out.call hp)
           have HNU : Hid ((rdSmall 63 s5).2.data.length ≤ 1000000000) := hid (by have := HOT.out.len hp.1; have := HNT.out.2; omega)
           have HGU : Hid (w5.heap[wo.heap.size]? = some (.cells #[.slice at' accT.length ct, .string ByteArray.empty] 43 (0, 0))) := hid ((hp.2.block _ (block_lt HGT.out) (by have := STT.out.lt; have := HGW.out; omega)).trans HGT.out)
           have HRU : Hid (Rws w5 (wo.heap.size + 1) 99 2 (fun _ => tickRd) (.slice at' accT.length ct) accT cT) := hid (HRT.out.keep (fun _ h => h) fun b hb hl => hp.2.block b hl (by have := STT.out.lt; have := HGW.out; omega))
           have HFU : Hid (∀ b, w.heap.size + 3 ≤ b → b < wo.heap.size → w5.heap[b]? = wo.heap[b]?) := hid fun b h1 h2 => (hp.2.block b (by have := block_lt HGT.out; omega) (by have := STT.out.lt; omega)).trans (HFR.out b h1 h2)
           generalize rdSmall 63 s5 = q at HTK HT1 HNU hp STU ⊢
           obtain ⟨pp, s6⟩ := q
           simp only at HTK HT1 HNU STU ⊢
           clear hp
           have HOU := hid (fun q => (STU.out.drewN q).rd)
           have HT2 := hid (rdSmall_le 1000000000000000 s6)
           have y0 := cell_at_block (i := 0) HGU.out
           have y2 := free_at_block (i := 0) HGU.out
           simp only [List.getElem?_toArray, List.getElem?_cons_zero, List.getElem?_cons_succ] at y0
           go_wp2_with fail
           go_region_law
            (first
              | (refine step_append (by rfl) (.tmp 117) (.tmp 122) 41 (by rfl) (wo.heap.size + 1) 99 2 16 Tryz.underlying41 hi0 hz0 hz1 hz2 rfl (by decide) (.slice at' accT.length ct) accT.length cT.flatten (by rfl) (HOWT.out _) _ 1 [.int .i64 (pp : Nat), .int .i64 (nn : Nat)] (by rfl) (Src.of_block (cs := #[.int .i64 (pp : Nat), .int .i64 (nn : Nat)]) (heap_alloc_new _ _) 2 1 1 rfl (by simp [Value.oneCell'])) (accT.length + 1) rfl _ rfl HMT.out.1 HMT.out.2 (HBT.out _) ?_
                 intro na nc w9 had
                 have HAD := hid had
                 have HG9 : Hid (w9.heap[wo.heap.size]? = some (.cells #[.slice at' accT.length ct, .string ByteArray.empty] 43 (0, 0))) := hid ((had.grown.block _ (block_lt (block_alloc HG6.out _)) HNE.out).trans (block_alloc HG6.out _))
                 have kv0 := cell_at_block (i := 0) HG9.out
                 have zv0 := free_at_block (i := 0) HG9.out
                 simp only [List.getElem?_toArray, List.getElem?_cons_zero, List.getElem?_cons_succ] at kv0
                 clear had)
              | (go_simp
                 go_at_call 93
                 refine (rSmall_any B rv s6 1000000000000000 _ (HOU.out _) HNU.out (by decide)).mono ?_
                 rintro e w6 ⟨rfl, hp⟩
                 have ST6 := hid ((STU.out.drewN _).call hp)
                 have HN6 : Hid ((rdSmall 1000000000000000 s6).2.data.length ≤ 1000000000) := hid (by have := (HOU.out 0).len hp.1; have := HNU.out; omega)
                 have HG6 : Hid (w6.heap[wo.heap.size]? = some (.cells #[.slice at' accT.length ct, .string ByteArray.empty] 43 (0, 0))) := hid ((hp.2.block _ (block_lt HGU.out) (by have := STU.out.lt; have := HGW.out; omega)).trans HGU.out)
                 have HR6 : Hid (Rws w6 (wo.heap.size + 1) 99 2 (fun _ => tickRd) (.slice at' accT.length ct) accT cT) := hid (HRU.out.keep (fun _ h => h) fun b hb hl => hp.2.block b hl (by have := STU.out.lt; have := HGW.out; omega))
                 have HF6 : Hid (∀ b, w.heap.size + 3 ≤ b → b < wo.heap.size → w6.heap[b]? = wo.heap[b]?) := hid fun b h1 h2 => (hp.2.block b (by have := block_lt HGU.out; show b < w5.heap.size; omega) (by have := STU.out.lt; omega)).trans (HFU.out b h1 h2)
                 have HOWT : Hid (∀ O, (w6.alloc O).ownsRow (wo.heap.size + 1) 99 2 (.slice at' accT.length ct) accT.length cT.flatten) := hid fun O => owns_below HR6.out.own ((Below.refl _ _).alloc (Nat.le_refl _) O)
                 have HBT : Hid (∀ O, wo.heap.size + 1 ≤ (w6.alloc O).heap.size) := hid fun O => by have := block_lt HG6.out; simp; omega
                 have HNE : Hid (some wo.heap.size ≠ (Value.slice at' accT.length ct).ownBlock) := hid fun e => by have := (HR6.out.own.lt _ e.symm).1; omega
                 have ka0 := fun O => cell_at_block (i := 0) (block_alloc HG6.out O)
                 have za0 := fun O => free_at_block (i := 0) (block_alloc HG6.out O)
                 have kb0 := cell_at_block (i := 0) HG6.out
                 simp only [List.getElem?_toArray, List.getElem?_cons_zero, List.getElem?_cons_succ] at ka0 kb0
                 generalize rdSmall 1000000000000000 s6 = q at HTK HT2 HN6 hp ST6 ⊢
                 obtain ⟨nn, s7⟩ := q
                 simp only at HTK HT2 HN6 ST6 ⊢
                 clear hp))
           all_goals
            have HAX : Hid (Appd (w6.alloc (.cells #[.int .i64 (pp : Nat), .int .i64 (nn : Nat)] 99 (0, 0))) w9 (wo.heap.size + 1) 99 2 (.slice at' accT.length ct) (.slice na (accT.length + 1) nc) (accT.length + 1) (cT.flatten ++ [.int .i64 (pp : Nat), .int .i64 (nn : Nat)])) := HAD
            have ST9 := hid (((ST6.out.alloc (.cells #[.int .i64 (pp : Nat), .int .i64 (nn : Nat)] 99 (0, 0))).grown HAX.out.grown (fun g hg => by have := ((HOWT.out (.cells #[] 0 (0, 0))).lt g hg).1; have := HGW.out; omega)).far ((Below.refl _ w9).setCell (p := ⟨wo.heap.size, 0, none⟩) HGW.out (.slice na (accT.length + 1) nc)))
            have HGA : Hid ((w9.setCell ⟨wo.heap.size, 0, none⟩ (.slice na (accT.length + 1) nc)).heap[wo.heap.size]? = some (.cells #[.slice na (accT.length + 1) nc, .string ByteArray.empty] 43 (0, 0))) := hid (block_set HG9.out _)
            have HRA : Hid (Rws (w9.setCell ⟨wo.heap.size, 0, none⟩ (.slice na (accT.length + 1) nc)) (wo.heap.size + 1) 99 2 (fun _ => tickRd) (.slice na (accT.length + 1) nc) (accT ++ [⟨(pp : Nat), (nn : Nat)⟩]) (cT ++ [[.int .i64 (pp : Nat), .int .i64 (nn : Nat)]])) := hid
              (((HR6.out.keep (fun _ h => h) fun b _ hl => Below.heap_alloc _ _ _ hl).push (fun _ h => h) HAX.out rfl rfl rfl ⟨rfl, by have := HT1.out; unfold I64; simp only; omega, by have := HT2.out; unfold I64; simp only; omega⟩).keep (fun _ h => h) fun b hb _ => Below.heap_setCell _ _ _ _ (by show b ≠ wo.heap.size; omega))
            have HFA : Hid (∀ b, w.heap.size + 3 ≤ b → b < wo.heap.size → (w9.setCell ⟨wo.heap.size, 0, none⟩ (.slice na (accT.length + 1) nc)).heap[b]? = wo.heap[b]?) := hid fun b h1 h2 =>
             (Below.heap_setCell _ _ _ _ (by show b ≠ wo.heap.size; omega)).trans ((HAX.out.grown.block b (by have := block_lt HG6.out; simp; omega) (fun e => by have := (HR6.out.own.lt b e.symm).1; omega)).trans ((Below.heap_alloc _ _ _ (by have := block_lt HG6.out; omega)).trans (HF6.out b h1 h2)))
            have HLT3 : Hid (LoopAt RT rdTick (accT ++ [⟨(pp : Nat), (nn : Nat)⟩]) (kk - 1) s7) := hid (by have := HLT2.out; rw [HTK.out] at this; exact this)
            have HNA : Hid ((accT ++ [(⟨(pp : Nat), (nn : Nat)⟩ : Tk)]).length + (kk - 1) ≤ 1000000000 ∧ s7.data.length ≤ 1000000000) := hid (by have := HNT.out; have := HN6.out; have := HKK.out; simp; omega)
            have HLV : Hid ((accT ++ [(⟨(pp : Nat), (nn : Nat)⟩ : Tk)]).length = accT.length + 1) := hid (by simp)
            clear HAD kv0 zv0 ka0 za0 kb0 y0 y2
            go_wp2_with fail
            have hw1 : wrap64 ((kk : Int) - 1) = ((kk - 1 : Nat) : Int) := by rw [IntWalk.wrap64_in _ (by have := HNT.out; omega)]; omega
            go_roundw
            case rel => exact ⟨kk - 1, s7, _, accT ++ [⟨(pp : Nat), (nn : Nat)⟩], _, by rw [hw1], ST9, HGA, HRA, HFA, HLT3, HNA⟩
            case measure => simp [intOf, hw1]; omega
         · have heb5 : (s5.err == 0) = false := by simpa using he5
           have HE5 := hid he5
           clear he5
           have HEX : Hid (RT = (accT, s5)) := hid (HLT.out.endE HE5.out)
           have HNM : Hid ((rdEntry s2) = (⟨accT, (rdText s5).1⟩, (rdText s5).2)) := hid (by rw [HRY.out, HEX.out])
           go_wp2_with fail
           have HOX := hid STT.out.rd
           refine (rText_any B rv s5 _ HOX.out HNT.out.2).mono ?_
           rintro e w7 ⟨rfl, hp⟩
           have ST7 := hid (STT.out.call hp)
           have HX7 : Hid ((rdText s5).1.size ≤ maxLen) := hid (by have := rdText_le STT.out.ok; have := HNT.out.2; unfold maxLen; omega)
           have HNX7 : Hid ((rdText s5).2.data.length ≤ 1000000000) := hid (by have := HOX.out.len hp.1; have := HNT.out.2; omega)
           have HG7 : Hid (w7.heap[wo.heap.size]? = some (.cells #[.slice at' accT.length ct, .string ByteArray.empty] 43 (0, 0))) := hid ((hp.2.block _ (block_lt HGT.out) (by have := STT.out.lt; have := HGW.out; omega)).trans HGT.out)
           have HRT7 : Hid (Rws w7 (wo.heap.size + 1) 99 2 (fun _ => tickRd) (.slice at' accT.length ct) accT cT) := hid (HRT.out.keep (fun _ h => h) fun b hb hl => hp.2.block b hl (by have := STT.out.lt; have := HGW.out; omega))
           have HFR7 : Hid (∀ b, w.heap.size + 3 ≤ b → b < wo.heap.size → w7.heap[b]? = wo.heap[b]?) := hid fun b h1 h2 => (hp.2.block b (by have := block_lt HGT.out; omega) (by have := STT.out.lt; omega)).trans (HFR.out b h1 h2)
           generalize rdText s5 = q at HNM HX7 HNX7 hp ST7 ⊢
           obtain ⟨nm, s7⟩ := q
           simp only at HNM HX7 HNX7 ST7 ⊢
           clear hp
           have y0 := cell_at_block (i := 0) HG7.out
           have y1 := cell_at_block (i := 1) HG7.out
           have y2 := free_at_block (i := 1) HG7.out
           have k73 := ST7.out.cellV 3
           simp only [List.getElem?_toArray, List.getElem?_cons_zero, List.getElem?_cons_succ] at y0 y1 k73
           have hne1 : wo.heap.size ≠ w.heap.size + 1 + 1 := by have := HGW.out; omega
           have hne2 : w.heap.size + 1 + 1 ≠ wo.heap.size := by have := HGW.out; omega
           have HG8 : Hid ((w7.setCell ⟨wo.heap.size, 1, none⟩ (.string nm)).heap[wo.heap.size]? = some (.cells #[.slice at' accT.length ct, .string nm] 43 (0, 0))) := hid (block_set HG7.out _)
           have ST8 : Hid (RdSt w (w7.setCell ⟨wo.heap.size, 1, none⟩ (.string nm)) B rv s7 #[.int .i64 9, .int .i64 lo, .int .i64 hi', vn, vp, vr] (.int .i64 0) (.slice none 0 0) (.slice none 0 0) (.slice ae acc.length ce)) := hid (ST7.out.far ((Below.refl _ _).setCell (by show w.heap.size + 3 ≤ wo.heap.size; exact HGW.out) _))
           have HRE8 : Hid (Rws (w7.setCell ⟨wo.heap.size, 1, none⟩ (.string nm)) (w.heap.size + 3) 43 2 entryRd (.slice ae acc.length ce) acc cE) := hid (Rws.frame HRE.out entryRd_mono' (fun b h1 h2 => (Below.heap_setCell _ _ _ _ (by show b ≠ wo.heap.size; omega)).trans (HFR7.out b h1 h2)))
           have HRT8 : Hid (Rws (w7.setCell ⟨wo.heap.size, 1, none⟩ (.string nm)) (wo.heap.size + 1) 99 2 (fun _ => tickRd) (.slice at' accT.length ct) accT cT) := hid (HRT7.out.keep (fun _ h => h) fun b hb _ => Below.heap_setCell _ _ _ _ (by show b ≠ wo.heap.size; omega))
           have HSZ8 : Hid (wo.heap.size < (w7.setCell ⟨wo.heap.size, 1, none⟩ (.string nm)).heap.size) := hid (block_lt HG8.out)
           have HOWE : Hid (∀ O, ((w7.setCell ⟨wo.heap.size, 1, none⟩ (.string nm)).alloc O).ownsRow (w.heap.size + 3) 43 2 (.slice ae acc.length ce) acc.length cE.flatten) := hid fun O => owns_below HRE8.out.own ((Below.refl _ _).alloc (Nat.le_refl _) O)
           have HBV : Hid (∀ O, w.heap.size + 3 ≤ ((w7.setCell ⟨wo.heap.size, 1, none⟩ (.string nm)).alloc O).heap.size) := hid fun O => (ST8.out.alloc O).big
           have HSRC : Hid (Src ((w7.setCell ⟨wo.heap.size, 1, none⟩ (.string nm)).alloc (.cells #[.slice at' accT.length ct, .string nm] 43 (0, 0))) 2 (.slice (some ⟨w7.heap.size, 0, none⟩) 1 1) 1 [.slice at' accT.length ct, .string nm]) := hid (by
            have h0 : (w7.setCell ⟨wo.heap.size, 1, none⟩ (.string nm)).heap.size = w7.heap.size := by simp [World.setCell]
            have h1 := heap_alloc_new (w7.setCell ⟨wo.heap.size, 1, none⟩ (.string nm)) (.cells #[.slice at' accT.length ct, .string nm] 43 (0, 0))
            rw [h0] at h1
            exact Src.of_block (cs := #[.slice at' accT.length ct, .string nm]) h1 2 1 1 rfl (by simp [Value.oneCell']))
           have HEW : Hid (∀ g, (Value.slice ae acc.length ce).ownBlock = some g → g < wo.heap.size) := hid fun g hg => (HRE.out.own.lt g hg).2
           have k83 := ST8.out.cellV 3
           have k83a := fun O => (ST8.out.alloc O).cellV 3
           have z83a := fun O => (ST8.out.alloc O).freeV 3
           have y8 := cell_at_block (i := 0) HG8.out
           have y9 := cell_at_block (i := 1) HG8.out
           simp only [List.getElem?_toArray, List.getElem?_cons_zero, List.getElem?_cons_succ] at y8 y9 k83 k83a
           go_wp2_with (at_builtin; refine wpList_append rfl (.tmp 129) (.tmp 131) 28 rfl (w.heap.size + 3) 43 2 40 Tryz.underlying28 hj0 hy0 hy1 hy2 rfl (by decide) (.slice ae acc.length ce) acc.length cE.flatten rfl (HOWE.out _) _ 1 [.slice at' accT.length ct, .string nm] rfl HSRC.out (acc.length + 1) rfl _ rfl HMX.out.1 HMX.out.2 (HBV.out _) ?_; intro na nc w9 had; have HAD := hid had; have ST9 : Hid (RdSt w w9 B rv s7 #[.int .i64 9, .int .i64 lo, .int .i64 hi', vn, vp, vr] (.int .i64 0) (.slice none 0 0) (.slice none 0 0) (.slice ae acc.length ce)) := hid ((ST8.out.alloc _).grown had.grown (fun g hg => ((HOWE.out (.cells #[] 0 (0, 0))).lt g hg).1)); have kv3 := ST9.out.cellV 3; have zv3 := ST9.out.freeV 3; simp only [List.getElem?_toArray, List.getElem?_cons_zero, List.getElem?_cons_succ] at kv3; clear had)
           have STA := hid (ST9.out.set 3 (.slice na (acc.length + 1) nc) (n' := .int .i64 0) rfl)
           have HRA : Hid (Rws (w9.setCell ⟨w.heap.size + 1 + 1, 3, none⟩ (.slice na (acc.length + 1) nc)) (w.heap.size + 3) 43 2 entryRd (.slice na (acc.length + 1) nc) (acc ++ [⟨accT, nm⟩]) (cE ++ [[.slice at' accT.length ct, .string nm]])) := hid
            (((HRE8.out.keep entryRd_mono' fun b _ hl => Below.heap_alloc _ _ _ hl).push entryRd_mono' HAD.out rfl rfl rfl (entryRd_mono' (only_keep fun b hb hl => by
                have hb' := of_decide_eq_true hb
                refine ⟨?_, Below.heap_alloc _ _ _ hl⟩
                unfold butOwn
                simp only [Bool.and_eq_true, decide_eq_true_eq]
                refine ⟨by have := HGW.out; omega, fun e => ?_⟩
                have := HEW.out b e; omega) (⟨_, rfl, HRT8.out.reads fun _ h => h, HX7.out⟩ : entryRd (only (from_ (wo.heap.size + 1)) (w7.setCell ⟨wo.heap.size, 1, none⟩ (.string nm))) ⟨accT, nm⟩ [.slice at' accT.length ct, .string nm]))).keep entryRd_mono' fun b hb _ => Below.heap_setCell _ _ _ _ (by show b ≠ w.heap.size + 1 + 1; omega))
           have HLS2 : Hid (LoopAt RL rdEntry (acc ++ [⟨accT, nm⟩]) (k - 1) s7) := hid (by have := HLS.out; rw [HNM.out] at this; exact this)
           have HNA : Hid ((acc ++ [(⟨accT, nm⟩ : En)]).length + (k - 1) ≤ 1000000000 ∧ s7.data.length ≤ 1000000000) := hid (by have := HNW.out; have := HNX7.out; have := HK.out; simp; omega)
           have HLV : Hid ((acc ++ [(⟨accT, nm⟩ : En)]).length = acc.length + 1) := hid (by simp)
           clear y0 y1 y2 k73 k83 k83a z83a y8 y9 kv3 zv3
           go_wp2_with fail
           have hw1 : wrap64 ((k : Int) - 1) = ((k - 1 : Nat) : Int) := by rw [IntWalk.wrap64_in _ (by have := HNW.out; omega)]; omega
           go_roundw
           case rel => exact ⟨k - 1, s7, _, acc ++ [⟨accT, nm⟩], _, by rw [hw1], STA, HRA, HLS2, HNA⟩
           case measure => simp [intOf, hw1]; omega
    · have heb : (s2.err == 0) = false := by simpa using he
      have HE := hid (HLW.out.endE he)
      clear he
      go_wp2_with fail
      refine bodyPost_ret (v := .agg #[.int .i64 0, .slice none 0 0, .slice none 0 0, .slice ae acc.length ce]) (by simp [results, Tryz.results54, go_sem, kw0, kw1, kw2, kw3, rw0, rw1, rw2, rw3, ew0, ew1, ew2, ew3]) rfl (HFIN.out _ _ _ _ HE.out)
theorem read_any (f : Nat) : ∀ (l : Lat) (B : Nat) (rv : Value) (s : RS) (cs : List Value) (w : World), SizeOf.sizeOf l ≤ f → WfL l → RdAt w B rv s → s.data.length ≤ 1000000000 → latRd (only (notB B) w) l cs →
 Calls Tryz.prog 54 #[.pointer (some ⟨B, 0, none⟩), .agg cs.toArray] w (ReadPost B rv w (readV l s)) := by
 induction f with
 | zero => intro l _ _ _ _ _ hn; cases l; simp at hn
 | succ f ih =>
   intro l B rv s cs w hn hwf h hl hr
   have hk := hwf.kinds
   have hp : ∀ p ∈ l.parts, SizeOf.sizeOf p ≤ f := fun p hp => by have := sizeOf_part hp; omega
   have IH : ∀ p ∈ l.parts, ∀ (s : RS) (cs : List Value) (w : World), RdAt w B rv s → s.data.length ≤ 1000000000 → latRd (only (notB B) w) p cs → Calls Tryz.prog 54 #[.pointer (some ⟨B, 0, none⟩), .agg cs.toArray] w (ReadPost B rv w (readV p s)) :=
    fun p hpm s cs w => ih p B rv s cs w (hp p hpm) (hwf.part hpm)
   rcases (by omega : l.kind = 1 ∨ l.kind = 2 ∨ l.kind = 3 ∨ l.kind = 4 ∨ l.kind = 5 ∨ l.kind = 6 ∨ l.kind = 7 ∨ l.kind = 8 ∨ l.kind = 9 ∨ l.kind = 10) with e | e | e | e | e | e | e | e | e | e
   · exact read_flag l B rv s cs w h hl hr e
   · exact read_max l B rv s cs w h hl hr e
   · exact read_min l B rv s cs w h hl hr e
   · exact read_set4 l B rv s cs w h hl hr e
   · obtain ⟨p, hp1⟩ := List.length_eq_one_iff.1 (hk.2.1 e)
     exact read_map l p B rv s cs w h hl hr e hp1 (IH p (by rw [hp1]; exact List.mem_singleton.2 rfl))
   · exact read_prod6 l B rv s cs w h hl hr e (by omega) IH
   · exact read_prod7 l B rv s cs w h hl hr e (by omega) IH
   · exact read_flat l B rv s cs w h hl hr e
   · exact read_reg l B rv s cs w h hl hr e
   · exact read_set10 l B rv s cs w h hl hr e
def ValEPost (w : World) (x : Val × Int) (e : Ending) (w' : World) : Prop := ∃ cs, e = .returned (.tuple #[.agg cs.toArray, .int .i64 x.2]) ∧ valRd (only (from_ w.heap.size) w') x.1 cs ∧ Below w.heap.size w w'
def bottomE (l : Lat) : Val × Int := if chkE l = 0 then (botV l, 0) else (zeroV, 1)
def isBotB (l : Lat) (v : Val) : Bool := decide (chkE l = 0) && decide (valC v (botV l) = 0)
theorem zeroV_rd (w : World) : valRd w zeroV [.int .i64 0, .slice none 0 0, .slice none 0 0, .slice none 0 0] := valRd_flat w 0 i64_0
theorem below_sets {w w' : World} {B b : Nat} (h : Below B w w') (hb : B ≤ b) (x y z u : Value) : Below B w ((((w'.setCell ⟨b, 0, none⟩ x).setCell ⟨b, 1, none⟩ y).setCell ⟨b, 2, none⟩ z).setCell ⟨b, 3, none⟩ u) := (((h.setCell hb _).setCell hb _).setCell hb _).setCell hb _
theorem sub_sets (w : World) (b n : Nat) (hb : b < n) (x y z u : Value) : Sub (only (from_ n) w) (only (from_ n) ((((w.setCell ⟨b, 0, none⟩ x).setCell ⟨b, 1, none⟩ y).setCell ⟨b, 2, none⟩ z).setCell ⟨b, 3, none⟩ u)) := only_keep fun g hg _ => by
  have hg' := of_decide_eq_true hg
  refine ⟨hg, ?_⟩
  rw [Below.heap_setCell _ _ _ _ (by show g ≠ b; omega), Below.heap_setCell _ _ _ _ (by show g ≠ b; omega), Below.heap_setCell _ _ _ _ (by show g ≠ b; omega), Below.heap_setCell _ _ _ _ (by show g ≠ b; omega)]
theorem only_from_mono {n m : Nat} (w : World) (h : n ≤ m) : Sub (only (from_ m) w) (only (from_ n) w) := only_keep fun g hg _ => ⟨decide_eq_true (by have := of_decide_eq_true hg; omega), rfl⟩
def BytesEPost (w : World) (x : List UInt8 × Int) (e : Ending) (w' : World) : Prop := ∃ r, e = .returned (.tuple #[r, .int .i64 x.2]) ∧ w'.ownsRow w.heap.size 5 1 r x.1.length (x.1.map u8v) ∧ Below w.heap.size w w'
def encodeE (l : Lat) (v : Val) : List UInt8 × Int := if chkE l ≠ 0 then ([], 1) else if elemB l v = false then ([], 4) else (putV l v, 0)
theorem sub_lows {w w1 : World} {B : Nat} (h : Below w.heap.size w w1) (hB : w.heap.size ≤ B) : Sub w (only (lows B) w1) := fun p v hp => by
  have hlt := World.block_lt_of_cell? w p hp
  rw [only_cell, show lows B p.block = true from decide_eq_true (by omega)]
  exact (h.cell hlt).trans hp
theorem sub_notB {w w1 : World} {B : Nat} (h : Below w.heap.size w w1) (hB : w.heap.size ≤ B) : Sub w (only (notB B) w1) := fun p v hp => by
  have hlt := World.block_lt_of_cell? w p hp
  rw [only_cell, show notB B p.block = true from decide_eq_true (by omega)]
  exact (h.cell hlt).trans hp
theorem Encode_any (l : Lat) (v : Val) (cl cv : List Value) (w : World) (hl : latRd w l cl) (hv : valRd w v cv) (hsz : chkE l = 0 → elemB l v = true → (putV l v).length ≤ 80000000) :
 Calls Tryz.prog 24 #[.agg cl.toArray, .agg cv.toArray] w (BytesEPost w (encodeE l v)) := by
 have HC : Hid (∀ W, Below w.heap.size w W → Calls Tryz.prog 36 #[.agg cl.toArray] W fun e w' => e = .returned (.int .i64 (chkE l)) ∧ Below W.heap.size W w') := hid fun W h => check_any l cl W (latRd.below h _ _ hl)
 have HEL : Hid (chkE l = 0 → ∀ W, Below w.heap.size w W → Calls Tryz.prog 37 #[.agg cl.toArray, .agg cv.toArray] W fun e w' => e = .returned (.bool (elemB l v)) ∧ Below W.heap.size W w') := hid fun h0 W h => element_any _ l v cl cv W (Nat.le_refl _) (latRd.below h _ _ hl) (valRd.below h _ _ hv) (chkE_wf h0)
 have HWR : Hid (chkE l = 0 → elemB l v = true → ∀ (W : World) (B : Nat), Below w.heap.size w W → w.heap.size ≤ B → WrAt W B (.slice none 0 0) [] → Calls Tryz.prog 50 #[.pointer (some ⟨B, 0, none⟩), .agg cl.toArray, .agg cv.toArray] W fun e w' => e = .returned (.tuple #[]) ∧ WrPost B (.slice none 0 0) W (putV l v) w') :=
   hid fun h0 h1 W B h hB hw => write_any _ l v (Nat.le_refl _) (chkE_wf h0) h1 B (.slice none 0 0) [] cl cv W (latRd.mono (sub_lows h hB) _ _ hl) (valRd.mono (sub_lows h hB) _ _ hv) hw (by have := hsz h0 h1; simpa using this)
 have HE : Hid (encodeE l v = if chkE l ≠ 0 then ([], 1) else if elemB l v = false then ([], 4) else (putV l v, 0)) := hid rfl
 have HSZ := hid hsz
 generalize encodeE l v = R at HE ⊢
 generalize elemB l v = F at HEL HWR HE HSZ
 generalize chkE l = E at HC HEL HWR HE HSZ
 generalize putV l v = PB at HWR HE HSZ
 obtain ⟨aln, cln, alp, clp, alr, clr, rfl, hli, hln, hlp, hlr, ⟨_, mln⟩, ⟨_, mlp⟩, _, mlr⟩ := latRd.lay hl
 obtain ⟨bvn, dvn, bvp, dvp, bve, dve, rfl, gvi, gvn, gvp, gve, ⟨_, nvn⟩, ⟨_, nvp⟩, _, nve⟩ := valRd.lay hv
 clear hl hli hln hlp hlr hv gvi gvn gvp gve hsz
 have HB : Hid (∀ x : Ext ((w.alloc (.cells #[.int .i64 l.kind, .int .i64 l.lo, .int .i64 l.hi, .slice aln l.names.length cln, .slice alp l.parts.length clp, .slice alr l.rules.length clr] 26)).alloc (.cells #[.int .i64 v.n, .slice bvn v.names.length dvn, .slice bvp v.parts.length dvp, .slice bve v.entries.length dve] 30)), Below w.heap.size w x.1) := hid fun x => (((Below.refl _ _).alloc (Nat.le_refl _) _).alloc (by simp) _).trans (x.2.mono (by simp; omega))
 have HX : Hid (∀ x : Ext ((w.alloc (.cells #[.int .i64 l.kind, .int .i64 l.lo, .int .i64 l.hi, .slice aln l.names.length cln, .slice alp l.parts.length clp, .slice alr l.rules.length clr] 26)).alloc (.cells #[.int .i64 v.n, .slice bvn v.names.length dvn, .slice bvp v.parts.length dvp, .slice bve v.entries.length dve] 30)), (∀ (i : Nat) q, #[.int .i64 l.kind, .int .i64 l.lo, .int .i64 l.hi, .slice aln l.names.length cln, .slice alp l.parts.length clp, .slice alr l.rules.length clr][i]? = some q → x.1.cell? ⟨w.heap.size, i, none⟩ = some q) ∧ (∀ (i : Nat) q, #[.int .i64 v.n, .slice bvn v.names.length dvn, .slice bvp v.parts.length dvp, .slice bve v.entries.length dve][i]? = some q → x.1.cell? ⟨w.heap.size + 1, i, none⟩ = some q)) :=
  hid fun x => two_boxes w #[.int .i64 l.kind, .int .i64 l.lo, .int .i64 l.hi, .slice aln l.names.length cln, .slice alp l.parts.length clp, .slice alr l.rules.length clr] #[.int .i64 v.n, .slice bvn v.names.length dvn, .slice bvp v.parts.length dvp, .slice bve v.entries.length dve] 26 30 (x.2.mono (by simp))
 show Calls _ _ _ _ fun e w' => Hid (BytesEPost w R e w')
 go_enter Tryz.func24, Tryz.ntmps24
 go_wp2_with fail
 generalize (w.alloc (.cells #[.int .i64 l.kind, .int .i64 l.lo, .int .i64 l.hi, .slice aln l.names.length cln, .slice alp l.parts.length clp, .slice alr l.rules.length clr] 26)).alloc (.cells #[.int .i64 v.n, .slice bvn v.names.length dvn, .slice bvp v.parts.length dvp, .slice bve v.entries.length dve] 30) = W2 at HB HX ⊢
 refine (HC.out _ (HB.out ⟨_, Below.refl _ _⟩)).mono ?_
 rintro e w1 ⟨rfl, hb1⟩
 have HB1 := hid hb1
 clear hb1
 have p0 : w1.cell? ⟨w.heap.size, 0, none⟩ = some (.int .i64 l.kind) := (HX.out ⟨_, HB1.out⟩).1 0 _ rfl
 have p1 : w1.cell? ⟨w.heap.size, 1, none⟩ = some (.int .i64 l.lo) := (HX.out ⟨_, HB1.out⟩).1 1 _ rfl
 have p2 : w1.cell? ⟨w.heap.size, 2, none⟩ = some (.int .i64 l.hi) := (HX.out ⟨_, HB1.out⟩).1 2 _ rfl
 have p3 : w1.cell? ⟨w.heap.size, 3, none⟩ = some (.slice aln l.names.length cln) := (HX.out ⟨_, HB1.out⟩).1 3 _ rfl
 have p4 : w1.cell? ⟨w.heap.size, 4, none⟩ = some (.slice alp l.parts.length clp) := (HX.out ⟨_, HB1.out⟩).1 4 _ rfl
 have p5 : w1.cell? ⟨w.heap.size, 5, none⟩ = some (.slice alr l.rules.length clr) := (HX.out ⟨_, HB1.out⟩).1 5 _ rfl
 have pv0 : w1.cell? ⟨w.heap.size + 1, 0, none⟩ = some (.int .i64 v.n) := (HX.out ⟨_, HB1.out⟩).2 0 _ rfl
 have pv1 : w1.cell? ⟨w.heap.size + 1, 1, none⟩ = some (.slice bvn v.names.length dvn) := (HX.out ⟨_, HB1.out⟩).2 1 _ rfl
 have pv2 : w1.cell? ⟨w.heap.size + 1, 2, none⟩ = some (.slice bvp v.parts.length dvp) := (HX.out ⟨_, HB1.out⟩).2 2 _ rfl
 have pv3 : w1.cell? ⟨w.heap.size + 1, 3, none⟩ = some (.slice bve v.entries.length dve) := (HX.out ⟨_, HB1.out⟩).2 3 _ rfl
 by_cases hE : E = 0
 · have HEL2 := hid (HEL.out hE)
   have HWR2 := hid (HWR.out hE)
   have HSZ2 := hid (HSZ.out hE)
   have HE2 : Hid (R = if F = false then ([], 4) else (PB, 0)) := hid (by rw [HE.out, if_neg (fun h => h hE)])
   subst hE
   clear HC HEL HWR HSZ HE
   go_wp2_with fail
   refine (HEL2.out _ (HB.out ⟨_, HB1.out⟩)).mono ?_
   rintro e w2 ⟨rfl, hb2⟩
   have HB2 : Hid (Below W2.heap.size W2 w2) := hid (HB1.out.trans (hb2.mono HB1.out.size))
   clear hb2 HEL2 p0 p1 p2 p3 p4 p5 pv0 pv1 pv2 pv3
   cases hF : F
   · have HR : Hid (R = ([], 4)) := hid (by rw [HE2.out, if_pos hF])
     subst hF
     clear HE2 HWR2 HSZ2
     go_wp2_with fail
     go_ret2
     exact hid ⟨.slice none 0 0, by rw [HR.out]; rfl, by rw [HR.out]; exact World.ownsRow_nil _ _ _ _, HB.out ⟨_, HB2.out⟩⟩
   · have HR : Hid (R = (PB, 0)) := hid (by rw [HE2.out, hF]; rfl)
     have HWR3 := hid (HWR2.out hF)
     have HSZ3 := hid (HSZ2.out hF)
     subst hF
     clear HE2 HWR2 HSZ2
     have q0 : w2.cell? ⟨w.heap.size, 0, none⟩ = some (.int .i64 l.kind) := (HX.out ⟨_, HB2.out⟩).1 0 _ rfl
     have q1 : w2.cell? ⟨w.heap.size, 1, none⟩ = some (.int .i64 l.lo) := (HX.out ⟨_, HB2.out⟩).1 1 _ rfl
     have q2 : w2.cell? ⟨w.heap.size, 2, none⟩ = some (.int .i64 l.hi) := (HX.out ⟨_, HB2.out⟩).1 2 _ rfl
     have q3 : w2.cell? ⟨w.heap.size, 3, none⟩ = some (.slice aln l.names.length cln) := (HX.out ⟨_, HB2.out⟩).1 3 _ rfl
     have q4 : w2.cell? ⟨w.heap.size, 4, none⟩ = some (.slice alp l.parts.length clp) := (HX.out ⟨_, HB2.out⟩).1 4 _ rfl
     have q5 : w2.cell? ⟨w.heap.size, 5, none⟩ = some (.slice alr l.rules.length clr) := (HX.out ⟨_, HB2.out⟩).1 5 _ rfl
     have qv0 : w2.cell? ⟨w.heap.size + 1, 0, none⟩ = some (.int .i64 v.n) := (HX.out ⟨_, HB2.out⟩).2 0 _ rfl
     have qv1 : w2.cell? ⟨w.heap.size + 1, 1, none⟩ = some (.slice bvn v.names.length dvn) := (HX.out ⟨_, HB2.out⟩).2 1 _ rfl
     have qv2 : w2.cell? ⟨w.heap.size + 1, 2, none⟩ = some (.slice bvp v.parts.length dvp) := (HX.out ⟨_, HB2.out⟩).2 2 _ rfl
     have qv3 : w2.cell? ⟨w.heap.size + 1, 3, none⟩ = some (.slice bve v.entries.length dve) := (HX.out ⟨_, HB2.out⟩).2 3 _ rfl
     have HBA : Hid (∀ O, Below W2.heap.size W2 (w2.alloc O)) := hid fun O => HB2.out.alloc HB2.out.size _
     have s0 : ∀ O, (w2.alloc O).cell? ⟨w.heap.size, 0, none⟩ = some (.int .i64 l.kind) := fun O => (HX.out ⟨_, HBA.out O⟩).1 0 _ rfl
     have s1 : ∀ O, (w2.alloc O).cell? ⟨w.heap.size, 1, none⟩ = some (.int .i64 l.lo) := fun O => (HX.out ⟨_, HBA.out O⟩).1 1 _ rfl
     have s2 : ∀ O, (w2.alloc O).cell? ⟨w.heap.size, 2, none⟩ = some (.int .i64 l.hi) := fun O => (HX.out ⟨_, HBA.out O⟩).1 2 _ rfl
     have s3 : ∀ O, (w2.alloc O).cell? ⟨w.heap.size, 3, none⟩ = some (.slice aln l.names.length cln) := fun O => (HX.out ⟨_, HBA.out O⟩).1 3 _ rfl
     have s4 : ∀ O, (w2.alloc O).cell? ⟨w.heap.size, 4, none⟩ = some (.slice alp l.parts.length clp) := fun O => (HX.out ⟨_, HBA.out O⟩).1 4 _ rfl
     have s5 : ∀ O, (w2.alloc O).cell? ⟨w.heap.size, 5, none⟩ = some (.slice alr l.rules.length clr) := fun O => (HX.out ⟨_, HBA.out O⟩).1 5 _ rfl
     have sv0 : ∀ O, (w2.alloc O).cell? ⟨w.heap.size + 1, 0, none⟩ = some (.int .i64 v.n) := fun O => (HX.out ⟨_, HBA.out O⟩).2 0 _ rfl
     have sv1 : ∀ O, (w2.alloc O).cell? ⟨w.heap.size + 1, 1, none⟩ = some (.slice bvn v.names.length dvn) := fun O => (HX.out ⟨_, HBA.out O⟩).2 1 _ rfl
     have sv2 : ∀ O, (w2.alloc O).cell? ⟨w.heap.size + 1, 2, none⟩ = some (.slice bvp v.parts.length dvp) := fun O => (HX.out ⟨_, HBA.out O⟩).2 2 _ rfl
     have sv3 : ∀ O, (w2.alloc O).cell? ⟨w.heap.size + 1, 3, none⟩ = some (.slice bve v.entries.length dve) := fun O => (HX.out ⟨_, HBA.out O⟩).2 3 _ rfl
     go_wp2_with fail
     have HLE : Hid (w.heap.size ≤ w2.heap.size) := hid (HB.out ⟨_, HB2.out⟩).size
     refine (HWR3.out _ w2.heap.size (HB.out ⟨_, HBA.out _⟩) HLE.out ⟨heap_alloc_new _ _, World.ownsRow_nil _ _ _ _⟩).mono ?_
     rintro e w3 ⟨rfl, rv3, hw3, hf3⟩
     have HW3 := hid hw3
     have HB3 : Hid (Below w.heap.size w w3) := hid ((HB.out ⟨_, HBA.out _⟩).trans ((hf3.below (fun k e => by simp [Value.ownBlock] at e) (by simp)).mono HLE.out))
     clear hw3 hf3 q0 q1 q2 q3 q4 q5 qv0 qv1 qv2 qv3 s0 s1 s2 s3 s4 s5 sv0 sv1 sv2 sv3
     go_wp2_with fail
     refine (wData_any w2.heap.size rv3 PB w3 HW3.out (by have := HSZ3.out; omega)).mono ?_
     rintro e w4 ⟨r, rfl, hr, hb4⟩
     have HR4 := hid hr
     have HB4 : Hid (Below w.heap.size w w4) := hid (HB3.out.trans (hb4.mono HB3.out.size))
     have HS3 : Hid (w.heap.size ≤ w3.heap.size) := hid HB3.out.size
     clear hr hb4
     go_wp2_with fail
     go_ret2
     exact hid ⟨r, by rw [HR.out]; rfl, by rw [HR.out]; exact owns_base HR4.out HS3.out, HB4.out⟩
 · have hEb : (E != 0) = true := by simpa using hE
   have HR : Hid (R = ([], 1)) := hid (by rw [HE.out, if_pos hE])
   clear hE HC HEL HWR HSZ HE
   go_wp2_with fail
   go_ret2
   exact hid ⟨.slice none 0 0, by rw [HR.out]; rfl, by rw [HR.out]; exact World.ownsRow_nil _ _ _ _, HB.out ⟨_, HB1.out⟩⟩
theorem h_bytes {w W : World} {v : Value} {b : List UInt8} (h : SlRd w 1 byteRd v b) (k : Below w.heap.size w W) : SlRd W 1 byteRd v b := SlRd.below h k fun _ _ _ h => h
def decPost (w : World) (x : Val × Int) (e : Ending) (w' : World) : Prop := ValEPost w x e w'
theorem Decode_any (l : Lat) (b : List UInt8) (cl : List Value) (vb : Value) (w : World) (hl : latRd w l cl) (hb : SlRd w 1 byteRd vb b) (hsz : b.length ≤ 1000000000) :
 Calls Tryz.prog 27 #[.agg cl.toArray, vb] w (ValEPost w (decodeV l b)) := by
 have HC : Hid (∀ W, Below w.heap.size w W → Calls Tryz.prog 36 #[.agg cl.toArray] W fun e w' => e = .returned (.int .i64 (chkE l)) ∧ Below W.heap.size W w') := hid fun W h => check_any l cl W (latRd.below h _ _ hl)
 have HEL : Hid (chkE l = 0 → ∀ (W : World) (x : Val) (cv : List Value), Below w.heap.size w W → valRd W x cv → Calls Tryz.prog 37 #[.agg cl.toArray, .agg cv.toArray] W fun e w' => e = .returned (.bool (elemB l x)) ∧ Below W.heap.size W w') := hid fun h0 W x cv h hx => element_any _ l x cl cv W (Nat.le_refl _) (latRd.below h _ _ hl) hx (chkE_wf h0)
 have HNR : Hid (∀ W, Below w.heap.size w W → Calls Tryz.prog 53 #[vb] W (NewPost W b)) := hid fun W h => newReader_any vb b W (h_bytes hb h) hsz
 have HRD : Hid (chkE l = 0 → ∀ (W : World) (B : Nat) (rv : Value) (s : RS), Below w.heap.size w W → w.heap.size ≤ B → RdAt W B rv s → s.data.length ≤ 1000000000 → Calls Tryz.prog 54 #[.pointer (some ⟨B, 0, none⟩), .agg cl.toArray] W (ReadPost B rv W (readV l s))) :=
  hid fun h0 W B rv s h hB hs hd => read_any _ l B rv s cl W (Nat.le_refl _) (chkE_wf h0) hs hd (latRd.mono (sub_notB h hB) _ _ hl)
 have HE : Hid (decodeV l b = if chkE l ≠ 0 then (zeroV, 1) else if (readV l (RS.new b)).2.ends ≠ 0 ∨ elemB l (readV l (RS.new b)).1 = false then (zeroV, 2) else ((readV l (RS.new b)).1, 0)) := hid rfl
 have HSB := hid hsz
 have HOK : Hid (RS.Ok (RS.new b)) := hid (new_ok b)
 have HRL : Hid (∀ W B rv W2, RdAt W B rv (RS.new b) → RdAt W2 B rv (readV l (RS.new b)).2 → (readV l (RS.new b)).2.data.length ≤ 1000000000) := hid fun W B rv W2 h k => by have := h.len k; have e : (RS.new b).data.length = b.length := rfl; omega
 generalize decodeV l b = R at HE ⊢
 generalize hq : readV l (RS.new b) = Q at HE HRL
 have HQ := hid hq
 clear hq
 generalize chkE l = E at HC HEL HRD HE
 obtain ⟨aln, cln, alp, clp, alr, clr, rfl, hli, hln, hlp, hlr, ⟨_, mln⟩, ⟨_, mlp⟩, _, mlr⟩ := latRd.lay hl
 obtain ⟨ba, bc, rfl, _, hbm⟩ := hb.shape
 clear hl hli hln hlp hlr hb hsz
 have HB : Hid (Below w.heap.size w ((w.alloc (.cells #[.int .i64 l.kind, .int .i64 l.lo, .int .i64 l.hi, .slice aln l.names.length cln, .slice alp l.parts.length clp, .slice alr l.rules.length clr] 26)).alloc (.cells #[.int .i64 0, .slice none 0 0, .slice none 0 0, .slice none 0 0] 30))) := hid (((Below.refl _ _).alloc (Nat.le_refl _) _).alloc (by simp) _)
 have HX : Hid (∀ w', Below (w.heap.size + 2) ((w.alloc (.cells #[.int .i64 l.kind, .int .i64 l.lo, .int .i64 l.hi, .slice aln l.names.length cln, .slice alp l.parts.length clp, .slice alr l.rules.length clr] 26)).alloc (.cells #[.int .i64 0, .slice none 0 0, .slice none 0 0, .slice none 0 0] 30)) w' → (∀ (i : Nat) v, #[.int .i64 l.kind, .int .i64 l.lo, .int .i64 l.hi, .slice aln l.names.length cln, .slice alp l.parts.length clp, .slice alr l.rules.length clr][i]? = some v → w'.cell? ⟨w.heap.size, i, none⟩ = some v) ∧ w'.heap[w.heap.size + 1]? = some (.cells #[.int .i64 0, .slice none 0 0, .slice none 0 0, .slice none 0 0] 30 (0, 0))) := hid fun w' h => ⟨(two_boxes w #[.int .i64 l.kind, .int .i64 l.lo, .int .i64 l.hi, .slice aln l.names.length cln, .slice alp l.parts.length clp, .slice alr l.rules.length clr] #[.int .i64 0, .slice none 0 0, .slice none 0 0, .slice none 0 0] 26 30 h).1, (h.block _ (by omega)).trans (heap_new_at _ _ _ (by simp))⟩
 go_enter Tryz.func27, Tryz.ntmps27
 go_wp2_with fail
 have HSZ : Hid (((w.alloc (.cells #[.int .i64 l.kind, .int .i64 l.lo, .int .i64 l.hi, .slice aln l.names.length cln, .slice alp l.parts.length clp, .slice alr l.rules.length clr] 26)).alloc (.cells #[.int .i64 0, .slice none 0 0, .slice none 0 0, .slice none 0 0] 30)).heap.size = w.heap.size + 2) := hid (by simp)
 generalize (w.alloc (.cells #[.int .i64 l.kind, .int .i64 l.lo, .int .i64 l.hi, .slice aln l.names.length cln, .slice alp l.parts.length clp, .slice alr l.rules.length clr] 26)).alloc (.cells #[.int .i64 0, .slice none 0 0, .slice none 0 0, .slice none 0 0] 30) = W2 at HB HX HSZ ⊢
 refine (HC.out _ HB.out).mono ?_
 rintro e w1 ⟨rfl, hb1⟩
 have HB1 : Hid (Below (w.heap.size + 2) W2 w1) := hid (hb1.mono (Nat.le_of_eq HSZ.out.symm))
 clear hb1
 have HUP : Hid (∀ {u : World}, Below (w.heap.size + 2) W2 u → Below w.heap.size w u) := hid fun h => HB.out.trans (h.mono (by omega))
 have HLE : Hid (∀ {u : World}, Below (w.heap.size + 2) W2 u → w.heap.size + 2 ≤ u.heap.size) := hid fun h => by have := h.size; have := HSZ.out; omega
 have f0 : w1.cell? ⟨w.heap.size, 0, none⟩ = some (.int .i64 l.kind) := (HX.out _ HB1.out).1 0 _ rfl
 have f1 : w1.cell? ⟨w.heap.size, 1, none⟩ = some (.int .i64 l.lo) := (HX.out _ HB1.out).1 1 _ rfl
 have f2 : w1.cell? ⟨w.heap.size, 2, none⟩ = some (.int .i64 l.hi) := (HX.out _ HB1.out).1 2 _ rfl
 have f3 : w1.cell? ⟨w.heap.size, 3, none⟩ = some (.slice aln l.names.length cln) := (HX.out _ HB1.out).1 3 _ rfl
 have f4 : w1.cell? ⟨w.heap.size, 4, none⟩ = some (.slice alp l.parts.length clp) := (HX.out _ HB1.out).1 4 _ rfl
 have f5 : w1.cell? ⟨w.heap.size, 5, none⟩ = some (.slice alr l.rules.length clr) := (HX.out _ HB1.out).1 5 _ rfl
 have r0 : w1.cell? ⟨w.heap.size + 1, 0, none⟩ = some (.int .i64 0) := cell_at_block (HX.out _ HB1.out).2
 have e0 : w1.frozen? ⟨w.heap.size + 1, 0, none⟩ = false := free_at_block (HX.out _ HB1.out).2
 have r1 : w1.cell? ⟨w.heap.size + 1, 1, none⟩ = some (.slice none 0 0) := cell_at_block (HX.out _ HB1.out).2
 have e1 : w1.frozen? ⟨w.heap.size + 1, 1, none⟩ = false := free_at_block (HX.out _ HB1.out).2
 have r2 : w1.cell? ⟨w.heap.size + 1, 2, none⟩ = some (.slice none 0 0) := cell_at_block (HX.out _ HB1.out).2
 have e2 : w1.frozen? ⟨w.heap.size + 1, 2, none⟩ = false := free_at_block (HX.out _ HB1.out).2
 have r3 : w1.cell? ⟨w.heap.size + 1, 3, none⟩ = some (.slice none 0 0) := cell_at_block (HX.out _ HB1.out).2
 have e3 : w1.frozen? ⟨w.heap.size + 1, 3, none⟩ = false := free_at_block (HX.out _ HB1.out).2
 by_cases hE : E = 0
 · have HEL2 := hid (HEL.out hE)
   have HRD2 := hid (HRD.out hE)
   have HE2 : Hid (R = if Q.2.ends ≠ 0 ∨ elemB l Q.1 = false then (zeroV, 2) else (Q.1, 0)) := hid (by rw [HE.out, if_neg (fun h => h hE)])
   subst hE
   clear HC HEL HRD HE f0 f1 f2 f3 f4 f5 r0 r1 r2 r3 e0 e1 e2 e3
   go_wp2_with fail
   refine (HNR.out _ (HUP.out HB1.out)).mono ?_
   rintro e w3 ⟨B, rv, rfl, hB, hrd, hb3⟩
   have HRA := hid hrd
   have HBB : Hid (w1.heap.size ≤ B ∧ B < w3.heap.size) := hid ⟨hB, block_lt hrd.blk⟩
   have HB3 : Hid (Below (w.heap.size + 2) W2 w3) := hid (HB1.out.trans (hb3.mono (HLE.out HB1.out)))
   clear hB hrd hb3
   have f0 : w3.cell? ⟨w.heap.size, 0, none⟩ = some (.int .i64 l.kind) := (HX.out _ HB3.out).1 0 _ rfl
   have f1 : w3.cell? ⟨w.heap.size, 1, none⟩ = some (.int .i64 l.lo) := (HX.out _ HB3.out).1 1 _ rfl
   have f2 : w3.cell? ⟨w.heap.size, 2, none⟩ = some (.int .i64 l.hi) := (HX.out _ HB3.out).1 2 _ rfl
   have f3 : w3.cell? ⟨w.heap.size, 3, none⟩ = some (.slice aln l.names.length cln) := (HX.out _ HB3.out).1 3 _ rfl
   have f4 : w3.cell? ⟨w.heap.size, 4, none⟩ = some (.slice alp l.parts.length clp) := (HX.out _ HB3.out).1 4 _ rfl
   have f5 : w3.cell? ⟨w.heap.size, 5, none⟩ = some (.slice alr l.rules.length clr) := (HX.out _ HB3.out).1 5 _ rfl
   have r0 : w3.cell? ⟨w.heap.size + 1, 0, none⟩ = some (.int .i64 0) := cell_at_block (HX.out _ HB3.out).2
   have e0 : w3.frozen? ⟨w.heap.size + 1, 0, none⟩ = false := free_at_block (HX.out _ HB3.out).2
   have r1 : w3.cell? ⟨w.heap.size + 1, 1, none⟩ = some (.slice none 0 0) := cell_at_block (HX.out _ HB3.out).2
   have e1 : w3.frozen? ⟨w.heap.size + 1, 1, none⟩ = false := free_at_block (HX.out _ HB3.out).2
   have r2 : w3.cell? ⟨w.heap.size + 1, 2, none⟩ = some (.slice none 0 0) := cell_at_block (HX.out _ HB3.out).2
   have e2 : w3.frozen? ⟨w.heap.size + 1, 2, none⟩ = false := free_at_block (HX.out _ HB3.out).2
   have r3 : w3.cell? ⟨w.heap.size + 1, 3, none⟩ = some (.slice none 0 0) := cell_at_block (HX.out _ HB3.out).2
   have e3 : w3.frozen? ⟨w.heap.size + 1, 3, none⟩ = false := free_at_block (HX.out _ HB3.out).2
   go_wp2_with fail
   refine (HRD2.out _ B rv (RS.new b) (HUP.out HB3.out) (by have := HLE.out HB1.out; have := HBB.out; omega) HRA.out HSB.out).mono ?_
   rintro e w4 ⟨cs4, rfl, hv4, hp4⟩
   rw [HQ.out] at hv4 hp4
   have HV4 := hid hv4
   have HP4 := hid hp4
   have HQL : Hid (Q.2.data.length ≤ 1000000000) := hid (HRL.out _ _ _ _ HRA.out hp4.1)
   have HB4 : Hid (Below (w.heap.size + 2) W2 w4) := hid ⟨hp4.2.os.trans HB3.out.os, hp4.2.tape.trans HB3.out.tape, hp4.2.output.trans HB3.out.output, Nat.le_trans HB3.out.size hp4.2.size, fun k hk => (hp4.2.block k (by have := HLE.out HB3.out; omega) (by have := HLE.out HB1.out; have := HBB.out; omega)).trans (HB3.out.block k hk)⟩
   clear hp4 f0 f1 f2 f3 f4 f5 r0 r1 r2 r3 e0 e1 e2 e3 HRD2 HNR
   obtain ⟨bxn, dxn, bxp, dxp, bxe, dxe, rfl, gxi, gxn, gxp, gxe, ⟨_, nxn⟩, ⟨_, nxp⟩, _, nxe⟩ := valRd.lay hv4
   clear hv4 gxi gxn gxp gxe
   have HRB4 : Hid (∀ O, RdAt (w4.alloc O) B rv Q.2) := hid fun O => HP4.out.1.below ((Below.refl _ _).alloc (Nat.le_refl _) O)
   go_wp2_with fail
   refine (rEnd_any B rv Q.2 _ (HRB4.out _) HQL.out).mono ?_
   rintro e w5 ⟨rfl, q5, rfl⟩
   have HB6 : Hid (Below (w.heap.size + 2) W2 ((w4.alloc (.cells #[.int .i64 Q.1.n, .slice bxn Q.1.names.length dxn, .slice bxp Q.1.parts.length dxp, .slice bxe Q.1.entries.length dxe] 30)).drewN q5)) := hid (below_drewN' (HB4.out.alloc (HLE.out HB4.out) _) _)
   have HVX : Hid (∀ u, Below ((w4.alloc (.cells #[.int .i64 Q.1.n, .slice bxn Q.1.names.length dxn, .slice bxp Q.1.parts.length dxp, .slice bxe Q.1.entries.length dxe] 30)).drewN q5).heap.size ((w4.alloc (.cells #[.int .i64 Q.1.n, .slice bxn Q.1.names.length dxn, .slice bxp Q.1.parts.length dxp, .slice bxe Q.1.entries.length dxe] 30)).drewN q5) u → valRd (only (from_ w3.heap.size) u) Q.1 [.int .i64 Q.1.n, .slice bxn Q.1.names.length dxn, .slice bxp Q.1.parts.length dxp, .slice bxe Q.1.entries.length dxe]) := hid fun u hu => valRd_mono' (only_keep fun g hg hl => ⟨hg, by
     have h2 : Below w4.heap.size w4 u := ((below_drewN' ((Below.refl _ _).alloc (Nat.le_refl _) _) q5).trans (hu.mono (below_drewN' ((Below.refl _ _).alloc (Nat.le_refl _) _) q5).size))
     exact h2.block g hl⟩) HV4.out
   have HXB : Hid (∀ u, Below ((w4.alloc (.cells #[.int .i64 Q.1.n, .slice bxn Q.1.names.length dxn, .slice bxp Q.1.parts.length dxp, .slice bxe Q.1.entries.length dxe] 30)).drewN q5).heap.size ((w4.alloc (.cells #[.int .i64 Q.1.n, .slice bxn Q.1.names.length dxn, .slice bxp Q.1.parts.length dxp, .slice bxe Q.1.entries.length dxe] 30)).drewN q5) u → ∀ (i : Nat) v, #[.int .i64 Q.1.n, .slice bxn Q.1.names.length dxn, .slice bxp Q.1.parts.length dxp, .slice bxe Q.1.entries.length dxe][i]? = some v → u.cell? ⟨w4.heap.size, i, none⟩ = some v) := hid fun u hu i v hv => by
     have h0 : ((w4.alloc (.cells #[.int .i64 Q.1.n, .slice bxn Q.1.names.length dxn, .slice bxp Q.1.parts.length dxp, .slice bxe Q.1.entries.length dxe] 30)).drewN q5).cell? ⟨w4.heap.size, i, none⟩ = some v := ((below_drewN' (Below.refl (w4.alloc (.cells #[.int .i64 Q.1.n, .slice bxn Q.1.names.length dxn, .slice bxp Q.1.parts.length dxp, .slice bxe Q.1.entries.length dxe] 30)).heap.size _) q5).cell (by simp)).trans (by rw [World.cell?_alloc_at _ _ _ _ rfl]; exact hv)
     exact (hu.cell (World.block_lt_of_cell? _ _ h0)).trans h0
   generalize (w4.alloc (.cells #[.int .i64 Q.1.n, .slice bxn Q.1.names.length dxn, .slice bxp Q.1.parts.length dxp, .slice bxe Q.1.entries.length dxe] 30)).drewN q5 = w6 at HXB HVX HB6 ⊢
   have HL3 : Hid (w.heap.size + 2 ≤ w3.heap.size) := hid (HLE.out HB3.out)
   clear HRB4 HP4 HQL
   have f0 : w6.cell? ⟨w.heap.size, 0, none⟩ = some (.int .i64 l.kind) := (HX.out _ HB6.out).1 0 _ rfl
   have f1 : w6.cell? ⟨w.heap.size, 1, none⟩ = some (.int .i64 l.lo) := (HX.out _ HB6.out).1 1 _ rfl
   have f2 : w6.cell? ⟨w.heap.size, 2, none⟩ = some (.int .i64 l.hi) := (HX.out _ HB6.out).1 2 _ rfl
   have f3 : w6.cell? ⟨w.heap.size, 3, none⟩ = some (.slice aln l.names.length cln) := (HX.out _ HB6.out).1 3 _ rfl
   have f4 : w6.cell? ⟨w.heap.size, 4, none⟩ = some (.slice alp l.parts.length clp) := (HX.out _ HB6.out).1 4 _ rfl
   have f5 : w6.cell? ⟨w.heap.size, 5, none⟩ = some (.slice alr l.rules.length clr) := (HX.out _ HB6.out).1 5 _ rfl
   have r0 : w6.cell? ⟨w.heap.size + 1, 0, none⟩ = some (.int .i64 0) := cell_at_block (HX.out _ HB6.out).2
   have e0 : w6.frozen? ⟨w.heap.size + 1, 0, none⟩ = false := free_at_block (HX.out _ HB6.out).2
   have r1 : w6.cell? ⟨w.heap.size + 1, 1, none⟩ = some (.slice none 0 0) := cell_at_block (HX.out _ HB6.out).2
   have e1 : w6.frozen? ⟨w.heap.size + 1, 1, none⟩ = false := free_at_block (HX.out _ HB6.out).2
   have r2 : w6.cell? ⟨w.heap.size + 1, 2, none⟩ = some (.slice none 0 0) := cell_at_block (HX.out _ HB6.out).2
   have e2 : w6.frozen? ⟨w.heap.size + 1, 2, none⟩ = false := free_at_block (HX.out _ HB6.out).2
   have r3 : w6.cell? ⟨w.heap.size + 1, 3, none⟩ = some (.slice none 0 0) := cell_at_block (HX.out _ HB6.out).2
   have e3 : w6.frozen? ⟨w.heap.size + 1, 3, none⟩ = false := free_at_block (HX.out _ HB6.out).2
   have b0 := HXB.out _ (Below.refl _ _) 0 _ rfl
   have b1 := HXB.out _ (Below.refl _ _) 1 _ rfl
   have b2 := HXB.out _ (Below.refl _ _) 2 _ rfl
   have b3 := HXB.out _ (Below.refl _ _) 3 _ rfl
   by_cases hQ : Q.2.ends = 0
   · have hQb : (Q.2.ends != 0) = false := by rw [hQ]; rfl
     have HE3 : Hid (R = if elemB l Q.1 = false then (zeroV, 2) else (Q.1, 0)) := hid (by
      rw [HE2.out]
      by_cases h : elemB l Q.1 = false
      · rw [if_pos h, if_pos (.inr h)]
      · rw [if_neg h, if_neg (by rintro (h' | h'); exact h' hQ; exact h h')])
     clear hQ HE2
     go_wp2_with fail
     refine (HEL2.out _ Q.1 [.int .i64 Q.1.n, .slice bxn Q.1.names.length dxn, .slice bxp Q.1.parts.length dxp, .slice bxe Q.1.entries.length dxe] (HUP.out HB6.out) (valRd_mono' (only_sub _ _) (HVX.out _ (Below.refl _ _)))).mono ?_
     rintro e w7 ⟨rfl, hb7⟩
     have HB67 : Hid (Below w6.heap.size w6 w7) := hid hb7
     have HB7 : Hid (Below (w.heap.size + 2) W2 w7) := hid (HB6.out.trans (hb7.mono (HLE.out HB6.out)))
     clear hb7 f0 f1 f2 f3 f4 f5 r0 r1 r2 r3 e0 e1 e2 e3 b0 b1 b2 b3
     have f0 : w7.cell? ⟨w.heap.size, 0, none⟩ = some (.int .i64 l.kind) := (HX.out _ HB7.out).1 0 _ rfl
     have f1 : w7.cell? ⟨w.heap.size, 1, none⟩ = some (.int .i64 l.lo) := (HX.out _ HB7.out).1 1 _ rfl
     have f2 : w7.cell? ⟨w.heap.size, 2, none⟩ = some (.int .i64 l.hi) := (HX.out _ HB7.out).1 2 _ rfl
     have f3 : w7.cell? ⟨w.heap.size, 3, none⟩ = some (.slice aln l.names.length cln) := (HX.out _ HB7.out).1 3 _ rfl
     have f4 : w7.cell? ⟨w.heap.size, 4, none⟩ = some (.slice alp l.parts.length clp) := (HX.out _ HB7.out).1 4 _ rfl
     have f5 : w7.cell? ⟨w.heap.size, 5, none⟩ = some (.slice alr l.rules.length clr) := (HX.out _ HB7.out).1 5 _ rfl
     have r0 : w7.cell? ⟨w.heap.size + 1, 0, none⟩ = some (.int .i64 0) := cell_at_block (HX.out _ HB7.out).2
     have e0 : w7.frozen? ⟨w.heap.size + 1, 0, none⟩ = false := free_at_block (HX.out _ HB7.out).2
     have r1 : w7.cell? ⟨w.heap.size + 1, 1, none⟩ = some (.slice none 0 0) := cell_at_block (HX.out _ HB7.out).2
     have e1 : w7.frozen? ⟨w.heap.size + 1, 1, none⟩ = false := free_at_block (HX.out _ HB7.out).2
     have r2 : w7.cell? ⟨w.heap.size + 1, 2, none⟩ = some (.slice none 0 0) := cell_at_block (HX.out _ HB7.out).2
     have e2 : w7.frozen? ⟨w.heap.size + 1, 2, none⟩ = false := free_at_block (HX.out _ HB7.out).2
     have r3 : w7.cell? ⟨w.heap.size + 1, 3, none⟩ = some (.slice none 0 0) := cell_at_block (HX.out _ HB7.out).2
     have e3 : w7.frozen? ⟨w.heap.size + 1, 3, none⟩ = false := free_at_block (HX.out _ HB7.out).2
     have b0 := HXB.out _ HB67.out 0 _ rfl
     have b1 := HXB.out _ HB67.out 1 _ rfl
     have b2 := HXB.out _ HB67.out 2 _ rfl
     have b3 := HXB.out _ HB67.out 3 _ rfl
     cases hF : elemB l Q.1
     · have HR : Hid (R = (zeroV, 2)) := hid (by rw [HE3.out, if_pos hF])
       clear hF HE3
       have HBF := hid (below_sets (b := w.heap.size + 1) (HUP.out HB7.out) (by omega) (.int .i64 0) (.slice none 0 0) (.slice none 0 0) (.slice none 0 0))
       go_wp2_with fail
       refine bodyPost_ret (v := .tuple #[.agg #[.int .i64 0, .slice none 0 0, .slice none 0 0, .slice none 0 0], .int .i64 2]) (by simp [results, Tryz.results27, go_sem, r0, r1, r2, r3, e0, e1, e2, e3]) rfl ?_
       rw [HR.out]
       exact ⟨_, rfl, zeroV_rd _, HBF.out⟩
     · have HR : Hid (R = (Q.1, 0)) := hid (by rw [HE3.out, if_neg (by rw [hF]; decide)])
       clear hF HE3
       have HV7 := hid (HVX.out _ HB67.out)
       have HBF := hid (below_sets (b := w.heap.size + 1) (HUP.out HB7.out) (by omega) (.int .i64 Q.1.n) (.slice bxn Q.1.names.length dxn) (.slice bxp Q.1.parts.length dxp) (.slice bxe Q.1.entries.length dxe))
       go_wp2_with fail
       refine bodyPost_ret (v := .tuple #[.agg #[.int .i64 Q.1.n, .slice bxn Q.1.names.length dxn, .slice bxp Q.1.parts.length dxp, .slice bxe Q.1.entries.length dxe], .int .i64 0]) (by simp [results, Tryz.results27, go_sem, r0, r1, r2, r3, e0, e1, e2, e3]) rfl ?_
       rw [HR.out]
       exact ⟨_, rfl, valRd_mono' ((sub_sets w7 (w.heap.size + 1) w3.heap.size (by have := HL3.out; omega) _ _ _ _).trans (only_from_mono _ (by have := HL3.out; omega))) HV7.out, HBF.out⟩
   · have hQb : (Q.2.ends != 0) = true := by simpa using hQ
     have HR : Hid (R = (zeroV, 2)) := hid (by rw [HE2.out, if_pos (.inl hQ)])
     clear hQ HE2
     have HBF := hid (below_sets (b := w.heap.size + 1) (HUP.out HB6.out) (by omega) (.int .i64 0) (.slice none 0 0) (.slice none 0 0) (.slice none 0 0))
     go_wp2_with fail
     refine bodyPost_ret (v := .tuple #[.agg #[.int .i64 0, .slice none 0 0, .slice none 0 0, .slice none 0 0], .int .i64 2]) (by simp [results, Tryz.results27, go_sem, r0, r1, r2, r3, e0, e1, e2, e3]) rfl ?_
     rw [HR.out]
     exact ⟨_, rfl, zeroV_rd _, HBF.out⟩
 · have hEb : (E != 0) = true := by simpa using hE
   have HR : Hid (R = (zeroV, 1)) := hid (by rw [HE.out, if_pos hE])
   clear hE HC HEL HRD HE
   have HBF := hid (below_sets (b := w.heap.size + 1) (HUP.out HB1.out) (by omega) (.int .i64 0) (.slice none 0 0) (.slice none 0 0) (.slice none 0 0))
   go_wp2_with fail
   refine bodyPost_ret (v := .tuple #[.agg #[.int .i64 0, .slice none 0 0, .slice none 0 0, .slice none 0 0], .int .i64 1]) (by simp [results, Tryz.results27, go_sem, r0, r1, r2, r3, e0, e1, e2, e3]) rfl ?_
   rw [HR.out]
   exact ⟨_, rfl, zeroV_rd _, HBF.out⟩
mutual
def trivB : Lat → Bool
 | .mk k lo hi _ ps _ => if k = 2 ∨ k = 3 then decide (lo = hi) else if k = 5 ∨ k = 6 ∨ k = 7 then trivBs ps else false
def trivBs : List Lat → Bool
 | [] => true
 | p :: t => trivB p && trivBs t
end
def idxT : List Lat → Nat → Int
 | [], _ => -1
 | p :: t, k => if trivB p then idxT t (k + 1) else k
theorem idxT_cases : ∀ (l : List Lat) (k : Nat), (idxT l k = -1 ∧ trivBs l = true) ∨ (0 ≤ idxT l k ∧ trivBs l = false)
 | [], k => .inl ⟨rfl, by rw [trivBs]⟩
 | p :: t, k => by
   rw [idxT, trivBs]
   cases h : trivB p
   · rw [if_neg (by decide)]
     exact .inr ⟨by omega, rfl⟩
   · rw [if_pos (by rfl), Bool.true_and]
     exact idxT_cases t (k + 1)
theorem idxT_geq (l : List Lat) : (decide ((0 : Int) ≤ idxT l 0)) = !trivBs l := by
 rcases idxT_cases l 0 with ⟨h, h'⟩ | ⟨h, h'⟩
 · rw [h, h']; rfl
 · rw [h', decide_eq_true h]; rfl
theorem idxT_drop (l : List Lat) (j : Nat) (h : j < l.length) : idxT (l.drop j) j = if trivB l[j] then idxT (l.drop (j + 1)) (j + 1) else j := by
 rw [drop_consS l j h, idxT]
def TrivOk (l : Lat) : Prop := ∀ (cl : List Value) (w : World), latRd w l cl → Calls Tryz.prog 72 #[.agg cl.toArray] w fun e w' => e = .returned (.bool (trivB l)) ∧ Below w.heap.size w w'
theorem trivF_any (l : Lat) (ih : TrivOk l) (cl : List Value) (w : World) (hl : latRd w l cl) : Calls Tryz.prog 126 #[.agg cl.toArray] w fun e w' => e = .returned (.bool (!trivB l)) ∧ Below w.heap.size w w' := by
  have HC := hid fun (W : World) (h : Below w.heap.size w W) => ih cl W (latRd.below h _ _ hl)
  have HB : Hid (∀ O, Below w.heap.size w (w.alloc O)) := hid fun O => (Below.refl _ _).alloc (Nat.le_refl _) O
  obtain ⟨aln, cln, alp, clp, alr, clr, rfl, hli, hln, hlp, hlr, ⟨_, mln⟩, ⟨_, mlp⟩, _, mlr⟩ := latRd.lay hl
  clear hl hli hln hlp hlr ih
  generalize trivB l = T at HC ⊢
  go_enter Tryz.func126, Tryz.ntmps126
  go_wp2_with fail
  refine (HC.out _ (HB.out _)).mono ?_
  rintro e w1 ⟨rfl, hb1⟩
  have HB1 := hid ((HB.out _).trans (hb1.mono (HB.out _).size))
  clear hb1
  go_wp2_with fail
  go_ret
  exact ⟨rfl, HB1.out⟩
theorem trivIdx_any (v : Value) (ps : List Lat) (ih : ∀ p ∈ ps, TrivOk p) (w : World) (hv : SlRd w 6 (latRd w) v ps) :
 Calls Tryz.prog 157 #[v, .func (.func 126) #[] #[]] w fun e w' => e = .returned (.int .i64 (idxT ps 0)) ∧ Below w.heap.size w w' := by
 have HV := hid hv
 have IH := hid ih
 obtain ⟨a, cp, rfl, _, hm⟩ := hv.shape
 have HE : Hid (idxT ps 0 = idxT (ps.drop 0) 0) := hid rfl
 generalize idxT ps 0 = R at HE ⊢
 clear hv ih
 go_enter Tryz.func157, Tryz.ntmps157
 go_wp2_with fail
 go_loopw [5, 8] (fun _ i wr => ∃ (j : Nat), j ≤ ps.length ∧ i = .int .i64 j ∧ Hid (Below w.heap.size w wr) ∧ Hid (R = idxT (ps.drop j) j)) (fun _ i _ => ps.length - (intOf i).toNat)
 case atStart => exact ⟨0, Nat.zero_le _, rfl, hid (Below.refl _ _), HE⟩
 case round =>
  obtain ⟨j, hj, rfl, HW, He⟩ := hrel
  by_cases hlt : j < ps.length
  · obtain ⟨b, o, cs, ha, hl0, hcs, hlp⟩ := HV.out.at j hlt
    subst ha
    have HLP := hid hlp
    obtain ⟨axn, cxn, axp, cxp, axr, cxr, rfl, hxi, hxn, hxp, hxr, ⟨_, mxn⟩, ⟨_, mxp⟩, _, mxr⟩ := latRd.lay hlp
    obtain ⟨f0, f1, f2, f3, f4, f5⟩ := (hcs.below HW.out).six
    have HS : Hid (R = if trivB ps[j] then idxT (ps.drop (j + 1)) (j + 1) else j) := hid (by rw [He.out, idxT_drop ps j hlt])
    clear hlp hcs hxi hxn hxp hxr
    go_wp2_with fail
    refine (trivF_any ps[j] (IH.out _ (List.getElem_mem hlt)) [.int .i64 ps[j].kind, .int .i64 ps[j].lo, .int .i64 ps[j].hi, .slice axn ps[j].names.length cxn, .slice axp ps[j].parts.length cxp, .slice axr ps[j].rules.length cxr] _ (latRd.below HW.out _ _ HLP.out)).mono ?_
    rintro e w1 ⟨rfl, hb1⟩
    have HW1 : Hid (Below w.heap.size w w1) := hid (HW.out.trans (hb1.mono HW.out.size))
    clear hb1 f0 f1 f2 f3 f4 f5
    cases ht : trivB ps[j]
    · have HR : Hid (R = j) := hid (by rw [HS.out, ht]; rfl)
      clear ht
      go_wp2_with fail
      go_ret
      exact ⟨ret_int HR.out.symm, HW1.out⟩
    · have HR : Hid (R = idxT (ps.drop (j + 1)) (j + 1)) := hid (by rw [HS.out, ht]; rfl)
      clear ht
      go_wp2_with fail
      go_roundw
      case rel => exact ⟨j + 1, by omega, by go_num, HW1, HR⟩
      case measure => simp [intOf]; omega
  · have HR : Hid (R = -1) := hid (by rw [He.out, show ps.drop j = [] from List.drop_eq_nil_of_le (by omega)]; rfl)
    go_wp2_with fail
    go_ret
    exact ⟨ret_int HR.out.symm, HW.out⟩
theorem trivHas_any (v : Value) (ps : List Lat) (ih : ∀ p ∈ ps, TrivOk p) (w : World) (hv : SlRd w 6 (latRd w) v ps) :
 Calls Tryz.prog 125 #[v, .func (.func 126) #[] #[]] w fun e w' => e = .returned (.bool (!trivBs ps)) ∧ Below w.heap.size w w' := by
 have HC := hid (trivIdx_any v ps ih w hv)
 have HG := hid (idxT_geq ps)
 obtain ⟨a, cp, rfl, _, hm⟩ := hv.shape
 clear hv ih
 generalize trivBs ps = T at HG ⊢
 generalize idxT ps 0 = I at HC HG
 go_enter Tryz.func125, Tryz.ntmps125
 go_wp2_with fail
 refine HC.out.mono ?_
 rintro e w1 ⟨rfl, hb1⟩
 have HB1 := hid hb1
 clear hb1
 go_wp2_with fail
 go_ret
 exact ⟨by rw [← HG.out]; simp, HB1.out⟩
theorem sizeOf_lp {l p : Lat} (h : p ∈ l.parts) : SizeOf.sizeOf p < SizeOf.sizeOf l := by
 cases l
 have := List.sizeOf_lt_of_mem h
 simp only [Lat.parts] at this
 simp only [Lat.mk.sizeOf_spec]
 omega
theorem beqI' (a b : Int) : (a == b) = decide (a = b) := by
 by_cases h : a = b
 · subst h; simp
 · rw [decide_eq_false h]; simpa using h
theorem trivial_any (f : Nat) : ∀ l : Lat, SizeOf.sizeOf l ≤ f → TrivOk l := by
 induction f with
 | zero => intro l hn; cases l; simp at hn
 | succ f ih =>
   intro l hn cl w hl
   have IH : Hid (∀ p ∈ l.parts, TrivOk p) := hid fun p hp => ih p (by have := sizeOf_lp hp; omega)
   obtain ⟨aln, cln, alp, clp, alr, clr, rfl, hli, hln, hlp, hlr, ⟨_, mln⟩, ⟨_, mlp⟩, _, mlr⟩ := latRd.lay hl
   obtain ⟨k, lo, hi, ns, ps, rs⟩ := l
   simp only [Lat.kind, Lat.lo, Lat.hi, Lat.names, Lat.parts, Lat.rules] at hli hln hlp hlr mln mlp mlr IH ⊢
   have HPS := hid hlp
   have HT : Hid (trivB (.mk k lo hi ns ps rs) = if k = 2 ∨ k = 3 then decide (lo = hi) else if k = 5 ∨ k = 6 ∨ k = 7 then trivBs ps else false) := hid (by rw [trivB])
   generalize trivB (.mk k lo hi ns ps rs) = T at HT ⊢
   clear hl hn ih hli hln hlp hlr
   have HB : Hid (∀ O, Below w.heap.size w (w.alloc O)) := hid fun O => (Below.refl _ _).alloc (Nat.le_refl _) O
   by_cases h23 : k = 2 ∨ k = 3
   · have HR : Hid (T = decide (lo = hi)) := hid (by rw [HT.out, if_pos h23])
     clear HT
     rcases h23 with rfl | rfl
     all_goals
      go_enter Tryz.func72, Tryz.ntmps72
      go_wp2_with fail
      go_ret
      exact ⟨ret_bool (by rw [HR.out, ← beqI']), HB.out _⟩
   by_cases h567 : k = 5 ∨ k = 6 ∨ k = 7
   · have HR : Hid (T = trivBs ps) := hid (by rw [HT.out, if_neg h23, if_pos h567])
     clear HT h23
     have HC : Hid (∀ W, Below w.heap.size w W → Calls Tryz.prog 125 #[.slice alp ps.length clp, .func (.func 126) #[] #[]] W fun e w' => e = .returned (.bool (!T)) ∧ Below W.heap.size W w') := hid fun W h => by
       rw [HR.out]
       exact trivHas_any _ ps IH.out W (SlRd.below HPS.out h fun _ _ _ h' => latRd.below h _ _ h')
     clear HR
     rcases h567 with rfl | rfl | rfl
     all_goals
      go_enter Tryz.func72, Tryz.ntmps72
      go_wp2_with fail
      refine (HC.out _ (HB.out _)).mono ?_
      rintro e w1 ⟨rfl, hb1⟩
      have HB1 := hid ((HB.out _).trans (hb1.mono (HB.out _).size))
      clear hb1
      go_wp2_with fail
      go_ret
      exact ⟨by simp, HB1.out⟩
   · have HR : Hid (T = false) := hid (by rw [HT.out, if_neg h23, if_neg h567])
     have e2 : (k == 2) = false := by simp; omega
     have e3 : (k == 3) = false := by simp; omega
     have e5 : (k == 5) = false := by simp; omega
     have e6 : (k == 6) = false := by simp; omega
     have e7 : (k == 7) = false := by simp; omega
     clear h23 h567 HT
     go_enter Tryz.func72, Tryz.ntmps72
     go_wp2_with fail
     go_ret
     exact ⟨ret_bool HR.out.symm, HB.out _⟩
end Go.Proofs.YtmdjnaobllajmaaGreatDoor
