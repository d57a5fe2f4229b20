/-
  What the statements of the chapter share, part 14: VRead6, VRead7, VRead8, VRead9, VBtm.
-/
import Derived.Test.YtmdjnaobllajmaaGreatDoorM10
import Derived.Test.YtmdjnaobllajmaaGreatDoorM13
set_option linter.unusedVariables false
set_option linter.unusedSimpArgs false
/- The walk of value.read at a Product and at a Lex. -/
namespace Go.Proofs.YtmdjnaobllajmaaGreatDoor
open Go.RowKit

/-- What a loop over the parts has read so far. -/
def PartsAt (R : List Val × RS) (ps : List Lat) (acc : List Val) (j : Nat) (s : RS) : Prop := R = (acc ++ (readParts (ps.drop j) s).1, (readParts (ps.drop j) s).2)
theorem PartsAt.start (ps : List Lat) (s : RS) : PartsAt (readParts ps s) ps [] 0 s := rfl
theorem PartsAt.step {R : List Val × RS} {ps : List Lat} {acc : List Val} {j : Nat} {s : RS} (h : PartsAt R ps acc j s) (hj : j < ps.length) : PartsAt R ps (acc ++ [(readV ps[j] s).1]) (j + 1) (readV ps[j] s).2 := by
  unfold PartsAt at h ⊢
  rw [h, List.drop_eq_getElem_cons hj, readParts, List.append_assoc]
  rfl
theorem PartsAt.end0 {R : List Val × RS} {ps : List Lat} {acc : List Val} {s : RS} (h : PartsAt R ps acc ps.length s) : R = (acc, s) := by
  unfold PartsAt at h
  rw [h, List.drop_length, readParts, List.append_nil]

set_option maxRecDepth 100000 in
set_option maxHeartbeats 8000000 in
theorem read_prod6 (l : Lat) (B : Nat) (rv : Value) (s : RS) (cs : List Value) (w : World) (h : RdAt w B rv s) (hl : s.data.length ≤ 1000000000) (hr : latRd (only (notB B) w) l cs) (hk : l.kind = 6) (hp8 : l.parts.length ≤ 8)
    (ih : ∀ p ∈ l.parts, ∀ (s : RS) (cs : List Value) (w : World), RdAt w B rv s → s.data.length ≤ 1000000000 → latRd (only (notB B) w) p cs → Calls Tryz.prog 54 #[.pointer (some ⟨B, 0, none⟩), .agg cs.toArray] w (ReadPost B rv w (readV p s))) :
    Calls Tryz.prog 54 #[.pointer (some ⟨B, 0, none⟩), .agg cs.toArray] w (ReadPost B rv w (readV l s)) := by
  obtain ⟨vn, vp, vr, rfl, ⟨hi1, hi2, hi3⟩, hns, hps, hrs⟩ := (latRd_iff _ _ _).1 hr
  obtain ⟨k, lo, hi', ns, ps, rs⟩ := l
  simp only [Lat.kind, Lat.lo, Lat.hi, Lat.names, Lat.parts, Lat.rules] at hi1 hi2 hi3 hns hps hrs hk hp8 ih ⊢
  subst hk
  have IH := hid ih
  have HP8 := hid hp8
  have HPS := hid hps
  have HRV : Hid (readV (.mk 6 lo hi' ns ps rs) s = (.mk 0 [] (readParts ps s).1 [], (readParts ps s).2)) := hid (by rw [readV]; rfl)
  generalize readV (.mk 6 lo hi' ns ps rs) s = R at HRV ⊢
  have HLA := hid (PartsAt.start ps s)
  generalize readParts ps s = RL at HRV HLA
  obtain ⟨ap, cp, rfl, _, hm⟩ := hps.shape
  have HST := hid (RdSt.start h #[.int .i64 6, .int .i64 lo, .int .i64 hi', vn, .slice ap ps.length cp, vr])
  have HL := hid hl
  clear h hl hr hns hps hrs ih hp8
  obtain ⟨j0, hj0, hy0, hy1, hy2⟩ := info_parts infoVal
  have ks0 := HST.out.cellV 0
  have ks1 := HST.out.cellV 1
  have ks2 := HST.out.cellV 2
  have ks3 := HST.out.cellV 3
  have rr0 := HST.out.cellR 0
  have rr1 := HST.out.cellR 1
  have rr2 := HST.out.cellR 2
  have rr3 := HST.out.cellR 3
  have es0 := HST.out.freeR 0
  have es1 := HST.out.freeR 1
  have es2 := HST.out.freeR 2
  have es3 := HST.out.freeR 3
  have zs0 := HST.out.freeV 0
  have zs1 := HST.out.freeV 1
  have zs2 := HST.out.freeV 2
  have zs3 := HST.out.freeV 3
  simp only [List.getElem?_toArray, List.getElem?_cons_zero, List.getElem?_cons_succ] at ks0 ks1 ks2 ks3 rr0 rr1 rr2 rr3
  clear ks0 ks1 ks2 ks3 rr0 rr1 rr2 rr3 es0 es1 es2 es3 zs0 zs1 zs2 zs3
  go_enter Tryz.func54, Tryz.ntmps54
  go_wp2_with fail
  go_loopw [12, 18] (fun _ i wr => ∃ (j : Nat) (s : RS) (vq : Value) (av : List Val) (cV : List (List Value)), j ≤ ps.length ∧ i = .int .i64 j ∧ Hid (av.length = j) ∧ Hid (RdSt w wr B rv s #[.int .i64 6, .int .i64 lo, .int .i64 hi', vn, .slice ap ps.length cp, vr] (.int .i64 0) (.slice none 0 0) vq (.slice none 0 0)) ∧
      Hid (Rws wr (w.heap.size + 3) 30 4 valRd vq av cV) ∧ Hid (PartsAt RL ps av j s) ∧ Hid (s.data.length ≤ 1000000000)) (fun _ i _ => ps.length - (intOf i).toNat)
  case atStart => exact ⟨0, s, _, [], [], Nat.zero_le _, rfl, hid rfl, HST, hid (Rws.nil _ _ _ _ _), HLA, HL⟩
  case round =>
    obtain ⟨j, s2, vq, av, cV, hj, rfl, HAV, STW, HRP, HLW, HNW⟩ := hrel
    obtain ⟨aq, cq, rfl⟩ := owns_shape HRP.out.own
    clear HLA
    by_cases hlt : j < ps.length
    · obtain ⟨b, o, cs0, ha, hl0, hcs, hlp⟩ := HPS.out.at j hlt
      subst ha
      obtain ⟨n0, p0, r0, rfl, hyi, hyn, hyp, hyr⟩ := (latRd_iff _ _ _).1 hlp
      obtain ⟨an0, cn0, rfl, _, _⟩ := hyn.shape
      obtain ⟨ap0, cp0, rfl, _, _⟩ := hyp.shape
      obtain ⟨ar0, cr0, rfl, _, _⟩ := hyr.shape
      have HLP := hid hlp
      obtain ⟨f0, f1, f2, f3, f4, f5⟩ := hcs.six
      have f0 := STW.out.latCell f0
      have f1 := STW.out.latCell f1
      have f2 := STW.out.latCell f2
      have f3 := STW.out.latCell f3
      have f4 := STW.out.latCell f4
      have f5 := STW.out.latCell f5
      clear hlp hcs hyi hyn hyp hyr
      have HLS : Hid (PartsAt RL ps (av ++ [(readV ps[j] s2).1]) (j + 1) (readV ps[j] s2).2) := hid (HLW.out.step hlt)
      have HJ : Hid (j + 1 ≤ 9223372036854775807 ∧ j + 1 ≤ ps.length) := hid (by omega)
      have HMY : Hid (av.length + 1 ≤ maxLen ∧ (av.length + 1) * 80 ≤ 140737488355328) := hid (by have := HAV.out; have := HP8.out; unfold maxLen; omega)
      go_wp2_with fail
      have ST6 := hid (STW.out.alloc (.cells #[.int .i64 ps[j].kind, .int .i64 ps[j].lo, .int .i64 ps[j].hi, .slice an0 ps[j].names.length cn0, .slice ap0 ps[j].parts.length cp0, .slice ar0 ps[j].rules.length cr0] 26 (0, 0)))
      have HP6 : Hid (Rws (wr.alloc (.cells #[.int .i64 ps[j].kind, .int .i64 ps[j].lo, .int .i64 ps[j].hi, .slice an0 ps[j].names.length cn0, .slice ap0 ps[j].parts.length cp0, .slice ar0 ps[j].rules.length cr0] 26 (0, 0))) (w.heap.size + 3) 30 4 valRd (.slice aq av.length cq) av cV) := hid (HRP.out.keep valRd_mono' fun b _ hl => Below.heap_alloc _ _ _ hl)
      have HBX : Hid (∀ (i : Nat) (v : Value), #[.int .i64 ps[j].kind, .int .i64 ps[j].lo, .int .i64 ps[j].hi, .slice an0 ps[j].names.length cn0, .slice ap0 ps[j].parts.length cp0, .slice ar0 ps[j].rules.length cr0][i]? = some v → (wr.alloc (.cells #[.int .i64 ps[j].kind, .int .i64 ps[j].lo, .int .i64 ps[j].hi, .slice an0 ps[j].names.length cn0, .slice ap0 ps[j].parts.length cp0, .slice ar0 ps[j].rules.length cr0] 26 (0, 0))).cell? ⟨wr.heap.size, i, none⟩ = some v) := hid fun i v hv => by
        rw [World.cell?_alloc_at _ _ _ _ rfl]; exact hv
      have g0 := HBX.out 0 _ rfl
      have g1 := HBX.out 1 _ rfl
      have g2 := HBX.out 2 _ rfl
      have g3 := HBX.out 3 _ rfl
      have g4 := HBX.out 4 _ rfl
      have g5 := HBX.out 5 _ rfl
      have k62 := ST6.out.cellV 2
      simp only [List.getElem?_toArray, List.getElem?_cons_zero, List.getElem?_cons_succ] at k62
      clear f0 f1 f2 f3 f4 f5 STW HRP HBX
      generalize wr.alloc (.cells #[.int .i64 ps[j].kind, .int .i64 ps[j].lo, .int .i64 ps[j].hi, .slice an0 ps[j].names.length cn0, .slice ap0 ps[j].parts.length cp0, .slice ar0 ps[j].rules.length cr0] 26 (0, 0)) = w6 at ST6 HP6 g0 g1 g2 g3 g4 g5 k62 ⊢
      have HDR6 : Hid (∀ q, RdAt (w6.drewN q) B rv s2 ∧ latRd (only (notB B) (w6.drewN q)) ps[j] [.int .i64 ps[j].kind, .int .i64 ps[j].lo, .int .i64 ps[j].hi, .slice an0 ps[j].names.length cn0, .slice ap0 ps[j].parts.length cp0, .slice ar0 ps[j].rules.length cr0]) := hid fun q => ⟨(ST6.out.drewN q).rd, (ST6.out.drewN q).lat HLP.out⟩
      go_region_law
        (first
          | (refine step_append (by rfl) (.tmp 23) (.tmp 27) 27 (by rfl) (w.heap.size + 3) 30 4 80 Tryz.underlying27 hj0 hy0 hy1 hy2 rfl (by decide) (.slice aq av.length cq) av.length cV.flatten (by rfl) (HOWV.out _) _ 1 [.int .i64 x.n, .slice xn x.names.length xcn, .slice xp x.parts.length xcp, .slice xe x.entries.length xce] (by rfl) (Src.of_block (cs := #[.int .i64 x.n, .slice xn x.names.length xcn, .slice xp x.parts.length xcp, .slice xe x.entries.length xce]) (heap_alloc_new _ _) 4 1 1 rfl (by simp [Value.oneCell'])) (av.length + 1) rfl _ rfl HMY.out.1 HMY.out.2 (HBV.out _) ?_
             intro na2 nc2 w9 had
             have HAD := hid had
             have ST9 : Hid (RdSt w w9 B rv s4 #[.int .i64 6, .int .i64 lo, .int .i64 hi', vn, .slice (some ⟨b, o, none⟩) ps.length cp, vr] (.int .i64 0) (.slice none 0 0) (.slice aq av.length cq) (.slice none 0 0)) := hid ((ST7.out.alloc _).grown had.grown (fun g hg => ((HOWV.out (.cells #[] 0 (0, 0))).lt g hg).1))
             have kv2 := ST9.out.cellV 2
             have zv2 := ST9.out.freeV 2
             simp only [List.getElem?_toArray, List.getElem?_cons_zero, List.getElem?_cons_succ] at kv2
             clear had)
          | (go_simp
             go_at_call 54
             refine (IH.out ps[j] (List.getElem_mem hlt) s2 [.int .i64 ps[j].kind, .int .i64 ps[j].lo, .int .i64 ps[j].hi, .slice an0 ps[j].names.length cn0, .slice ap0 ps[j].parts.length cp0, .slice ar0 ps[j].rules.length cr0] _ (HDR6.out _).1 HNW.out (HDR6.out _).2).mono ?_
             rintro e w7 ⟨cs7, rfl, hv7, hp⟩
             have ST7 : Hid (RdSt w w7 B rv (readV ps[j] s2).2 #[.int .i64 6, .int .i64 lo, .int .i64 hi', vn, .slice (some ⟨b, o, none⟩) ps.length cp, vr] (.int .i64 0) (.slice none 0 0) (.slice aq av.length cq) (.slice none 0 0)) := hid ((ST6.out.drewN _).call hp)
             have HX7 : Hid (valRd (only (from_ w6.heap.size) w7) (readV ps[j] s2).1 cs7) := hid hv7
             have HKP : Hid (∀ b, w.heap.size + 3 ≤ b → b < w6.heap.size → w7.heap[b]? = w6.heap[b]?) := hid fun b hb hl => hp.2.block b hl (by have := ST7.out.lt; omega)
             have HRP7 : Hid (Rws w7 (w.heap.size + 3) 30 4 valRd (.slice aq av.length cq) av cV) := hid (HP6.out.keep valRd_mono' HKP.out)
             have HOLD : Hid (∀ g, (Value.slice aq av.length cq).ownBlock = some g → g < w6.heap.size) := hid fun g h => (HP6.out.own.lt g h).2
             have HOWV : Hid (∀ O, (w7.alloc O).ownsRow (w.heap.size + 3) 30 4 (.slice aq av.length cq) av.length cV.flatten) := hid fun O => owns_below HRP7.out.own ((Below.refl _ _).alloc (Nat.le_refl _) O)
             have HBV : Hid (∀ O, w.heap.size + 3 ≤ (w7.alloc O).heap.size) := hid fun O => (ST7.out.alloc O).big
             have ka2 := fun O => (ST7.out.alloc O).cellV 2
             have za2 := fun O => (ST7.out.alloc O).freeV 2
             have kb2 := ST7.out.cellV 2
             simp only [List.getElem?_toArray, List.getElem?_cons_zero, List.getElem?_cons_succ] at ka2 kb2
             have HD4 : Hid ((readV ps[j] s2).2.data.length ≤ 1000000000) := hid (by have := (HDR6.out 0).1.len hp.1; have := HNW.out; omega)
             generalize readV ps[j] s2 = q at HX7 HLS HD4 hp hv7 ST7 ⊢
             obtain ⟨x, s4⟩ := q
             simp only at HX7 HLS HD4 hv7 ST7 ⊢
             obtain ⟨vn1, vp1, ve1, rfl, _, hsn, hsp, hse⟩ := (valRd_iff _ _ _).1 hv7
             obtain ⟨xn, xcn, rfl, _, _⟩ := hsn.shape
             obtain ⟨xp, xcp, rfl, _, _⟩ := hsp.shape
             obtain ⟨xe, xce, rfl, _, _⟩ := hse.shape
             clear hp hv7 hsn hsp hse))
      all_goals
        have HAX : Hid (Appd (w7.alloc (.cells #[.int .i64 x.n, .slice xn x.names.length xcn, .slice xp x.parts.length xcp, .slice xe x.entries.length xce] 30 (0, 0))) w9 (w.heap.size + 3) 30 4 (.slice aq av.length cq) (.slice na2 (av.length + 1) nc2) (av.length + 1) (cV.flatten ++ [.int .i64 x.n, .slice xn x.names.length xcn, .slice xp x.parts.length xcp, .slice xe x.entries.length xce])) := HAD
        have STA := hid (ST9.out.set 2 (.slice na2 (av.length + 1) nc2) (n' := .int .i64 0) rfl)
        have HPA : Hid (Rws (w9.setCell ⟨w.heap.size + 1 + 1, 2, none⟩ (.slice na2 (av.length + 1) nc2)) (w.heap.size + 3) 30 4 valRd (.slice na2 (av.length + 1) nc2) (av ++ [x]) (cV ++ [[.int .i64 x.n, .slice xn x.names.length xcn, .slice xp x.parts.length xcp, .slice xe x.entries.length xce]])) := hid
          (((HRP7.out.keep valRd_mono' fun b _ hl => Below.heap_alloc _ _ _ hl).push valRd_mono' HAX.out rfl rfl rfl (valRd_mono' (only_keep fun b hb hl => by
              have hb' := of_decide_eq_true hb
              refine ⟨?_, Below.heap_alloc _ _ _ hl⟩
              unfold butOwn
              simp only [Bool.and_eq_true, decide_eq_true_eq]
              refine ⟨by have := ST6.out.big; omega, fun e => ?_⟩
              have := HOLD.out b e; omega) HX7.out)).keep valRd_mono' fun b hb _ => Below.heap_setCell _ _ _ _ (by show b ≠ w.heap.size + 1 + 1; omega))
        have HLV : Hid ((av ++ [x]).length = j + 1) := hid (by have := HAV.out; simp; omega)
        clear HAD kv2 zv2 ka2 za2 kb2 k62 g0 g1 g2 g3 g4 g5
        go_wp2_with fail
        go_roundw
        case rel => exact ⟨j + 1, s4, _, av ++ [x], _, HJ.out.2, by go_num, HLV, STA, HPA, HLS, HD4⟩
        case measure => simp [intOf]; omega
    · have hjj : j = ps.length := by omega
      subst hjj
      have HE := hid HLW.out.end0
      have kw0 := STW.out.cellV 0
      have kw1 := STW.out.cellV 1
      have kw2 := STW.out.cellV 2
      have kw3 := STW.out.cellV 3
      have rw0 := STW.out.cellR 0
      have rw1 := STW.out.cellR 1
      have rw2 := STW.out.cellR 2
      have rw3 := STW.out.cellR 3
      have ew0 := STW.out.freeR 0
      have ew1 := STW.out.freeR 1
      have ew2 := STW.out.freeR 2
      have ew3 := STW.out.freeR 3
      have zw0 := STW.out.freeV 0
      have zw1 := STW.out.freeV 1
      have zw2 := STW.out.freeV 2
      have zw3 := STW.out.freeV 3
      simp only [List.getElem?_toArray, List.getElem?_cons_zero, List.getElem?_cons_succ] at kw0 kw1 kw2 kw3 rw0 rw1 rw2 rw3
      go_wp2_with fail
      refine bodyPost_ret (v := .agg #[.int .i64 0, .slice none 0 0, .slice aq av.length cq, .slice none 0 0]) (by simp [results, Tryz.results54, go_sem, kw0, kw1, kw2, kw3, rw0, rw1, rw2, rw3, ew0, ew1, ew2, ew3]) rfl (RdSt.post (x := .mk 0 [] av []) STW.out ((valRd_iff _ _ _).2 ⟨_, _, _, rfl, i64_0, sl_none _ _ _, HRP.out.reads valRd_mono', sl_none _ _ _⟩) (by rw [HRV.out, HE.out]) _ _ _ _)
end Go.Proofs.YtmdjnaobllajmaaGreatDoor

/- The walk of value.read at a Lex. -/
namespace Go.Proofs.YtmdjnaobllajmaaGreatDoor
open Go.RowKit


set_option maxRecDepth 100000 in
set_option maxHeartbeats 8000000 in
theorem read_prod7 (l : Lat) (B : Nat) (rv : Value) (s : RS) (cs : List Value) (w : World) (h : RdAt w B rv s) (hl : s.data.length ≤ 1000000000) (hr : latRd (only (notB B) w) l cs) (hk : l.kind = 7) (hp8 : l.parts.length ≤ 8)
    (ih : ∀ p ∈ l.parts, ∀ (s : RS) (cs : List Value) (w : World), RdAt w B rv s → s.data.length ≤ 1000000000 → latRd (only (notB B) w) p cs → Calls Tryz.prog 54 #[.pointer (some ⟨B, 0, none⟩), .agg cs.toArray] w (ReadPost B rv w (readV p s))) :
    Calls Tryz.prog 54 #[.pointer (some ⟨B, 0, none⟩), .agg cs.toArray] w (ReadPost B rv w (readV l s)) := by
  obtain ⟨vn, vp, vr, rfl, ⟨hi1, hi2, hi3⟩, hns, hps, hrs⟩ := (latRd_iff _ _ _).1 hr
  obtain ⟨k, lo, hi', ns, ps, rs⟩ := l
  simp only [Lat.kind, Lat.lo, Lat.hi, Lat.names, Lat.parts, Lat.rules] at hi1 hi2 hi3 hns hps hrs hk hp8 ih ⊢
  subst hk
  have IH := hid ih
  have HP8 := hid hp8
  have HPS := hid hps
  have HRV : Hid (readV (.mk 7 lo hi' ns ps rs) s = (.mk 0 [] (readParts ps s).1 [], (readParts ps s).2)) := hid (by rw [readV]; rfl)
  generalize readV (.mk 7 lo hi' ns ps rs) s = R at HRV ⊢
  have HLA := hid (PartsAt.start ps s)
  generalize readParts ps s = RL at HRV HLA
  obtain ⟨ap, cp, rfl, _, hm⟩ := hps.shape
  have HST := hid (RdSt.start h #[.int .i64 7, .int .i64 lo, .int .i64 hi', vn, .slice ap ps.length cp, vr])
  have HL := hid hl
  clear h hl hr hns hps hrs ih hp8
  obtain ⟨j0, hj0, hy0, hy1, hy2⟩ := info_parts infoVal
  have ks0 := HST.out.cellV 0
  have ks1 := HST.out.cellV 1
  have ks2 := HST.out.cellV 2
  have ks3 := HST.out.cellV 3
  have rr0 := HST.out.cellR 0
  have rr1 := HST.out.cellR 1
  have rr2 := HST.out.cellR 2
  have rr3 := HST.out.cellR 3
  have es0 := HST.out.freeR 0
  have es1 := HST.out.freeR 1
  have es2 := HST.out.freeR 2
  have es3 := HST.out.freeR 3
  have zs0 := HST.out.freeV 0
  have zs1 := HST.out.freeV 1
  have zs2 := HST.out.freeV 2
  have zs3 := HST.out.freeV 3
  simp only [List.getElem?_toArray, List.getElem?_cons_zero, List.getElem?_cons_succ] at ks0 ks1 ks2 ks3 rr0 rr1 rr2 rr3
  clear ks0 ks1 ks2 ks3 rr0 rr1 rr2 rr3 es0 es1 es2 es3 zs0 zs1 zs2 zs3
  go_enter Tryz.func54, Tryz.ntmps54
  go_wp2_with fail
  go_loopw [12, 18] (fun _ i wr => ∃ (j : Nat) (s : RS) (vq : Value) (av : List Val) (cV : List (List Value)), j ≤ ps.length ∧ i = .int .i64 j ∧ Hid (av.length = j) ∧ Hid (RdSt w wr B rv s #[.int .i64 7, .int .i64 lo, .int .i64 hi', vn, .slice ap ps.length cp, vr] (.int .i64 0) (.slice none 0 0) vq (.slice none 0 0)) ∧
      Hid (Rws wr (w.heap.size + 3) 30 4 valRd vq av cV) ∧ Hid (PartsAt RL ps av j s) ∧ Hid (s.data.length ≤ 1000000000)) (fun _ i _ => ps.length - (intOf i).toNat)
  case atStart => exact ⟨0, s, _, [], [], Nat.zero_le _, rfl, hid rfl, HST, hid (Rws.nil _ _ _ _ _), HLA, HL⟩
  case round =>
    obtain ⟨j, s2, vq, av, cV, hj, rfl, HAV, STW, HRP, HLW, HNW⟩ := hrel
    obtain ⟨aq, cq, rfl⟩ := owns_shape HRP.out.own
    clear HLA
    by_cases hlt : j < ps.length
    · obtain ⟨b, o, cs0, ha, hl0, hcs, hlp⟩ := HPS.out.at j hlt
      subst ha
      obtain ⟨n0, p0, r0, rfl, hyi, hyn, hyp, hyr⟩ := (latRd_iff _ _ _).1 hlp
      obtain ⟨an0, cn0, rfl, _, _⟩ := hyn.shape
      obtain ⟨ap0, cp0, rfl, _, _⟩ := hyp.shape
      obtain ⟨ar0, cr0, rfl, _, _⟩ := hyr.shape
      have HLP := hid hlp
      obtain ⟨f0, f1, f2, f3, f4, f5⟩ := hcs.six
      have f0 := STW.out.latCell f0
      have f1 := STW.out.latCell f1
      have f2 := STW.out.latCell f2
      have f3 := STW.out.latCell f3
      have f4 := STW.out.latCell f4
      have f5 := STW.out.latCell f5
      clear hlp hcs hyi hyn hyp hyr
      have HLS : Hid (PartsAt RL ps (av ++ [(readV ps[j] s2).1]) (j + 1) (readV ps[j] s2).2) := hid (HLW.out.step hlt)
      have HJ : Hid (j + 1 ≤ 9223372036854775807 ∧ j + 1 ≤ ps.length) := hid (by omega)
      have HMY : Hid (av.length + 1 ≤ maxLen ∧ (av.length + 1) * 80 ≤ 140737488355328) := hid (by have := HAV.out; have := HP8.out; unfold maxLen; omega)
      go_wp2_with fail
      have ST6 := hid (STW.out.alloc (.cells #[.int .i64 ps[j].kind, .int .i64 ps[j].lo, .int .i64 ps[j].hi, .slice an0 ps[j].names.length cn0, .slice ap0 ps[j].parts.length cp0, .slice ar0 ps[j].rules.length cr0] 26 (0, 0)))
      have HP6 : Hid (Rws (wr.alloc (.cells #[.int .i64 ps[j].kind, .int .i64 ps[j].lo, .int .i64 ps[j].hi, .slice an0 ps[j].names.length cn0, .slice ap0 ps[j].parts.length cp0, .slice ar0 ps[j].rules.length cr0] 26 (0, 0))) (w.heap.size + 3) 30 4 valRd (.slice aq av.length cq) av cV) := hid (HRP.out.keep valRd_mono' fun b _ hl => Below.heap_alloc _ _ _ hl)
      have HBX : Hid (∀ (i : Nat) (v : Value), #[.int .i64 ps[j].kind, .int .i64 ps[j].lo, .int .i64 ps[j].hi, .slice an0 ps[j].names.length cn0, .slice ap0 ps[j].parts.length cp0, .slice ar0 ps[j].rules.length cr0][i]? = some v → (wr.alloc (.cells #[.int .i64 ps[j].kind, .int .i64 ps[j].lo, .int .i64 ps[j].hi, .slice an0 ps[j].names.length cn0, .slice ap0 ps[j].parts.length cp0, .slice ar0 ps[j].rules.length cr0] 26 (0, 0))).cell? ⟨wr.heap.size, i, none⟩ = some v) := hid fun i v hv => by
        rw [World.cell?_alloc_at _ _ _ _ rfl]; exact hv
      have g0 := HBX.out 0 _ rfl
      have g1 := HBX.out 1 _ rfl
      have g2 := HBX.out 2 _ rfl
      have g3 := HBX.out 3 _ rfl
      have g4 := HBX.out 4 _ rfl
      have g5 := HBX.out 5 _ rfl
      have k62 := ST6.out.cellV 2
      simp only [List.getElem?_toArray, List.getElem?_cons_zero, List.getElem?_cons_succ] at k62
      clear f0 f1 f2 f3 f4 f5 STW HRP HBX
      generalize wr.alloc (.cells #[.int .i64 ps[j].kind, .int .i64 ps[j].lo, .int .i64 ps[j].hi, .slice an0 ps[j].names.length cn0, .slice ap0 ps[j].parts.length cp0, .slice ar0 ps[j].rules.length cr0] 26 (0, 0)) = w6 at ST6 HP6 g0 g1 g2 g3 g4 g5 k62 ⊢
      have HDR6 : Hid (∀ q, RdAt (w6.drewN q) B rv s2 ∧ latRd (only (notB B) (w6.drewN q)) ps[j] [.int .i64 ps[j].kind, .int .i64 ps[j].lo, .int .i64 ps[j].hi, .slice an0 ps[j].names.length cn0, .slice ap0 ps[j].parts.length cp0, .slice ar0 ps[j].rules.length cr0]) := hid fun q => ⟨(ST6.out.drewN q).rd, (ST6.out.drewN q).lat HLP.out⟩
      go_region_law
        (first
          | (refine step_append (by rfl) (.tmp 23) (.tmp 27) 27 (by rfl) (w.heap.size + 3) 30 4 80 Tryz.underlying27 hj0 hy0 hy1 hy2 rfl (by decide) (.slice aq av.length cq) av.length cV.flatten (by rfl) (HOWV.out _) _ 1 [.int .i64 x.n, .slice xn x.names.length xcn, .slice xp x.parts.length xcp, .slice xe x.entries.length xce] (by rfl) (Src.of_block (cs := #[.int .i64 x.n, .slice xn x.names.length xcn, .slice xp x.parts.length xcp, .slice xe x.entries.length xce]) (heap_alloc_new _ _) 4 1 1 rfl (by simp [Value.oneCell'])) (av.length + 1) rfl _ rfl HMY.out.1 HMY.out.2 (HBV.out _) ?_
             intro na2 nc2 w9 had
             have HAD := hid had
             have ST9 : Hid (RdSt w w9 B rv s4 #[.int .i64 7, .int .i64 lo, .int .i64 hi', vn, .slice (some ⟨b, o, none⟩) ps.length cp, vr] (.int .i64 0) (.slice none 0 0) (.slice aq av.length cq) (.slice none 0 0)) := hid ((ST7.out.alloc _).grown had.grown (fun g hg => ((HOWV.out (.cells #[] 0 (0, 0))).lt g hg).1))
             have kv2 := ST9.out.cellV 2
             have zv2 := ST9.out.freeV 2
             simp only [List.getElem?_toArray, List.getElem?_cons_zero, List.getElem?_cons_succ] at kv2
             clear had)
          | (go_simp
             go_at_call 54
             refine (IH.out ps[j] (List.getElem_mem hlt) s2 [.int .i64 ps[j].kind, .int .i64 ps[j].lo, .int .i64 ps[j].hi, .slice an0 ps[j].names.length cn0, .slice ap0 ps[j].parts.length cp0, .slice ar0 ps[j].rules.length cr0] _ (HDR6.out _).1 HNW.out (HDR6.out _).2).mono ?_
             rintro e w7 ⟨cs7, rfl, hv7, hp⟩
             have ST7 : Hid (RdSt w w7 B rv (readV ps[j] s2).2 #[.int .i64 7, .int .i64 lo, .int .i64 hi', vn, .slice (some ⟨b, o, none⟩) ps.length cp, vr] (.int .i64 0) (.slice none 0 0) (.slice aq av.length cq) (.slice none 0 0)) := hid ((ST6.out.drewN _).call hp)
             have HX7 : Hid (valRd (only (from_ w6.heap.size) w7) (readV ps[j] s2).1 cs7) := hid hv7
             have HKP : Hid (∀ b, w.heap.size + 3 ≤ b → b < w6.heap.size → w7.heap[b]? = w6.heap[b]?) := hid fun b hb hl => hp.2.block b hl (by have := ST7.out.lt; omega)
             have HRP7 : Hid (Rws w7 (w.heap.size + 3) 30 4 valRd (.slice aq av.length cq) av cV) := hid (HP6.out.keep valRd_mono' HKP.out)
             have HOLD : Hid (∀ g, (Value.slice aq av.length cq).ownBlock = some g → g < w6.heap.size) := hid fun g h => (HP6.out.own.lt g h).2
             have HOWV : Hid (∀ O, (w7.alloc O).ownsRow (w.heap.size + 3) 30 4 (.slice aq av.length cq) av.length cV.flatten) := hid fun O => owns_below HRP7.out.own ((Below.refl _ _).alloc (Nat.le_refl _) O)
             have HBV : Hid (∀ O, w.heap.size + 3 ≤ (w7.alloc O).heap.size) := hid fun O => (ST7.out.alloc O).big
             have ka2 := fun O => (ST7.out.alloc O).cellV 2
             have za2 := fun O => (ST7.out.alloc O).freeV 2
             have kb2 := ST7.out.cellV 2
             simp only [List.getElem?_toArray, List.getElem?_cons_zero, List.getElem?_cons_succ] at ka2 kb2
             have HD4 : Hid ((readV ps[j] s2).2.data.length ≤ 1000000000) := hid (by have := (HDR6.out 0).1.len hp.1; have := HNW.out; omega)
             generalize readV ps[j] s2 = q at HX7 HLS HD4 hp hv7 ST7 ⊢
             obtain ⟨x, s4⟩ := q
             simp only at HX7 HLS HD4 hv7 ST7 ⊢
             obtain ⟨vn1, vp1, ve1, rfl, _, hsn, hsp, hse⟩ := (valRd_iff _ _ _).1 hv7
             obtain ⟨xn, xcn, rfl, _, _⟩ := hsn.shape
             obtain ⟨xp, xcp, rfl, _, _⟩ := hsp.shape
             obtain ⟨xe, xce, rfl, _, _⟩ := hse.shape
             clear hp hv7 hsn hsp hse))
      all_goals
        have HAX : Hid (Appd (w7.alloc (.cells #[.int .i64 x.n, .slice xn x.names.length xcn, .slice xp x.parts.length xcp, .slice xe x.entries.length xce] 30 (0, 0))) w9 (w.heap.size + 3) 30 4 (.slice aq av.length cq) (.slice na2 (av.length + 1) nc2) (av.length + 1) (cV.flatten ++ [.int .i64 x.n, .slice xn x.names.length xcn, .slice xp x.parts.length xcp, .slice xe x.entries.length xce])) := HAD
        have STA := hid (ST9.out.set 2 (.slice na2 (av.length + 1) nc2) (n' := .int .i64 0) rfl)
        have HPA : Hid (Rws (w9.setCell ⟨w.heap.size + 1 + 1, 2, none⟩ (.slice na2 (av.length + 1) nc2)) (w.heap.size + 3) 30 4 valRd (.slice na2 (av.length + 1) nc2) (av ++ [x]) (cV ++ [[.int .i64 x.n, .slice xn x.names.length xcn, .slice xp x.parts.length xcp, .slice xe x.entries.length xce]])) := hid
          (((HRP7.out.keep valRd_mono' fun b _ hl => Below.heap_alloc _ _ _ hl).push valRd_mono' HAX.out rfl rfl rfl (valRd_mono' (only_keep fun b hb hl => by
              have hb' := of_decide_eq_true hb
              refine ⟨?_, Below.heap_alloc _ _ _ hl⟩
              unfold butOwn
              simp only [Bool.and_eq_true, decide_eq_true_eq]
              refine ⟨by have := ST6.out.big; omega, fun e => ?_⟩
              have := HOLD.out b e; omega) HX7.out)).keep valRd_mono' fun b hb _ => Below.heap_setCell _ _ _ _ (by show b ≠ w.heap.size + 1 + 1; omega))
        have HLV : Hid ((av ++ [x]).length = j + 1) := hid (by have := HAV.out; simp; omega)
        clear HAD kv2 zv2 ka2 za2 kb2 k62 g0 g1 g2 g3 g4 g5
        go_wp2_with fail
        go_roundw
        case rel => exact ⟨j + 1, s4, _, av ++ [x], _, HJ.out.2, by go_num, HLV, STA, HPA, HLS, HD4⟩
        case measure => simp [intOf]; omega
    · have hjj : j = ps.length := by omega
      subst hjj
      have HE := hid HLW.out.end0
      have kw0 := STW.out.cellV 0
      have kw1 := STW.out.cellV 1
      have kw2 := STW.out.cellV 2
      have kw3 := STW.out.cellV 3
      have rw0 := STW.out.cellR 0
      have rw1 := STW.out.cellR 1
      have rw2 := STW.out.cellR 2
      have rw3 := STW.out.cellR 3
      have ew0 := STW.out.freeR 0
      have ew1 := STW.out.freeR 1
      have ew2 := STW.out.freeR 2
      have ew3 := STW.out.freeR 3
      have zw0 := STW.out.freeV 0
      have zw1 := STW.out.freeV 1
      have zw2 := STW.out.freeV 2
      have zw3 := STW.out.freeV 3
      simp only [List.getElem?_toArray, List.getElem?_cons_zero, List.getElem?_cons_succ] at kw0 kw1 kw2 kw3 rw0 rw1 rw2 rw3
      go_wp2_with fail
      refine bodyPost_ret (v := .agg #[.int .i64 0, .slice none 0 0, .slice aq av.length cq, .slice none 0 0]) (by simp [results, Tryz.results54, go_sem, kw0, kw1, kw2, kw3, rw0, rw1, rw2, rw3, ew0, ew1, ew2, ew3]) rfl (RdSt.post (x := .mk 0 [] av []) STW.out ((valRd_iff _ _ _).2 ⟨_, _, _, rfl, i64_0, sl_none _ _ _, HRP.out.reads valRd_mono', sl_none _ _ _⟩) (by rw [HRV.out, HE.out]) _ _ _ _)
end Go.Proofs.YtmdjnaobllajmaaGreatDoor

/- The walk of value.read at a Register. -/
namespace Go.Proofs.YtmdjnaobllajmaaGreatDoor
open Go.RowKit
theorem infoTick2 : (Tryz.prog.info? 99).map (fun i => (i.zero, i.size, i.bytes)) = some (some (.agg #[.int .i64 0, .int .i64 0]), 2, 16) := by kernel_rfl
theorem infoEntry : (Tryz.prog.info? 43).map (fun i => (i.zero, i.size, i.bytes)) = some (some (.agg #[.slice none 0 0, .string ByteArray.empty]), 2, 40) := by kernel_rfl
theorem entryRd_mono' {a b : World} {x : En} {cs : List Value} (h : Sub a b) (k : entryRd a x cs) : entryRd b x cs := entryRd.mono k h
/-- A row of which only blocks of an older world are read, and they stay. -/
theorem Rws.frame {α : Type} {w w' : World} {base E sz : Nat} {R : World → α → List Value → Prop} {v : Value} {l : List α} {css : List (List Value)} (h : Rws w base E sz R v l css)
    (hR : ∀ {a b : World} {x cs}, Sub a b → R a x cs → R b x cs) (hk : ∀ b, base ≤ b → b < w.heap.size → w'.heap[b]? = w.heap[b]?) : Rws w' base E sz R v l css := h.keep hR hk

set_option maxRecDepth 100000 in
set_option maxHeartbeats 16000000 in
theorem read_reg (l : Lat) (B : Nat) (rv : Value) (s : RS) (cs : List Value) (w : World) (h : RdAt w B rv s) (hl : s.data.length ≤ 1000000000) (hr : latRd (only (notB B) w) l cs) (hk : l.kind = 9) :
    Calls Tryz.prog 54 #[.pointer (some ⟨B, 0, none⟩), .agg cs.toArray] w (ReadPost B rv w (readV l s)) := by
  obtain ⟨vn, vp, vr, rfl, ⟨hi1, hi2, hi3⟩, hns, hps, hrs⟩ := (latRd_iff _ _ _).1 hr
  obtain ⟨k, lo, hi', ns, ps, rs⟩ := l
  simp only [Lat.kind, Lat.lo, Lat.hi, Lat.names, Lat.parts, Lat.rules] at hi1 hi2 hi3 hns hps hrs hk ⊢
  subst hk
  have HRV : Hid (readV (.mk 9 lo hi' ns ps rs) s = (.mk 0 [] [] (rdLoop rdEntry (rdCount s).1 (rdCount s).2).1, (rdLoop rdEntry (rdCount s).1 (rdCount s).2).2)) := hid (by rw [readV]; rfl)
  generalize readV (.mk 9 lo hi' ns ps rs) s = R at HRV ⊢
  have HST := hid (RdSt.start h #[.int .i64 9, .int .i64 lo, .int .i64 hi', vn, vp, vr])
  have HL := hid hl
  have HO := hid h
  have HO1 := hid HST.out.rd
  have HC := hid (rdCount_ok h.ok)
  clear h hl hr hns hps hrs
  obtain ⟨i0, hi0, hz0, hz1, hz2⟩ := info_parts infoTick2
  obtain ⟨j0, hj0, hy0, hy1, hy2⟩ := info_parts infoEntry
  go_enter Tryz.func54, Tryz.ntmps54
  go_wp2_with fail
  refine (rCount_any B rv s _ HO1.out HL.out).mono ?_
  rintro e w1 ⟨rfl, hp⟩
  have ST1 := hid (HST.out.call hp)
  clear hp
  have HL1 : Hid ((rdCount s).2.data.length = s.data.length) := hid (congrArg List.length HC.out.2.1)
  generalize rdCount s = q at HRV HC HL1 ST1 ⊢
  obtain ⟨N, s1⟩ := q
  simp only at HRV HC HL1 ST1 ⊢
  have HLA := hid (LoopAt.start rdEntry N s1)
  generalize rdLoop rdEntry N s1 = RL at HRV HLA
  have HN : Hid (N ≤ 1000000000 ∧ s1.data.length ≤ 1000000000) := hid (by have := HC.out.2.2; have := HL1.out; have := HL.out; omega)
  clear HC HL1
  go_wp2_with fail
  go_loopw [7, 8, 9, 10] (fun n _ _ _ wr => ∃ (k : Nat) (s : RS) (ve : Value) (acc : List En) (cE : List (List Value)), n = .int .i64 k ∧ Hid (RdSt w wr B rv s #[.int .i64 9, .int .i64 lo, .int .i64 hi', vn, vp, vr] (.int .i64 0) (.slice none 0 0) (.slice none 0 0) ve) ∧
      Hid (Rws wr (w.heap.size + 3) 43 2 entryRd ve acc cE) ∧ Hid (LoopAt RL rdEntry acc k s) ∧ Hid (acc.length + k ≤ 1000000000 ∧ s.data.length ≤ 1000000000)) (fun n _ _ _ _ => (intOf n).toNat)
  case atStart => exact ⟨N, s1, _, [], [], rfl, ST1, hid (Rws.nil _ _ _ _ _), HLA, hid (by have := HN.out; simp; omega)⟩
  case round =>
    obtain ⟨k, s2, ve, acc, cE, rfl, STW, HRE, HLW, HNW⟩ := hrel
    obtain ⟨ae, ce, rfl⟩ := owns_shape HRE.out.own
    have HOW := hid STW.out.rd
    clear HLA
    have kw0 := STW.out.cellV 0
    have kw1 := STW.out.cellV 1
    have kw2 := STW.out.cellV 2
    have kw3 := STW.out.cellV 3
    have rw0 := STW.out.cellR 0
    have rw1 := STW.out.cellR 1
    have rw2 := STW.out.cellR 2
    have rw3 := STW.out.cellR 3
    have ew0 := STW.out.freeR 0
    have ew1 := STW.out.freeR 1
    have ew2 := STW.out.freeR 2
    have ew3 := STW.out.freeR 3
    have zw0 := STW.out.freeV 0
    have zw1 := STW.out.freeV 1
    have zw2 := STW.out.freeV 2
    have zw3 := STW.out.freeV 3
    simp only [List.getElem?_toArray, List.getElem?_cons_zero, List.getElem?_cons_succ] at kw0 kw1 kw2 kw3 rw0 rw1 rw2 rw3
    have HFIN : Hid (∀ (a b c d : Value), RL = (acc, s2) → ReadPost B rv w R (.returned (.agg #[.int .i64 0, .slice none 0 0, .slice none 0 0, .slice ae acc.length ce])) ((((wr.setCell ⟨w.heap.size + 1, 0, none⟩ a).setCell ⟨w.heap.size + 1, 1, none⟩ b).setCell ⟨w.heap.size + 1, 2, none⟩ c).setCell ⟨w.heap.size + 1, 3, none⟩ d)) := hid fun a b c d hE =>
      RdSt.post (x := .mk 0 [] [] acc) STW.out ((valRd_iff _ _ _).2 ⟨_, _, _, rfl, i64_0, sl_none _ _ _, sl_none _ _ _, HRE.out.reads entryRd_mono'⟩) (by rw [HRV.out, hE]) _ _ _ _
    by_cases hk0 : k = 0
    · have HK := hid hk0
      subst hk0
      have HE := hid HLW.out.end0
      go_wp2_with fail
      refine bodyPost_ret (v := .agg #[.int .i64 0, .slice none 0 0, .slice none 0 0, .slice ae acc.length ce]) (by simp [results, Tryz.results54, go_sem, kw0, kw1, kw2, kw3, rw0, rw1, rw2, rw3, ew0, ew1, ew2, ew3]) rfl (HFIN.out _ _ _ _ HE.out)
    · have hkp : 0 < k := by omega
      have HK := hid hk0
      clear hk0
      go_wp2_with fail
      refine (rErr_any B rv s2 _ HOW.out).mono ?_
      rintro e w2 ⟨rfl, rfl⟩
      by_cases he : s2.err = 0
      · have HE := hid he
        have heb : (s2.err == 0) = true := by simpa using he
        clear he
        have HLS : Hid (LoopAt RL rdEntry (acc ++ [(rdEntry s2).1]) (k - 1) (rdEntry s2).2) := hid (by
          have := HLW.out
          rw [show k = k - 1 + 1 by omega] at this
          exact this.step HE.out)
        have HMX : Hid (acc.length + 1 ≤ maxLen ∧ (acc.length + 1) * 40 ≤ 140737488355328) := hid (by have := HNW.out; have := HK.out; unfold maxLen; omega)
        obtain ⟨wo, rfl⟩ : ∃ wo : World, wo = w2 := ⟨_, rfl⟩
        have HGW : Hid (w.heap.size + 3 ≤ wo.heap.size) := hid STW.out.big
        clear kw0 kw1 kw2 kw3 rw0 rw1 rw2 rw3 ew0 ew1 ew2 ew3 zw0 zw1 zw2 zw3 HFIN
        go_wp2_with fail
        have STA := hid (STW.out.alloc (.cells #[.slice none 0 0, .string ByteArray.empty] 43 (0, 0)))
        have HCO := hid (rdCount_ok STW.out.ok)
        refine (rCount_any B rv s2 _ STA.out.rd HNW.out.2).mono ?_
        rintro e w3 ⟨rfl, hp⟩
        have STB := hid (STA.out.call hp)
        have HGB : Hid (w3.heap[wo.heap.size]? = some (.cells #[.slice none 0 0, .string ByteArray.empty] 43 (0, 0))) := hid ((hp.2.block _ (by simp) (by have := STW.out.lt; have := HGW.out; omega)).trans (heap_alloc_new _ _))
        have HFB : Hid (∀ b, w.heap.size + 3 ≤ b → b < wo.heap.size → w3.heap[b]? = wo.heap[b]?) := hid fun b h1 h2 => (hp.2.block b (by simp; omega) (by have := STW.out.lt; omega)).trans (Below.heap_alloc _ _ _ h2)
        have HRY : Hid (rdEntry s2 = (⟨(rdLoop rdTick (rdCount s2).1 (rdCount s2).2).1, (rdText (rdLoop rdTick (rdCount s2).1 (rdCount s2).2).2).1⟩, (rdText (rdLoop rdTick (rdCount s2).1 (rdCount s2).2).2).2)) := hid rfl
        have HCL : Hid ((rdCount s2).1 ≤ 1000000000 ∧ (rdCount s2).2.data.length ≤ 1000000000) := hid (by have h1 := HCO.out.2.2; have h2 := congrArg List.length HCO.out.2.1; have := HNW.out; omega)
        generalize rdCount s2 = q at HRY HCL hp STB ⊢
        obtain ⟨M, s4⟩ := q
        simp only at HRY HCL STB ⊢
        clear hp HCO
        have HLB := hid (LoopAt.start rdTick M s4)
        generalize rdLoop rdTick M s4 = RT at HRY HLB
        go_wp2_with fail
        go_loopw [9, 10] (fun n _ wr => ∃ (kk : Nat) (s5 : RS) (vc : Value) (accT : List Tk) (cT : List (List Value)), n = .int .i64 kk ∧ Hid (RdSt w wr B rv s5 #[.int .i64 9, .int .i64 lo, .int .i64 hi', vn, vp, vr] (.int .i64 0) (.slice none 0 0) (.slice none 0 0) (.slice ae acc.length ce)) ∧
            Hid (wr.heap[wo.heap.size]? = some (.cells #[vc, .string ByteArray.empty] 43 (0, 0))) ∧ Hid (Rws wr (wo.heap.size + 1) 99 2 (fun _ => tickRd) vc accT cT) ∧
            Hid (∀ b, w.heap.size + 3 ≤ b → b < wo.heap.size → wr.heap[b]? = wo.heap[b]?) ∧ Hid (LoopAt RT rdTick accT kk s5) ∧ Hid (accT.length + kk ≤ 1000000000 ∧ s5.data.length ≤ 1000000000)) (fun n _ _ => (intOf n).toNat)
        case atStart => exact ⟨M, s4, _, [], [], rfl, STB, HGB, hid (Rws.nil _ _ _ _ _), HFB, HLB, hid (by have := HCL.out; simp; omega)⟩
        case round =>
          obtain ⟨kk, s5, vc, accT, cT, rfl, STT, HGT, HRT, HFR, HLT, HNT⟩ := hrel
          obtain ⟨at', ct, rfl⟩ := owns_shape HRT.out.own
          have HOT := hid STT.out.rd
          by_cases hkk : kk = 0
          · have HKK := hid hkk
            subst hkk
            have HEX : Hid (RT = (accT, s5)) := hid (HLT.out.end0)
            have HNM : Hid ((rdEntry s2) = (⟨accT, (rdText s5).1⟩, (rdText s5).2)) := hid (by rw [HRY.out, HEX.out])
            go_wp2_with fail
            have HOX := hid STT.out.rd
            refine (rText_any B rv s5 _ HOX.out HNT.out.2).mono ?_
            rintro e w7 ⟨rfl, hp⟩
            have ST7 := hid (STT.out.call hp)
            have HX7 : Hid ((rdText s5).1.size ≤ maxLen) := hid (by have := rdText_le STT.out.ok; have := HNT.out.2; unfold maxLen; omega)
            have HNX7 : Hid ((rdText s5).2.data.length ≤ 1000000000) := hid (by have := HOX.out.len hp.1; have := HNT.out.2; omega)
            have HG7 : Hid (w7.heap[wo.heap.size]? = some (.cells #[.slice at' accT.length ct, .string ByteArray.empty] 43 (0, 0))) := hid ((hp.2.block _ (block_lt HGT.out) (by have := STT.out.lt; have := HGW.out; omega)).trans HGT.out)
            have HRT7 : Hid (Rws w7 (wo.heap.size + 1) 99 2 (fun _ => tickRd) (.slice at' accT.length ct) accT cT) := hid (HRT.out.keep (fun _ h => h) fun b hb hl => hp.2.block b hl (by have := STT.out.lt; have := HGW.out; omega))
            have HFR7 : Hid (∀ b, w.heap.size + 3 ≤ b → b < wo.heap.size → w7.heap[b]? = wo.heap[b]?) := hid fun b h1 h2 => (hp.2.block b (by have := block_lt HGT.out; omega) (by have := STT.out.lt; omega)).trans (HFR.out b h1 h2)
            generalize rdText s5 = q at HNM HX7 HNX7 hp ST7 ⊢
            obtain ⟨nm, s7⟩ := q
            simp only at HNM HX7 HNX7 ST7 ⊢
            clear hp
            have y0 := cell_at_block (i := 0) HG7.out
            have y1 := cell_at_block (i := 1) HG7.out
            have y2 := free_at_block (i := 1) HG7.out
            have k73 := ST7.out.cellV 3
            simp only [List.getElem?_toArray, List.getElem?_cons_zero, List.getElem?_cons_succ] at y0 y1 k73
            have hne1 : wo.heap.size ≠ w.heap.size + 1 + 1 := by have := HGW.out; omega
            have hne2 : w.heap.size + 1 + 1 ≠ wo.heap.size := by have := HGW.out; omega
            have HG8 : Hid ((w7.setCell ⟨wo.heap.size, 1, none⟩ (.string nm)).heap[wo.heap.size]? = some (.cells #[.slice at' accT.length ct, .string nm] 43 (0, 0))) := hid (block_set HG7.out _)
            have ST8 : Hid (RdSt w (w7.setCell ⟨wo.heap.size, 1, none⟩ (.string nm)) B rv s7 #[.int .i64 9, .int .i64 lo, .int .i64 hi', vn, vp, vr] (.int .i64 0) (.slice none 0 0) (.slice none 0 0) (.slice ae acc.length ce)) := hid (ST7.out.far ((Below.refl _ _).setCell (by show w.heap.size + 3 ≤ wo.heap.size; exact HGW.out) _))
            have HRE8 : Hid (Rws (w7.setCell ⟨wo.heap.size, 1, none⟩ (.string nm)) (w.heap.size + 3) 43 2 entryRd (.slice ae acc.length ce) acc cE) := hid (Rws.frame HRE.out entryRd_mono' (fun b h1 h2 => (Below.heap_setCell _ _ _ _ (by show b ≠ wo.heap.size; omega)).trans (HFR7.out b h1 h2)))
            have HRT8 : Hid (Rws (w7.setCell ⟨wo.heap.size, 1, none⟩ (.string nm)) (wo.heap.size + 1) 99 2 (fun _ => tickRd) (.slice at' accT.length ct) accT cT) := hid (HRT7.out.keep (fun _ h => h) fun b hb _ => Below.heap_setCell _ _ _ _ (by show b ≠ wo.heap.size; omega))
            have HSZ8 : Hid (wo.heap.size < (w7.setCell ⟨wo.heap.size, 1, none⟩ (.string nm)).heap.size) := hid (block_lt HG8.out)
            have HOWE : Hid (∀ O, ((w7.setCell ⟨wo.heap.size, 1, none⟩ (.string nm)).alloc O).ownsRow (w.heap.size + 3) 43 2 (.slice ae acc.length ce) acc.length cE.flatten) := hid fun O => owns_below HRE8.out.own ((Below.refl _ _).alloc (Nat.le_refl _) O)
            have HBV : Hid (∀ O, w.heap.size + 3 ≤ ((w7.setCell ⟨wo.heap.size, 1, none⟩ (.string nm)).alloc O).heap.size) := hid fun O => (ST8.out.alloc O).big
            have HSRC : Hid (Src ((w7.setCell ⟨wo.heap.size, 1, none⟩ (.string nm)).alloc (.cells #[.slice at' accT.length ct, .string nm] 43 (0, 0))) 2 (.slice (some ⟨w7.heap.size, 0, none⟩) 1 1) 1 [.slice at' accT.length ct, .string nm]) := hid (by
              have h0 : (w7.setCell ⟨wo.heap.size, 1, none⟩ (.string nm)).heap.size = w7.heap.size := by simp [World.setCell]
              have h1 := heap_alloc_new (w7.setCell ⟨wo.heap.size, 1, none⟩ (.string nm)) (.cells #[.slice at' accT.length ct, .string nm] 43 (0, 0))
              rw [h0] at h1
              exact Src.of_block (cs := #[.slice at' accT.length ct, .string nm]) h1 2 1 1 rfl (by simp [Value.oneCell']))
            have HEW : Hid (∀ g, (Value.slice ae acc.length ce).ownBlock = some g → g < wo.heap.size) := hid fun g hg => (HRE.out.own.lt g hg).2
            have k83 := ST8.out.cellV 3
            have k83a := fun O => (ST8.out.alloc O).cellV 3
            have z83a := fun O => (ST8.out.alloc O).freeV 3
            have y8 := cell_at_block (i := 0) HG8.out
            have y9 := cell_at_block (i := 1) HG8.out
            simp only [List.getElem?_toArray, List.getElem?_cons_zero, List.getElem?_cons_succ] at y8 y9 k83 k83a
            go_wp2_with (at_builtin; refine wpList_append rfl (.tmp 129) (.tmp 131) 28 rfl (w.heap.size + 3) 43 2 40 Tryz.underlying28 hj0 hy0 hy1 hy2 rfl (by decide) (.slice ae acc.length ce) acc.length cE.flatten rfl (HOWE.out _) _ 1 [.slice at' accT.length ct, .string nm] rfl HSRC.out (acc.length + 1) rfl _ rfl HMX.out.1 HMX.out.2 (HBV.out _) ?_; intro na nc w9 had; have HAD := hid had; have ST9 : Hid (RdSt w w9 B rv s7 #[.int .i64 9, .int .i64 lo, .int .i64 hi', vn, vp, vr] (.int .i64 0) (.slice none 0 0) (.slice none 0 0) (.slice ae acc.length ce)) := hid ((ST8.out.alloc _).grown had.grown (fun g hg => ((HOWE.out (.cells #[] 0 (0, 0))).lt g hg).1)); have kv3 := ST9.out.cellV 3; have zv3 := ST9.out.freeV 3; simp only [List.getElem?_toArray, List.getElem?_cons_zero, List.getElem?_cons_succ] at kv3; clear had)
            have STA := hid (ST9.out.set 3 (.slice na (acc.length + 1) nc) (n' := .int .i64 0) rfl)
            have HRA : Hid (Rws (w9.setCell ⟨w.heap.size + 1 + 1, 3, none⟩ (.slice na (acc.length + 1) nc)) (w.heap.size + 3) 43 2 entryRd (.slice na (acc.length + 1) nc) (acc ++ [⟨accT, nm⟩]) (cE ++ [[.slice at' accT.length ct, .string nm]])) := hid
              (((HRE8.out.keep entryRd_mono' fun b _ hl => Below.heap_alloc _ _ _ hl).push entryRd_mono' HAD.out rfl rfl rfl (entryRd_mono' (only_keep fun b hb hl => by
                  have hb' := of_decide_eq_true hb
                  refine ⟨?_, Below.heap_alloc _ _ _ hl⟩
                  unfold butOwn
                  simp only [Bool.and_eq_true, decide_eq_true_eq]
                  refine ⟨by have := HGW.out; omega, fun e => ?_⟩
                  have := HEW.out b e; omega) (⟨_, rfl, HRT8.out.reads fun _ h => h, HX7.out⟩ : entryRd (only (from_ (wo.heap.size + 1)) (w7.setCell ⟨wo.heap.size, 1, none⟩ (.string nm))) ⟨accT, nm⟩ [.slice at' accT.length ct, .string nm]))).keep entryRd_mono' fun b hb _ => Below.heap_setCell _ _ _ _ (by show b ≠ w.heap.size + 1 + 1; omega))
            have HLS2 : Hid (LoopAt RL rdEntry (acc ++ [⟨accT, nm⟩]) (k - 1) s7) := hid (by have := HLS.out; rw [HNM.out] at this; exact this)
            have HNA : Hid ((acc ++ [(⟨accT, nm⟩ : En)]).length + (k - 1) ≤ 1000000000 ∧ s7.data.length ≤ 1000000000) := hid (by have := HNW.out; have := HNX7.out; have := HK.out; simp; omega)
            have HLV : Hid ((acc ++ [(⟨accT, nm⟩ : En)]).length = acc.length + 1) := hid (by simp)
            clear y0 y1 y2 k73 k83 k83a z83a y8 y9 kv3 zv3
            go_wp2_with fail
            have hw1 : wrap64 ((k : Int) - 1) = ((k - 1 : Nat) : Int) := by rw [IntWalk.wrap64_in _ (by have := HNW.out; omega)]; omega
            go_roundw
            case rel => exact ⟨k - 1, s7, _, acc ++ [⟨accT, nm⟩], _, by rw [hw1], STA, HRA, HLS2, HNA⟩
            case measure => simp [intOf, hw1]; omega

          · have hkq : 0 < kk := by omega
            have HKK := hid hkk
            clear hkk
            go_wp2_with fail
            refine (rErr_any B rv s5 _ HOT.out).mono ?_
            rintro e w4 ⟨rfl, rfl⟩
            by_cases he5 : s5.err = 0
            · have HE5 := hid he5
              have heb5 : (s5.err == 0) = true := by simpa using he5
              clear he5
              have HLT2 : Hid (LoopAt RT rdTick (accT ++ [(rdTick s5).1]) (kk - 1) (rdTick s5).2) := hid (by
                have := HLT.out
                rw [show kk = kk - 1 + 1 by omega] at this
                exact this.step HE5.out)
              have HTK : Hid (rdTick s5 = (⟨((rdSmall 63 s5).1 : Nat), ((rdSmall 1000000000000000 (rdSmall 63 s5).2).1 : Nat)⟩, (rdSmall 1000000000000000 (rdSmall 63 s5).2).2)) := hid rfl
              have HT1 := hid (rdSmall_le 63 s5)
              have HMT : Hid (accT.length + 1 ≤ maxLen ∧ (accT.length + 1) * 16 ≤ 140737488355328) := hid (by have := HNT.out; have := HKK.out; unfold maxLen; omega)
              go_wp2_with fail
              refine (rSmall_any B rv s5 63 _ HOT.out HNT.out.2 (by decide)).mono ?_
              rintro e w5 ⟨rfl, hp⟩
              have STU := hid (STT.out.call hp)
              have HNU : Hid ((rdSmall 63 s5).2.data.length ≤ 1000000000) := hid (by have := HOT.out.len hp.1; have := HNT.out.2; omega)
              have HGU : Hid (w5.heap[wo.heap.size]? = some (.cells #[.slice at' accT.length ct, .string ByteArray.empty] 43 (0, 0))) := hid ((hp.2.block _ (block_lt HGT.out) (by have := STT.out.lt; have := HGW.out; omega)).trans HGT.out)
              have HRU : Hid (Rws w5 (wo.heap.size + 1) 99 2 (fun _ => tickRd) (.slice at' accT.length ct) accT cT) := hid (HRT.out.keep (fun _ h => h) fun b hb hl => hp.2.block b hl (by have := STT.out.lt; have := HGW.out; omega))
              have HFU : Hid (∀ b, w.heap.size + 3 ≤ b → b < wo.heap.size → w5.heap[b]? = wo.heap[b]?) := hid fun b h1 h2 => (hp.2.block b (by have := block_lt HGT.out; omega) (by have := STT.out.lt; omega)).trans (HFR.out b h1 h2)
              generalize rdSmall 63 s5 = q at HTK HT1 HNU hp STU ⊢
              obtain ⟨pp, s6⟩ := q
              simp only at HTK HT1 HNU STU ⊢
              clear hp
              have HOU := hid (fun q => (STU.out.drewN q).rd)
              have HT2 := hid (rdSmall_le 1000000000000000 s6)
              have y0 := cell_at_block (i := 0) HGU.out
              have y2 := free_at_block (i := 0) HGU.out
              simp only [List.getElem?_toArray, List.getElem?_cons_zero, List.getElem?_cons_succ] at y0
              go_wp2_with fail
              go_region_law
                (first
                  | (refine step_append (by rfl) (.tmp 117) (.tmp 122) 41 (by rfl) (wo.heap.size + 1) 99 2 16 Tryz.underlying41 hi0 hz0 hz1 hz2 rfl (by decide) (.slice at' accT.length ct) accT.length cT.flatten (by rfl) (HOWT.out _) _ 1 [.int .i64 (pp : Nat), .int .i64 (nn : Nat)] (by rfl) (Src.of_block (cs := #[.int .i64 (pp : Nat), .int .i64 (nn : Nat)]) (heap_alloc_new _ _) 2 1 1 rfl (by simp [Value.oneCell'])) (accT.length + 1) rfl _ rfl HMT.out.1 HMT.out.2 (HBT.out _) ?_
                     intro na nc w9 had
                     have HAD := hid had
                     have HG9 : Hid (w9.heap[wo.heap.size]? = some (.cells #[.slice at' accT.length ct, .string ByteArray.empty] 43 (0, 0))) := hid ((had.grown.block _ (block_lt (block_alloc HG6.out _)) HNE.out).trans (block_alloc HG6.out _))
                     have kv0 := cell_at_block (i := 0) HG9.out
                     have zv0 := free_at_block (i := 0) HG9.out
                     simp only [List.getElem?_toArray, List.getElem?_cons_zero, List.getElem?_cons_succ] at kv0
                     clear had)
                  | (go_simp
                     go_at_call 93
                     refine (rSmall_any B rv s6 1000000000000000 _ (HOU.out _) HNU.out (by decide)).mono ?_
                     rintro e w6 ⟨rfl, hp⟩
                     have ST6 := hid ((STU.out.drewN _).call hp)
                     have HN6 : Hid ((rdSmall 1000000000000000 s6).2.data.length ≤ 1000000000) := hid (by have := (HOU.out 0).len hp.1; have := HNU.out; omega)
                     have HG6 : Hid (w6.heap[wo.heap.size]? = some (.cells #[.slice at' accT.length ct, .string ByteArray.empty] 43 (0, 0))) := hid ((hp.2.block _ (block_lt HGU.out) (by have := STU.out.lt; have := HGW.out; omega)).trans HGU.out)
                     have HR6 : Hid (Rws w6 (wo.heap.size + 1) 99 2 (fun _ => tickRd) (.slice at' accT.length ct) accT cT) := hid (HRU.out.keep (fun _ h => h) fun b hb hl => hp.2.block b hl (by have := STU.out.lt; have := HGW.out; omega))
                     have HF6 : Hid (∀ b, w.heap.size + 3 ≤ b → b < wo.heap.size → w6.heap[b]? = wo.heap[b]?) := hid fun b h1 h2 => (hp.2.block b (by have := block_lt HGU.out; show b < w5.heap.size; omega) (by have := STU.out.lt; omega)).trans (HFU.out b h1 h2)
                     have HOWT : Hid (∀ O, (w6.alloc O).ownsRow (wo.heap.size + 1) 99 2 (.slice at' accT.length ct) accT.length cT.flatten) := hid fun O => owns_below HR6.out.own ((Below.refl _ _).alloc (Nat.le_refl _) O)
                     have HBT : Hid (∀ O, wo.heap.size + 1 ≤ (w6.alloc O).heap.size) := hid fun O => by have := block_lt HG6.out; simp; omega
                     have HNE : Hid (some wo.heap.size ≠ (Value.slice at' accT.length ct).ownBlock) := hid fun e => by have := (HR6.out.own.lt _ e.symm).1; omega
                     have ka0 := fun O => cell_at_block (i := 0) (block_alloc HG6.out O)
                     have za0 := fun O => free_at_block (i := 0) (block_alloc HG6.out O)
                     have kb0 := cell_at_block (i := 0) HG6.out
                     simp only [List.getElem?_toArray, List.getElem?_cons_zero, List.getElem?_cons_succ] at ka0 kb0
                     generalize rdSmall 1000000000000000 s6 = q at HTK HT2 HN6 hp ST6 ⊢
                     obtain ⟨nn, s7⟩ := q
                     simp only at HTK HT2 HN6 ST6 ⊢
                     clear hp))
              all_goals
                have HAX : Hid (Appd (w6.alloc (.cells #[.int .i64 (pp : Nat), .int .i64 (nn : Nat)] 99 (0, 0))) w9 (wo.heap.size + 1) 99 2 (.slice at' accT.length ct) (.slice na (accT.length + 1) nc) (accT.length + 1) (cT.flatten ++ [.int .i64 (pp : Nat), .int .i64 (nn : Nat)])) := HAD
                have ST9 := hid (((ST6.out.alloc (.cells #[.int .i64 (pp : Nat), .int .i64 (nn : Nat)] 99 (0, 0))).grown HAX.out.grown (fun g hg => by have := ((HOWT.out (.cells #[] 0 (0, 0))).lt g hg).1; have := HGW.out; omega)).far ((Below.refl _ w9).setCell (p := ⟨wo.heap.size, 0, none⟩) HGW.out (.slice na (accT.length + 1) nc)))
                have HGA : Hid ((w9.setCell ⟨wo.heap.size, 0, none⟩ (.slice na (accT.length + 1) nc)).heap[wo.heap.size]? = some (.cells #[.slice na (accT.length + 1) nc, .string ByteArray.empty] 43 (0, 0))) := hid (block_set HG9.out _)
                have HRA : Hid (Rws (w9.setCell ⟨wo.heap.size, 0, none⟩ (.slice na (accT.length + 1) nc)) (wo.heap.size + 1) 99 2 (fun _ => tickRd) (.slice na (accT.length + 1) nc) (accT ++ [⟨(pp : Nat), (nn : Nat)⟩]) (cT ++ [[.int .i64 (pp : Nat), .int .i64 (nn : Nat)]])) := hid
                  (((HR6.out.keep (fun _ h => h) fun b _ hl => Below.heap_alloc _ _ _ hl).push (fun _ h => h) HAX.out rfl rfl rfl ⟨rfl, by have := HT1.out; unfold I64; simp only; omega, by have := HT2.out; unfold I64; simp only; omega⟩).keep (fun _ h => h) fun b hb _ => Below.heap_setCell _ _ _ _ (by show b ≠ wo.heap.size; omega))
                have HFA : Hid (∀ b, w.heap.size + 3 ≤ b → b < wo.heap.size → (w9.setCell ⟨wo.heap.size, 0, none⟩ (.slice na (accT.length + 1) nc)).heap[b]? = wo.heap[b]?) := hid fun b h1 h2 =>
                  (Below.heap_setCell _ _ _ _ (by show b ≠ wo.heap.size; omega)).trans ((HAX.out.grown.block b (by have := block_lt HG6.out; simp; omega) (fun e => by have := (HR6.out.own.lt b e.symm).1; omega)).trans ((Below.heap_alloc _ _ _ (by have := block_lt HG6.out; omega)).trans (HF6.out b h1 h2)))
                have HLT3 : Hid (LoopAt RT rdTick (accT ++ [⟨(pp : Nat), (nn : Nat)⟩]) (kk - 1) s7) := hid (by have := HLT2.out; rw [HTK.out] at this; exact this)
                have HNA : Hid ((accT ++ [(⟨(pp : Nat), (nn : Nat)⟩ : Tk)]).length + (kk - 1) ≤ 1000000000 ∧ s7.data.length ≤ 1000000000) := hid (by have := HNT.out; have := HN6.out; have := HKK.out; simp; omega)
                have HLV : Hid ((accT ++ [(⟨(pp : Nat), (nn : Nat)⟩ : Tk)]).length = accT.length + 1) := hid (by simp)
                clear HAD kv0 zv0 ka0 za0 kb0 y0 y2
                go_wp2_with fail
                have hw1 : wrap64 ((kk : Int) - 1) = ((kk - 1 : Nat) : Int) := by rw [IntWalk.wrap64_in _ (by have := HNT.out; omega)]; omega
                go_roundw
                case rel => exact ⟨kk - 1, s7, _, accT ++ [⟨(pp : Nat), (nn : Nat)⟩], _, by rw [hw1], ST9, HGA, HRA, HFA, HLT3, HNA⟩
                case measure => simp [intOf, hw1]; omega
            · have heb5 : (s5.err == 0) = false := by simpa using he5
              have HE5 := hid he5
              clear he5
              have HEX : Hid (RT = (accT, s5)) := hid (HLT.out.endE HE5.out)
              have HNM : Hid ((rdEntry s2) = (⟨accT, (rdText s5).1⟩, (rdText s5).2)) := hid (by rw [HRY.out, HEX.out])
              go_wp2_with fail
              have HOX := hid STT.out.rd
              refine (rText_any B rv s5 _ HOX.out HNT.out.2).mono ?_
              rintro e w7 ⟨rfl, hp⟩
              have ST7 := hid (STT.out.call hp)
              have HX7 : Hid ((rdText s5).1.size ≤ maxLen) := hid (by have := rdText_le STT.out.ok; have := HNT.out.2; unfold maxLen; omega)
              have HNX7 : Hid ((rdText s5).2.data.length ≤ 1000000000) := hid (by have := HOX.out.len hp.1; have := HNT.out.2; omega)
              have HG7 : Hid (w7.heap[wo.heap.size]? = some (.cells #[.slice at' accT.length ct, .string ByteArray.empty] 43 (0, 0))) := hid ((hp.2.block _ (block_lt HGT.out) (by have := STT.out.lt; have := HGW.out; omega)).trans HGT.out)
              have HRT7 : Hid (Rws w7 (wo.heap.size + 1) 99 2 (fun _ => tickRd) (.slice at' accT.length ct) accT cT) := hid (HRT.out.keep (fun _ h => h) fun b hb hl => hp.2.block b hl (by have := STT.out.lt; have := HGW.out; omega))
              have HFR7 : Hid (∀ b, w.heap.size + 3 ≤ b → b < wo.heap.size → w7.heap[b]? = wo.heap[b]?) := hid fun b h1 h2 => (hp.2.block b (by have := block_lt HGT.out; omega) (by have := STT.out.lt; omega)).trans (HFR.out b h1 h2)
              generalize rdText s5 = q at HNM HX7 HNX7 hp ST7 ⊢
              obtain ⟨nm, s7⟩ := q
              simp only at HNM HX7 HNX7 ST7 ⊢
              clear hp
              have y0 := cell_at_block (i := 0) HG7.out
              have y1 := cell_at_block (i := 1) HG7.out
              have y2 := free_at_block (i := 1) HG7.out
              have k73 := ST7.out.cellV 3
              simp only [List.getElem?_toArray, List.getElem?_cons_zero, List.getElem?_cons_succ] at y0 y1 k73
              have hne1 : wo.heap.size ≠ w.heap.size + 1 + 1 := by have := HGW.out; omega
              have hne2 : w.heap.size + 1 + 1 ≠ wo.heap.size := by have := HGW.out; omega
              have HG8 : Hid ((w7.setCell ⟨wo.heap.size, 1, none⟩ (.string nm)).heap[wo.heap.size]? = some (.cells #[.slice at' accT.length ct, .string nm] 43 (0, 0))) := hid (block_set HG7.out _)
              have ST8 : Hid (RdSt w (w7.setCell ⟨wo.heap.size, 1, none⟩ (.string nm)) B rv s7 #[.int .i64 9, .int .i64 lo, .int .i64 hi', vn, vp, vr] (.int .i64 0) (.slice none 0 0) (.slice none 0 0) (.slice ae acc.length ce)) := hid (ST7.out.far ((Below.refl _ _).setCell (by show w.heap.size + 3 ≤ wo.heap.size; exact HGW.out) _))
              have HRE8 : Hid (Rws (w7.setCell ⟨wo.heap.size, 1, none⟩ (.string nm)) (w.heap.size + 3) 43 2 entryRd (.slice ae acc.length ce) acc cE) := hid (Rws.frame HRE.out entryRd_mono' (fun b h1 h2 => (Below.heap_setCell _ _ _ _ (by show b ≠ wo.heap.size; omega)).trans (HFR7.out b h1 h2)))
              have HRT8 : Hid (Rws (w7.setCell ⟨wo.heap.size, 1, none⟩ (.string nm)) (wo.heap.size + 1) 99 2 (fun _ => tickRd) (.slice at' accT.length ct) accT cT) := hid (HRT7.out.keep (fun _ h => h) fun b hb _ => Below.heap_setCell _ _ _ _ (by show b ≠ wo.heap.size; omega))
              have HSZ8 : Hid (wo.heap.size < (w7.setCell ⟨wo.heap.size, 1, none⟩ (.string nm)).heap.size) := hid (block_lt HG8.out)
              have HOWE : Hid (∀ O, ((w7.setCell ⟨wo.heap.size, 1, none⟩ (.string nm)).alloc O).ownsRow (w.heap.size + 3) 43 2 (.slice ae acc.length ce) acc.length cE.flatten) := hid fun O => owns_below HRE8.out.own ((Below.refl _ _).alloc (Nat.le_refl _) O)
              have HBV : Hid (∀ O, w.heap.size + 3 ≤ ((w7.setCell ⟨wo.heap.size, 1, none⟩ (.string nm)).alloc O).heap.size) := hid fun O => (ST8.out.alloc O).big
              have HSRC : Hid (Src ((w7.setCell ⟨wo.heap.size, 1, none⟩ (.string nm)).alloc (.cells #[.slice at' accT.length ct, .string nm] 43 (0, 0))) 2 (.slice (some ⟨w7.heap.size, 0, none⟩) 1 1) 1 [.slice at' accT.length ct, .string nm]) := hid (by
                have h0 : (w7.setCell ⟨wo.heap.size, 1, none⟩ (.string nm)).heap.size = w7.heap.size := by simp [World.setCell]
                have h1 := heap_alloc_new (w7.setCell ⟨wo.heap.size, 1, none⟩ (.string nm)) (.cells #[.slice at' accT.length ct, .string nm] 43 (0, 0))
                rw [h0] at h1
                exact Src.of_block (cs := #[.slice at' accT.length ct, .string nm]) h1 2 1 1 rfl (by simp [Value.oneCell']))
              have HEW : Hid (∀ g, (Value.slice ae acc.length ce).ownBlock = some g → g < wo.heap.size) := hid fun g hg => (HRE.out.own.lt g hg).2
              have k83 := ST8.out.cellV 3
              have k83a := fun O => (ST8.out.alloc O).cellV 3
              have z83a := fun O => (ST8.out.alloc O).freeV 3
              have y8 := cell_at_block (i := 0) HG8.out
              have y9 := cell_at_block (i := 1) HG8.out
              simp only [List.getElem?_toArray, List.getElem?_cons_zero, List.getElem?_cons_succ] at y8 y9 k83 k83a
              go_wp2_with (at_builtin; refine wpList_append rfl (.tmp 129) (.tmp 131) 28 rfl (w.heap.size + 3) 43 2 40 Tryz.underlying28 hj0 hy0 hy1 hy2 rfl (by decide) (.slice ae acc.length ce) acc.length cE.flatten rfl (HOWE.out _) _ 1 [.slice at' accT.length ct, .string nm] rfl HSRC.out (acc.length + 1) rfl _ rfl HMX.out.1 HMX.out.2 (HBV.out _) ?_; intro na nc w9 had; have HAD := hid had; have ST9 : Hid (RdSt w w9 B rv s7 #[.int .i64 9, .int .i64 lo, .int .i64 hi', vn, vp, vr] (.int .i64 0) (.slice none 0 0) (.slice none 0 0) (.slice ae acc.length ce)) := hid ((ST8.out.alloc _).grown had.grown (fun g hg => ((HOWE.out (.cells #[] 0 (0, 0))).lt g hg).1)); have kv3 := ST9.out.cellV 3; have zv3 := ST9.out.freeV 3; simp only [List.getElem?_toArray, List.getElem?_cons_zero, List.getElem?_cons_succ] at kv3; clear had)
              have STA := hid (ST9.out.set 3 (.slice na (acc.length + 1) nc) (n' := .int .i64 0) rfl)
              have HRA : Hid (Rws (w9.setCell ⟨w.heap.size + 1 + 1, 3, none⟩ (.slice na (acc.length + 1) nc)) (w.heap.size + 3) 43 2 entryRd (.slice na (acc.length + 1) nc) (acc ++ [⟨accT, nm⟩]) (cE ++ [[.slice at' accT.length ct, .string nm]])) := hid
                (((HRE8.out.keep entryRd_mono' fun b _ hl => Below.heap_alloc _ _ _ hl).push entryRd_mono' HAD.out rfl rfl rfl (entryRd_mono' (only_keep fun b hb hl => by
                    have hb' := of_decide_eq_true hb
                    refine ⟨?_, Below.heap_alloc _ _ _ hl⟩
                    unfold butOwn
                    simp only [Bool.and_eq_true, decide_eq_true_eq]
                    refine ⟨by have := HGW.out; omega, fun e => ?_⟩
                    have := HEW.out b e; omega) (⟨_, rfl, HRT8.out.reads fun _ h => h, HX7.out⟩ : entryRd (only (from_ (wo.heap.size + 1)) (w7.setCell ⟨wo.heap.size, 1, none⟩ (.string nm))) ⟨accT, nm⟩ [.slice at' accT.length ct, .string nm]))).keep entryRd_mono' fun b hb _ => Below.heap_setCell _ _ _ _ (by show b ≠ w.heap.size + 1 + 1; omega))
              have HLS2 : Hid (LoopAt RL rdEntry (acc ++ [⟨accT, nm⟩]) (k - 1) s7) := hid (by have := HLS.out; rw [HNM.out] at this; exact this)
              have HNA : Hid ((acc ++ [(⟨accT, nm⟩ : En)]).length + (k - 1) ≤ 1000000000 ∧ s7.data.length ≤ 1000000000) := hid (by have := HNW.out; have := HNX7.out; have := HK.out; simp; omega)
              have HLV : Hid ((acc ++ [(⟨accT, nm⟩ : En)]).length = acc.length + 1) := hid (by simp)
              clear y0 y1 y2 k73 k83 k83a z83a y8 y9 kv3 zv3
              go_wp2_with fail
              have hw1 : wrap64 ((k : Int) - 1) = ((k - 1 : Nat) : Int) := by rw [IntWalk.wrap64_in _ (by have := HNW.out; omega)]; omega
              go_roundw
              case rel => exact ⟨k - 1, s7, _, acc ++ [⟨accT, nm⟩], _, by rw [hw1], STA, HRA, HLS2, HNA⟩
              case measure => simp [intOf, hw1]; omega


      · have heb : (s2.err == 0) = false := by simpa using he
        have HE := hid (HLW.out.endE he)
        clear he
        go_wp2_with fail
        refine bodyPost_ret (v := .agg #[.int .i64 0, .slice none 0 0, .slice none 0 0, .slice ae acc.length ce]) (by simp [results, Tryz.results54, go_sem, kw0, kw1, kw2, kw3, rw0, rw1, rw2, rw3, ew0, ew1, ew2, ew3]) rfl (HFIN.out _ _ _ _ HE.out)
end Go.Proofs.YtmdjnaobllajmaaGreatDoor

/- The walk of value.read, whole; value.Decode. -/
namespace Go.Proofs.YtmdjnaobllajmaaGreatDoor
open Go.RowKit

theorem read_any (f : Nat) : ∀ (l : Lat) (B : Nat) (rv : Value) (s : RS) (cs : List Value) (w : World), SizeOf.sizeOf l ≤ f → WfL l → RdAt w B rv s → s.data.length ≤ 1000000000 → latRd (only (notB B) w) l cs →
    Calls Tryz.prog 54 #[.pointer (some ⟨B, 0, none⟩), .agg cs.toArray] w (ReadPost B rv w (readV l s)) := by
  induction f with
  | zero => intro l _ _ _ _ _ hn; cases l; simp at hn
  | succ f ih =>
    intro l B rv s cs w hn hwf h hl hr
    have hk := hwf.kinds
    have hp : ∀ p ∈ l.parts, SizeOf.sizeOf p ≤ f := fun p hp => by have := sizeOf_part hp; omega
    have IH : ∀ p ∈ l.parts, ∀ (s : RS) (cs : List Value) (w : World), RdAt w B rv s → s.data.length ≤ 1000000000 → latRd (only (notB B) w) p cs → Calls Tryz.prog 54 #[.pointer (some ⟨B, 0, none⟩), .agg cs.toArray] w (ReadPost B rv w (readV p s)) :=
      fun p hpm s cs w => ih p B rv s cs w (hp p hpm) (hwf.part hpm)
    rcases (by omega : l.kind = 1 ∨ l.kind = 2 ∨ l.kind = 3 ∨ l.kind = 4 ∨ l.kind = 5 ∨ l.kind = 6 ∨ l.kind = 7 ∨ l.kind = 8 ∨ l.kind = 9 ∨ l.kind = 10) with e | e | e | e | e | e | e | e | e | e
    · exact read_flag l B rv s cs w h hl hr e
    · exact read_max l B rv s cs w h hl hr e
    · exact read_min l B rv s cs w h hl hr e
    · exact read_set4 l B rv s cs w h hl hr e
    · obtain ⟨p, hp1⟩ := List.length_eq_one_iff.1 (hk.2.1 e)
      exact read_map l p B rv s cs w h hl hr e hp1 (IH p (by rw [hp1]; exact List.mem_singleton.2 rfl))
    · exact read_prod6 l B rv s cs w h hl hr e (by omega) IH
    · exact read_prod7 l B rv s cs w h hl hr e (by omega) IH
    · exact read_flat l B rv s cs w h hl hr e
    · exact read_reg l B rv s cs w h hl hr e
    · exact read_set10 l B rv s cs w h hl hr e
end Go.Proofs.YtmdjnaobllajmaaGreatDoor

/- The walks of value.Bottom, value.IsBottom. -/
namespace Go.Proofs.YtmdjnaobllajmaaGreatDoor
open Go.RowKit

/-- A value by new blocks, and an error. -/
def ValEPost (w : World) (x : Val × Int) (e : Ending) (w' : World) : Prop := ∃ cs, e = .returned (.tuple #[.agg cs.toArray, .int .i64 x.2]) ∧ valRd (only (from_ w.heap.size) w') x.1 cs ∧ Below w.heap.size w w'
def bottomE (l : Lat) : Val × Int := if chkE l = 0 then (botV l, 0) else (zeroV, 1)
def isBotB (l : Lat) (v : Val) : Bool := decide (chkE l = 0) && decide (valC v (botV l) = 0)
theorem zeroV_rd (w : World) : valRd w zeroV [.int .i64 0, .slice none 0 0, .slice none 0 0, .slice none 0 0] := valRd_flat w 0 i64_0
theorem below_sets {w w' : World} {B b : Nat} (h : Below B w w') (hb : B ≤ b) (x y z u : Value) : Below B w ((((w'.setCell ⟨b, 0, none⟩ x).setCell ⟨b, 1, none⟩ y).setCell ⟨b, 2, none⟩ z).setCell ⟨b, 3, none⟩ u) := (((h.setCell hb _).setCell hb _).setCell hb _).setCell hb _
theorem sub_sets (w : World) (b n : Nat) (hb : b < n) (x y z u : Value) : Sub (only (from_ n) w) (only (from_ n) ((((w.setCell ⟨b, 0, none⟩ x).setCell ⟨b, 1, none⟩ y).setCell ⟨b, 2, none⟩ z).setCell ⟨b, 3, none⟩ u)) := only_keep fun g hg _ => by
  have hg' := of_decide_eq_true hg
  refine ⟨hg, ?_⟩
  rw [Below.heap_setCell _ _ _ _ (by show g ≠ b; omega), Below.heap_setCell _ _ _ _ (by show g ≠ b; omega), Below.heap_setCell _ _ _ _ (by show g ≠ b; omega), Below.heap_setCell _ _ _ _ (by show g ≠ b; omega)]
theorem only_from_mono {n m : Nat} (w : World) (h : n ≤ m) : Sub (only (from_ m) w) (only (from_ n) w) := only_keep fun g hg _ => ⟨decide_eq_true (by have := of_decide_eq_true hg; omega), rfl⟩

set_option maxRecDepth 100000 in
set_option maxHeartbeats 4000000 in
theorem Bottom_any (l : Lat) (cl : List Value) (w : World) (hl : latRd w l cl) : Calls Tryz.prog 33 #[.agg cl.toArray] w (ValEPost w (bottomE l)) := by
  have HC : Hid (∀ W, Below w.heap.size w W → Calls Tryz.prog 36 #[.agg cl.toArray] W fun e w' => e = .returned (.int .i64 (chkE l)) ∧ Below W.heap.size W w') := hid fun W h => check_any l cl W (latRd.below h _ _ hl)
  have HBO : Hid (chkE l = 0 → ∀ W, Below w.heap.size w W → Calls Tryz.prog 61 #[.agg cl.toArray] W (ValPost W (botV l))) := hid fun h0 W h => bottom_any _ l cl W (Nat.le_refl _) (latRd.below h _ _ hl) (chkE_wf h0)
  have HE : Hid (bottomE l = if chkE l = 0 then (botV l, 0) else (zeroV, 1)) := hid rfl
  generalize bottomE l = R at HE ⊢
  generalize chkE l = E at HC HBO HE
  obtain ⟨vln, vlp, vlr, rfl, hli, hln, hlp, hlr⟩ := (latRd_iff _ _ _).1 hl
  obtain ⟨aln, cln, rfl, _, mln⟩ := hln.shape
  obtain ⟨alp, clp, rfl, _, mlp⟩ := hlp.shape
  obtain ⟨alr, clr, rfl, _, mlr⟩ := hlr.shape
  clear hl hli hln hlp hlr
  have HB : Hid (Below w.heap.size w ((w.alloc (.cells #[.int .i64 l.kind, .int .i64 l.lo, .int .i64 l.hi, .slice aln l.names.length cln, .slice alp l.parts.length clp, .slice alr l.rules.length clr] 26)).alloc (.cells #[.int .i64 0, .slice none 0 0, .slice none 0 0, .slice none 0 0] 30))) := hid (((Below.refl _ _).alloc (Nat.le_refl _) _).alloc (by simp) _)
  have HX : Hid (∀ w', Below (w.heap.size + 2) ((w.alloc (.cells #[.int .i64 l.kind, .int .i64 l.lo, .int .i64 l.hi, .slice aln l.names.length cln, .slice alp l.parts.length clp, .slice alr l.rules.length clr] 26)).alloc (.cells #[.int .i64 0, .slice none 0 0, .slice none 0 0, .slice none 0 0] 30)) w' → (∀ (i : Nat) v, #[.int .i64 l.kind, .int .i64 l.lo, .int .i64 l.hi, .slice aln l.names.length cln, .slice alp l.parts.length clp, .slice alr l.rules.length clr][i]? = some v → w'.cell? ⟨w.heap.size, i, none⟩ = some v) ∧ w'.heap[w.heap.size + 1]? = some (.cells #[.int .i64 0, .slice none 0 0, .slice none 0 0, .slice none 0 0] 30 (0, 0))) := hid fun w' h => ⟨(two_boxes w #[.int .i64 l.kind, .int .i64 l.lo, .int .i64 l.hi, .slice aln l.names.length cln, .slice alp l.parts.length clp, .slice alr l.rules.length clr] #[.int .i64 0, .slice none 0 0, .slice none 0 0, .slice none 0 0] 26 30 h).1, (h.block _ (by omega)).trans (heap_new_at _ _ _ (by simp))⟩
  go_enter Tryz.func33, Tryz.ntmps33
  go_wp2_with fail
  have HSZ : Hid (((w.alloc (.cells #[.int .i64 l.kind, .int .i64 l.lo, .int .i64 l.hi, .slice aln l.names.length cln, .slice alp l.parts.length clp, .slice alr l.rules.length clr] 26)).alloc (.cells #[.int .i64 0, .slice none 0 0, .slice none 0 0, .slice none 0 0] 30)).heap.size = w.heap.size + 2) := hid (by simp)
  generalize (w.alloc (.cells #[.int .i64 l.kind, .int .i64 l.lo, .int .i64 l.hi, .slice aln l.names.length cln, .slice alp l.parts.length clp, .slice alr l.rules.length clr] 26)).alloc (.cells #[.int .i64 0, .slice none 0 0, .slice none 0 0, .slice none 0 0] 30) = W2 at HB HX HSZ ⊢
  refine (HC.out _ HB.out).mono ?_
  rintro e w1 ⟨rfl, hb1⟩
  have HB1 : Hid (Below (w.heap.size + 2) W2 w1) := hid (hb1.mono (Nat.le_of_eq HSZ.out.symm))
  clear hb1
  have f0 : w1.cell? ⟨w.heap.size, 0, none⟩ = some (.int .i64 l.kind) := (HX.out _ HB1.out).1 0 _ rfl
  have f1 : w1.cell? ⟨w.heap.size, 1, none⟩ = some (.int .i64 l.lo) := (HX.out _ HB1.out).1 1 _ rfl
  have f2 : w1.cell? ⟨w.heap.size, 2, none⟩ = some (.int .i64 l.hi) := (HX.out _ HB1.out).1 2 _ rfl
  have f3 : w1.cell? ⟨w.heap.size, 3, none⟩ = some (.slice aln l.names.length cln) := (HX.out _ HB1.out).1 3 _ rfl
  have f4 : w1.cell? ⟨w.heap.size, 4, none⟩ = some (.slice alp l.parts.length clp) := (HX.out _ HB1.out).1 4 _ rfl
  have f5 : w1.cell? ⟨w.heap.size, 5, none⟩ = some (.slice alr l.rules.length clr) := (HX.out _ HB1.out).1 5 _ rfl
  have HRES := hid (HX.out _ HB1.out).2
  have r0 : w1.cell? ⟨w.heap.size + 1, 0, none⟩ = some (.int .i64 0) := cell_at_block HRES.out
  have e0 : w1.frozen? ⟨w.heap.size + 1, 0, none⟩ = false := free_at_block HRES.out
  have r1 : w1.cell? ⟨w.heap.size + 1, 1, none⟩ = some (.slice none 0 0) := cell_at_block HRES.out
  have e1 : w1.frozen? ⟨w.heap.size + 1, 1, none⟩ = false := free_at_block HRES.out
  have r2 : w1.cell? ⟨w.heap.size + 1, 2, none⟩ = some (.slice none 0 0) := cell_at_block HRES.out
  have e2 : w1.frozen? ⟨w.heap.size + 1, 2, none⟩ = false := free_at_block HRES.out
  have r3 : w1.cell? ⟨w.heap.size + 1, 3, none⟩ = some (.slice none 0 0) := cell_at_block HRES.out
  have e3 : w1.frozen? ⟨w.heap.size + 1, 3, none⟩ = false := free_at_block HRES.out
  by_cases hE : E = 0
  · have HR : Hid (R = (botV l, 0)) := hid (by rw [HE.out, if_pos hE])
    have HBO2 := hid (HBO.out hE)
    subst hE
    clear HC HBO HE
    go_wp2_with fail
    refine (HBO2.out _ (HB.out.trans (HB1.out.mono (by omega)))).mono ?_
    rintro e w2 ⟨cs, rfl, hv, hb2⟩
    have HV := hid hv
    have HB2 : Hid (Below (w.heap.size + 2) W2 w2) := hid (HB1.out.trans (hb2.mono (by have := HB1.out.size; have := HSZ.out; omega)))
    obtain ⟨uxn, uxp, uxe, rfl, gxi, gxn, gxp, gxe⟩ := (valRd_iff _ _ _).1 hv
    obtain ⟨bxn, dxn, rfl, _, nxn⟩ := gxn.shape
    obtain ⟨bxp, dxp, rfl, _, nxp⟩ := gxp.shape
    obtain ⟨bxe, dxe, rfl, _, nxe⟩ := gxe.shape
    clear hv hb2 gxn gxp gxe r0 r1 r2 r3 e0 e1 e2 e3
    have HRES2 := hid (HX.out _ HB2.out).2
    have r0 : w2.cell? ⟨w.heap.size + 1, 0, none⟩ = some (.int .i64 0) := cell_at_block HRES2.out
    have e0 : w2.frozen? ⟨w.heap.size + 1, 0, none⟩ = false := free_at_block HRES2.out
    have r1 : w2.cell? ⟨w.heap.size + 1, 1, none⟩ = some (.slice none 0 0) := cell_at_block HRES2.out
    have e1 : w2.frozen? ⟨w.heap.size + 1, 1, none⟩ = false := free_at_block HRES2.out
    have r2 : w2.cell? ⟨w.heap.size + 1, 2, none⟩ = some (.slice none 0 0) := cell_at_block HRES2.out
    have e2 : w2.frozen? ⟨w.heap.size + 1, 2, none⟩ = false := free_at_block HRES2.out
    have r3 : w2.cell? ⟨w.heap.size + 1, 3, none⟩ = some (.slice none 0 0) := cell_at_block HRES2.out
    have e3 : w2.frozen? ⟨w.heap.size + 1, 3, none⟩ = false := free_at_block HRES2.out
    have HBF := hid (below_sets (b := w.heap.size + 1) (HB.out.trans (HB2.out.mono (by omega))) (by omega) (.int .i64 (botV l).n) (.slice bxn (botV l).names.length dxn) (.slice bxp (botV l).parts.length dxp) (.slice bxe (botV l).entries.length dxe))
    have HLE : Hid (w.heap.size + 2 ≤ w1.heap.size) := hid (by have := HB1.out.size; have := HSZ.out; omega)
    go_wp2_with fail
    refine bodyPost_ret (v := .tuple #[.agg #[.int .i64 (botV l).n, .slice bxn (botV l).names.length dxn, .slice bxp (botV l).parts.length dxp, .slice bxe (botV l).entries.length dxe], .int .i64 0]) (by simp [results, Tryz.results33, go_sem, r0, r1, r2, r3, e0, e1, e2, e3]) rfl ?_
    rw [HR.out]
    exact ⟨[_, _, _, _], rfl, valRd_mono' ((sub_sets w2 (w.heap.size + 1) w1.heap.size (by have := HLE.out; omega) _ _ _ _).trans (only_from_mono _ (by have := HLE.out; omega))) HV.out, HBF.out⟩
  · have hEb : (E != 0) = true := by simpa using hE
    have HR : Hid (R = (zeroV, 1)) := hid (by rw [HE.out, if_neg hE])
    clear hE HC HBO HE
    have HBF := hid (below_sets (b := w.heap.size + 1) (HB.out.trans (HB1.out.mono (by omega))) (by omega) (.int .i64 0) (.slice none 0 0) (.slice none 0 0) (.slice none 0 0))
    go_wp2_with fail
    refine bodyPost_ret (v := .tuple #[.agg #[.int .i64 0, .slice none 0 0, .slice none 0 0, .slice none 0 0], .int .i64 1]) (by simp [results, Tryz.results33, go_sem, r0, r1, r2, r3, e0, e1, e2, e3]) rfl ?_
    rw [HR.out]
    exact ⟨_, rfl, zeroV_rd _, HBF.out⟩

set_option maxRecDepth 100000 in
set_option maxHeartbeats 4000000 in
theorem isBottom_any (l : Lat) (v : Val) (cl cv : List Value) (w : World) (hl : latRd w l cl) (hv : valRd w v cv) :
    Calls Tryz.prog 32 #[.agg cl.toArray, .agg cv.toArray] w fun e w' => e = .returned (.bool (isBotB l v)) ∧ Below w.heap.size w w' := by
  have HC : Hid (∀ W, Below w.heap.size w W → Calls Tryz.prog 36 #[.agg cl.toArray] W fun e w' => e = .returned (.int .i64 (chkE l)) ∧ Below W.heap.size W w') := hid fun W h => check_any l cl W (latRd.below h _ _ hl)
  have HBO : Hid (chkE l = 0 → ∀ W, Below w.heap.size w W → Calls Tryz.prog 61 #[.agg cl.toArray] W (ValPost W (botV l))) := hid fun h0 W h => bottom_any _ l cl W (Nat.le_refl _) (latRd.below h _ _ hl) (chkE_wf h0)
  have HEQ : Hid (∀ (W : World) (cs : List Value), Below w.heap.size w W → valRd W (botV l) cs → Calls Tryz.prog 22 #[.agg cv.toArray, .agg cs.toArray] W fun e w' => e = .returned (.bool (decide (valC v (botV l) = 0))) ∧ Below W.heap.size W w') := hid fun W cs h hc => equal_any v (botV l) cv cs W (valRd.below h _ _ hv) hc
  have HE : Hid (isBotB l v = (decide (chkE l = 0) && decide (valC v (botV l) = 0))) := hid rfl
  generalize isBotB l v = R at HE ⊢
  generalize decide (valC v (botV l) = 0) = D at HEQ HE
  generalize chkE l = E at HC HBO HE
  obtain ⟨vln, vlp, vlr, rfl, hli, hln, hlp, hlr⟩ := (latRd_iff _ _ _).1 hl
  obtain ⟨aln, cln, rfl, _, mln⟩ := hln.shape
  obtain ⟨alp, clp, rfl, _, mlp⟩ := hlp.shape
  obtain ⟨alr, clr, rfl, _, mlr⟩ := hlr.shape
  obtain ⟨uvn, uvp, uve, rfl, gvi, gvn, gvp, gve⟩ := (valRd_iff _ _ _).1 hv
  obtain ⟨bvn, dvn, rfl, _, nvn⟩ := gvn.shape
  obtain ⟨bvp, dvp, rfl, _, nvp⟩ := gvp.shape
  obtain ⟨bve, dve, rfl, _, nve⟩ := gve.shape
  clear hl hli hln hlp hlr hv gvi gvn gvp gve
  have HB : Hid (∀ x : Ext ((w.alloc (.cells #[.int .i64 l.kind, .int .i64 l.lo, .int .i64 l.hi, .slice aln l.names.length cln, .slice alp l.parts.length clp, .slice alr l.rules.length clr] 26)).alloc (.cells #[.int .i64 v.n, .slice bvn v.names.length dvn, .slice bvp v.parts.length dvp, .slice bve v.entries.length dve] 30)), Below w.heap.size w x.1) := hid fun x => (((Below.refl _ _).alloc (Nat.le_refl _) _).alloc (by simp) _).trans (x.2.mono (by simp; omega))
  have HX : Hid (∀ x : Ext ((w.alloc (.cells #[.int .i64 l.kind, .int .i64 l.lo, .int .i64 l.hi, .slice aln l.names.length cln, .slice alp l.parts.length clp, .slice alr l.rules.length clr] 26)).alloc (.cells #[.int .i64 v.n, .slice bvn v.names.length dvn, .slice bvp v.parts.length dvp, .slice bve v.entries.length dve] 30)), (∀ (i : Nat) q, #[.int .i64 l.kind, .int .i64 l.lo, .int .i64 l.hi, .slice aln l.names.length cln, .slice alp l.parts.length clp, .slice alr l.rules.length clr][i]? = some q → x.1.cell? ⟨w.heap.size, i, none⟩ = some q) ∧ (∀ (i : Nat) q, #[.int .i64 v.n, .slice bvn v.names.length dvn, .slice bvp v.parts.length dvp, .slice bve v.entries.length dve][i]? = some q → x.1.cell? ⟨w.heap.size + 1, i, none⟩ = some q)) :=
    hid fun x => two_boxes w #[.int .i64 l.kind, .int .i64 l.lo, .int .i64 l.hi, .slice aln l.names.length cln, .slice alp l.parts.length clp, .slice alr l.rules.length clr] #[.int .i64 v.n, .slice bvn v.names.length dvn, .slice bvp v.parts.length dvp, .slice bve v.entries.length dve] 26 30 (x.2.mono (by simp))
  go_enter Tryz.func32, Tryz.ntmps32
  go_wp2_with fail
  generalize (w.alloc (.cells #[.int .i64 l.kind, .int .i64 l.lo, .int .i64 l.hi, .slice aln l.names.length cln, .slice alp l.parts.length clp, .slice alr l.rules.length clr] 26)).alloc (.cells #[.int .i64 v.n, .slice bvn v.names.length dvn, .slice bvp v.parts.length dvp, .slice bve v.entries.length dve] 30) = W2 at HB HX ⊢
  by_cases hE : E = 0
  · have HBO2 := hid (HBO.out hE)
    have HC2 : Hid (∀ W, Below w.heap.size w W → Calls Tryz.prog 36 #[.agg #[.int .i64 l.kind, .int .i64 l.lo, .int .i64 l.hi, .slice aln l.names.length cln, .slice alp l.parts.length clp, .slice alr l.rules.length clr]] W fun e w' => e = .returned (.int .i64 0) ∧ Below W.heap.size W w') := hid (by subst hE; exact HC.out)
    have HR : Hid (R = D) := hid (by rw [HE.out, decide_eq_true hE]; rfl)
    have HS : Hid (∀ x : Ext W2, x.1.cell? ⟨w.heap.size, 0, none⟩ = some (.int .i64 l.kind) ∧ x.1.cell? ⟨w.heap.size, 1, none⟩ = some (.int .i64 l.lo) ∧ x.1.cell? ⟨w.heap.size, 2, none⟩ = some (.int .i64 l.hi) ∧ x.1.cell? ⟨w.heap.size, 3, none⟩ = some (.slice aln l.names.length cln) ∧ x.1.cell? ⟨w.heap.size, 4, none⟩ = some (.slice alp l.parts.length clp) ∧ x.1.cell? ⟨w.heap.size, 5, none⟩ = some (.slice alr l.rules.length clr) ∧ x.1.cell? ⟨w.heap.size + 1, 0, none⟩ = some (.int .i64 v.n) ∧ x.1.cell? ⟨w.heap.size + 1, 1, none⟩ = some (.slice bvn v.names.length dvn) ∧ x.1.cell? ⟨w.heap.size + 1, 2, none⟩ = some (.slice bvp v.parts.length dvp) ∧ x.1.cell? ⟨w.heap.size + 1, 3, none⟩ = some (.slice bve v.entries.length dve)) := hid fun x => ⟨(HX.out x).1 0 _ rfl, (HX.out x).1 1 _ rfl, (HX.out x).1 2 _ rfl, (HX.out x).1 3 _ rfl, (HX.out x).1 4 _ rfl, (HX.out x).1 5 _ rfl, (HX.out x).2 0 _ rfl, (HX.out x).2 1 _ rfl, (HX.out x).2 2 _ rfl, (HX.out x).2 3 _ rfl⟩
    clear hE HBO HC HE
    first
      | (go_region_held3 (fun w' => w'.cell? ⟨w.heap.size, 0, none⟩ = some (.int .i64 l.kind) ∧ w'.cell? ⟨w.heap.size, 1, none⟩ = some (.int .i64 l.lo) ∧ w'.cell? ⟨w.heap.size, 2, none⟩ = some (.int .i64 l.hi) ∧ w'.cell? ⟨w.heap.size, 3, none⟩ = some (.slice aln l.names.length cln) ∧ w'.cell? ⟨w.heap.size, 4, none⟩ = some (.slice alp l.parts.length clp) ∧ w'.cell? ⟨w.heap.size, 5, none⟩ = some (.slice alr l.rules.length clr) ∧ w'.cell? ⟨w.heap.size + 1, 0, none⟩ = some (.int .i64 v.n) ∧ w'.cell? ⟨w.heap.size + 1, 1, none⟩ = some (.slice bvn v.names.length dvn) ∧ w'.cell? ⟨w.heap.size + 1, 2, none⟩ = some (.slice bvp v.parts.length dvp) ∧ w'.cell? ⟨w.heap.size + 1, 3, none⟩ = some (.slice bve v.entries.length dve))
          (first
            | exact HS.out ⟨_, (Below.refl _ _).drew⟩
            | exact HS.out ⟨_, HB7.out⟩
            | exact HS.out ⟨_, HB6.out⟩
            | exact HS.out ⟨_, HB5.out⟩
            | skip)
          (first
            | (go_at_call 36
               refine (HC2.out _ (HB.out ⟨_, (Below.refl _ _).drew⟩)).mono ?_
               rintro e w5 ⟨rfl, hb5⟩
               have HB5 : Hid (Below W2.heap.size W2 w5) := hid ((Below.refl _ _).drew.trans hb5)
               clear hb5)
            | (go_at_call 61
               refine (HBO2.out _ (HB.out ⟨_, HB5.out⟩)).mono ?_
               rintro e w6 ⟨cs6, rfl, hv6, hb6⟩
               have HV6 := hid (valRd_mono' (only_sub _ _) hv6)
               have HB6 : Hid (Below W2.heap.size W2 w6) := hid (HB5.out.trans (hb6.mono HB5.out.size))
               clear hb6 hv6)
            | (go_at_call 22
               refine (HEQ.out _ _ (HB.out ⟨_, HB6.out⟩) HV6.out).mono ?_
               rintro e w7 ⟨rfl, hb7⟩
               have HB7 : Hid (Below W2.heap.size W2 w7) := hid (HB6.out.trans (hb7.mono HB6.out.size))
               clear hb7)))
      | fail
    all_goals
      go_wp2_with fail
      go_ret
      exact ⟨ret_bool HR.out.symm, HB.out ⟨_, HB7.out⟩⟩
  · have hEb : (E == 0) = false := by simpa using hE
    have HR : Hid (R = false) := hid (by rw [HE.out, decide_eq_false hE]; rfl)
    have HC2 : Hid (∀ y : Ext W2, Calls Tryz.prog 36 #[.agg #[.int .i64 l.kind, .int .i64 l.lo, .int .i64 l.hi, .slice aln l.names.length cln, .slice alp l.parts.length clp, .slice alr l.rules.length clr]] y.1 fun e w' => e = .returned (.int .i64 E) ∧ ∃ z : Ext W2, w' = z.1) := hid fun y => ext_call y (HC.out _ (HB.out y))
    clear hE HBO HC HE HEQ
    have l0 : ∀ x : Ext W2, x.1.cell? ⟨w.heap.size, 0, none⟩ = some (.int .i64 l.kind) := fun x => (HX.out x).1 0 _ rfl
    have l1 : ∀ x : Ext W2, x.1.cell? ⟨w.heap.size, 1, none⟩ = some (.int .i64 l.lo) := fun x => (HX.out x).1 1 _ rfl
    have l2 : ∀ x : Ext W2, x.1.cell? ⟨w.heap.size, 2, none⟩ = some (.int .i64 l.hi) := fun x => (HX.out x).1 2 _ rfl
    have l3 : ∀ x : Ext W2, x.1.cell? ⟨w.heap.size, 3, none⟩ = some (.slice aln l.names.length cln) := fun x => (HX.out x).1 3 _ rfl
    have l4 : ∀ x : Ext W2, x.1.cell? ⟨w.heap.size, 4, none⟩ = some (.slice alp l.parts.length clp) := fun x => (HX.out x).1 4 _ rfl
    have l5 : ∀ x : Ext W2, x.1.cell? ⟨w.heap.size, 5, none⟩ = some (.slice alr l.rules.length clr) := fun x => (HX.out x).1 5 _ rfl
    have v0 : ∀ x : Ext W2, x.1.cell? ⟨w.heap.size + 1, 0, none⟩ = some (.int .i64 v.n) := fun x => (HX.out x).2 0 _ rfl
    have v1 : ∀ x : Ext W2, x.1.cell? ⟨w.heap.size + 1, 1, none⟩ = some (.slice bvn v.names.length dvn) := fun x => (HX.out x).2 1 _ rfl
    have v2 : ∀ x : Ext W2, x.1.cell? ⟨w.heap.size + 1, 2, none⟩ = some (.slice bvp v.parts.length dvp) := fun x => (HX.out x).2 2 _ rfl
    have v3 : ∀ x : Ext W2, x.1.cell? ⟨w.heap.size + 1, 3, none⟩ = some (.slice bve v.entries.length dve) := fun x => (HX.out x).2 3 _ rfl
    refine wp_region_ext (by kernel_rfl) (by kernel_rfl) ?_
    repeat (go_big_quiet_step ((go_at_call 36; exact HC2.out _)))
    refine wpQuiet_nil ?_
    rintro _ ⟨z, rfl⟩
    go_wp2_with fail
    go_ret
    exact ⟨ret_bool HR.out.symm, HB.out _⟩
end Go.Proofs.YtmdjnaobllajmaaGreatDoor

