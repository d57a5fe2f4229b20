/-
  What the statements of the chapter share, part 14: VRead5, VRead6, VRead7, VRead8, VRead9.
-/
import Derived.Test.YtmdjnaobllajmaaGreatDoorT08
import Derived.Test.YtmdjnaobllajmaaGreatDoorT13
set_option linter.unusedVariables false
set_option linter.unusedSimpArgs false
set_option maxRecDepth 100000
set_option maxHeartbeats 8000000
namespace Go.Proofs.YtmdjnaobllajmaaGreatDoor
open Go.RowKit
theorem read_map (l p : Lat) (B : Nat) (rv : Value) (s : RS) (cs : List Value) (w : World) (h : RdAt w B rv s) (hl : s.data.length ≤ 1000000000) (hr : latRd (only (notB B) w) l cs) (hk : l.kind = 5) (hp1 : l.parts = [p])
 (ih : ∀ (s : RS) (cs : List Value) (w : World), RdAt w B rv s → s.data.length ≤ 1000000000 → latRd (only (notB B) w) p cs → Calls Tryz.prog 54 #[.pointer (some ⟨B, 0, none⟩), .agg cs.toArray] w (ReadPost B rv w (readV p s))) :
 Calls Tryz.prog 54 #[.pointer (some ⟨B, 0, none⟩), .agg cs.toArray] w (ReadPost B rv w (readV l s)) := by
 obtain ⟨vn, vp, vr, rfl, ⟨hi1, hi2, hi3⟩, hns, hps, hrs⟩ := (latRd_iff _ _ _).1 hr
 obtain ⟨k, lo, hi', ns, ps, rs⟩ := l
 simp only [Lat.kind, Lat.lo, Lat.hi, Lat.names, Lat.parts, Lat.rules] at hi1 hi2 hi3 hns hps hrs hk hp1 ⊢
 subst hk
 subst hp1
 have IH := hid ih
 have HRV : Hid (readV (.mk 5 lo hi' ns [p] rs) s = (.mk 0 ((rdLoop (rdPair (readV p)) (rdCount s).1 (rdCount s).2).1.map Prod.fst) ((rdLoop (rdPair (readV p)) (rdCount s).1 (rdCount s).2).1.map Prod.snd) [], (rdLoop (rdPair (readV p)) (rdCount s).1 (rdCount s).2).2)) := hid (by rw [readV]; simp only [readMap]; rfl)
 generalize readV (.mk 5 lo hi' ns [p] rs) s = R at HRV ⊢
 obtain ⟨a, cp, rfl, _, hm⟩ := hps.shape
 obtain ⟨b, o, cs0, rfl, hl0, hcs, hlp⟩ := hps.at 0 (by simp)
 obtain ⟨an0, cn0, ap0, cp0, ar0, cr0, rfl, hyi, hyn, hyp, hyr, _⟩ := latRd.lay hlp
 have HLP := hid hlp
 have HF := hid hcs.six
 simp only [List.getElem_cons_zero, Nat.zero_mul, Nat.add_zero] at HLP HF
 have HST := hid (RdSt.start h #[.int .i64 5, .int .i64 lo, .int .i64 hi', vn, .slice (some ⟨b, o, none⟩) 1 cp, vr])
 have HL := hid hl
 have HO := hid h
 have HO1 := hid HST.out.rd
 have HC := hid (rdCount_ok h.ok)
 clear h hl hr hns hps hrs ih hcs hlp hyi hyn hyp hyr
 obtain ⟨i0, hi0, hz0, hz1, hz2⟩ := info_parts infoString
 obtain ⟨j0, hj0, hy0, hy1, hy2⟩ := info_parts infoVal
 go_enter Tryz.func54, Tryz.ntmps54
 go_wp2_with fail
 refine (rCount_any B rv s _ HO1.out HL.out).mono ?_
 rintro e w1 ⟨rfl, hp⟩
 have ST1 := hid (HST.out.call hp)
 clear hp
 have HL1 : Hid ((rdCount s).2.data.length = s.data.length) := hid (congrArg List.length HC.out.2.1)
 generalize rdCount s = q at HRV HC HL1 ST1 ⊢
 obtain ⟨N, s1⟩ := q
 simp only at HRV HC HL1 ST1 ⊢
 have HLA := hid (LoopAt.start (rdPair (readV p)) N s1)
 generalize rdLoop (rdPair (readV p)) N s1 = RL at HRV HLA
 have HN : Hid (N ≤ 1000000000 ∧ s1.data.length ≤ 1000000000) := hid (by have := HC.out.2.2; have := HL1.out; have := HL.out; omega)
 clear HC HL1
 go_wp2_with fail
 go_loopw [6] (fun n wr => ∃ (k : Nat) (s : RS) (vo vq : Value) (acc : List (ByteArray × Val)) (an : List ByteArray) (av : List Val) (cN cV : List (List Value)), n = .int .i64 k ∧ Hid (RdSt w wr B rv s #[.int .i64 5, .int .i64 lo, .int .i64 hi', vn, .slice (some ⟨b, o, none⟩) 1 cp, vr] (.int .i64 0) vo vq (.slice none 0 0)) ∧
     Hid (Rws wr (w.heap.size + 3) 9 1 (fun _ => strRd) vo an cN) ∧ Hid (Rws2 wr (w.heap.size + 3) 30 4 valRd vq vo av cV) ∧ Hid (an = acc.map Prod.fst ∧ av = acc.map Prod.snd) ∧ Hid (LoopAt RL (rdPair (readV p)) acc k s) ∧ Hid (an.length + k ≤ 1000000000 ∧ av.length + k ≤ 1000000000 ∧ s.data.length ≤ 1000000000)) (fun n _ => (intOf n).toNat)
 case atStart => exact ⟨N, s1, _, _, [], [], [], [], [], rfl, ST1, hid (Rws.nil _ _ _ _ _), hid (Rws2.nil _ _ _ _ _ _), hid ⟨rfl, rfl⟩, HLA, hid (by have := HN.out; simp; omega)⟩
 case round =>
  obtain ⟨k, s2, vo, vq, acc, an, av, cN, cV, rfl, STW, HRN, HRP, HAC, HLW, HNW⟩ := hrel
  obtain ⟨ao, co, rfl⟩ := owns_shape HRN.out.own
  obtain ⟨aq, cq, rfl⟩ := owns_shape HRP.out.own
  have HOW := hid STW.out.rd
  clear HLA
  have kw0 := STW.out.cellV 0
  have kw1 := STW.out.cellV 1
  have kw2 := STW.out.cellV 2
  have kw3 := STW.out.cellV 3
  have rw0 := STW.out.cellR 0
  have rw1 := STW.out.cellR 1
  have rw2 := STW.out.cellR 2
  have rw3 := STW.out.cellR 3
  have ew0 := STW.out.freeR 0
  have ew1 := STW.out.freeR 1
  have ew2 := STW.out.freeR 2
  have ew3 := STW.out.freeR 3
  have zw0 := STW.out.freeV 0
  have zw1 := STW.out.freeV 1
  have zw2 := STW.out.freeV 2
  have zw3 := STW.out.freeV 3
  simp only [List.getElem?_toArray, List.getElem?_cons_zero, List.getElem?_cons_succ] at kw0 kw1 kw2 kw3 rw0 rw1 rw2 rw3
  have HFIN : Hid (∀ (a b c d : Value), RL = (acc, s2) → ReadPost B rv w R (.returned (.agg #[.int .i64 0, .slice ao an.length co, .slice aq av.length cq, .slice none 0 0])) ((((wr.setCell ⟨w.heap.size + 1, 0, none⟩ a).setCell ⟨w.heap.size + 1, 1, none⟩ b).setCell ⟨w.heap.size + 1, 2, none⟩ c).setCell ⟨w.heap.size + 1, 3, none⟩ d)) := hid fun a b c d hE =>
   RdSt.post (x := .mk 0 an av []) STW.out ((valRd_iff _ _ _).2 ⟨_, _, _, rfl, i64_0, HRN.out.reads fun _ h => h, (HRP.out.one valRd_mono').reads valRd_mono', sl_none _ _ _⟩) (by rw [HRV.out, hE, HAC.out.1, HAC.out.2]) _ _ _ _
  by_cases hk0 : k = 0
  · have HK := hid hk0
    subst hk0
    have HE := hid HLW.out.end0
    go_wp2_with fail
    refine bodyPost_ret (v := .agg #[.int .i64 0, .slice ao an.length co, .slice aq av.length cq, .slice none 0 0]) (by simp [results, Tryz.results54, go_sem, kw0, kw1, kw2, kw3, rw0, rw1, rw2, rw3, ew0, ew1, ew2, ew3]) rfl (HFIN.out _ _ _ _ HE.out)
  · have hkp : 0 < k := by omega
    have HK := hid hk0
    clear hk0
    go_wp2_with fail
    refine (rErr_any B rv s2 _ HOW.out).mono ?_
    rintro e w2 ⟨rfl, rfl⟩
    by_cases he : s2.err = 0
    · have HE := hid he
      have heb : (s2.err == 0) = true := by simpa using he
      have HLS : Hid (LoopAt RL (rdPair (readV p)) (acc ++ [((rdText s2).1, (readV p (rdText s2).2).1)]) (k - 1) (readV p (rdText s2).2).2) := hid (by
       have := HLW.out
       rw [show k = k - 1 + 1 by omega] at this
       exact this.step HE.out)
      have HX : Hid ((rdText s2).1.size ≤ maxLen) := hid (by have := rdText_le STW.out.ok; have := HNW.out.2.2; unfold maxLen; omega)
      have HNX : Hid ((rdText s2).2.data.length ≤ 1000000000) := hid (by have := (rdBytes_ok STW.out.ok).2.1; have := HNW.out.2.2; show (rdBytes s2).2.data.length ≤ _; rw [(rdBytes_ok STW.out.ok).2.1]; exact this)
      have HMX : Hid (an.length + 1 ≤ maxLen ∧ (an.length + 1) * 16 ≤ 140737488355328) := hid (by have := HNW.out; have := HK.out; unfold maxLen; omega)
      have HMY : Hid (av.length + 1 ≤ maxLen ∧ (av.length + 1) * 80 ≤ 140737488355328) := hid (by have := HNW.out; have := HK.out; unfold maxLen; omega)
      have HDR : Hid (∀ q, RdAt (w2.drewN q) B rv s2) := hid fun q => (STW.out.drewN q).rd
      clear he
      go_wp2_with fail
      go_region_law
       (first
         | (refine step_append (by rfl) (.tmp 58) (.tmp 61) 22 (by rfl) (w.heap.size + 3) 9 1 16 Tryz.underlying22 hi0 hz0 hz1 hz2 rfl (by decide) (.slice ao an.length co) an.length cN.flatten (by rfl) (HOWN.out _) _ 1 [.string x'] (by rfl) (Src.of_block (cs := #[.string x']) (heap_alloc_new _ _) 1 1 1 rfl (by simp [Value.oneCell'])) (an.length + 1) rfl _ rfl HMX.out.1 HMX.out.2 (HBS.out _) ?_
            intro na nc w5 had
            have HAD := hid had
            have ST5 : Hid (RdSt w w5 B rv s3 #[.int .i64 5, .int .i64 lo, .int .i64 hi', vn, .slice (some ⟨b, o, none⟩) 1 cp, vr] (.int .i64 0) (.slice ao an.length co) (.slice aq av.length cq) (.slice none 0 0)) := hid ((ST3.out.alloc _).grown had.grown (fun g hg => ((HOWN.out (.cells #[] 0 (0, 0))).lt g hg).1))
            have kv1 := ST5.out.cellV 1
            have zv1 := ST5.out.freeV 1
            simp only [List.getElem?_toArray, List.getElem?_cons_zero, List.getElem?_cons_succ] at kv1
            clear had)
         | (go_simp
            go_at_call 92
            refine (rText_any B rv s2 _ (HDR.out _) HNW.out.2.2).mono ?_
            rintro e w3 ⟨rfl, hp⟩
            have ST3 : Hid (RdSt w w3 B rv (rdText s2).2 #[.int .i64 5, .int .i64 lo, .int .i64 hi', vn, .slice (some ⟨b, o, none⟩) 1 cp, vr] (.int .i64 0) (.slice ao an.length co) (.slice aq av.length cq) (.slice none 0 0)) := hid ((STW.out.drewN _).call hp)
            have HKP : Hid (∀ b, w.heap.size + 3 ≤ b → b < w2.heap.size → w3.heap[b]? = w2.heap[b]?) := hid fun b hb hl => hp.2.block b hl (by have := STW.out.lt; omega)
            have HRN3 : Hid (Rws w3 (w.heap.size + 3) 9 1 (fun _ => strRd) (.slice ao an.length co) an cN) := hid (HRN.out.keep (fun _ h => h) HKP.out)
            have HRP3 : Hid (Rws2 w3 (w.heap.size + 3) 30 4 valRd (.slice aq av.length cq) (.slice ao an.length co) av cV) := hid (HRP.out.keep valRd_mono' HKP.out)
            have HOWN : Hid (∀ O, (w3.alloc O).ownsRow (w.heap.size + 3) 9 1 (.slice ao an.length co) an.length cN.flatten) := hid fun O => owns_below HRN3.out.own ((Below.refl _ _).alloc (Nat.le_refl _) O)
            have HBS : Hid (∀ O, w.heap.size + 3 ≤ (w3.alloc O).heap.size) := hid fun O => (ST3.out.alloc O).big
            have ka1 := fun O => (ST3.out.alloc O).cellV 1
            have za1 := fun O => (ST3.out.alloc O).freeV 1
            have kb1 := ST3.out.cellV 1
            simp only [List.getElem?_toArray, List.getElem?_cons_zero, List.getElem?_cons_succ] at ka1 kb1
            generalize rdText s2 = q at HX HLS HNX hp ST3 ⊢
            obtain ⟨x', s3⟩ := q
            simp only at HX HLS HNX ST3 ⊢
            clear hp))
      all_goals
       have HAX : Hid (Appd (w3.alloc (.cells #[.string x'] 9 (0, 0))) w5 (w.heap.size + 3) 9 1 (.slice ao an.length co) (.slice na (an.length + 1) nc) (an.length + 1) (cN.flatten ++ [.string x'])) := HAD
       have ST6 := hid (ST5.out.set 1 (.slice na (an.length + 1) nc) (n' := .int .i64 0) rfl)
       have HR6 : Hid (Rws (w5.setCell ⟨w.heap.size + 1 + 1, 1, none⟩ (.slice na (an.length + 1) nc)) (w.heap.size + 3) 9 1 (fun _ => strRd) (.slice na (an.length + 1) nc) (an ++ [x']) (cN ++ [[.string x']])) := hid
         (((HRN3.out.keep (fun _ h => h) fun b _ hl => Below.heap_alloc _ _ _ hl).push (fun _ h => h) HAX.out rfl rfl rfl ⟨rfl, HX.out⟩).keep (fun _ h => h) fun b hb _ => Below.heap_setCell _ _ _ _ (by show b ≠ w.heap.size + 1 + 1; omega))
       have HP6 : Hid (Rws2 (w5.setCell ⟨w.heap.size + 1 + 1, 1, none⟩ (.slice na (an.length + 1) nc)) (w.heap.size + 3) 30 4 valRd (.slice aq av.length cq) (.slice na (an.length + 1) nc) av cV) := hid
        (((HRP3.out.keep valRd_mono' fun b _ hl => Below.heap_alloc _ _ _ hl).other valRd_mono' (fun b _ hl hn => HAX.out.grown.block b hl (fun e => hn e.symm)) HAX.out.at_).keep valRd_mono' fun b hb _ => Below.heap_setCell _ _ _ _ (by show b ≠ w.heap.size + 1 + 1; omega))
       have HLN : Hid ((an ++ [x']).length = an.length + 1) := hid (by simp)
       have b0 := ST6.out.cellL 0
       have b4 := ST6.out.cellL 4
       have k62 := ST6.out.cellV 2
       simp only [List.getElem?_toArray, List.getElem?_cons_zero, List.getElem?_cons_succ] at b0 b4 k62
       clear HAD kv1 zv1 ka1 za1 kb1 HAX ST5 HRN3 HRP3
       have HACO := HAC
       generalize w5.setCell ⟨w.heap.size + 1 + 1, 1, none⟩ (.slice na (an.length + 1) nc) = w6 at ST6 HR6 HP6 b0 b4 k62 ⊢
       have HDR6 : Hid (∀ q, RdAt (w6.drewN q) B rv s3 ∧ latRd (only (notB B) (w6.drewN q)) p [.int .i64 p.kind, .int .i64 p.lo, .int .i64 p.hi, .slice an0 p.names.length cn0, .slice ap0 p.parts.length cp0, .slice ar0 p.rules.length cr0]) := hid fun q => ⟨(ST6.out.drewN q).rd, (ST6.out.drewN q).lat HLP.out⟩
       obtain ⟨f0, f1, f2, f3, f4, f5⟩ := HF.out
       have f0 := ST6.out.latCell f0
       have f1 := ST6.out.latCell f1
       have f2 := ST6.out.latCell f2
       have f3 := ST6.out.latCell f3
       have f4 := ST6.out.latCell f4
       have f5 := ST6.out.latCell f5
       clear HRN HRP STW HFIN HAC HMX HDR kw0 kw1 kw2 kw3 rw0 rw1 rw2 rw3 ew0 ew1 ew2 ew3 zw0 zw1 zw2 zw3
       go_wp2_with fail
       go_region_law
        (first
          | (refine step_append (by rfl) (.tmp 68) (.tmp 75) 27 (by rfl) (w.heap.size + 3) 30 4 80 Tryz.underlying27 hj0 hy0 hy1 hy2 rfl (by decide) (.slice aq av.length cq) av.length cV.flatten (by rfl) (HOWV.out _) _ 1 [.int .i64 x.n, .slice xn x.names.length xcn, .slice xp x.parts.length xcp, .slice xe x.entries.length xce] (by rfl) (Src.of_block (cs := #[.int .i64 x.n, .slice xn x.names.length xcn, .slice xp x.parts.length xcp, .slice xe x.entries.length xce]) (heap_alloc_new _ _) 4 1 1 rfl (by simp [Value.oneCell'])) (av.length + 1) rfl _ rfl HMY.out.1 HMY.out.2 (HBV.out _) ?_
             intro na2 nc2 w9 had
             have HAD := hid had
             have ST9 : Hid (RdSt w w9 B rv s4 #[.int .i64 5, .int .i64 lo, .int .i64 hi', vn, .slice (some ⟨b, o, none⟩) 1 cp, vr] (.int .i64 0) (.slice na (an ++ [x']).length nc) (.slice aq av.length cq) (.slice none 0 0)) := hid ((ST7.out.alloc _).grown had.grown (fun g hg => ((HOWV.out (.cells #[] 0 (0, 0))).lt g hg).1))
             have kv2 := ST9.out.cellV 2
             have zv2 := ST9.out.freeV 2
             simp only [List.getElem?_toArray, List.getElem?_cons_zero, List.getElem?_cons_succ] at kv2
             clear had)
          | (go_simp
             go_at_call 54
             refine (IH.out s3 [.int .i64 p.kind, .int .i64 p.lo, .int .i64 p.hi, .slice an0 p.names.length cn0, .slice ap0 p.parts.length cp0, .slice ar0 p.rules.length cr0] _ (HDR6.out _).1 HNX.out (HDR6.out _).2).mono ?_
             rintro e w7 ⟨cs7, rfl, hv7, hp⟩
             have ST7 : Hid (RdSt w w7 B rv (readV p s3).2 #[.int .i64 5, .int .i64 lo, .int .i64 hi', vn, .slice (some ⟨b, o, none⟩) 1 cp, vr] (.int .i64 0) (.slice na (an ++ [x']).length nc) (.slice aq av.length cq) (.slice none 0 0)) := hid (by rw [HLN.out]; exact (ST6.out.drewN _).call hp)
             have HX7 : Hid (valRd (only (from_ w6.heap.size) w7) (readV p s3).1 cs7) := hid hv7
             have HKP : Hid (∀ b, w.heap.size + 3 ≤ b → b < w6.heap.size → w7.heap[b]? = w6.heap[b]?) := hid fun b hb hl => hp.2.block b hl (by have := ST7.out.lt; omega)
             have HRN7 : Hid (Rws w7 (w.heap.size + 3) 9 1 (fun _ => strRd) (.slice na (an ++ [x']).length nc) (an ++ [x']) (cN ++ [[.string x']])) := hid (by rw [HLN.out]; exact HR6.out.keep (fun _ h => h) HKP.out)
             have HRP7 : Hid (Rws2 w7 (w.heap.size + 3) 30 4 valRd (.slice aq av.length cq) (.slice na (an ++ [x']).length nc) av cV) := hid (by rw [HLN.out]; exact HP6.out.keep valRd_mono' HKP.out)
             have HOLD : Hid (∀ g, g < w7.heap.size → (Value.slice aq av.length cq).ownBlock = some g ∨ (Value.slice na (an ++ [x']).length nc).ownBlock = some g → g < w6.heap.size) := hid (by
              rintro g _ (h | h)
              · exact (HP6.out.own.lt g h).2
              · rw [HLN.out] at h; exact (HR6.out.own.lt g h).2)
             have HSZ7 : Hid (w6.heap.size ≤ w7.heap.size) := hid hp.2.size
             have HOWV : Hid (∀ O, (w7.alloc O).ownsRow (w.heap.size + 3) 30 4 (.slice aq av.length cq) av.length cV.flatten) := hid fun O => owns_below HRP7.out.own ((Below.refl _ _).alloc (Nat.le_refl _) O)
             have HBV : Hid (∀ O, w.heap.size + 3 ≤ (w7.alloc O).heap.size) := hid fun O => (ST7.out.alloc O).big
             have ka2 := fun O => (ST7.out.alloc O).cellV 2
             have za2 := fun O => (ST7.out.alloc O).freeV 2
             have kb2 := ST7.out.cellV 2
             simp only [List.getElem?_toArray, List.getElem?_cons_zero, List.getElem?_cons_succ] at ka2 kb2
             have HD4 : Hid ((readV p s3).2.data.length ≤ 1000000000) := hid (by have := (HDR6.out 0).1.len hp.1; have := HNX.out; omega)
             generalize readV p s3 = q at HX7 HLS HD4 hp hv7 ST7 ⊢
             obtain ⟨x, s4⟩ := q
             simp only at HX7 HLS HD4 hv7 ST7 ⊢
             obtain ⟨xn, xcn, xp, xcp, xe, xce, rfl, _, hsn, hsp, hse, _⟩ := valRd.lay hv7
             clear hp hv7 hsn hsp hse))
       all_goals
        have HAX : Hid (Appd (w7.alloc (.cells #[.int .i64 x.n, .slice xn x.names.length xcn, .slice xp x.parts.length xcp, .slice xe x.entries.length xce] 30 (0, 0))) w9 (w.heap.size + 3) 30 4 (.slice aq av.length cq) (.slice na2 (av.length + 1) nc2) (av.length + 1) (cV.flatten ++ [.int .i64 x.n, .slice xn x.names.length xcn, .slice xp x.parts.length xcp, .slice xe x.entries.length xce])) := HAD
        have STA := hid (ST9.out.set 2 (.slice na2 (av.length + 1) nc2) (n' := .int .i64 0) rfl)
        have HRA : Hid (Rws (w9.setCell ⟨w.heap.size + 1 + 1, 2, none⟩ (.slice na2 (av.length + 1) nc2)) (w.heap.size + 3) 9 1 (fun _ => strRd) (.slice na (an ++ [x']).length nc) (an ++ [x']) (cN ++ [[.string x']])) := hid
          (((HRN7.out.keep (fun _ h => h) fun b _ hl => Below.heap_alloc _ _ _ hl).flat fun b hb => HAX.out.grown.block b (by have := HRN7.out.own.lt b hb; simp; omega) (fun e => HRP7.out.sep b e.symm hb)).keep (fun _ h => h) fun b hb _ => Below.heap_setCell _ _ _ _ (by show b ≠ w.heap.size + 1 + 1; omega))
        have HPA : Hid (Rws2 (w9.setCell ⟨w.heap.size + 1 + 1, 2, none⟩ (.slice na2 (av.length + 1) nc2)) (w.heap.size + 3) 30 4 valRd (.slice na2 (av.length + 1) nc2) (.slice na (an ++ [x']).length nc) (av ++ [x]) (cV ++ [[.int .i64 x.n, .slice xn x.names.length xcn, .slice xp x.parts.length xcp, .slice xe x.entries.length xce]])) := hid
         (((HRP7.out.keep valRd_mono' fun b _ hl => Below.heap_alloc _ _ _ hl).push valRd_mono' HAX.out rfl rfl rfl (valRd_mono' (only_keep fun b hb hl => by
             have hb' := of_decide_eq_true hb
             refine ⟨butTwo_iff.2 ⟨by have := ST6.out.big; omega, fun e => ?_, fun e => ?_⟩, Below.heap_alloc _ _ _ hl⟩
             · have := HOLD.out b hl (.inl e); omega
             · have := HOLD.out b hl (.inr e); omega) HX7.out) (fun g hg => by have := (HRN7.out.own.lt g hg).2; simp; omega)).keep valRd_mono' fun b hb _ => Below.heap_setCell _ _ _ _ (by show b ≠ w.heap.size + 1 + 1; omega))
        have HNA : Hid ((an ++ [x']).length + (k - 1) ≤ 1000000000 ∧ (av ++ [x]).length + (k - 1) ≤ 1000000000 ∧ s4.data.length ≤ 1000000000) := hid (by have := HNW.out; have := HD4.out; have := HK.out; simp; omega)
        have HLV : Hid ((av ++ [x]).length = av.length + 1) := hid (by simp)
        have HACN : Hid (an ++ [x'] = (acc ++ [(x', x)]).map Prod.fst ∧ av ++ [x] = (acc ++ [(x', x)]).map Prod.snd) := hid (by rw [HACO.out.1, HACO.out.2]; simp)
        clear HAD kv2 zv2 ka2 za2 kb2 b0 b4 k62 f0 f1 f2 f3 f4 f5
        go_wp2_with fail
        have hw1 : wrap64 ((k : Int) - 1) = ((k - 1 : Nat) : Int) := by rw [IntWalk.wrap64_in _ (by have := HNW.out; omega)]; omega
        go_roundw
        case rel => exact ⟨k - 1, s4, _, _, acc ++ [(x', x)], an ++ [x'], av ++ [x], _, _, by rw [hw1], STA, HRA, HPA, HACN, HLS, HNA⟩
        case measure => simp [intOf, hw1]; omega
    · have heb : (s2.err == 0) = false := by simpa using he
      have HE := hid (HLW.out.endE he)
      clear he
      go_wp2_with fail
      refine bodyPost_ret (v := .agg #[.int .i64 0, .slice ao an.length co, .slice aq av.length cq, .slice none 0 0]) (by simp [results, Tryz.results54, go_sem, kw0, kw1, kw2, kw3, rw0, rw1, rw2, rw3, ew0, ew1, ew2, ew3]) rfl (HFIN.out _ _ _ _ HE.out)
def PartsAt (R : List Val × RS) (ps : List Lat) (acc : List Val) (j : Nat) (s : RS) : Prop := R = (acc ++ (readParts (ps.drop j) s).1, (readParts (ps.drop j) s).2)
theorem PartsAt.start (ps : List Lat) (s : RS) : PartsAt (readParts ps s) ps [] 0 s := rfl
theorem PartsAt.step {R : List Val × RS} {ps : List Lat} {acc : List Val} {j : Nat} {s : RS} (h : PartsAt R ps acc j s) (hj : j < ps.length) : PartsAt R ps (acc ++ [(readV ps[j] s).1]) (j + 1) (readV ps[j] s).2 := by
 unfold PartsAt at h ⊢
 rw [h, List.drop_eq_getElem_cons hj, readParts, List.append_assoc]
 rfl
theorem PartsAt.end0 {R : List Val × RS} {ps : List Lat} {acc : List Val} {s : RS} (h : PartsAt R ps acc ps.length s) : R = (acc, s) := by
 unfold PartsAt at h
 rw [h, List.drop_length, readParts, List.append_nil]
theorem read_prod6 (l : Lat) (B : Nat) (rv : Value) (s : RS) (cs : List Value) (w : World) (h : RdAt w B rv s) (hl : s.data.length ≤ 1000000000) (hr : latRd (only (notB B) w) l cs) (hk : l.kind = 6) (hp8 : l.parts.length ≤ 8)
 (ih : ∀ p ∈ l.parts, ∀ (s : RS) (cs : List Value) (w : World), RdAt w B rv s → s.data.length ≤ 1000000000 → latRd (only (notB B) w) p cs → Calls Tryz.prog 54 #[.pointer (some ⟨B, 0, none⟩), .agg cs.toArray] w (ReadPost B rv w (readV p s))) :
 Calls Tryz.prog 54 #[.pointer (some ⟨B, 0, none⟩), .agg cs.toArray] w (ReadPost B rv w (readV l s)) := by
 obtain ⟨vn, vp, vr, rfl, ⟨hi1, hi2, hi3⟩, hns, hps, hrs⟩ := (latRd_iff _ _ _).1 hr
 obtain ⟨k, lo, hi', ns, ps, rs⟩ := l
 simp only [Lat.kind, Lat.lo, Lat.hi, Lat.names, Lat.parts, Lat.rules] at hi1 hi2 hi3 hns hps hrs hk hp8 ih ⊢
 subst hk
 have IH := hid ih
 have HP8 := hid hp8
 have HPS := hid hps
 have HRV : Hid (readV (.mk 6 lo hi' ns ps rs) s = (.mk 0 [] (readParts ps s).1 [], (readParts ps s).2)) := hid (by rw [readV]; rfl)
 generalize readV (.mk 6 lo hi' ns ps rs) s = R at HRV ⊢
 have HLA := hid (PartsAt.start ps s)
 generalize readParts ps s = RL at HRV HLA
 obtain ⟨ap, cp, rfl, _, hm⟩ := hps.shape
 have HST := hid (RdSt.start h #[.int .i64 6, .int .i64 lo, .int .i64 hi', vn, .slice ap ps.length cp, vr])
 have HL := hid hl
 clear h hl hr hns hps hrs ih hp8
 obtain ⟨j0, hj0, hy0, hy1, hy2⟩ := info_parts infoVal
 have ks0 := HST.out.cellV 0
 have ks1 := HST.out.cellV 1
 have ks2 := HST.out.cellV 2
 have ks3 := HST.out.cellV 3
 have rr0 := HST.out.cellR 0
 have rr1 := HST.out.cellR 1
 have rr2 := HST.out.cellR 2
 have rr3 := HST.out.cellR 3
 have es0 := HST.out.freeR 0
 have es1 := HST.out.freeR 1
 have es2 := HST.out.freeR 2
 have es3 := HST.out.freeR 3
 have zs0 := HST.out.freeV 0
 have zs1 := HST.out.freeV 1
 have zs2 := HST.out.freeV 2
 have zs3 := HST.out.freeV 3
 simp only [List.getElem?_toArray, List.getElem?_cons_zero, List.getElem?_cons_succ] at ks0 ks1 ks2 ks3 rr0 rr1 rr2 rr3
 clear ks0 ks1 ks2 ks3 rr0 rr1 rr2 rr3 es0 es1 es2 es3 zs0 zs1 zs2 zs3
 go_enter Tryz.func54, Tryz.ntmps54
 go_wp2_with fail
 go_loopw [12, 18] (fun _ i wr => ∃ (j : Nat) (s : RS) (vq : Value) (av : List Val) (cV : List (List Value)), j ≤ ps.length ∧ i = .int .i64 j ∧ Hid (av.length = j) ∧ Hid (RdSt w wr B rv s #[.int .i64 6, .int .i64 lo, .int .i64 hi', vn, .slice ap ps.length cp, vr] (.int .i64 0) (.slice none 0 0) vq (.slice none 0 0)) ∧
     Hid (Rws wr (w.heap.size + 3) 30 4 valRd vq av cV) ∧ Hid (PartsAt RL ps av j s) ∧ Hid (s.data.length ≤ 1000000000)) (fun _ i _ => ps.length - (intOf i).toNat)
 case atStart => exact ⟨0, s, _, [], [], Nat.zero_le _, rfl, hid rfl, HST, hid (Rws.nil _ _ _ _ _), HLA, HL⟩
 case round =>
  obtain ⟨j, s2, vq, av, cV, hj, rfl, HAV, STW, HRP, HLW, HNW⟩ := hrel
  obtain ⟨aq, cq, rfl⟩ := owns_shape HRP.out.own
  clear HLA
  by_cases hlt : j < ps.length
  · obtain ⟨b, o, cs0, ha, hl0, hcs, hlp⟩ := HPS.out.at j hlt
    subst ha
    obtain ⟨an0, cn0, ap0, cp0, ar0, cr0, rfl, hyi, hyn, hyp, hyr, _⟩ := latRd.lay hlp
    have HLP := hid hlp
    obtain ⟨f0, f1, f2, f3, f4, f5⟩ := hcs.six
    have f0 := STW.out.latCell f0
    have f1 := STW.out.latCell f1
    have f2 := STW.out.latCell f2
    have f3 := STW.out.latCell f3
    have f4 := STW.out.latCell f4
    have f5 := STW.out.latCell f5
    clear hlp hcs hyi hyn hyp hyr
    have HLS : Hid (PartsAt RL ps (av ++ [(readV ps[j] s2).1]) (j + 1) (readV ps[j] s2).2) := hid (HLW.out.step hlt)
    have HJ : Hid (j + 1 ≤ 9223372036854775807 ∧ j + 1 ≤ ps.length) := hid (by omega)
    have HMY : Hid (av.length + 1 ≤ maxLen ∧ (av.length + 1) * 80 ≤ 140737488355328) := hid (by have := HAV.out; have := HP8.out; unfold maxLen; omega)
    go_wp2_with fail
    have ST6 := hid (STW.out.alloc (.cells #[.int .i64 ps[j].kind, .int .i64 ps[j].lo, .int .i64 ps[j].hi, .slice an0 ps[j].names.length cn0, .slice ap0 ps[j].parts.length cp0, .slice ar0 ps[j].rules.length cr0] 26 (0, 0)))
    have HP6 : Hid (Rws (wr.alloc (.cells #[.int .i64 ps[j].kind, .int .i64 ps[j].lo, .int .i64 ps[j].hi, .slice an0 ps[j].names.length cn0, .slice ap0 ps[j].parts.length cp0, .slice ar0 ps[j].rules.length cr0] 26 (0, 0))) (w.heap.size + 3) 30 4 valRd (.slice aq av.length cq) av cV) := hid (HRP.out.keep valRd_mono' fun b _ hl => Below.heap_alloc _ _ _ hl)
    have HBX : Hid (∀ (i : Nat) (v : Value), #[.int .i64 ps[j].kind, .int .i64 ps[j].lo, .int .i64 ps[j].hi, .slice an0 ps[j].names.length cn0, .slice ap0 ps[j].parts.length cp0, .slice ar0 ps[j].rules.length cr0][i]? = some v → (wr.alloc (.cells #[.int .i64 ps[j].kind, .int .i64 ps[j].lo, .int .i64 ps[j].hi, .slice an0 ps[j].names.length cn0, .slice ap0 ps[j].parts.length cp0, .slice ar0 ps[j].rules.length cr0] 26 (0, 0))).cell? ⟨wr.heap.size, i, none⟩ = some v) := hid fun i v hv => by
      rw [World.cell?_alloc_at _ _ _ _ rfl]; exact hv
    have g0 := HBX.out 0 _ rfl
    have g1 := HBX.out 1 _ rfl
    have g2 := HBX.out 2 _ rfl
    have g3 := HBX.out 3 _ rfl
    have g4 := HBX.out 4 _ rfl
    have g5 := HBX.out 5 _ rfl
    have k62 := ST6.out.cellV 2
    simp only [List.getElem?_toArray, List.getElem?_cons_zero, List.getElem?_cons_succ] at k62
    clear f0 f1 f2 f3 f4 f5 STW HRP HBX
    generalize wr.alloc (.cells #[.int .i64 ps[j].kind, .int .i64 ps[j].lo, .int .i64 ps[j].hi, .slice an0 ps[j].names.length cn0, .slice ap0 ps[j].parts.length cp0, .slice ar0 ps[j].rules.length cr0] 26 (0, 0)) = w6 at ST6 HP6 g0 g1 g2 g3 g4 g5 k62 ⊢
    have HDR6 : Hid (∀ q, RdAt (w6.drewN q) B rv s2 ∧ latRd (only (notB B) (w6.drewN q)) ps[j] [.int .i64 ps[j].kind, .int .i64 ps[j].lo, .int .i64 ps[j].hi, .slice an0 ps[j].names.length cn0, .slice ap0 ps[j].parts.length cp0, .slice ar0 ps[j].rules.length cr0]) := hid fun q => ⟨(ST6.out.drewN q).rd, (ST6.out.drewN q).lat HLP.out⟩
    go_region_law
     (first
       | (refine step_append (by rfl) (.tmp 23) (.tmp 27) 27 (by rfl) (w.heap.size + 3) 30 4 80 Tryz.underlying27 hj0 hy0 hy1 hy2 rfl (by decide) (.slice aq av.length cq) av.length cV.flatten (by rfl) (HOWV.out _) _ 1 [.int .i64 x.n, .slice xn x.names.length xcn, .slice xp x.parts.length xcp, .slice xe x.entries.length xce] (by rfl) (Src.of_block (cs := #[.int .i64 x.n, .slice xn x.names.length xcn, .slice xp x.parts.length xcp, .slice xe x.entries.length xce]) (heap_alloc_new _ _) 4 1 1 rfl (by simp [Value.oneCell'])) (av.length + 1) rfl _ rfl HMY.out.1 HMY.out.2 (HBV.out _) ?_
          intro na2 nc2 w9 had
          have HAD := hid had
          have ST9 : Hid (RdSt w w9 B rv s4 #[.int .i64 6, .int .i64 lo, .int .i64 hi', vn, .slice (some ⟨b, o, none⟩) ps.length cp, vr] (.int .i64 0) (.slice none 0 0) (.slice aq av.length cq) (.slice none 0 0)) := hid ((ST7.out.alloc _).grown had.grown (fun g hg => ((HOWV.out (.cells #[] 0 (0, 0))).lt g hg).1))
          have kv2 := ST9.out.cellV 2
          have zv2 := ST9.out.freeV 2
          simp only [List.getElem?_toArray, List.getElem?_cons_zero, List.getElem?_cons_succ] at kv2
          clear had)
       | (go_simp
          go_at_call 54
          refine (IH.out ps[j] (List.getElem_mem hlt) s2 [.int .i64 ps[j].kind, .int .i64 ps[j].lo, .int .i64 ps[j].hi, .slice an0 ps[j].names.length cn0, .slice ap0 ps[j].parts.length cp0, .slice ar0 ps[j].rules.length cr0] _ (HDR6.out _).1 HNW.out (HDR6.out _).2).mono ?_
          rintro e w7 ⟨cs7, rfl, hv7, hp⟩
          have ST7 : Hid (RdSt w w7 B rv (readV ps[j] s2).2 #[.int .i64 6, .int .i64 lo, .int .i64 hi', vn, .slice (some ⟨b, o, none⟩) ps.length cp, vr] (.int .i64 0) (.slice none 0 0) (.slice aq av.length cq) (.slice none 0 0)) := hid ((ST6.out.drewN _).call hp)
          have HX7 : Hid (valRd (only (from_ w6.heap.size) w7) (readV ps[j] s2).1 cs7) := hid hv7
          have HKP : Hid (∀ b, w.heap.size + 3 ≤ b → b < w6.heap.size → w7.heap[b]? = w6.heap[b]?) := hid fun b hb hl => hp.2.block b hl (by have := ST7.out.lt; omega)
          have HRP7 : Hid (Rws w7 (w.heap.size + 3) 30 4 valRd (.slice aq av.length cq) av cV) := hid (HP6.out.keep valRd_mono' HKP.out)
          have HOLD : Hid (∀ g, (Value.slice aq av.length cq).ownBlock = some g → g < w6.heap.size) := hid fun g h => (HP6.out.own.lt g h).2
          have HOWV : Hid (∀ O, (w7.alloc O).ownsRow (w.heap.size + 3) 30 4 (.slice aq av.length cq) av.length cV.flatten) := hid fun O => owns_below HRP7.out.own ((Below.refl _ _).alloc (Nat.le_refl _) O)
          have HBV : Hid (∀ O, w.heap.size + 3 ≤ (w7.alloc O).heap.size) := hid fun O => (ST7.out.alloc O).big
          have ka2 := fun O => (ST7.out.alloc O).cellV 2
          have za2 := fun O => (ST7.out.alloc O).freeV 2
          have kb2 := ST7.out.cellV 2
          simp only [List.getElem?_toArray, List.getElem?_cons_zero, List.getElem?_cons_succ] at ka2 kb2
          have HD4 : Hid ((readV ps[j] s2).2.data.length ≤ 1000000000) := hid (by have := (HDR6.out 0).1.len hp.1; have := HNW.out; omega)
          generalize readV ps[j] s2 = q at HX7 HLS HD4 hp hv7 ST7 ⊢
          obtain ⟨x, s4⟩ := q
          simp only at HX7 HLS HD4 hv7 ST7 ⊢
          obtain ⟨xn, xcn, xp, xcp, xe, xce, rfl, _, hsn, hsp, hse, _⟩ := valRd.lay hv7
          clear hp hv7 hsn hsp hse))
    all_goals
     have HAX : Hid (Appd (w7.alloc (.cells #[.int .i64 x.n, .slice xn x.names.length xcn, .slice xp x.parts.length xcp, .slice xe x.entries.length xce] 30 (0, 0))) w9 (w.heap.size + 3) 30 4 (.slice aq av.length cq) (.slice na2 (av.length + 1) nc2) (av.length + 1) (cV.flatten ++ [.int .i64 x.n, .slice xn x.names.length xcn, .slice xp x.parts.length xcp, .slice xe x.entries.length xce])) := HAD
     have STA := hid (ST9.out.set 2 (.slice na2 (av.length + 1) nc2) (n' := .int .i64 0) rfl)
     have HPA : Hid (Rws (w9.setCell ⟨w.heap.size + 1 + 1, 2, none⟩ (.slice na2 (av.length + 1) nc2)) (w.heap.size + 3) 30 4 valRd (.slice na2 (av.length + 1) nc2) (av ++ [x]) (cV ++ [[.int .i64 x.n, .slice xn x.names.length xcn, .slice xp x.parts.length xcp, .slice xe x.entries.length xce]])) := hid
      (((HRP7.out.keep valRd_mono' fun b _ hl => Below.heap_alloc _ _ _ hl).push valRd_mono' HAX.out rfl rfl rfl (valRd_mono' (only_keep fun b hb hl => by
          have hb' := of_decide_eq_true hb
          refine ⟨?_, Below.heap_alloc _ _ _ hl⟩
          unfold butOwn
          simp only [Bool.and_eq_true, decide_eq_true_eq]
          refine ⟨by have := ST6.out.big; omega, fun e => ?_⟩
          have := HOLD.out b e; omega) HX7.out)).keep valRd_mono' fun b hb _ => Below.heap_setCell _ _ _ _ (by show b ≠ w.heap.size + 1 + 1; omega))
     have HLV : Hid ((av ++ [x]).length = j + 1) := hid (by have := HAV.out; simp; omega)
     clear HAD kv2 zv2 ka2 za2 kb2 k62 g0 g1 g2 g3 g4 g5
     go_wp2_with fail
     go_roundw
     case rel => exact ⟨j + 1, s4, _, av ++ [x], _, HJ.out.2, by go_num, HLV, STA, HPA, HLS, HD4⟩
     case measure => simp [intOf]; omega
  · have hjj : j = ps.length := by omega
    subst hjj
    have HE := hid HLW.out.end0
    have kw0 := STW.out.cellV 0
    have kw1 := STW.out.cellV 1
    have kw2 := STW.out.cellV 2
    have kw3 := STW.out.cellV 3
    have rw0 := STW.out.cellR 0
    have rw1 := STW.out.cellR 1
    have rw2 := STW.out.cellR 2
    have rw3 := STW.out.cellR 3
    have ew0 := STW.out.freeR 0
    have ew1 := STW.out.freeR 1
    have ew2 := STW.out.freeR 2
    have ew3 := STW.out.freeR 3
    have zw0 := STW.out.freeV 0
    have zw1 := STW.out.freeV 1
    have zw2 := STW.out.freeV 2
    have zw3 := STW.out.freeV 3
    simp only [List.getElem?_toArray, List.getElem?_cons_zero, List.getElem?_cons_succ] at kw0 kw1 kw2 kw3 rw0 rw1 rw2 rw3
    go_wp2_with fail
    refine bodyPost_ret (v := .agg #[.int .i64 0, .slice none 0 0, .slice aq av.length cq, .slice none 0 0]) (by simp [results, Tryz.results54, go_sem, kw0, kw1, kw2, kw3, rw0, rw1, rw2, rw3, ew0, ew1, ew2, ew3]) rfl (RdSt.post (x := .mk 0 [] av []) STW.out ((valRd_iff _ _ _).2 ⟨_, _, _, rfl, i64_0, sl_none _ _ _, HRP.out.reads valRd_mono', sl_none _ _ _⟩) (by rw [HRV.out, HE.out]) _ _ _ _)
theorem read_prod7 (l : Lat) (B : Nat) (rv : Value) (s : RS) (cs : List Value) (w : World) (h : RdAt w B rv s) (hl : s.data.length ≤ 1000000000) (hr : latRd (only (notB B) w) l cs) (hk : l.kind = 7) (hp8 : l.parts.length ≤ 8)
 (ih : ∀ p ∈ l.parts, ∀ (s : RS) (cs : List Value) (w : World), RdAt w B rv s → s.data.length ≤ 1000000000 → latRd (only (notB B) w) p cs → Calls Tryz.prog 54 #[.pointer (some ⟨B, 0, none⟩), .agg cs.toArray] w (ReadPost B rv w (readV p s))) :
 Calls Tryz.prog 54 #[.pointer (some ⟨B, 0, none⟩), .agg cs.toArray] w (ReadPost B rv w (readV l s)) := by
 obtain ⟨vn, vp, vr, rfl, ⟨hi1, hi2, hi3⟩, hns, hps, hrs⟩ := (latRd_iff _ _ _).1 hr
 obtain ⟨k, lo, hi', ns, ps, rs⟩ := l
 simp only [Lat.kind, Lat.lo, Lat.hi, Lat.names, Lat.parts, Lat.rules] at hi1 hi2 hi3 hns hps hrs hk hp8 ih ⊢
 subst hk
 have IH := hid ih
 have HP8 := hid hp8
 have HPS := hid hps
 have HRV : Hid (readV (.mk 7 lo hi' ns ps rs) s = (.mk 0 [] (readParts ps s).1 [], (readParts ps s).2)) := hid (by rw [readV]; rfl)
 generalize readV (.mk 7 lo hi' ns ps rs) s = R at HRV ⊢
 have HLA := hid (PartsAt.start ps s)
 generalize readParts ps s = RL at HRV HLA
 obtain ⟨ap, cp, rfl, _, hm⟩ := hps.shape
 have HST := hid (RdSt.start h #[.int .i64 7, .int .i64 lo, .int .i64 hi', vn, .slice ap ps.length cp, vr])
 have HL := hid hl
 clear h hl hr hns hps hrs ih hp8
 obtain ⟨j0, hj0, hy0, hy1, hy2⟩ := info_parts infoVal
 have ks0 := HST.out.cellV 0
 have ks1 := HST.out.cellV 1
 have ks2 := HST.out.cellV 2
 have ks3 := HST.out.cellV 3
 have rr0 := HST.out.cellR 0
 have rr1 := HST.out.cellR 1
 have rr2 := HST.out.cellR 2
 have rr3 := HST.out.cellR 3
 have es0 := HST.out.freeR 0
 have es1 := HST.out.freeR 1
 have es2 := HST.out.freeR 2
 have es3 := HST.out.freeR 3
 have zs0 := HST.out.freeV 0
 have zs1 := HST.out.freeV 1
 have zs2 := HST.out.freeV 2
 have zs3 := HST.out.freeV 3
 simp only [List.getElem?_toArray, List.getElem?_cons_zero, List.getElem?_cons_succ] at ks0 ks1 ks2 ks3 rr0 rr1 rr2 rr3
 clear ks0 ks1 ks2 ks3 rr0 rr1 rr2 rr3 es0 es1 es2 es3 zs0 zs1 zs2 zs3
 go_enter Tryz.func54, Tryz.ntmps54
 go_wp2_with fail
 go_loopw [12, 18] (fun _ i wr => ∃ (j : Nat) (s : RS) (vq : Value) (av : List Val) (cV : List (List Value)), j ≤ ps.length ∧ i = .int .i64 j ∧ Hid (av.length = j) ∧ Hid (RdSt w wr B rv s #[.int .i64 7, .int .i64 lo, .int .i64 hi', vn, .slice ap ps.length cp, vr] (.int .i64 0) (.slice none 0 0) vq (.slice none 0 0)) ∧
     Hid (Rws wr (w.heap.size + 3) 30 4 valRd vq av cV) ∧ Hid (PartsAt RL ps av j s) ∧ Hid (s.data.length ≤ 1000000000)) (fun _ i _ => ps.length - (intOf i).toNat)
 case atStart => exact ⟨0, s, _, [], [], Nat.zero_le _, rfl, hid rfl, HST, hid (Rws.nil _ _ _ _ _), HLA, HL⟩
 case round =>
  obtain ⟨j, s2, vq, av, cV, hj, rfl, HAV, STW, HRP, HLW, HNW⟩ := hrel
  obtain ⟨aq, cq, rfl⟩ := owns_shape HRP.out.own
  clear HLA
  by_cases hlt : j < ps.length
  · obtain ⟨b, o, cs0, ha, hl0, hcs, hlp⟩ := HPS.out.at j hlt
    subst ha
    obtain ⟨an0, cn0, ap0, cp0, ar0, cr0, rfl, hyi, hyn, hyp, hyr, _⟩ := latRd.lay hlp
    have HLP := hid hlp
    obtain ⟨f0, f1, f2, f3, f4, f5⟩ := hcs.six
    have f0 := STW.out.latCell f0
    have f1 := STW.out.latCell f1
    have f2 := STW.out.latCell f2
    have f3 := STW.out.latCell f3
    have f4 := STW.out.latCell f4
    have f5 := STW.out.latCell f5
    clear hlp hcs hyi hyn hyp hyr
    have HLS : Hid (PartsAt RL ps (av ++ [(readV ps[j] s2).1]) (j + 1) (readV ps[j] s2).2) := hid (HLW.out.step hlt)
    have HJ : Hid (j + 1 ≤ 9223372036854775807 ∧ j + 1 ≤ ps.length) := hid (by omega)
    have HMY : Hid (av.length + 1 ≤ maxLen ∧ (av.length + 1) * 80 ≤ 140737488355328) := hid (by have := HAV.out; have := HP8.out; unfold maxLen; omega)
    go_wp2_with fail
    have ST6 := hid (STW.out.alloc (.cells #[.int .i64 ps[j].kind, .int .i64 ps[j].lo, .int .i64 ps[j].hi, .slice an0 ps[j].names.length cn0, .slice ap0 ps[j].parts.length cp0, .slice ar0 ps[j].rules.length cr0] 26 (0, 0)))
    have HP6 : Hid (Rws (wr.alloc (.cells #[.int .i64 ps[j].kind, .int .i64 ps[j].lo, .int .i64 ps[j].hi, .slice an0 ps[j].names.length cn0, .slice ap0 ps[j].parts.length cp0, .slice ar0 ps[j].rules.length cr0] 26 (0, 0))) (w.heap.size + 3) 30 4 valRd (.slice aq av.length cq) av cV) := hid (HRP.out.keep valRd_mono' fun b _ hl => Below.heap_alloc _ _ _ hl)
    have HBX : Hid (∀ (i : Nat) (v : Value), #[.int .i64 ps[j].kind, .int .i64 ps[j].lo, .int .i64 ps[j].hi, .slice an0 ps[j].names.length cn0, .slice ap0 ps[j].parts.length cp0, .slice ar0 ps[j].rules.length cr0][i]? = some v → (wr.alloc (.cells #[.int .i64 ps[j].kind, .int .i64 ps[j].lo, .int .i64 ps[j].hi, .slice an0 ps[j].names.length cn0, .slice ap0 ps[j].parts.length cp0, .slice ar0 ps[j].rules.length cr0] 26 (0, 0))).cell? ⟨wr.heap.size, i, none⟩ = some v) := hid fun i v hv => by
      rw [World.cell?_alloc_at _ _ _ _ rfl]; exact hv
    have g0 := HBX.out 0 _ rfl
    have g1 := HBX.out 1 _ rfl
    have g2 := HBX.out 2 _ rfl
    have g3 := HBX.out 3 _ rfl
    have g4 := HBX.out 4 _ rfl
    have g5 := HBX.out 5 _ rfl
    have k62 := ST6.out.cellV 2
    simp only [List.getElem?_toArray, List.getElem?_cons_zero, List.getElem?_cons_succ] at k62
    clear f0 f1 f2 f3 f4 f5 STW HRP HBX
    generalize wr.alloc (.cells #[.int .i64 ps[j].kind, .int .i64 ps[j].lo, .int .i64 ps[j].hi, .slice an0 ps[j].names.length cn0, .slice ap0 ps[j].parts.length cp0, .slice ar0 ps[j].rules.length cr0] 26 (0, 0)) = w6 at ST6 HP6 g0 g1 g2 g3 g4 g5 k62 ⊢
    have HDR6 : Hid (∀ q, RdAt (w6.drewN q) B rv s2 ∧ latRd (only (notB B) (w6.drewN q)) ps[j] [.int .i64 ps[j].kind, .int .i64 ps[j].lo, .int .i64 ps[j].hi, .slice an0 ps[j].names.length cn0, .slice ap0 ps[j].parts.length cp0, .slice ar0 ps[j].rules.length cr0]) := hid fun q => ⟨(ST6.out.drewN q).rd, (ST6.out.drewN q).lat HLP.out⟩
    go_region_law
     (first
       | (refine step_append (by rfl) (.tmp 23) (.tmp 27) 27 (by rfl) (w.heap.size + 3) 30 4 80 Tryz.underlying27 hj0 hy0 hy1 hy2 rfl (by decide) (.slice aq av.length cq) av.length cV.flatten (by rfl) (HOWV.out _) _ 1 [.int .i64 x.n, .slice xn x.names.length xcn, .slice xp x.parts.length xcp, .slice xe x.entries.length xce] (by rfl) (Src.of_block (cs := #[.int .i64 x.n, .slice xn x.names.length xcn, .slice xp x.parts.length xcp, .slice xe x.entries.length xce]) (heap_alloc_new _ _) 4 1 1 rfl (by simp [Value.oneCell'])) (av.length + 1) rfl _ rfl HMY.out.1 HMY.out.2 (HBV.out _) ?_
          intro na2 nc2 w9 had
          have HAD := hid had
          have ST9 : Hid (RdSt w w9 B rv s4 #[.int .i64 7, .int .i64 lo, .int .i64 hi', vn, .slice (some ⟨b, o, none⟩) ps.length cp, vr] (.int .i64 0) (.slice none 0 0) (.slice aq av.length cq) (.slice none 0 0)) := hid ((ST7.out.alloc _).grown had.grown (fun g hg => ((HOWV.out (.cells #[] 0 (0, 0))).lt g hg).1))
          have kv2 := ST9.out.cellV 2
          have zv2 := ST9.out.freeV 2
          simp only [List.getElem?_toArray, List.getElem?_cons_zero, List.getElem?_cons_succ] at kv2
          clear had)
       | (go_simp
          go_at_call 54
          refine (IH.out ps[j] (List.getElem_mem hlt) s2 [.int .i64 ps[j].kind, .int .i64 ps[j].lo, .int .i64 ps[j].hi, .slice an0 ps[j].names.length cn0, .slice ap0 ps[j].parts.length cp0, .slice ar0 ps[j].rules.length cr0] _ (HDR6.out _).1 HNW.out (HDR6.out _).2).mono ?_
          rintro e w7 ⟨cs7, rfl, hv7, hp⟩
          have ST7 : Hid (RdSt w w7 B rv (readV ps[j] s2).2 #[.int .i64 7, .int .i64 lo, .int .i64 hi', vn, .slice (some ⟨b, o, none⟩) ps.length cp, vr] (.int .i64 0) (.slice none 0 0) (.slice aq av.length cq) (.slice none 0 0)) := hid ((ST6.out.drewN _).call hp)
          have HX7 : Hid (valRd (only (from_ w6.heap.size) w7) (readV ps[j] s2).1 cs7) := hid hv7
          have HKP : Hid (∀ b, w.heap.size + 3 ≤ b → b < w6.heap.size → w7.heap[b]? = w6.heap[b]?) := hid fun b hb hl => hp.2.block b hl (by have := ST7.out.lt; omega)
          have HRP7 : Hid (Rws w7 (w.heap.size + 3) 30 4 valRd (.slice aq av.length cq) av cV) := hid (HP6.out.keep valRd_mono' HKP.out)
          have HOLD : Hid (∀ g, (Value.slice aq av.length cq).ownBlock = some g → g < w6.heap.size) := hid fun g h => (HP6.out.own.lt g h).2
          have HOWV : Hid (∀ O, (w7.alloc O).ownsRow (w.heap.size + 3) 30 4 (.slice aq av.length cq) av.length cV.flatten) := hid fun O => owns_below HRP7.out.own ((Below.refl _ _).alloc (Nat.le_refl _) O)
          have HBV : Hid (∀ O, w.heap.size + 3 ≤ (w7.alloc O).heap.size) := hid fun O => (ST7.out.alloc O).big
          have ka2 := fun O => (ST7.out.alloc O).cellV 2
          have za2 := fun O => (ST7.out.alloc O).freeV 2
          have kb2 := ST7.out.cellV 2
          simp only [List.getElem?_toArray, List.getElem?_cons_zero, List.getElem?_cons_succ] at ka2 kb2
          have HD4 : Hid ((readV ps[j] s2).2.data.length ≤ 1000000000) := hid (by have := (HDR6.out 0).1.len hp.1; have := HNW.out; omega)
          generalize readV ps[j] s2 = q at HX7 HLS HD4 hp hv7 ST7 ⊢
          obtain ⟨x, s4⟩ := q
          simp only at HX7 HLS HD4 hv7 ST7 ⊢
          obtain ⟨xn, xcn, xp, xcp, xe, xce, rfl, _, hsn, hsp, hse, _⟩ := valRd.lay hv7
          clear hp hv7 hsn hsp hse))
    all_goals
     have HAX : Hid (Appd (w7.alloc (.cells #[.int .i64 x.n, .slice xn x.names.length xcn, .slice xp x.parts.length xcp, .slice xe x.entries.length xce] 30 (0, 0))) w9 (w.heap.size + 3) 30 4 (.slice aq av.length cq) (.slice na2 (av.length + 1) nc2) (av.length + 1) (cV.flatten ++ [.int .i64 x.n, .slice xn x.names.length xcn, .slice xp x.parts.length xcp, .slice xe x.entries.length xce])) := HAD
     have STA := hid (ST9.out.set 2 (.slice na2 (av.length + 1) nc2) (n' := .int .i64 0) rfl)
     have HPA : Hid (Rws (w9.setCell ⟨w.heap.size + 1 + 1, 2, none⟩ (.slice na2 (av.length + 1) nc2)) (w.heap.size + 3) 30 4 valRd (.slice na2 (av.length + 1) nc2) (av ++ [x]) (cV ++ [[.int .i64 x.n, .slice xn x.names.length xcn, .slice xp x.parts.length xcp, .slice xe x.entries.length xce]])) := hid
      (((HRP7.out.keep valRd_mono' fun b _ hl => Below.heap_alloc _ _ _ hl).push valRd_mono' HAX.out rfl rfl rfl (valRd_mono' (only_keep fun b hb hl => by
          have hb' := of_decide_eq_true hb
          refine ⟨?_, Below.heap_alloc _ _ _ hl⟩
          unfold butOwn
          simp only [Bool.and_eq_true, decide_eq_true_eq]
          refine ⟨by have := ST6.out.big; omega, fun e => ?_⟩
          have := HOLD.out b e; omega) HX7.out)).keep valRd_mono' fun b hb _ => Below.heap_setCell _ _ _ _ (by show b ≠ w.heap.size + 1 + 1; omega))
     have HLV : Hid ((av ++ [x]).length = j + 1) := hid (by have := HAV.out; simp; omega)
     clear HAD kv2 zv2 ka2 za2 kb2 k62 g0 g1 g2 g3 g4 g5
     go_wp2_with fail
     go_roundw
     case rel => exact ⟨j + 1, s4, _, av ++ [x], _, HJ.out.2, by go_num, HLV, STA, HPA, HLS, HD4⟩
     case measure => simp [intOf]; omega
  · have hjj : j = ps.length := by omega
    subst hjj
    have HE := hid HLW.out.end0
    have kw0 := STW.out.cellV 0
    have kw1 := STW.out.cellV 1
    have kw2 := STW.out.cellV 2
    have kw3 := STW.out.cellV 3
    have rw0 := STW.out.cellR 0
    have rw1 := STW.out.cellR 1
    have rw2 := STW.out.cellR 2
    have rw3 := STW.out.cellR 3
    have ew0 := STW.out.freeR 0
    have ew1 := STW.out.freeR 1
    have ew2 := STW.out.freeR 2
    have ew3 := STW.out.freeR 3
    have zw0 := STW.out.freeV 0
    have zw1 := STW.out.freeV 1
    have zw2 := STW.out.freeV 2
    have zw3 := STW.out.freeV 3
    simp only [List.getElem?_toArray, List.getElem?_cons_zero, List.getElem?_cons_succ] at kw0 kw1 kw2 kw3 rw0 rw1 rw2 rw3
    go_wp2_with fail
    refine bodyPost_ret (v := .agg #[.int .i64 0, .slice none 0 0, .slice aq av.length cq, .slice none 0 0]) (by simp [results, Tryz.results54, go_sem, kw0, kw1, kw2, kw3, rw0, rw1, rw2, rw3, ew0, ew1, ew2, ew3]) rfl (RdSt.post (x := .mk 0 [] av []) STW.out ((valRd_iff _ _ _).2 ⟨_, _, _, rfl, i64_0, sl_none _ _ _, HRP.out.reads valRd_mono', sl_none _ _ _⟩) (by rw [HRV.out, HE.out]) _ _ _ _)
theorem infoTick2 : (Tryz.prog.info? 99).map (fun i => (i.zero, i.size, i.bytes)) = some (some (.agg #[.int .i64 0, .int .i64 0]), 2, 16) := by kernel_rfl
theorem infoEntry : (Tryz.prog.info? 43).map (fun i => (i.zero, i.size, i.bytes)) = some (some (.agg #[.slice none 0 0, .string ByteArray.empty]), 2, 40) := by kernel_rfl
theorem entryRd_mono' {a b : World} {x : En} {cs : List Value} (h : Sub a b) (k : entryRd a x cs) : entryRd b x cs := entryRd.mono k h
theorem Rws.frame {α : Type} {w w' : World} {base E sz : Nat} {R : World → α → List Value → Prop} {v : Value} {l : List α} {css : List (List Value)} (h : Rws w base E sz R v l css)
 (hR : ∀ {a b : World} {x cs}, Sub a b → R a x cs → R b x cs) (hk : ∀ b, base ≤ b → b < w.heap.size → w'.heap[b]? = w.heap[b]?) : Rws w' base E sz R v l css := h.keep hR hk
theorem read_reg (l : Lat) (B : Nat) (rv : Value) (s : RS) (cs : List Value) (w : World) (h : RdAt w B rv s) (hl : s.data.length ≤ 1000000000) (hr : latRd (only (notB B) w) l cs) (hk : l.kind = 9) :
 Calls Tryz.prog 54 #[.pointer (some ⟨B, 0, none⟩), .agg cs.toArray] w (ReadPost B rv w (readV l s)) := by
 obtain ⟨vn, vp, vr, rfl, ⟨hi1, hi2, hi3⟩, hns, hps, hrs⟩ := (latRd_iff _ _ _).1 hr
 obtain ⟨k, lo, hi', ns, ps, rs⟩ := l
 simp only [Lat.kind, Lat.lo, Lat.hi, Lat.names, Lat.parts, Lat.rules] at hi1 hi2 hi3 hns hps hrs hk ⊢
 subst hk
 have HRV : Hid (readV (.mk 9 lo hi' ns ps rs) s = (.mk 0 [] [] (rdLoop rdEntry (rdCount s).1 (rdCount s).2).1, (rdLoop rdEntry (rdCount s).1 (rdCount s).2).2)) := hid (by rw [readV]; rfl)
 generalize readV (.mk 9 lo hi' ns ps rs) s = R at HRV ⊢
 have HST := hid (RdSt.start h #[.int .i64 9, .int .i64 lo, .int .i64 hi', vn, vp, vr])
 have HL := hid hl
 have HO := hid h
 have HO1 := hid HST.out.rd
 have HC := hid (rdCount_ok h.ok)
 clear h hl hr hns hps hrs
 obtain ⟨i0, hi0, hz0, hz1, hz2⟩ := info_parts infoTick2
 obtain ⟨j0, hj0, hy0, hy1, hy2⟩ := info_parts infoEntry
 go_enter Tryz.func54, Tryz.ntmps54
 go_wp2_with fail
 refine (rCount_any B rv s _ HO1.out HL.out).mono ?_
 rintro e w1 ⟨rfl, hp⟩
 have ST1 := hid (HST.out.call hp)
 clear hp
 have HL1 : Hid ((rdCount s).2.data.length = s.data.length) := hid (congrArg List.length HC.out.2.1)
 generalize rdCount s = q at HRV HC HL1 ST1 ⊢
 obtain ⟨N, s1⟩ := q
 simp only at HRV HC HL1 ST1 ⊢
 have HLA := hid (LoopAt.start rdEntry N s1)
 generalize rdLoop rdEntry N s1 = RL at HRV HLA
 have HN : Hid (N ≤ 1000000000 ∧ s1.data.length ≤ 1000000000) := hid (by have := HC.out.2.2; have := HL1.out; have := HL.out; omega)
 clear HC HL1
 go_wp2_with fail
 go_loopw [7, 8, 9, 10] (fun n _ _ _ wr => ∃ (k : Nat) (s : RS) (ve : Value) (acc : List En) (cE : List (List Value)), n = .int .i64 k ∧ Hid (RdSt w wr B rv s #[.int .i64 9, .int .i64 lo, .int .i64 hi', vn, vp, vr] (.int .i64 0) (.slice none 0 0) (.slice none 0 0) ve) ∧
     Hid (Rws wr (w.heap.size + 3) 43 2 entryRd ve acc cE) ∧ Hid (LoopAt RL rdEntry acc k s) ∧ Hid (acc.length + k ≤ 1000000000 ∧ s.data.length ≤ 1000000000)) (fun n _ _ _ _ => (intOf n).toNat)
 case atStart => exact ⟨N, s1, _, [], [], rfl, ST1, hid (Rws.nil _ _ _ _ _), HLA, hid (by have := HN.out; simp; omega)⟩
 case round =>
  obtain ⟨k, s2, ve, acc, cE, rfl, STW, HRE, HLW, HNW⟩ := hrel
  obtain ⟨ae, ce, rfl⟩ := owns_shape HRE.out.own
  have HOW := hid STW.out.rd
  clear HLA
  have kw0 := STW.out.cellV 0
  have kw1 := STW.out.cellV 1
  have kw2 := STW.out.cellV 2
  have kw3 := STW.out.cellV 3
  have rw0 := STW.out.cellR 0
  have rw1 := STW.out.cellR 1
  have rw2 := STW.out.cellR 2
  have rw3 := STW.out.cellR 3
  have ew0 := STW.out.freeR 0
  have ew1 := STW.out.freeR 1
  have ew2 := STW.out.freeR 2
  have ew3 := STW.out.freeR 3
  have zw0 := STW.out.freeV 0
  have zw1 := STW.out.freeV 1
  have zw2 := STW.out.freeV 2
  have zw3 := STW.out.freeV 3
  simp only [List.getElem?_toArray, List.getElem?_cons_zero, List.getElem?_cons_succ] at kw0 kw1 kw2 kw3 rw0 rw1 rw2 rw3
  have HFIN : Hid (∀ (a b c d : Value), RL = (acc, s2) → ReadPost B rv w R (.returned (.agg #[.int .i64 0, .slice none 0 0, .slice none 0 0, .slice ae acc.length ce])) ((((wr.setCell ⟨w.heap.size + 1, 0, none⟩ a).setCell ⟨w.heap.size + 1, 1, none⟩ b).setCell ⟨w.heap.size + 1, 2, none⟩ c).setCell ⟨w.heap.size + 1, 3, none⟩ d)) := hid fun a b c d hE =>
   RdSt.post (x := .mk 0 [] [] acc) STW.out ((valRd_iff _ _ _).2 ⟨_, _, _, rfl, i64_0, sl_none _ _ _, sl_none _ _ _, HRE.out.reads entryRd_mono'⟩) (by rw [HRV.out, hE]) _ _ _ _
  by_cases hk0 : k = 0
  · have HK := hid hk0
    subst hk0
    have HE := hid HLW.out.end0
    go_wp2_with fail
    refine bodyPost_ret (v := .agg #[.int .i64 0, .slice none 0 0, .slice none 0 0, .slice ae acc.length ce]) (by simp [results, Tryz.results54, go_sem, kw0, kw1, kw2, kw3, rw0, rw1, rw2, rw3, ew0, ew1, ew2, ew3]) rfl (HFIN.out _ _ _ _ HE.out)
  · have hkp : 0 < k := by omega
    have HK := hid hk0
    clear hk0
    go_wp2_with fail
    refine (rErr_any B rv s2 _ HOW.out).mono ?_
    rintro e w2 ⟨rfl, rfl⟩
    by_cases he : s2.err = 0
    · have HE := hid he
      have heb : (s2.err == 0) = true := by simpa using he
      clear he
      have HLS : Hid (LoopAt RL rdEntry (acc ++ [(rdEntry s2).1]) (k - 1) (rdEntry s2).2) := hid (by
       have := HLW.out
       rw [show k = k - 1 + 1 by omega] at this
       exact this.step HE.out)
      have HMX : Hid (acc.length + 1 ≤ maxLen ∧ (acc.length + 1) * 40 ≤ 140737488355328) := hid (by have := HNW.out; have := HK.out; unfold maxLen; omega)
      obtain ⟨wo, rfl⟩ : ∃ wo : World, wo = w2 := ⟨_, rfl⟩
      have HGW : Hid (w.heap.size + 3 ≤ wo.heap.size) := hid STW.out.big
      clear kw0 kw1 kw2 kw3 rw0 rw1 rw2 rw3 ew0 ew1 ew2 ew3 zw0 zw1 zw2 zw3 HFIN
      go_wp2_with fail
      have STA := hid (STW.out.alloc (.cells #[.slice none 0 0, .string ByteArray.empty] 43 (0, 0)))
      have HCO := hid (rdCount_ok STW.out.ok)
      refine (rCount_any B rv s2 _ STA.out.rd HNW.out.2).mono ?_
      rintro e w3 ⟨rfl, hp⟩
      have STB := hid (STA.out.call hp)
      have HGB : Hid (w3.heap[wo.heap.size]? = some (.cells #[.slice none 0 0, .string ByteArray.empty] 43 (0, 0))) := hid ((hp.2.block _ (by simp) (by have := STW.out.lt; have := HGW.out; omega)).trans (heap_alloc_new _ _))
      have HFB : Hid (∀ b, w.heap.size + 3 ≤ b → b < wo.heap.size → w3.heap[b]? = wo.heap[b]?) := hid fun b h1 h2 => (hp.2.block b (by simp; omega) (by have := STW.out.lt; omega)).trans (Below.heap_alloc _ _ _ h2)
      have HRY : Hid (rdEntry s2 = (⟨(rdLoop rdTick (rdCount s2).1 (rdCount s2).2).1, (rdText (rdLoop rdTick (rdCount s2).1 (rdCount s2).2).2).1⟩, (rdText (rdLoop rdTick (rdCount s2).1 (rdCount s2).2).2).2)) := hid rfl
      have HCL : Hid ((rdCount s2).1 ≤ 1000000000 ∧ (rdCount s2).2.data.length ≤ 1000000000) := hid (by have h1 := HCO.out.2.2; have h2 := congrArg List.length HCO.out.2.1; have := HNW.out; omega)
      generalize rdCount s2 = q at HRY HCL hp STB ⊢
      obtain ⟨M, s4⟩ := q
      simp only at HRY HCL STB ⊢
      clear hp HCO
      have HLB := hid (LoopAt.start rdTick M s4)
      generalize rdLoop rdTick M s4 = RT at HRY HLB
      go_wp2_with fail
      go_loopw [9, 10] (fun n _ wr => ∃ (kk : Nat) (s5 : RS) (vc : Value) (accT : List Tk) (cT : List (List Value)), n = .int .i64 kk ∧ Hid (RdSt w wr B rv s5 #[.int .i64 9, .int .i64 lo, .int .i64 hi', vn, vp, vr] (.int .i64 0) (.slice none 0 0) (.slice none 0 0) (.slice ae acc.length ce)) ∧
          Hid (wr.heap[wo.heap.size]? = some (.cells #[vc, .string ByteArray.empty] 43 (0, 0))) ∧ Hid (Rws wr (wo.heap.size + 1) 99 2 (fun _ => tickRd) vc accT cT) ∧
          Hid (∀ b, w.heap.size + 3 ≤ b → b < wo.heap.size → wr.heap[b]? = wo.heap[b]?) ∧ Hid (LoopAt RT rdTick accT kk s5) ∧ Hid (accT.length + kk ≤ 1000000000 ∧ s5.data.length ≤ 1000000000)) (fun n _ _ => (intOf n).toNat)
      case atStart => exact ⟨M, s4, _, [], [], rfl, STB, HGB, hid (Rws.nil _ _ _ _ _), HFB, HLB, hid (by have := HCL.out; simp; omega)⟩
      case round =>
       obtain ⟨kk, s5, vc, accT, cT, rfl, STT, HGT, HRT, HFR, HLT, HNT⟩ := hrel
       obtain ⟨at', ct, rfl⟩ := owns_shape HRT.out.own
       have HOT := hid STT.out.rd
       by_cases hkk : kk = 0
       · have HKK := hid hkk
         subst hkk
         have HEX : Hid (RT = (accT, s5)) := hid (HLT.out.end0)
         have HNM : Hid ((rdEntry s2) = (⟨accT, (rdText s5).1⟩, (rdText s5).2)) := hid (by rw [HRY.out, HEX.out])
         go_wp2_with fail
         have HOX := hid STT.out.rd
         refine (rText_any B rv s5 _ HOX.out HNT.out.2).mono ?_
         rintro e w7 ⟨rfl, hp⟩
         have ST7 := hid (STT.out.call hp)
         have HX7 : Hid ((rdText s5).1.size ≤ maxLen) := hid (by have := rdText_le STT.out.ok; have := HNT.out.2; unfold maxLen; omega)
         have HNX7 : Hid ((rdText s5).2.data.length ≤ 1000000000) := hid (by have := HOX.out.len hp.1; have := HNT.out.2; omega)
         have HG7 : Hid (w7.heap[wo.heap.size]? = some (.cells #[.slice at' accT.length ct, .string ByteArray.empty] 43 (0, 0))) := hid ((hp.2.block _ (block_lt HGT.out) (by have := STT.out.lt; have := HGW.out; omega)).trans HGT.out)
         have HRT7 : Hid (Rws w7 (wo.heap.size + 1) 99 2 (fun _ => tickRd) (.slice at' accT.length ct) accT cT) := hid (HRT.out.keep (fun _ h => h) fun b hb hl => hp.2.block b hl (by have := STT.out.lt; have := HGW.out; omega))
         have HFR7 : Hid (∀ b, w.heap.size + 3 ≤ b → b < wo.heap.size → w7.heap[b]? = wo.heap[b]?) := hid fun b h1 h2 => (hp.2.block b (by have := block_lt HGT.out; omega) (by have := STT.out.lt; omega)).trans (HFR.out b h1 h2)
         generalize rdText s5 = q at HNM HX7 HNX7 hp ST7 ⊢
         obtain ⟨nm, s7⟩ := q
         simp only at HNM HX7 HNX7 ST7 ⊢
         clear hp
         have y0 := cell_at_block (i := 0) HG7.out
         have y1 := cell_at_block (i := 1) HG7.out
         have y2 := free_at_block (i := 1) HG7.out
         have k73 := ST7.out.cellV 3
         simp only [List.getElem?_toArray, List.getElem?_cons_zero, List.getElem?_cons_succ] at y0 y1 k73
         have hne1 : wo.heap.size ≠ w.heap.size + 1 + 1 := by have := HGW.out; omega
         have hne2 : w.heap.size + 1 + 1 ≠ wo.heap.size := by have := HGW.out; omega
         have HG8 : Hid ((w7.setCell ⟨wo.heap.size, 1, none⟩ (.string nm)).heap[wo.heap.size]? = some (.cells #[.slice at' accT.length ct, .string nm] 43 (0, 0))) := hid (block_set HG7.out _)
         have ST8 : Hid (RdSt w (w7.setCell ⟨wo.heap.size, 1, none⟩ (.string nm)) B rv s7 #[.int .i64 9, .int .i64 lo, .int .i64 hi', vn, vp, vr] (.int .i64 0) (.slice none 0 0) (.slice none 0 0) (.slice ae acc.length ce)) := hid (ST7.out.far ((Below.refl _ _).setCell (by show w.heap.size + 3 ≤ wo.heap.size; exact HGW.out) _))
         have HRE8 : Hid (Rws (w7.setCell ⟨wo.heap.size, 1, none⟩ (.string nm)) (w.heap.size + 3) 43 2 entryRd (.slice ae acc.length ce) acc cE) := hid (Rws.frame HRE.out entryRd_mono' (fun b h1 h2 => (Below.heap_setCell _ _ _ _ (by show b ≠ wo.heap.size; omega)).trans (HFR7.out b h1 h2)))
         have HRT8 : Hid (Rws (w7.setCell ⟨wo.heap.size, 1, none⟩ (.string nm)) (wo.heap.size + 1) 99 2 (fun _ => tickRd) (.slice at' accT.length ct) accT cT) := hid (HRT7.out.keep (fun _ h => h) fun b hb _ => Below.heap_setCell _ _ _ _ (by show b ≠ wo.heap.size; omega))
         have HSZ8 : Hid (wo.heap.size < (w7.setCell ⟨wo.heap.size, 1, none⟩ (.string nm)).heap.size) := hid (block_lt HG8.out)
         have HOWE : Hid (∀ O, ((w7.setCell ⟨wo.heap.size, 1, none⟩ (.string nm)).alloc O).ownsRow (w.heap.size + 3) 43 2 (.slice ae acc.length ce) acc.length cE.flatten) := hid fun O => owns_below HRE8.out.own ((Below.refl _ _).alloc (Nat.le_refl _) O)
         have HBV : Hid (∀ O, w.heap.size + 3 ≤ ((w7.setCell ⟨wo.heap.size, 1, none⟩ (.string nm)).alloc O).heap.size) := hid fun O => (ST8.out.alloc O).big
         have HSRC : Hid (Src ((w7.setCell ⟨wo.heap.size, 1, none⟩ (.string nm)).alloc (.cells #[.slice at' accT.length ct, .string nm] 43 (0, 0))) 2 (.slice (some ⟨w7.heap.size, 0, none⟩) 1 1) 1 [.slice at' accT.length ct, .string nm]) := hid (by
          have h0 : (w7.setCell ⟨wo.heap.size, 1, none⟩ (.string nm)).heap.size = w7.heap.size := by simp [World.setCell]
          have h1 := heap_alloc_new (w7.setCell ⟨wo.heap.size, 1, none⟩ (.string nm)) (.cells #[.slice at' accT.length ct, .string nm] 43 (0, 0))
          rw [h0] at h1
          exact Src.of_block (cs := #[.slice at' accT.length ct, .string nm]) h1 2 1 1 rfl (by simp [Value.oneCell']))
         have HEW : Hid (∀ g, (Value.slice ae acc.length ce).ownBlock = some g → g < wo.heap.size) := hid fun g hg => (HRE.out.own.lt g hg).2
         have k83 := ST8.out.cellV 3
         have k83a := fun O => (ST8.out.alloc O).cellV 3
         have z83a := fun O => (ST8.out.alloc O).freeV 3
         have y8 := cell_at_block (i := 0) HG8.out
         have y9 := cell_at_block (i := 1) HG8.out
         simp only [List.getElem?_toArray, List.getElem?_cons_zero, List.getElem?_cons_succ] at y8 y9 k83 k83a
         go_wp2_with (at_builtin; refine wpList_append rfl (.tmp 129) (.tmp 131) 28 rfl (w.heap.size + 3) 43 2 40 Tryz.underlying28 hj0 hy0 hy1 hy2 rfl (by decide) (.slice ae acc.length ce) acc.length cE.flatten rfl (HOWE.out _) _ 1 [.slice at' accT.length ct, .string nm] rfl HSRC.out (acc.length + 1) rfl _ rfl HMX.out.1 HMX.out.2 (HBV.out _) ?_; intro na nc w9 had; have HAD := hid had; have ST9 : Hid (RdSt w w9 B rv s7 #[.int .i64 9, .int .i64 lo, .int .i64 hi', vn, vp, vr] (.int .i64 0) (.slice none 0 0) (.slice none 0 0) (.slice ae acc.length ce)) := hid ((ST8.out.alloc _).grown had.grown (fun g hg => ((HOWE.out (.cells #[] 0 (0, 0))).lt g hg).1)); have kv3 := ST9.out.cellV 3; have zv3 := ST9.out.freeV 3; simp only [List.getElem?_toArray, List.getElem?_cons_zero, List.getElem?_cons_succ] at kv3; clear had)
         have STA := hid (ST9.out.set 3 (.slice na (acc.length + 1) nc) (n' := .int .i64 0) rfl)
         have HRA : Hid (Rws (w9.setCell ⟨w.heap.size + 1 + 1, 3, none⟩ (.slice na (acc.length + 1) nc)) (w.heap.size + 3) 43 2 entryRd (.slice na (acc.length + 1) nc) (acc ++ [⟨accT, nm⟩]) (cE ++ [[.slice at' accT.length ct, .string nm]])) := hid
          (((HRE8.out.keep entryRd_mono' fun b _ hl => Below.heap_alloc _ _ _ hl).push entryRd_mono' HAD.out rfl rfl rfl (entryRd_mono' (only_keep fun b hb hl => by
              have hb' := of_decide_eq_true hb
              refine ⟨?_, Below.heap_alloc _ _ _ hl⟩
              unfold butOwn
              simp only [Bool.and_eq_true, decide_eq_true_eq]
              refine ⟨by have := HGW.out; omega, fun e => ?_⟩
              have := HEW.out b e; omega) (⟨_, rfl, HRT8.out.reads fun _ h => h, HX7.out⟩ : entryRd (only (from_ (wo.heap.size + 1)) (w7.setCell ⟨wo.heap.size, 1, none⟩ (.string nm))) ⟨accT, nm⟩ [.slice at' accT.length ct, .string nm]))).keep entryRd_mono' fun b hb _ => Below.heap_setCell _ _ _ _ (by show b ≠ w.heap.size + 1 + 1; omega))
         have HLS2 : Hid (LoopAt RL rdEntry (acc ++ [⟨accT, nm⟩]) (k - 1) s7) := hid (by have := HLS.out; rw [HNM.out] at this; exact this)
         have HNA : Hid ((acc ++ [(⟨accT, nm⟩ : En)]).length + (k - 1) ≤ 1000000000 ∧ s7.data.length ≤ 1000000000) := hid (by have := HNW.out; have := HNX7.out; have := HK.out; simp; omega)
         have HLV : Hid ((acc ++ [(⟨accT, nm⟩ : En)]).length = acc.length + 1) := hid (by simp)
         clear y0 y1 y2 k73 k83 k83a z83a y8 y9 kv3 zv3
         go_wp2_with fail
         have hw1 : wrap64 ((k : Int) - 1) = ((k - 1 : Nat) : Int) := by rw [IntWalk.wrap64_in _ (by have := HNW.out; omega)]; omega
         go_roundw
         case rel => exact ⟨k - 1, s7, _, acc ++ [⟨accT, nm⟩], _, by rw [hw1], STA, HRA, HLS2, HNA⟩
         case measure => simp [intOf, hw1]; omega
       · have hkq : 0 < kk := by omega
         have HKK := hid hkk
         clear hkk
         go_wp2_with fail
         refine (rErr_any B rv s5 _ HOT.out).mono ?_
         rintro e w4 ⟨rfl, rfl⟩
         by_cases he5 : s5.err = 0
         · have HE5 := hid he5
           have heb5 : (s5.err == 0) = true := by simpa using he5
           clear he5
           have HLT2 : Hid (LoopAt RT rdTick (accT ++ [(rdTick s5).1]) (kk - 1) (rdTick s5).2) := hid (by
            have := HLT.out
            rw [show kk = kk - 1 + 1 by omega] at this
            exact this.step HE5.out)
           have HTK : Hid (rdTick s5 = (⟨((rdSmall 63 s5).1 : Nat), ((rdSmall 1000000000000000 (rdSmall 63 s5).2).1 : Nat)⟩, (rdSmall 1000000000000000 (rdSmall 63 s5).2).2)) := hid rfl
           have HT1 := hid (rdSmall_le 63 s5)
           have HMT : Hid (accT.length + 1 ≤ maxLen ∧ (accT.length + 1) * 16 ≤ 140737488355328) := hid (by have := HNT.out; have := HKK.out; unfold maxLen; omega)
           go_wp2_with fail
           refine (rSmall_any B rv s5 63 _ HOT.out HNT.out.2 (by decide)).mono ?_
           rintro e w5 ⟨rfl, hp⟩
           have STU := hid (STT.out.call hp)
           have HNU : Hid ((rdSmall 63 s5).2.data.length ≤ 1000000000) := hid (by have := HOT.out.len hp.1; have := HNT.out.2; omega)
           have HGU : Hid (w5.heap[wo.heap.size]? = some (.cells #[.slice at' accT.length ct, .string ByteArray.empty] 43 (0, 0))) := hid ((hp.2.block _ (block_lt HGT.out) (by have := STT.out.lt; have := HGW.out; omega)).trans HGT.out)
           have HRU : Hid (Rws w5 (wo.heap.size + 1) 99 2 (fun _ => tickRd) (.slice at' accT.length ct) accT cT) := hid (HRT.out.keep (fun _ h => h) fun b hb hl => hp.2.block b hl (by have := STT.out.lt; have := HGW.out; omega))
           have HFU : Hid (∀ b, w.heap.size + 3 ≤ b → b < wo.heap.size → w5.heap[b]? = wo.heap[b]?) := hid fun b h1 h2 => (hp.2.block b (by have := block_lt HGT.out; omega) (by have := STT.out.lt; omega)).trans (HFR.out b h1 h2)
           generalize rdSmall 63 s5 = q at HTK HT1 HNU hp STU ⊢
           obtain ⟨pp, s6⟩ := q
           simp only at HTK HT1 HNU STU ⊢
           clear hp
           have HOU := hid (fun q => (STU.out.drewN q).rd)
           have HT2 := hid (rdSmall_le 1000000000000000 s6)
           have y0 := cell_at_block (i := 0) HGU.out
           have y2 := free_at_block (i := 0) HGU.out
           simp only [List.getElem?_toArray, List.getElem?_cons_zero, List.getElem?_cons_succ] at y0
           go_wp2_with fail
           go_region_law
            (first
              | (refine step_append (by rfl) (.tmp 117) (.tmp 122) 41 (by rfl) (wo.heap.size + 1) 99 2 16 Tryz.underlying41 hi0 hz0 hz1 hz2 rfl (by decide) (.slice at' accT.length ct) accT.length cT.flatten (by rfl) (HOWT.out _) _ 1 [.int .i64 (pp : Nat), .int .i64 (nn : Nat)] (by rfl) (Src.of_block (cs := #[.int .i64 (pp : Nat), .int .i64 (nn : Nat)]) (heap_alloc_new _ _) 2 1 1 rfl (by simp [Value.oneCell'])) (accT.length + 1) rfl _ rfl HMT.out.1 HMT.out.2 (HBT.out _) ?_
                 intro na nc w9 had
                 have HAD := hid had
                 have HG9 : Hid (w9.heap[wo.heap.size]? = some (.cells #[.slice at' accT.length ct, .string ByteArray.empty] 43 (0, 0))) := hid ((had.grown.block _ (block_lt (block_alloc HG6.out _)) HNE.out).trans (block_alloc HG6.out _))
                 have kv0 := cell_at_block (i := 0) HG9.out
                 have zv0 := free_at_block (i := 0) HG9.out
                 simp only [List.getElem?_toArray, List.getElem?_cons_zero, List.getElem?_cons_succ] at kv0
                 clear had)
              | (go_simp
                 go_at_call 93
                 refine (rSmall_any B rv s6 1000000000000000 _ (HOU.out _) HNU.out (by decide)).mono ?_
                 rintro e w6 ⟨rfl, hp⟩
                 have ST6 := hid ((STU.out.drewN _).call hp)
                 have HN6 : Hid ((rdSmall 1000000000000000 s6).2.data.length ≤ 1000000000) := hid (by have := (HOU.out 0).len hp.1; have := HNU.out; omega)
                 have HG6 : Hid (w6.heap[wo.heap.size]? = some (.cells #[.slice at' accT.length ct, .string ByteArray.empty] 43 (0, 0))) := hid ((hp.2.block _ (block_lt HGU.out) (by have := STU.out.lt; have := HGW.out; omega)).trans HGU.out)
                 have HR6 : Hid (Rws w6 (wo.heap.size + 1) 99 2 (fun _ => tickRd) (.slice at' accT.length ct) accT cT) := hid (HRU.out.keep (fun _ h => h) fun b hb hl => hp.2.block b hl (by have := STU.out.lt; have := HGW.out; omega))
                 have HF6 : Hid (∀ b, w.heap.size + 3 ≤ b → b < wo.heap.size → w6.heap[b]? = wo.heap[b]?) := hid fun b h1 h2 => (hp.2.block b (by have := block_lt HGU.out; show b < w5.heap.size; omega) (by have := STU.out.lt; omega)).trans (HFU.out b h1 h2)
                 have HOWT : Hid (∀ O, (w6.alloc O).ownsRow (wo.heap.size + 1) 99 2 (.slice at' accT.length ct) accT.length cT.flatten) := hid fun O => owns_below HR6.out.own ((Below.refl _ _).alloc (Nat.le_refl _) O)
                 have HBT : Hid (∀ O, wo.heap.size + 1 ≤ (w6.alloc O).heap.size) := hid fun O => by have := block_lt HG6.out; simp; omega
                 have HNE : Hid (some wo.heap.size ≠ (Value.slice at' accT.length ct).ownBlock) := hid fun e => by have := (HR6.out.own.lt _ e.symm).1; omega
                 have ka0 := fun O => cell_at_block (i := 0) (block_alloc HG6.out O)
                 have za0 := fun O => free_at_block (i := 0) (block_alloc HG6.out O)
                 have kb0 := cell_at_block (i := 0) HG6.out
                 simp only [List.getElem?_toArray, List.getElem?_cons_zero, List.getElem?_cons_succ] at ka0 kb0
                 generalize rdSmall 1000000000000000 s6 = q at HTK HT2 HN6 hp ST6 ⊢
                 obtain ⟨nn, s7⟩ := q
                 simp only at HTK HT2 HN6 ST6 ⊢
                 clear hp))
           all_goals
            have HAX : Hid (Appd (w6.alloc (.cells #[.int .i64 (pp : Nat), .int .i64 (nn : Nat)] 99 (0, 0))) w9 (wo.heap.size + 1) 99 2 (.slice at' accT.length ct) (.slice na (accT.length + 1) nc) (accT.length + 1) (cT.flatten ++ [.int .i64 (pp : Nat), .int .i64 (nn : Nat)])) := HAD
            have ST9 := hid (((ST6.out.alloc (.cells #[.int .i64 (pp : Nat), .int .i64 (nn : Nat)] 99 (0, 0))).grown HAX.out.grown (fun g hg => by have := ((HOWT.out (.cells #[] 0 (0, 0))).lt g hg).1; have := HGW.out; omega)).far ((Below.refl _ w9).setCell (p := ⟨wo.heap.size, 0, none⟩) HGW.out (.slice na (accT.length + 1) nc)))
            have HGA : Hid ((w9.setCell ⟨wo.heap.size, 0, none⟩ (.slice na (accT.length + 1) nc)).heap[wo.heap.size]? = some (.cells #[.slice na (accT.length + 1) nc, .string ByteArray.empty] 43 (0, 0))) := hid (block_set HG9.out _)
            have HRA : Hid (Rws (w9.setCell ⟨wo.heap.size, 0, none⟩ (.slice na (accT.length + 1) nc)) (wo.heap.size + 1) 99 2 (fun _ => tickRd) (.slice na (accT.length + 1) nc) (accT ++ [⟨(pp : Nat), (nn : Nat)⟩]) (cT ++ [[.int .i64 (pp : Nat), .int .i64 (nn : Nat)]])) := hid
              (((HR6.out.keep (fun _ h => h) fun b _ hl => Below.heap_alloc _ _ _ hl).push (fun _ h => h) HAX.out rfl rfl rfl ⟨rfl, by have := HT1.out; unfold I64; simp only; omega, by have := HT2.out; unfold I64; simp only; omega⟩).keep (fun _ h => h) fun b hb _ => Below.heap_setCell _ _ _ _ (by show b ≠ wo.heap.size; omega))
            have HFA : Hid (∀ b, w.heap.size + 3 ≤ b → b < wo.heap.size → (w9.setCell ⟨wo.heap.size, 0, none⟩ (.slice na (accT.length + 1) nc)).heap[b]? = wo.heap[b]?) := hid fun b h1 h2 =>
             (Below.heap_setCell _ _ _ _ (by show b ≠ wo.heap.size; omega)).trans ((HAX.out.grown.block b (by have := block_lt HG6.out; simp; omega) (fun e => by have := (HR6.out.own.lt b e.symm).1; omega)).trans ((Below.heap_alloc _ _ _ (by have := block_lt HG6.out; omega)).trans (HF6.out b h1 h2)))
            have HLT3 : Hid (LoopAt RT rdTick (accT ++ [⟨(pp : Nat), (nn : Nat)⟩]) (kk - 1) s7) := hid (by have := HLT2.out; rw [HTK.out] at this; exact this)
            have HNA : Hid ((accT ++ [(⟨(pp : Nat), (nn : Nat)⟩ : Tk)]).length + (kk - 1) ≤ 1000000000 ∧ s7.data.length ≤ 1000000000) := hid (by have := HNT.out; have := HN6.out; have := HKK.out; simp; omega)
            have HLV : Hid ((accT ++ [(⟨(pp : Nat), (nn : Nat)⟩ : Tk)]).length = accT.length + 1) := hid (by simp)
            clear HAD kv0 zv0 ka0 za0 kb0 y0 y2
            go_wp2_with fail
            have hw1 : wrap64 ((kk : Int) - 1) = ((kk - 1 : Nat) : Int) := by rw [IntWalk.wrap64_in _ (by have := HNT.out; omega)]; omega
            go_roundw
            case rel => exact ⟨kk - 1, s7, _, accT ++ [⟨(pp : Nat), (nn : Nat)⟩], _, by rw [hw1], ST9, HGA, HRA, HFA, HLT3, HNA⟩
            case measure => simp [intOf, hw1]; omega
         · have heb5 : (s5.err == 0) = false := by simpa using he5
           have HE5 := hid he5
           clear he5
           have HEX : Hid (RT = (accT, s5)) := hid (HLT.out.endE HE5.out)
           have HNM : Hid ((rdEntry s2) = (⟨accT, (rdText s5).1⟩, (rdText s5).2)) := hid (by rw [HRY.out, HEX.out])
           go_wp2_with fail
           have HOX := hid STT.out.rd
           refine (rText_any B rv s5 _ HOX.out HNT.out.2).mono ?_
           rintro e w7 ⟨rfl, hp⟩
           have ST7 := hid (STT.out.call hp)
           have HX7 : Hid ((rdText s5).1.size ≤ maxLen) := hid (by have := rdText_le STT.out.ok; have := HNT.out.2; unfold maxLen; omega)
           have HNX7 : Hid ((rdText s5).2.data.length ≤ 1000000000) := hid (by have := HOX.out.len hp.1; have := HNT.out.2; omega)
           have HG7 : Hid (w7.heap[wo.heap.size]? = some (.cells #[.slice at' accT.length ct, .string ByteArray.empty] 43 (0, 0))) := hid ((hp.2.block _ (block_lt HGT.out) (by have := STT.out.lt; have := HGW.out; omega)).trans HGT.out)
           have HRT7 : Hid (Rws w7 (wo.heap.size + 1) 99 2 (fun _ => tickRd) (.slice at' accT.length ct) accT cT) := hid (HRT.out.keep (fun _ h => h) fun b hb hl => hp.2.block b hl (by have := STT.out.lt; have := HGW.out; omega))
           have HFR7 : Hid (∀ b, w.heap.size + 3 ≤ b → b < wo.heap.size → w7.heap[b]? = wo.heap[b]?) := hid fun b h1 h2 => (hp.2.block b (by have := block_lt HGT.out; omega) (by have := STT.out.lt; omega)).trans (HFR.out b h1 h2)
           generalize rdText s5 = q at HNM HX7 HNX7 hp ST7 ⊢
           obtain ⟨nm, s7⟩ := q
           simp only at HNM HX7 HNX7 ST7 ⊢
           clear hp
           have y0 := cell_at_block (i := 0) HG7.out
           have y1 := cell_at_block (i := 1) HG7.out
           have y2 := free_at_block (i := 1) HG7.out
           have k73 := ST7.out.cellV 3
           simp only [List.getElem?_toArray, List.getElem?_cons_zero, List.getElem?_cons_succ] at y0 y1 k73
           have hne1 : wo.heap.size ≠ w.heap.size + 1 + 1 := by have := HGW.out; omega
           have hne2 : w.heap.size + 1 + 1 ≠ wo.heap.size := by have := HGW.out; omega
           have HG8 : Hid ((w7.setCell ⟨wo.heap.size, 1, none⟩ (.string nm)).heap[wo.heap.size]? = some (.cells #[.slice at' accT.length ct, .string nm] 43 (0, 0))) := hid (block_set HG7.out _)
           have ST8 : Hid (RdSt w (w7.setCell ⟨wo.heap.size, 1, none⟩ (.string nm)) B rv s7 #[.int .i64 9, .int .i64 lo, .int .i64 hi', vn, vp, vr] (.int .i64 0) (.slice none 0 0) (.slice none 0 0) (.slice ae acc.length ce)) := hid (ST7.out.far ((Below.refl _ _).setCell (by show w.heap.size + 3 ≤ wo.heap.size; exact HGW.out) _))
           have HRE8 : Hid (Rws (w7.setCell ⟨wo.heap.size, 1, none⟩ (.string nm)) (w.heap.size + 3) 43 2 entryRd (.slice ae acc.length ce) acc cE) := hid (Rws.frame HRE.out entryRd_mono' (fun b h1 h2 => (Below.heap_setCell _ _ _ _ (by show b ≠ wo.heap.size; omega)).trans (HFR7.out b h1 h2)))
           have HRT8 : Hid (Rws (w7.setCell ⟨wo.heap.size, 1, none⟩ (.string nm)) (wo.heap.size + 1) 99 2 (fun _ => tickRd) (.slice at' accT.length ct) accT cT) := hid (HRT7.out.keep (fun _ h => h) fun b hb _ => Below.heap_setCell _ _ _ _ (by show b ≠ wo.heap.size; omega))
           have HSZ8 : Hid (wo.heap.size < (w7.setCell ⟨wo.heap.size, 1, none⟩ (.string nm)).heap.size) := hid (block_lt HG8.out)
           have HOWE : Hid (∀ O, ((w7.setCell ⟨wo.heap.size, 1, none⟩ (.string nm)).alloc O).ownsRow (w.heap.size + 3) 43 2 (.slice ae acc.length ce) acc.length cE.flatten) := hid fun O => owns_below HRE8.out.own ((Below.refl _ _).alloc (Nat.le_refl _) O)
           have HBV : Hid (∀ O, w.heap.size + 3 ≤ ((w7.setCell ⟨wo.heap.size, 1, none⟩ (.string nm)).alloc O).heap.size) := hid fun O => (ST8.out.alloc O).big
           have HSRC : Hid (Src ((w7.setCell ⟨wo.heap.size, 1, none⟩ (.string nm)).alloc (.cells #[.slice at' accT.length ct, .string nm] 43 (0, 0))) 2 (.slice (some ⟨w7.heap.size, 0, none⟩) 1 1) 1 [.slice at' accT.length ct, .string nm]) := hid (by
            have h0 : (w7.setCell ⟨wo.heap.size, 1, none⟩ (.string nm)).heap.size = w7.heap.size := by simp [World.setCell]
            have h1 := heap_alloc_new (w7.setCell ⟨wo.heap.size, 1, none⟩ (.string nm)) (.cells #[.slice at' accT.length ct, .string nm] 43 (0, 0))
            rw [h0] at h1
            exact Src.of_block (cs := #[.slice at' accT.length ct, .string nm]) h1 2 1 1 rfl (by simp [Value.oneCell']))
           have HEW : Hid (∀ g, (Value.slice ae acc.length ce).ownBlock = some g → g < wo.heap.size) := hid fun g hg => (HRE.out.own.lt g hg).2
           have k83 := ST8.out.cellV 3
           have k83a := fun O => (ST8.out.alloc O).cellV 3
           have z83a := fun O => (ST8.out.alloc O).freeV 3
           have y8 := cell_at_block (i := 0) HG8.out
           have y9 := cell_at_block (i := 1) HG8.out
           simp only [List.getElem?_toArray, List.getElem?_cons_zero, List.getElem?_cons_succ] at y8 y9 k83 k83a
           go_wp2_with (at_builtin; refine wpList_append rfl (.tmp 129) (.tmp 131) 28 rfl (w.heap.size + 3) 43 2 40 Tryz.underlying28 hj0 hy0 hy1 hy2 rfl (by decide) (.slice ae acc.length ce) acc.length cE.flatten rfl (HOWE.out _) _ 1 [.slice at' accT.length ct, .string nm] rfl HSRC.out (acc.length + 1) rfl _ rfl HMX.out.1 HMX.out.2 (HBV.out _) ?_; intro na nc w9 had; have HAD := hid had; have ST9 : Hid (RdSt w w9 B rv s7 #[.int .i64 9, .int .i64 lo, .int .i64 hi', vn, vp, vr] (.int .i64 0) (.slice none 0 0) (.slice none 0 0) (.slice ae acc.length ce)) := hid ((ST8.out.alloc _).grown had.grown (fun g hg => ((HOWE.out (.cells #[] 0 (0, 0))).lt g hg).1)); have kv3 := ST9.out.cellV 3; have zv3 := ST9.out.freeV 3; simp only [List.getElem?_toArray, List.getElem?_cons_zero, List.getElem?_cons_succ] at kv3; clear had)
           have STA := hid (ST9.out.set 3 (.slice na (acc.length + 1) nc) (n' := .int .i64 0) rfl)
           have HRA : Hid (Rws (w9.setCell ⟨w.heap.size + 1 + 1, 3, none⟩ (.slice na (acc.length + 1) nc)) (w.heap.size + 3) 43 2 entryRd (.slice na (acc.length + 1) nc) (acc ++ [⟨accT, nm⟩]) (cE ++ [[.slice at' accT.length ct, .string nm]])) := hid
            (((HRE8.out.keep entryRd_mono' fun b _ hl => Below.heap_alloc _ _ _ hl).push entryRd_mono' HAD.out rfl rfl rfl (entryRd_mono' (only_keep fun b hb hl => by
                have hb' := of_decide_eq_true hb
                refine ⟨?_, Below.heap_alloc _ _ _ hl⟩
                unfold butOwn
                simp only [Bool.and_eq_true, decide_eq_true_eq]
                refine ⟨by have := HGW.out; omega, fun e => ?_⟩
                have := HEW.out b e; omega) (⟨_, rfl, HRT8.out.reads fun _ h => h, HX7.out⟩ : entryRd (only (from_ (wo.heap.size + 1)) (w7.setCell ⟨wo.heap.size, 1, none⟩ (.string nm))) ⟨accT, nm⟩ [.slice at' accT.length ct, .string nm]))).keep entryRd_mono' fun b hb _ => Below.heap_setCell _ _ _ _ (by show b ≠ w.heap.size + 1 + 1; omega))
           have HLS2 : Hid (LoopAt RL rdEntry (acc ++ [⟨accT, nm⟩]) (k - 1) s7) := hid (by have := HLS.out; rw [HNM.out] at this; exact this)
           have HNA : Hid ((acc ++ [(⟨accT, nm⟩ : En)]).length + (k - 1) ≤ 1000000000 ∧ s7.data.length ≤ 1000000000) := hid (by have := HNW.out; have := HNX7.out; have := HK.out; simp; omega)
           have HLV : Hid ((acc ++ [(⟨accT, nm⟩ : En)]).length = acc.length + 1) := hid (by simp)
           clear y0 y1 y2 k73 k83 k83a z83a y8 y9 kv3 zv3
           go_wp2_with fail
           have hw1 : wrap64 ((k : Int) - 1) = ((k - 1 : Nat) : Int) := by rw [IntWalk.wrap64_in _ (by have := HNW.out; omega)]; omega
           go_roundw
           case rel => exact ⟨k - 1, s7, _, acc ++ [⟨accT, nm⟩], _, by rw [hw1], STA, HRA, HLS2, HNA⟩
           case measure => simp [intOf, hw1]; omega
    · have heb : (s2.err == 0) = false := by simpa using he
      have HE := hid (HLW.out.endE he)
      clear he
      go_wp2_with fail
      refine bodyPost_ret (v := .agg #[.int .i64 0, .slice none 0 0, .slice none 0 0, .slice ae acc.length ce]) (by simp [results, Tryz.results54, go_sem, kw0, kw1, kw2, kw3, rw0, rw1, rw2, rw3, ew0, ew1, ew2, ew3]) rfl (HFIN.out _ _ _ _ HE.out)
theorem read_any (f : Nat) : ∀ (l : Lat) (B : Nat) (rv : Value) (s : RS) (cs : List Value) (w : World), SizeOf.sizeOf l ≤ f → WfL l → RdAt w B rv s → s.data.length ≤ 1000000000 → latRd (only (notB B) w) l cs →
 Calls Tryz.prog 54 #[.pointer (some ⟨B, 0, none⟩), .agg cs.toArray] w (ReadPost B rv w (readV l s)) := by
 induction f with
 | zero => intro l _ _ _ _ _ hn; cases l; simp at hn
 | succ f ih =>
   intro l B rv s cs w hn hwf h hl hr
   have hk := hwf.kinds
   have hp : ∀ p ∈ l.parts, SizeOf.sizeOf p ≤ f := fun p hp => by have := sizeOf_part hp; omega
   have IH : ∀ p ∈ l.parts, ∀ (s : RS) (cs : List Value) (w : World), RdAt w B rv s → s.data.length ≤ 1000000000 → latRd (only (notB B) w) p cs → Calls Tryz.prog 54 #[.pointer (some ⟨B, 0, none⟩), .agg cs.toArray] w (ReadPost B rv w (readV p s)) :=
    fun p hpm s cs w => ih p B rv s cs w (hp p hpm) (hwf.part hpm)
   rcases (by omega : l.kind = 1 ∨ l.kind = 2 ∨ l.kind = 3 ∨ l.kind = 4 ∨ l.kind = 5 ∨ l.kind = 6 ∨ l.kind = 7 ∨ l.kind = 8 ∨ l.kind = 9 ∨ l.kind = 10) with e | e | e | e | e | e | e | e | e | e
   · exact read_flag l B rv s cs w h hl hr e
   · exact read_max l B rv s cs w h hl hr e
   · exact read_min l B rv s cs w h hl hr e
   · exact read_set4 l B rv s cs w h hl hr e
   · obtain ⟨p, hp1⟩ := List.length_eq_one_iff.1 (hk.2.1 e)
     exact read_map l p B rv s cs w h hl hr e hp1 (IH p (by rw [hp1]; exact List.mem_singleton.2 rfl))
   · exact read_prod6 l B rv s cs w h hl hr e (by omega) IH
   · exact read_prod7 l B rv s cs w h hl hr e (by omega) IH
   · exact read_flat l B rv s cs w h hl hr e
   · exact read_reg l B rv s cs w h hl hr e
   · exact read_set10 l B rv s cs w h hl hr e
end Go.Proofs.YtmdjnaobllajmaaGreatDoor
