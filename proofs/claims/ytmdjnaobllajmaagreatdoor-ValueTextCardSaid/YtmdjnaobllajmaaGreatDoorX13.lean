/-
  What the statements of the chapter share, part 13: VWri3, VRd, VRd2.
-/
import Derived.Test.YtmdjnaobllajmaaGreatDoorX03
import Derived.Test.YtmdjnaobllajmaaGreatDoorX05
import Derived.Test.YtmdjnaobllajmaaGreatDoorX12
import Derived.BigGuardPart
set_option linter.unusedVariables false
set_option linter.unusedSimpArgs false
set_option maxRecDepth 100000
set_option maxHeartbeats 8000000
namespace Go.Proofs.YtmdjnaobllajmaaGreatDoor
open Go.RowKit
def pairE (p : Lat) (x : ByteArray × Val) : List UInt8 := textE x.1 ++ putV p x.2
theorem WtSt.call2 {w wr w1 : World} {B : Nat} {rv0 rv : Value} {bs bs' : List UInt8} {lc vc : Array Value} (h : WtSt w wr B rv0 rv bs lc vc) (k : WrPost B rv wr bs' w1) {g : Nat} (hg : w.heap.size ≤ g) (hl : g < wr.heap.size) (hn : rv.ownBlock ≠ some g) :
 ∃ rv', WtSt w w1 B rv0 rv' bs' lc vc ∧ w1.heap[g]? = wr.heap[g]? ∧ rv'.ownBlock ≠ some g := by
 obtain ⟨rv', h1, h2⟩ := k
 have hlt := h.lt
 have hv := block_lt h.boxV
 refine ⟨rv', ⟨h1, (h2.block _ (by omega) (by omega) h.notL).trans h.boxL, (h2.block _ hv (by omega) h.notV).trans h.boxV, h.wf.trans h2, fun e => ?_, fun e => ?_, hlt, h.base⟩, h2.block _ hl (by omega) hn, fun e => ?_⟩
 · rcases h2.own _ e with e | e
   · exact h.notL e
   · omega
 · rcases h2.own _ e with e | e
   · exact h.notV e
   · omega
 · rcases h2.own _ e with e | e
   · exact hn e
   · omega
theorem write_5 (l : Lat) (v : Val) (hk : l.kind = 5) (hwf : WfL l) (hel : elemB l v = true) (ih : ∀ p ∈ l.parts, ∀ v, elemB p v = true → WriteOk p v) : WriteOk l v := by
 intro B rv bs cl cv w hl hv hw hsz
 obtain ⟨aln, cln, alp, clp, alr, clr, rfl, hli, hln, hlp, hlr, ⟨_, mln⟩, ⟨_, mlp⟩, _, mlr⟩ := latRd.lay hl
 obtain ⟨bvn, dvn, bvp, dvp, bve, dve, rfl, gvi, gvn, gvp, gve, ⟨_, nvn⟩, ⟨_, nvp⟩, _, nve⟩ := valRd.lay hv
 have HWF := hid hwf
 obtain ⟨k, lo, hi, ns, ps, rs⟩ := l
 obtain ⟨vn, vns, vps, ves⟩ := v
 simp only [Lat.kind, Lat.lo, Lat.hi, Lat.names, Lat.parts, Lat.rules, Val.n, Val.names, Val.parts, Val.entries] at *
 subst hk
 have HST := hid (WtSt.start hw #[.int .i64 5, .int .i64 lo, .int .i64 hi, .slice aln ns.length cln, .slice alp ps.length clp, .slice alr rs.length clr] #[.int .i64 vn, .slice bvn vns.length dvn, .slice bvp vps.length dvp, .slice bve ves.length dve])
 have HSZ := hid hsz
 have hF := isE_5.1 hel
 simp only [Val.n, Val.names, Val.parts, Val.entries] at hF
 obtain ⟨p, rfl⟩ := List.length_eq_one_iff.1 (hwf.kinds.2.1 rfl)
 rw [putV_5] at *
 simp only [Val.names, Val.parts] at *
 have HLEN := hid hF.2.1
 have HNB := hid (allowed_names hF.2.2.1)
 have HES := hid ((mapB_one p vps).1 hF.2.2.2)
 have IH := hid (ih p (by simp))
 have HLP := hid hlp
 have HVP := hid gvp
 have HVN := hid gvn
 have HZ := hid (show (vns.zip vps).length = vns.length by rw [List.length_zip]; omega)
 clear hl hv hw hel hwf hln hlp hlr gvn gvp gve gvi ih hF
 have HT : Hid ((bs ++ (uintE vns.length ++ (vns.zip vps).flatMap (pairE p))).length ≤ 80000000) := hid (by rw [List.length_append]; exact hsz)
 show Calls _ _ _ _ fun e w' => e = .returned (.tuple #[]) ∧ WrPost B rv w (bs ++ (uintE vns.length ++ (vns.zip vps).flatMap (pairE p))) w'
 generalize hT : bs ++ (uintE vns.length ++ (vns.zip vps).flatMap (pairE p)) = T at HT ⊢
 have HTE := hid hT
 clear hT hsz
 obtain ⟨lb, lo2, yn, ycn, yp, ycp, yr, ycr, rfl, hyr, hyc⟩ := latCs_low HLP.out 0 (by simp)
 simp only [List.getElem_cons_zero, Nat.zero_mul, Nat.add_zero] at hyr hyc
 have HYR := hid hyr
 have HYC := hid hyc
 clear hyr hyc
 go_enter Tryz.func50, Tryz.ntmps50
 go_wp2_with fail
 refine (wUint_any B rv bs vns.length _ HST.out.wrt (by omega) (by have := HSZ.out; omega)).mono ?_
 rintro e w1 ⟨rfl, hp⟩
 obtain ⟨rv1, hst1⟩ := HST.out.call hp
 have ST1 := hid hst1
 have c1 := hst1.cellV (i := 1) rfl
 clear hp hst1
 go_wp2_with fail
 clear c1
 go_loopw [6, 7, 60] (fun _ _ i wr => ∃ (j : Nat) (rv1 : Value) (cur : List UInt8), j ≤ vns.length ∧ i = .int .i64 j ∧ Hid (WtSt w wr B rv rv1 cur #[.int .i64 5, .int .i64 lo, .int .i64 hi, .slice aln ns.length cln, .slice (some ⟨lb, lo2, none⟩) 1 clp, .slice alr rs.length clr] #[.int .i64 vn, .slice bvn vns.length dvn, .slice bvp vps.length dvp, .slice bve ves.length dve]) ∧ Hid (cur ++ ((vns.zip vps).drop j).flatMap (pairE p) = T)) (fun _ _ i _ => vns.length - (intOf i).toNat)
 case atStart => exact ⟨0, rv1, _, Nat.zero_le _, rfl, ST1, hid (by rw [← HTE.out, List.append_assoc]; rfl)⟩
 case round =>
  obtain ⟨j, rv2, cur, hj, rfl, STW, He⟩ := hrel
  by_cases hlt : j < vns.length
  · have hlt' : j < vps.length := by have := HLEN.out; omega
    obtain ⟨qb, qo, rfl, hqc⟩ := strs_sub HVN.out j hlt
    obtain ⟨vb, vo, xn, xcn, xp, xcp, xe, xce, rfl, hxr, hxc⟩ := valCs_low HVP.out j hlt'
    have HXR := hid hxr
    have HXC := hid hxc
    have c1 := STW.out.cellV (i := 1) rfl
    have c2 := STW.out.sub _ _ hqc
    have HQ := hid (name_small (HNB.out _ (List.getElem_mem hlt)))
    have HS : Hid (((cur ++ textE vns[j]) ++ putV p vps[j]) ++ ((vns.zip vps).drop (j + 1)).flatMap (pairE p) = T) := hid (by
     rw [← He.out, flatMap_drop (pairE p) (vns.zip vps) j (by rw [HZ.out]; exact hlt), List.getElem_zip]
     unfold pairE
     simp only [List.append_assoc])
    have HEL := hid (HES.out _ (List.getElem_mem hlt')).1
    have HJ : Hid (j + 1 ≤ vns.length) := hid hlt
    have HSB : Hid ((cur ++ textE vns[j]).length + (putV p vps[j]).length ≤ 80000000) := hid (by have := part_le HS.out HT.out; rw [List.length_append] at this; exact this)
    clear hqc hxr hxc
    go_wp2_with fail
    refine (wText_any B rv2 cur vns[j] _ STW.out.wrt (by have := part_le He.out HT.out; omega) HQ.out).mono ?_
    rintro e w2 ⟨rfl, hp⟩
    obtain ⟨rv3, hst3⟩ := STW.out.call hp
    have ST3 := hid hst3
    have c0 := hst3.cellL (i := 0) rfl
    have c4 := hst3.cellL (i := 4) rfl
    have d2 := hst3.cellV (i := 2) rfl
    obtain ⟨x0, x1, x2, x3⟩ := (HXC.out.mono hst3.sub).four
    obtain ⟨y0, y1, y2, y3, y4, y5⟩ := (HYC.out.mono hst3.sub).six
    clear hp hst3 c1 c2
    go_wp2_with fail
    go_region_law
     (go_simp
      go_at_call 50
      refine (IH.out vps[j] HEL.out B rv3 (cur ++ textE vns[j]) [.int .i64 p.kind, .int .i64 p.lo, .int .i64 p.hi, .slice yn p.names.length ycn, .slice yp p.parts.length ycp, .slice yr p.rules.length ycr] [.int .i64 vps[j].n, .slice xn vps[j].names.length xcn, .slice xp vps[j].parts.length xcp, .slice xe vps[j].entries.length xce] _ (latRd.mono (ST3.out.drewN _).low _ _ HYR.out) (valRd.mono (ST3.out.drewN _).low _ _ HXR.out) (ST3.out.drewN _).wrt HSB.out).mono ?_
      rintro e w7 ⟨rfl, hp⟩
      obtain ⟨rv4, hst4⟩ := (ST3.out.drewN _).call hp
      have ST4 := hid hst4
      clear hp hst4)
    all_goals
     clear c0 c4 d2 x0 x1 x2 x3 y0 y1 y2 y3 y4 y5
     go_wp2_with fail
     go_roundw
     case rel => exact ⟨j + 1, rv4, _, HJ.out, by go_num, ST4, HS⟩
     case measure => simp [intOf]; omega
  · have HF : Hid (cur = T) := hid (by have := He.out; rw [show (vns.zip vps).drop j = [] from List.drop_eq_nil_of_le (by have := HZ.out; omega)] at this; simpa using this)
    have HP := hid STW.out.done
    rw [HF.out] at HP
    go_wp2_with fail
    go_end0
    exact ⟨rfl, HP.out⟩
def tickE (t : Tk) : List UInt8 := uintE t.process.toNat ++ uintE t.n.toNat
theorem entryE_eq (e : En) : entryE e = uintE e.clock.length ++ (e.clock.flatMap tickE ++ textE e.name) := by
 unfold entryE
 rw [ticksE_eq]
 rfl
theorem write_9 (l : Lat) (v : Val) (hk : l.kind = 9) (hwf : WfL l) (hel : elemB l v = true) : WriteOk l v := by
 intro B rv bs cl cv w hl hv hw hsz
 obtain ⟨aln, cln, alp, clp, alr, clr, rfl, hli, hln, hlp, hlr, ⟨_, mln⟩, ⟨_, mlp⟩, _, mlr⟩ := latRd.lay hl
 obtain ⟨bvn, dvn, bvp, dvp, bve, dve, rfl, gvi, gvn, gvp, gve, ⟨_, nvn⟩, ⟨_, nvp⟩, _, nve⟩ := valRd.lay hv
 have HWF := hid hwf
 obtain ⟨k, lo, hi, ns, ps, rs⟩ := l
 obtain ⟨vn, vns, vps, ves⟩ := v
 simp only [Lat.kind, Lat.lo, Lat.hi, Lat.names, Lat.parts, Lat.rules, Val.n, Val.names, Val.parts, Val.entries] at *
 subst hk
 have HST := hid (WtSt.start hw #[.int .i64 9, .int .i64 lo, .int .i64 hi, .slice aln ns.length cln, .slice alp ps.length clp, .slice alr rs.length clr] #[.int .i64 vn, .slice bvn vns.length dvn, .slice bvp vps.length dvp, .slice bve ves.length dve])
 have HSZ := hid hsz
 rw [putV_9] at *
 simp only [Val.entries] at *
 have hF := (isE_9.1 hel).2
 have HRG := hid (regGo_mem ves 0 ves hF)
 have HVE := hid gve
 clear hl hv hw hel hwf hln hlp hlr gvn gvp gve gvi hF
 have HT : Hid ((bs ++ (uintE ves.length ++ ves.flatMap entryE)).length ≤ 80000000) := hid (by rw [List.length_append]; exact hsz)
 generalize hT : bs ++ (uintE ves.length ++ ves.flatMap entryE) = T at HT ⊢
 have HTE := hid hT
 clear hT hsz
 go_enter Tryz.func50, Tryz.ntmps50
 go_wp2_with fail
 refine (wUint_any B rv bs ves.length _ HST.out.wrt (by omega) (by have := HSZ.out; omega)).mono ?_
 rintro e w1 ⟨rfl, hp⟩
 obtain ⟨rv1, hst1⟩ := HST.out.call hp
 have ST1 := hid hst1
 have c3 := hst1.cellV (i := 3) rfl
 clear hp hst1
 go_wp2_with fail
 clear c3
 go_loopw [9, 11, 110] (fun _ _ i wr => ∃ (j : Nat) (rv1 : Value) (cur : List UInt8), j ≤ ves.length ∧ i = .int .i64 j ∧ Hid (WtSt w wr B rv rv1 cur #[.int .i64 9, .int .i64 lo, .int .i64 hi, .slice aln ns.length cln, .slice alp ps.length clp, .slice alr rs.length clr] #[.int .i64 vn, .slice bvn vns.length dvn, .slice bvp vps.length dvp, .slice bve ves.length dve]) ∧ Hid (cur ++ (ves.drop j).flatMap entryE = T)) (fun _ _ i _ => ves.length - (intOf i).toNat)
 case atStart => exact ⟨0, rv1, _, Nat.zero_le _, rfl, ST1, hid (by rw [← HTE.out, List.append_assoc]; rfl)⟩
 case round =>
  obtain ⟨j, rv2, cur, hj, rfl, STW, He⟩ := hrel
  by_cases hlt : j < ves.length
  · obtain ⟨eb, eo, ecs, heb, _, hec, evc, rfl, hek, hen⟩ := HVE.out.at j hlt
    subst heb
    obtain ⟨ea, ecp, rfl, _, hem⟩ := hek.shape
    have r0 : wr.cell? ⟨eb, eo + j * 2, none⟩ = some (.slice ea ves[j].clock.length ecp) := (hec.mono STW.out.sub) 0 (by simp)
    have r1 : wr.cell? ⟨eb, eo + j * 2 + 1, none⟩ = some (.string ves[j].name) := (hec.mono STW.out.sub) 1 (by simp)
    have HEK := hid hek
    have HRJ := hid (HRG.out _ (List.getElem_mem hlt))
    have HJ : Hid (j + 1 ≤ ves.length) := hid hlt
    have HQ := hid (name_small HRJ.out.2)
    have HS : Hid (((cur ++ uintE ves[j].clock.length) ++ (ves[j].clock.flatMap tickE ++ textE ves[j].name)) ++ (ves.drop (j + 1)).flatMap entryE = T) := hid (by
     rw [← He.out, flatMap_drop entryE ves j hlt, entryE_eq]
     simp only [List.append_assoc]
     rfl)
    have HJT := hid hlt
    clear hec hek hen
    generalize ves[j] = en at r0 r1 HEK HRJ HQ HS hem ⊢
    go_wp2_with fail
    have ST2 := hid (STW.out.alloc (.cells #[.slice ea en.clock.length ecp, .string en.name] 43 (0, 0)))
    obtain ⟨g, hg⟩ : ∃ g, g = wr.heap.size := ⟨_, rfl⟩
    have HG : Hid ((wr.alloc (.cells #[.slice ea en.clock.length ecp, .string en.name] 43 (0, 0))).heap[g]? = some (.cells #[.slice ea en.clock.length ecp, .string en.name] 43 (0, 0)) ∧ rv2.ownBlock ≠ some g ∧ w.heap.size ≤ g) := hid ⟨heap_new_at _ _ _ hg, fun e => by have := (STW.out.wrt.base _ e).2; omega, by have := block_lt STW.out.boxV; omega⟩
    rw [← hg]
    clear hg r0 r1
    generalize wr.alloc (.cells #[.slice ea en.clock.length ecp, .string en.name] 43 (0, 0)) = w2 at ST2 HG ⊢
    have e0 : w2.cell? ⟨g, 0, none⟩ = some (.slice ea en.clock.length ecp) := cell_at_block HG.out.1
    go_wp2_with fail
    refine (wUint_any B rv2 cur en.clock.length _ ST2.out.wrt (by omega) (by have := part_le He.out HT.out; omega)).mono ?_
    rintro e w3 ⟨rfl, hp⟩
    obtain ⟨rv3, hst3, hg3, hn3⟩ := ST2.out.call2 hp HG.out.2.2 (block_lt HG.out.1) HG.out.2.1
    have ST3 := hid hst3
    have HG3 : Hid (w3.heap[g]? = some (.cells #[.slice ea en.clock.length ecp, .string en.name] 43 (0, 0)) ∧ rv3.ownBlock ≠ some g ∧ w.heap.size ≤ g) := hid ⟨hg3.trans HG.out.1, hn3, HG.out.2.2⟩
    clear hp hst3 hg3 hn3 e0
    have e1 : w3.cell? ⟨g, 0, none⟩ = some (.slice ea en.clock.length ecp) := cell_at_block HG3.out.1
    go_wp2_with fail
    clear e1
    go_loopw [11, 123] (fun _ i wr => ∃ (kk : Nat) (rv1 : Value) (cu : List UInt8), kk ≤ en.clock.length ∧ i = .int .i64 kk ∧ Hid (WtSt w wr B rv rv1 cu #[.int .i64 9, .int .i64 lo, .int .i64 hi, .slice aln ns.length cln, .slice alp ps.length clp, .slice alr rs.length clr] #[.int .i64 vn, .slice bvn vns.length dvn, .slice bvp vps.length dvp, .slice (some ⟨eb, eo, none⟩) ves.length dve]) ∧ Hid (wr.heap[g]? = some (.cells #[.slice ea en.clock.length ecp, .string en.name] 43 (0, 0)) ∧ rv1.ownBlock ≠ some g ∧ w.heap.size ≤ g) ∧ Hid ((cu ++ ((en.clock.drop kk).flatMap tickE ++ textE en.name)) ++ (ves.drop (j + 1)).flatMap entryE = T)) (fun _ i _ => en.clock.length - (intOf i).toNat)
    case atStart => exact ⟨0, rv3, _, Nat.zero_le _, rfl, ST3, HG3, HS⟩
    case round =>
     obtain ⟨kk, rv4, cu, hkk, rfl, STK, HGK, HeK⟩ := hrel
     by_cases hlk : kk < en.clock.length
     · obtain ⟨tb, to, tcs, htb, _, htc, rfl, hti⟩ := HEK.out.at kk hlk
       subst htb
       obtain ⟨hp1, hn1⟩ := clockFrom_mem (-1) en.clock (by omega) HRJ.out.1 _ (List.getElem_mem hlk)
       have HSK : Hid (((cu ++ uintE en.clock[kk].process.toNat) ++ uintE en.clock[kk].n.toNat ++ ((en.clock.drop (kk + 1)).flatMap tickE ++ textE en.name)) ++ (ves.drop (j + 1)).flatMap entryE = T) := hid (by
        rw [← HeK.out, flatMap_drop tickE en.clock kk hlk]
        unfold tickE
        simp only [List.append_assoc])
       have HKJ : Hid (kk + 1 ≤ en.clock.length) := hid hlk
       obtain ⟨pn, hpn⟩ : ∃ pn : Nat, en.clock[kk].process = pn := ⟨en.clock[kk].process.toNat, by omega⟩
       obtain ⟨nn, hnn⟩ : ∃ nn : Nat, en.clock[kk].n = nn := ⟨en.clock[kk].n.toNat, by omega⟩
       have s0 : wr.cell? ⟨tb, to + kk * 2, none⟩ = some (.int .i64 pn) := by rw [← hpn]; exact (htc.mono STK.out.sub) 0 (by simp)
       have s1 : wr.cell? ⟨tb, to + kk * 2 + 1, none⟩ = some (.int .i64 nn) := by rw [← hnn]; exact (htc.mono STK.out.sub) 1 (by simp)
       have q1 : en.clock[kk].process.toNat = pn := by omega
       have q2 : en.clock[kk].n.toNat = nn := by omega
       have hpb : (pn : Int) ≤ 63 := by omega
       have hnb : (nn : Int) ≤ 1000000000000000 := by omega
       have HSK : Hid (((cu ++ uintE pn) ++ uintE nn ++ ((en.clock.drop (kk + 1)).flatMap tickE ++ textE en.name)) ++ (ves.drop (j + 1)).flatMap entryE = T) := hid (by rw [← q1, ← q2]; exact HSK.out)
       clear hpn hnn hp1 hn1 hti htc q1 q2
       go_wp2_with fail
       have STL := hid (STK.out.alloc (.cells #[.int .i64 pn, .int .i64 nn] 99 (0, 0)))
       obtain ⟨h, hh⟩ : ∃ h, h = wr.heap.size := ⟨_, rfl⟩
       have HH : Hid ((wr.alloc (.cells #[.int .i64 pn, .int .i64 nn] 99 (0, 0))).heap[h]? = some (.cells #[.int .i64 pn, .int .i64 nn] 99 (0, 0)) ∧ rv4.ownBlock ≠ some h ∧ w.heap.size ≤ h) := hid ⟨heap_new_at _ _ _ hh, fun e => by have := (STK.out.wrt.base _ e).2; omega, by have := block_lt STK.out.boxV; omega⟩
       have HGL : Hid ((wr.alloc (.cells #[.int .i64 pn, .int .i64 nn] 99 (0, 0))).heap[g]? = some (.cells #[.slice (some ⟨tb, to, none⟩) en.clock.length ecp, .string en.name] 43 (0, 0)) ∧ rv4.ownBlock ≠ some g ∧ w.heap.size ≤ g) := hid ⟨block_alloc HGK.out.1 _, HGK.out.2⟩
       rw [← hh]
       clear hh s0 s1
       generalize wr.alloc (.cells #[.int .i64 pn, .int .i64 nn] 99 (0, 0)) = w4 at STL HH HGL ⊢
       have t0 : w4.cell? ⟨h, 0, none⟩ = some (.int .i64 pn) := cell_at_block HH.out.1
       go_wp2_with fail
       refine (wUint_any B rv4 cu pn _ STL.out.wrt (by omega) (by have := part_le HeK.out HT.out; rw [List.length_append] at this; omega)).mono ?_
       rintro e w5 ⟨rfl, hp⟩
       obtain ⟨rv5, hst5, hg5, hn5⟩ := STL.out.call2 hp HGL.out.2.2 (block_lt HGL.out.1) HGL.out.2.1
       have t1 : w5.cell? ⟨h, 1, none⟩ = some (.int .i64 nn) := cell_at_block ((STL.out.keep HH.out.2.2 (block_lt HH.out.1) HH.out.2.1 hp).trans HH.out.1)
       have ST5 := hid hst5
       have HG5 : Hid (w5.heap[g]? = some (.cells #[.slice (some ⟨tb, to, none⟩) en.clock.length ecp, .string en.name] 43 (0, 0)) ∧ rv5.ownBlock ≠ some g ∧ w.heap.size ≤ g) := hid ⟨hg5.trans HGL.out.1, hn5, HGL.out.2.2⟩
       clear hp hst5 hg5 hn5 t0
       go_wp2_with fail
       refine (wUint_any B rv5 (cu ++ uintE pn) nn _ ST5.out.wrt (by omega) (by have := part_le HSK.out HT.out; simp only [List.length_append] at this ⊢; omega)).mono ?_
       rintro e w6 ⟨rfl, hp⟩
       obtain ⟨rv6, hst6, hg6, hn6⟩ := ST5.out.call2 hp HG5.out.2.2 (block_lt HG5.out.1) HG5.out.2.1
       have ST6 := hid hst6
       have HG6 : Hid (w6.heap[g]? = some (.cells #[.slice (some ⟨tb, to, none⟩) en.clock.length ecp, .string en.name] 43 (0, 0)) ∧ rv6.ownBlock ≠ some g ∧ w.heap.size ≤ g) := hid ⟨hg6.trans HG5.out.1, hn6, HG5.out.2.2⟩
       clear hp hst6 hg6 hn6 t1
       go_wp2_with fail
       go_roundw
       case rel => exact ⟨kk + 1, rv6, _, HKJ.out, by go_num, ST6, HG6, HSK⟩
       case measure => simp [intOf]; omega
     · have HF : Hid ((cu ++ textE en.name) ++ (ves.drop (j + 1)).flatMap entryE = T) := hid (by have := HeK.out; rw [show en.clock.drop kk = [] from List.drop_eq_nil_of_le (by omega)] at this; simpa using this)
       have e2 : wr.cell? ⟨g, 1, none⟩ = some (.string en.name) := cell_at_block HGK.out.1
       go_wp2_with fail
       refine (wText_any B rv4 cu en.name _ STK.out.wrt (by have := part_le HF.out HT.out; rw [List.length_append] at this; omega) HQ.out).mono ?_
       rintro e w7 ⟨rfl, hp⟩
       obtain ⟨rv7, hst7⟩ := STK.out.call hp
       have ST7 := hid hst7
       clear hp hst7 e2
       go_wp2_with fail
       go_roundw
       case rel => exact ⟨j + 1, rv7, _, HJ.out, by go_num, ST7, HF⟩
       case measure => have := HJ.out; simp [intOf]; omega
  · have HF : Hid (cur = T) := hid (by have := He.out; rw [show ves.drop j = [] from List.drop_eq_nil_of_le (by omega)] at this; simpa using this)
    have HP := hid STW.out.done
    rw [HF.out] at HP
    go_wp2_with fail
    go_end0
    exact ⟨rfl, HP.out⟩
theorem write_any (f : Nat) : ∀ (l : Lat) (v : Val), SizeOf.sizeOf l ≤ f → WfL l → elemB l v = true → WriteOk l v := by
 induction f with
 | zero => intro l v hn; cases l; simp at hn
 | succ f ih =>
   intro l v hn hwf hel
   have IH : ∀ p ∈ l.parts, ∀ v, elemB p v = true → WriteOk p v := fun p hp v => ih p v (by have := sizeOf_lpart hp; omega) (hwf.part hp)
   rcases (by have := hwf.kinds.1; omega : l.kind = 1 ∨ l.kind = 2 ∨ l.kind = 3 ∨ l.kind = 4 ∨ l.kind = 5 ∨ l.kind = 6 ∨ l.kind = 7 ∨ l.kind = 8 ∨ l.kind = 9 ∨ l.kind = 10) with e | e | e | e | e | e | e | e | e | e
   · exact write_1 l v e hwf hel
   · exact write_2 l v e hwf hel
   · exact write_3 l v e hwf hel
   · exact write_4 l v e hwf hel
   · exact write_5 l v e hwf hel IH
   · exact write_6 l v e hwf hel IH
   · exact write_7 l v e hwf hel IH
   · exact write_8 l v e hwf hel
   · exact write_9 l v e hwf hel
   · exact write_10 l v e hwf hel
def byteRd (c : UInt8) (cs : List Value) : Prop := cs = [u8v c]
def notB (B : Nat) : Nat → Bool := fun b => decide (b ≠ B)
structure RdAt (w : World) (B : Nat) (v : Value) (s : RS) : Prop where
 blk : w.heap[B]? = some (.cells #[v, .int .i64 s.pos, .int .i64 s.item, .int .i64 s.err] 112 (0, 0))
 rd : SlRd (only (notB B) w) 1 byteRd v s.data
 ok : s.Ok
theorem RdAt.lt {w : World} {B : Nat} {v : Value} {s : RS} (h : RdAt w B v s) : B < w.heap.size := (Array.getElem?_eq_some_iff.1 h.blk).1
theorem RdAt.cell {w : World} {B : Nat} {v : Value} {s : RS} (h : RdAt w B v s) (i : Nat) : w.cell? ⟨B, i, none⟩ = #[v, .int .i64 s.pos, .int .i64 s.item, .int .i64 s.err][i]? := cell_of_row w B i _ _ _ h.blk
theorem RdAt.free {w : World} {B : Nat} {v : Value} {s : RS} (h : RdAt w B v s) (i : Nat) : w.frozen? ⟨B, i, none⟩ = false := by simp [World.frozen?, h.blk]
theorem RdAt.below {w w' : World} {B : Nat} {v : Value} {s : RS} (h : RdAt w B v s) (hb : Below w.heap.size w w') : RdAt w' B v s :=
 ⟨(hb.block B h.lt).trans h.blk, SlRd.mono h.rd (only_keep fun b hb' hl => ⟨hb', hb.block b hl⟩) fun _ _ _ h => h, h.ok⟩
theorem RdAt.set {w : World} {B : Nat} {v : Value} {s s' : RS} (h : RdAt w B v s) (hd : s'.data = s.data) (ho : s'.Ok) {w' : World} (hw : But B w w')
 (hb : w'.heap[B]? = some (.cells #[v, .int .i64 s'.pos, .int .i64 s'.item, .int .i64 s'.err] 112 (0, 0))) : RdAt w' B v s' :=
 ⟨hb, by rw [hd]; exact SlRd.mono h.rd (only_keep fun b hb' hl => ⟨hb', hw.block b hl (of_decide_eq_true hb')⟩) fun _ _ _ h => h, ho⟩
theorem RdAt.byte {w : World} {B : Nat} {a : Option Addr} {n cap : Nat} {s : RS} (h : RdAt w B (.slice a n cap) s) (i : Nat) (hi : i < s.data.length) : ∃ b o, a = some ⟨b, o, none⟩ ∧ w.cell? ⟨b, o + i, none⟩ = some (.int .u8 s.data[i].toNat) := by
 obtain ⟨b, o, cs, ha, _, hcs, rfl⟩ := h.rd.at i hi
 have := only_sub _ _ _ _ (hcs 0 (by simp))
 exact ⟨b, o, ha, by simpa [u8v] using this⟩
theorem RdAt.shape {w : World} {B : Nat} {v : Value} {s : RS} (h : RdAt w B v s) : ∃ a cap, v = .slice a s.data.length cap ∧ s.data.length ≤ 9223372036854775807 := by
 obtain ⟨a, cap, hv, _, hm⟩ := h.rd.shape
 exact ⟨a, cap, hv, hm⟩
def NumPost (s : RS) (w : World) (e : Ending) (w' : World) : Prop := ∃ N X : Int, e = .returned (.tuple #[.int .u64 N, .int .i64 X, .bool s.num.isSome]) ∧ (∀ n c, s.num = some (n, c) → N = n ∧ X = s.pos + c) ∧ ∃ q, w' = w.drewN q
def upF (acc i : Nat) (o : Option (Nat × Nat)) : Option (Nat × Nat) := match o with
 | none => none
 | some (m, c) => some (acc + 2 ^ (7 * i) * m, i + c)
theorem and_byte : ∀ m : Fin 256, bits .and .u8 (m.val : Int) 127 = ((m.val % 128 : Nat) : Int) := by decide +kernel
theorem or_val (A bv k : Nat) (hk : k ≤ 9) (hA : A < 2 ^ (7 * k)) (hb : bv < 256) (h9 : k = 9 → bv ≤ 1) :
 bits .or .u64 (A : Int) (IntKind.u64.wrap (IntKind.u64.wrap (bits .and .u8 (bv : Int) 127) * 2 ^ (7 * k))) = ((A + 2 ^ (7 * k) * (bv % 128) : Nat) : Int) := by
 have e1 : bits .and .u8 (bv : Int) 127 = ((bv % 128 : Nat) : Int) := and_byte ⟨bv, hb⟩
 have e2 : IntKind.u64.wrap ((bv % 128 : Nat) : Int) = ((bv % 128 : Nat) : Int) := by rw [IntKind.wrap_u64]; omega
 have hp : 2 ^ (7 * k) * (bv % 128) < 18446744073709551616 := by
  rcases Nat.lt_or_ge k 9 with h | h
  · have h1 : 2 ^ (7 * k) ≤ 2 ^ 56 := Nat.pow_le_pow_right (by omega) (by omega)
    have h2 : 2 ^ (7 * k) * (bv % 128) ≤ 2 ^ 56 * 128 := Nat.mul_le_mul h1 (by omega)
    omega
  · have : k = 9 := by omega
    subst this
    have := h9 rfl
    have h2 : 2 ^ (7 * 9) * (bv % 128) ≤ 2 ^ 63 * 1 := Nat.mul_le_mul (Nat.le_refl _) (by omega)
    omega
 have hA2 : A < 18446744073709551616 := by
  have h1 : 2 ^ (7 * k) ≤ 2 ^ 63 := Nat.pow_le_pow_right (by omega) (by omega)
  omega
 have e3 : ((bv % 128 : Nat) : Int) * 2 ^ (7 * k) = ((2 ^ (7 * k) * (bv % 128) : Nat) : Int) := by
  rw [Int.natCast_mul, Int.natCast_pow, Int.mul_comm]; rfl
 have e4 : IntKind.u64.wrap ((2 ^ (7 * k) * (bv % 128) : Nat) : Int) = ((2 ^ (7 * k) * (bv % 128) : Nat) : Int) := by rw [IntKind.wrap_u64]; omega
 rw [e1, e2, e3, e4, u64_or_nat _ _ hA2 hp, Nat.or_comm, ← Nat.two_pow_add_eq_or_of_lt hA, Nat.add_comm]
theorem or_val9 (A bv : Nat) (hA : A < 2 ^ 63) (hb : bv ≤ 1) :
 bits .or .u64 (A : Int) (IntKind.u64.wrap (IntKind.u64.wrap (bits .and .u8 (bv : Int) 127) * 9223372036854775808)) = ((A + 2 ^ (7 * 9) * (bv % 128) : Nat) : Int) :=
 or_val A bv 9 (by omega) hA (by omega) (fun _ => hb)
theorem up_more (A k m : Nat) (o : Option (Nat × Nat)) : upF A k (match o with
 | none => none
 | some (n, c) => some (m + 128 * n, c + 1)) = upF (A + 2 ^ (7 * k) * m) (k + 1) o := by
 cases o with
 | none => rfl
 | some p =>
   obtain ⟨n, c⟩ := p
   unfold upF
   simp only [Option.some.injEq, Prod.mk.injEq]
   refine ⟨?_, by omega⟩
   rw [show 7 * (k + 1) = 7 * k + 7 by omega, Nat.pow_add, Nat.mul_add, ← Nat.mul_assoc, Nat.add_assoc]
theorem num_bad {s : RS} (h : s.num = none) (w : World) (N X : Int) (q : Nat) {e : Ending} (he : e = .returned (.tuple #[.int .u64 N, .int .i64 X, .bool false])) : NumPost s w e (w.drewN q) :=
 ⟨N, X, by rw [h]; exact he, fun n c hn => by rw [h] at hn; (cases hn), q, rfl⟩
theorem num_good {s : RS} {n c : Nat} (h : s.num = some (n, c)) (w : World) (N X : Int) (q : Nat) {e : Ending} (he : e = .returned (.tuple #[.int .u64 N, .int .i64 X, .bool true])) (hN : N = n) (hX : X = s.pos + c) : NumPost s w e (w.drewN q) :=
 ⟨N, X, by rw [h]; exact he, fun n' c' hn => by rw [h] at hn; cases hn; exact ⟨hN, hX⟩, q, rfl⟩
theorem number_any (B : Nat) (v : Value) (s : RS) (w : World) (h : RdAt w B v s) (hl : s.data.length ≤ 1000000000) :
 Calls Tryz.prog 132 #[.pointer (some ⟨B, 0, none⟩)] w (NumPost s w) := by
 obtain ⟨a, cap, rfl, _⟩ := h.shape
 have HW := hid h
 have HL := hid hl
 have HP := hid h.ok.pos
 have c0 := h.cell 0
 have c1 := h.cell 1
 simp only [List.getElem?_toArray, List.getElem?_cons_zero, List.getElem?_cons_succ] at c0 c1
 have hn : s.data.length ≤ 1000000000 := hl
 have hp : s.pos ≤ 1000000000 := Nat.le_trans h.ok.pos hl
 clear h hl
 have hN : s.num = upF 0 0 (numF 0 (s.data.drop (s.pos + 0))) := by
  unfold upF RS.num
  rw [Nat.add_zero]
  cases numF 0 (s.data.drop s.pos) with
  | none => rfl
  | some p => obtain ⟨m, c⟩ := p; simp
 have HN := hid hN
 clear hN
 go_enter Tryz.func132, Tryz.ntmps132
 go_wp2_with fail
 go_loopw [2, 5, 6, 7] (fun acc _ _ i wr => ∃ (k A : Nat), k ≤ 10 ∧ A < 2 ^ (7 * k) ∧ i = .int .i64 k ∧ acc = .int .u64 A ∧ Hid (∃ q, wr = w.drewN q) ∧ Hid (s.num = upF A k (numF k (s.data.drop (s.pos + k))))) (fun _ _ _ i _ => 10 - (intOf i).toNat)
 case atStart => exact ⟨0, 0, by omega, by decide, rfl, rfl, hid ⟨0, rfl⟩, HN⟩
 case round =>
  obtain ⟨k, A, hk, hA, rfl, rfl, HQ, He⟩ := hrel
  have c0r : wr.cell? ⟨B, 0, none⟩ = some (.slice a s.data.length cap) := by obtain ⟨q, rfl⟩ := HQ.out; exact c0
  have c1r : wr.cell? ⟨B, 1, none⟩ = some (.int .i64 s.pos) := by obtain ⟨q, rfl⟩ := HQ.out; exact c1
  by_cases hk10 : k < 10
  · have w1 : IntKind.i64.wrap ((s.pos : Int) + (k : Int)) = (s.pos : Int) + (k : Int) := IntWalk.i64_in _ (by omega)
    by_cases hlt : s.pos + k < s.data.length
    · obtain ⟨b, o, rfl, hcell⟩ := HW.out.byte (s.pos + k) hlt
      have hcr : wr.cell? ⟨b, o + (s.pos + k), none⟩ = some (.int .u8 s.data[s.pos + k].toNat) := by obtain ⟨q, rfl⟩ := HQ.out; exact hcell
      have hge : decide ((s.data.length : Int) ≤ (s.pos : Int) + (k : Int)) = false := decide_eq_false (by omega)
      have hi1 : (0 : Int) ≤ (s.pos : Int) + (k : Int) := by omega
      have hi2 : (s.pos : Int) + (k : Int) < (s.data.length : Int) := by omega
      have hi3 : ((s.pos : Int) + (k : Int)).toNat = s.pos + k := by omega
      have hbl : s.data[s.pos + k].toNat < 256 := s.data[s.pos + k].toNat_lt
      have HDR : Hid (s.data.drop (s.pos + k) = s.data[s.pos + k] :: s.data.drop (s.pos + (k + 1))) := hid (drop_consS s.data (s.pos + k) hlt)
      generalize hbv : s.data[s.pos + k] = byte at HDR hcr hbl
      clear hbv
      generalize hbv : byte.toNat = bv at hcr hbl
      have HBV := hid hbv
      clear hbv
      by_cases h9 : k = 9 ∧ 1 < bv
      · have HF : Hid (s.num = none) := hid (by rw [He.out, HDR.out, numF_big _ ⟨h9.1, by rw [HBV.out]; exact h9.2⟩]; rfl)
        obtain ⟨rfl, h9b⟩ := h9
        go_wp2_with fail
        go_quiet (fail)
        go_wp2_with fail
        go_quiet (fail)
        go_wp2_with fail
        go_ret3
        obtain ⟨q, rfl⟩ := HQ.out
        simp only [World.drewN_drewN]
        exact num_bad HF.out _ _ _ _ rfl
      · have HN9 : Hid (¬ (k = 9 ∧ 1 < byte.toNat)) := hid (by rw [HBV.out]; exact h9)
        have H9 := hid h9
        have hkb : k = 9 → bv ≤ 1 := by omega
        have HKB := hid hkb
        clear hkb
        clear h9
        by_cases h128 : bv < 128
        · have HF : Hid (s.num = upF A k (if bv = 0 ∧ k ≠ 0 then none else some (bv, 1))) := hid (by rw [He.out, HDR.out, numF_last _ hk10 HN9.out (by rw [HBV.out]; exact h128), HBV.out])
          have hx : (((bv : Int) != 0) = true ∧ bv ≠ 0) ∨ (((bv : Int) != 0) = false ∧ ((k : Int) == 0) = true ∧ bv = 0 ∧ k = 0) ∨ (((bv : Int) != 0) = false ∧ ((k : Int) == 0) = false ∧ bv = 0 ∧ k ≠ 0) := by
           by_cases h0 : bv = 0
           · by_cases h1 : k = 0
             · right; left; exact ⟨by simp [h0], by simp [h1], h0, h1⟩
             · right; right; exact ⟨by simp [h0], by simp; omega, h0, h1⟩
           · left; exact ⟨by simp; omega, h0⟩
          have w2 : IntKind.i64.wrap ((s.pos : Int) + (k : Int) + 1) = (s.pos : Int) + (k : Int) + 1 := IntWalk.i64_in _ (by omega)
          rcases hx with ⟨hb1, hb2⟩ | ⟨hb1, hk1, hb2, hk2⟩ | ⟨hb1, hk1, hb2, hk2⟩
          · have HF2 : Hid (s.num = some (A + 2 ^ (7 * k) * bv, k + 1)) := hid (by rw [HF.out, if_neg (fun h => hb2 h.1)]; rfl)
            rcases Nat.lt_or_ge k 9 with hk9 | hk9
            · have hk9' : (k : Int) < 9 := by omega
              go_wp2_with fail
              go_quiet (fail)
              go_wp2_with fail
              go_quiet (fail)
              go_wp2_with fail
              go_quiet (fail)
              go_wp2_with fail
              go_ret3
              obtain ⟨q, rfl⟩ := HQ.out
              simp only [World.drewN_drewN]
              refine num_good HF2.out _ _ _ _ rfl ?_ ?_
              rotate_left
              · omega
              have hm : bv % 128 = bv := Nat.mod_eq_of_lt h128
              rw [or_val _ _ _ (by omega) hA hbl (by omega), hm]
            · obtain rfl : k = 9 := by omega
              have hbs : (bv : Int) ≤ 1 := by have := HKB.out rfl; omega
              go_wp2_with fail
              go_quiet (fail)
              go_wp2_with fail
              go_quiet (fail)
              go_wp2_with fail
              go_quiet (fail)
              go_wp2_with fail
              go_ret3
              obtain ⟨q, rfl⟩ := HQ.out
              simp only [World.drewN_drewN]
              refine num_good HF2.out _ _ _ _ rfl ?_ ?_
              rotate_left
              · omega
              have hm : bv % 128 = bv := Nat.mod_eq_of_lt h128
              rw [or_val9 _ _ hA (by omega), hm]
          · have HF2 : Hid (s.num = some (A + 2 ^ (7 * k) * bv, k + 1)) := hid (by rw [HF.out, if_neg (fun h => h.2 hk2)]; rfl)
            subst hk2
            subst hb2
            have hcr0 : wr.cell? ⟨b, o + s.pos, none⟩ = some (.int .u8 (0 : Nat)) := hcr
            have hi4 : (s.pos : Int) < (s.data.length : Int) := by omega
            have hge4 : decide ((s.data.length : Int) ≤ (s.pos : Int)) = false := decide_eq_false (by omega)
            have w4 : IntKind.i64.wrap ((s.pos : Int) + 1) = (s.pos : Int) + 1 := IntWalk.i64_in _ (by omega)
            clear w1 w2 hge hi1 hi2 hi3
            skip
            go_wp2_with fail
            go_quiet (fail)
            go_wp2_with fail
            go_quiet (fail)
            go_wp2_with fail
            go_quiet (fail)
            go_wp2_with fail
            go_ret3
            obtain ⟨q, rfl⟩ := HQ.out
            simp only [World.drewN_drewN]
            refine num_good HF2.out _ _ _ _ rfl ?_ ?_
            rotate_left
            · omega
            obtain rfl : A = 0 := by simpa using hA
            decide +kernel
          · have HF2 : Hid (s.num = none) := hid (by rw [HF.out, if_pos ⟨hb2, hk2⟩]; rfl)
            subst hb2
            rcases Nat.lt_or_ge k 9 with hk9 | hk9
            · have hk9' : (k : Int) < 9 := by omega
              go_wp2_with fail
              go_quiet (fail)
              go_wp2_with fail
              go_quiet (fail)
              go_wp2_with fail
              go_quiet (fail)
              go_wp2_with fail
              go_ret3
              obtain ⟨q, rfl⟩ := HQ.out
              simp only [World.drewN_drewN]
              exact num_bad HF2.out _ _ _ _ rfl
            · obtain rfl : k = 9 := by omega
              go_wp2_with fail
              go_quiet (fail)
              go_wp2_with fail
              go_quiet (fail)
              go_wp2_with fail
              go_quiet (fail)
              go_wp2_with fail
              go_ret3
              obtain ⟨q, rfl⟩ := HQ.out
              simp only [World.drewN_drewN]
              exact num_bad HF2.out _ _ _ _ rfl
        · have HF : Hid (s.num = upF (A + 2 ^ (7 * k) * (bv % 128)) (k + 1) (numF (k + 1) (s.data.drop (s.pos + (k + 1))))) := hid (by rw [He.out, HDR.out, numF_more _ hk10 HN9.out (by rw [HBV.out]; exact h128), HBV.out]; exact up_more _ _ _ _)
          have hk9' : (k : Int) < 9 := by have := HKB.out; have := h128; omega
          go_wp2_with fail
          go_quiet (fail)
          go_wp2_with fail
          go_quiet (fail)
          go_wp2_with fail
          refine ⟨⟨k + 1, A + 2 ^ (7 * k) * (bv % 128), by omega, ?_, by go_num, by rw [or_val _ _ _ (by omega) hA hbl (by omega)], hid (by obtain ⟨q, rfl⟩ := HQ.out; exact ⟨_, World.drewN_drewN _ _ _⟩), HF⟩, by simp [intOf]; omega⟩
          rw [show 7 * (k + 1) = 7 * k + 7 by omega, Nat.pow_add]
          have : bv % 128 ≤ 127 := by omega
          have h2 : 2 ^ (7 * k) * (bv % 128) ≤ 2 ^ (7 * k) * 127 := Nat.mul_le_mul (Nat.le_refl _) this
          omega
    · have hge : decide ((s.data.length : Int) ≤ (s.pos : Int) + (k : Int)) = true := decide_eq_true (by omega)
      have HF : Hid (s.num = none) := hid (by rw [He.out, List.drop_eq_nil_of_le (by omega), numF_nil]; rfl)
      go_wp2_with fail
      go_quiet (fail)
      go_wp2_with fail
      go_ret3
      obtain ⟨q, rfl⟩ := HQ.out
      simp only [World.drewN_drewN]
      exact num_bad HF.out _ _ _ _ rfl
  · have HF : Hid (s.num = none) := hid (by rw [He.out, numF_ge _ (by omega)]; rfl)
    go_wp2_with fail
    go_ret3
    obtain ⟨q, rfl⟩ := HQ.out
    exact num_bad HF.out _ _ _ _ rfl
def RdPost (B : Nat) (v : Value) (s' : RS) (w w' : World) : Prop := RdAt w' B v s' ∧ But B w w'
theorem RdPost.trans {B : Nat} {v : Value} {s' : RS} {w w1 w' : World} (h : But B w w1) (k : RdPost B v s' w1 w') : RdPost B v s' w w' := ⟨k.1, h.trans k.2⟩
theorem but_drewN (B : Nat) (w : World) (q : Nat) : But B w (w.drewN q) := But.of_below (below_drewN' (Below.refl _ _) q)
theorem rd_drewN {w : World} {B : Nat} {v : Value} {s : RS} (h : RdAt w B v s) (q : Nat) : RdAt (w.drewN q) B v s := h.below (below_drewN' (Below.refl _ _) q)
theorem rd_set {w : World} {B : Nat} {v : Value} {s s' : RS} (h : RdAt w B v s) (hd : s'.data = s.data) (ho : s'.Ok) (i : Nat) (u : Value)
 (hc : (#[v, .int .i64 s.pos, .int .i64 s.item, .int .i64 s.err]).setIfInBounds i u = #[v, .int .i64 s'.pos, .int .i64 s'.item, .int .i64 s'.err]) : RdPost B v s' w (w.setCell ⟨B, i, none⟩ u) := by
 have hb : (w.setCell ⟨B, i, none⟩ u).heap[B]? = some (.cells ((#[v, .int .i64 s.pos, .int .i64 s.item, .int .i64 s.err]).setIfInBounds i u) 112 (0, 0)) := by simp [World.setCell, Array.getElem?_modify, h.blk]
 rw [hc] at hb
 exact ⟨h.set hd ho (But.set _ _ _) hb, But.set _ _ _⟩
theorem begin_no (B : Nat) (v : Value) (s : RS) (w : World) (h : RdAt w B v s) (he : s.err ≠ 0) :
 Calls Tryz.prog 130 #[.pointer (some ⟨B, 0, none⟩)] w fun e w' => e = .returned (.bool false) ∧ w' = w := by
 have c3 := h.cell 3
 simp only [List.getElem?_toArray, List.getElem?_cons_zero, List.getElem?_cons_succ] at c3
 have hb : (s.err != 0) = true := by simpa using he
 clear h he
 go_enter Tryz.func130, Tryz.ntmps130
 go_wp2_with fail
 go_ret
 exact ⟨rfl, rfl⟩
theorem begin_ok (B : Nat) (v : Value) (s : RS) (w : World) (h : RdAt w B v s) (he : s.err = 0) :
 Calls Tryz.prog 130 #[.pointer (some ⟨B, 0, none⟩)] w fun e w' => e = .returned (.bool true) ∧ RdPost B v s.begun w w' := by
 have c1 := h.cell 1
 have c2 := h.cell 2
 have c3 := h.cell 3
 have z2 := h.free 2
 simp only [List.getElem?_toArray, List.getElem?_cons_zero, List.getElem?_cons_succ] at c1 c2 c3
 have hb : (s.err != 0) = false := by rw [he]; rfl
 have HP : Hid (RdPost B v s.begun w (w.setCell ⟨B, 2, none⟩ (.int .i64 s.pos))) := hid (rd_set (s' := s.begun) h rfl ⟨h.ok.pos, Nat.le_refl _, h.ok.err⟩ 2 _ rfl)
 clear h he
 go_enter Tryz.func130, Tryz.ntmps130
 go_wp2_with fail
 go_ret
 exact ⟨rfl, HP.out⟩
theorem number_none (B : Nat) (v : Value) (s : RS) (w : World) (h : RdAt w B v s) (hl : s.data.length ≤ 1000000000) (hn : s.num = none) :
 Calls Tryz.prog 132 #[.pointer (some ⟨B, 0, none⟩)] w fun e w' => ∃ N X : Int, e = .returned (.tuple #[.int .u64 N, .int .i64 X, .bool false]) ∧ ∃ q, w' = w.drewN q :=
 (number_any B v s w h hl).mono fun e w' ⟨N, X, he, _, hq⟩ => ⟨N, X, by rw [hn] at he; exact he, hq⟩
theorem number_some (B : Nat) (v : Value) (s : RS) (w : World) (h : RdAt w B v s) (hl : s.data.length ≤ 1000000000) {n c : Nat} (hn : s.num = some (n, c)) :
 Calls Tryz.prog 132 #[.pointer (some ⟨B, 0, none⟩)] w fun e w' => e = .returned (.tuple #[.int .u64 n, .int .i64 ((s.pos : Int) + (c : Int)), .bool true]) ∧ ∃ q, w' = w.drewN q :=
 (number_any B v s w h hl).mono fun e w' ⟨N, X, he, hs, hq⟩ => by
   obtain ⟨rfl, rfl⟩ := hs n c hn
   exact ⟨by rw [hn] at he; exact he, hq⟩
theorem bad_set {w : World} {B : Nat} {v : Value} {s : RS} (h : RdAt w B v s.begun) : RdPost B v s.bad w (w.setCell ⟨B, 3, none⟩ (.int .i64 2)) := rd_set (s' := s.bad) h rfl ⟨h.ok.pos, Nat.le_refl _, .inr rfl⟩ 3 _ rfl
theorem go_set {w : World} {B : Nat} {v : Value} {s : RS} (h : RdAt w B v s.begun) (c : Nat) (hc : s.pos + c ≤ s.data.length) : RdPost B v (s.go c) w (w.setCell ⟨B, 1, none⟩ (.int .i64 ((s.pos : Int) + (c : Int)))) :=
 rd_set (s' := s.go c) h rfl ⟨hc, Nat.le_add_right _ _, h.ok.err⟩ 1 _ (by show #[v, Value.int .i64 ((s.pos : Int) + (c : Int)), _, _] = #[v, Value.int .i64 ((s.pos + c : Nat) : Int), _, _]; rw [Int.natCast_add]; rfl)
theorem rUint_any (B : Nat) (v : Value) (s : RS) (w : World) (h : RdAt w B v s) (hl : s.data.length ≤ 1000000000) :
 Calls Tryz.prog 131 #[.pointer (some ⟨B, 0, none⟩)] w fun e w' => e = .returned (.int .u64 (rdUint s).1) ∧ RdPost B v (rdUint s).2 w w' := by
 by_cases he : s.err = 0
 rotate_left
 · have HR : Hid (rdUint s = (0, s)) := hid (by unfold rdUint; rw [if_pos he])
   have HBG := hid (begin_no B _ s w h he)
   have HW := hid h
   clear h he hl
   go_enter Tryz.func131, Tryz.ntmps131
   go_wp2_with fail
   refine HBG.out.mono ?_
   rintro e w1 ⟨rfl, rfl⟩
   go_wp2_with fail
   go_ret
   exact ⟨by rw [HR.out]; rfl, by rw [HR.out]; exact ⟨HW.out, But.refl _ _⟩⟩
 cases hn : s.num with
 | none =>
   have HR : Hid (rdUint s = (0, s.bad)) := hid (by unfold rdUint; rw [if_neg (fun h => h he), hn])
   have HBG := hid (begin_ok B _ s w h he)
   have HNM := hid (fun W (hW : RdAt W B v s.begun) => number_none B v s.begun W hW hl hn)
   clear h he hl hn
   go_enter Tryz.func131, Tryz.ntmps131
   go_wp2_with fail
   refine HBG.out.mono ?_
   rintro e w1 ⟨rfl, hw1, hb1⟩
   have HW1 := hid hw1
   have HB1 := hid hb1
   clear hw1 hb1
   go_wp2_with fail
   refine (HNM.out _ HW1.out).mono ?_
   rintro e w2 ⟨N, X, rfl, q, rfl⟩
   have HW2 := hid (rd_drewN HW1.out q)
   have HB2 := hid (HB1.out.trans (but_drewN B w1 q))
   have c3 := HW2.out.cell 3
   have z3 := HW2.out.free 3
   simp only [List.getElem?_toArray, List.getElem?_cons_zero, List.getElem?_cons_succ] at c3
   have HP := hid (bad_set HW2.out)
   go_wp2_with fail
   go_ret
   exact ⟨by rw [HR.out]; rfl, by rw [HR.out]; exact RdPost.trans HB2.out HP.out⟩
 | some p =>
   obtain ⟨n, c⟩ := p
   have HR : Hid (rdUint s = (n, s.go c)) := hid (by unfold rdUint; rw [if_neg (fun h => h he), hn])
   have hc := (RS.num_some hn h.ok.pos).1
   have HBG := hid (begin_ok B _ s w h he)
   have HNM := hid (fun W (hW : RdAt W B v s.begun) => number_some B v s.begun W hW hl hn)
   have HC := hid hc
   clear h he hl hn hc
   go_enter Tryz.func131, Tryz.ntmps131
   go_wp2_with fail
   refine HBG.out.mono ?_
   rintro e w1 ⟨rfl, hw1, hb1⟩
   have HW1 := hid hw1
   have HB1 := hid hb1
   clear hw1 hb1
   go_wp2_with fail
   refine (HNM.out _ HW1.out).mono ?_
   rintro e w2 ⟨rfl, q, rfl⟩
   have HW2 := hid (rd_drewN HW1.out q)
   have HB2 := hid (HB1.out.trans (but_drewN B w1 q))
   have c1 := HW2.out.cell 1
   have z1 := HW2.out.free 1
   simp only [List.getElem?_toArray, List.getElem?_cons_zero, List.getElem?_cons_succ] at c1
   have HP := hid (go_set HW2.out c HC.out)
   go_wp2_with fail
   go_ret
   exact ⟨by rw [HR.out]; rfl, by rw [HR.out]; exact RdPost.trans HB2.out HP.out⟩
theorem rErr_any (B : Nat) (v : Value) (s : RS) (w : World) (h : RdAt w B v s) :
 Calls Tryz.prog 91 #[.pointer (some ⟨B, 0, none⟩)] w fun e w' => e = .returned (.int .i64 s.err) ∧ w' = w := by
 have c3 := h.cell 3
 simp only [List.getElem?_toArray, List.getElem?_cons_zero, List.getElem?_cons_succ] at c3
 clear h
 go_enter Tryz.func91, Tryz.ntmps91
 go_wp2_with fail
 go_ret
 exact ⟨rfl, rfl⟩
theorem rFail_any (B : Nat) (v : Value) (s : RS) (w : World) (h : RdAt w B v s) :
 Calls Tryz.prog 134 #[.pointer (some ⟨B, 0, none⟩)] w fun e w' => e = .returned (.tuple #[]) ∧ RdPost B v s.fail w w' := by
 have c1 := h.cell 1
 have c2 := h.cell 2
 have c3 := h.cell 3
 have z1 := h.free 1
 have z3 := h.free 3
 simp only [List.getElem?_toArray, List.getElem?_cons_zero, List.getElem?_cons_succ] at c1 c2 c3
 by_cases he : s.err = 0
 · have HR : Hid (s.fail = ⟨s.data, s.item, s.item, 2⟩) := hid (by unfold RS.fail; rw [if_pos he])
   have HP : Hid (RdPost B v s.fail w ((w.setCell ⟨B, 3, none⟩ (.int .i64 2)).setCell ⟨B, 1, none⟩ (.int .i64 s.item))) := hid (by
    rw [HR.out]
    have h1 : RdPost B v ⟨s.data, s.pos, s.item, 2⟩ w (w.setCell ⟨B, 3, none⟩ (.int .i64 2)) := rd_set (s' := ⟨s.data, s.pos, s.item, 2⟩) h rfl ⟨h.ok.pos, h.ok.item, .inr rfl⟩ 3 _ rfl
    exact RdPost.trans h1.2 (rd_set (s' := ⟨s.data, s.item, s.item, 2⟩) h1.1 rfl ⟨Nat.le_trans h.ok.item h.ok.pos, Nat.le_refl _, .inr rfl⟩ 1 _ rfl))
   have hb : (s.err == 0) = true := by rw [he]; rfl
   clear h he
   go_enter Tryz.func134, Tryz.ntmps134
   go_wp2_with fail
   go_end0
   exact ⟨rfl, HP.out⟩
 · have HR : Hid (s.fail = s) := hid (by unfold RS.fail; rw [if_neg he])
   have hb : (s.err == 0) = false := by simpa using he
   have HW := hid h
   clear h he
   go_enter Tryz.func134, Tryz.ntmps134
   go_wp2_with fail
   go_end0
   exact ⟨rfl, by rw [HR.out]; exact ⟨HW.out, But.refl _ _⟩⟩
theorem rLeft_any (B : Nat) (v : Value) (s : RS) (w : World) (h : RdAt w B v s) (hl : s.data.length ≤ 1000000000) :
 Calls Tryz.prog 94 #[.pointer (some ⟨B, 0, none⟩)] w fun e w' => e = .returned (.int .i64 ((s.data.length : Int) - (s.pos : Int))) ∧ ∃ q, w' = w.drewN q := by
 obtain ⟨a, cap, rfl, _⟩ := h.shape
 have c0 := h.cell 0
 have c1 := h.cell 1
 simp only [List.getElem?_toArray, List.getElem?_cons_zero, List.getElem?_cons_succ] at c0 c1
 have hp := h.ok.pos
 have hw : IntKind.i64.wrap ((s.data.length : Int) - (s.pos : Int)) = (s.data.length : Int) - (s.pos : Int) := IntWalk.i64_in _ (by omega)
 clear h
 go_enter Tryz.func94, Tryz.ntmps94
 go_wp2_with fail
 go_quiet (fail)
 go_wp2_with fail
 go_ret
 exact ⟨rfl, _, rfl⟩
theorem rEnd_any (B : Nat) (v : Value) (s : RS) (w : World) (h : RdAt w B v s) (hl : s.data.length ≤ 1000000000) :
 Calls Tryz.prog 55 #[.pointer (some ⟨B, 0, none⟩)] w fun e w' => e = .returned (.int .i64 s.ends) ∧ ∃ q, w' = w.drewN q := by
 have c3 := h.cell 3
 simp only [List.getElem?_toArray, List.getElem?_cons_zero, List.getElem?_cons_succ] at c3
 have HLF := hid (rLeft_any B v s w h hl)
 have hp := h.ok.pos
 by_cases he : s.err = 0
 · have hb : (s.err == 0) = true := by rw [he]; rfl
   by_cases hlt : s.pos < s.data.length
   · have HR : Hid (s.ends = 2) := hid (by unfold RS.ends; rw [if_pos ⟨he, hlt⟩])
     have hd : decide ((0 : Int) < (s.data.length : Int) - (s.pos : Int)) = true := decide_eq_true (by omega)
     clear h he
     go_enter Tryz.func55, Tryz.ntmps55
     go_wp2_with fail
     refine HLF.out.mono ?_
     rintro e w1 ⟨rfl, q, rfl⟩
     go_wp2_with fail
     go_ret
     exact ⟨ret_int HR.out.symm, _, rfl⟩
   · have HR : Hid (s.ends = s.err) := hid (by unfold RS.ends; rw [if_neg (fun h => hlt h.2)])
     have hd : decide ((0 : Int) < (s.data.length : Int) - (s.pos : Int)) = false := decide_eq_false (by omega)
     clear h he
     go_enter Tryz.func55, Tryz.ntmps55
     go_wp2_with fail
     refine HLF.out.mono ?_
     rintro e w1 ⟨rfl, q, rfl⟩
     go_wp2_with fail
     go_ret
     exact ⟨ret_int HR.out.symm, _, rfl⟩
 · have hb : (s.err == 0) = false := by simpa using he
   have HR : Hid (s.ends = s.err) := hid (by unfold RS.ends; rw [if_neg (fun h => he h.1)])
   clear h he
   go_enter Tryz.func55, Tryz.ntmps55
   go_wp2_with fail
   go_ret
   exact ⟨ret_int HR.out.symm, 0, rfl⟩
end Go.Proofs.YtmdjnaobllajmaaGreatDoor
