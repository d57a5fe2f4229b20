/-
  What the statements of the chapter share, part 19: VEnt0, VEnt, VTxt1, VTxt2, VTxt3, VTxt4.
-/
import Derived.Test.YtmdjnaobllajmaaGreatDoorX09
import Derived.Test.YtmdjnaobllajmaaGreatDoorX18
import Derived.Deep.OwnRows
set_option linter.unusedVariables false
set_option linter.unusedSimpArgs false
set_option maxRecDepth 100000
set_option maxHeartbeats 8000000
namespace Go.Proofs.YtmdjnaobllajmaaGreatDoor
open Go.RowKit
theorem infoString3 : (Tryz.prog.info? 9).map (fun i => (i.zero, i.size, i.bytes)) = some (some (.string ByteArray.empty), 1, 16) := by kernel_rfl
def tickS (t : Tk) : Value := .string (strOf (tickT t))
def Filled (cs : Array Value) (l : List Tk) (j : Nat) : Prop := cs.size = l.length ∧ cs.toList.take j = (l.take j).map tickS
theorem Filled.step {cs : Array Value} {l : List Tk} {j : Nat} (h : Filled cs l j) (hj : j < l.length) {t : Tk} (ht : l[j]? = some t) : Filled (cs.setIfInBounds j (tickS t)) l (j + 1) := by
 obtain ⟨h1, h2⟩ := h
 refine ⟨by simpa using h1, ?_⟩
 have e : l[j] = t := by rw [List.getElem?_eq_getElem hj] at ht; exact Option.some.inj ht
 rw [take_at l j hj, List.map_append, ← h2, e]
 have hs : j < cs.toList.length := by simpa [h1] using hj
 rw [Array.toList_setIfInBounds, List.take_succ_eq_append_getElem (by simpa using hs)]
 congr 1
 · rw [List.take_set_of_le (Nat.le_refl _)]
 · simp
theorem Filled.strs {w : World} {g : Nat} {cs : Array Value} {l : List Tk} (h : Filled cs l l.length) (hg : w.heap[g]? = some (.cells cs 9 (0, 0))) (hm : l.length ≤ maxLen) (hs : ∀ t ∈ l, (strOf (tickT t)).size ≤ maxLen) : Strs w (.slice (some ⟨g, 0, none⟩) l.length l.length) (l.map fun t => strOf (tickT t)) := by
  obtain ⟨h1, h2⟩ := h
  refine ⟨some ⟨g, 0, none⟩, l.length, by rw [List.length_map], ⟨by simp, by simp⟩, hm, fun i hi => ?_⟩
  rw [List.length_map] at hi
  refine ⟨g, 0, [tickS l[i]], rfl, rfl, fun j hj => ?_, by rw [List.getElem_map]; rfl, by rw [List.getElem_map]; exact hs _ (List.getElem_mem hi)⟩
  have hj0 : j = 0 := by simpa using hj
  subst hj0
  have hc := cell_at_block (i := i) hg
  rw [show (0 + i * 1 + 0) = i by omega, hc]
  have e := congrArg (fun L => L[i]?) h2
  simp only [List.take_length, List.getElem?_map] at e
  rw [List.getElem?_take, if_pos hi, List.getElem?_eq_getElem hi] at e
  simpa using e
theorem entry_any (e : En) (cs : List Value) (w : World) (he : entryRd w e cs) (ht : Tab w) (hlen : (entryT e).length ≤ 100000000) :
 Calls Tryz.prog 103 #[.agg cs.toArray] w fun r w' => r = .returned (.string (strOf (entryT e))) ∧ Below w.heap.size w w' := by
 obtain ⟨v, rfl, hk, hn⟩ := he
 obtain ⟨ka, kc, rfl, _, hkm⟩ := hk.shape
 obtain ⟨i0, hi0, hz0, hz1, hz2⟩ := info_parts infoString3
 have HK := hid hk
 have HT := hid ht
 have HLE : Hid (e.clock.length ≤ 100000000 ∧ (Lib.join (e.clock.map tickT) [46]).length ≤ 100000000 ∧ ∀ t ∈ e.clock, (strOf (tickT t)).size ≤ maxLen) := hid (by
  unfold entryT at hlen
  rw [List.length_append, List.length_cons] at hlen
  have h1 := join_len [46] (e.clock.map tickT) (fun x hx => by
    obtain ⟨t, _, rfl⟩ := List.mem_map.1 hx
    unfold tickT
    rw [List.length_append, List.length_cons]
    omega)
  rw [List.length_map] at h1
  refine ⟨by omega, by omega, fun t ht => ?_⟩
  have := join_mem [46] (List.mem_map_of_mem (f := tickT) ht)
  show (tickT t).length ≤ maxLen
  unfold maxLen
  omega)
 obtain ⟨ck, nm⟩ := e
 simp only at hkm HK HLE hlen ⊢
 have HEQ : Hid (entryT ⟨ck, nm⟩ = bsOf nm ++ 64 :: Lib.join (ck.map tickT) [46]) := hid rfl
 generalize entryT ⟨ck, nm⟩ = R at HEQ ⊢
 have hkl : (ck.length : Int) ≤ 100000000 := by have := HLE.out.1; omega
 have HNL : Hid (nm.size ≤ 100000000) := hid (by unfold entryT at hlen; rw [List.length_append] at hlen; have h2 : nm.size ≤ 100000000 := Nat.le_trans (Nat.le_add_right _ _) hlen; exact h2)
 clear hk ht hn hlen
 have HB : Hid (∀ O O', Below w.heap.size w ((w.alloc O).alloc O')) := hid fun O O' => ((Below.refl _ _).alloc (Nat.le_refl _) O).alloc (by simp) O'
 go_enter Tryz.func103, Tryz.ntmps103
 go_wp2_with (at_make; refine wpList_make_row _ rfl _ _ 22 rfl 9 i0 (.string ByteArray.empty) Tryz.underlying22 hi0 hz0 hz1 rfl .i64 .i64 ck.length rfl rfl (by rw [hz2]; have := HLE.out.1; omega) (by have := HLE.out.1; omega) ?_)
 have HG : Hid (((w.alloc (.cells #[.slice ka ck.length kc, .string nm] 43)).alloc (.cells (madeCells #[.string ByteArray.empty] ck.length) 9)).heap[w.heap.size + 1]? = some (.cells (madeCells #[.string ByteArray.empty] ck.length) 9 (0, 0)) ∧ Filled (madeCells #[.string ByteArray.empty] ck.length) ck 0) := hid ⟨heap_new_at _ _ _ (by simp), by simp [size_madeCells], rfl⟩
 have HE0 : Hid (((w.alloc (.cells #[.slice ka ck.length kc, .string nm] 43)).alloc (.cells (madeCells #[.string ByteArray.empty] ck.length) 9)).heap[w.heap.size]? = some (.cells #[.slice ka ck.length kc, .string nm] 43 (0, 0))) := hid (block_alloc (heap_alloc_new _ _) _)
 have HB0 := hid (HB.out (.cells #[.slice ka ck.length kc, .string nm] 43) (.cells (madeCells #[.string ByteArray.empty] ck.length) 9))
 have e0 : ((w.alloc (.cells #[.slice ka ck.length kc, .string nm] 43)).alloc (.cells (madeCells #[.string ByteArray.empty] ck.length) 9)).cell? ⟨w.heap.size, 0, none⟩ = some (.slice ka ck.length kc) := cell_at_block HE0.out
 generalize (w.alloc (.cells #[.slice ka ck.length kc, .string nm] 43)).alloc (.cells (madeCells #[.string ByteArray.empty] ck.length) 9) = w1 at HG HE0 HB0 e0 ⊢
 generalize madeCells #[.string ByteArray.empty] ck.length = cs0 at HG
 go_wp2_with fail
 clear e0
 go_loopw [4, 5, 13] (fun _ _ i wr => ∃ (j : Nat) (cs : Array Value), j ≤ ck.length ∧ i = .int .i64 j ∧ Hid (Below w.heap.size w wr) ∧ Hid (wr.heap[w.heap.size]? = some (.cells #[.slice ka ck.length kc, .string nm] 43 (0, 0))) ∧ Hid (wr.heap[w.heap.size + 1]? = some (.cells cs 9 (0, 0)) ∧ Filled cs ck j)) (fun _ _ i _ => ck.length - (intOf i).toNat)
 case atStart => exact ⟨0, cs0, Nat.zero_le _, rfl, HB0, HE0, HG⟩
 case round =>
  obtain ⟨j, cs, hj, rfl, HBW, HEW, HGW⟩ := hrel
  by_cases hlt : j < ck.length
  · obtain ⟨t, tb, to, hget, hmem, _, _, rfl, hti, htc⟩ := tickEl HK.out j hlt
    obtain ⟨s0, s1⟩ := (htc.below HBW.out).two
    have HTI := hid hti
    have HJ : Hid (j + 1 ≤ ck.length) := hid hlt
    have HST : Hid (Filled (cs.setIfInBounds j (tickS t)) ck (j + 1)) := hid (HGW.out.2.step hlt hget)
    have HSZ : Hid (j < cs.size) := hid (by rw [HGW.out.2.1]; exact hlt)
    have HRL : Hid ((strOf (tickT t)).size ≤ maxLen) := hid (HLE.out.2.2 t hmem)
    clear hget hmem hti htc
    go_wp2_with fail
    have HBA : Hid (Below w.heap.size w (wr.alloc (.cells #[.int .i64 t.process, .int .i64 t.n] 99))) := hid (HBW.out.alloc HBW.out.size _)
    have HPB : Hid ((wr.alloc (.cells #[.int .i64 t.process, .int .i64 t.n] 99)).heap[wr.heap.size]? = some (.cells #[.int .i64 t.process, .int .i64 t.n] 99 (0, 0))) := hid (heap_alloc_new _ _)
    have HEA : Hid ((wr.alloc (.cells #[.int .i64 t.process, .int .i64 t.n] 99)).heap[w.heap.size]? = some (.cells #[.slice (some ⟨tb, to, none⟩) ck.length kc, .string nm] 43 (0, 0))) := hid (block_alloc HEW.out _)
    have HGA : Hid ((wr.alloc (.cells #[.int .i64 t.process, .int .i64 t.n] 99)).heap[w.heap.size + 1]? = some (.cells cs 9 (0, 0))) := hid (block_alloc HGW.out.1 _)
    generalize wr.heap.size = pb at HPB ⊢
    generalize wr.alloc (.cells #[.int .i64 t.process, .int .i64 t.n] 99) = w3 at HBA HPB HEA HGA ⊢
    clear s0 s1
    have HOLDC : Hid (∃ old, cs[j]? = some old) := hid ⟨_, Array.getElem?_eq_getElem HSZ.out⟩
    obtain ⟨old, hold⟩ := HOLDC.out
    have HOC := hid hold
    have HF : Hid (∀ u, Below w3.heap.size w3 u → u.cell? ⟨pb, 0, none⟩ = some (.int .i64 t.process) ∧ u.cell? ⟨pb, 1, none⟩ = some (.int .i64 t.n) ∧ u.cell? ⟨w.heap.size + 1, j, none⟩ = some old ∧ u.frozen? ⟨w.heap.size + 1, j, none⟩ = false) := hid fun u hu => by
      have hp : u.heap[pb]? = _ := (hu.block _ (block_lt HPB.out)).trans HPB.out
      have hg : u.heap[w.heap.size + 1]? = _ := (hu.block _ (block_lt HGA.out)).trans HGA.out
      exact ⟨cell_at_block hp, cell_at_block hp, (cell_at_block hg).trans HOC.out, free_at_block hg⟩
    have HIT : Hid (∀ u, Below w3.heap.size w3 u → Calls Tryz.prog 105 #[.int .i64 t.process] u fun e w' => e = .returned (.string (strOf (Lib.itoa t.process))) ∧ Below u.heap.size u w') := hid fun u hu => itoa_any _ HTI.out.1 u (HT.out.below (HBA.out.trans (hu.mono HBA.out.size)))
    have HFI : Hid (∀ u, Below w3.heap.size w3 u → Calls Tryz.prog 101 #[.int .i64 t.n, .int .i64 10] u fun e w' => e = .returned (.string (strOf (Lib.itoa t.n))) ∧ Below u.heap.size u w') := hid fun u hu => fmtInt_any _ HTI.out.2 u (HT.out.below (HBA.out.trans (hu.mono HBA.out.size)))
    clear hold
    have HTS : Hid (tickS t = .string ((strOf (Lib.itoa t.process) ++ ⟨#[58]⟩) ++ strOf (Lib.itoa t.n))) := hid (by
     have e : (⟨#[58]⟩ : ByteArray) = strOf [58] := rfl
     rw [e, strOf_append, strOf_append]
     unfold tickS tickT
     rw [List.append_assoc]
     rfl)
    have HLT : Hid ((strOf (Lib.itoa t.process)).size + 1 + (strOf (Lib.itoa t.n)).size ≤ 9223372036854775807) := hid (by
     have h := HRL.out
     have e : (strOf (tickT t)).size = (Lib.itoa t.process).length + 1 + (Lib.itoa t.n).length := by
      show (tickT t).length = _
      unfold tickT
      rw [List.length_append, List.length_cons]
      omega
     rw [e] at h
     unfold maxLen at h
     exact h)
    generalize strOf (Lib.itoa t.process) = SP at HIT HTS HLT
    generalize strOf (Lib.itoa t.n) = SN at HFI HTS HLT
    have hz1 : ¬ (9223372036854775807 < SP.size + 1) := by have := HLT.out; omega
    have hz2 : ¬ (9223372036854775807 < SP.size + 1 + SN.size) := by have := HLT.out; omega
    obtain ⟨q0, q1, q2, q3⟩ := HF.out _ (Below.refl _ _)
    go_region_law
     (go_simp
      first
       | (go_at_call 105
          refine (HIT.out _ (below_drewN' (Below.refl _ _) _)).mono ?_
          rintro e w6 ⟨rfl, hb6⟩
          have HB6 : Hid (Below w3.heap.size w3 w6) := hid ((below_drewN' (Below.refl _ _) _).trans hb6)
          clear hb6
          obtain ⟨q4, q5, q6, q7⟩ := HF.out _ HB6.out)
       | (go_at_call 101
          refine (HFI.out _ HB6.out).mono ?_
          rintro e w7 ⟨rfl, hb7⟩
          have HB7 : Hid (Below w3.heap.size w3 w7) := hid (HB6.out.trans (hb7.mono HB6.out.size))
          clear hb7
          obtain ⟨q8, q9, qa, qb⟩ := HF.out _ HB7.out)
       | (go_at_call 101
          refine (HFI.out _ (below_drewN' HB6.out _)).mono ?_
          rintro e w7 ⟨rfl, hb7⟩
          have HB7 : Hid (Below w3.heap.size w3 w7) := hid ((below_drewN' HB6.out _).trans (hb7.mono (below_drewN' HB6.out _).size))
          clear hb7
          obtain ⟨q8, q9, qa, qb⟩ := HF.out _ HB7.out))
    all_goals
     have HB8 : Hid (Below w.heap.size w w7) := hid (HBA.out.trans (HB7.out.mono HBA.out.size))
     have HB9 : Hid (Below w.heap.size w (w7.setCell ⟨w.heap.size + 1, j, none⟩ (.string ((SP ++ ⟨#[58]⟩) ++ SN)))) := hid (HB8.out.setCell (by simp) _)
     have HE9 : Hid ((w7.setCell ⟨w.heap.size + 1, j, none⟩ (.string ((SP ++ ⟨#[58]⟩) ++ SN))).heap[w.heap.size]? = some (.cells #[.slice (some ⟨tb, to, none⟩) ck.length kc, .string nm] 43 (0, 0))) := hid ((Below.heap_setCell _ _ _ _ (by simp)).trans ((HB7.out.block _ (block_lt HEA.out)).trans HEA.out))
     have HG9 : Hid ((w7.setCell ⟨w.heap.size + 1, j, none⟩ (.string ((SP ++ ⟨#[58]⟩) ++ SN))).heap[w.heap.size + 1]? = some (.cells (cs.setIfInBounds j (tickS t)) 9 (0, 0)) ∧ Filled (cs.setIfInBounds j (tickS t)) ck (j + 1)) := hid ⟨by rw [HTS.out]; exact block_set ((HB7.out.block _ (block_lt HGA.out)).trans HGA.out) _, HST.out⟩
     clear q0 q1 q2 q3 q4 q5 q6 q7 q8 q9 qa qb hz1 hz2
     go_wp2_with fail
     go_roundw
     case rel => exact ⟨j + 1, _, HJ.out, by go_num, HB9, HE9, HG9⟩
     case measure => have := HJ.out; simp [intOf]; omega
  · have hjj : j = ck.length := by omega
    subst hjj
    have HSL : Hid (Strs wr (.slice (some ⟨w.heap.size + 1, 0, none⟩) ck.length ck.length) (ck.map fun t => strOf (tickT t))) := hid (HGW.out.2.strs HGW.out.1 (by have := HLE.out.1; unfold maxLen; omega) HLE.out.2.2)
    have HJN : Hid ((ck.map fun t => strOf (tickT t)).map bsOf = ck.map tickT) := hid (by rw [List.map_map]; rfl)
    have HJC : Hid (∀ u, Below wr.heap.size wr u → Calls Tryz.prog 102 #[.slice (some ⟨w.heap.size + 1, 0, none⟩) ck.length ck.length, .string ⟨#[46]⟩] u fun e w' => e = .returned (.string (strOf (Lib.join (ck.map tickT) [46]))) ∧ Below u.heap.size u w') := hid fun u hu => by
      have h := join_any (.slice (some ⟨w.heap.size + 1, 0, none⟩) ck.length ck.length) (ck.map fun t => strOf (tickT t)) ⟨#[46]⟩ u (Strs.below HSL.out hu) (by rw [List.length_map]; have := HLE.out.1; omega) (by rw [HJN.out]; have := HLE.out.2.1; show (Lib.join (ck.map tickT) [46]).length ≤ _; omega)
      rw [HJN.out] at h
      exact h
    have HFN : Hid (R = bsOf nm ++ 64 :: Lib.join (ck.map tickT) [46]) := HEQ
    have HJL : Hid ((strOf (Lib.join (ck.map tickT) [46])).size ≤ 100000000) := hid HLE.out.2.1
    have HNM : Hid (nm.size ≤ 100000000) := hid (by have := HNL.out; omega)
    have HFS : Hid ((nm ++ ⟨#[64]⟩) ++ strOf (Lib.join (ck.map tickT) [46]) = strOf R) := hid (by
     have e : (⟨#[64]⟩ : ByteArray) = strOf [64] := rfl
     rw [HFN.out, e]
     show (strOf (bsOf nm) ++ strOf [64]) ++ _ = _
     rw [strOf_append, strOf_append, List.append_assoc]
     rfl)
    generalize strOf (Lib.join (ck.map tickT) [46]) = SJ at HJC HJL HFS
    have hz1 : ¬ (9223372036854775807 < nm.size + 1) := by have := HNM.out; omega
    have hz2 : ¬ (9223372036854775807 < nm.size + 1 + SJ.size) := by have := HNM.out; have := HJL.out; omega
    have HJX : Hid (∀ x : Ext wr, Calls Tryz.prog 102 #[.slice (some ⟨w.heap.size + 1, 0, none⟩) ck.length ck.length, .string ⟨#[46]⟩] x.1 fun e w' => e = .returned (.string SJ) ∧ ∃ y : Ext wr, w' = y.1) := hid fun x => ext_call x (HJC.out x.1 x.2)
    have HNA : Hid (wr.cell? ⟨w.heap.size, 1, none⟩ = some (.string nm)) := hid (cell_at_block HEW.out)
    have n1 : ∀ x : Ext wr, x.1.cell? ⟨w.heap.size, 1, none⟩ = some (.string nm) := fun x => x.cell HNA.out
    go_wp2_with fail
    refine wp_region_ext (by kernel_rfl) (by kernel_rfl) ?_
    repeat (go_big_quiet_step ((go_at_call 102; exact HJX.out _)))
    refine wpQuiet_nil ?_
    rintro _ ⟨z, rfl⟩
    go_wp2_with fail
    go_ret
    exact ⟨by rw [← HFS.out]; rfl, HBW.out.trans (z.2.mono HBW.out.size)⟩
def TextOk (l : Lat) (v : Val) : Prop := ∀ (cl cv : List Value) (w : World), latRd w l cl → valRd w v cv → Tab w → (textV l v).length ≤ 100000000 →
    Calls Tryz.prog 58 #[.agg cl.toArray, .agg cv.toArray] w fun e w' => e = .returned (.string (strOf (textV l v))) ∧ Below w.heap.size w w'
theorem ret_str {a b : ByteArray} (h : a = b) : Ending.returned (.string a) = .returned (.string b) := by rw [h]
theorem wrap_str (a b : UInt8) (l : List UInt8) : ((⟨#[a]⟩ : ByteArray) ++ strOf l) ++ ⟨#[b]⟩ = strOf (a :: (l ++ [b])) := by
 have e1 : (⟨#[a]⟩ : ByteArray) = strOf [a] := rfl
 have e2 : (⟨#[b]⟩ : ByteArray) = strOf [b] := rfl
 rw [e1, e2, strOf_append, strOf_append]
 rfl
theorem text_1 (l : Lat) (v : Val) (hk : l.kind = 1) (hwf : WfL l) (hel : elemB l v = true) : TextOk l v := by
 intro cl cv w hl hv ht hsz
 obtain ⟨aln, cln, alp, clp, alr, clr, rfl, hli, hln, hlp, hlr, ⟨_, mln⟩, ⟨_, mlp⟩, _, mlr⟩ := latRd.lay hl
 obtain ⟨bvn, dvn, bvp, dvp, bve, dve, rfl, gvi, gvn, gvp, gve, ⟨_, nvn⟩, ⟨_, nvp⟩, _, nve⟩ := valRd.lay hv
 have HKD := hid hwf.kinds
 obtain ⟨k, lo, hi, ns, ps, rs⟩ := l
 obtain ⟨vn, vns, vps, ves⟩ := v
 simp only [Lat.kind, Lat.lo, Lat.hi, Lat.names, Lat.parts, Lat.rules, Val.n, Val.names, Val.parts, Val.entries] at *
 subst hk
 have HTB := hid ht
 have HSZ := hid hsz
 have HB : Hid (∀ O O', Below w.heap.size w ((w.alloc O).alloc O')) := hid fun O O' => ((Below.refl _ _).alloc (Nat.le_refl _) O).alloc (by simp) O'
 have HT : Hid (textV (.mk 1 lo hi ns ps rs) (.mk vn vns vps ves) = flagT (decide (vn = 1))) := hid (by rw [textV]; rfl)
 generalize textV (.mk 1 lo hi ns ps rs) (.mk vn vns vps ves) = R at HT HSZ ⊢
 clear hl hv ht hsz hel hwf hln hlp hlr gvn gvp gve gvi
 go_enter Tryz.func58, Tryz.ntmps58
 go_wp2_with fail
 rw [beqI]
 refine (fmtBool_any _ _).mono ?_
 rintro e w1 ⟨rfl, rfl⟩
 go_wp2_with fail
 go_ret
 exact ⟨ret_str (by rw [HT.out]), HB.out _ _⟩
theorem text_2 (l : Lat) (v : Val) (hk : l.kind = 2) (hwf : WfL l) (hel : elemB l v = true) : TextOk l v := by
 intro cl cv w hl hv ht hsz
 obtain ⟨aln, cln, alp, clp, alr, clr, rfl, hli, hln, hlp, hlr, ⟨_, mln⟩, ⟨_, mlp⟩, _, mlr⟩ := latRd.lay hl
 obtain ⟨bvn, dvn, bvp, dvp, bve, dve, rfl, gvi, gvn, gvp, gve, ⟨_, nvn⟩, ⟨_, nvp⟩, _, nve⟩ := valRd.lay hv
 have HKD := hid hwf.kinds
 obtain ⟨k, lo, hi, ns, ps, rs⟩ := l
 obtain ⟨vn, vns, vps, ves⟩ := v
 simp only [Lat.kind, Lat.lo, Lat.hi, Lat.names, Lat.parts, Lat.rules, Val.n, Val.names, Val.parts, Val.entries] at *
 subst hk
 have HTB := hid ht
 have HSZ := hid hsz
 have HB : Hid (∀ O O', Below w.heap.size w ((w.alloc O).alloc O')) := hid fun O O' => ((Below.refl _ _).alloc (Nat.le_refl _) O).alloc (by simp) O'
 have HT : Hid (textV (.mk 2 lo hi ns ps rs) (.mk vn vns vps ves) = Lib.itoa vn) := hid (by rw [textV]; rfl)
 generalize textV (.mk 2 lo hi ns ps rs) (.mk vn vns vps ves) = R at HT HSZ ⊢
 have HI := hid gvi
 clear hl hv ht hsz hel hwf hln hlp hlr gvn gvp gve gvi
 go_enter Tryz.func58, Tryz.ntmps58
 go_wp2_with fail
 refine (fmtInt_any _ HI.out _ (HTB.out.below (HB.out _ _))).mono ?_
 rintro e w1 ⟨rfl, hb1⟩
 have HB1 := hid ((HB.out _ _).trans (hb1.mono (HB.out _ _).size))
 clear hb1
 go_wp2_with fail
 go_ret
 exact ⟨ret_str (by rw [HT.out]), HB1.out⟩
theorem text_3 (l : Lat) (v : Val) (hk : l.kind = 3) (hwf : WfL l) (hel : elemB l v = true) : TextOk l v := by
 intro cl cv w hl hv ht hsz
 obtain ⟨aln, cln, alp, clp, alr, clr, rfl, hli, hln, hlp, hlr, ⟨_, mln⟩, ⟨_, mlp⟩, _, mlr⟩ := latRd.lay hl
 obtain ⟨bvn, dvn, bvp, dvp, bve, dve, rfl, gvi, gvn, gvp, gve, ⟨_, nvn⟩, ⟨_, nvp⟩, _, nve⟩ := valRd.lay hv
 have HKD := hid hwf.kinds
 obtain ⟨k, lo, hi, ns, ps, rs⟩ := l
 obtain ⟨vn, vns, vps, ves⟩ := v
 simp only [Lat.kind, Lat.lo, Lat.hi, Lat.names, Lat.parts, Lat.rules, Val.n, Val.names, Val.parts, Val.entries] at *
 subst hk
 have HTB := hid ht
 have HSZ := hid hsz
 have HB : Hid (∀ O O', Below w.heap.size w ((w.alloc O).alloc O')) := hid fun O O' => ((Below.refl _ _).alloc (Nat.le_refl _) O).alloc (by simp) O'
 have HT : Hid (textV (.mk 3 lo hi ns ps rs) (.mk vn vns vps ves) = Lib.itoa vn) := hid (by rw [textV]; rfl)
 generalize textV (.mk 3 lo hi ns ps rs) (.mk vn vns vps ves) = R at HT HSZ ⊢
 have HI := hid gvi
 clear hl hv ht hsz hel hwf hln hlp hlr gvn gvp gve gvi
 go_enter Tryz.func58, Tryz.ntmps58
 go_wp2_with fail
 refine (fmtInt_any _ HI.out _ (HTB.out.below (HB.out _ _))).mono ?_
 rintro e w1 ⟨rfl, hb1⟩
 have HB1 := hid ((HB.out _ _).trans (hb1.mono (HB.out _ _).size))
 clear hb1
 go_wp2_with fail
 go_ret
 exact ⟨ret_str (by rw [HT.out]), HB1.out⟩
theorem text_4 (l : Lat) (v : Val) (hk : l.kind = 4) (hwf : WfL l) (hel : elemB l v = true) : TextOk l v := by
 intro cl cv w hl hv ht hsz
 obtain ⟨aln, cln, alp, clp, alr, clr, rfl, hli, hln, hlp, hlr, ⟨_, mln⟩, ⟨_, mlp⟩, _, mlr⟩ := latRd.lay hl
 obtain ⟨bvn, dvn, bvp, dvp, bve, dve, rfl, gvi, gvn, gvp, gve, ⟨_, nvn⟩, ⟨_, nvp⟩, _, nve⟩ := valRd.lay hv
 have HKD := hid hwf.kinds
 obtain ⟨k, lo, hi, ns, ps, rs⟩ := l
 obtain ⟨vn, vns, vps, ves⟩ := v
 simp only [Lat.kind, Lat.lo, Lat.hi, Lat.names, Lat.parts, Lat.rules, Val.n, Val.names, Val.parts, Val.entries] at *
 subst hk
 have HTB := hid ht
 have HSZ := hid hsz
 have HB : Hid (∀ O O', Below w.heap.size w ((w.alloc O).alloc O')) := hid fun O O' => ((Below.refl _ _).alloc (Nat.le_refl _) O).alloc (by simp) O'
 have HT : Hid (textV (.mk 4 lo hi ns ps rs) (.mk vn vns vps ves) = 123 :: (Lib.join (vns.map bsOf) [44] ++ [125])) := hid (by rw [textV]; rfl)
 generalize textV (.mk 4 lo hi ns ps rs) (.mk vn vns vps ves) = R at HT HSZ ⊢
 have HVN := hid gvn
 have HNB := hid (allowed_names (isE_410 (by omega) hel).2)
 have HJL : Hid ((Lib.join (vns.map bsOf) [44]).length + 2 ≤ 100000000) := hid (by have := HSZ.out; rw [HT.out, List.length_cons, List.length_append] at this; simpa using this)
 have HNL : Hid (vns.length ≤ 100000000) := hid (by
  have h := join_len [44] (vns.map bsOf) fun x hx => by
    obtain ⟨s, hs, rfl⟩ := List.mem_map.1 hx
    exact (name_le (HNB.out s hs)).1
  rw [List.length_map] at h
  have := HJL.out
  omega)
 clear hl hv ht hsz hel hwf hln hlp hlr gvn gvp gve gvi
 go_enter Tryz.func58, Tryz.ntmps58
 go_wp2_with fail
 refine (join_any (.slice bvn vns.length dvn) vns ⟨#[44]⟩ _ (Strs.below HVN.out (HB.out _ _)) (by have := HNL.out; omega) (by have := HJL.out; show (Lib.join (vns.map bsOf) [44]).length ≤ _; omega)).mono ?_
 rintro e w1 ⟨rfl, hb1⟩
 have HB1 := hid ((HB.out _ _).trans (hb1.mono (HB.out _ _).size))
 clear hb1
 have HJN : Hid (Lib.join (vns.map bsOf) (bsOf ⟨#[44]⟩) = Lib.join (vns.map bsOf) [44]) := hid rfl
 rw [HJN.out]
 have HW := hid (wrap_str 123 125 (Lib.join (vns.map bsOf) [44]))
 have HJS : Hid ((strOf (Lib.join (vns.map bsOf) [44])).size + 2 ≤ 100000000) := HJL
 generalize strOf (Lib.join (vns.map bsOf) [44]) = SJ at HW HJS ⊢
 have hz1 : ¬ (9223372036854775807 < 1 + SJ.size) := by have := HJS.out; omega
 have hz2 : ¬ (9223372036854775807 < 1 + SJ.size + 1) := by have := HJS.out; omega
 go_wp2_with fail
 go_ret
 exact ⟨ret_str (by rw [HT.out, ← HW.out]), HB1.out⟩
theorem text_10 (l : Lat) (v : Val) (hk : l.kind = 10) (hwf : WfL l) (hel : elemB l v = true) : TextOk l v := by
 intro cl cv w hl hv ht hsz
 obtain ⟨aln, cln, alp, clp, alr, clr, rfl, hli, hln, hlp, hlr, ⟨_, mln⟩, ⟨_, mlp⟩, _, mlr⟩ := latRd.lay hl
 obtain ⟨bvn, dvn, bvp, dvp, bve, dve, rfl, gvi, gvn, gvp, gve, ⟨_, nvn⟩, ⟨_, nvp⟩, _, nve⟩ := valRd.lay hv
 have HKD := hid hwf.kinds
 obtain ⟨k, lo, hi, ns, ps, rs⟩ := l
 obtain ⟨vn, vns, vps, ves⟩ := v
 simp only [Lat.kind, Lat.lo, Lat.hi, Lat.names, Lat.parts, Lat.rules, Val.n, Val.names, Val.parts, Val.entries] at *
 subst hk
 have HTB := hid ht
 have HSZ := hid hsz
 have HB : Hid (∀ O O', Below w.heap.size w ((w.alloc O).alloc O')) := hid fun O O' => ((Below.refl _ _).alloc (Nat.le_refl _) O).alloc (by simp) O'
 have HT : Hid (textV (.mk 10 lo hi ns ps rs) (.mk vn vns vps ves) = 123 :: (Lib.join (vns.map bsOf) [44] ++ [125])) := hid (by rw [textV]; rfl)
 generalize textV (.mk 10 lo hi ns ps rs) (.mk vn vns vps ves) = R at HT HSZ ⊢
 have HVN := hid gvn
 have HNB := hid (allowed_names (isE_410 (by omega) hel).2)
 have HJL : Hid ((Lib.join (vns.map bsOf) [44]).length + 2 ≤ 100000000) := hid (by have := HSZ.out; rw [HT.out, List.length_cons, List.length_append] at this; simpa using this)
 have HNL : Hid (vns.length ≤ 100000000) := hid (by
  have h := join_len [44] (vns.map bsOf) fun x hx => by
    obtain ⟨s, hs, rfl⟩ := List.mem_map.1 hx
    exact (name_le (HNB.out s hs)).1
  rw [List.length_map] at h
  have := HJL.out
  omega)
 clear hl hv ht hsz hel hwf hln hlp hlr gvn gvp gve gvi
 go_enter Tryz.func58, Tryz.ntmps58
 go_wp2_with fail
 refine (join_any (.slice bvn vns.length dvn) vns ⟨#[44]⟩ _ (Strs.below HVN.out (HB.out _ _)) (by have := HNL.out; omega) (by have := HJL.out; show (Lib.join (vns.map bsOf) [44]).length ≤ _; omega)).mono ?_
 rintro e w1 ⟨rfl, hb1⟩
 have HB1 := hid ((HB.out _ _).trans (hb1.mono (HB.out _ _).size))
 clear hb1
 have HJN : Hid (Lib.join (vns.map bsOf) (bsOf ⟨#[44]⟩) = Lib.join (vns.map bsOf) [44]) := hid rfl
 rw [HJN.out]
 have HW := hid (wrap_str 123 125 (Lib.join (vns.map bsOf) [44]))
 have HJS : Hid ((strOf (Lib.join (vns.map bsOf) [44])).size + 2 ≤ 100000000) := HJL
 generalize strOf (Lib.join (vns.map bsOf) [44]) = SJ at HW HJS ⊢
 have hz1 : ¬ (9223372036854775807 < 1 + SJ.size) := by have := HJS.out; omega
 have hz2 : ¬ (9223372036854775807 < 1 + SJ.size + 1) := by have := HJS.out; omega
 go_wp2_with fail
 go_ret
 exact ⟨ret_str (by rw [HT.out, ← HW.out]), HB1.out⟩
theorem text_8 (l : Lat) (v : Val) (hk : l.kind = 8) (hwf : WfL l) (hel : elemB l v = true) : TextOk l v := by
 intro cl cv w hl hv ht hsz
 obtain ⟨aln, cln, alp, clp, alr, clr, rfl, hli, hln, hlp, hlr, ⟨_, mln⟩, ⟨_, mlp⟩, _, mlr⟩ := latRd.lay hl
 obtain ⟨bvn, dvn, bvp, dvp, bve, dve, rfl, gvi, gvn, gvp, gve, ⟨_, nvn⟩, ⟨_, nvp⟩, _, nve⟩ := valRd.lay hv
 have HKD := hid hwf.kinds
 obtain ⟨k, lo, hi, ns, ps, rs⟩ := l
 obtain ⟨vn, vns, vps, ves⟩ := v
 simp only [Lat.kind, Lat.lo, Lat.hi, Lat.names, Lat.parts, Lat.rules, Val.n, Val.names, Val.parts, Val.entries] at *
 subst hk
 have HTB := hid ht
 have HSZ := hid hsz
 have HB : Hid (∀ O O', Below w.heap.size w ((w.alloc O).alloc O')) := hid fun O O' => ((Below.refl _ _).alloc (Nat.le_refl _) O).alloc (by simp) O'
 have HT : Hid (textV (.mk 8 lo hi ns ps rs) (.mk vn vns vps ves) = if vn = 0 then [63] else if vn = 1 then bsOf (vns.headD ByteArray.empty) else [33]) := hid (by rw [textV]; rfl)
 generalize textV (.mk 8 lo hi ns ps rs) (.mk vn vns vps ves) = R at HT HSZ ⊢
 have hu := isE_8.1 hel
 simp only [Val.n, Val.names, Val.parts, Val.entries] at hu
 have HVN := hid gvn
 have hu3 := hu.2.2
 clear hu hl hv ht hsz hel hwf hln hlp hlr gvn gvp gve gvi
 rcases hu3 with ⟨rfl, _⟩ | ⟨rfl, _⟩ | ⟨rfl, hlen, _⟩
 · go_enter Tryz.func58, Tryz.ntmps58
   go_wp2_with fail
   go_ret
   exact ⟨ret_str (by rw [HT.out]; rfl), HB.out _ _⟩
 · go_enter Tryz.func58, Tryz.ntmps58
   go_wp2_with fail
   go_ret
   exact ⟨ret_str (by rw [HT.out]; rfl), HB.out _ _⟩
 · obtain ⟨q, rfl⟩ := List.length_eq_one_iff.1 hlen
   obtain ⟨qb, qo, rfl, hq, _⟩ := HVN.out.cell 0 (by simp)
   simp only [List.getElem_cons_zero, Nat.add_zero] at hq
   clear hlen
   have hqa : ∀ O O', ((w.alloc O).alloc O').cell? ⟨qb, qo, none⟩ = some (.string q) := fun O O' => cell_alloc (cell_alloc hq O) O'
   go_enter Tryz.func58, Tryz.ntmps58
   go_wp2_with fail
   go_ret
   exact ⟨ret_str (by rw [HT.out]; rfl), HB.out _ _⟩
def Got (w wr : World) (vo : Value) (L : List ByteArray) : Prop := wr.ownsRow (w.heap.size + 2) 9 1 vo L.length (L.map Value.string)
theorem Got.nil (w wr : World) : Got w wr (.slice none 0 0) [] := World.ownsRow_nil _ _ _ _
theorem Got.shape {w wr : World} {vo : Value} {L : List ByteArray} (h : Got w wr vo L) : ∃ a c, vo = .slice a L.length c := owns_shape h
theorem Got.below {w wr w1 : World} {vo : Value} {L : List ByteArray} (h : Got w wr vo L) (k : Below wr.heap.size wr w1) : Got w w1 vo L := owns_below h k
theorem Got.step {w wr w1 : World} {vo vn : Value} {L : List ByteArray} {s : ByteArray} (h : Appd wr w1 (w.heap.size + 2) 9 1 vo vn (L.length + 1) (L.map Value.string ++ [.string s])) : Got w w1 vn (L ++ [s]) := by
 have := h.own
 unfold Got
 rw [List.length_append, List.map_append]
 exact this
theorem Got.strs {w wr : World} {vo : Value} {L : List ByteArray} (h : Got w wr vo L) (hs : ∀ s ∈ L, s.size ≤ maxLen) : Strs wr vo L := Strs.mono (strs_owns h hs) (only_sub _ _)
theorem Got.grown {w wr w1 : World} {vo vn : Value} {N : Nat} {L : List ByteArray} {X : List Value} (h : Got w wr vo L) (hb : Below w.heap.size w wr) (hl : w.heap.size ≤ wr.heap.size) (k : Appd wr w1 (w.heap.size + 2) 9 1 vo vn N X) : Below w.heap.size w w1 :=
 hb.grown k.grown hl fun g hg => by have := (h.lt g hg).1; omega
theorem text_9 (l : Lat) (v : Val) (hk : l.kind = 9) (hwf : WfL l) (hel : elemB l v = true) : TextOk l v := by
 intro cl cv w hl hv ht hsz
 obtain ⟨aln, cln, alp, clp, alr, clr, rfl, hli, hln, hlp, hlr, ⟨_, mln⟩, ⟨_, mlp⟩, _, mlr⟩ := latRd.lay hl
 obtain ⟨bvn, dvn, bvp, dvp, bve, dve, rfl, gvi, gvn, gvp, gve, ⟨_, nvn⟩, ⟨_, nvp⟩, _, nve⟩ := valRd.lay hv
 have HKD := hid hwf.kinds
 obtain ⟨k, lo, hi, ns, ps, rs⟩ := l
 obtain ⟨vn, vns, vps, ves⟩ := v
 simp only [Lat.kind, Lat.lo, Lat.hi, Lat.names, Lat.parts, Lat.rules, Val.n, Val.names, Val.parts, Val.entries] at *
 subst hk
 have HTB := hid ht
 have HSZ := hid hsz
 have HB : Hid (∀ O O', Below w.heap.size w ((w.alloc O).alloc O')) := hid fun O O' => ((Below.refl _ _).alloc (Nat.le_refl _) O).alloc (by simp) O'
 have HT : Hid (textV (.mk 9 lo hi ns ps rs) (.mk vn vns vps ves) = 91 :: (Lib.join (ves.map entryT) [32, 124, 32] ++ [93])) := hid (by rw [textV]; rfl)
 generalize textV (.mk 9 lo hi ns ps rs) (.mk vn vns vps ves) = R at HT HSZ ⊢
 have HVE := hid gve
 have HJL : Hid ((Lib.join (ves.map entryT) [32, 124, 32]).length + 2 ≤ 100000000) := hid (by have := HSZ.out; rw [HT.out, List.length_cons, List.length_append] at this; simpa using this)
 have HNN : Hid (ves.length ≤ 100000000) := hid (by
  have h := join_len [32, 124, 32] (ves.map entryT) fun x hx => by
    obtain ⟨s, hs, rfl⟩ := List.mem_map.1 hx
    unfold entryT
    rw [List.length_append, List.length_cons]
    omega
  rw [List.length_map] at h
  have := HJL.out
  omega)
 have HEL : Hid (∀ e ∈ ves, (entryT e).length ≤ 100000000) := hid fun e he => by
   have h := join_mem [32, 124, 32] (List.mem_map_of_mem (f := entryT) he)
   have := HJL.out
   omega
 obtain ⟨i0, hi0, hz0, hz1, hz2⟩ := info_parts infoString3
 clear hl hv ht hsz hel hwf hln hlp hlr gvn gvp gve gvi
 go_enter Tryz.func58, Tryz.ntmps58
 go_wp2_with fail
 have HB0 := hid (HB.out (.cells #[.int .i64 9, .int .i64 lo, .int .i64 hi, .slice aln ns.length cln, .slice alp ps.length clp, .slice alr rs.length clr] 26) (.cells #[.int .i64 vn, .slice bvn vns.length dvn, .slice bvp vps.length dvp, .slice bve ves.length dve] 30))
 have HGB : Hid (w.heap.size + 2 ≤ ((w.alloc (.cells #[.int .i64 9, .int .i64 lo, .int .i64 hi, .slice aln ns.length cln, .slice alp ps.length clp, .slice alr rs.length clr] 26)).alloc (.cells #[.int .i64 vn, .slice bvn vns.length dvn, .slice bvp vps.length dvp, .slice bve ves.length dve] 30)).heap.size) := hid (by simp)
 generalize (w.alloc (.cells #[.int .i64 9, .int .i64 lo, .int .i64 hi, .slice aln ns.length cln, .slice alp ps.length clp, .slice alr rs.length clr] 26)).alloc (.cells #[.int .i64 vn, .slice bvn vns.length dvn, .slice bvp vps.length dvp, .slice bve ves.length dve] 30) = w0 at HB0 HGB ⊢
 go_loopw [5, 7, 51] (fun vo _ i wr => ∃ (j : Nat) (L : List ByteArray), j ≤ ves.length ∧ i = .int .i64 j ∧ Hid (Below w.heap.size w wr) ∧ Hid (w.heap.size + 2 ≤ wr.heap.size) ∧ Hid (Got w wr vo L) ∧ Hid (L = (ves.take j).map fun e => strOf (entryT e)) ∧ Hid (L.length = j)) (fun _ _ i _ => ves.length - (intOf i).toNat)
 case atStart => exact ⟨0, [], Nat.zero_le _, rfl, HB0, HGB, hid (Got.nil _ _), hid rfl, hid rfl⟩
 case round =>
  obtain ⟨j, L, hj, rfl, HBW, HBG, HGT, HL, HLEN⟩ := hrel
  obtain ⟨ao, co, rfl⟩ := HGT.out.shape
  by_cases hlt : j < ves.length
  · obtain ⟨e, eb, eo, ea, ec, _, hmem, _, htake, rfl, hek, hen, hcell⟩ := entEl HVE.out j hlt
    obtain ⟨r0, r1⟩ := (hcell.below HBW.out).two
    have HEK := hid hek
    have HEN := hid hen
    have HJ : Hid (j + 1 ≤ ves.length) := hid hlt
    have HEE := hid (HEL.out e hmem)
    have HL2 : Hid (L ++ [strOf (entryT e)] = (ves.take (j + 1)).map fun e => strOf (entryT e)) := hid (by rw [HL.out, htake, List.map_append]; rfl)
    have HMX : Hid (L.length + 1 ≤ maxLen ∧ (L.length + 1) * 16 ≤ 140737488355328) := hid (by have := HNN.out; have := HLEN.out; unfold maxLen; omega)
    clear hcell hek hen htake hmem
    go_wp2_with fail
    have HBA : Hid (Below w.heap.size w (wr.alloc (.cells #[.slice ea e.clock.length ec, .string e.name] 43))) := hid (HBW.out.alloc HBW.out.size _)
    have HGA : Hid (Got w (wr.alloc (.cells #[.slice ea e.clock.length ec, .string e.name] 43)) (.slice ao L.length co) L) := hid (HGT.out.below ((Below.refl _ _).alloc (Nat.le_refl _) _))
    have HBS : Hid (w.heap.size + 2 ≤ (wr.alloc (.cells #[.slice ea e.clock.length ec, .string e.name] 43)).heap.size) := hid (by have := HBG.out; simp; omega)
    refine (entry_any e [.slice ea e.clock.length ec, .string e.name] _ ⟨_, rfl, SlRd.below HEK.out HBA.out (fun _ _ _ h => h), HEN.out⟩ (HTB.out.below HBA.out) HEE.out).mono ?_
    rintro r w3 ⟨rfl, hb3⟩
    have HB3 : Hid (Below w.heap.size w w3) := hid (HBA.out.trans (hb3.mono HBA.out.size))
    have HG3 : Hid (Got w w3 (.slice ao L.length co) L) := hid (HGA.out.below hb3)
    have HS3 : Hid (w.heap.size + 2 ≤ w3.heap.size) := hid (Nat.le_trans HBS.out hb3.size)
    clear hb3 r0 r1
    generalize strOf (entryT e) = S at HL2 ⊢
    have HOWV : Hid (∀ O, Got w (w3.alloc O) (.slice ao L.length co) L) := hid fun O => HG3.out.below ((Below.refl _ _).alloc (Nat.le_refl _) O)
    have HBV : Hid (∀ O, w.heap.size + 2 ≤ (w3.alloc O).heap.size) := hid fun O => by have := HS3.out; simp; omega
    go_wp2_with (at_builtin; refine wpList_append rfl (.tmp 55) (.tmp 58) 22 rfl (w.heap.size + 2) 9 1 16 Tryz.underlying22 hi0 hz0 hz1 hz2 rfl (by decide) (.slice ao L.length co) L.length (L.map Value.string) rfl (HOWV.out _) _ 1 [.string S] rfl (Src.of_block (cs := #[.string S]) (heap_alloc_new _ _) 1 1 1 rfl (by simp [Value.oneCell'])) (L.length + 1) rfl _ rfl HMX.out.1 HMX.out.2 (HBV.out _) ?_; intro na nc w4 had; have HG4 := hid (Got.step had); have HB4 := hid ((HOWV.out _).grown (HB3.out.alloc HB3.out.size _) (by have := HBV.out (.cells #[] 0 (0, 0)); simp at this ⊢; omega) had); have HS4 := hid (Nat.le_trans (HBV.out _) had.grown.size); clear had)
    have HLV : Hid ((L ++ [S]).length = j + 1) := hid (by have := HLEN.out; simp; omega)
    go_roundw
    case rel => exact ⟨j + 1, L ++ [S], HJ.out, by go_num, HB4, HS4, HG4, HL2, HLV⟩
    case measure => have := HJ.out; simp [intOf]; omega
  · have HLM : Hid (L.map bsOf = ves.map entryT) := hid (by rw [HL.out, show ves.take j = ves from List.take_of_length_le (by omega), List.map_map]; rfl)
    have HSM : Hid (∀ s ∈ L, s.size ≤ 100000000) := hid fun s hs => by
      have h := join_mem [32, 124, 32] (List.mem_map_of_mem (f := bsOf) hs)
      rw [HLM.out] at h
      have h2 := HJL.out
      have h3 : (bsOf s).length = s.size := rfl
      omega
    have HLL : Hid (L.length ≤ 100000000) := hid (by have := HLEN.out; have := HNN.out; omega)
    go_wp2_with fail
    refine (join_any (.slice ao L.length co) L ⟨#[32, 124, 32]⟩ _ (HGT.out.strs fun s hs => by have := HSM.out s hs; unfold maxLen; omega) (by have := HLL.out; omega) (by rw [HLM.out]; have := HJL.out; show (Lib.join (ves.map entryT) [32, 124, 32]).length ≤ _; omega)).mono ?_
    rintro e w1 ⟨rfl, hb1⟩
    have HB1 := hid (HBW.out.trans (hb1.mono HBW.out.size))
    clear hb1
    rw [HLM.out]
    have HJN : Hid (Lib.join (ves.map entryT) (bsOf ⟨#[32, 124, 32]⟩) = Lib.join (ves.map entryT) [32, 124, 32]) := hid rfl
    rw [HJN.out]
    have HW := hid (wrap_str 91 93 (Lib.join (ves.map entryT) [32, 124, 32]))
    have HJS : Hid ((strOf (Lib.join (ves.map entryT) [32, 124, 32])).size + 2 ≤ 100000000) := HJL
    generalize strOf (Lib.join (ves.map entryT) [32, 124, 32]) = SJ at HW HJS ⊢
    have hz1 : ¬ (9223372036854775807 < 1 + SJ.size) := by have := HJS.out; omega
    have hz2 : ¬ (9223372036854775807 < 1 + SJ.size + 1) := by have := HJS.out; omega
    go_wp2_with fail
    go_ret
    exact ⟨ret_str (by rw [HT.out, ← HW.out]), HB1.out⟩
theorem got_base {w wr : World} {vo : Value} {L : List ByteArray} (h : Got w wr vo L) {g : Nat} (hg : vo.ownBlock = some g) : w.heap.size + 2 ≤ g := (World.ownsRow.lt h g hg).1
theorem text_5 (l : Lat) (v : Val) (hk : l.kind = 5) (hwf : WfL l) (hel : elemB l v = true) (ih : ∀ p ∈ l.parts, ∀ v, elemB p v = true → TextOk p v) : TextOk l v := by
 intro cl cv w hl hv ht hsz
 obtain ⟨aln, cln, alp, clp, alr, clr, rfl, hli, hln, hlp, hlr, ⟨_, mln⟩, ⟨_, mlp⟩, _, mlr⟩ := latRd.lay hl
 obtain ⟨bvn, dvn, bvp, dvp, bve, dve, rfl, gvi, gvn, gvp, gve, ⟨_, nvn⟩, ⟨_, nvp⟩, _, nve⟩ := valRd.lay hv
 have HKD := hid hwf.kinds
 obtain ⟨k, lo, hi, ns, ps, rs⟩ := l
 obtain ⟨vn, vns, vps, ves⟩ := v
 simp only [Lat.kind, Lat.lo, Lat.hi, Lat.names, Lat.parts, Lat.rules, Val.n, Val.names, Val.parts, Val.entries] at *
 subst hk
 have HTB := hid ht
 have HSZ := hid hsz
 have HB : Hid (∀ O O', Below w.heap.size w ((w.alloc O).alloc O')) := hid fun O O' => ((Below.refl _ _).alloc (Nat.le_refl _) O).alloc (by simp) O'
 have hF := isE_5.1 hel
 simp only [Val.n, Val.names, Val.parts, Val.entries] at hF
 obtain ⟨p0, rfl⟩ := List.length_eq_one_iff.1 (HKD.out.2.1 rfl)
 obtain ⟨Q, hQ⟩ : ∃ Q, Q = (vns.zip vps).map fun x => bsOf x.1 ++ 58 :: 32 :: textV p0 x.2 := ⟨_, rfl⟩
 have HT : Hid (textV (.mk 5 lo hi ns [p0] rs) (.mk vn vns vps ves) = 123 :: (Lib.join Q [44, 32] ++ [125])) := hid (by rw [textV, hQ]; rfl)
 generalize textV (.mk 5 lo hi ns [p0] rs) (.mk vn vns vps ves) = R at HT HSZ ⊢
 have HLN : Hid (vns.length = vps.length) := hid hF.2.1
 have HQN : Hid (Q.length = vps.length) := hid (by rw [hQ, List.length_map, List.length_zip]; omega)
 have HNS := hid gvn
 have HVP := hid gvp
 have HLP := hid hlp
 have HJL : Hid ((Lib.join Q [44, 32]).length + 2 ≤ 100000000) := hid (by have := HSZ.out; rw [HT.out, List.length_cons, List.length_append] at this; simpa using this)
 have HNN : Hid (vps.length ≤ 100000000) := hid (by
  have h := join_len [44, 32] Q fun x hx => by
    rw [hQ] at hx
    obtain ⟨s, hs, rfl⟩ := List.mem_map.1 hx
    rw [List.length_append, List.length_cons]
    omega
  have := HJL.out
  have := HQN.out
  omega)
 have HPE : Hid (∀ (j : Nat) (p : Lat) (x : Val), [p0][0]? = some p → vps[j]? = some x → TextOk p x) := hid fun j p x hp hx => ih p (by simp at hp; simp [hp]) x (by simp at hp; subst hp; exact ((mapB_one p0 vps).1 hF.2.2.2 x (List.mem_of_getElem? hx)).1)
 have HITEM : Hid (∀ (j : Nat) (nm : ByteArray) (p : Lat) (x : Val), vns[j]? = some nm → [p0][0]? = some p → vps[j]? = some x → Q[j]? = some (bsOf nm ++ 58 :: 32 :: textV p x)) := hid fun j nm p x h1 h2 h3 => by
   have h2 : p0 = p := by simpa using h2
   subst h2
   have hz : (vns.zip vps)[j]? = some (nm, x) := List.getElem?_zip_eq_some.2 ⟨h1, h3⟩
   rw [hQ, List.getElem?_map, hz]
   rfl
 clear hQ hF ih
 simp only [List.length_singleton] at *
 obtain ⟨i0, hi0, hz0, hz1, hz2⟩ := info_parts infoString3
 clear hl hv ht hsz hel hwf hln hlp hlr gvn gvp gve gvi
 go_enter Tryz.func58, Tryz.ntmps58
 go_wp2_with fail
 have HB0 := hid (HB.out (.cells #[.int .i64 5, .int .i64 lo, .int .i64 hi, .slice aln ns.length cln, .slice alp 1 clp, .slice alr rs.length clr] 26) (.cells #[.int .i64 vn, .slice bvn vns.length dvn, .slice bvp vps.length dvp, .slice bve ves.length dve] 30))
 have HGB : Hid (w.heap.size + 2 ≤ ((w.alloc (.cells #[.int .i64 5, .int .i64 lo, .int .i64 hi, .slice aln ns.length cln, .slice alp 1 clp, .slice alr rs.length clr] 26)).alloc (.cells #[.int .i64 vn, .slice bvn vns.length dvn, .slice bvp vps.length dvp, .slice bve ves.length dve] 30)).heap.size) := hid (by simp)
 have HW0 : Hid (((w.alloc (.cells #[.int .i64 5, .int .i64 lo, .int .i64 hi, .slice aln ns.length cln, .slice alp 1 clp, .slice alr rs.length clr] 26)).alloc (.cells #[.int .i64 vn, .slice bvn vns.length dvn, .slice bvp vps.length dvp, .slice bve ves.length dve] 30)).heap.size = w.heap.size + 2) := hid (by simp)
 have HX : Hid (∀ u, Below ((w.alloc (.cells #[.int .i64 5, .int .i64 lo, .int .i64 hi, .slice aln ns.length cln, .slice alp 1 clp, .slice alr rs.length clr] 26)).alloc (.cells #[.int .i64 vn, .slice bvn vns.length dvn, .slice bvp vps.length dvp, .slice bve ves.length dve] 30)).heap.size ((w.alloc (.cells #[.int .i64 5, .int .i64 lo, .int .i64 hi, .slice aln ns.length cln, .slice alp 1 clp, .slice alr rs.length clr] 26)).alloc (.cells #[.int .i64 vn, .slice bvn vns.length dvn, .slice bvp vps.length dvp, .slice bve ves.length dve] 30)) u → (∀ (i : Nat) q, #[.int .i64 5, .int .i64 lo, .int .i64 hi, .slice aln ns.length cln, .slice alp 1 clp, .slice alr rs.length clr][i]? = some q → u.cell? ⟨w.heap.size, i, none⟩ = some q) ∧ (∀ (i : Nat) q, #[.int .i64 vn, .slice bvn vns.length dvn, .slice bvp vps.length dvp, .slice bve ves.length dve][i]? = some q → u.cell? ⟨w.heap.size + 1, i, none⟩ = some q)) := hid fun u hu => two_boxes w #[.int .i64 5, .int .i64 lo, .int .i64 hi, .slice aln ns.length cln, .slice alp 1 clp, .slice alr rs.length clr] #[.int .i64 vn, .slice bvn vns.length dvn, .slice bvp vps.length dvp, .slice bve ves.length dve] 26 30 (hu.mono (by simp))
 generalize (w.alloc (.cells #[.int .i64 5, .int .i64 lo, .int .i64 hi, .slice aln ns.length cln, .slice alp 1 clp, .slice alr rs.length clr] 26)).alloc (.cells #[.int .i64 vn, .slice bvn vns.length dvn, .slice bvp vps.length dvp, .slice bve ves.length dve] 30) = w0 at HB0 HGB HX HW0 ⊢
 have c2 : w0.cell? ⟨w.heap.size + 1, 2, none⟩ = some (.slice bvp vps.length dvp) := (HX.out _ (Below.refl _ _)).2 2 _ rfl
 go_wp2_with fail
 clear c2
 go_loopw [5, 8, 9, 70] (fun vo _ _ i wr => ∃ (j : Nat) (L : List ByteArray), j ≤ vps.length ∧ i = .int .i64 j ∧ Hid (Below w.heap.size w wr) ∧ Hid (Below w0.heap.size w0 wr) ∧ Hid (Got w wr vo L) ∧ Hid (L.map bsOf = Q.take j) ∧ Hid (L.length = j)) (fun _ _ _ i _ => vps.length - (intOf i).toNat)
 case atStart => exact ⟨0, [], Nat.zero_le _, rfl, HB0, hid (Below.refl _ _), hid (Got.nil _ _), hid rfl, hid rfl⟩
 case round =>
  obtain ⟨j, L, hj, rfl, HBW, HBW0, HGT, HL, HLEN⟩ := hrel
  obtain ⟨ao, co, rfl⟩ := HGT.out.shape
  by_cases hlt : j < vps.length
  · have hln' : j < vns.length := by have := HLN.out; omega
    have hlp' : 0 < 1 := by have := HLN.out; omega
    obtain ⟨nm, qb, qo, hq1, hqm, _, _, rfl, hqc, hqs⟩ := strEl HNS.out j hln'
    obtain ⟨x, vb, vo2, xn, xcn, xp, xcp, xe, xce, hx1, hxm, _, _, rfl, hxr, hxc⟩ := valEl HVP.out j hlt
    obtain ⟨p, lb, lo2, an, cn, ap, cp, ar, cr, hp1, hpm, _, _, rfl, hyr, hyc⟩ := latEl HLP.out 0 (by simp)
    have HIT := hid (HITEM.out j nm p x hq1 hp1 hx1)
    have HTE := hid (HPE.out j p x hp1 hx1)
    have HITL := hid (join_mem [44, 32] (List.mem_of_getElem? HIT.out))
    have HYR := hid hyr
    have HXR := hid hxr
    have HYC := hid hyc
    have HQC := hid hqc
    have HJ : Hid (j + 1 ≤ vps.length) := hid hlt
    have HMX : Hid (L.length + 1 ≤ maxLen ∧ (L.length + 1) * 16 ≤ 140737488355328) := hid (by have := HNN.out; have := HLEN.out; unfold maxLen; omega)
    obtain ⟨x0, x1, x2, x3⟩ := (hxc.below HBW.out).four
    have hjn : (j : Int) < (vns.length : Int) := by omega
    have hjp : (j : Int) < (1 : Int) ∨ True := .inr trivial
    clear hq1 hqm hqc hqs hx1 hxm hxr hxc hp1 hpm hyr hyc
    go_wp2_with fail
    have HBA : Hid (Below w.heap.size w (wr.alloc (.cells #[.int .i64 x.n, .slice xn x.names.length xcn, .slice xp x.parts.length xcp, .slice xe x.entries.length xce] 30))) := hid (HBW.out.alloc HBW.out.size _)
    have HBA0 : Hid (Below w0.heap.size w0 (wr.alloc (.cells #[.int .i64 x.n, .slice xn x.names.length xcn, .slice xp x.parts.length xcp, .slice xe x.entries.length xce] 30))) := hid (HBW0.out.alloc HBW0.out.size _)
    have HGA : Hid (Got w (wr.alloc (.cells #[.int .i64 x.n, .slice xn x.names.length xcn, .slice xp x.parts.length xcp, .slice xe x.entries.length xce] 30)) (.slice ao L.length co) L) := hid (HGT.out.below ((Below.refl _ _).alloc (Nat.le_refl _) _))
    have HPB : Hid ((wr.alloc (.cells #[.int .i64 x.n, .slice xn x.names.length xcn, .slice xp x.parts.length xcp, .slice xe x.entries.length xce] 30)).heap[wr.heap.size]? = some (.cells #[.int .i64 x.n, .slice xn x.names.length xcn, .slice xp x.parts.length xcp, .slice xe x.entries.length xce] 30 (0, 0))) := hid (heap_alloc_new _ _)
    have HSA : Hid (w.heap.size + 2 ≤ (wr.alloc (.cells #[.int .i64 x.n, .slice xn x.names.length xcn, .slice xp x.parts.length xcp, .slice xe x.entries.length xce] 30)).heap.size) := hid (by have := HBW0.out.size; have := HGB.out; simp; omega)
    have HPO0 : Hid (∀ g, (Value.slice ao L.length co).ownBlock = some g → g < wr.heap.size) := hid fun g hg => (World.ownsRow.lt HGT.out g hg).2
    generalize wr.heap.size = pb at HPB HPO0 ⊢
    generalize wr.alloc (.cells #[.int .i64 x.n, .slice xn x.names.length xcn, .slice xp x.parts.length xcp, .slice xe x.entries.length xce] 30) = w3 at HBA HBA0 HGA HPB HSA ⊢
    clear x0 x1 x2 x3
    have HF : Hid (∀ u, Below w0.heap.size w0 u → u.heap[pb]? = some (.cells #[.int .i64 x.n, .slice xn x.names.length xcn, .slice xp x.parts.length xcp, .slice xe x.entries.length xce] 30 (0, 0)) → u.cell? ⟨w.heap.size + 1, 1, none⟩ = some (.slice (some ⟨qb, qo, none⟩) vns.length dvn) ∧ u.cell? ⟨w.heap.size, 4, none⟩ = some (.slice (some ⟨lb, lo2, none⟩) 1 clp) ∧ u.cell? ⟨qb, qo + j, none⟩ = some (.string nm) ∧ (u.cell? ⟨lb, lo2, none⟩ = some (.int .i64 p.kind) ∧ u.cell? ⟨lb, lo2 + 1, none⟩ = some (.int .i64 p.lo) ∧ u.cell? ⟨lb, lo2 + 2, none⟩ = some (.int .i64 p.hi) ∧ u.cell? ⟨lb, lo2 + 3, none⟩ = some (.slice an p.names.length cn) ∧ u.cell? ⟨lb, lo2 + 4, none⟩ = some (.slice ap p.parts.length cp) ∧ u.cell? ⟨lb, lo2 + 5, none⟩ = some (.slice ar p.rules.length cr)) ∧ (u.cell? ⟨pb, 0, none⟩ = some (.int .i64 x.n) ∧ u.cell? ⟨pb, 1, none⟩ = some (.slice xn x.names.length xcn) ∧ u.cell? ⟨pb, 2, none⟩ = some (.slice xp x.parts.length xcp) ∧ u.cell? ⟨pb, 3, none⟩ = some (.slice xe x.entries.length xce))) := hid fun u hu hp => by
      have HU : Below w.heap.size w u := HB0.out.trans (hu.mono HB0.out.size)
      have hy := (HYC.out.below HU).six
      simp only [Nat.zero_mul, Nat.add_zero] at hy
      exact ⟨(HX.out u hu).2 1 _ rfl, (HX.out u hu).1 4 _ rfl, (HU.cell (World.block_lt_of_cell? _ _ HQC.out)).trans HQC.out, hy, cell_at_block hp, cell_at_block hp, cell_at_block hp, cell_at_block hp⟩
    have HFB : Hid (∀ u, Below w3.heap.size w3 u → u.cell? ⟨w.heap.size + 1, 1, none⟩ = some (.slice (some ⟨qb, qo, none⟩) vns.length dvn) ∧ u.cell? ⟨w.heap.size, 4, none⟩ = some (.slice (some ⟨lb, lo2, none⟩) 1 clp) ∧ u.cell? ⟨qb, qo + j, none⟩ = some (.string nm) ∧ (u.cell? ⟨lb, lo2, none⟩ = some (.int .i64 p.kind) ∧ u.cell? ⟨lb, lo2 + 1, none⟩ = some (.int .i64 p.lo) ∧ u.cell? ⟨lb, lo2 + 2, none⟩ = some (.int .i64 p.hi) ∧ u.cell? ⟨lb, lo2 + 3, none⟩ = some (.slice an p.names.length cn) ∧ u.cell? ⟨lb, lo2 + 4, none⟩ = some (.slice ap p.parts.length cp) ∧ u.cell? ⟨lb, lo2 + 5, none⟩ = some (.slice ar p.rules.length cr)) ∧ (u.cell? ⟨pb, 0, none⟩ = some (.int .i64 x.n) ∧ u.cell? ⟨pb, 1, none⟩ = some (.slice xn x.names.length xcn) ∧ u.cell? ⟨pb, 2, none⟩ = some (.slice xp x.parts.length xcp) ∧ u.cell? ⟨pb, 3, none⟩ = some (.slice xe x.entries.length xce))) := hid fun u hu => HF.out u (HBA0.out.trans (hu.mono HBA0.out.size)) ((hu.block _ (block_lt HPB.out)).trans HPB.out)
    have HPO : Hid (∀ g, (Value.slice ao L.length co).ownBlock = some g → g < pb) := HPO0
    have HCT : Hid (∀ u, Below w3.heap.size w3 u → Calls Tryz.prog 58 #[.agg #[.int .i64 p.kind, .int .i64 p.lo, .int .i64 p.hi, .slice an p.names.length cn, .slice ap p.parts.length cp, .slice ar p.rules.length cr], .agg #[.int .i64 x.n, .slice xn x.names.length xcn, .slice xp x.parts.length xcp, .slice xe x.entries.length xce]] u fun e w' => e = .returned (.string (strOf (textV p x))) ∧ Below u.heap.size u w') := hid fun u hu => by
      have HU : Below w.heap.size w u := HBA.out.trans (hu.mono HBA.out.size)
      exact HTE.out [.int .i64 p.kind, .int .i64 p.lo, .int .i64 p.hi, .slice an p.names.length cn, .slice ap p.parts.length cp, .slice ar p.rules.length cr] [.int .i64 x.n, .slice xn x.names.length xcn, .slice xp x.parts.length xcp, .slice xe x.entries.length xce] u (latRd.below HU _ _ HYR.out) (valRd.below HU _ _ HXR.out) (HTB.out.below HU) (by have h1 := HITL.out; have h2 := HJL.out; rw [List.length_append, List.length_cons, List.length_cons] at h1; omega)
    have HSZS : Hid (nm.size + 2 + (strOf (textV p x)).size ≤ 100000000) := hid (by
     have h1 := HITL.out
     have h2 := HJL.out
     rw [List.length_append, List.length_cons, List.length_cons] at h1
     have h3 : (bsOf nm).length = nm.size := rfl
     have h4 : (strOf (textV p x)).size = (textV p x).length := rfl
     omega)
    have HSE : Hid (bsOf ((nm ++ ⟨#[58, 32]⟩) ++ strOf (textV p x)) = bsOf nm ++ 58 :: 32 :: textV p x) := hid (by
     have e : (⟨#[58, 32]⟩ : ByteArray) = strOf [58, 32] := rfl
     rw [e, ← strOf_bsOf nm, strOf_append, strOf_append, bsOf_strOf, List.append_assoc]
     rfl)
    have HL2 : Hid ((L ++ [(nm ++ ⟨#[58, 32]⟩) ++ strOf (textV p x)]).map bsOf = Q.take (j + 1)) := hid (by
     have hj : j < Q.length := by
      rcases Nat.lt_or_ge j Q.length with h | h
      · exact h
      · have := HIT.out; rw [List.getElem?_eq_none h] at this; cases this
     have e : Q[j] = bsOf nm ++ 58 :: 32 :: textV p x := by have := HIT.out; rw [List.getElem?_eq_getElem hj] at this; exact Option.some.inj this
     rw [take_at Q j hj, e, List.map_append, HL.out, List.map_cons, List.map_nil, HSE.out])
    clear HIT HITL HTE
    generalize strOf (textV p x) = T at HCT HSZS HSE HL2
    have hz3 : ¬ (9223372036854775807 < nm.size + 2) := by have := HSZS.out; omega
    have hz4 : ¬ (9223372036854775807 < nm.size + 2 + T.size) := by have := HSZS.out; omega
    go_region_held3 (fun w' => w'.cell? ⟨w.heap.size + 1, 1, none⟩ = some (.slice (some ⟨qb, qo, none⟩) vns.length dvn) ∧ w'.cell? ⟨w.heap.size, 4, none⟩ = some (.slice (some ⟨lb, lo2, none⟩) 1 clp) ∧ w'.cell? ⟨qb, qo + j, none⟩ = some (.string nm) ∧ (w'.cell? ⟨lb, lo2, none⟩ = some (.int .i64 p.kind) ∧ w'.cell? ⟨lb, lo2 + 1, none⟩ = some (.int .i64 p.lo) ∧ w'.cell? ⟨lb, lo2 + 2, none⟩ = some (.int .i64 p.hi) ∧ w'.cell? ⟨lb, lo2 + 3, none⟩ = some (.slice an p.names.length cn) ∧ w'.cell? ⟨lb, lo2 + 4, none⟩ = some (.slice ap p.parts.length cp) ∧ w'.cell? ⟨lb, lo2 + 5, none⟩ = some (.slice ar p.rules.length cr)) ∧ (w'.cell? ⟨pb, 0, none⟩ = some (.int .i64 x.n) ∧ w'.cell? ⟨pb, 1, none⟩ = some (.slice xn x.names.length xcn) ∧ w'.cell? ⟨pb, 2, none⟩ = some (.slice xp x.parts.length xcp) ∧ w'.cell? ⟨pb, 3, none⟩ = some (.slice xe x.entries.length xce)))
      (first
        | exact HFB.out _ (Below.refl _ _).drew
        | exact HFB.out _ (Below.refl _ _)
        | exact HFB.out _ HB34.out
        | exact HFB.out _ (HB34.out.alloc HB34.out.size _)
        | exact HF.out _ HB05.out HP5.out
        | skip)
      (first
        | (go_at_call 58
           first
            | refine (HCT.out _ (Below.refl _ _)).mono ?_
            | refine (HCT.out _ (Below.refl _ _).drew).mono ?_
           rintro e w4 ⟨rfl, hb4⟩
           have HB34 : Hid (Below w3.heap.size w3 w4) := hid (by first | exact hb4 | exact (Below.refl _ _).drew.trans hb4)
           have HB4 : Hid (Below w.heap.size w w4) := hid (HBA.out.trans (HB34.out.mono HBA.out.size))
           have HB04 : Hid (Below w0.heap.size w0 w4) := hid (HBA0.out.trans (HB34.out.mono HBA0.out.size))
           have HOWV : Hid (∀ O, Got w (w4.alloc O) (.slice ao L.length co) L) := hid fun O => (HGA.out.below HB34.out).below ((Below.refl _ _).alloc (Nat.le_refl _) O)
           have HBV : Hid (∀ O, w.heap.size + 2 ≤ (w4.alloc O).heap.size) := hid fun O => by have := HSA.out; have := HB34.out.size; simp; omega
           clear hb4)
        | (refine step_append (by rfl) (.tmp 75) (.tmp 89) 22 (by rfl) (w.heap.size + 2) 9 1 16 Tryz.underlying22 hi0 hz0 hz1 hz2 rfl (by decide) (.slice ao L.length co) L.length (L.map Value.string) (by rfl) (HOWV.out _) _ 1 [.string ((nm ++ ⟨#[58, 32]⟩) ++ T)] (by rfl) (Src.of_block (cs := #[.string ((nm ++ ⟨#[58, 32]⟩) ++ T)]) (heap_alloc_new _ _) 1 1 1 rfl (by simp [Value.oneCell'])) (L.length + 1) rfl _ rfl HMX.out.1 HMX.out.2 (HBV.out _) ?_
           intro na nc w5 had
           have HG5 := hid (Got.step had)
           have HB5 := hid ((HOWV.out _).grown (HB4.out.alloc HB4.out.size _) (by have := HBV.out (.cells #[] 0 (0, 0)); simp at this ⊢; omega) had)
           have HB05 : Hid (Below w0.heap.size w0 w5) := hid ((HB04.out.alloc HB04.out.size _).grown had.grown (by have := HB04.out.size; simp; omega) (fun g hg => by have := got_base (HOWV.out (.cells #[] 0 (0, 0))) hg; have := HW0.out; omega))
           have HP5 : Hid (w5.heap[pb]? = some (.cells #[.int .i64 x.n, .slice xn x.names.length xcn, .slice xp x.parts.length xcp, .slice xe x.entries.length xce] 30 (0, 0))) := hid ((had.grown.block pb (by have := block_lt HPB.out; have := HB34.out.size; simp; omega) (fun e => by have := HPO.out pb e.symm; omega)).trans (block_alloc ((HB34.out.block _ (block_lt HPB.out)).trans HPB.out) _))
           clear had))
    all_goals
     have HLV : Hid ((L ++ [(nm ++ ⟨#[58, 32]⟩) ++ T]).length = j + 1) := hid (by have := HLEN.out; simp; omega)
     clear hz3 hz4
     go_wp2_with fail
     go_roundw
     case rel => exact ⟨j + 1, L ++ [(nm ++ ⟨#[58, 32]⟩) ++ T], HJ.out, by go_num, HB5, HB05, HG5, HL2, HLV⟩
     case measure => have := HJ.out; simp [intOf]; omega
  · have hjj : j = vps.length := by omega
    have HLM : Hid (L.map bsOf = Q) := hid (by rw [HL.out, List.take_of_length_le (by have := HQN.out; omega)])
    have HSM : Hid (∀ s ∈ L, s.size ≤ 100000000) := hid fun s hs => by
      have h := join_mem [44, 32] (List.mem_map_of_mem (f := bsOf) hs)
      rw [HLM.out] at h
      have h2 := HJL.out
      have h3 : (bsOf s).length = s.size := rfl
      omega
    have HLL : Hid (L.length ≤ 100000000) := hid (by have := HLEN.out; have := HNN.out; omega)
    go_wp2_with fail
    refine (join_any (.slice ao L.length co) L ⟨#[44, 32]⟩ _ (HGT.out.strs fun s hs => by have := HSM.out s hs; unfold maxLen; omega) (by have := HLL.out; omega) (by rw [HLM.out]; have := HJL.out; show (Lib.join Q [44, 32]).length ≤ _; omega)).mono ?_
    rintro e w1 ⟨rfl, hb1⟩
    have HB1 := hid (HBW.out.trans (hb1.mono HBW.out.size))
    clear hb1
    rw [HLM.out]
    have HJN : Hid (Lib.join Q (bsOf ⟨#[44, 32]⟩) = Lib.join Q [44, 32]) := hid rfl
    rw [HJN.out]
    have HW := hid (wrap_str 123 125 (Lib.join Q [44, 32]))
    have HJS : Hid ((strOf (Lib.join Q [44, 32])).size + 2 ≤ 100000000) := HJL
    generalize strOf (Lib.join Q [44, 32]) = SJ at HW HJS ⊢
    have hz1 : ¬ (9223372036854775807 < 1 + SJ.size) := by have := HJS.out; omega
    have hz2 : ¬ (9223372036854775807 < 1 + SJ.size + 1) := by have := HJS.out; omega
    go_wp2_with fail
    go_ret
    exact ⟨ret_str (by rw [HT.out, ← HW.out]), HB1.out⟩
theorem textProd_len : ∀ (ns : List ByteArray) (ps : List Lat) (vs : List Val), ns.length = ps.length → vs.length = ps.length → (textProd ns ps vs).length = vs.length
 | [], [], [], _, _ => by rw [textProd]; rfl
 | [], _ :: _, _, h, _ => by simp at h
 | _ :: _, [], _, h, _ => by simp at h
 | [], [], _ :: _, _, h => by simp at h
 | _ :: _, _ :: _, [], _, h => by simp at h
 | n :: ns, p :: ps, v :: vs, h, h' => by
   rw [textProd, List.length_cons, List.length_cons, textProd_len ns ps vs (by simpa using h) (by simpa using h')]
theorem textProd_at : ∀ (ns : List ByteArray) (ps : List Lat) (vs : List Val) (j : Nat) (nm : ByteArray) (p : Lat) (x : Val), ns[j]? = some nm → ps[j]? = some p → vs[j]? = some x → (textProd ns ps vs)[j]? = some (bsOf nm ++ 58 :: 32 :: textV p x)
 | [], _, _, _, _, _, _, h, _, _ => by simp at h
 | _ :: _, [], _, _, _, _, _, _, h, _ => by simp at h
 | _ :: _, _ :: _, [], _, _, _, _, _, _, h => by simp at h
 | n :: ns, q :: ps, v :: vs, 0, nm, p, x, h1, h2, h3 => by
   rw [textProd]
   simp at h1 h2 h3
   simp [h1, h2, h3]
 | n :: ns, q :: ps, v :: vs, j + 1, nm, p, x, h1, h2, h3 => by
   rw [textProd]
   simp only [List.getElem?_cons_succ] at h1 h2 h3 ⊢
   exact textProd_at ns ps vs j nm p x h1 h2 h3
theorem elems_at {ps : List Lat} {vs : List Val} (hl : vs.length = ps.length) (h : elemsB ps vs = true) {j : Nat} {p : Lat} {x : Val} (hp : ps[j]? = some p) (hx : vs[j]? = some x) : elemB p x = true := by
 obtain ⟨h1, rfl⟩ := List.getElem?_eq_some_iff.1 hp
 obtain ⟨h2, rfl⟩ := List.getElem?_eq_some_iff.1 hx
 exact (elemsB_iff ps vs hl).1 h j h1 h2
theorem text_6 (l : Lat) (v : Val) (hk : l.kind = 6) (hwf : WfL l) (hel : elemB l v = true) (ih : ∀ p ∈ l.parts, ∀ v, elemB p v = true → TextOk p v) : TextOk l v := by
 intro cl cv w hl hv ht hsz
 obtain ⟨aln, cln, alp, clp, alr, clr, rfl, hli, hln, hlp, hlr, ⟨_, mln⟩, ⟨_, mlp⟩, _, mlr⟩ := latRd.lay hl
 obtain ⟨bvn, dvn, bvp, dvp, bve, dve, rfl, gvi, gvn, gvp, gve, ⟨_, nvn⟩, ⟨_, nvp⟩, _, nve⟩ := valRd.lay hv
 have HKD := hid hwf.kinds
 obtain ⟨k, lo, hi, ns, ps, rs⟩ := l
 obtain ⟨vn, vns, vps, ves⟩ := v
 simp only [Lat.kind, Lat.lo, Lat.hi, Lat.names, Lat.parts, Lat.rules, Val.n, Val.names, Val.parts, Val.entries] at *
 subst hk
 have HTB := hid ht
 have HSZ := hid hsz
 have HB : Hid (∀ O O', Below w.heap.size w ((w.alloc O).alloc O')) := hid fun O O' => ((Below.refl _ _).alloc (Nat.le_refl _) O).alloc (by simp) O'
 have hF := (isE_67 (by omega)).1 hel
 simp only [Val.n, Val.names, Val.parts, Val.entries] at hF
 have hnp : ns.length = ps.length := by have := HKD.out; omega
 obtain ⟨Q, hQ⟩ : ∃ Q, Q = textProd ns ps vps := ⟨_, rfl⟩
 have HT : Hid (textV (.mk 6 lo hi ns ps rs) (.mk vn vns vps ves) = 40 :: (Lib.join Q [44, 32] ++ [41])) := hid (by rw [textV, hQ]; rfl)
 generalize textV (.mk 6 lo hi ns ps rs) (.mk vn vns vps ves) = R at HT HSZ ⊢
 have HLN : Hid (ns.length = vps.length ∧ ps.length = vps.length) := hid (by omega)
 have HQN : Hid (Q.length = vps.length) := hid (by rw [hQ]; exact textProd_len ns ps vps (by omega) (by omega))
 have HNS := hid hln
 have HVP := hid gvp
 have HLP := hid hlp
 have HJL : Hid ((Lib.join Q [44, 32]).length + 2 ≤ 100000000) := hid (by have := HSZ.out; rw [HT.out, List.length_cons, List.length_append] at this; simpa using this)
 have HNN : Hid (vps.length ≤ 100000000) := hid (by have := HLN.out; have := HKD.out; omega)
 have HPE : Hid (∀ (j : Nat) (p : Lat) (x : Val), ps[j]? = some p → vps[j]? = some x → TextOk p x) := hid fun j p x hp hx => ih p (List.mem_of_getElem? hp) x (elems_at hF.2.1 hF.2.2 hp hx)
 have HITEM : Hid (∀ (j : Nat) (nm : ByteArray) (p : Lat) (x : Val), ns[j]? = some nm → ps[j]? = some p → vps[j]? = some x → Q[j]? = some (bsOf nm ++ 58 :: 32 :: textV p x)) := hid fun j nm p x h1 h2 h3 => by rw [hQ]; exact textProd_at ns ps vps j nm p x h1 h2 h3
 clear hQ hF ih hnp
 obtain ⟨i0, hi0, hz0, hz1, hz2⟩ := info_parts infoString3
 clear hl hv ht hsz hel hwf hln hlp hlr gvn gvp gve gvi
 go_enter Tryz.func58, Tryz.ntmps58
 go_wp2_with fail
 have HB0 := hid (HB.out (.cells #[.int .i64 6, .int .i64 lo, .int .i64 hi, .slice aln ns.length cln, .slice alp ps.length clp, .slice alr rs.length clr] 26) (.cells #[.int .i64 vn, .slice bvn vns.length dvn, .slice bvp vps.length dvp, .slice bve ves.length dve] 30))
 have HGB : Hid (w.heap.size + 2 ≤ ((w.alloc (.cells #[.int .i64 6, .int .i64 lo, .int .i64 hi, .slice aln ns.length cln, .slice alp ps.length clp, .slice alr rs.length clr] 26)).alloc (.cells #[.int .i64 vn, .slice bvn vns.length dvn, .slice bvp vps.length dvp, .slice bve ves.length dve] 30)).heap.size) := hid (by simp)
 have HW0 : Hid (((w.alloc (.cells #[.int .i64 6, .int .i64 lo, .int .i64 hi, .slice aln ns.length cln, .slice alp ps.length clp, .slice alr rs.length clr] 26)).alloc (.cells #[.int .i64 vn, .slice bvn vns.length dvn, .slice bvp vps.length dvp, .slice bve ves.length dve] 30)).heap.size = w.heap.size + 2) := hid (by simp)
 have HX : Hid (∀ u, Below ((w.alloc (.cells #[.int .i64 6, .int .i64 lo, .int .i64 hi, .slice aln ns.length cln, .slice alp ps.length clp, .slice alr rs.length clr] 26)).alloc (.cells #[.int .i64 vn, .slice bvn vns.length dvn, .slice bvp vps.length dvp, .slice bve ves.length dve] 30)).heap.size ((w.alloc (.cells #[.int .i64 6, .int .i64 lo, .int .i64 hi, .slice aln ns.length cln, .slice alp ps.length clp, .slice alr rs.length clr] 26)).alloc (.cells #[.int .i64 vn, .slice bvn vns.length dvn, .slice bvp vps.length dvp, .slice bve ves.length dve] 30)) u → (∀ (i : Nat) q, #[.int .i64 6, .int .i64 lo, .int .i64 hi, .slice aln ns.length cln, .slice alp ps.length clp, .slice alr rs.length clr][i]? = some q → u.cell? ⟨w.heap.size, i, none⟩ = some q) ∧ (∀ (i : Nat) q, #[.int .i64 vn, .slice bvn vns.length dvn, .slice bvp vps.length dvp, .slice bve ves.length dve][i]? = some q → u.cell? ⟨w.heap.size + 1, i, none⟩ = some q)) := hid fun u hu => two_boxes w #[.int .i64 6, .int .i64 lo, .int .i64 hi, .slice aln ns.length cln, .slice alp ps.length clp, .slice alr rs.length clr] #[.int .i64 vn, .slice bvn vns.length dvn, .slice bvp vps.length dvp, .slice bve ves.length dve] 26 30 (hu.mono (by simp))
 generalize (w.alloc (.cells #[.int .i64 6, .int .i64 lo, .int .i64 hi, .slice aln ns.length cln, .slice alp ps.length clp, .slice alr rs.length clr] 26)).alloc (.cells #[.int .i64 vn, .slice bvn vns.length dvn, .slice bvp vps.length dvp, .slice bve ves.length dve] 30) = w0 at HB0 HGB HX HW0 ⊢
 have c2 : w0.cell? ⟨w.heap.size + 1, 2, none⟩ = some (.slice bvp vps.length dvp) := (HX.out _ (Below.refl _ _)).2 2 _ rfl
 go_wp2_with fail
 clear c2
 go_loopw [5, 10, 11, 101] (fun vo _ _ i wr => ∃ (j : Nat) (L : List ByteArray), j ≤ vps.length ∧ i = .int .i64 j ∧ Hid (Below w.heap.size w wr) ∧ Hid (Below w0.heap.size w0 wr) ∧ Hid (Got w wr vo L) ∧ Hid (L.map bsOf = Q.take j) ∧ Hid (L.length = j)) (fun _ _ _ i _ => vps.length - (intOf i).toNat)
 case atStart => exact ⟨0, [], Nat.zero_le _, rfl, HB0, hid (Below.refl _ _), hid (Got.nil _ _), hid rfl, hid rfl⟩
 case round =>
  obtain ⟨j, L, hj, rfl, HBW, HBW0, HGT, HL, HLEN⟩ := hrel
  obtain ⟨ao, co, rfl⟩ := HGT.out.shape
  by_cases hlt : j < vps.length
  · have hln' : j < ns.length := by have := HLN.out; omega
    have hlp' : j < ps.length := by have := HLN.out; omega
    obtain ⟨nm, qb, qo, hq1, hqm, _, _, rfl, hqc, hqs⟩ := strEl HNS.out j hln'
    obtain ⟨x, vb, vo2, xn, xcn, xp, xcp, xe, xce, hx1, hxm, _, _, rfl, hxr, hxc⟩ := valEl HVP.out j hlt
    obtain ⟨p, lb, lo2, an, cn, ap, cp, ar, cr, hp1, hpm, _, _, rfl, hyr, hyc⟩ := latEl HLP.out j hlp'
    have HIT := hid (HITEM.out j nm p x hq1 hp1 hx1)
    have HTE := hid (HPE.out j p x hp1 hx1)
    have HITL := hid (join_mem [44, 32] (List.mem_of_getElem? HIT.out))
    have HYR := hid hyr
    have HXR := hid hxr
    have HYC := hid hyc
    have HQC := hid hqc
    have HJ : Hid (j + 1 ≤ vps.length) := hid hlt
    have HMX : Hid (L.length + 1 ≤ maxLen ∧ (L.length + 1) * 16 ≤ 140737488355328) := hid (by have := HNN.out; have := HLEN.out; unfold maxLen; omega)
    obtain ⟨x0, x1, x2, x3⟩ := (hxc.below HBW.out).four
    have hjn : (j : Int) < (ns.length : Int) := by omega
    have hjp : (j : Int) < (ps.length : Int) ∨ True := .inr trivial
    have hjp : (j : Int) < (ps.length : Int) := by omega
    clear hq1 hqm hqc hqs hx1 hxm hxr hxc hp1 hpm hyr hyc
    go_wp2_with fail
    have HBA : Hid (Below w.heap.size w (wr.alloc (.cells #[.int .i64 x.n, .slice xn x.names.length xcn, .slice xp x.parts.length xcp, .slice xe x.entries.length xce] 30))) := hid (HBW.out.alloc HBW.out.size _)
    have HBA0 : Hid (Below w0.heap.size w0 (wr.alloc (.cells #[.int .i64 x.n, .slice xn x.names.length xcn, .slice xp x.parts.length xcp, .slice xe x.entries.length xce] 30))) := hid (HBW0.out.alloc HBW0.out.size _)
    have HGA : Hid (Got w (wr.alloc (.cells #[.int .i64 x.n, .slice xn x.names.length xcn, .slice xp x.parts.length xcp, .slice xe x.entries.length xce] 30)) (.slice ao L.length co) L) := hid (HGT.out.below ((Below.refl _ _).alloc (Nat.le_refl _) _))
    have HPB : Hid ((wr.alloc (.cells #[.int .i64 x.n, .slice xn x.names.length xcn, .slice xp x.parts.length xcp, .slice xe x.entries.length xce] 30)).heap[wr.heap.size]? = some (.cells #[.int .i64 x.n, .slice xn x.names.length xcn, .slice xp x.parts.length xcp, .slice xe x.entries.length xce] 30 (0, 0))) := hid (heap_alloc_new _ _)
    have HSA : Hid (w.heap.size + 2 ≤ (wr.alloc (.cells #[.int .i64 x.n, .slice xn x.names.length xcn, .slice xp x.parts.length xcp, .slice xe x.entries.length xce] 30)).heap.size) := hid (by have := HBW0.out.size; have := HGB.out; simp; omega)
    have HPO0 : Hid (∀ g, (Value.slice ao L.length co).ownBlock = some g → g < wr.heap.size) := hid fun g hg => (World.ownsRow.lt HGT.out g hg).2
    generalize wr.heap.size = pb at HPB HPO0 ⊢
    generalize wr.alloc (.cells #[.int .i64 x.n, .slice xn x.names.length xcn, .slice xp x.parts.length xcp, .slice xe x.entries.length xce] 30) = w3 at HBA HBA0 HGA HPB HSA ⊢
    clear x0 x1 x2 x3
    have HF : Hid (∀ u, Below w0.heap.size w0 u → u.heap[pb]? = some (.cells #[.int .i64 x.n, .slice xn x.names.length xcn, .slice xp x.parts.length xcp, .slice xe x.entries.length xce] 30 (0, 0)) → u.cell? ⟨w.heap.size, 3, none⟩ = some (.slice (some ⟨qb, qo, none⟩) ns.length cln) ∧ u.cell? ⟨w.heap.size, 4, none⟩ = some (.slice (some ⟨lb, lo2, none⟩) ps.length clp) ∧ u.cell? ⟨qb, qo + j, none⟩ = some (.string nm) ∧ (u.cell? ⟨lb, lo2 + j * 6, none⟩ = some (.int .i64 p.kind) ∧ u.cell? ⟨lb, lo2 + j * 6 + 1, none⟩ = some (.int .i64 p.lo) ∧ u.cell? ⟨lb, lo2 + j * 6 + 2, none⟩ = some (.int .i64 p.hi) ∧ u.cell? ⟨lb, lo2 + j * 6 + 3, none⟩ = some (.slice an p.names.length cn) ∧ u.cell? ⟨lb, lo2 + j * 6 + 4, none⟩ = some (.slice ap p.parts.length cp) ∧ u.cell? ⟨lb, lo2 + j * 6 + 5, none⟩ = some (.slice ar p.rules.length cr)) ∧ (u.cell? ⟨pb, 0, none⟩ = some (.int .i64 x.n) ∧ u.cell? ⟨pb, 1, none⟩ = some (.slice xn x.names.length xcn) ∧ u.cell? ⟨pb, 2, none⟩ = some (.slice xp x.parts.length xcp) ∧ u.cell? ⟨pb, 3, none⟩ = some (.slice xe x.entries.length xce))) := hid fun u hu hp => by
      have HU : Below w.heap.size w u := HB0.out.trans (hu.mono HB0.out.size)
      have hy := (HYC.out.below HU).six
      exact ⟨(HX.out u hu).1 3 _ rfl, (HX.out u hu).1 4 _ rfl, (HU.cell (World.block_lt_of_cell? _ _ HQC.out)).trans HQC.out, hy, cell_at_block hp, cell_at_block hp, cell_at_block hp, cell_at_block hp⟩
    have HFB : Hid (∀ u, Below w3.heap.size w3 u → u.cell? ⟨w.heap.size, 3, none⟩ = some (.slice (some ⟨qb, qo, none⟩) ns.length cln) ∧ u.cell? ⟨w.heap.size, 4, none⟩ = some (.slice (some ⟨lb, lo2, none⟩) ps.length clp) ∧ u.cell? ⟨qb, qo + j, none⟩ = some (.string nm) ∧ (u.cell? ⟨lb, lo2 + j * 6, none⟩ = some (.int .i64 p.kind) ∧ u.cell? ⟨lb, lo2 + j * 6 + 1, none⟩ = some (.int .i64 p.lo) ∧ u.cell? ⟨lb, lo2 + j * 6 + 2, none⟩ = some (.int .i64 p.hi) ∧ u.cell? ⟨lb, lo2 + j * 6 + 3, none⟩ = some (.slice an p.names.length cn) ∧ u.cell? ⟨lb, lo2 + j * 6 + 4, none⟩ = some (.slice ap p.parts.length cp) ∧ u.cell? ⟨lb, lo2 + j * 6 + 5, none⟩ = some (.slice ar p.rules.length cr)) ∧ (u.cell? ⟨pb, 0, none⟩ = some (.int .i64 x.n) ∧ u.cell? ⟨pb, 1, none⟩ = some (.slice xn x.names.length xcn) ∧ u.cell? ⟨pb, 2, none⟩ = some (.slice xp x.parts.length xcp) ∧ u.cell? ⟨pb, 3, none⟩ = some (.slice xe x.entries.length xce))) := hid fun u hu => HF.out u (HBA0.out.trans (hu.mono HBA0.out.size)) ((hu.block _ (block_lt HPB.out)).trans HPB.out)
    have HPO : Hid (∀ g, (Value.slice ao L.length co).ownBlock = some g → g < pb) := HPO0
    have HCT : Hid (∀ u, Below w3.heap.size w3 u → Calls Tryz.prog 58 #[.agg #[.int .i64 p.kind, .int .i64 p.lo, .int .i64 p.hi, .slice an p.names.length cn, .slice ap p.parts.length cp, .slice ar p.rules.length cr], .agg #[.int .i64 x.n, .slice xn x.names.length xcn, .slice xp x.parts.length xcp, .slice xe x.entries.length xce]] u fun e w' => e = .returned (.string (strOf (textV p x))) ∧ Below u.heap.size u w') := hid fun u hu => by
      have HU : Below w.heap.size w u := HBA.out.trans (hu.mono HBA.out.size)
      exact HTE.out [.int .i64 p.kind, .int .i64 p.lo, .int .i64 p.hi, .slice an p.names.length cn, .slice ap p.parts.length cp, .slice ar p.rules.length cr] [.int .i64 x.n, .slice xn x.names.length xcn, .slice xp x.parts.length xcp, .slice xe x.entries.length xce] u (latRd.below HU _ _ HYR.out) (valRd.below HU _ _ HXR.out) (HTB.out.below HU) (by have h1 := HITL.out; have h2 := HJL.out; rw [List.length_append, List.length_cons, List.length_cons] at h1; omega)
    have HSZS : Hid (nm.size + 2 + (strOf (textV p x)).size ≤ 100000000) := hid (by
     have h1 := HITL.out
     have h2 := HJL.out
     rw [List.length_append, List.length_cons, List.length_cons] at h1
     have h3 : (bsOf nm).length = nm.size := rfl
     have h4 : (strOf (textV p x)).size = (textV p x).length := rfl
     omega)
    have HSE : Hid (bsOf ((nm ++ ⟨#[58, 32]⟩) ++ strOf (textV p x)) = bsOf nm ++ 58 :: 32 :: textV p x) := hid (by
     have e : (⟨#[58, 32]⟩ : ByteArray) = strOf [58, 32] := rfl
     rw [e, ← strOf_bsOf nm, strOf_append, strOf_append, bsOf_strOf, List.append_assoc]
     rfl)
    have HL2 : Hid ((L ++ [(nm ++ ⟨#[58, 32]⟩) ++ strOf (textV p x)]).map bsOf = Q.take (j + 1)) := hid (by
     have hj : j < Q.length := by
      rcases Nat.lt_or_ge j Q.length with h | h
      · exact h
      · have := HIT.out; rw [List.getElem?_eq_none h] at this; cases this
     have e : Q[j] = bsOf nm ++ 58 :: 32 :: textV p x := by have := HIT.out; rw [List.getElem?_eq_getElem hj] at this; exact Option.some.inj this
     rw [take_at Q j hj, e, List.map_append, HL.out, List.map_cons, List.map_nil, HSE.out])
    clear HIT HITL HTE
    generalize strOf (textV p x) = T at HCT HSZS HSE HL2
    have hz3 : ¬ (9223372036854775807 < nm.size + 2) := by have := HSZS.out; omega
    have hz4 : ¬ (9223372036854775807 < nm.size + 2 + T.size) := by have := HSZS.out; omega
    go_region_held3 (fun w' => w'.cell? ⟨w.heap.size, 3, none⟩ = some (.slice (some ⟨qb, qo, none⟩) ns.length cln) ∧ w'.cell? ⟨w.heap.size, 4, none⟩ = some (.slice (some ⟨lb, lo2, none⟩) ps.length clp) ∧ w'.cell? ⟨qb, qo + j, none⟩ = some (.string nm) ∧ (w'.cell? ⟨lb, lo2 + j * 6, none⟩ = some (.int .i64 p.kind) ∧ w'.cell? ⟨lb, lo2 + j * 6 + 1, none⟩ = some (.int .i64 p.lo) ∧ w'.cell? ⟨lb, lo2 + j * 6 + 2, none⟩ = some (.int .i64 p.hi) ∧ w'.cell? ⟨lb, lo2 + j * 6 + 3, none⟩ = some (.slice an p.names.length cn) ∧ w'.cell? ⟨lb, lo2 + j * 6 + 4, none⟩ = some (.slice ap p.parts.length cp) ∧ w'.cell? ⟨lb, lo2 + j * 6 + 5, none⟩ = some (.slice ar p.rules.length cr)) ∧ (w'.cell? ⟨pb, 0, none⟩ = some (.int .i64 x.n) ∧ w'.cell? ⟨pb, 1, none⟩ = some (.slice xn x.names.length xcn) ∧ w'.cell? ⟨pb, 2, none⟩ = some (.slice xp x.parts.length xcp) ∧ w'.cell? ⟨pb, 3, none⟩ = some (.slice xe x.entries.length xce)))
      (first
        | exact HFB.out _ (Below.refl _ _).drew
        | exact HFB.out _ (Below.refl _ _)
        | exact HFB.out _ HB34.out
        | exact HFB.out _ (HB34.out.alloc HB34.out.size _)
        | exact HF.out _ HB05.out HP5.out
        | skip)
      (first
        | (go_at_call 58
           first
            | refine (HCT.out _ (Below.refl _ _)).mono ?_
            | refine (HCT.out _ (Below.refl _ _).drew).mono ?_
           rintro e w4 ⟨rfl, hb4⟩
           have HB34 : Hid (Below w3.heap.size w3 w4) := hid (by first | exact hb4 | exact (Below.refl _ _).drew.trans hb4)
           have HB4 : Hid (Below w.heap.size w w4) := hid (HBA.out.trans (HB34.out.mono HBA.out.size))
           have HB04 : Hid (Below w0.heap.size w0 w4) := hid (HBA0.out.trans (HB34.out.mono HBA0.out.size))
           have HOWV : Hid (∀ O, Got w (w4.alloc O) (.slice ao L.length co) L) := hid fun O => (HGA.out.below HB34.out).below ((Below.refl _ _).alloc (Nat.le_refl _) O)
           have HBV : Hid (∀ O, w.heap.size + 2 ≤ (w4.alloc O).heap.size) := hid fun O => by have := HSA.out; have := HB34.out.size; simp; omega
           clear hb4)
        | (refine step_append (by rfl) (.tmp 106) (.tmp 121) 22 (by rfl) (w.heap.size + 2) 9 1 16 Tryz.underlying22 hi0 hz0 hz1 hz2 rfl (by decide) (.slice ao L.length co) L.length (L.map Value.string) (by rfl) (HOWV.out _) _ 1 [.string ((nm ++ ⟨#[58, 32]⟩) ++ T)] (by rfl) (Src.of_block (cs := #[.string ((nm ++ ⟨#[58, 32]⟩) ++ T)]) (heap_alloc_new _ _) 1 1 1 rfl (by simp [Value.oneCell'])) (L.length + 1) rfl _ rfl HMX.out.1 HMX.out.2 (HBV.out _) ?_
           intro na nc w5 had
           have HG5 := hid (Got.step had)
           have HB5 := hid ((HOWV.out _).grown (HB4.out.alloc HB4.out.size _) (by have := HBV.out (.cells #[] 0 (0, 0)); simp at this ⊢; omega) had)
           have HB05 : Hid (Below w0.heap.size w0 w5) := hid ((HB04.out.alloc HB04.out.size _).grown had.grown (by have := HB04.out.size; simp; omega) (fun g hg => by have := got_base (HOWV.out (.cells #[] 0 (0, 0))) hg; have := HW0.out; omega))
           have HP5 : Hid (w5.heap[pb]? = some (.cells #[.int .i64 x.n, .slice xn x.names.length xcn, .slice xp x.parts.length xcp, .slice xe x.entries.length xce] 30 (0, 0))) := hid ((had.grown.block pb (by have := block_lt HPB.out; have := HB34.out.size; simp; omega) (fun e => by have := HPO.out pb e.symm; omega)).trans (block_alloc ((HB34.out.block _ (block_lt HPB.out)).trans HPB.out) _))
           clear had))
    all_goals
     have HLV : Hid ((L ++ [(nm ++ ⟨#[58, 32]⟩) ++ T]).length = j + 1) := hid (by have := HLEN.out; simp; omega)
     clear hz3 hz4
     go_wp2_with fail
     go_roundw
     case rel => exact ⟨j + 1, L ++ [(nm ++ ⟨#[58, 32]⟩) ++ T], HJ.out, by go_num, HB5, HB05, HG5, HL2, HLV⟩
     case measure => have := HJ.out; simp [intOf]; omega
  · have hjj : j = vps.length := by omega
    have HLM : Hid (L.map bsOf = Q) := hid (by rw [HL.out, List.take_of_length_le (by have := HQN.out; omega)])
    have HSM : Hid (∀ s ∈ L, s.size ≤ 100000000) := hid fun s hs => by
      have h := join_mem [44, 32] (List.mem_map_of_mem (f := bsOf) hs)
      rw [HLM.out] at h
      have h2 := HJL.out
      have h3 : (bsOf s).length = s.size := rfl
      omega
    have HLL : Hid (L.length ≤ 100000000) := hid (by have := HLEN.out; have := HNN.out; omega)
    go_wp2_with fail
    refine (join_any (.slice ao L.length co) L ⟨#[44, 32]⟩ _ (HGT.out.strs fun s hs => by have := HSM.out s hs; unfold maxLen; omega) (by have := HLL.out; omega) (by rw [HLM.out]; have := HJL.out; show (Lib.join Q [44, 32]).length ≤ _; omega)).mono ?_
    rintro e w1 ⟨rfl, hb1⟩
    have HB1 := hid (HBW.out.trans (hb1.mono HBW.out.size))
    clear hb1
    rw [HLM.out]
    have HJN : Hid (Lib.join Q (bsOf ⟨#[44, 32]⟩) = Lib.join Q [44, 32]) := hid rfl
    rw [HJN.out]
    have HW := hid (wrap_str 40 41 (Lib.join Q [44, 32]))
    have HJS : Hid ((strOf (Lib.join Q [44, 32])).size + 2 ≤ 100000000) := HJL
    generalize strOf (Lib.join Q [44, 32]) = SJ at HW HJS ⊢
    have hz1 : ¬ (9223372036854775807 < 1 + SJ.size) := by have := HJS.out; omega
    have hz2 : ¬ (9223372036854775807 < 1 + SJ.size + 1) := by have := HJS.out; omega
    go_wp2_with fail
    go_ret
    exact ⟨ret_str (by rw [HT.out, ← HW.out]), HB1.out⟩
end Go.Proofs.YtmdjnaobllajmaaGreatDoor
