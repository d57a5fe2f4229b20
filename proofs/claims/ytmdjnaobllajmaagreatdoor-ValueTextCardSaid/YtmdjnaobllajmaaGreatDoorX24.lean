/-
  What the statements of the chapter share, part 24: VX2, VX3, VX4, VE5, VE6, VE7, VBox, VE8.
-/
import Derived.Test.YtmdjnaobllajmaaGreatDoorX08
import Derived.Test.YtmdjnaobllajmaaGreatDoorX16
import Derived.Test.YtmdjnaobllajmaaGreatDoorX18
import Derived.Test.YtmdjnaobllajmaaGreatDoorX19
import Derived.Test.YtmdjnaobllajmaaGreatDoorX21
import Derived.Test.YtmdjnaobllajmaaGreatDoorX23
import Derived.Deep.Cut
set_option linter.unusedVariables false
set_option linter.unusedSimpArgs false
set_option maxRecDepth 100000
set_option maxHeartbeats 8000000
namespace Go.Proofs.YtmdjnaobllajmaaGreatDoor
open Go.RowKit
def RShowOk (l : Lat) (v : Val) : Prop := ∀ (cl cv : List Value) (w : World), latRd w l cl → valRd w v cv → Tab w → (textV l v).length ≤ 900000 → Calls Tryz.prog 59 #[.agg cl.toArray, .agg cv.toArray] w fun e w' => e = .returned (.string (strOf (textV l v))) ∧ Below w.heap.size w w'
theorem show_1 (l : Lat) (v : Val) (hk : l.kind = 1) (hwf : WfL l) (hel : elemB l v = true) : RShowOk l v := by
 intro cl cv w hl hv ht hsz
 obtain ⟨aln, cln, alp, clp, alr, clr, rfl, hli, hln, hlp, hlr, ⟨_, mln⟩, ⟨_, mlp⟩, _, mlr⟩ := latRd.lay hl
 obtain ⟨bvn, dvn, bvp, dvp, bve, dve, rfl, gvi, gvn, gvp, gve, ⟨_, nvn⟩, ⟨_, nvp⟩, _, nve⟩ := valRd.lay hv
 have HKD := hid hwf.kinds
 obtain ⟨k, lo, hi, ns, ps, rs⟩ := l
 obtain ⟨vn, vns, vps, ves⟩ := v
 simp only [Lat.kind, Lat.lo, Lat.hi, Lat.names, Lat.parts, Lat.rules, Val.n, Val.names, Val.parts, Val.entries] at *
 have HTB := hid ht
 have HSZ := hid hsz
 have HI := hid gvi
 have HVN := hid gvn
 have HVP := hid gvp
 have HVE := hid gve
 have HLN := hid hln
 have HLP := hid hlp
 subst hk
 have hF := (isE_1.1 hel).1
 simp only [Val.n] at hF
 have HT : Hid (textV (.mk 1 lo hi ns ps rs) (.mk vn vns vps ves) = flagT (decide (vn = 1))) := hid (by rw [textV]; rfl)
 generalize textV (.mk 1 lo hi ns ps rs) (.mk vn vns vps ves) = R at HT HSZ ⊢
 obtain ⟨W2, hW, HB, HBl, HBv⟩ := two_box w #[.int .i64 1, .int .i64 lo, .int .i64 hi, .slice aln ns.length cln, .slice alp ps.length clp, .slice alr rs.length clr] #[.int .i64 vn, .slice bvn vns.length dvn, .slice bvp vps.length dvp, .slice bve ves.length dve] 26 30
 clear hl hv ht hsz hel hwf hli hln hlp hlr gvn gvp gve gvi
 rcases hF with rfl | rfl
 all_goals
  go_enter Tryz.func59, Tryz.ntmps59
  go_upto_region 1 with fail
  rw [hW.out]
  clear hW
  obtain ⟨x0, hx⟩ := ext_self W2
  rw [hx]
  clear hx
  obtain ⟨l0, l1, l2, l3, l4, l5⟩ := bx6 fun x : Ext W2 => HBl.out.ext x
  obtain ⟨v0, v1, v2, v3⟩ := bx4 fun x : Ext W2 => HBv.out.ext x
  go_wp2_with fail
  go_ret
  exact ⟨ret_str (by rw [HT.out]; rfl), HB.out _⟩
theorem show_23 (l : Lat) (v : Val) (hk : l.kind = 2 ∨ l.kind = 3) (hwf : WfL l) (hel : elemB l v = true) : RShowOk l v := by
 intro cl cv w hl hv ht hsz
 obtain ⟨aln, cln, alp, clp, alr, clr, rfl, hli, hln, hlp, hlr, ⟨_, mln⟩, ⟨_, mlp⟩, _, mlr⟩ := latRd.lay hl
 obtain ⟨bvn, dvn, bvp, dvp, bve, dve, rfl, gvi, gvn, gvp, gve, ⟨_, nvn⟩, ⟨_, nvp⟩, _, nve⟩ := valRd.lay hv
 have HKD := hid hwf.kinds
 obtain ⟨k, lo, hi, ns, ps, rs⟩ := l
 obtain ⟨vn, vns, vps, ves⟩ := v
 simp only [Lat.kind, Lat.lo, Lat.hi, Lat.names, Lat.parts, Lat.rules, Val.n, Val.names, Val.parts, Val.entries] at *
 have HTB := hid ht
 have HSZ := hid hsz
 have HI := hid gvi
 have HVN := hid gvn
 have HVP := hid gvp
 have HVE := hid gve
 have HLN := hid hln
 have HLP := hid hlp
 have HT : Hid (textV (.mk k lo hi ns ps rs) (.mk vn vns vps ves) = Lib.itoa vn) := hid (by rcases hk with rfl | rfl <;> (rw [textV]; rfl))
 generalize textV (.mk k lo hi ns ps rs) (.mk vn vns vps ves) = R at HT HSZ ⊢
 have HF : Hid (∀ W, Below w.heap.size w W → Calls Tryz.prog 101 #[.int .i64 vn, .int .i64 10] W fun e w' => e = .returned (.string (strOf (Lib.itoa vn))) ∧ Below W.heap.size W w') := hid fun W h => fmtInt_any vn HI.out W (HTB.out.below h)
 obtain ⟨W2, hW, HB, HBl, HBv⟩ := two_box w #[.int .i64 k, .int .i64 lo, .int .i64 hi, .slice aln ns.length cln, .slice alp ps.length clp, .slice alr rs.length clr] #[.int .i64 vn, .slice bvn vns.length dvn, .slice bvp vps.length dvp, .slice bve ves.length dve] 26 30
 clear hl hv ht hsz hel hwf hli hln hlp hlr gvn gvp gve gvi
 replace HF := hid (ext_of HB.out HF.out)
 rcases hk with rfl | rfl
 all_goals
  go_enter Tryz.func59, Tryz.ntmps59
  go_upto_region 1 with fail
  rw [hW.out]
  clear hW
  obtain ⟨x0, hx⟩ := ext_self W2
  rw [hx]
  clear hx
  obtain ⟨l0, l1, l2, l3, l4, l5⟩ := bx6 fun x : Ext W2 => HBl.out.ext x
  obtain ⟨v0, v1, v2, v3⟩ := bx4 fun x : Ext W2 => HBv.out.ext x
  go_wp2_with fail
  refine (HF.out _).mono ?_
  rintro e _ ⟨rfl, x1, rfl⟩
  go_wp2_with fail
  go_ret
  exact ⟨ret_str (by rw [HT.out]), HB.out _⟩
theorem show_410 (l : Lat) (v : Val) (hk : l.kind = 4 ∨ l.kind = 10) (hwf : WfL l) (hel : elemB l v = true) : RShowOk l v := by
 intro cl cv w hl hv ht hsz
 obtain ⟨aln, cln, alp, clp, alr, clr, rfl, hli, hln, hlp, hlr, ⟨_, mln⟩, ⟨_, mlp⟩, _, mlr⟩ := latRd.lay hl
 obtain ⟨bvn, dvn, bvp, dvp, bve, dve, rfl, gvi, gvn, gvp, gve, ⟨_, nvn⟩, ⟨_, nvp⟩, _, nve⟩ := valRd.lay hv
 have HKD := hid hwf.kinds
 obtain ⟨k, lo, hi, ns, ps, rs⟩ := l
 obtain ⟨vn, vns, vps, ves⟩ := v
 simp only [Lat.kind, Lat.lo, Lat.hi, Lat.names, Lat.parts, Lat.rules, Val.n, Val.names, Val.parts, Val.entries] at *
 have HTB := hid ht
 have HSZ := hid hsz
 have HI := hid gvi
 have HVN := hid gvn
 have HVP := hid gvp
 have HVE := hid gve
 have HLN := hid hln
 have HLP := hid hlp
 have hF := (isE_410 hk hel).2
 simp only [Val.names] at hF
 have HT : Hid (strOf (textV (.mk k lo hi ns ps rs) (.mk vn vns vps ves)) = rTextS vns) := hid (by rcases hk with rfl | rfl <;> (rw [textV]; rfl))
 have HT2 : Hid (textV (.mk k lo hi ns ps rs) (.mk vn vns vps ves) = 123 :: (Lib.join (vns.map bsOf) [44] ++ [125])) := hid (by rcases hk with rfl | rfl <;> (rw [textV]; rfl))
 generalize textV (.mk k lo hi ns ps rs) (.mk vn vns vps ves) = R at HT HT2 HSZ ⊢
 have hjl : (Lib.join (vns.map bsOf) [44]).length ≤ 900000 := by have := HSZ.out; rw [HT2.out, List.length_cons, List.length_append] at this; simp at this ⊢; omega
 have hso : sortedB vns = true := by unfold allowedB at hF; rw [Bool.and_eq_true] at hF; exact hF.1
 have HF : Hid (∀ W, Below w.heap.size w W → Calls Tryz.prog 104 #[.slice bvn vns.length dvn] W fun e w' => e = .returned (.tuple #[.string (rTextS vns), .int .i64 0]) ∧ Below W.heap.size W w') := hid fun W h => rNText_any _ vns W (HVN.out.below h) (sorted_ris hso) (allowed_names hF) hjl
 generalize rTextS vns = Q at HT HF
 clear hjl hso hF HT2
 obtain ⟨W2, hW, HB, HBl, HBv⟩ := two_box w #[.int .i64 k, .int .i64 lo, .int .i64 hi, .slice aln ns.length cln, .slice alp ps.length clp, .slice alr rs.length clr] #[.int .i64 vn, .slice bvn vns.length dvn, .slice bvp vps.length dvp, .slice bve ves.length dve] 26 30
 clear hl hv ht hsz hel hwf hli hln hlp hlr gvn gvp gve gvi
 replace HF := hid (ext_of HB.out HF.out)
 rcases hk with rfl | rfl
 all_goals
  go_enter Tryz.func59, Tryz.ntmps59
  go_upto_region 1 with fail
  rw [hW.out]
  clear hW
  obtain ⟨x0, hx⟩ := ext_self W2
  rw [hx]
  clear hx
  obtain ⟨l0, l1, l2, l3, l4, l5⟩ := bx6 fun x : Ext W2 => HBl.out.ext x
  obtain ⟨v0, v1, v2, v3⟩ := bx4 fun x : Ext W2 => HBv.out.ext x
  go_wp2_with fail
  refine (HF.out _).mono ?_
  rintro e _ ⟨rfl, x1, rfl⟩
  go_wp2_with fail
  go_ret
  exact ⟨ret_str HT.out.symm, HB.out _⟩
theorem show_8 (l : Lat) (v : Val) (hk : l.kind = 8) (hwf : WfL l) (hel : elemB l v = true) : RShowOk l v := by
 intro cl cv w hl hv ht hsz
 obtain ⟨aln, cln, alp, clp, alr, clr, rfl, hli, hln, hlp, hlr, ⟨_, mln⟩, ⟨_, mlp⟩, _, mlr⟩ := latRd.lay hl
 obtain ⟨bvn, dvn, bvp, dvp, bve, dve, rfl, gvi, gvn, gvp, gve, ⟨_, nvn⟩, ⟨_, nvp⟩, _, nve⟩ := valRd.lay hv
 have HKD := hid hwf.kinds
 obtain ⟨k, lo, hi, ns, ps, rs⟩ := l
 obtain ⟨vn, vns, vps, ves⟩ := v
 simp only [Lat.kind, Lat.lo, Lat.hi, Lat.names, Lat.parts, Lat.rules, Val.n, Val.names, Val.parts, Val.entries] at *
 have HTB := hid ht
 have HSZ := hid hsz
 have HI := hid gvi
 have HVN := hid gvn
 have HVP := hid gvp
 have HVE := hid gve
 have HLN := hid hln
 have HLP := hid hlp
 subst hk
 have hF := (isE_8.1 hel).2.2
 simp only [Val.n, Val.names] at hF
 have HT : Hid (textV (.mk 8 lo hi ns ps rs) (.mk vn vns vps ves) = if vn = 0 then [63] else if vn = 1 then bsOf (vns.headD ByteArray.empty) else [33]) := hid (by rw [textV]; rfl)
 generalize textV (.mk 8 lo hi ns ps rs) (.mk vn vns vps ves) = R at HT HSZ ⊢
 obtain ⟨nv, hnv⟩ : ∃ nv, nv = vns.length := ⟨_, rfl⟩
 rw [← hnv]
 have HF : Hid ((vn = 0 ∧ R = [63]) ∨ (vn = 2 ∧ R = [33]) ∨ (vn = 1 ∧ nv = 1 ∧ ∃ s b o, R = bsOf s ∧ bvn = some ⟨b, o, none⟩ ∧ ∀ W, Below w.heap.size w W → W.cell? ⟨b, o, none⟩ = some (.string s))) := hid (by
  rcases hF with ⟨h, _⟩ | ⟨h, _⟩ | ⟨h, hn, _⟩
  · exact .inl ⟨h, by rw [HT.out, h]; rfl⟩
  · exact .inr (.inl ⟨h, by rw [HT.out, h]; rfl⟩)
  · obtain ⟨s, rfl⟩ := List.length_eq_one_iff.1 hn
    obtain ⟨b, o, h1, _, _⟩ := HVN.out.cell 0 (by simp)
    refine .inr (.inr ⟨h, by rw [hnv]; rfl, s, b, o, by rw [HT.out, h]; rfl, h1, fun W hW => ?_⟩)
    obtain ⟨b', o', h1', h2', _⟩ := (HVN.out.below hW).cell 0 (by simp)
    rw [h1] at h1'
    cases h1'
    exact h2')
 clear hF hnv HVN HT HLN HLP HVP HVE
 obtain ⟨W2, hW, HB, HBl, HBv⟩ := two_box w #[.int .i64 8, .int .i64 lo, .int .i64 hi, .slice aln ns.length cln, .slice alp ps.length clp, .slice alr rs.length clr] #[.int .i64 vn, .slice bvn nv dvn, .slice bvp vps.length dvp, .slice bve ves.length dve] 26 30
 clear hl hv ht hsz hel hwf hli hln hlp hlr gvn gvp gve gvi
 rcases HF.out with ⟨rfl, rfl⟩ | ⟨rfl, rfl⟩ | ⟨rfl, rfl, s, b, o, rfl, rfl, hc⟩
 case' inr.inr =>
  have HC := hid hc
  have hc0 : ∀ y : Ext W2, y.1.cell? ⟨b, o, none⟩ = some (.string s) := fun y => HC.out _ (HB.out y)
  clear hc
 all_goals
  go_enter Tryz.func59, Tryz.ntmps59
  go_upto_region 1 with fail
  rw [hW.out]
  clear hW
  obtain ⟨x0, hx⟩ := ext_self W2
  rw [hx]
  clear hx
  obtain ⟨l0, l1, l2, l3, l4, l5⟩ := bx6 fun x : Ext W2 => HBl.out.ext x
  obtain ⟨v0, v1, v2, v3⟩ := bx4 fun x : Ext W2 => HBv.out.ext x
  go_wp2_with fail
  go_ret
  exact ⟨rfl, HB.out _⟩
theorem Jm.enter {J sep : List UInt8} {S : ByteArray} {j : Nat} {e : En} {t : List (List UInt8)} (h : Jm J sep S j (entryT e) t) :
 ∃ J2, Hid (Jn J2 [46] (S ++ (e.name ++ ⟨#[64]⟩)) 0 ((e.clock.map tickT).drop 0)) ∧ Hid (J2.length ≤ J.length) ∧ Hid (∀ S3, bsOf S3 = J2 → Jn J sep S3 (j + 1) t) ∧ Hid (S.size + (e.name.size + 1) ≤ J.length) := by
 have hs := h.size
 refine ⟨bsOf S ++ entryT e, hid (Jn.start ?_), hid (by rw [List.length_append, bsOf_len]; exact hs), hid fun S3 h3 => ⟨?_⟩, hid ?_⟩
 · rw [bsOf_append, bsOf_append, List.append_assoc, List.append_assoc]
   rfl
 · rw [h3, List.append_assoc]; exact h
 · unfold entryT at hs
   rw [List.length_append, List.length_cons, bsOf_len] at hs
   omega
theorem bsOf_tick (t : Tk) : bsOf ((strOf (Lib.itoa t.process) ++ ⟨#[58]⟩) ++ strOf (Lib.itoa t.n)) = tickT t := by
 rw [bsOf_append, bsOf_append, List.append_assoc]
 rfl
theorem size3 (A B : ByteArray) : ((A ++ ⟨#[58]⟩) ++ B).size = A.size + 1 + B.size := by rw [ByteArray.size_append, ByteArray.size_append]; rfl
theorem drop_mapS {α : Type} (f : α → List UInt8) {l : List α} {j : Nat} {x : α} (h : l.drop j = x :: l.drop (j + 1)) : (l.map f).drop j = f x :: (l.map f).drop (j + 1) := by
 rw [← List.map_drop, ← List.map_drop, h, List.map_cons]
theorem show_9 (l : Lat) (v : Val) (hk : l.kind = 9) (hwf : WfL l) (hel : elemB l v = true) : RShowOk l v := by
 intro cl cv w hl hv ht hsz
 obtain ⟨aln, cln, alp, clp, alr, clr, rfl, hli, hln, hlp, hlr, ⟨_, mln⟩, ⟨_, mlp⟩, _, mlr⟩ := latRd.lay hl
 obtain ⟨bvn, dvn, bvp, dvp, bve, dve, rfl, gvi, gvn, gvp, gve, ⟨_, nvn⟩, ⟨_, nvp⟩, _, nve⟩ := valRd.lay hv
 have HKD := hid hwf.kinds
 obtain ⟨k, lo, hi, ns, ps, rs⟩ := l
 obtain ⟨vn, vns, vps, ves⟩ := v
 simp only [Lat.kind, Lat.lo, Lat.hi, Lat.names, Lat.parts, Lat.rules, Val.n, Val.names, Val.parts, Val.entries] at *
 have HTB := hid ht
 have HSZ := hid hsz
 have HI := hid gvi
 have HVN := hid gvn
 have HVP := hid gvp
 have HVE := hid gve
 have HLN := hid hln
 have HLP := hid hlp
 subst hk
 obtain ⟨J, hJ⟩ : ∃ J, J = Lib.join (ves.map entryT) [32, 124, 32] := ⟨_, rfl⟩
 have HT : Hid (textV (.mk 9 lo hi ns ps rs) (.mk vn vns vps ves) = 91 :: (J ++ [93])) := hid (by rw [textV, hJ]; rfl)
 generalize textV (.mk 9 lo hi ns ps rs) (.mk vn vns vps ves) = R at HT HSZ ⊢
 have HJ0 : Hid (Jn J [32, 124, 32] ⟨#[]⟩ 0 ((ves.map entryT).drop 0)) := hid (Jn.start (by rw [hJ]; rfl))
 have HJZ : Hid (J.length ≤ 900000) := hid (by have := HSZ.out; rw [HT.out, List.length_cons, List.length_append] at this; omega)
 have HR : Hid (∀ S, bsOf S = J → (⟨#[91]⟩ ++ S) ++ ⟨#[93]⟩ = strOf R) := hid fun S h => by rw [HT.out]; exact str_wrap 91 93 h
 clear hJ HT HSZ
 obtain ⟨W2, hW, HB, HBl, HBv⟩ := two_box w #[.int .i64 9, .int .i64 lo, .int .i64 hi, .slice aln ns.length cln, .slice alp ps.length clp, .slice alr rs.length clr] #[.int .i64 vn, .slice bvn vns.length dvn, .slice bvp vps.length dvp, .slice bve ves.length dve] 26 30
 clear hl hv ht hsz hel hwf hli hln hlp hlr gvn gvp gve gvi
 go_enter Tryz.func59, Tryz.ntmps59
 go_upto_region 1 with fail
 rw [hW.out]
 clear hW
 obtain ⟨x0, hx⟩ := ext_self W2
 rw [hx]
 clear hx
 obtain ⟨l0, l1, l2, l3, l4, l5⟩ := bx6 fun x : Ext W2 => HBl.out.ext x
 obtain ⟨v0, v1, v2, v3⟩ := bx4 fun x : Ext W2 => HBv.out.ext x
 go_wp2_with fail
 go_loopw [7, 8] (fun s i wr => ∃ (S : ByteArray) (j : Nat) (x : Ext W2), s = .string S ∧ j ≤ ves.length ∧ i = .int .i64 j ∧ wr = x.1 ∧ Hid (Jn J [32, 124, 32] S j ((ves.map entryT).drop j))) (fun _ i _ => ves.length - (intOf i).toNat)
 case atStart => exact ⟨_, 0, x0, rfl, Nat.zero_le _, rfl, rfl, HJ0⟩
 case round =>
  obtain ⟨S, j, x, rfl, hj, rfl, rfl, HQ⟩ := hrel
  have HSS : Hid (S.size ≤ 900000) := hid (Nat.le_trans HQ.out.size HJZ.out)
  by_cases hlt : j < ves.length
  · obtain ⟨e, eb, eo, ea, ec, _, hmem, hdrop, _, rfl, hek, hen, hcell⟩ := entEl HVE.out j hlt
    obtain ⟨ck, nm⟩ := e
    simp only at hek hen hcell hdrop
    have HEK := hid hek
    obtain ⟨r0, r1⟩ := cx2 fun y : Ext W2 => hcell.below (HB.out y)
    have HQ1 : Hid (Jn J [32, 124, 32] S j (entryT ⟨ck, nm⟩ :: (ves.map entryT).drop (j + 1))) := hid (by have h := HQ.out; rw [drop_mapS entryT hdrop] at h; exact h)
    have HJ : Hid (j + 1 ≤ ves.length) := hid hlt
    have hi1 : (j : Int) < (ves.length : Int) := by omega
    have hj63 : j + 1 ≤ 9223372036854775807 := by omega
    obtain ⟨nk, hnk⟩ : ∃ nk, nk = ck.length := ⟨_, rfl⟩
    have HNK : Hid (nk = ck.length) := hid hnk
    have hk63 : nk ≤ 9223372036854775807 := by obtain ⟨_, _, _, _, h⟩ := hek.shape; omega
    rw [← hnk] at r0
    clear HQ hdrop hcell hek hmem hnk
    rcases Nat.eq_zero_or_pos j with h0 | h0
    case' inl =>
     have hd : decide (0 < j) = false := decide_eq_false (by omega)
     have HM : Hid (Jm J [32, 124, 32] S j (entryT ⟨ck, nm⟩) ((ves.map entryT).drop (j + 1))) := hid (by have h := HQ1.out; rw [h0] at h ⊢; exact h.first)
     obtain ⟨J2, HJ2, HJ2Z, HOUT, HSN⟩ := HM.out.enter
     have hz1 : ¬ (9223372036854775807 < nm.size + 1) := by have := HSN.out; have := HJZ.out; dsimp only at *; omega
     have hz2 : ¬ (9223372036854775807 < S.size + (nm.size + 1)) := by have := HSN.out; have := HJZ.out; dsimp only at *; omega
     clear h0
     go_wp2_with fail
    case' inr =>
     have hd : decide (0 < j) = true := decide_eq_true (by omega)
     have HM : Hid (Jm J [32, 124, 32] (S ++ ⟨#[32, 124, 32]⟩) j (entryT ⟨ck, nm⟩) ((ves.map entryT).drop (j + 1))) := hid (HQ1.out.more h0 rfl)
     obtain ⟨J2, HJ2, HJ2Z, HOUT, HSN⟩ := HM.out.enter
     have hz0 : ¬ (9223372036854775807 < S.size + 3) := by have := HSS.out; omega
     have hz1 : ¬ (9223372036854775807 < nm.size + 1) := by have := HSN.out; have := HJZ.out; dsimp only at *; omega
     have hz2 : ¬ (9223372036854775807 < S.size + 3 + (nm.size + 1)) := by have := HSS.out; have := HSN.out; have := HJZ.out; dsimp only at *; omega
     clear h0
     go_wp2_with fail
    all_goals
     clear hz1 hz2 hd HM HQ1
     go_loopw [7, 9] (fun s i wr => ∃ (S : ByteArray) (m : Nat) (x : Ext W2), s = .string S ∧ m ≤ nk ∧ i = .int .i64 m ∧ wr = x.1 ∧ Hid (Jn J2 [46] S m ((ck.map tickT).drop m))) (fun _ i _ => nk - (intOf i).toNat)
     case atStart => exact ⟨_, 0, x, rfl, Nat.zero_le _, rfl, rfl, HJ2⟩
     case round =>
      obtain ⟨S, m, x, rfl, hm, rfl, rfl, HP⟩ := hrel
      have HPS : Hid (S.size ≤ 900000) := hid (Nat.le_trans HP.out.size (Nat.le_trans HJ2Z.out HJZ.out))
      clear HJ2
      by_cases hlm : m < nk
      · obtain ⟨t, tb, to, _, _, htd, _, rfl, hti, htc⟩ := tickEl HEK.out m (by have := HNK.out; omega)
        obtain ⟨s0, s1⟩ := cx2 fun y : Ext W2 => htc.below (HB.out y)
        have HP1 : Hid (Jn J2 [46] S m (tickT t :: (ck.map tickT).drop (m + 1))) := hid (by have h := HP.out; rw [drop_mapS tickT htd] at h; exact h)
        have HIT : Hid (∀ y : Ext W2, Calls Tryz.prog 105 #[.int .i64 t.process] y.1 fun e w' => e = .returned (.string (strOf (Lib.itoa t.process))) ∧ ∃ z : Ext W2, w' = z.1) := hid fun y => ext_call y (itoa_any _ hti.1 _ (HTB.out.below (HB.out y)))
        have HFM : Hid (∀ y : Ext W2, Calls Tryz.prog 101 #[.int .i64 t.n, .int .i64 10] y.1 fun e w' => e = .returned (.string (strOf (Lib.itoa t.n))) ∧ ∃ z : Ext W2, w' = z.1) := hid fun y => ext_call y (fmtInt_any _ hti.2 _ (HTB.out.below (HB.out y)))
        have HBT := hid (bsOf_tick t)
        have HMJ : Hid (m + 1 ≤ nk) := hid hlm
        have hi2 : (m : Int) < (nk : Int) := by omega
        have hm63 : m + 1 ≤ 9223372036854775807 := by omega
        generalize tickT t = TT at HP1 HBT
        generalize strOf (Lib.itoa t.process) = A at HIT HBT
        generalize strOf (Lib.itoa t.n) = B at HFM HBT
        clear HP htd hti htc
        rcases Nat.eq_zero_or_pos m with h0 | h0
        case' inl =>
         have hd : decide (0 < m) = false := decide_eq_false (by omega)
         have HM : Hid (Jm J2 [46] S m TT ((ck.map tickT).drop (m + 1))) := hid (by have h := HP1.out; rw [h0] at h ⊢; exact h.first)
         have HAB : Hid (S.size + (A.size + 1 + B.size) ≤ 900000) := hid (by
          have h := Nat.le_trans HM.out.size (Nat.le_trans HJ2Z.out HJZ.out)
          rw [← HBT.out, bsOf_len, size3] at h
          exact h)
         have hz1 : ¬ (9223372036854775807 < A.size + 1) := by have := HAB.out; omega
         have hz2 : ¬ (9223372036854775807 < A.size + 1 + B.size) := by have := HAB.out; omega
         have hz3 : ¬ (9223372036854775807 < S.size + (A.size + 1 + B.size)) := by have := HAB.out; omega
         clear h0
         go_wp2_with fail
        case' inr =>
         have hd : decide (0 < m) = true := decide_eq_true (by omega)
         have HM : Hid (Jm J2 [46] (S ++ ⟨#[46]⟩) m TT ((ck.map tickT).drop (m + 1))) := hid (HP1.out.more h0 rfl)
         have HAB : Hid ((S ++ ⟨#[46]⟩).size + (A.size + 1 + B.size) ≤ 900000) := hid (by
          have h := Nat.le_trans HM.out.size (Nat.le_trans HJ2Z.out HJZ.out)
          rw [← HBT.out, bsOf_len, size3] at h
          exact h)
         have hz0 : ¬ (9223372036854775807 < S.size + 1) := by have := HPS.out; omega
         have hz1 : ¬ (9223372036854775807 < A.size + 1) := by have := HAB.out; omega
         have hz2 : ¬ (9223372036854775807 < A.size + 1 + B.size) := by have := HAB.out; omega
         have hz3 : ¬ (9223372036854775807 < (S ++ ⟨#[46]⟩).size + (A.size + 1 + B.size)) := by have := HAB.out; omega
         clear h0
         go_wp2_with fail
         generalize S ++ ⟨#[46]⟩ = S at HM HAB hz3 ⊢
        all_goals
         refine wp_region_ext2 _ (by kernel_rfl) (by kernel_rfl) ?_
         repeat (go_big_quiet_step (with_reducible first | exact HIT.out _ | exact HFM.out _))
         refine wpQuiet_nil ?_
         rintro _ ⟨y, rfl⟩
         have HN1 := hid (HM.out.next HBT.out)
         go_wp2_with fail
         go_roundw
         case rel => exact ⟨_, m + 1, y, rfl, HMJ.out, by go_num, rfl, HN1⟩
         case measure => have := HMJ.out; simp [intOf]; omega
      · have HE : Hid (bsOf S = J2) := hid (Jn.stop (j := m) (by have h := HP.out; rw [List.drop_eq_nil_of_le (by rw [List.length_map]; have := HNK.out; omega)] at h; exact h))
        have HN2 := hid (HOUT.out S HE.out)
        go_wp2_with fail
        go_roundw
        case rel => exact ⟨_, j + 1, x, rfl, HJ.out, by go_num, rfl, HN2⟩
        case measure => have := HJ.out; simp [intOf]; omega
  · have HE : Hid (bsOf S = J) := hid (Jn.stop (j := j) (by have h := HQ.out; rw [List.drop_eq_nil_of_le (by rw [List.length_map]; omega)] at h; exact h))
    have hz1 : ¬ (9223372036854775807 < 1 + S.size) := by have := HSS.out; omega
    have hz2 : ¬ (9223372036854775807 < 1 + S.size + 1) := by have := HSS.out; omega
    have HRE := hid (HR.out S HE.out)
    go_wp2_with fail
    go_ret
    exact ⟨ret_str HRE.out, HB.out x⟩
theorem drop_get {l : List (List UInt8)} {j : Nat} {q : List UInt8} (h : l[j]? = some q) : l.drop j = q :: l.drop (j + 1) := by
 obtain ⟨h1, rfl⟩ := List.getElem?_eq_some_iff.1 h
 exact List.drop_eq_getElem_cons h1
theorem bsOf_item (nm : ByteArray) (t : List UInt8) : bsOf ((nm ++ ⟨#[58, 32]⟩) ++ strOf t) = bsOf nm ++ 58 :: 32 :: t := by
 rw [bsOf_append, bsOf_append, List.append_assoc]
 rfl
theorem size4 (A B : ByteArray) : ((A ++ ⟨#[58, 32]⟩) ++ B).size = A.size + 2 + B.size := by rw [ByteArray.size_append, ByteArray.size_append]; rfl
theorem ext_up {w W2 : World} (hB : ∀ x : Ext W2, Below w.heap.size w x.1) (y : Ext W2) {a : Addr} {v : Value} (h : w.cell? a = some v) : y.1.cell? a = some v := Ext.cell (W := w) ⟨y.1, hB y⟩ h
theorem show_5 (l : Lat) (v : Val) (hk : l.kind = 5) (hwf : WfL l) (hel : elemB l v = true) (ih : ∀ p ∈ l.parts, ∀ v, elemB p v = true → RShowOk p v) : RShowOk l v := by
 intro cl cv w hl hv ht hsz
 obtain ⟨aln, cln, alp, clp, alr, clr, rfl, hli, hln, hlp, hlr, ⟨_, mln⟩, ⟨_, mlp⟩, _, mlr⟩ := latRd.lay hl
 obtain ⟨bvn, dvn, bvp, dvp, bve, dve, rfl, gvi, gvn, gvp, gve, ⟨_, nvn⟩, ⟨_, nvp⟩, _, nve⟩ := valRd.lay hv
 have HKD := hid hwf.kinds
 obtain ⟨k, lo, hi, ns, ps, rs⟩ := l
 obtain ⟨vn, vns, vps, ves⟩ := v
 simp only [Lat.kind, Lat.lo, Lat.hi, Lat.names, Lat.parts, Lat.rules, Val.n, Val.names, Val.parts, Val.entries] at *
 have HTB := hid ht
 have HSZ := hid hsz
 have HI := hid gvi
 have HVN := hid gvn
 have HVP := hid gvp
 have HVE := hid gve
 have HLN := hid hln
 have HLP := hid hlp
 subst hk
 have hF := isE_5.1 hel
 simp only [Val.n, Val.names, Val.parts, Val.entries] at hF
 obtain ⟨p0, rfl⟩ := List.length_eq_one_iff.1 (HKD.out.2.1 rfl)
 obtain ⟨Q, hQ⟩ : ∃ Q, Q = (vns.zip vps).map fun x => bsOf x.1 ++ 58 :: 32 :: textV p0 x.2 := ⟨_, rfl⟩
 obtain ⟨J, hJ⟩ : ∃ J, J = Lib.join Q [44, 32] := ⟨_, rfl⟩
 have HT : Hid (textV (.mk 5 lo hi ns [p0] rs) (.mk vn vns vps ves) = 123 :: (J ++ [125])) := hid (by rw [textV, hJ, hQ]; rfl)
 generalize textV (.mk 5 lo hi ns [p0] rs) (.mk vn vns vps ves) = R at HT HSZ ⊢
 have HLEN : Hid (vns.length = vps.length ∧ Q.length = vps.length) := hid ⟨hF.2.1, by rw [hQ, List.length_map, List.length_zip]; omega⟩
 have HITEM : Hid (∀ (j : Nat) (nm : ByteArray) (p : Lat) (x : Val), vns[j]? = some nm → [p0][0]? = some p → vps[j]? = some x → Q[j]? = some (bsOf nm ++ 58 :: 32 :: textV p x) ∧ RShowOk p x) := hid fun j nm p x h1 h2 h3 => by
   have h2 : p0 = p := by simpa using h2
   subst h2
   have hz : (vns.zip vps)[j]? = some (nm, x) := List.getElem?_zip_eq_some.2 ⟨h1, h3⟩
   refine ⟨by rw [hQ, List.getElem?_map, hz]; rfl, ih p0 (by simp) x ((mapB_one p0 vps).1 hF.2.2.2 x (List.mem_of_getElem? h3)).1⟩
 have HJ0 : Hid (Jn J [44, 32] ⟨#[]⟩ 0 (Q.drop 0)) := hid (Jn.start (by rw [hJ]; rfl))
 have HJE : Hid (Lib.join Q [44, 32] = J) := hid hJ.symm
 have HJZ : Hid (J.length ≤ 900000) := hid (by have := HSZ.out; rw [HT.out, List.length_cons, List.length_append] at this; omega)
 have HR : Hid (∀ S, bsOf S = J → (⟨#[123]⟩ ++ S) ++ ⟨#[125]⟩ = strOf R) := hid fun S h => by rw [HT.out]; exact str_wrap 123 125 h
 clear hJ hQ HT HSZ hF ih
 simp only [List.length_singleton] at *
 obtain ⟨W2, hW, HB, HBl, HBv⟩ := two_box w #[.int .i64 5, .int .i64 lo, .int .i64 hi, .slice aln ns.length cln, .slice alp 1 clp, .slice alr rs.length clr] #[.int .i64 vn, .slice bvn vns.length dvn, .slice bvp vps.length dvp, .slice bve ves.length dve] 26 30
 clear hl hv ht hsz hel hwf hli hln hlp hlr gvn gvp gve gvi
 go_enter Tryz.func59, Tryz.ntmps59
 go_upto_region 1 with fail
 rw [hW.out]
 clear hW
 obtain ⟨x0, hx⟩ := ext_self W2
 rw [hx]
 clear hx
 obtain ⟨l0, l1, l2, l3, l4, l5⟩ := bx6 fun x : Ext W2 => HBl.out.ext x
 obtain ⟨v0, v1, v2, v3⟩ := bx4 fun x : Ext W2 => HBv.out.ext x
 go_wp2_with fail
 go_loopw [7, 10] (fun s i wr => ∃ (S : ByteArray) (j : Nat) (x : Ext W2), s = .string S ∧ j ≤ vps.length ∧ i = .int .i64 j ∧ wr = x.1 ∧ Hid (Jn J [44, 32] S j (Q.drop j))) (fun _ i _ => vps.length - (intOf i).toNat)
 case atStart => exact ⟨_, 0, x0, rfl, Nat.zero_le _, rfl, rfl, HJ0⟩
 case round =>
  obtain ⟨S, j, x, rfl, hj, rfl, rfl, HQ⟩ := hrel
  have HSS : Hid (S.size ≤ 900000) := hid (Nat.le_trans HQ.out.size HJZ.out)
  by_cases hlt : j < vps.length
  · have hln : j < vns.length := by have := HLEN.out; omega
    obtain ⟨nm, qb, qo, hq1, _, _, _, rfl, hqw, hqs⟩ := strEl HVN.out j hln
    obtain ⟨x1, vb, vo2, xn, xcn, xp, xcp, xe, xce, hx1, _, _, _, rfl, hxr, hxc⟩ := valEl HVP.out j hlt
    obtain ⟨p, lb, lo2, an, cn, ap, cp, ar, cr, hp1, _, _, _, rfl, hyr, hyc⟩ := latEl HLP.out 0 (by simp)
    have hqc : ∀ y : Ext W2, y.1.cell? ⟨qb, qo + j, none⟩ = some (.string nm) := fun y => ext_up HB.out y hqw
    obtain ⟨y0, y1, y2, y3, y4, y5⟩ := cx6 fun y : Ext W2 => hyc.below (HB.out y)
    obtain ⟨q0, q1, q2, q3⟩ := cx4 fun y : Ext W2 => hxc.below (HB.out y)
    simp only [Nat.zero_mul, Nat.add_zero] at y0 y1 y2 y3 y4 y5
    obtain ⟨hQj, hSO⟩ := HITEM.out j nm p x1 hq1 hp1 hx1
    have hBQ := bsOf_item nm (textV p x1)
    have hml := join_mem [44, 32] (List.mem_of_getElem? hQj)
    rw [HJE.out] at hml
    have hTL : (textV p x1).length ≤ 900000 := by have := HJZ.out; rw [List.length_append, List.length_cons, List.length_cons] at hml; omega
    have HSH : Hid (∀ y : Ext W2, Calls Tryz.prog 59 #[.agg #[.int .i64 p.kind, .int .i64 p.lo, .int .i64 p.hi, .slice an p.names.length cn, .slice ap p.parts.length cp, .slice ar p.rules.length cr], .agg #[.int .i64 x1.n, .slice xn x1.names.length xcn, .slice xp x1.parts.length xcp, .slice xe x1.entries.length xce]] y.1 fun e w' => e = .returned (.string (strOf (textV p x1))) ∧ ∃ z : Ext W2, w' = z.1) := hid fun y => ext_call y (hSO [.int .i64 p.kind, .int .i64 p.lo, .int .i64 p.hi, .slice an p.names.length cn, .slice ap p.parts.length cp, .slice ar p.rules.length cr] [.int .i64 x1.n, .slice xn x1.names.length xcn, .slice xp x1.parts.length xcp, .slice xe x1.entries.length xce] y.1 (latRd.below (HB.out y) _ _ hyr) (valRd.below (HB.out y) _ _ hxr) (HTB.out.below (HB.out y)) hTL)
    have HQ1 : Hid (Jn J [44, 32] S j ((bsOf nm ++ 58 :: 32 :: textV p x1) :: Q.drop (j + 1))) := hid (by have h := HQ.out; rw [drop_get hQj] at h; exact h)
    have HBQ := hid hBQ
    have HJ : Hid (j + 1 ≤ vps.length) := hid hlt
    have hi1 : (j : Int) < (vps.length : Int) := by omega
    have hi2 : (j : Int) < (vns.length : Int) := by omega
    have hi3 : True := trivial
    have hj63 : j + 1 ≤ 9223372036854775807 := by omega
    clear HQ hQj hSO hBQ hml hTL hyr hyc hxr hxc hq1 hx1 hp1 hqw hqs
    generalize bsOf nm ++ 58 :: 32 :: textV p x1 = q at HQ1 HBQ
    generalize strOf (textV p x1) = A at HSH HBQ
    rcases Nat.eq_zero_or_pos j with h0 | h0
    case' inl =>
     have hd : decide (0 < j) = false := decide_eq_false (by omega)
     have HM : Hid (Jm J [44, 32] S j q (Q.drop (j + 1))) := hid (by have h := HQ1.out; rw [h0] at h ⊢; exact h.first)
     have HAB : Hid (S.size + (nm.size + 2 + A.size) ≤ 900000) := hid (by
      have h := Nat.le_trans HM.out.size HJZ.out
      rw [← HBQ.out, bsOf_len, size4] at h
      exact h)
     have hz1 : ¬ (9223372036854775807 < nm.size + 2) := by have := HAB.out; omega
     have hz2 : ¬ (9223372036854775807 < nm.size + 2 + A.size) := by have := HAB.out; omega
     have hz3 : ¬ (9223372036854775807 < S.size + (nm.size + 2 + A.size)) := by have := HAB.out; omega
     clear h0
     go_wp2_with fail
    case' inr =>
     have hd : decide (0 < j) = true := decide_eq_true (by omega)
     have HM : Hid (Jm J [44, 32] (S ++ ⟨#[44, 32]⟩) j q (Q.drop (j + 1))) := hid (HQ1.out.more h0 rfl)
     have HAB : Hid ((S ++ ⟨#[44, 32]⟩).size + (nm.size + 2 + A.size) ≤ 900000) := hid (by
      have h := Nat.le_trans HM.out.size HJZ.out
      rw [← HBQ.out, bsOf_len, size4] at h
      exact h)
     have hz0 : ¬ (9223372036854775807 < S.size + 2) := by have := HSS.out; omega
     have hz1 : ¬ (9223372036854775807 < nm.size + 2) := by have := HAB.out; omega
     have hz2 : ¬ (9223372036854775807 < nm.size + 2 + A.size) := by have := HAB.out; omega
     have hz3 : ¬ (9223372036854775807 < (S ++ ⟨#[44, 32]⟩).size + (nm.size + 2 + A.size)) := by have := HAB.out; omega
     clear h0
     go_wp2_with fail
     generalize S ++ ⟨#[44, 32]⟩ = S at HM HAB hz3 ⊢
    all_goals
     refine wp_region_ext2 _ (by kernel_rfl) (by kernel_rfl) ?_
     repeat (go_big_quiet_step (with_reducible first | exact HSH.out _))
     refine wpQuiet_nil ?_
     rintro _ ⟨y, rfl⟩
     have HN1 := hid (HM.out.next HBQ.out)
     go_wp2_with fail
     go_roundw
     case rel => exact ⟨_, j + 1, y, rfl, HJ.out, by go_num, rfl, HN1⟩
     case measure => have := HJ.out; simp [intOf]; omega
  · have HE : Hid (bsOf S = J) := hid (Jn.stop (j := j) (by have h := HQ.out; rw [List.drop_eq_nil_of_le (by have := HLEN.out; omega)] at h; exact h))
    have hz1 : ¬ (9223372036854775807 < 1 + S.size) := by have := HSS.out; omega
    have hz2 : ¬ (9223372036854775807 < 1 + S.size + 1) := by have := HSS.out; omega
    have HRE := hid (HR.out S HE.out)
    go_wp2_with fail
    go_ret
    exact ⟨ret_str HRE.out, HB.out x⟩
theorem show_6 (l : Lat) (v : Val) (hk : l.kind = 6) (hwf : WfL l) (hel : elemB l v = true) (ih : ∀ p ∈ l.parts, ∀ v, elemB p v = true → RShowOk p v) : RShowOk l v := by
 intro cl cv w hl hv ht hsz
 obtain ⟨aln, cln, alp, clp, alr, clr, rfl, hli, hln, hlp, hlr, ⟨_, mln⟩, ⟨_, mlp⟩, _, mlr⟩ := latRd.lay hl
 obtain ⟨bvn, dvn, bvp, dvp, bve, dve, rfl, gvi, gvn, gvp, gve, ⟨_, nvn⟩, ⟨_, nvp⟩, _, nve⟩ := valRd.lay hv
 have HKD := hid hwf.kinds
 obtain ⟨k, lo, hi, ns, ps, rs⟩ := l
 obtain ⟨vn, vns, vps, ves⟩ := v
 simp only [Lat.kind, Lat.lo, Lat.hi, Lat.names, Lat.parts, Lat.rules, Val.n, Val.names, Val.parts, Val.entries] at *
 have HTB := hid ht
 have HSZ := hid hsz
 have HI := hid gvi
 have HVN := hid gvn
 have HVP := hid gvp
 have HVE := hid gve
 have HLN := hid hln
 have HLP := hid hlp
 subst hk
 have hF := (isE_67 (by omega)).1 hel
 simp only [Val.n, Val.names, Val.parts, Val.entries] at hF
 have hnp : ns.length = ps.length := by have := HKD.out; omega
 obtain ⟨Q, hQ⟩ : ∃ Q, Q = textProd ns ps vps := ⟨_, rfl⟩
 obtain ⟨J, hJ⟩ : ∃ J, J = Lib.join Q [44, 32] := ⟨_, rfl⟩
 have HT : Hid (textV (.mk 6 lo hi ns ps rs) (.mk vn vns vps ves) = 40 :: (J ++ [41])) := hid (by rw [textV, hJ, hQ]; rfl)
 generalize textV (.mk 6 lo hi ns ps rs) (.mk vn vns vps ves) = R at HT HSZ ⊢
 have HLEN : Hid ((ns.length = vps.length ∧ ps.length = vps.length) ∧ Q.length = vps.length) := hid ⟨by omega, by rw [hQ]; exact textProd_len ns ps vps (by omega) (by omega)⟩
 have HITEM : Hid (∀ (j : Nat) (nm : ByteArray) (p : Lat) (x : Val), ns[j]? = some nm → ps[j]? = some p → vps[j]? = some x → Q[j]? = some (bsOf nm ++ 58 :: 32 :: textV p x) ∧ RShowOk p x) := hid fun j nm p x h1 h2 h3 => ⟨by rw [hQ]; exact textProd_at ns ps vps j nm p x h1 h2 h3, ih p (List.mem_of_getElem? h2) x (elems_at hF.2.1 hF.2.2 h2 h3)⟩
 clear hnp
 have HJ0 : Hid (Jn J [44, 32] ⟨#[]⟩ 0 (Q.drop 0)) := hid (Jn.start (by rw [hJ]; rfl))
 have HJE : Hid (Lib.join Q [44, 32] = J) := hid hJ.symm
 have HJZ : Hid (J.length ≤ 900000) := hid (by have := HSZ.out; rw [HT.out, List.length_cons, List.length_append] at this; omega)
 have HR : Hid (∀ S, bsOf S = J → (⟨#[40]⟩ ++ S) ++ ⟨#[41]⟩ = strOf R) := hid fun S h => by rw [HT.out]; exact str_wrap 40 41 h
 clear hJ hQ HT HSZ hF ih
 obtain ⟨W2, hW, HB, HBl, HBv⟩ := two_box w #[.int .i64 6, .int .i64 lo, .int .i64 hi, .slice aln ns.length cln, .slice alp ps.length clp, .slice alr rs.length clr] #[.int .i64 vn, .slice bvn vns.length dvn, .slice bvp vps.length dvp, .slice bve ves.length dve] 26 30
 clear hl hv ht hsz hel hwf hli hln hlp hlr gvn gvp gve gvi
 go_enter Tryz.func59, Tryz.ntmps59
 go_upto_region 1 with fail
 rw [hW.out]
 clear hW
 obtain ⟨x0, hx⟩ := ext_self W2
 rw [hx]
 clear hx
 obtain ⟨l0, l1, l2, l3, l4, l5⟩ := bx6 fun x : Ext W2 => HBl.out.ext x
 obtain ⟨v0, v1, v2, v3⟩ := bx4 fun x : Ext W2 => HBv.out.ext x
 go_wp2_with fail
 go_loopw [7, 10] (fun s i wr => ∃ (S : ByteArray) (j : Nat) (x : Ext W2), s = .string S ∧ j ≤ vps.length ∧ i = .int .i64 j ∧ wr = x.1 ∧ Hid (Jn J [44, 32] S j (Q.drop j))) (fun _ i _ => vps.length - (intOf i).toNat)
 case atStart => exact ⟨_, 0, x0, rfl, Nat.zero_le _, rfl, rfl, HJ0⟩
 case round =>
  obtain ⟨S, j, x, rfl, hj, rfl, rfl, HQ⟩ := hrel
  have HSS : Hid (S.size ≤ 900000) := hid (Nat.le_trans HQ.out.size HJZ.out)
  by_cases hlt : j < vps.length
  · have hln : j < ns.length := by have := HLEN.out; omega
    obtain ⟨nm, qb, qo, hq1, _, _, _, rfl, hqw, hqs⟩ := strEl HLN.out j hln
    obtain ⟨x1, vb, vo2, xn, xcn, xp, xcp, xe, xce, hx1, _, _, _, rfl, hxr, hxc⟩ := valEl HVP.out j hlt
    obtain ⟨p, lb, lo2, an, cn, ap, cp, ar, cr, hp1, _, _, _, rfl, hyr, hyc⟩ := latEl HLP.out j (by have := HLEN.out; omega)
    have hqc : ∀ y : Ext W2, y.1.cell? ⟨qb, qo + j, none⟩ = some (.string nm) := fun y => ext_up HB.out y hqw
    obtain ⟨y0, y1, y2, y3, y4, y5⟩ := cx6 fun y : Ext W2 => hyc.below (HB.out y)
    obtain ⟨q0, q1, q2, q3⟩ := cx4 fun y : Ext W2 => hxc.below (HB.out y)
    obtain ⟨hQj, hSO⟩ := HITEM.out j nm p x1 hq1 hp1 hx1
    have hBQ := bsOf_item nm (textV p x1)
    have hml := join_mem [44, 32] (List.mem_of_getElem? hQj)
    rw [HJE.out] at hml
    have hTL : (textV p x1).length ≤ 900000 := by have := HJZ.out; rw [List.length_append, List.length_cons, List.length_cons] at hml; omega
    have HSH : Hid (∀ y : Ext W2, Calls Tryz.prog 59 #[.agg #[.int .i64 p.kind, .int .i64 p.lo, .int .i64 p.hi, .slice an p.names.length cn, .slice ap p.parts.length cp, .slice ar p.rules.length cr], .agg #[.int .i64 x1.n, .slice xn x1.names.length xcn, .slice xp x1.parts.length xcp, .slice xe x1.entries.length xce]] y.1 fun e w' => e = .returned (.string (strOf (textV p x1))) ∧ ∃ z : Ext W2, w' = z.1) := hid fun y => ext_call y (hSO [.int .i64 p.kind, .int .i64 p.lo, .int .i64 p.hi, .slice an p.names.length cn, .slice ap p.parts.length cp, .slice ar p.rules.length cr] [.int .i64 x1.n, .slice xn x1.names.length xcn, .slice xp x1.parts.length xcp, .slice xe x1.entries.length xce] y.1 (latRd.below (HB.out y) _ _ hyr) (valRd.below (HB.out y) _ _ hxr) (HTB.out.below (HB.out y)) hTL)
    have HQ1 : Hid (Jn J [44, 32] S j ((bsOf nm ++ 58 :: 32 :: textV p x1) :: Q.drop (j + 1))) := hid (by have h := HQ.out; rw [drop_get hQj] at h; exact h)
    have HBQ := hid hBQ
    have HJ : Hid (j + 1 ≤ vps.length) := hid hlt
    have hi1 : (j : Int) < (vps.length : Int) := by omega
    have hi2 : (j : Int) < (ns.length : Int) := by omega
    have hi3 : (j : Int) < (ps.length : Int) := by have := HLEN.out; omega
    have hj63 : j + 1 ≤ 9223372036854775807 := by omega
    clear HQ hQj hSO hBQ hml hTL hyr hyc hxr hxc hq1 hx1 hp1 hqw hqs
    generalize bsOf nm ++ 58 :: 32 :: textV p x1 = q at HQ1 HBQ
    generalize strOf (textV p x1) = A at HSH HBQ
    rcases Nat.eq_zero_or_pos j with h0 | h0
    case' inl =>
     have hd : decide (0 < j) = false := decide_eq_false (by omega)
     have HM : Hid (Jm J [44, 32] S j q (Q.drop (j + 1))) := hid (by have h := HQ1.out; rw [h0] at h ⊢; exact h.first)
     have HAB : Hid (S.size + (nm.size + 2 + A.size) ≤ 900000) := hid (by
      have h := Nat.le_trans HM.out.size HJZ.out
      rw [← HBQ.out, bsOf_len, size4] at h
      exact h)
     have hz1 : ¬ (9223372036854775807 < nm.size + 2) := by have := HAB.out; omega
     have hz2 : ¬ (9223372036854775807 < nm.size + 2 + A.size) := by have := HAB.out; omega
     have hz3 : ¬ (9223372036854775807 < S.size + (nm.size + 2 + A.size)) := by have := HAB.out; omega
     clear h0
     go_wp2_with fail
    case' inr =>
     have hd : decide (0 < j) = true := decide_eq_true (by omega)
     have HM : Hid (Jm J [44, 32] (S ++ ⟨#[44, 32]⟩) j q (Q.drop (j + 1))) := hid (HQ1.out.more h0 rfl)
     have HAB : Hid ((S ++ ⟨#[44, 32]⟩).size + (nm.size + 2 + A.size) ≤ 900000) := hid (by
      have h := Nat.le_trans HM.out.size HJZ.out
      rw [← HBQ.out, bsOf_len, size4] at h
      exact h)
     have hz0 : ¬ (9223372036854775807 < S.size + 2) := by have := HSS.out; omega
     have hz1 : ¬ (9223372036854775807 < nm.size + 2) := by have := HAB.out; omega
     have hz2 : ¬ (9223372036854775807 < nm.size + 2 + A.size) := by have := HAB.out; omega
     have hz3 : ¬ (9223372036854775807 < (S ++ ⟨#[44, 32]⟩).size + (nm.size + 2 + A.size)) := by have := HAB.out; omega
     clear h0
     go_wp2_with fail
     generalize S ++ ⟨#[44, 32]⟩ = S at HM HAB hz3 ⊢
    all_goals
     refine wp_region_ext2 _ (by kernel_rfl) (by kernel_rfl) ?_
     repeat (go_big_quiet_step (with_reducible first | exact HSH.out _))
     refine wpQuiet_nil ?_
     rintro _ ⟨y, rfl⟩
     have HN1 := hid (HM.out.next HBQ.out)
     go_wp2_with fail
     go_roundw
     case rel => exact ⟨_, j + 1, y, rfl, HJ.out, by go_num, rfl, HN1⟩
     case measure => have := HJ.out; simp [intOf]; omega
  · have HE : Hid (bsOf S = J) := hid (Jn.stop (j := j) (by have h := HQ.out; rw [List.drop_eq_nil_of_le (by have := HLEN.out; omega)] at h; exact h))
    have hz1 : ¬ (9223372036854775807 < 1 + S.size) := by have := HSS.out; omega
    have hz2 : ¬ (9223372036854775807 < 1 + S.size + 1) := by have := HSS.out; omega
    have HRE := hid (HR.out S HE.out)
    go_wp2_with fail
    go_ret
    exact ⟨ret_str HRE.out, HB.out x⟩
theorem allowed_eq (only l : List ByteArray) : allowedB only l = ((l.drop 0).all (memB only) && sortedB l) := by
 unfold allowedB
 rw [List.drop_zero, Bool.and_comm]
theorem rMembers_any (va vl : Value) (a l : List ByteArray) (w : World) (ha : Strs w va a) (hl : Strs w vl l) :
 Calls Tryz.prog 68 #[va, vl] w fun e w' => e = .returned (.bool (allowedB a l)) ∧ Below w.heap.size w w' := by
 obtain ⟨aa, ca, rfl, _, hma⟩ := ha.shape
 obtain ⟨al, cl, rfl, _, hml⟩ := hl.shape
 have HA := hid ha
 have HL := hid hl
 have HE := hid (allowed_eq a l)
 have HSO : Hid (∀ x : Ext w, Calls Tryz.prog 121 #[.slice al l.length cl] x.1 fun e w' => e = .returned (.bool (sortedB l)) ∧ ∃ y : Ext w, w' = y.1) := hid fun x => ext_call x ((rSorted_any _ l x.1 (hl.below x.2)).mono fun e w' h => ⟨h.1, by obtain ⟨n, rfl⟩ := h.2; exact below_drewN' (Below.refl _ _) n⟩)
 obtain ⟨na, hna⟩ : ∃ n, n = a.length := ⟨_, rfl⟩
 have HNA := hid hna
 rw [← hna] at HA hma ⊢
 have HM : Hid (∀ s, memB a s = (nameB s && (decide (na = 0) || hasS a s))) := hid fun s => by rw [HNA.out]; rfl
 generalize allowedB a l = R at HE ⊢
 generalize sortedB l = S at HE HSO
 clear ha hl hna
 go_enter Tryz.func68, Tryz.ntmps68
 go_wp2_with fail
 go_loopw [5] (fun i wr => ∃ (j : Nat) (x : Ext w), j ≤ l.length ∧ i = .int .i64 j ∧ wr = x.1 ∧ Hid (R = ((l.drop j).all (memB a) && S))) (fun i _ => l.length - (intOf i).toNat)
 case atStart => exact ⟨0, ⟨w, Below.refl _ _⟩, Nat.zero_le _, rfl, rfl, HE⟩
 case round =>
  obtain ⟨j, x, hj, rfl, rfl, He⟩ := hrel
  by_cases hlt : j < l.length
  · obtain ⟨s, b, o, _, _, hsd, _, rfl, hcell, hsz⟩ := strEl HL.out j hlt
    have HCELL := hid hcell
    have HSZ := hid hsz
    have hc0 : ∀ y : Ext w, y.1.cell? ⟨b, o + j, none⟩ = some (.string s) := fun y => y.cell HCELL.out
    have HS : Hid (R = ((nameB s && (decide (na = 0) || hasS a s)) && ((l.drop (j + 1)).all (memB a) && S))) := hid (by rw [He.out, hsd, List.all_cons, HM.out, Bool.and_assoc])
    have HVA : Hid (∀ y : Ext w, Calls Tryz.prog 119 #[.string s] y.1 fun e w' => e = .returned (.bool (nameB s)) ∧ ∃ z : Ext w, w' = z.1) := hid fun y => ext_same y (rNameValid_any s y.1 HSZ.out)
    have HHA : Hid (∀ y : Ext w, Calls Tryz.prog 120 #[.slice aa na ca, .string s] y.1 fun e w' => e = .returned (.bool (hasS a s)) ∧ ∃ z : Ext w, w' = z.1) := hid fun y => ext_same y (rHas_any _ a s y.1 (HA.out.below y.2))
    have hi1 : (j : Int) < (l.length : Int) := by omega
    have HJ : Hid (j + 1 ≤ l.length) := hid hlt
    generalize nameB s = N at HS HVA
    generalize hasS a s = H at HS HHA
    clear He hsd hcell hsz hlt hj
    go_wp2_with fail
    refine (HVA.out _).mono ?_
    rintro e _ ⟨rfl, x1, rfl⟩
    cases N
    · have HF : Hid (R = false) := hid (by rw [HS.out]; rfl)
      go_wp2_with fail
      go_ret
      exact ⟨ret_bool HF.out.symm, x1.2⟩
    by_cases h0 : na = 0
    · have HF : Hid (R = ((l.drop (j + 1)).all (memB a) && S)) := hid (by rw [HS.out, decide_eq_true h0]; rfl)
      subst h0
      clear HS HVA HHA
      go_wp2_with fail
      go_roundw
      case rel => exact ⟨j + 1, x1, HJ.out, by go_num, rfl, HF⟩
      case measure => have := HJ.out; simp [intOf]; omega
    · have HS2 : Hid (R = (H && ((l.drop (j + 1)).all (memB a) && S))) := hid (by rw [HS.out, decide_eq_false h0]; rfl)
      have hz : (0 : Int) < (na : Int) := by omega
      have hz2 : decide ((0 : Int) < (na : Int)) = true := decide_eq_true hz
      clear HS HVA h0
      go_wp2_with fail
      all_goals try (exfalso; omega)
      refine (HHA.out _).mono ?_
      rintro e _ ⟨rfl, x2, rfl⟩
      cases H
      · have HF : Hid (R = false) := hid (by rw [HS2.out]; rfl)
        go_wp2_with fail
        go_ret
        exact ⟨ret_bool HF.out.symm, x2.2⟩
      · have HF : Hid (R = ((l.drop (j + 1)).all (memB a) && S)) := hid (by rw [HS2.out]; rfl)
        clear HS2 HHA
        go_wp2_with fail
        go_roundw
        case rel => exact ⟨j + 1, x2, HJ.out, by go_num, rfl, HF⟩
        case measure => have := HJ.out; simp [intOf]; omega
  · have hjj : j = l.length := by omega
    subst hjj
    have HF : Hid (R = S) := hid (by rw [He.out, List.drop_eq_nil_of_le (Nat.le_refl _)]; rfl)
    clear hlt hj
    go_wp2_with fail
    refine (HSO.out _).mono ?_
    rintro e _ ⟨rfl, x1, rfl⟩
    go_wp2_with fail
    go_ret
    exact ⟨ret_bool HF.out.symm, x1.2⟩
def RulesOk (rs : List Rl) : Prop := ∀ r ∈ rs, Ris r.cond ∧ r.cond.length ≤ 1000000
def closeB (list : List ByteArray) (r : Rl) : Bool := !subsetS r.cond list || hasS list r.concl
theorem rClosed_any (vr vl : Value) (rs : List Rl) (l : List ByteArray) (w : World) (hr : SlRd w 2 (ruleRd w) vr rs) (hl : Strs w vl l) (hk : RulesOk rs) :
 Calls Tryz.prog 70 #[vr, vl] w fun e w' => e = .returned (.bool (closedB rs l)) ∧ Below w.heap.size w w' := by
 obtain ⟨ar, cr, rfl, _, hmr⟩ := hr.shape
 obtain ⟨al, cl, rfl, _, hml⟩ := hl.shape
 have HR := hid hr
 have HL := hid hl
 have HK := hid hk
 have HE : Hid (closedB rs l = (rs.drop 0).all (closeB l)) := hid rfl
 generalize closedB rs l = R at HE ⊢
 obtain ⟨nl, hnl⟩ : ∃ n, n = l.length := ⟨_, rfl⟩
 rw [← hnl] at HL hml ⊢
 clear hr hl hk hnl
 go_enter Tryz.func70, Tryz.ntmps70
 go_wp2_with fail
 go_loopw [5] (fun i wr => ∃ (j : Nat) (x : Ext w), j ≤ rs.length ∧ i = .int .i64 j ∧ wr = x.1 ∧ Hid (R = (rs.drop j).all (closeB l))) (fun i _ => rs.length - (intOf i).toNat)
 case atStart => exact ⟨0, ⟨w, Below.refl _ _⟩, Nat.zero_le _, rfl, rfl, HE⟩
 case round =>
  obtain ⟨j, x, hj, rfl, rfl, He⟩ := hrel
  by_cases hlt : j < rs.length
  · obtain ⟨r, b, o, ac, cc, _, hrm, hrd, _, rfl, hcd, hcl, hca⟩ := ruleEl HR.out j hlt
    obtain ⟨L, hL⟩ : ∃ L, L = r.cond.length := ⟨_, rfl⟩
    rw [← hL] at hcd hca
    clear hL
    have HCD := hid hcd
    have HCA := hid hca
    have HRM := hid (HK.out r hrm)
    obtain ⟨c0, c1⟩ := cx2 fun y : Ext w => HCA.out.below y.2
    have HS : Hid (R = ((!subsetS r.cond l || hasS l r.concl) && (rs.drop (j + 1)).all (closeB l))) := hid (by rw [He.out, hrd, List.all_cons]; rfl)
    have HSU : Hid (∀ y : Ext w, Calls Tryz.prog 124 #[.slice ac L cc, .slice al nl cl] y.1 fun e w' => e = .returned (.bool (subsetS r.cond l)) ∧ ∃ z : Ext w, w' = z.1) := hid fun y => ext_call y (rSubset_any _ _ r.cond l y.1 (HCD.out.below y.2) (HL.out.below y.2) HRM.out.1 HRM.out.2)
    have HHA : Hid (∀ y : Ext w, Calls Tryz.prog 120 #[.slice al nl cl, .string r.concl] y.1 fun e w' => e = .returned (.bool (hasS l r.concl)) ∧ ∃ z : Ext w, w' = z.1) := hid fun y => ext_same y (rHas_any _ l r.concl y.1 (HL.out.below y.2))
    have hi1 : (j : Int) < (rs.length : Int) := by omega
    have HJ : Hid (j + 1 ≤ rs.length) := hid hlt
    generalize subsetS r.cond l = N at HS HSU
    generalize hasS l r.concl = H at HS HHA
    clear He hrd hcd hcl hca hlt hj hrm
    go_wp2_with fail
    refine (HSU.out _).mono ?_
    rintro e _ ⟨rfl, x1, rfl⟩
    cases N
    · have HF : Hid (R = (rs.drop (j + 1)).all (closeB l)) := hid (by rw [HS.out]; rfl)
      clear HS HSU HHA
      go_wp2_with fail
      go_roundw
      case rel => exact ⟨j + 1, x1, HJ.out, by go_num, rfl, HF⟩
      case measure => have := HJ.out; simp [intOf]; omega
    · have HS2 : Hid (R = (H && (rs.drop (j + 1)).all (closeB l))) := hid (by rw [HS.out]; rfl)
      clear HS HSU
      go_wp2_with fail
      refine (HHA.out _).mono ?_
      rintro e _ ⟨rfl, x2, rfl⟩
      cases H
      · have HF : Hid (R = false) := hid (by rw [HS2.out]; rfl)
        go_wp2_with fail
        go_ret
        exact ⟨ret_bool HF.out.symm, x2.2⟩
      · have HF : Hid (R = (rs.drop (j + 1)).all (closeB l)) := hid (by rw [HS2.out]; rfl)
        clear HS2 HHA
        go_wp2_with fail
        go_roundw
        case rel => exact ⟨j + 1, x2, HJ.out, by go_num, rfl, HF⟩
        case measure => have := HJ.out; simp [intOf]; omega
  · have hjj : j = rs.length := by omega
    subst hjj
    have HF : Hid (R = true) := hid (by rw [He.out, List.drop_eq_nil_of_le (Nat.le_refl _)]; rfl)
    clear hlt hj
    go_wp2_with fail
    go_ret
    exact ⟨ret_bool HF.out.symm, x.2⟩
theorem rentGo_step {list : List En} {j : Nat} {e : En} (h : list.drop j = e :: list.drop (j + 1)) : rentGo list j (list.drop j) = (rentB list j e && rentGo list (j + 1) (list.drop (j + 1))) := by
 rw [h, rentGo]
theorem rentB_zero (list : List En) (e : En) : rentB list 0 e = ((decide (e.clock.length ≠ 0) && (clockB e.clock && nameB e.name)) && list.all fun f => !belowT e.clock f.clock) := by
  unfold rentB
  simp
theorem rentB_succ {list : List En} {k : Nat} {p : En} (e : En) (h : list[k]? = some p) : rentB list (k + 1) e = ((decide (e.clock.length ≠ 0) && (clockB e.clock && nameB e.name)) && (decide (entC p e < 0) && list.all fun f => !belowT e.clock f.clock)) := by
  unfold rentB
  simp only [h]
theorem rEnts_any (v : Value) (list : List En) (w : World) (hv : SlRd w 2 (entryRd w) v list) :
 Calls Tryz.prog 69 #[v] w fun e w' => e = .returned (.bool (rentsB list)) ∧ Below w.heap.size w w' := by
 obtain ⟨av, cv, rfl, _, hmv⟩ := hv.shape
 have HV := hid hv
 have HE : Hid (rentsB list = rentGo list 0 (list.drop 0)) := hid rfl
 generalize rentsB list = R at HE ⊢
 clear hv
 go_enter Tryz.func69, Tryz.ntmps69
 go_wp2_with fail
 go_loopw [3, 4] (fun i _ wr => ∃ (j : Nat) (x : Ext w), j ≤ list.length ∧ i = .int .i64 j ∧ wr = x.1 ∧ Hid (R = rentGo list j (list.drop j))) (fun i _ _ => list.length - (intOf i).toNat)
 case atStart => exact ⟨0, ⟨w, Below.refl _ _⟩, Nat.zero_le _, rfl, rfl, HE⟩
 case round =>
  obtain ⟨j, x, hj, rfl, rfl, He⟩ := hrel
  by_cases hlt : j < list.length
  · obtain ⟨e, eb, eo, ea, ec, hej, _, hed, _, rfl, hek, hen, hec⟩ := entEl HV.out j hlt
    obtain ⟨L, hL⟩ : ∃ L, L = e.clock.length := ⟨_, rfl⟩
    have HLL := hid hL
    have hLm : L ≤ 9223372036854775807 := by obtain ⟨_, _, _, _, h⟩ := hek.shape; omega
    rw [← hL] at hek hec
    have HEK := hid hek
    have HEN := hid hen
    have HEC := hid hec
    have HS : Hid (R = (rentB list j e && rentGo list (j + 1) (list.drop (j + 1)))) := hid (by rw [He.out, rentGo_step hed])
    obtain ⟨e0, e1⟩ := cx2 fun y : Ext w => HEC.out.below y.2
    have HCV : Hid (∀ y : Ext w, Calls Tryz.prog 122 #[.slice ea L ec] y.1 fun r w' => r = .returned (.bool (clockB e.clock)) ∧ ∃ z : Ext w, w' = z.1) := hid fun y => ext_call y (rClock_any _ _ y.1 (SlRd.below HEK.out y.2 fun _ _ _ h => h))
    have HNV : Hid (∀ y : Ext w, Calls Tryz.prog 119 #[.string e.name] y.1 fun r w' => r = .returned (.bool (nameB e.name)) ∧ ∃ z : Ext w, w' = z.1) := hid fun y => ext_same y (rNameValid_any _ y.1 HEN.out)
    have HB0 : Hid (rentB list 0 e = ((decide (L ≠ 0) && (clockB e.clock && nameB e.name)) && list.all fun f => !belowT e.clock f.clock)) := hid (by rw [HLL.out]; exact rentB_zero list e)
    have HB1 : Hid (∀ k p, list[k]? = some p → rentB list (k + 1) e = ((decide (L ≠ 0) && (clockB e.clock && nameB e.name)) && (decide (entC p e < 0) && list.all fun f => !belowT e.clock f.clock))) := hid fun k p h => by rw [HLL.out]; exact rentB_succ e h
    have HBF : Hid ((decide (L ≠ 0) && (clockB e.clock && nameB e.name)) = false → R = false) := hid fun h => by
      cases j with
      | zero => rw [HS.out, HB0.out, h]; rfl
      | succ k =>
        have hk : k < list.length := by omega
        rw [HS.out, HB1.out k _ (List.getElem?_eq_getElem hk), h]; rfl
    have hi1 : (j : Int) < (list.length : Int) := by omega
    have HJ : Hid (j + 1 ≤ list.length) := hid hlt
    clear He hed hek hec hL hen
    generalize clockB e.clock = CB at HCV HB0 HB1 HBF
    generalize nameB e.name = NB at HNV HB0 HB1 HBF
    by_cases h0 : L = 0
    · have HF : Hid (R = false) := hid (HBF.out (by rw [h0]; rfl))
      subst h0
      clear HB0 HB1 HBF
      go_wp2_with fail
      go_ret
      exact ⟨ret_bool HF.out.symm, x.2⟩
    have hz0 : ((L : Int) == 0) = false := by rw [beq_eq_false_iff_ne]; omega
    have HL0 : Hid (decide (L ≠ 0) = true) := hid (decide_eq_true h0)
    clear h0
    go_wp2_with fail
    refine (HCV.out _).mono ?_
    rintro r _ ⟨rfl, x1, rfl⟩
    cases CB
    · have HF : Hid (R = false) := hid (HBF.out (by rw [HL0.out]; rfl))
      go_wp2_with fail
      go_ret
      exact ⟨ret_bool HF.out.symm, x1.2⟩
    go_wp2_with fail
    refine (HNV.out _).mono ?_
    rintro r _ ⟨rfl, x2, rfl⟩
    cases NB
    · have HF : Hid (R = false) := hid (HBF.out (by rw [HL0.out]; rfl))
      go_wp2_with fail
      go_ret
      exact ⟨ret_bool HF.out.symm, x2.2⟩
    clear HBF HCV HNV
    by_cases hj0 : j = 0
    · have HQ : Hid (R = ((list.drop 0).all (fun f => !belowT e.clock f.clock) && rentGo list (j + 1) (list.drop (j + 1)))) := hid (by rw [HS.out, hj0, HB0.out, HL0.out]; rfl)
      have hd : decide (0 < j) = false := decide_eq_false (by omega)
      clear HS HB0 HB1 hej hj0
      go_wp2_with fail
      refine wp_region_at (by kernel_rfl) (by kernel_rfl) _ ?_
      repeat (go_big_quiet_step (fail))
      refine wpQuiet_nil ?_
      rintro _ ⟨z, rfl⟩
      clear hd
      go_wp2_with fail
      go_loopw [4] (fun i wr => ∃ (m : Nat) (x : Ext w), m ≤ list.length ∧ i = .int .i64 m ∧ wr = x.1 ∧ Hid (R = ((list.drop m).all (fun f => !belowT e.clock f.clock) && rentGo list (j + 1) (list.drop (j + 1))))) (fun i _ => list.length - (intOf i).toNat)
      case atStart => exact ⟨0, z, Nat.zero_le _, rfl, rfl, HQ⟩
      case round =>
       obtain ⟨m, x, hm, rfl, rfl, Hm⟩ := hrel
       by_cases hlm : m < list.length
       · obtain ⟨f, fb, fo, fa, fc, _, _, hfd, _, heq, hfk, _, hfc⟩ := entEl HV.out m hlm
         cases heq
         obtain ⟨M, hM⟩ : ∃ M, M = f.clock.length := ⟨_, rfl⟩
         rw [← hM] at hfk hfc
         have HFC := hid hfc
         have f0 : ∀ y : Ext w, y.1.cell? ⟨eb, eo + m * 2, none⟩ = some (.slice fa M fc) := fun y => (HFC.out.below y.2) 0 (by simp)
         have HBL : Hid (∀ y : Ext w, Calls Tryz.prog 123 #[.slice ea L ec, .slice fa M fc] y.1 fun r w' => r = .returned (.bool (belowT e.clock f.clock)) ∧ ∃ z : Ext w, w' = z.1) := hid fun y => ext_call y (rBelow_any _ _ _ _ y.1 (SlRd.below HEK.out y.2 fun _ _ _ h => h) (SlRd.below hfk y.2 fun _ _ _ h => h))
         have HT : Hid (R = (!belowT e.clock f.clock && ((list.drop (m + 1)).all (fun f => !belowT e.clock f.clock) && rentGo list (j + 1) (list.drop (j + 1))))) := hid (by rw [Hm.out, hfd, List.all_cons, Bool.and_assoc])
         have hi2 : (m : Int) < (list.length : Int) := by omega
         have HM1 : Hid (m + 1 ≤ list.length) := hid hlm
         generalize belowT e.clock f.clock = BT at HBL HT
         clear Hm hfd hfk hfc hM hlm hm
         cases BT
         · have HF : Hid (R = ((list.drop (m + 1)).all (fun f => !belowT e.clock f.clock) && rentGo list (j + 1) (list.drop (j + 1)))) := hid (by rw [HT.out]; rfl)
           clear HT
           go_wp2_with fail
           refine wp_region_at (by kernel_rfl) (by kernel_rfl) _ ?_
           repeat (go_big_quiet_step (with_reducible exact HBL.out _))
           refine wpQuiet_nil ?_
           rintro _ ⟨z, rfl⟩
           go_wp2_with fail
           go_roundw
           case rel => exact ⟨m + 1, z, HM1.out, by go_num, rfl, HF⟩
           case measure => have := HM1.out; simp [intOf]; omega
         · have HF : Hid (R = false) := hid (by rw [HT.out]; rfl)
           clear HT
           go_wp2_with fail
           refine wp_region_at (by kernel_rfl) (by kernel_rfl) _ ?_
           repeat (go_big_quiet_step (with_reducible exact HBL.out _))
           refine wpQuiet_nil ?_
           rintro _ ⟨z, rfl⟩
           go_wp2_with fail
           go_ret
           exact ⟨ret_bool HF.out.symm, z.2⟩
       · have hmm : m = list.length := by omega
         subst hmm
         have HF : Hid (R = rentGo list (j + 1) (list.drop (j + 1))) := hid (by rw [Hm.out, List.drop_eq_nil_of_le (Nat.le_refl _)]; rfl)
         clear hlm hm
         go_wp2_with fail
         go_roundw
         case rel => exact ⟨j + 1, x, HJ.out, by go_num, rfl, HF⟩
         case measure => have := HJ.out; simp [intOf]; omega
    · obtain ⟨k, hk⟩ : ∃ k, j = k + 1 := ⟨j - 1, by omega⟩
      obtain ⟨p, pb, po, pa, pc, hpk, _, _, _, heq, hpk2, hpn, hpc⟩ := entEl HV.out k (by omega)
      cases heq
      obtain ⟨K, hK⟩ : ∃ K, K = p.clock.length := ⟨_, rfl⟩
      rw [← hK] at hpk2 hpc
      have HPK := hid hpk2
      have HPC := hid hpc
      have HPN := hid hpn
      obtain ⟨p0, p1⟩ := cx2 fun y : Ext w => HPC.out.below y.2
      have HCE : Hid (∀ y : Ext w, Calls Tryz.prog 49 #[.agg #[.slice pa K pc, .string p.name], .agg #[.slice ea L ec, .string e.name]] y.1 fun r w' => r = .returned (.int .i64 (entC p e)) ∧ ∃ z : Ext w, w' = z.1) := hid fun y => ext_call y (rEntries_any p e [.slice pa K pc, .string p.name] [.slice ea L ec, .string e.name] y.1 ⟨_, rfl, SlRd.below HPK.out y.2 fun _ _ _ h => h, HPN.out⟩ ⟨_, rfl, SlRd.below HEK.out y.2 fun _ _ _ h => h, HEN.out⟩)
      have HR2 : Hid (R = ((decide (entC p e < 0) && list.all fun f => !belowT e.clock f.clock) && rentGo list (j + 1) (list.drop (j + 1)))) := hid (by
        have h := HB1.out k p hpk
        rw [HL0.out, ← hk] at h
        rw [HS.out, h]; rfl)
      have w1 : wrap64 ((j : Int) - 1) = (k : Int) := by rw [show (j : Int) - 1 = k by omega]; exact IntWalk.wrap64_in _ (by omega)
      have w2 : ((j : Int) - 1) = (k : Int) := by omega
      have hk1 : (k : Int) < (list.length : Int) := by omega
      have hd : decide (0 < j) = true := decide_eq_true (by omega)
      have hd' : 0 < j := by omega
      clear HS HB0 HB1 hej hj0 hk hpk hpk2 hpc hpn hK
      generalize entC p e = C at HCE HR2
      by_cases hc : 0 ≤ C
      · have HF : Hid (R = false) := hid (by rw [HR2.out, decide_eq_false (by omega)]; rfl)
        have hdc : decide (0 ≤ C) = true := decide_eq_true hc
        clear HR2 hc
        go_wp2_with fail
        refine wp_region_at (by kernel_rfl) (by kernel_rfl) _ ?_
        repeat (go_big_quiet_step (with_reducible exact HCE.out _))
        refine wpQuiet_nil ?_
        rintro _ ⟨z, rfl⟩
        go_wp2_with fail
        go_ret
        exact ⟨ret_bool HF.out.symm, z.2⟩
      · have HQ : Hid (R = ((list.drop 0).all (fun f => !belowT e.clock f.clock) && rentGo list (j + 1) (list.drop (j + 1)))) := hid (by rw [HR2.out, decide_eq_true (by omega)]; rfl)
        have hdc : decide (0 ≤ C) = false := decide_eq_false hc
        clear HR2 hc
        go_wp2_with fail
        refine wp_region_at (by kernel_rfl) (by kernel_rfl) _ ?_
        repeat (go_big_quiet_step (with_reducible exact HCE.out _))
        refine wpQuiet_nil ?_
        rintro _ ⟨z, rfl⟩
        clear hd hd' w1 w2 hk1 hdc p0 p1 HCE
        go_wp2_with fail
        go_loopw [4] (fun i wr => ∃ (m : Nat) (x : Ext w), m ≤ list.length ∧ i = .int .i64 m ∧ wr = x.1 ∧ Hid (R = ((list.drop m).all (fun f => !belowT e.clock f.clock) && rentGo list (j + 1) (list.drop (j + 1))))) (fun i _ => list.length - (intOf i).toNat)
        case atStart => exact ⟨0, z, Nat.zero_le _, rfl, rfl, HQ⟩
        case round =>
         obtain ⟨m, x, hm, rfl, rfl, Hm⟩ := hrel
         by_cases hlm : m < list.length
         · obtain ⟨f, fb, fo, fa, fc, _, _, hfd, _, heq, hfk, _, hfc⟩ := entEl HV.out m hlm
           cases heq
           obtain ⟨M, hM⟩ : ∃ M, M = f.clock.length := ⟨_, rfl⟩
           rw [← hM] at hfk hfc
           have HFC := hid hfc
           have f0 : ∀ y : Ext w, y.1.cell? ⟨eb, eo + m * 2, none⟩ = some (.slice fa M fc) := fun y => (HFC.out.below y.2) 0 (by simp)
           have HBL : Hid (∀ y : Ext w, Calls Tryz.prog 123 #[.slice ea L ec, .slice fa M fc] y.1 fun r w' => r = .returned (.bool (belowT e.clock f.clock)) ∧ ∃ z : Ext w, w' = z.1) := hid fun y => ext_call y (rBelow_any _ _ _ _ y.1 (SlRd.below HEK.out y.2 fun _ _ _ h => h) (SlRd.below hfk y.2 fun _ _ _ h => h))
           have HT : Hid (R = (!belowT e.clock f.clock && ((list.drop (m + 1)).all (fun f => !belowT e.clock f.clock) && rentGo list (j + 1) (list.drop (j + 1))))) := hid (by rw [Hm.out, hfd, List.all_cons, Bool.and_assoc])
           have hi2 : (m : Int) < (list.length : Int) := by omega
           have HM1 : Hid (m + 1 ≤ list.length) := hid hlm
           generalize belowT e.clock f.clock = BT at HBL HT
           clear Hm hfd hfk hfc hM hlm hm
           cases BT
           · have HF : Hid (R = ((list.drop (m + 1)).all (fun f => !belowT e.clock f.clock) && rentGo list (j + 1) (list.drop (j + 1)))) := hid (by rw [HT.out]; rfl)
             clear HT
             go_wp2_with fail
             refine wp_region_at (by kernel_rfl) (by kernel_rfl) _ ?_
             repeat (go_big_quiet_step (with_reducible exact HBL.out _))
             refine wpQuiet_nil ?_
             rintro _ ⟨z, rfl⟩
             go_wp2_with fail
             go_roundw
             case rel => exact ⟨m + 1, z, HM1.out, by go_num, rfl, HF⟩
             case measure => have := HM1.out; simp [intOf]; omega
           · have HF : Hid (R = false) := hid (by rw [HT.out]; rfl)
             clear HT
             go_wp2_with fail
             refine wp_region_at (by kernel_rfl) (by kernel_rfl) _ ?_
             repeat (go_big_quiet_step (with_reducible exact HBL.out _))
             refine wpQuiet_nil ?_
             rintro _ ⟨z, rfl⟩
             go_wp2_with fail
             go_ret
             exact ⟨ret_bool HF.out.symm, z.2⟩
         · have hmm : m = list.length := by omega
           subst hmm
           have HF : Hid (R = rentGo list (j + 1) (list.drop (j + 1))) := hid (by rw [Hm.out, List.drop_eq_nil_of_le (Nat.le_refl _)]; rfl)
           clear hlm hm
           go_wp2_with fail
           go_roundw
           case rel => exact ⟨j + 1, x, HJ.out, by go_num, rfl, HF⟩
           case measure => have := HJ.out; simp [intOf]; omega
  · have hjj : j = list.length := by omega
    subst hjj
    have HF : Hid (R = true) := hid (by rw [He.out, List.drop_eq_nil_of_le (Nat.le_refl _)]; rfl)
    clear hlt hj
    go_wp2_with fail
    go_ret
    exact ⟨ret_bool HF.out.symm, x.2⟩
theorem least_any (f : Nat) : ∀ (l : Lat) (cs : List Value) (w : World), SizeOf.sizeOf l ≤ f → latRd w l cs → WfL l →
 Calls Tryz.prog 62 #[.agg cs.toArray] w (ValPost w (botV l)) := by
 induction f with
 | zero => intro l cs w hn; cases l; simp at hn
 | succ f ih =>
   intro l cs w hn hl hwf
   have IH := hid ih
   have HSZ := hid hn
   have HWF := hid hwf
   obtain ⟨vn, vp, vr, rfl, ⟨hi1, hi2, hi3⟩, hns, hps, hrs⟩ := (latRd_iff _ _ _).1 hl
   obtain ⟨k, lo, hi', ns, ps, rs⟩ := l
   simp only [Lat.kind, Lat.lo, Lat.hi, Lat.names, Lat.parts, Lat.rules] at hi1 hi2 hi3 hns hps hrs ⊢
   obtain ⟨an, cn, rfl, _, _⟩ := hns.shape
   obtain ⟨ap, cp, rfl, _, hmp⟩ := hps.shape
   obtain ⟨ar, cr, rfl, _, _⟩ := hrs.shape
   have HPS := hid hps
   have HI2 := hid hi2
   have HI3 := hid hi3
   have HB := hid (botV_eq k lo hi' ns ps rs)
   have HP8 : Hid (ps.length ≤ 8) := hid (by have := HWF.out.kinds; simp only [Lat.kind, Lat.parts, Lat.names] at this; omega)
   have HPW : Hid (∀ p ∈ ps, WfL p) := hid fun p hp => HWF.out.part hp
   have HLE : Hid (∀ p ∈ ps, SizeOf.sizeOf p ≤ f) := hid fun p hp => by have := sizeOf_part (l := .mk k lo hi' ns ps rs) (p := p) hp; have := HSZ.out; omega
   generalize botV (.mk k lo hi' ns ps rs) = R at HB ⊢
   clear hl hns hps hrs hn ih hi1 hi2 hi3 hwf
   by_cases h2 : k = 2
   · have HR : Hid (R = .mk lo [] [] []) := hid (by rw [HB.out, if_pos h2])
     subst h2
     go_enter Tryz.func62, Tryz.ntmps62
     go_wp2_with fail
     refine bodyPost_ret (v := .agg #[.int .i64 lo, .slice none 0 0, .slice none 0 0, .slice none 0 0]) (by simp [results, Tryz.results62, go_sem]) rfl ⟨[_, _, _, _], rfl, by rw [HR.out]; exact valRd_flat _ _ HI2.out, by repeat (first | exact Below.refl _ _ | refine Below.setCell ?_ (by simp) _ | refine Below.alloc ?_ (by simp <;> omega) _ | refine Below.drew ?_)⟩
   by_cases h3 : k = 3
   · have HR : Hid (R = .mk hi' [] [] []) := hid (by rw [HB.out, if_neg h2, if_pos h3])
     subst h3
     clear h2
     go_enter Tryz.func62, Tryz.ntmps62
     go_wp2_with fail
     refine bodyPost_ret (v := .agg #[.int .i64 hi', .slice none 0 0, .slice none 0 0, .slice none 0 0]) (by simp [results, Tryz.results62, go_sem]) rfl ⟨[_, _, _, _], rfl, by rw [HR.out]; exact valRd_flat _ _ HI3.out, by repeat (first | exact Below.refl _ _ | refine Below.setCell ?_ (by simp) _ | refine Below.alloc ?_ (by simp <;> omega) _ | refine Below.drew ?_)⟩
   have e2 : (k == 2) = false := by simpa using h2
   have e3 : (k == 3) = false := by simpa using h3
   by_cases h67 : k = 6 ∨ k = 7
   · have HR : Hid (R = .mk 0 [] (ps.map botV) []) := hid (by rw [HB.out, if_neg h2, if_neg h3, if_pos h67])
     clear h2 h3 HB
     rcases h67 with rfl | rfl
     all_goals
      obtain ⟨i0, hi0, hz0, hz1, hz2⟩ := info_parts infoVal
      go_enter Tryz.func62, Tryz.ntmps62
      go_wp2_with fail
      go_loopw [4] (fun i wr => ∃ (j : Nat) (vo : Value) (css : List (List Value)), j ≤ ps.length ∧ i = .int .i64 j ∧ wr.heap[w.heap.size + 1 + 1]? = some (.cells #[.int .i64 0, .slice none 0 0, vo, .slice none 0 0] 30 (0, 0)) ∧
        wr.heap[w.heap.size + 1]? = some (.cells #[.int .i64 0, .slice none 0 0, .slice none 0 0, .slice none 0 0] 30 (0, 0)) ∧ Hid (wr.cell? ⟨w.heap.size, 4, none⟩ = some (.slice ap ps.length cp) ∧ w.heap.size < wr.heap.size) ∧ Hid (Below w.heap.size w wr) ∧ Hid (Rws wr (w.heap.size + 3) 30 4 valRd vo ((ps.map botV).take j) css)) (fun i _ => ps.length - (intOf i).toNat)
      case atStart => exact ⟨0, .slice none 0 0, [], Nat.zero_le _, rfl, heap_new_at _ _ _ (by simp), block_alloc (heap_new_at _ _ _ (by simp)) _, hid ⟨by first | exact cell_alloc (cell_alloc (by rw [World.cell?_alloc_at _ _ _ _ rfl]; rfl) _) _ | simp, by simp; omega⟩, hid (by repeat (first | exact Below.refl _ _ | refine Below.setCell ?_ (by simp) _ | refine Below.alloc ?_ (by simp <;> omega) _ | refine Below.drew ?_)), hid (by rw [List.take_zero]; exact Rws.nil _ _ _ _ _)⟩
      case round =>
       obtain ⟨j, vo, css, hj, rfl, hKv, hKr, HKL, HW, HRW⟩ := hrel
       have HKR := hid hKr
       clear hKr
       by_cases hlt : j < ps.length
       · obtain ⟨b, o, cs, ha, hl0, hcs, hlp⟩ := HPS.out.at j hlt
         subst ha
         obtain ⟨an0, cn0, ap0, cp0, ar0, cr0, rfl, hyi, hyn, hyp, hyr, _⟩ := latRd.lay hlp
         have HLP := hid hlp
         obtain ⟨f0, f1, f2, f3, f4, f5⟩ := (hcs.below HW.out).six
         clear hlp hcs hyi hyn hyp hyr
         obtain ⟨ao, co, rfl⟩ := owns_shape HRW.out.own
         have hKlt := block_lt hKv
         have HKV := hid hKv
         have HWB := HW
         have hl4 : wr.cell? ⟨w.heap.size, 4, none⟩ = some (.slice (some ⟨b, o, none⟩) ps.length cp) := HKL.out.1
         have HKA : Hid (wr.heap[w.heap.size + 1 + 1]? = some (.cells #[.int .i64 0, .slice none 0 0, .slice ao ((ps.map botV).take j).length co, .slice none 0 0] 30 (0, 0))) := HKV
         have hi1 : (j : Int) < (ps.length : Int) := by omega
         have hlen : ((ps.map botV).take j).length = j := by rw [List.length_take, List.length_map]; omega
         have HLEN := hid hlen
         rw [hlen] at HRW HKA
         have HRA : Hid (Rws wr (w.heap.size + 3) 30 4 valRd (.slice ao j co) ((ps.map botV).take j) css) := HRW
         have hk2 : wr.cell? ⟨w.heap.size + 1 + 1, 2, none⟩ = some (.slice ao j co) := by rw [cell_at_block HKA.out]; rfl
         have hwlt : w.heap.size + 1 + 1 < wr.heap.size := block_lt HKA.out
         have HWLT := hid hwlt
         have HJ : Hid (j + 1 ≤ 9223372036854775807 ∧ j + 1 ≤ ps.length) := hid (by omega)
         clear hlen hKv hwlt
         go_wp2_with fail
         go_region_law
          (first
            | (refine step_append (by rfl) (.tmp 29) (.tmp 36) 27 (by rfl) (w.heap.size + 3) 30 4 80 Tryz.underlying27 hi0 hz0 hz1 hz2 rfl (by decide) (.slice ao j co) j css.flatten (by rfl) (HOW.out _) _ 1 [.int .i64 (botV ps[j]).n, .slice bn (botV ps[j]).names.length bcn, .slice bp (botV ps[j]).parts.length bcp, .slice be (botV ps[j]).entries.length bce] (by rfl) (Src.of_block (cs := #[.int .i64 (botV ps[j]).n, .slice bn (botV ps[j]).names.length bcn, .slice bp (botV ps[j]).parts.length bcp, .slice be (botV ps[j]).entries.length bce]) (heap_alloc_new _ _) 4 1 1 rfl (by simp [Value.oneCell'])) (j + 1) rfl _ rfl HMX.out.1 HMX.out.2 (HBS.out _) ?_
               intro na nc w2 had
               have HAD := hid had
               have HK2 : Hid (w2.heap[w.heap.size + 1 + 1]? = some (.cells #[.int .i64 0, .slice none 0 0, .slice ao j co, .slice none 0 0] 30 (0, 0))) := hid ((had.grown.block _ (by have := HSW.out; simp; omega) HNE.out).trans (block_alloc HK1.out _))
               have hk4 : w2.cell? ⟨w.heap.size + 1 + 1, 2, none⟩ = some (.slice ao j co) := by rw [cell_at_block HK2.out]; rfl
               have hk5 : w2.frozen? ⟨w.heap.size + 1 + 1, 2, none⟩ = false := free_at_block HK2.out
               clear had)
            | (go_simp
               go_at_call 62
               refine (IH.out ps[j] [.int .i64 ps[j].kind, .int .i64 ps[j].lo, .int .i64 ps[j].hi, .slice an0 ps[j].names.length cn0, .slice ap0 ps[j].parts.length cp0, .slice ar0 ps[j].rules.length cr0] _ (HLE.out _ (List.getElem_mem hlt)) (latRd.below (HWB.out.drew) _ _ HLP.out) (HPW.out _ (List.getElem_mem hlt))).mono ?_
               rintro e w1 ⟨cs1, rfl, hv1, hb1⟩
               have HX1 := hid hv1
               obtain ⟨bn, bcn, bp, bcp, be, bce, rfl, _, hsn, hsp, hse, _⟩ := valRd.lay hv1
               have HB1 : Hid (Below wr.heap.size wr w1) := hid ((Below.refl _ _).drew.trans hb1)
               have HR1 : Hid (Rws w1 (w.heap.size + 3) 30 4 valRd (.slice ao j co) ((ps.map botV).take j) css) := hid (HRA.out.keep valRd_mono' fun b hb hl => HB1.out.block b hl)
               have HK1 : Hid (w1.heap[w.heap.size + 1 + 1]? = some (.cells #[.int .i64 0, .slice none 0 0, .slice ao j co, .slice none 0 0] 30 (0, 0))) := hid ((HB1.out.block _ HWLT.out).trans HKA.out)
               have hk3 : w1.cell? ⟨w.heap.size + 1 + 1, 2, none⟩ = some (.slice ao j co) := by rw [cell_at_block HK1.out]; rfl
               have hk3a : ∀ O, (w1.alloc O).cell? ⟨w.heap.size + 1 + 1, 2, none⟩ = some (.slice ao j co) := fun O => cell_alloc hk3 O
               have HOW : Hid (∀ O, (w1.alloc O).ownsRow (w.heap.size + 3) 30 4 (.slice ao j co) j css.flatten) := hid fun O => by have := HR1.out.own; rw [HLEN.out] at this; exact this.alloc O
               have HMX : Hid (j + 1 ≤ maxLen ∧ (j + 1) * 80 ≤ 140737488355328) := hid (by have := HP8.out; have := HJ.out; unfold maxLen; omega)
               have HBS : Hid (∀ O, w.heap.size + 3 ≤ (w1.alloc O).heap.size) := hid fun O => by have := HB1.out.size; have := HWLT.out; simp; omega
               have HSW : Hid (w.heap.size + 1 + 1 < w1.heap.size) := hid (block_lt HK1.out)
               have HNE : Hid (some (w.heap.size + 1 + 1) ≠ (Value.slice ao j co).ownBlock) := hid fun e => by have := (HOW.out (.cells #[] 0 (0, 0))).lt _ e.symm; omega
               clear hv1 hb1 hsn hsp hse))
         all_goals
          have HKF : Hid (∀ u, (w2.setCell ⟨w.heap.size + 1 + 1, 2, none⟩ u).heap[w.heap.size + 1 + 1]? = some (.cells #[.int .i64 0, .slice none 0 0, u, .slice none 0 0] 30 (0, 0))) := hid fun u => block_set HK2.out u
          have HKG : Hid (∀ u, (w2.setCell ⟨w.heap.size + 1 + 1, 2, none⟩ u).heap[w.heap.size + 1]? = some (.cells #[.int .i64 0, .slice none 0 0, .slice none 0 0, .slice none 0 0] 30 (0, 0))) := hid fun u => by
            rw [Below.heap_setCell _ _ _ _ (by simp), HAD.out.grown.block _ (by have := HSW.out; simp; omega) (fun e => by have := (HOW.out (.cells #[] 0 (0, 0))).lt _ e.symm; omega)]
            exact block_alloc ((HB1.out.block _ (by have := HWLT.out; omega)).trans HKR.out) _
          have HKB : Hid (∀ u, (w2.setCell ⟨w.heap.size + 1 + 1, 2, none⟩ u).cell? ⟨w.heap.size, 4, none⟩ = some (.slice (some ⟨b, o, none⟩) ps.length cp)) := hid fun u => by
            have q1 : (w2.setCell ⟨w.heap.size + 1 + 1, 2, none⟩ u).heap[w.heap.size]? = w2.heap[w.heap.size]? := Below.heap_setCell _ _ _ _ (by show w.heap.size ≠ w.heap.size + 1 + 1; omega)
            have q2 := HAD.out.grown.block w.heap.size (by have := HSW.out; simp; omega) (fun e => by have := (HOW.out (.cells #[] 0 (0, 0))).lt _ e.symm; omega)
            refine (World.cell?_of_block (a := ⟨w.heap.size, 4, none⟩) (q1.trans q2)).trans ?_
            exact cell_alloc ((HB1.out.cell (by have := HWLT.out; show w.heap.size < _; omega)).trans HKL.out.1) _
          have HKS : Hid (∀ u, w.heap.size < (w2.setCell ⟨w.heap.size + 1 + 1, 2, none⟩ u).heap.size) := hid fun u => by have := block_lt HK2.out; simp; omega
          have HBF : Hid (∀ u, Below w.heap.size w (w2.setCell ⟨w.heap.size + 1 + 1, 2, none⟩ u)) := hid fun u =>
           (((HWB.out.trans (HB1.out.mono HWB.out.size)).alloc (by have := HSW.out; omega) _).grown HAD.out.grown (by have := HSW.out; simp; omega) (fun g hg => by have := (HOW.out (.cells #[] 0 (0, 0))).lt g hg; omega)).setCell (by simp; omega) u
          have HRF : Hid (∀ u, Rws (w2.setCell ⟨w.heap.size + 1 + 1, 2, none⟩ u) (w.heap.size + 3) 30 4 valRd (.slice na (j + 1) nc) ((ps.map botV).take (j + 1)) (css ++ [[.int .i64 (botV ps[j]).n, .slice bn (botV ps[j]).names.length bcn, .slice bp (botV ps[j]).parts.length bcp, .slice be (botV ps[j]).entries.length bce]])) := hid fun u => by
            have hp := (HR1.out.keep valRd_mono' (w' := w1.alloc (.cells #[.int .i64 (botV ps[j]).n, .slice bn (botV ps[j]).names.length bcn, .slice bp (botV ps[j]).parts.length bcp, .slice be (botV ps[j]).entries.length bce] 30)) (fun b _ hl => Below.heap_alloc _ _ _ hl)).push valRd_mono' (x := botV ps[j]) (cs := [.int .i64 (botV ps[j]).n, .slice bn (botV ps[j]).names.length bcn, .slice bp (botV ps[j]).parts.length bcp, .slice be (botV ps[j]).entries.length bce]) HAD.out (by rw [HLEN.out]) rfl rfl
              (valRd_mono' (only_keep fun b hb hl => ⟨by
                unfold from_ at hb
                unfold butOwn
                have hb' := of_decide_eq_true hb
                simp only [Bool.and_eq_true, decide_eq_true_eq]
                refine ⟨by have := HWLT.out; have : wr.drew.heap.size = wr.heap.size := rfl; omega, fun e => ?_⟩
                have := (HRA.out.own).lt b e
                have : wr.drew.heap.size = wr.heap.size := rfl
                omega, Below.heap_alloc _ _ _ hl⟩) HX1.out)
            rw [show (ps.map botV).take (j + 1) = (ps.map botV).take j ++ [botV ps[j]] by rw [List.take_succ_eq_append_getElem (by rw [List.length_map]; exact HJ.out.2), List.getElem_map]]
            exact hp.keep valRd_mono' fun b hb hl => Below.heap_setCell _ _ _ _ (by simp; omega)
          go_wp2_with fail
          go_roundw
          case rel => exact ⟨j + 1, _, _, HJ.out.2, by go_num, HKF.out _, HKG.out _, hid ⟨HKB.out _, HKS.out _⟩, hid (HBF.out _), hid (HRF.out _)⟩
          case measure => simp [intOf]; omega
       · have hjj : j = ps.length := by omega
         subst hjj
         have HRS := hid (HRW.out.reads valRd_mono')
         rw [List.take_of_length_le (by rw [List.length_map]; exact Nat.le_refl _)] at HRS
         obtain ⟨ao, co, rfl⟩ := owns_shape HRW.out.own
         have hl4 := HKL.out.1
         have hk2 : ∀ i, wr.cell? ⟨w.heap.size + 1 + 1, i, none⟩ = #[.int .i64 0, .slice none 0 0, .slice ao ((ps.map botV).take ps.length).length co, .slice none 0 0][i]? := fun i => cell_at_block hKv
         have hk3 : ∀ i, wr.cell? ⟨w.heap.size + 1, i, none⟩ = #[.int .i64 0, .slice none 0 0, .slice none 0 0, .slice none 0 0][i]? := fun i => cell_at_block HKR.out
         have hk4 : ∀ i, wr.frozen? ⟨w.heap.size + 1, i, none⟩ = false := fun i => free_at_block HKR.out
         clear hKv
         have HBS : Hid (∀ u, Below w.heap.size w (wr.setCell ⟨w.heap.size + 1, 0, none⟩ u)) := hid fun u => HW.out.setCell (by simp) u
         go_wp2_with fail
         refine bodyPost_ret (v := .agg #[.int .i64 0, .slice none 0 0, .slice ao ((ps.map botV).take ps.length).length co, .slice none 0 0]) ?_ rfl ⟨[_, _, _, _], rfl, ?_, ?_⟩
         · simp [results, Tryz.results62, go_sem, hk3, hk2, hk4]
         · rw [HR.out]
           have hs : ∀ (a b c d : Value), Sub (only (from_ (w.heap.size + 3)) wr) (only (from_ w.heap.size) ((((wr.setCell ⟨w.heap.size + 1, 0, none⟩ a).setCell ⟨w.heap.size + 1, 1, none⟩ b).setCell ⟨w.heap.size + 1, 2, none⟩ c).setCell ⟨w.heap.size + 1, 3, none⟩ d)) := fun a b c d => only_keep fun g hg _ => by
             have hg' := of_decide_eq_true hg
             refine ⟨decide_eq_true (by omega), ?_⟩
             rw [Below.heap_setCell _ _ _ _ (by simp; omega), Below.heap_setCell _ _ _ _ (by simp; omega), Below.heap_setCell _ _ _ _ (by simp; omega), Below.heap_setCell _ _ _ _ (by simp; omega)]
           exact valRd_parts _ (SlRd.mono HRS.out (hs _ _ _ _) fun _ _ _ h => valRd_mono' (hs _ _ _ _) h)
         · exact (((HW.out.setCell (by simp) _).setCell (by simp) _).setCell (by simp) _).setCell (by simp) _
   · have HR : Hid (R = zeroV) := hid (by rw [HB.out, if_neg h2, if_neg h3, if_neg h67])
     have e6 : (k == 6) = false := by simp; omega
     have e7 : (k == 7) = false := by simp; omega
     clear h2 h3 h67
     go_enter Tryz.func62, Tryz.ntmps62
     go_wp2_with fail
     refine bodyPost_ret (v := .agg #[.int .i64 0, .slice none 0 0, .slice none 0 0, .slice none 0 0]) (by simp [results, Tryz.results62, go_sem]) rfl ⟨[_, _, _, _], rfl, by rw [HR.out]; exact valRd_flat _ _ i64_0, by repeat (first | exact Below.refl _ _ | refine Below.setCell ?_ (by simp) _ | refine Below.alloc ?_ (by simp <;> omega) _ | refine Below.drew ?_)⟩

theorem relem_1 (lo hi' : Int) (sn sp sr : Value) (vn : Int) (a b c : Nat) (bn bp be : Option Addr) (bcn bcp bce : Nat) (w : World) (R : Bool)
 (HE : Hid (R = true ↔ c = 0 ∧ (vn = 0 ∨ vn = 1) ∧ a = 0 ∧ b = 0)) :
 Calls Tryz.prog 38 #[.agg #[.int .i64 1, .int .i64 lo, .int .i64 hi', sn, sp, sr], .agg #[.int .i64 vn, .slice bn a bcn, .slice bp b bcp, .slice be c bce]] w fun e w' => e = .returned (.bool R) ∧ Below w.heap.size w w' := by
 obtain ⟨W2, hW, HB, HBl, HBv⟩ := two_box w #[.int .i64 1, .int .i64 lo, .int .i64 hi', sn, sp, sr] #[.int .i64 vn, .slice bn a bcn, .slice bp b bcp, .slice be c bce] 26 30
 go_enter Tryz.func38, Tryz.ntmps38
 go_upto_region 1 with fail
 rw [hW.out]
 clear hW
 obtain ⟨x0, hx⟩ := ext_self W2
 rw [hx]
 clear hx
 obtain ⟨l0, l1, l2, l3, l4, l5⟩ := bx6 fun x : Ext W2 => HBl.out.ext x
 obtain ⟨v0, v1, v2, v3⟩ := bx4 fun x : Ext W2 => HBv.out.ext x
 go_wp2_with fail
 all_goals
  go_ret
  refine ⟨ret_bool ?_, HB.out _⟩
  rw [Bool.eq_iff_iff, HE.out]
  clear HB HE
  simp only [bne_iff_ne, ne_eq, bne_eq_false_iff_eq, beq_iff_eq, decide_eq_true_eq, Decidable.not_not, Bool.false_eq_true, true_iff, false_iff, Bool.true_eq_false, and_true, and_false, true_and, false_and, iff_true, iff_false, or_false] at * <;> omega
theorem relem_23 (k : Int) (hk : k = 2 ∨ k = 3) (lo hi' : Int) (sn sp sr : Value) (vn : Int) (a b c : Nat) (bn bp be : Option Addr) (bcn bcp bce : Nat) (w : World) (R : Bool)
 (HE : Hid (R = true ↔ c = 0 ∧ (lo ≤ vn ∧ vn ≤ hi') ∧ a = 0 ∧ b = 0)) :
 Calls Tryz.prog 38 #[.agg #[.int .i64 k, .int .i64 lo, .int .i64 hi', sn, sp, sr], .agg #[.int .i64 vn, .slice bn a bcn, .slice bp b bcp, .slice be c bce]] w fun e w' => e = .returned (.bool R) ∧ Below w.heap.size w w' := by
 obtain ⟨W2, hW, HB, HBl, HBv⟩ := two_box w #[.int .i64 k, .int .i64 lo, .int .i64 hi', sn, sp, sr] #[.int .i64 vn, .slice bn a bcn, .slice bp b bcp, .slice be c bce] 26 30
 go_enter Tryz.func38, Tryz.ntmps38
 go_upto_region 1 with fail
 rw [hW.out]
 clear hW
 obtain ⟨x0, hx⟩ := ext_self W2
 rw [hx]
 clear hx
 obtain ⟨l0, l1, l2, l3, l4, l5⟩ := bx6 fun x : Ext W2 => HBl.out.ext x
 obtain ⟨v0, v1, v2, v3⟩ := bx4 fun x : Ext W2 => HBv.out.ext x
 rcases hk with rfl | rfl
 all_goals
  go_wp2_with fail
  all_goals
   go_ret
   refine ⟨ret_bool ?_, HB.out _⟩
   rw [Bool.eq_iff_iff, HE.out]
   clear HB HE
   simp only [bne_iff_ne, ne_eq, bne_eq_false_iff_eq, beq_iff_eq, decide_eq_true_eq, Decidable.not_not, Bool.false_eq_true, true_iff, false_iff, Bool.true_eq_false, and_true, and_false, true_and, false_and, iff_true, iff_false, or_false] at * <;> omega
theorem relem_4 (lo hi' : Int) (sn sp sr : Value) (vn : Int) (a b c : Nat) (bn bp be : Option Addr) (bcn bcp bce : Nat) (w : World) (R : Bool) (M : Bool)
 (HM : Hid (∀ W, Below w.heap.size w W → Calls Tryz.prog 68 #[sn, .slice bn a bcn] W fun e w' => e = .returned (.bool M) ∧ Below W.heap.size W w'))
 (HE : Hid (R = true ↔ c = 0 ∧ vn = 0 ∧ b = 0 ∧ M = true)) :
 Calls Tryz.prog 38 #[.agg #[.int .i64 4, .int .i64 lo, .int .i64 hi', sn, sp, sr], .agg #[.int .i64 vn, .slice bn a bcn, .slice bp b bcp, .slice be c bce]] w fun e w' => e = .returned (.bool R) ∧ Below w.heap.size w w' := by
 obtain ⟨W2, hW, HB, HBl, HBv⟩ := two_box w #[.int .i64 4, .int .i64 lo, .int .i64 hi', sn, sp, sr] #[.int .i64 vn, .slice bn a bcn, .slice bp b bcp, .slice be c bce] 26 30
 go_enter Tryz.func38, Tryz.ntmps38
 go_upto_region 1 with fail
 rw [hW.out]
 clear hW
 obtain ⟨x0, hx⟩ := ext_self W2
 rw [hx]
 clear hx
 obtain ⟨l0, l1, l2, l3, l4, l5⟩ := bx6 fun x : Ext W2 => HBl.out.ext x
 obtain ⟨v0, v1, v2, v3⟩ := bx4 fun x : Ext W2 => HBv.out.ext x
 replace HM := hid (ext_of HB.out HM.out)
 cases M
 all_goals
  go_wp2_with (first | (go_at_call 68; refine (HM.out _).mono ?_; rintro e _ ⟨rfl, y, rfl⟩))
  all_goals
   go_ret
   refine ⟨ret_bool ?_, HB.out _⟩
   rw [Bool.eq_iff_iff, HE.out]
   clear HB HE
   simp only [bne_iff_ne, ne_eq, bne_eq_false_iff_eq, beq_iff_eq, decide_eq_true_eq, Decidable.not_not, Bool.false_eq_true, true_iff, false_iff, Bool.true_eq_false, and_true, and_false, true_and, false_and, iff_true, iff_false, or_false] at * <;> omega
theorem relem_8 (lo hi' : Int) (sn sp sr : Value) (vn : Int) (a b c : Nat) (bn bp be : Option Addr) (bcn bcp bce : Nat) (w : World) (R : Bool) (M : Bool)
 (HM : Hid (∀ W, Below w.heap.size w W → Calls Tryz.prog 68 #[sn, .slice bn a bcn] W fun e w' => e = .returned (.bool M) ∧ Below W.heap.size W w'))
 (HE : Hid (R = true ↔ c = 0 ∧ b = 0 ∧ ((vn = 0 ∨ vn = 2) ∧ a = 0 ∨ vn = 1 ∧ a = 1 ∧ M = true))) :
 Calls Tryz.prog 38 #[.agg #[.int .i64 8, .int .i64 lo, .int .i64 hi', sn, sp, sr], .agg #[.int .i64 vn, .slice bn a bcn, .slice bp b bcp, .slice be c bce]] w fun e w' => e = .returned (.bool R) ∧ Below w.heap.size w w' := by
 obtain ⟨W2, hW, HB, HBl, HBv⟩ := two_box w #[.int .i64 8, .int .i64 lo, .int .i64 hi', sn, sp, sr] #[.int .i64 vn, .slice bn a bcn, .slice bp b bcp, .slice be c bce] 26 30
 go_enter Tryz.func38, Tryz.ntmps38
 go_upto_region 1 with fail
 rw [hW.out]
 clear hW
 obtain ⟨x0, hx⟩ := ext_self W2
 rw [hx]
 clear hx
 obtain ⟨l0, l1, l2, l3, l4, l5⟩ := bx6 fun x : Ext W2 => HBl.out.ext x
 obtain ⟨v0, v1, v2, v3⟩ := bx4 fun x : Ext W2 => HBv.out.ext x
 replace HM := hid (ext_of HB.out HM.out)
 cases M
 all_goals
  go_wp2_with (first | (go_at_call 68; refine (HM.out _).mono ?_; rintro e _ ⟨rfl, y, rfl⟩))
  all_goals
   go_ret
   refine ⟨ret_bool ?_, HB.out _⟩
   rw [Bool.eq_iff_iff, HE.out]
   clear HB HE
   simp only [bne_iff_ne, ne_eq, bne_eq_false_iff_eq, beq_iff_eq, decide_eq_true_eq, Decidable.not_not, Bool.false_eq_true, true_iff, false_iff, Bool.true_eq_false, and_true, and_false, true_and, false_and, iff_true, iff_false, or_false] at * <;> omega
theorem relem_9 (lo hi' : Int) (sn sp sr : Value) (vn : Int) (a b c : Nat) (bn bp be : Option Addr) (bcn bcp bce : Nat) (w : World) (R : Bool) (E : Bool)
 (HEN : Hid (∀ W, Below w.heap.size w W → Calls Tryz.prog 69 #[.slice be c bce] W fun e w' => e = .returned (.bool E) ∧ Below W.heap.size W w'))
 (HE : Hid (R = true ↔ vn = 0 ∧ a = 0 ∧ b = 0 ∧ E = true)) :
 Calls Tryz.prog 38 #[.agg #[.int .i64 9, .int .i64 lo, .int .i64 hi', sn, sp, sr], .agg #[.int .i64 vn, .slice bn a bcn, .slice bp b bcp, .slice be c bce]] w fun e w' => e = .returned (.bool R) ∧ Below w.heap.size w w' := by
 obtain ⟨W2, hW, HB, HBl, HBv⟩ := two_box w #[.int .i64 9, .int .i64 lo, .int .i64 hi', sn, sp, sr] #[.int .i64 vn, .slice bn a bcn, .slice bp b bcp, .slice be c bce] 26 30
 go_enter Tryz.func38, Tryz.ntmps38
 go_upto_region 1 with fail
 rw [hW.out]
 clear hW
 obtain ⟨x0, hx⟩ := ext_self W2
 rw [hx]
 clear hx
 obtain ⟨l0, l1, l2, l3, l4, l5⟩ := bx6 fun x : Ext W2 => HBl.out.ext x
 obtain ⟨v0, v1, v2, v3⟩ := bx4 fun x : Ext W2 => HBv.out.ext x
 replace HEN := hid (ext_of HB.out HEN.out)
 cases E
 all_goals
  go_wp2_with (first | (go_at_call 69; refine (HEN.out _).mono ?_; rintro e _ ⟨rfl, y, rfl⟩))
  all_goals
   go_ret
   refine ⟨ret_bool ?_, HB.out _⟩
   rw [Bool.eq_iff_iff, HE.out]
   clear HB HE
   simp only [bne_iff_ne, ne_eq, bne_eq_false_iff_eq, beq_iff_eq, decide_eq_true_eq, Decidable.not_not, Bool.false_eq_true, true_iff, false_iff, Bool.true_eq_false, and_true, and_false, true_and, false_and, iff_true, iff_false, or_false] at * <;> omega
theorem relem_10 (lo hi' : Int) (sn sp sr : Value) (vn : Int) (a b c : Nat) (bn bp be : Option Addr) (bcn bcp bce : Nat) (w : World) (R : Bool) (M : Bool)
 (HM : Hid (∀ W, Below w.heap.size w W → Calls Tryz.prog 68 #[sn, .slice bn a bcn] W fun e w' => e = .returned (.bool M) ∧ Below W.heap.size W w')) (C : Bool)
 (HCL : Hid (∀ W, Below w.heap.size w W → Calls Tryz.prog 70 #[sr, .slice bn a bcn] W fun e w' => e = .returned (.bool C) ∧ Below W.heap.size W w'))
 (HE : Hid (R = true ↔ c = 0 ∧ vn = 0 ∧ b = 0 ∧ M = true ∧ C = true)) :
 Calls Tryz.prog 38 #[.agg #[.int .i64 10, .int .i64 lo, .int .i64 hi', sn, sp, sr], .agg #[.int .i64 vn, .slice bn a bcn, .slice bp b bcp, .slice be c bce]] w fun e w' => e = .returned (.bool R) ∧ Below w.heap.size w w' := by
 obtain ⟨W2, hW, HB, HBl, HBv⟩ := two_box w #[.int .i64 10, .int .i64 lo, .int .i64 hi', sn, sp, sr] #[.int .i64 vn, .slice bn a bcn, .slice bp b bcp, .slice be c bce] 26 30
 go_enter Tryz.func38, Tryz.ntmps38
 go_upto_region 1 with fail
 rw [hW.out]
 clear hW
 obtain ⟨x0, hx⟩ := ext_self W2
 rw [hx]
 clear hx
 obtain ⟨l0, l1, l2, l3, l4, l5⟩ := bx6 fun x : Ext W2 => HBl.out.ext x
 obtain ⟨v0, v1, v2, v3⟩ := bx4 fun x : Ext W2 => HBv.out.ext x
 replace HM := hid (ext_of HB.out HM.out)
 replace HCL := hid (ext_of HB.out HCL.out)
 cases M <;> cases C
 all_goals
  go_wp2_with (first | (go_at_call 68; refine (HM.out _).mono ?_; rintro e _ ⟨rfl, y, rfl⟩) | (go_at_call 70; refine (HCL.out _).mono ?_; rintro e _ ⟨rfl, y, rfl⟩))
  all_goals
   go_ret
   refine ⟨ret_bool ?_, HB.out _⟩
   rw [Bool.eq_iff_iff, HE.out]
   clear HB HE
   simp only [bne_iff_ne, ne_eq, bne_eq_false_iff_eq, beq_iff_eq, decide_eq_true_eq, Decidable.not_not, Bool.false_eq_true, true_iff, false_iff, Bool.true_eq_false, and_true, and_false, true_and, false_and, iff_true, iff_false, or_false] at * <;> omega
end Go.Proofs.YtmdjnaobllajmaaGreatDoor
