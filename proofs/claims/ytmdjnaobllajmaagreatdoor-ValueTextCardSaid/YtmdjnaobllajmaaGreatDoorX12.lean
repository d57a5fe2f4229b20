/-
  What the statements of the chapter share, part 12: VWr2, VElem2, VElem3, VElem4, VWri0, VWri1, VWri2.
-/
import Derived.Test.YtmdjnaobllajmaaGreatDoorX01
import Derived.Test.YtmdjnaobllajmaaGreatDoorX08
import Derived.Test.YtmdjnaobllajmaaGreatDoorX09
import Derived.Test.YtmdjnaobllajmaaGreatDoorX11
import Derived.Laws.BitsAllLaws
import Derived.Lib.Zigzag
set_option linter.unusedVariables false
set_option linter.unusedSimpArgs false
set_option maxRecDepth 100000
set_option maxHeartbeats 8000000
namespace Go.Proofs.YtmdjnaobllajmaaGreatDoor
open Go.RowKit
theorem zz_pos (n : Int) (h0 : 0 ≤ n) (h2 : n ≤ 9223372036854775807) : bits .xor .u64 (n * 2) (n / 9223372036854775808) = ((zz n : Nat) : Int) := by
 have e : n / 9223372036854775808 = 0 := by omega
 rw [e, u64_xor (n * 2) 0 (by omega) (by omega) (by omega) (by omega)]
 unfold zz
 rw [if_pos h0]
 simp
 omega
theorem xor_ones (b : Nat) (hb : b < 2 ^ 64) : b ^^^ (2 ^ 64 - 1) = 2 ^ 64 - 1 - b := by rw [Nat.xor_comm]; exact Lib.xor_ones64 b hb
theorem zz_neg (n : Int) (h1 : -9223372036854775808 ≤ n) (h0 : ¬ 0 ≤ n) : bits .xor .u64 (IntKind.u64.wrap (IntKind.u64.wrap n * 2)) (IntKind.u64.wrap (n / 9223372036854775808)) = ((zz n : Nat) : Int) := by
 have e0 : IntKind.u64.wrap n = n + 18446744073709551616 := by rw [IntKind.wrap_u64]; omega
 have e1 : IntKind.u64.wrap (IntKind.u64.wrap n * 2) = 2 * n + 18446744073709551616 := by rw [e0, IntKind.wrap_u64]; omega
 have e2 : IntKind.u64.wrap (n / 9223372036854775808) = 18446744073709551615 := by
  have : n / 9223372036854775808 = -1 := by omega
  rw [this, IntKind.wrap_u64]; rfl
 rw [e1, e2, u64_xor _ _ (by omega) (by omega) (by omega) (by omega)]
 have e3 : (18446744073709551615 : Int).toNat = 2 ^ 64 - 1 := rfl
 rw [e3, xor_ones _ (by omega)]
 unfold zz
 rw [if_neg h0]
 omega
theorem wInt_any (B : Nat) (v : Value) (bs : List UInt8) (n : Int) (w : World) (h : WrAt w B v bs) (hn : I64 n) (hl : bs.length ≤ 100000000) :
 Calls Tryz.prog 81 #[.pointer (some ⟨B, 0, none⟩), .int .i64 n] w fun e w' => e = .returned (.tuple #[]) ∧ WrPost B v w (bs ++ intE n) w' := by
 obtain ⟨h1, h2⟩ := hn
 have HU := hid (wUint_any B v bs (zz n) w h (zz_lt n h1 h2) hl)
 clear h hl
 by_cases h0 : 0 ≤ n
 · have HZ := hid (zz_pos n h0 h2)
   go_enter Tryz.func81, Tryz.ntmps81
   go_wp2_with fail
   rw [HZ.out]
   refine HU.out.mono ?_
   rintro e w1 ⟨rfl, hp⟩
   have HP := hid hp
   clear hp
   go_wp2_with fail
   go_end0
   exact ⟨rfl, HP.out⟩
 · have HZ := hid (zz_neg n h1 h0)
   go_enter Tryz.func81, Tryz.ntmps81
   go_wp2_with fail
   rw [HZ.out]
   refine HU.out.mono ?_
   rintro e w1 ⟨rfl, hp⟩
   have HP := hid hp
   clear hp
   go_wp2_with fail
   go_end0
   exact ⟨rfl, HP.out⟩
theorem Src.of_own {w : World} {base E sz : Nat} {v : Value} {n : Nat} {xs : List Value} (h : w.ownsRow base E sz v n xs) (h1 : ∀ q ∈ xs, q.oneCell' = true) : Src w sz v n xs := by
 rcases h.2 with ⟨rfl, hn⟩ | ⟨g, cap, cur, rfl, hb, hg, hn, hcap, hsz, htake⟩
 · subst hn
   exact ⟨none, 0, rfl, h.1, fun _ => ⟨rfl, rfl⟩, by simp, h1⟩
 · exact ⟨_, cap, rfl, h.1, by simp, fun ad had j q hq => by cases had; exact h.cells (g := g) rfl j q hq, h1⟩
theorem u8v_one (l : List UInt8) : ∀ q ∈ l.map u8v, q.oneCell' = true := by
 intro q hq
 obtain ⟨c, _, rfl⟩ := List.mem_map.1 hq
 rfl
theorem wData_any (B : Nat) (v : Value) (bs : List UInt8) (w : World) (h : WrAt w B v bs) (hl : bs.length ≤ 200000000) :
 Calls Tryz.prog 51 #[.pointer (some ⟨B, 0, none⟩)] w fun e w' => ∃ r, e = .returned r ∧ w'.ownsRow w.heap.size 5 1 r bs.length (bs.map u8v) ∧ Below w.heap.size w w' := by
 obtain ⟨i0, hi0, hz0, hz1, hz2⟩ := info_parts infoByte
 have hcell := h.cell
 have hca := fun O => cell_alloc hcell O
 obtain ⟨av, cv, rfl⟩ := owns_shape h.own
 have HSRC : Hid (∀ O, Src (w.alloc O) 1 (.slice av bs.length cv) bs.length (bs.map u8v)) := hid fun O => Src.of_own (h.own.alloc O) (u8v_one bs)
 have HL := hid hl
 clear h hl
 show Calls _ _ _ _ fun e w' => Hid (∃ r, e = .returned r ∧ w'.ownsRow w.heap.size 5 1 r bs.length (bs.map u8v) ∧ Below w.heap.size w w')
 go_enter Tryz.func51, Tryz.ntmps51
 go_wp2_with (at_builtin; refine wpList_append rfl (.tmp 3) (.tmp 7) 46 rfl w.heap.size 5 1 1 Tryz.underlying46 hi0 hz0 hz1 hz2 rfl (by decide) (.slice (some ⟨w.heap.size, 0, none⟩) 0 0) 0 [] rfl (owns_made #[] 0 (heap_alloc_new w _) (Nat.le_refl _) rfl (by decide)) (.slice av bs.length cv) bs.length (bs.map u8v) rfl (HSRC.out _) bs.length (Nat.zero_add _) (bs.map u8v) rfl (by have := HL.out; unfold maxLen; omega) (by have := HL.out; omega) (by simp) ?_; intro na nc w2 had; have HAD := hid had; clear had)
 go_ret
 exact hid ⟨_, rfl, HAD.out.own, ((Below.refl _ _).alloc (Nat.le_refl _) _).grown HAD.out.grown (by simp) (fun g hg => by simp [Value.ownBlock] at hg; omega)⟩
theorem elem_67 (k : Int) (hk : k = 6 ∨ k = 7) (lo hi' : Int) (ns : List ByteArray) (ps : List Lat) (rs : List Rl) (an ap ar : Option Addr) (cn cp cr : Nat) (vn : Int) (vns : List ByteArray) (vps : List Val) (ves : List En) (bn bp be : Option Addr) (bcn bcp bce : Nat) (w : World)
 (HL : Hid (latRd w (.mk k lo hi' ns ps rs) [.int .i64 k, .int .i64 lo, .int .i64 hi', .slice an ns.length cn, .slice ap ps.length cp, .slice ar rs.length cr])) (HV : Hid (valRd w (.mk vn vns vps ves) [.int .i64 vn, .slice bn vns.length bcn, .slice bp vps.length bcp, .slice be ves.length bce]))
 (HWF : Hid (WfL (.mk k lo hi' ns ps rs))) (HIH : Hid (∀ p ∈ ps, ∀ (v : Val) (cl cv : List Value) (W : World), latRd W p cl → valRd W v cv → Calls Tryz.prog 37 #[.agg cl.toArray, .agg cv.toArray] W fun e w' => e = .returned (.bool (elemB p v)) ∧ Below W.heap.size W w')) :
 Calls Tryz.prog 37 #[.agg #[.int .i64 k, .int .i64 lo, .int .i64 hi', .slice an ns.length cn, .slice ap ps.length cp, .slice ar rs.length cr], .agg #[.int .i64 vn, .slice bn vns.length bcn, .slice bp vps.length bcp, .slice be ves.length bce]] w fun e w' => e = .returned (.bool (elemB (.mk k lo hi' ns ps rs) (.mk vn vns vps ves))) ∧ Below w.heap.size w w' := by
 have HE : Hid (elemB (.mk k lo hi' ns ps rs) (.mk vn vns vps ves) = (usedB (.mk vn vns vps ves) false false true false && decide (vps.length = ps.length) && elemsB ps vps)) := hid (by rw [elemB_eq]; rcases hk with rfl | rfl <;> rfl)
 generalize elemB (.mk k lo hi' ns ps rs) (.mk vn vns vps ves) = R at HE ⊢
 obtain ⟨W2, hW, HB, HBl, HBv⟩ := two_box w #[.int .i64 k, .int .i64 lo, .int .i64 hi', .slice an ns.length cn, .slice ap ps.length cp, .slice ar rs.length cr] #[.int .i64 vn, .slice bn vns.length bcn, .slice bp vps.length bcp, .slice be ves.length bce] 26 30
 have HVP : Hid (SlRd w 4 (valRd w) (.slice bp vps.length bcp) vps) := hid (by obtain ⟨_, _, _, gg, _, _, g4, _⟩ := (valRd_iff _ _ _).1 HV.out; cases gg; exact g4)
 have HLPS : Hid (SlRd w 6 (latRd w) (.slice ap ps.length cp) ps) := hid (by obtain ⟨_, _, _, hh, _, _, h4, _⟩ := (latRd_iff _ _ _).1 HL.out; cases hh; exact h4)
 have HVM : Hid (vps.length ≤ 9223372036854775807) := hid (by obtain ⟨_, _, _, _, h⟩ := HVP.out.shape; exact h)
 rcases hk with rfl | rfl
 all_goals
  go_enter Tryz.func37, Tryz.ntmps37
  go_wp2_with fail
  rw [hW.out]
  clear hW
  obtain ⟨x0, hx⟩ := ext_self W2
  rw [hx]
  clear hx
  obtain ⟨l0, -, -, -, l4⟩ := bx5 fun x : Ext W2 => HBl.out.ext x
  obtain ⟨v0, v1, v2, v3⟩ := bx4 fun x : Ext W2 => HBv.out.ext x
  have HCU := used_hid HB HV
  cases hu : usedB (.mk vn vns vps ves) false false true false
  · have HCU2 : Hid (∀ x : Ext W2, Calls Tryz.prog 64 #[.agg #[.int .i64 vn, .slice bn vns.length bcn, .slice bp vps.length bcp, .slice be ves.length bce], .bool false, .bool false, .bool true, .bool false] x.1 fun e w' => e = .returned (.bool false) ∧ ∃ y : Ext W2, w' = y.1) := hid fun x => by have := HCU.out false false true false x; rw [hu] at this; exact this
    have HF : Hid (R = false) := hid (by rw [HE.out, hu]; rfl)
    clear hu
    go_wp2_with (go_at_call 64; refine (HCU2.out _).mono ?_; rintro e w1 ⟨rfl, y, rfl⟩)
    go_ret
    exact ⟨ret_bool HF.out.symm, HB.out _⟩
  have HCU2 : Hid (∀ x : Ext W2, Calls Tryz.prog 64 #[.agg #[.int .i64 vn, .slice bn vns.length bcn, .slice bp vps.length bcp, .slice be ves.length bce], .bool false, .bool false, .bool true, .bool false] x.1 fun e w' => e = .returned (.bool true) ∧ ∃ y : Ext W2, w' = y.1) := hid fun x => by have := HCU.out false false true false x; rw [hu] at this; exact this
  by_cases hlen : vps.length = ps.length
  · have HD : Hid (R = elemsB (ps.drop 0) (vps.drop 0)) := hid (by rw [HE.out, hu, decide_eq_true hlen]; rfl)
    have HLEN := hid hlen
    have hlb : ((vps.length : Int) != (ps.length : Int)) = false := by simp [hlen]
    have hvm := HVM.out
    clear hu hlen
    go_wp2_with (go_at_call 64; refine (HCU2.out _).mono ?_; rintro e w1 ⟨rfl, y, rfl⟩)
    clear v0 v1 v2 v3 l0
    go_loopw [7, 8, 169] (fun _ _ i wr => ∃ (j : Nat) (x : Ext W2), j ≤ vps.length ∧ i = .int .i64 j ∧ wr = x.1 ∧ Hid (R = elemsB (ps.drop j) (vps.drop j))) (fun _ _ i _ => vps.length - (intOf i).toNat)
    case atStart => exact ⟨0, _, Nat.zero_le _, rfl, rfl, HD⟩
    case round =>
     obtain ⟨j, x, hj, rfl, rfl, He⟩ := hrel
     by_cases hlt : j < vps.length
     · have hil : j < ps.length := by have := HLEN.out; omega
       have HDJ : Hid (R = (elemB ps[j] vps[j] && elemsB (ps.drop (j + 1)) (vps.drop (j + 1)))) := hid (by rw [He.out, drop_consS ps j hil, drop_consS vps j hlt, elemsB])
       obtain ⟨pb, po, pcs, hpb, _, pcell, prd⟩ := (HVP.out).at j hlt
       subst hpb
       have HPR := hid prd
       obtain ⟨en, ecn, ep, ecp, ee, ece, rfl, _, pn, pp, pe, _⟩ := valRd.lay prd
       have r0 : x.1.cell? ⟨pb, po + j * 4, none⟩ = some (.int .i64 vps[j].n) := (pcell.below (HB.out x)) 0 (by simp)
       have r1 : x.1.cell? ⟨pb, po + j * 4 + 1, none⟩ = some (.slice en vps[j].names.length ecn) := (pcell.below (HB.out x)) 1 (by simp)
       have r2 : x.1.cell? ⟨pb, po + j * 4 + 2, none⟩ = some (.slice ep vps[j].parts.length ecp) := (pcell.below (HB.out x)) 2 (by simp)
       have r3 : x.1.cell? ⟨pb, po + j * 4 + 3, none⟩ = some (.slice ee vps[j].entries.length ece) := (pcell.below (HB.out x)) 3 (by simp)
       clear prd pn pp pe pcell
       obtain ⟨lb, lo2, lcs, hlb, _, lcell, lrd⟩ := (HLPS.out).at j hil
       subst hlb
       have HLR := hid lrd
       obtain ⟨dn, dcn, dp, dcp, dr, dcr, rfl, _, ln, lp, lr, _⟩ := latRd.lay lrd
       have HLC : Hid (∀ z : World, Below w.heap.size w z → z.cell? ⟨lb, lo2 + j * 6, none⟩ = some (.int .i64 ps[j].kind) ∧ z.cell? ⟨lb, lo2 + j * 6 + 1, none⟩ = some (.int .i64 ps[j].lo) ∧ z.cell? ⟨lb, lo2 + j * 6 + 2, none⟩ = some (.int .i64 ps[j].hi) ∧ z.cell? ⟨lb, lo2 + j * 6 + 3, none⟩ = some (.slice dn ps[j].names.length dcn) ∧ z.cell? ⟨lb, lo2 + j * 6 + 4, none⟩ = some (.slice dp ps[j].parts.length dcp) ∧ z.cell? ⟨lb, lo2 + j * 6 + 5, none⟩ = some (.slice dr ps[j].rules.length dcr)) := hid fun z hz => by have := (lcell.below hz).six; simpa using this
       clear lrd ln lp lr lcell
       have hji : (j : Int) < (ps.length : Int) := by omega
       have hj0 : (0 : Int) ≤ (j : Int) := by omega
       go_wp2_with fail
       have HBB : Hid (∀ y : Ext (x.1.alloc (.cells #[.int .i64 vps[j].n, .slice en vps[j].names.length ecn, .slice ep vps[j].parts.length ecp, .slice ee vps[j].entries.length ece] 30)), Below w.heap.size w y.1) := hid fun y => ((HB.out x).alloc (HB.out x).size _).trans (y.2.mono (by have := (HB.out x).size; simp; omega))
       have HPB : Hid (∀ y : Ext (x.1.alloc (.cells #[.int .i64 vps[j].n, .slice en vps[j].names.length ecn, .slice ep vps[j].parts.length ecp, .slice ee vps[j].entries.length ece] 30)), ∀ (i : Nat) v, #[.int .i64 vps[j].n, .slice en vps[j].names.length ecn, .slice ep vps[j].parts.length ecp, .slice ee vps[j].entries.length ece][i]? = some v → y.1.cell? ⟨x.1.heap.size, i, none⟩ = some v) := hid fun y i v hv => y.cell (by rw [World.cell?_alloc_at _ _ _ _ rfl]; exact hv)
       have HUP : Hid (∀ y : Ext (x.1.alloc (.cells #[.int .i64 vps[j].n, .slice en vps[j].names.length ecn, .slice ep vps[j].parts.length ecp, .slice ee vps[j].entries.length ece] 30)), ∃ x' : Ext W2, y.1 = x'.1) := hid fun y => ⟨⟨y.1, (x.2.alloc x.2.size _).trans (y.2.mono (by have := x.2.size; simp; omega))⟩, rfl⟩
       generalize x.1.heap.size = NB at HPB ⊢
       generalize x.1.alloc (.cells #[.int .i64 vps[j].n, .slice en vps[j].names.length ecn, .slice ep vps[j].parts.length ecp, .slice ee vps[j].entries.length ece] 30) = WB at HBB HPB HUP ⊢
       have l4b : ∀ y : Ext WB, y.1.cell? ⟨w.heap.size, 4, none⟩ = some (.slice (some ⟨lb, lo2, none⟩) ps.length cp) := fun y => by obtain ⟨x', h⟩ := HUP.out y; rw [h]; exact l4 x'
       obtain ⟨p0, p1, p2, p3⟩ := bx4 fun y : Ext WB => HPB.out y
       have k0 : ∀ y : Ext WB, y.1.cell? ⟨lb, lo2 + j * 6, none⟩ = some (.int .i64 ps[j].kind) := fun y => (HLC.out _ (HBB.out y)).1
       have k1 : ∀ y : Ext WB, y.1.cell? ⟨lb, lo2 + j * 6 + 1, none⟩ = some (.int .i64 ps[j].lo) := fun y => (HLC.out _ (HBB.out y)).2.1
       have k2 : ∀ y : Ext WB, y.1.cell? ⟨lb, lo2 + j * 6 + 2, none⟩ = some (.int .i64 ps[j].hi) := fun y => (HLC.out _ (HBB.out y)).2.2.1
       have k3 : ∀ y : Ext WB, y.1.cell? ⟨lb, lo2 + j * 6 + 3, none⟩ = some (.slice dn ps[j].names.length dcn) := fun y => (HLC.out _ (HBB.out y)).2.2.2.1
       have k4 : ∀ y : Ext WB, y.1.cell? ⟨lb, lo2 + j * 6 + 4, none⟩ = some (.slice dp ps[j].parts.length dcp) := fun y => (HLC.out _ (HBB.out y)).2.2.2.2.1
       have k5 : ∀ y : Ext WB, y.1.cell? ⟨lb, lo2 + j * 6 + 5, none⟩ = some (.slice dr ps[j].rules.length dcr) := fun y => (HLC.out _ (HBB.out y)).2.2.2.2.2
       have HEL : Hid (∀ y : Ext WB, Calls Tryz.prog 37 #[.agg #[.int .i64 ps[j].kind, .int .i64 ps[j].lo, .int .i64 ps[j].hi, .slice dn ps[j].names.length dcn, .slice dp ps[j].parts.length dcp, .slice dr ps[j].rules.length dcr], .agg #[.int .i64 vps[j].n, .slice en vps[j].names.length ecn, .slice ep vps[j].parts.length ecp, .slice ee vps[j].entries.length ece]] y.1 fun e w' => e = .returned (.bool (elemB ps[j] vps[j])) ∧ ∃ z : Ext WB, w' = z.1) := hid fun y => ext_call y (HIH.out _ (List.getElem_mem hil) vps[j] [.int .i64 ps[j].kind, .int .i64 ps[j].lo, .int .i64 ps[j].hi, .slice dn ps[j].names.length dcn, .slice dp ps[j].parts.length dcp, .slice dr ps[j].rules.length dcr] [.int .i64 vps[j].n, .slice en vps[j].names.length ecn, .slice ep vps[j].parts.length ecp, .slice ee vps[j].entries.length ece] _ (latRd.below (HBB.out y) _ _ HLR.out) (valRd.below (HBB.out y) _ _ HPR.out))
       cases hel : elemB ps[j] vps[j]
       · have HEL2 : Hid (∀ y : Ext WB, Calls Tryz.prog 37 #[.agg #[.int .i64 ps[j].kind, .int .i64 ps[j].lo, .int .i64 ps[j].hi, .slice dn ps[j].names.length dcn, .slice dp ps[j].parts.length dcp, .slice dr ps[j].rules.length dcr], .agg #[.int .i64 vps[j].n, .slice en vps[j].names.length ecn, .slice ep vps[j].parts.length ecp, .slice ee vps[j].entries.length ece]] y.1 fun e w' => e = .returned (.bool false) ∧ ∃ z : Ext WB, w' = z.1) := hid fun y => by have := HEL.out y; rw [hel] at this; exact this
         have HF : Hid (R = false) := hid (by rw [HDJ.out, hel]; rfl)
         clear hel
         refine wp_region_ext (by kernel_rfl) (by kernel_rfl) ?_
         repeat (go_big_quiet_step ((go_at_call 37; exact HEL2.out _)))
         refine wpQuiet_nil ?_
         rintro _ ⟨z, rfl⟩
         obtain ⟨x', hx'⟩ := HUP.out z
         rw [hx']
         clear hx' p0 p1 p2 p3 k0 k1 k2 k3 k4 k5 l4b
         go_wp2_with fail
         go_ret
         exact ⟨ret_bool HF.out.symm, HB.out _⟩
       · have HEL2 : Hid (∀ y : Ext WB, Calls Tryz.prog 37 #[.agg #[.int .i64 ps[j].kind, .int .i64 ps[j].lo, .int .i64 ps[j].hi, .slice dn ps[j].names.length dcn, .slice dp ps[j].parts.length dcp, .slice dr ps[j].rules.length dcr], .agg #[.int .i64 vps[j].n, .slice en vps[j].names.length ecn, .slice ep vps[j].parts.length ecp, .slice ee vps[j].entries.length ece]] y.1 fun e w' => e = .returned (.bool true) ∧ ∃ z : Ext WB, w' = z.1) := hid fun y => by have := HEL.out y; rw [hel] at this; exact this
         have HF : Hid (R = elemsB (ps.drop (j + 1)) (vps.drop (j + 1))) := hid (by rw [HDJ.out, hel]; rfl)
         clear hel
         refine wp_region_ext (by kernel_rfl) (by kernel_rfl) ?_
         repeat (go_big_quiet_step ((go_at_call 37; exact HEL2.out _)))
         refine wpQuiet_nil ?_
         rintro _ ⟨z, rfl⟩
         obtain ⟨x', hx'⟩ := HUP.out z
         rw [hx']
         clear hx' p0 p1 p2 p3 k0 k1 k2 k3 k4 k5 l4b
         go_wp2_with fail
         go_roundw
         case rel => exact ⟨j + 1, x', by omega, by go_num, rfl, HF⟩
         case measure => simp [intOf]; omega
     · have HF : Hid (R = true) := hid (by rw [He.out, show vps.drop j = [] from List.drop_eq_nil_of_le (by omega), show ps.drop j = [] from List.drop_eq_nil_of_le (by have := HLEN.out; omega), elemsB])
       go_wp2_with fail
       go_ret
       exact ⟨ret_bool HF.out.symm, HB.out _⟩
  · have HF : Hid (R = false) := hid (by rw [HE.out, decide_eq_false hlen, Bool.and_false, Bool.false_and])
    have hlb : ((vps.length : Int) != (ps.length : Int)) = true := by simp; omega
    clear hu hlen
    go_wp2_with (go_at_call 64; refine (HCU2.out _).mono ?_; rintro e w1 ⟨rfl, y, rfl⟩)
    go_ret
    exact ⟨ret_bool HF.out.symm, HB.out _⟩
theorem mapB_eq (ps : List Lat) (vs : List Val) (h : 0 < ps.length) : mapB ps vs = vs.all fun v => elemB ps[0] v && decide (valC v (botV ps[0]) ≠ 0) := by
  cases ps with
  | nil => simp at h
  | cons p t => rw [mapB]; rfl
theorem elem_5 (lo hi' : Int) (ns : List ByteArray) (ps : List Lat) (rs : List Rl) (an ap ar : Option Addr) (cn cp cr : Nat) (vn : Int) (vns : List ByteArray) (vps : List Val) (ves : List En) (bn bp be : Option Addr) (bcn bcp bce : Nat) (w : World)
 (HL : Hid (latRd w (.mk 5 lo hi' ns ps rs) [.int .i64 5, .int .i64 lo, .int .i64 hi', .slice an ns.length cn, .slice ap ps.length cp, .slice ar rs.length cr])) (HV : Hid (valRd w (.mk vn vns vps ves) [.int .i64 vn, .slice bn vns.length bcn, .slice bp vps.length bcp, .slice be ves.length bce]))
 (HWF : Hid (WfL (.mk 5 lo hi' ns ps rs))) (HIH : Hid (∀ p ∈ ps, ∀ (v : Val) (cl cv : List Value) (W : World), latRd W p cl → valRd W v cv → Calls Tryz.prog 37 #[.agg cl.toArray, .agg cv.toArray] W fun e w' => e = .returned (.bool (elemB p v)) ∧ Below W.heap.size W w')) :
 Calls Tryz.prog 37 #[.agg #[.int .i64 5, .int .i64 lo, .int .i64 hi', .slice an ns.length cn, .slice ap ps.length cp, .slice ar rs.length cr], .agg #[.int .i64 vn, .slice bn vns.length bcn, .slice bp vps.length bcp, .slice be ves.length bce]] w fun e w' => e = .returned (.bool (elemB (.mk 5 lo hi' ns ps rs) (.mk vn vns vps ves))) ∧ Below w.heap.size w w' := by
 have HE : Hid (elemB (.mk 5 lo hi' ns ps rs) (.mk vn vns vps ves) = (usedB (.mk vn vns vps ves) false true true false && decide (vns.length = vps.length) && allowedB ns vns && mapB ps vps)) := hid (by rw [elemB_eq]; rfl)
 generalize elemB (.mk 5 lo hi' ns ps rs) (.mk vn vns vps ves) = R at HE ⊢
 obtain ⟨W2, hW, HB, HBl, HBv⟩ := two_box w #[.int .i64 5, .int .i64 lo, .int .i64 hi', .slice an ns.length cn, .slice ap ps.length cp, .slice ar rs.length cr] #[.int .i64 vn, .slice bn vns.length bcn, .slice bp vps.length bcp, .slice be ves.length bce] 26 30
 have HVP : Hid (SlRd w 4 (valRd w) (.slice bp vps.length bcp) vps) := hid (by obtain ⟨_, _, _, gg, _, _, g4, _⟩ := (valRd_iff _ _ _).1 HV.out; cases gg; exact g4)
 have HLPS : Hid (SlRd w 6 (latRd w) (.slice ap ps.length cp) ps) := hid (by obtain ⟨_, _, _, hh, _, _, h4, _⟩ := (latRd_iff _ _ _).1 HL.out; cases hh; exact h4)
 have HVM : Hid (vps.length ≤ 9223372036854775807) := hid (by obtain ⟨_, _, _, _, h⟩ := HVP.out.shape; exact h)
 go_enter Tryz.func37, Tryz.ntmps37
 go_wp2_with fail
 rw [hW.out]
 clear hW
 obtain ⟨x0, hx⟩ := ext_self W2
 rw [hx]
 clear hx
 obtain ⟨l0, -, -, l3, l4⟩ := bx5 fun x : Ext W2 => HBl.out.ext x
 obtain ⟨v0, v1, v2, v3⟩ := bx4 fun x : Ext W2 => HBv.out.ext x
 have HCU := used_hid HB HV
 have HCA : Hid (∀ x : Ext W2, Calls Tryz.prog 65 #[.slice an ns.length cn, .slice bn vns.length bcn] x.1 fun e w' => e = .returned (.bool (allowedB ns vns)) ∧ ∃ y : Ext W2, w' = y.1) := hid fun x => by
   obtain ⟨_, _, _, hh, _, h3, _⟩ := (latRd_iff _ _ _).1 (latRd.below (HB.out x) _ _ HL.out)
   obtain ⟨_, _, _, gg, _, g3, _⟩ := (valRd_iff _ _ _).1 (valRd.below (HB.out x) _ _ HV.out)
   cases hh; cases gg
   exact ext_call x (allowed_any _ _ ns vns _ h3 g3)
 cases hu : usedB (.mk vn vns vps ves) false true true false
 · have HCU2 : Hid (∀ x : Ext W2, Calls Tryz.prog 64 #[.agg #[.int .i64 vn, .slice bn vns.length bcn, .slice bp vps.length bcp, .slice be ves.length bce], .bool false, .bool true, .bool true, .bool false] x.1 fun e w' => e = .returned (.bool false) ∧ ∃ y : Ext W2, w' = y.1) := hid fun x => by have := HCU.out false true true false x; rw [hu] at this; exact this
   have HF : Hid (R = false) := hid (by rw [HE.out, hu]; rfl)
   clear hu
   go_wp2_with (go_at_call 64; refine (HCU2.out _).mono ?_; rintro e w1 ⟨rfl, y, rfl⟩)
   go_ret
   exact ⟨ret_bool HF.out.symm, HB.out _⟩
 have HCU2 : Hid (∀ x : Ext W2, Calls Tryz.prog 64 #[.agg #[.int .i64 vn, .slice bn vns.length bcn, .slice bp vps.length bcp, .slice be ves.length bce], .bool false, .bool true, .bool true, .bool false] x.1 fun e w' => e = .returned (.bool true) ∧ ∃ y : Ext W2, w' = y.1) := hid fun x => by have := HCU.out false true true false x; rw [hu] at this; exact this
 by_cases hlen : vns.length = vps.length
 · have hlb : ((vns.length : Int) != (vps.length : Int)) = false := by simp [hlen]
   cases ha : allowedB ns vns
   · have HCA2 : Hid (∀ x : Ext W2, Calls Tryz.prog 65 #[.slice an ns.length cn, .slice bn vns.length bcn] x.1 fun e w' => e = .returned (.bool false) ∧ ∃ y : Ext W2, w' = y.1) := hid fun x => by have := HCA.out x; rw [ha] at this; exact this
     have HF : Hid (R = false) := hid (by rw [HE.out, hu, ha, decide_eq_true hlen]; rfl)
     clear hu ha hlen
     go_wp2_with (first | (go_at_call 64; refine (HCU2.out _).mono ?_; rintro e w1 ⟨rfl, y, rfl⟩) | (go_at_call 65; refine (HCA2.out _).mono ?_; rintro e w1 ⟨rfl, y, rfl⟩))
     go_ret
     exact ⟨ret_bool HF.out.symm, HB.out _⟩
   have HCA2 : Hid (∀ x : Ext W2, Calls Tryz.prog 65 #[.slice an ns.length cn, .slice bn vns.length bcn] x.1 fun e w' => e = .returned (.bool true) ∧ ∃ y : Ext W2, w' = y.1) := hid fun x => by have := HCA.out x; rw [ha] at this; exact this
   have hil : 0 < ps.length := by have h1 : ps.length = 1 := HWF.out.kinds.2.1 rfl; omega
   have HD : Hid (R = (vps.drop 0).all fun v => elemB ps[0] v && decide (valC v (botV ps[0]) ≠ 0)) := hid (by rw [HE.out, hu, ha, decide_eq_true hlen, mapB_eq ps vps hil]; rfl)
   have hvm := HVM.out
   have hil0 : (0 : Int) < (ps.length : Int) := by omega
   clear hu ha hlen
   go_wp2_with (first | (go_at_call 64; refine (HCU2.out _).mono ?_; rintro e w1 ⟨rfl, y, rfl⟩) | (go_at_call 65; refine (HCA2.out _).mono ?_; rintro e w1 ⟨rfl, y, rfl⟩))
   clear v0 v1 v2 v3 l0 l3
   go_loopw [6, 133] (fun _ i wr => ∃ (j : Nat) (x : Ext W2), j ≤ vps.length ∧ i = .int .i64 j ∧ wr = x.1 ∧ Hid (R = (vps.drop j).all fun v => elemB ps[0] v && decide (valC v (botV ps[0]) ≠ 0))) (fun _ i _ => vps.length - (intOf i).toNat)
   case atStart => exact ⟨0, _, Nat.zero_le _, rfl, rfl, HD⟩
   case round =>
    obtain ⟨j, x, hj, rfl, rfl, He⟩ := hrel
    by_cases hlt : j < vps.length
    · have HDJ : Hid (R = ((elemB ps[0] vps[j] && decide (valC vps[j] (botV ps[0]) ≠ 0)) && (vps.drop (j + 1)).all fun v => elemB ps[0] v && decide (valC v (botV ps[0]) ≠ 0))) := hid (by rw [He.out, drop_consS vps j hlt, List.all_cons])
      obtain ⟨pb, po, pcs, hpb, _, pcell, prd⟩ := (HVP.out).at j hlt
      subst hpb
      have HPR := hid prd
      obtain ⟨en, ecn, ep, ecp, ee, ece, rfl, _, pn, pp, pe, _⟩ := valRd.lay prd
      have r0 : x.1.cell? ⟨pb, po + j * 4, none⟩ = some (.int .i64 vps[j].n) := (pcell.below (HB.out x)) 0 (by simp)
      have r1 : x.1.cell? ⟨pb, po + j * 4 + 1, none⟩ = some (.slice en vps[j].names.length ecn) := (pcell.below (HB.out x)) 1 (by simp)
      have r2 : x.1.cell? ⟨pb, po + j * 4 + 2, none⟩ = some (.slice ep vps[j].parts.length ecp) := (pcell.below (HB.out x)) 2 (by simp)
      have r3 : x.1.cell? ⟨pb, po + j * 4 + 3, none⟩ = some (.slice ee vps[j].entries.length ece) := (pcell.below (HB.out x)) 3 (by simp)
      clear prd pn pp pe pcell
      obtain ⟨lb, lo2, lcs, hlb, _, lcell, lrd⟩ := (HLPS.out).at 0 hil
      subst hlb
      have HLR := hid lrd
      obtain ⟨dn, dcn, dp, dcp, dr, dcr, rfl, _, ln, lp, lr, _⟩ := latRd.lay lrd
      have HLC : Hid (∀ z : World, Below w.heap.size w z → z.cell? ⟨lb, lo2, none⟩ = some (.int .i64 ps[0].kind) ∧ z.cell? ⟨lb, lo2 + 1, none⟩ = some (.int .i64 ps[0].lo) ∧ z.cell? ⟨lb, lo2 + 2, none⟩ = some (.int .i64 ps[0].hi) ∧ z.cell? ⟨lb, lo2 + 3, none⟩ = some (.slice dn ps[0].names.length dcn) ∧ z.cell? ⟨lb, lo2 + 4, none⟩ = some (.slice dp ps[0].parts.length dcp) ∧ z.cell? ⟨lb, lo2 + 5, none⟩ = some (.slice dr ps[0].rules.length dcr)) := hid fun z hz => by have := (lcell.below hz).six; simpa using this
      clear lrd ln lp lr lcell
      go_wp2_with fail
      have HBB : Hid (∀ y : Ext (x.1.alloc (.cells #[.int .i64 vps[j].n, .slice en vps[j].names.length ecn, .slice ep vps[j].parts.length ecp, .slice ee vps[j].entries.length ece] 30)), Below w.heap.size w y.1) := hid fun y => ((HB.out x).alloc (HB.out x).size _).trans (y.2.mono (by have := (HB.out x).size; simp; omega))
      have HPB : Hid (∀ y : Ext (x.1.alloc (.cells #[.int .i64 vps[j].n, .slice en vps[j].names.length ecn, .slice ep vps[j].parts.length ecp, .slice ee vps[j].entries.length ece] 30)), ∀ (i : Nat) v, #[.int .i64 vps[j].n, .slice en vps[j].names.length ecn, .slice ep vps[j].parts.length ecp, .slice ee vps[j].entries.length ece][i]? = some v → y.1.cell? ⟨x.1.heap.size, i, none⟩ = some v) := hid fun y i v hv => y.cell (by rw [World.cell?_alloc_at _ _ _ _ rfl]; exact hv)
      have HUP : Hid (∀ y : Ext (x.1.alloc (.cells #[.int .i64 vps[j].n, .slice en vps[j].names.length ecn, .slice ep vps[j].parts.length ecp, .slice ee vps[j].entries.length ece] 30)), ∃ x' : Ext W2, y.1 = x'.1) := hid fun y => ⟨⟨y.1, (x.2.alloc x.2.size _).trans (y.2.mono (by have := x.2.size; simp; omega))⟩, rfl⟩
      generalize x.1.heap.size = NB at HPB ⊢
      generalize x.1.alloc (.cells #[.int .i64 vps[j].n, .slice en vps[j].names.length ecn, .slice ep vps[j].parts.length ecp, .slice ee vps[j].entries.length ece] 30) = WB at HBB HPB HUP ⊢
      have l4b : ∀ y : Ext WB, y.1.cell? ⟨w.heap.size, 4, none⟩ = some (.slice (some ⟨lb, lo2, none⟩) ps.length cp) := fun y => by obtain ⟨x', h⟩ := HUP.out y; rw [h]; exact l4 x'
      obtain ⟨p0, p1, p2, p3⟩ := bx4 fun y : Ext WB => HPB.out y
      have k0 : ∀ y : Ext WB, y.1.cell? ⟨lb, lo2, none⟩ = some (.int .i64 ps[0].kind) := fun y => (HLC.out _ (HBB.out y)).1
      have k1 : ∀ y : Ext WB, y.1.cell? ⟨lb, lo2 + 1, none⟩ = some (.int .i64 ps[0].lo) := fun y => (HLC.out _ (HBB.out y)).2.1
      have k2 : ∀ y : Ext WB, y.1.cell? ⟨lb, lo2 + 2, none⟩ = some (.int .i64 ps[0].hi) := fun y => (HLC.out _ (HBB.out y)).2.2.1
      have k3 : ∀ y : Ext WB, y.1.cell? ⟨lb, lo2 + 3, none⟩ = some (.slice dn ps[0].names.length dcn) := fun y => (HLC.out _ (HBB.out y)).2.2.2.1
      have k4 : ∀ y : Ext WB, y.1.cell? ⟨lb, lo2 + 4, none⟩ = some (.slice dp ps[0].parts.length dcp) := fun y => (HLC.out _ (HBB.out y)).2.2.2.2.1
      have k5 : ∀ y : Ext WB, y.1.cell? ⟨lb, lo2 + 5, none⟩ = some (.slice dr ps[0].rules.length dcr) := fun y => (HLC.out _ (HBB.out y)).2.2.2.2.2
      have HEL : Hid (∀ y : Ext WB, Calls Tryz.prog 37 #[.agg #[.int .i64 ps[0].kind, .int .i64 ps[0].lo, .int .i64 ps[0].hi, .slice dn ps[0].names.length dcn, .slice dp ps[0].parts.length dcp, .slice dr ps[0].rules.length dcr], .agg #[.int .i64 vps[j].n, .slice en vps[j].names.length ecn, .slice ep vps[j].parts.length ecp, .slice ee vps[j].entries.length ece]] y.1 fun e w' => e = .returned (.bool (elemB ps[0] vps[j])) ∧ ∃ z : Ext WB, w' = z.1) := hid fun y => ext_call y (HIH.out _ (List.getElem_mem hil) vps[j] [.int .i64 ps[0].kind, .int .i64 ps[0].lo, .int .i64 ps[0].hi, .slice dn ps[0].names.length dcn, .slice dp ps[0].parts.length dcp, .slice dr ps[0].rules.length dcr] [.int .i64 vps[j].n, .slice en vps[j].names.length ecn, .slice ep vps[j].parts.length ecp, .slice ee vps[j].entries.length ece] _ (latRd.below (HBB.out y) _ _ HLR.out) (valRd.below (HBB.out y) _ _ HPR.out))
      cases hel : elemB ps[0] vps[j]
      · have HEL2 : Hid (∀ y : Ext WB, Calls Tryz.prog 37 #[.agg #[.int .i64 ps[0].kind, .int .i64 ps[0].lo, .int .i64 ps[0].hi, .slice dn ps[0].names.length dcn, .slice dp ps[0].parts.length dcp, .slice dr ps[0].rules.length dcr], .agg #[.int .i64 vps[j].n, .slice en vps[j].names.length ecn, .slice ep vps[j].parts.length ecp, .slice ee vps[j].entries.length ece]] y.1 fun e w' => e = .returned (.bool false) ∧ ∃ z : Ext WB, w' = z.1) := hid fun y => by have := HEL.out y; rw [hel] at this; exact this
        have HF : Hid (R = false) := hid (by rw [HDJ.out, hel]; rfl)
        clear hel
        refine wp_region_ext (by kernel_rfl) (by kernel_rfl) ?_
        repeat (go_big_quiet_step ((go_at_call 37; exact HEL2.out _)))
        refine wpQuiet_nil ?_
        rintro _ ⟨z, rfl⟩
        obtain ⟨x', hx'⟩ := HUP.out z
        rw [hx']
        clear hx' p0 p1 p2 p3 k0 k1 k2 k3 k4 k5 l4b
        go_wp2_with fail
        go_ret
        exact ⟨ret_bool HF.out.symm, HB.out _⟩
      · have HEL3 : Hid (∀ W, Below WB.heap.size WB W → Calls Tryz.prog 37 #[.agg #[.int .i64 ps[0].kind, .int .i64 ps[0].lo, .int .i64 ps[0].hi, .slice dn ps[0].names.length dcn, .slice dp ps[0].parts.length dcp, .slice dr ps[0].rules.length dcr], .agg #[.int .i64 vps[j].n, .slice en vps[j].names.length ecn, .slice ep vps[j].parts.length ecp, .slice ee vps[j].entries.length ece]] W fun e w' => e = .returned (.bool true) ∧ Below W.heap.size W w') := hid fun W h => by
          have := HIH.out _ (List.getElem_mem hil) vps[j] [.int .i64 ps[0].kind, .int .i64 ps[0].lo, .int .i64 ps[0].hi, .slice dn ps[0].names.length dcn, .slice dp ps[0].parts.length dcp, .slice dr ps[0].rules.length dcr] [.int .i64 vps[j].n, .slice en vps[j].names.length ecn, .slice ep vps[j].parts.length ecp, .slice ee vps[j].entries.length ece] W (latRd.below (HBB.out ⟨W, h⟩) _ _ HLR.out) (valRd.below (HBB.out ⟨W, h⟩) _ _ HPR.out)
          rw [hel] at this; exact this
        have HBOT : Hid (∀ W, Below WB.heap.size WB W → Calls Tryz.prog 61 #[.agg #[.int .i64 ps[0].kind, .int .i64 ps[0].lo, .int .i64 ps[0].hi, .slice dn ps[0].names.length dcn, .slice dp ps[0].parts.length dcp, .slice dr ps[0].rules.length dcr]] W (ValPost W (botV ps[0]))) := hid fun W h => bottom_any _ ps[0] [.int .i64 ps[0].kind, .int .i64 ps[0].lo, .int .i64 ps[0].hi, .slice dn ps[0].names.length dcn, .slice dp ps[0].parts.length dcp, .slice dr ps[0].rules.length dcr] W (Nat.le_refl _) (latRd.below (HBB.out ⟨W, h⟩) _ _ HLR.out) (HWF.out.part (List.getElem_mem hil))
        have HS : Hid (∀ y : Ext WB, y.1.cell? ⟨w.heap.size, 4, none⟩ = some (.slice (some ⟨lb, lo2, none⟩) ps.length cp) ∧ y.1.cell? ⟨lb, lo2, none⟩ = some (.int .i64 ps[0].kind) ∧ y.1.cell? ⟨lb, lo2 + 1, none⟩ = some (.int .i64 ps[0].lo) ∧ y.1.cell? ⟨lb, lo2 + 2, none⟩ = some (.int .i64 ps[0].hi) ∧ y.1.cell? ⟨lb, lo2 + 3, none⟩ = some (.slice dn ps[0].names.length dcn) ∧ y.1.cell? ⟨lb, lo2 + 4, none⟩ = some (.slice dp ps[0].parts.length dcp) ∧ y.1.cell? ⟨lb, lo2 + 5, none⟩ = some (.slice dr ps[0].rules.length dcr) ∧ y.1.cell? ⟨NB, 0, none⟩ = some (.int .i64 vps[j].n) ∧ y.1.cell? ⟨NB, 1, none⟩ = some (.slice en vps[j].names.length ecn) ∧ y.1.cell? ⟨NB, 2, none⟩ = some (.slice ep vps[j].parts.length ecp) ∧ y.1.cell? ⟨NB, 3, none⟩ = some (.slice ee vps[j].entries.length ece)) := hid fun y => ⟨l4b y, k0 y, k1 y, k2 y, k3 y, k4 y, k5 y, p0 y, p1 y, p2 y, p3 y⟩
        clear l4b k0 k1 k2 k3 k4 k5 p0 p1 p2 p3
        cases hq : decide (valC vps[j] (botV ps[0]) = 0)
        · have hne : ¬ (valC vps[j] (botV ps[0]) = 0) := of_decide_eq_false hq
          have HF : Hid (R = (vps.drop (j + 1)).all fun v => elemB ps[0] v && decide (valC v (botV ps[0]) ≠ 0)) := hid (by rw [HDJ.out, hel, decide_eq_true (show valC vps[j] (botV ps[0]) ≠ 0 from hne)]; rfl)
          clear hel hne
          have HEQ2 : Hid (∀ (W : World) (cs : List Value), Below WB.heap.size WB W → valRd W (botV ps[0]) cs → Calls Tryz.prog 22 #[.agg #[.int .i64 vps[j].n, .slice en vps[j].names.length ecn, .slice ep vps[j].parts.length ecp, .slice ee vps[j].entries.length ece], .agg cs.toArray] W fun e w' => e = .returned (.bool false) ∧ Below W.heap.size W w') := hid fun W cs h hc => by have := equal_any vps[j] (botV ps[0]) [.int .i64 vps[j].n, .slice en vps[j].names.length ecn, .slice ep vps[j].parts.length ecp, .slice ee vps[j].entries.length ece] cs W (valRd.below (HBB.out ⟨W, h⟩) _ _ HPR.out) hc; rw [hq] at this; exact this
          clear hq
          first
           | (go_region_held3 (fun w' => w'.cell? ⟨w.heap.size, 4, none⟩ = some (.slice (some ⟨lb, lo2, none⟩) ps.length cp) ∧ w'.cell? ⟨lb, lo2, none⟩ = some (.int .i64 ps[0].kind) ∧ w'.cell? ⟨lb, lo2 + 1, none⟩ = some (.int .i64 ps[0].lo) ∧ w'.cell? ⟨lb, lo2 + 2, none⟩ = some (.int .i64 ps[0].hi) ∧ w'.cell? ⟨lb, lo2 + 3, none⟩ = some (.slice dn ps[0].names.length dcn) ∧ w'.cell? ⟨lb, lo2 + 4, none⟩ = some (.slice dp ps[0].parts.length dcp) ∧ w'.cell? ⟨lb, lo2 + 5, none⟩ = some (.slice dr ps[0].rules.length dcr) ∧ w'.cell? ⟨NB, 0, none⟩ = some (.int .i64 vps[j].n) ∧ w'.cell? ⟨NB, 1, none⟩ = some (.slice en vps[j].names.length ecn) ∧ w'.cell? ⟨NB, 2, none⟩ = some (.slice ep vps[j].parts.length ecp) ∧ w'.cell? ⟨NB, 3, none⟩ = some (.slice ee vps[j].entries.length ece))
               (first
                 | exact HS.out ⟨_, (Below.refl _ _).drew⟩
                 | exact HS.out ⟨_, HB7.out⟩
                 | exact HS.out ⟨_, HB6.out⟩
                 | exact HS.out ⟨_, HB5.out⟩
                 | skip)
               (first
                 | (go_at_call 37
                    refine (HEL3.out _ (Below.refl _ _).drew).mono ?_
                    rintro e w5 ⟨rfl, hb5⟩
                    have HB5 : Hid (Below WB.heap.size WB w5) := hid ((Below.refl _ _).drew.trans hb5)
                    clear hb5)
                 | (go_at_call 61
                    refine (HBOT.out _ HB5.out).mono ?_
                    rintro e w6 ⟨cs6, rfl, hv6, hb6⟩
                    have HV6 := hid (valRd_mono' (only_sub _ _) hv6)
                    have HB6 : Hid (Below WB.heap.size WB w6) := hid (HB5.out.trans (hb6.mono HB5.out.size))
                    clear hb6 hv6)
                 | (go_at_call 22
                    refine (HEQ2.out _ _ HB6.out HV6.out).mono ?_
                    rintro e w7 ⟨rfl, hb7⟩
                    have HB7 : Hid (Below WB.heap.size WB w7) := hid (HB6.out.trans (hb7.mono HB6.out.size))
                    clear hb7)))
           | fail
          all_goals
           obtain ⟨x', hx'⟩ := HUP.out ⟨_, HB7.out⟩
           have hx2 : w7 = x'.1 := hx'
           rw [hx2]
           go_wp2_with fail
           go_roundw
           case rel => exact ⟨j + 1, x', by omega, by go_num, rfl, HF⟩
           case measure => simp [intOf]; omega
        · have hne : valC vps[j] (botV ps[0]) = 0 := of_decide_eq_true hq
          have HF : Hid (R = false) := hid (by rw [HDJ.out, hel, decide_eq_false (show ¬ (valC vps[j] (botV ps[0]) ≠ 0) from fun h => h hne)]; rfl)
          clear hel hne
          have HEQ2 : Hid (∀ (W : World) (cs : List Value), Below WB.heap.size WB W → valRd W (botV ps[0]) cs → Calls Tryz.prog 22 #[.agg #[.int .i64 vps[j].n, .slice en vps[j].names.length ecn, .slice ep vps[j].parts.length ecp, .slice ee vps[j].entries.length ece], .agg cs.toArray] W fun e w' => e = .returned (.bool true) ∧ Below W.heap.size W w') := hid fun W cs h hc => by have := equal_any vps[j] (botV ps[0]) [.int .i64 vps[j].n, .slice en vps[j].names.length ecn, .slice ep vps[j].parts.length ecp, .slice ee vps[j].entries.length ece] cs W (valRd.below (HBB.out ⟨W, h⟩) _ _ HPR.out) hc; rw [hq] at this; exact this
          clear hq
          first
           | (go_region_held3 (fun w' => w'.cell? ⟨w.heap.size, 4, none⟩ = some (.slice (some ⟨lb, lo2, none⟩) ps.length cp) ∧ w'.cell? ⟨lb, lo2, none⟩ = some (.int .i64 ps[0].kind) ∧ w'.cell? ⟨lb, lo2 + 1, none⟩ = some (.int .i64 ps[0].lo) ∧ w'.cell? ⟨lb, lo2 + 2, none⟩ = some (.int .i64 ps[0].hi) ∧ w'.cell? ⟨lb, lo2 + 3, none⟩ = some (.slice dn ps[0].names.length dcn) ∧ w'.cell? ⟨lb, lo2 + 4, none⟩ = some (.slice dp ps[0].parts.length dcp) ∧ w'.cell? ⟨lb, lo2 + 5, none⟩ = some (.slice dr ps[0].rules.length dcr) ∧ w'.cell? ⟨NB, 0, none⟩ = some (.int .i64 vps[j].n) ∧ w'.cell? ⟨NB, 1, none⟩ = some (.slice en vps[j].names.length ecn) ∧ w'.cell? ⟨NB, 2, none⟩ = some (.slice ep vps[j].parts.length ecp) ∧ w'.cell? ⟨NB, 3, none⟩ = some (.slice ee vps[j].entries.length ece))
               (first
                 | exact HS.out ⟨_, (Below.refl _ _).drew⟩
                 | exact HS.out ⟨_, HB7.out⟩
                 | exact HS.out ⟨_, HB6.out⟩
                 | exact HS.out ⟨_, HB5.out⟩
                 | skip)
               (first
                 | (go_at_call 37
                    refine (HEL3.out _ (Below.refl _ _).drew).mono ?_
                    rintro e w5 ⟨rfl, hb5⟩
                    have HB5 : Hid (Below WB.heap.size WB w5) := hid ((Below.refl _ _).drew.trans hb5)
                    clear hb5)
                 | (go_at_call 61
                    refine (HBOT.out _ HB5.out).mono ?_
                    rintro e w6 ⟨cs6, rfl, hv6, hb6⟩
                    have HV6 := hid (valRd_mono' (only_sub _ _) hv6)
                    have HB6 : Hid (Below WB.heap.size WB w6) := hid (HB5.out.trans (hb6.mono HB5.out.size))
                    clear hb6 hv6)
                 | (go_at_call 22
                    refine (HEQ2.out _ _ HB6.out HV6.out).mono ?_
                    rintro e w7 ⟨rfl, hb7⟩
                    have HB7 : Hid (Below WB.heap.size WB w7) := hid (HB6.out.trans (hb7.mono HB6.out.size))
                    clear hb7)))
           | fail
          all_goals
           go_wp2_with fail
           go_ret
           exact ⟨ret_bool HF.out.symm, HBB.out ⟨_, HB7.out⟩⟩
    · have HF : Hid (R = true) := hid (by rw [He.out, show vps.drop j = [] from List.drop_eq_nil_of_le (by omega)]; rfl)
      go_wp2_with fail
      go_ret
      exact ⟨ret_bool HF.out.symm, HB.out _⟩
 · have HF : Hid (R = false) := hid (by rw [HE.out, decide_eq_false hlen, Bool.and_false, Bool.false_and, Bool.false_and])
   have hlb : ((vns.length : Int) != (vps.length : Int)) = true := by simp; omega
   clear hu hlen
   go_wp2_with (go_at_call 64; refine (HCU2.out _).mono ?_; rintro e w1 ⟨rfl, y, rfl⟩)
   go_ret
   exact ⟨ret_bool HF.out.symm, HB.out _⟩
theorem element_any (f : Nat) : ∀ (l : Lat) (v : Val) (cl cv : List Value) (w : World), SizeOf.sizeOf l ≤ f → latRd w l cl → valRd w v cv → WfL l →
 Calls Tryz.prog 37 #[.agg cl.toArray, .agg cv.toArray] w fun e w' => e = .returned (.bool (elemB l v)) ∧ Below w.heap.size w w' := by
 induction f with
 | zero => intro l v cl cv w hn; cases l; simp at hn
 | succ f ih =>
   intro l v cl cv w hn hl hv hwf
   have hih : ∀ p ∈ l.parts, ∀ (v : Val) (cl cv : List Value) (W : World), latRd W p cl → valRd W v cv → Calls Tryz.prog 37 #[.agg cl.toArray, .agg cv.toArray] W fun e w' => e = .returned (.bool (elemB p v)) ∧ Below W.heap.size W w' :=
     fun p hp v cl cv W h1 h2 => ih p v cl cv W (by have := sizeOf_part hp; omega) h1 h2 (hwf.part hp)
   obtain ⟨a1, a2, a3, rfl, _, hns, hps, hrs⟩ := (latRd_iff _ _ _).1 hl
   obtain ⟨b1, b2, b3, rfl, _, hvn, hvp, hve⟩ := (valRd_iff _ _ _).1 hv
   obtain ⟨an, cn, rfl, _, _⟩ := hns.shape
   obtain ⟨ap, cp, rfl, _, _⟩ := hps.shape
   obtain ⟨ar, cr, rfl, _, _⟩ := hrs.shape
   obtain ⟨bn, bcn, rfl, _, _⟩ := hvn.shape
   obtain ⟨bp, bcp, rfl, _, _⟩ := hvp.shape
   obtain ⟨be, bce, rfl, _, _⟩ := hve.shape
   have hk := hwf.kinds.1
   clear hns hps hrs hvn hvp hve hn ih
   obtain ⟨k, lo, hi', ns, ps, rs⟩ := l
   obtain ⟨vn, vns, vps, ves⟩ := v
   simp only [Lat.kind, Lat.lo, Lat.hi, Lat.names, Lat.parts, Lat.rules, Val.n, Val.names, Val.parts, Val.entries] at hl hv hk hih ⊢
   obtain ⟨h1, h2⟩ := hk
   have hx : k = 1 ∨ k = 2 ∨ k = 3 ∨ k = 4 ∨ k = 5 ∨ k = 6 ∨ k = 7 ∨ k = 8 ∨ k = 9 ∨ k = 10 := by omega
   clear h1 h2
   rcases hx with rfl | rfl | rfl | rfl | rfl | rfl | rfl | rfl | rfl | rfl
   · exact elem_1 lo hi' ns ps rs an ap ar cn cp cr vn vns vps ves bn bp be bcn bcp bce w (hid hl) (hid hv)
   · exact elem_23 2 (.inl rfl) lo hi' ns ps rs an ap ar cn cp cr vn vns vps ves bn bp be bcn bcp bce w (hid hl) (hid hv)
   · exact elem_23 3 (.inr rfl) lo hi' ns ps rs an ap ar cn cp cr vn vns vps ves bn bp be bcn bcp bce w (hid hl) (hid hv)
   · exact elem_4 lo hi' ns ps rs an ap ar cn cp cr vn vns vps ves bn bp be bcn bcp bce w (hid hl) (hid hv)
   · exact elem_5 lo hi' ns ps rs an ap ar cn cp cr vn vns vps ves bn bp be bcn bcp bce w (hid hl) (hid hv) (hid hwf) (hid hih)
   · exact elem_67 6 (.inl rfl) lo hi' ns ps rs an ap ar cn cp cr vn vns vps ves bn bp be bcn bcp bce w (hid hl) (hid hv) (hid hwf) (hid hih)
   · exact elem_67 7 (.inr rfl) lo hi' ns ps rs an ap ar cn cp cr vn vns vps ves bn bp be bcn bcp bce w (hid hl) (hid hv) (hid hwf) (hid hih)
   · exact elem_8 lo hi' ns ps rs an ap ar cn cp cr vn vns vps ves bn bp be bcn bcp bce w (hid hl) (hid hv)
   · exact elem_9 lo hi' ns ps rs an ap ar cn cp cr vn vns vps ves bn bp be bcn bcp bce w (hid hl) (hid hv)
   · exact elem_10 lo hi' ns ps rs an ap ar cn cp cr vn vns vps ves bn bp be bcn bcp bce w (hid hl) (hid hv)
theorem valid_any (l : Lat) (v : Val) (cl cv : List Value) (w : World) (hl : latRd w l cl) (hv : valRd w v cv) :
 Calls Tryz.prog 15 #[.agg cl.toArray, .agg cv.toArray] w fun e w' => e = .returned (.bool (validB l v)) ∧ Below w.heap.size w w' := by
 have HC : Hid (∀ W, Below w.heap.size w W → Calls Tryz.prog 36 #[.agg cl.toArray] W fun e w' => e = .returned (.int .i64 (chkE l)) ∧ Below W.heap.size W w') := hid fun W h => check_any l cl W (latRd.below h _ _ hl)
 have HEL : Hid (chkE l = 0 → ∀ W, Below w.heap.size w W → Calls Tryz.prog 37 #[.agg cl.toArray, .agg cv.toArray] W fun e w' => e = .returned (.bool (elemB l v)) ∧ Below W.heap.size W w') := hid fun h0 W h => element_any _ l v cl cv W (Nat.le_refl _) (latRd.below h _ _ hl) (valRd.below h _ _ hv) (chkE_wf h0)
 have HE : Hid (validB l v = (decide (chkE l = 0) && elemB l v)) := hid rfl
 generalize validB l v = R at HE ⊢
 generalize elemB l v = B at HE HEL
 generalize chkE l = E at HC HEL HE
 obtain ⟨a1, a2, a3, rfl, _, hns, hps, hrs⟩ := (latRd_iff _ _ _).1 hl
 obtain ⟨b1, b2, b3, rfl, _, hvn, hvp, hve⟩ := (valRd_iff _ _ _).1 hv
 obtain ⟨an, cn, rfl, _, _⟩ := hns.shape
 obtain ⟨ap, cp, rfl, _, _⟩ := hps.shape
 obtain ⟨ar, cr, rfl, _, _⟩ := hrs.shape
 obtain ⟨bn, bcn, rfl, _, _⟩ := hvn.shape
 obtain ⟨bp, bcp, rfl, _, _⟩ := hvp.shape
 obtain ⟨be, bce, rfl, _, _⟩ := hve.shape
 clear hns hps hrs hvn hvp hve hl hv
 have HB : Hid (∀ O1 O2, Below w.heap.size w ((w.alloc O1).alloc O2)) := hid fun O1 O2 => ((Below.refl _ _).alloc (Nat.le_refl _) O1).alloc (by simp) O2
 go_enter Tryz.func15, Tryz.ntmps15
 go_wp2_with fail
 generalize hW2 : (w.alloc (.cells #[.int .i64 l.kind, .int .i64 l.lo, .int .i64 l.hi, .slice an l.names.length cn, .slice ap l.parts.length cp, .slice ar l.rules.length cr] 26)).alloc (.cells #[.int .i64 v.n, .slice bn v.names.length bcn, .slice bp v.parts.length bcp, .slice be v.entries.length bce] 30) = W2
 have HB2 : Hid (Below w.heap.size w W2) := hid (by rw [← hW2]; exact HB.out _ _)
 have HX : Hid (∀ w', Below W2.heap.size W2 w' → (∀ (i : Nat) u, #[Value.int .i64 l.kind, .int .i64 l.lo, .int .i64 l.hi, .slice an l.names.length cn, .slice ap l.parts.length cp, .slice ar l.rules.length cr][i]? = some u → w'.cell? ⟨w.heap.size, i, none⟩ = some u) ∧ (∀ (i : Nat) u, #[Value.int .i64 v.n, .slice bn v.names.length bcn, .slice bp v.parts.length bcp, .slice be v.entries.length bce][i]? = some u → w'.cell? ⟨w.heap.size + 1, i, none⟩ = some u)) :=
  hid fun w' h => two_boxes w _ _ 26 30 (by rw [← hW2] at h; exact h.mono (by simp))
 clear hW2
 refine (HC.out _ HB2.out).mono ?_
 rintro e w1 ⟨rfl, hb1⟩
 have HB1 : Hid (Below W2.heap.size W2 w1) := hid hb1
 have HBW := hid (HB2.out.trans (hb1.mono HB2.out.size))
 clear hb1
 have f0 := (HX.out _ HB1.out).1 0 _ rfl
 have f1 := (HX.out _ HB1.out).1 1 _ rfl
 have f2 := (HX.out _ HB1.out).1 2 _ rfl
 have f3 := (HX.out _ HB1.out).1 3 _ rfl
 have f4 := (HX.out _ HB1.out).1 4 _ rfl
 have f5 := (HX.out _ HB1.out).1 5 _ rfl
 have g0 := (HX.out _ HB1.out).2 0 _ rfl
 have g1 := (HX.out _ HB1.out).2 1 _ rfl
 have g2 := (HX.out _ HB1.out).2 2 _ rfl
 have g3 := (HX.out _ HB1.out).2 3 _ rfl
 by_cases hE : E = 0
 · subst hE
   have HE2 : Hid (R = B) := hid (by rw [HE.out]; simp)
   have HEL2 := hid (HEL.out rfl)
   clear HEL
   go_wp2_with fail
   refine (HEL2.out _ HBW.out).mono ?_
   rintro e w2 ⟨rfl, hb2⟩
   have HBF := hid (HBW.out.trans (hb2.mono HBW.out.size))
   clear hb2
   go_wp2_with fail
   go_ret
   exact ⟨ret_bool HE2.out.symm, HBF.out⟩
 · have hEb : (E == 0) = false := by simpa using hE
   have HE2 : Hid (R = false) := hid (by rw [HE.out, decide_eq_false hE]; rfl)
   clear hE
   go_wp2_with fail
   go_ret
   exact ⟨ret_bool HE2.out.symm, HBW.out⟩
def lows (n : Nat) : Nat → Bool := fun b => decide (b < n)
structure WtSt (w wr : World) (B : Nat) (rv0 rv : Value) (bs : List UInt8) (lc vc : Array Value) : Prop where
 wrt : WrAt wr B rv bs
 boxL : wr.heap[w.heap.size]? = some (.cells lc 26 (0, 0))
 boxV : wr.heap[w.heap.size + 1]? = some (.cells vc 30 (0, 0))
 wf : Wf B rv0 rv w wr
 notL : rv.ownBlock ≠ some w.heap.size
 notV : rv.ownBlock ≠ some (w.heap.size + 1)
 lt : B < w.heap.size
 base : ∀ k, rv0.ownBlock = some k → B + 1 ≤ k
theorem Wf.of_below {B : Nat} {v : Value} {w w' : World} (h : Below w.heap.size w w') : Wf B v v w w' := ⟨h.os, h.tape, h.output, h.size, fun k hk _ _ => h.block k hk, fun _ e => .inl e⟩
theorem WrAt.below {w w' : World} {B : Nat} {v : Value} {bs : List UInt8} (h : WrAt w B v bs) (k : Below w.heap.size w w') : WrAt w' B v bs := ⟨(k.block _ h.lt).trans h.blk, owns_below h.own k⟩
section
variable {w wr w1 : World} {B : Nat} {rv0 rv : Value} {bs bs' : List UInt8} {lc vc : Array Value}
theorem WtSt.cellL (h : WtSt w wr B rv0 rv bs lc vc) {i : Nat} {v : Value} (e : lc[i]? = some v) : wr.cell? ⟨w.heap.size, i, none⟩ = some v := (cell_at_block h.boxL).trans e
theorem WtSt.cellV (h : WtSt w wr B rv0 rv bs lc vc) {i : Nat} {v : Value} (e : vc[i]? = some v) : wr.cell? ⟨w.heap.size + 1, i, none⟩ = some v := (cell_at_block h.boxV).trans e
theorem WtSt.low (h : WtSt w wr B rv0 rv bs lc vc) : Sub (only (lows B) w) (only (lows B) wr) := only_keep fun b hb hl => ⟨hb, h.wf.block b hl (by have := of_decide_eq_true hb; omega) fun e => by have := h.base b e; have := of_decide_eq_true hb; omega⟩
theorem WtSt.sub (h : WtSt w wr B rv0 rv bs lc vc) : Sub (only (lows B) w) wr := h.low.trans (only_sub _ _)
theorem WtSt.fin (h : WtSt w wr B rv0 rv bs lc vc) (k : WrPost B rv wr bs' w1) : WrPost B rv0 w bs' w1 := WrPost.after h.wf k
theorem WtSt.done (h : WtSt w wr B rv0 rv bs lc vc) : WrPost B rv0 w bs wr := ⟨rv, h.wrt, h.wf⟩
theorem WtSt.call (h : WtSt w wr B rv0 rv bs lc vc) (k : WrPost B rv wr bs' w1) : ∃ rv', WtSt w w1 B rv0 rv' bs' lc vc := by
 obtain ⟨rv', h1, h2⟩ := k
 have hl := h.lt
 have hv := block_lt h.boxV
 refine ⟨rv', h1, (h2.block _ (by omega) (by omega) h.notL).trans h.boxL, (h2.block _ hv (by omega) h.notV).trans h.boxV, h.wf.trans h2, fun e => ?_, fun e => ?_, hl, h.base⟩
 · rcases h2.own _ e with e | e
   · exact h.notL e
   · omega
 · rcases h2.own _ e with e | e
   · exact h.notV e
   · omega
theorem WtSt.below (h : WtSt w wr B rv0 rv bs lc vc) (k : Below wr.heap.size wr w1) : WtSt w w1 B rv0 rv bs lc vc :=
 have hl := h.lt
 have hv := block_lt h.boxV
 ⟨h.wrt.below k, (k.block _ (by omega)).trans h.boxL, (k.block _ hv).trans h.boxV, h.wf.trans (Wf.of_below k), h.notL, h.notV, h.lt, h.base⟩
theorem WtSt.alloc (h : WtSt w wr B rv0 rv bs lc vc) (O : Obj) : WtSt w (wr.alloc O) B rv0 rv bs lc vc := h.below ((Below.refl _ _).alloc (Nat.le_refl _) O)
theorem WtSt.drewN (h : WtSt w wr B rv0 rv bs lc vc) (q : Nat) : WtSt w (wr.drewN q) B rv0 rv bs lc vc := h.below (below_drewN' (Below.refl _ _) q)
theorem WtSt.keep (h : WtSt w wr B rv0 rv bs lc vc) {g : Nat} (hg : w.heap.size ≤ g) (hl : g < wr.heap.size) (hn : rv.ownBlock ≠ some g) (k : WrPost B rv wr bs' w1) : w1.heap[g]? = wr.heap[g]? := by
 obtain ⟨rv', h1, h2⟩ := k
 exact h2.block _ hl (by have := h.lt; omega) hn
theorem WtSt.start (h : WrAt w B rv bs) (lc vc : Array Value) : WtSt w ((w.alloc (.cells lc 26 (0, 0))).alloc (.cells vc 30 (0, 0))) B rv rv bs lc vc :=
 have hb : Below w.heap.size w ((w.alloc (.cells lc 26 (0, 0))).alloc (.cells vc 30 (0, 0))) := ((Below.refl _ _).alloc (Nat.le_refl _) _).alloc (by simp) _
 ⟨h.below hb, block_alloc (heap_alloc_new _ _) _, heap_new_at _ _ _ (by simp), Wf.of_below hb, fun e => by have := (h.base _ e).2; omega, fun e => by have := (h.base _ e).2; omega, h.lt, fun k e => (h.base k e).1⟩
end
theorem beqI (a b : Int) : (a == b) = decide (a = b) := by
 by_cases h : a = b
 · subst h; simp
 · rw [decide_eq_false h]; simpa using h
theorem name_small {s : ByteArray} (h : nameB s = true) : s.size ≤ 1000000 := by
 unfold nameB at h
 simp only [Bool.and_eq_true, decide_eq_true_eq] at h
 omega
theorem strs_sub {w : World} {a : Option Addr} {n cap : Nat} {l : List ByteArray} (h : Strs w (.slice a n cap) l) (i : Nat) (hi : i < l.length) : ∃ b o, a = some ⟨b, o, none⟩ ∧ w.cell? ⟨b, o + i, none⟩ = some (.string l[i]) := by
 obtain ⟨b, o, h1, h2, _⟩ := h.cell i hi
 exact ⟨b, o, h1, h2⟩
theorem flatMap_drop {α : Type} (f : α → List UInt8) (l : List α) (j : Nat) (h : j < l.length) : (l.drop j).flatMap f = f l[j] ++ (l.drop (j + 1)).flatMap f := by
 rw [List.drop_eq_getElem_cons h, List.flatMap_cons]
theorem part_le {a b T : List UInt8} {n : Nat} (h : a ++ b = T) (hT : T.length ≤ n) : a.length ≤ n := by
 rw [← h, List.length_append] at hT
 omega
def WriteOk (l : Lat) (v : Val) : Prop := ∀ (B : Nat) (rv : Value) (bs : List UInt8) (cl cv : List Value) (w : World), latRd (only (lows B) w) l cl → valRd (only (lows B) w) v cv → WrAt w B rv bs → bs.length + (putV l v).length ≤ 80000000 →
    Calls Tryz.prog 50 #[.pointer (some ⟨B, 0, none⟩), .agg cl.toArray, .agg cv.toArray] w fun e w' => e = .returned (.tuple #[]) ∧ WrPost B rv w (bs ++ putV l v) w'
theorem write_1 (l : Lat) (v : Val) (hk : l.kind = 1) (hwf : WfL l) (hel : elemB l v = true) : WriteOk l v := by
 intro B rv bs cl cv w hl hv hw hsz
 obtain ⟨aln, cln, alp, clp, alr, clr, rfl, hli, hln, hlp, hlr, ⟨_, mln⟩, ⟨_, mlp⟩, _, mlr⟩ := latRd.lay hl
 obtain ⟨bvn, dvn, bvp, dvp, bve, dve, rfl, gvi, gvn, gvp, gve, ⟨_, nvn⟩, ⟨_, nvp⟩, _, nve⟩ := valRd.lay hv
 have HWF := hid hwf
 obtain ⟨k, lo, hi, ns, ps, rs⟩ := l
 obtain ⟨vn, vns, vps, ves⟩ := v
 simp only [Lat.kind, Lat.lo, Lat.hi, Lat.names, Lat.parts, Lat.rules, Val.n, Val.names, Val.parts, Val.entries] at *
 subst hk
 have HST := hid (WtSt.start hw #[.int .i64 1, .int .i64 lo, .int .i64 hi, .slice aln ns.length cln, .slice alp ps.length clp, .slice alr rs.length clr] #[.int .i64 vn, .slice bvn vns.length dvn, .slice bvp vps.length dvp, .slice bve ves.length dve])
 have HSZ := hid hsz
 rw [putV_1] at *
 simp only [Val.n] at *
 clear hl hv hsz hw hel hwf hln hlp hlr gvn gvp gve
 go_enter Tryz.func50, Tryz.ntmps50
 go_wp2_with fail
 rw [beqI]
 refine (wBool_any B rv bs (decide (vn = 1)) _ HST.out.wrt (by have := HSZ.out; omega)).mono ?_
 rintro e w1 ⟨rfl, hp⟩
 have HP := hid (HST.out.fin hp)
 clear hp
 go_wp2_with fail
 go_end0
 exact ⟨rfl, HP.out⟩
theorem write_2 (l : Lat) (v : Val) (hk : l.kind = 2) (hwf : WfL l) (hel : elemB l v = true) : WriteOk l v := by
 intro B rv bs cl cv w hl hv hw hsz
 obtain ⟨aln, cln, alp, clp, alr, clr, rfl, hli, hln, hlp, hlr, ⟨_, mln⟩, ⟨_, mlp⟩, _, mlr⟩ := latRd.lay hl
 obtain ⟨bvn, dvn, bvp, dvp, bve, dve, rfl, gvi, gvn, gvp, gve, ⟨_, nvn⟩, ⟨_, nvp⟩, _, nve⟩ := valRd.lay hv
 have HWF := hid hwf
 obtain ⟨k, lo, hi, ns, ps, rs⟩ := l
 obtain ⟨vn, vns, vps, ves⟩ := v
 simp only [Lat.kind, Lat.lo, Lat.hi, Lat.names, Lat.parts, Lat.rules, Val.n, Val.names, Val.parts, Val.entries] at *
 subst hk
 have HST := hid (WtSt.start hw #[.int .i64 2, .int .i64 lo, .int .i64 hi, .slice aln ns.length cln, .slice alp ps.length clp, .slice alr rs.length clr] #[.int .i64 vn, .slice bvn vns.length dvn, .slice bvp vps.length dvp, .slice bve ves.length dve])
 have HSZ := hid hsz
 rw [putV_23 (by omega)] at *
 simp only [Val.n] at *
 have HI := hid gvi
 clear hl hv hsz hw hel hwf hln hlp hlr gvn gvp gve gvi
 go_enter Tryz.func50, Tryz.ntmps50
 go_wp2_with fail
 refine (wInt_any B rv bs vn _ HST.out.wrt HI.out (by have := HSZ.out; omega)).mono ?_
 rintro e w1 ⟨rfl, hp⟩
 have HP := hid (HST.out.fin hp)
 clear hp
 go_wp2_with fail
 go_end0
 exact ⟨rfl, HP.out⟩
theorem write_3 (l : Lat) (v : Val) (hk : l.kind = 3) (hwf : WfL l) (hel : elemB l v = true) : WriteOk l v := by
 intro B rv bs cl cv w hl hv hw hsz
 obtain ⟨aln, cln, alp, clp, alr, clr, rfl, hli, hln, hlp, hlr, ⟨_, mln⟩, ⟨_, mlp⟩, _, mlr⟩ := latRd.lay hl
 obtain ⟨bvn, dvn, bvp, dvp, bve, dve, rfl, gvi, gvn, gvp, gve, ⟨_, nvn⟩, ⟨_, nvp⟩, _, nve⟩ := valRd.lay hv
 have HWF := hid hwf
 obtain ⟨k, lo, hi, ns, ps, rs⟩ := l
 obtain ⟨vn, vns, vps, ves⟩ := v
 simp only [Lat.kind, Lat.lo, Lat.hi, Lat.names, Lat.parts, Lat.rules, Val.n, Val.names, Val.parts, Val.entries] at *
 subst hk
 have HST := hid (WtSt.start hw #[.int .i64 3, .int .i64 lo, .int .i64 hi, .slice aln ns.length cln, .slice alp ps.length clp, .slice alr rs.length clr] #[.int .i64 vn, .slice bvn vns.length dvn, .slice bvp vps.length dvp, .slice bve ves.length dve])
 have HSZ := hid hsz
 rw [putV_23 (by omega)] at *
 simp only [Val.n] at *
 have HI := hid gvi
 clear hl hv hsz hw hel hwf hln hlp hlr gvn gvp gve gvi
 go_enter Tryz.func50, Tryz.ntmps50
 go_wp2_with fail
 refine (wInt_any B rv bs vn _ HST.out.wrt HI.out (by have := HSZ.out; omega)).mono ?_
 rintro e w1 ⟨rfl, hp⟩
 have HP := hid (HST.out.fin hp)
 clear hp
 go_wp2_with fail
 go_end0
 exact ⟨rfl, HP.out⟩
theorem write_8 (l : Lat) (v : Val) (hk : l.kind = 8) (hwf : WfL l) (hel : elemB l v = true) : WriteOk l v := by
 intro B rv bs cl cv w hl hv hw hsz
 obtain ⟨aln, cln, alp, clp, alr, clr, rfl, hli, hln, hlp, hlr, ⟨_, mln⟩, ⟨_, mlp⟩, _, mlr⟩ := latRd.lay hl
 obtain ⟨bvn, dvn, bvp, dvp, bve, dve, rfl, gvi, gvn, gvp, gve, ⟨_, nvn⟩, ⟨_, nvp⟩, _, nve⟩ := valRd.lay hv
 have HWF := hid hwf
 obtain ⟨k, lo, hi, ns, ps, rs⟩ := l
 obtain ⟨vn, vns, vps, ves⟩ := v
 simp only [Lat.kind, Lat.lo, Lat.hi, Lat.names, Lat.parts, Lat.rules, Val.n, Val.names, Val.parts, Val.entries] at *
 subst hk
 have HST := hid (WtSt.start hw #[.int .i64 8, .int .i64 lo, .int .i64 hi, .slice aln ns.length cln, .slice alp ps.length clp, .slice alr rs.length clr] #[.int .i64 vn, .slice bvn vns.length dvn, .slice bvp vps.length dvp, .slice bve ves.length dve])
 have HSZ := hid hsz
 have hF : (vn = 0 ∨ vn = 2) ∨ (vn = 1 ∧ ∃ q, vns = [q] ∧ nameB q = true) := by
  have hu := isE_8.1 hel
  simp only [Val.n, Val.names, Val.parts, Val.entries] at hu
  rcases hu.2.2 with h | h | ⟨h, hq, ha⟩
  · exact .inl (.inl h.1)
  · exact .inl (.inr h.1)
  · obtain ⟨q, rfl⟩ := List.length_eq_one_iff.1 hq
    exact .inr ⟨h, q, rfl, allowed_names ha q (by simp)⟩
 have HVN := hid gvn
 clear hl hv hsz hw hel hwf hln hlp hlr gvn gvp gve gvi
 rcases hF with h02 | ⟨rfl, q, rfl, hq⟩
 · have e1 : putV (.mk 8 lo hi ns ps rs) (.mk vn vns vps ves) = uintE vn.toNat := by
    rw [putV_8, show (if (Val.mk vn vns vps ves).n = 1 then textE ((Val.mk vn vns vps ves).names.headD ByteArray.empty) else []) = [] from if_neg (by show ¬ vn = 1; omega), List.append_nil]
    rfl
   rw [e1]
   clear e1
   rcases h02 with rfl | rfl
   all_goals
    go_enter Tryz.func50, Tryz.ntmps50
    go_wp2_with fail
    refine (wUint_any B rv bs _ _ HST.out.wrt (by decide) (by have := HSZ.out; omega)).mono ?_
    rintro e w1 ⟨rfl, hp⟩
    obtain ⟨rv1, hst1⟩ := HST.out.call hp
    have HP := hid (HST.out.fin hp)
    have c0 := hst1.cellV (i := 0) rfl
    clear hp hst1
    go_wp2_with fail
    go_end0
    exact ⟨rfl, HP.out⟩
 · have e1 : putV (.mk 8 lo hi ns ps rs) (.mk 1 [q] vps ves) = uintE 1 ++ textE q := by rw [putV_8]; rfl
   rw [e1]
   have HSZ2 : Hid (bs.length + (uintE 1 ++ textE q).length ≤ 80000000) := hid (by rw [← e1]; exact HSZ.out)
   clear e1
   obtain ⟨qb, qo, rfl, hqc⟩ := strs_sub HVN.out 0 (by simp)
   have HQ := hid (name_small hq)
   simp only [List.getElem_cons_zero, Nat.add_zero] at hqc
   have HQC := hid hqc
   clear hq hqc
   go_enter Tryz.func50, Tryz.ntmps50
   go_wp2_with fail
   refine (wUint_any B rv bs 1 _ HST.out.wrt (by decide) (by have := HSZ.out; omega)).mono ?_
   rintro e w1 ⟨rfl, hp⟩
   obtain ⟨rv1, hst1⟩ := HST.out.call hp
   have ST1 := hid hst1
   have c0 := hst1.cellV (i := 0) rfl
   have c1 := hst1.cellV (i := 1) rfl
   have c2 := hst1.sub _ _ HQC.out
   clear hp hst1
   go_wp2_with fail
   refine (wText_any B rv1 (bs ++ uintE 1) q _ ST1.out.wrt (by have := HSZ2.out; simp only [List.length_append] at this ⊢; omega) HQ.out).mono ?_
   rintro e w2 ⟨rfl, hp⟩
   have HP := hid (ST1.out.fin hp)
   clear hp
   go_wp2_with fail
   go_end0
   exact ⟨rfl, by have := HP.out; rw [List.append_assoc] at this; exact this⟩
theorem write_4 (l : Lat) (v : Val) (hk : l.kind = 4) (hwf : WfL l) (hel : elemB l v = true) : WriteOk l v := by
 intro B rv bs cl cv w hl hv hw hsz
 obtain ⟨aln, cln, alp, clp, alr, clr, rfl, hli, hln, hlp, hlr, ⟨_, mln⟩, ⟨_, mlp⟩, _, mlr⟩ := latRd.lay hl
 obtain ⟨bvn, dvn, bvp, dvp, bve, dve, rfl, gvi, gvn, gvp, gve, ⟨_, nvn⟩, ⟨_, nvp⟩, _, nve⟩ := valRd.lay hv
 have HWF := hid hwf
 obtain ⟨k, lo, hi, ns, ps, rs⟩ := l
 obtain ⟨vn, vns, vps, ves⟩ := v
 simp only [Lat.kind, Lat.lo, Lat.hi, Lat.names, Lat.parts, Lat.rules, Val.n, Val.names, Val.parts, Val.entries] at *
 subst hk
 have HST := hid (WtSt.start hw #[.int .i64 4, .int .i64 lo, .int .i64 hi, .slice aln ns.length cln, .slice alp ps.length clp, .slice alr rs.length clr] #[.int .i64 vn, .slice bvn vns.length dvn, .slice bvp vps.length dvp, .slice bve ves.length dve])
 have HSZ := hid hsz
 rw [putV_410 (by omega)] at *
 simp only [Val.names] at *
 have hF : ∀ s ∈ vns, nameB s = true := allowed_names (isE_410 (by omega) hel).2
 have HVN := hid gvn
 have HNB := hid hF
 clear hl hv hw hel hwf hln hlp hlr gvn gvp gve gvi hF
 have HT : Hid ((bs ++ (uintE vns.length ++ vns.flatMap textE)).length ≤ 80000000) := hid (by rw [List.length_append]; exact hsz)
 generalize hT : bs ++ (uintE vns.length ++ vns.flatMap textE) = T at HT ⊢
 have HTE := hid hT
 clear hT hsz
 go_enter Tryz.func50, Tryz.ntmps50
 go_wp2_with fail
 refine (wUint_any B rv bs vns.length _ HST.out.wrt (by omega) (by have := HSZ.out; omega)).mono ?_
 rintro e w1 ⟨rfl, hp⟩
 obtain ⟨rv1, hst1⟩ := HST.out.call hp
 have ST1 := hid hst1
 have c1 := hst1.cellV (i := 1) rfl
 clear hp hst1
 go_wp2_with fail
 clear c1
 go_loopw [6, 7, 60] (fun _ _ i wr => ∃ (j : Nat) (rv1 : Value) (cur : List UInt8), j ≤ vns.length ∧ i = .int .i64 j ∧ Hid (WtSt w wr B rv rv1 cur #[.int .i64 4, .int .i64 lo, .int .i64 hi, .slice aln ns.length cln, .slice alp ps.length clp, .slice alr rs.length clr] #[.int .i64 vn, .slice bvn vns.length dvn, .slice bvp vps.length dvp, .slice bve ves.length dve]) ∧ Hid (cur ++ (vns.drop j).flatMap textE = T)) (fun _ _ i _ => vns.length - (intOf i).toNat)
 case atStart => exact ⟨0, rv1, _, Nat.zero_le _, rfl, ST1, hid (by rw [← HTE.out, List.append_assoc]; rfl)⟩
 case round =>
  obtain ⟨j, rv2, cur, hj, rfl, STW, He⟩ := hrel
  by_cases hlt : j < vns.length
  · obtain ⟨qb, qo, rfl, hqc⟩ := strs_sub HVN.out j hlt
    have c1 := STW.out.cellV (i := 1) rfl
    have c2 := STW.out.sub _ _ hqc
    have HQ := hid (name_small (HNB.out _ (List.getElem_mem hlt)))
    have HS : Hid ((cur ++ textE vns[j]) ++ (vns.drop (j + 1)).flatMap textE = T) := hid (by rw [← He.out, flatMap_drop textE vns j hlt, List.append_assoc])
    clear hqc
    go_wp2_with fail
    refine (wText_any B rv2 cur vns[j] _ STW.out.wrt (by have := part_le He.out HT.out; omega) HQ.out).mono ?_
    rintro e w2 ⟨rfl, hp⟩
    obtain ⟨rv3, hst3⟩ := STW.out.call hp
    have ST3 := hid hst3
    have c0 := hst3.cellL (i := 0) rfl
    clear hp hst3 c1 c2
    go_wp2_with fail
    go_roundw
    case rel => exact ⟨j + 1, rv3, _, by omega, by go_num, ST3, HS⟩
    case measure => simp [intOf]; omega
  · have HF : Hid (cur = T) := hid (by have := He.out; rw [show vns.drop j = [] from List.drop_eq_nil_of_le (by omega)] at this; simpa using this)
    have HP := hid STW.out.done
    rw [HF.out] at HP
    go_wp2_with fail
    go_end0
    exact ⟨rfl, HP.out⟩
theorem write_10 (l : Lat) (v : Val) (hk : l.kind = 10) (hwf : WfL l) (hel : elemB l v = true) : WriteOk l v := by
 intro B rv bs cl cv w hl hv hw hsz
 obtain ⟨aln, cln, alp, clp, alr, clr, rfl, hli, hln, hlp, hlr, ⟨_, mln⟩, ⟨_, mlp⟩, _, mlr⟩ := latRd.lay hl
 obtain ⟨bvn, dvn, bvp, dvp, bve, dve, rfl, gvi, gvn, gvp, gve, ⟨_, nvn⟩, ⟨_, nvp⟩, _, nve⟩ := valRd.lay hv
 have HWF := hid hwf
 obtain ⟨k, lo, hi, ns, ps, rs⟩ := l
 obtain ⟨vn, vns, vps, ves⟩ := v
 simp only [Lat.kind, Lat.lo, Lat.hi, Lat.names, Lat.parts, Lat.rules, Val.n, Val.names, Val.parts, Val.entries] at *
 subst hk
 have HST := hid (WtSt.start hw #[.int .i64 10, .int .i64 lo, .int .i64 hi, .slice aln ns.length cln, .slice alp ps.length clp, .slice alr rs.length clr] #[.int .i64 vn, .slice bvn vns.length dvn, .slice bvp vps.length dvp, .slice bve ves.length dve])
 have HSZ := hid hsz
 rw [putV_410 (by omega)] at *
 simp only [Val.names] at *
 have hF : ∀ s ∈ vns, nameB s = true := allowed_names (isE_410 (by omega) hel).2
 have HVN := hid gvn
 have HNB := hid hF
 clear hl hv hw hel hwf hln hlp hlr gvn gvp gve gvi hF
 have HT : Hid ((bs ++ (uintE vns.length ++ vns.flatMap textE)).length ≤ 80000000) := hid (by rw [List.length_append]; exact hsz)
 generalize hT : bs ++ (uintE vns.length ++ vns.flatMap textE) = T at HT ⊢
 have HTE := hid hT
 clear hT hsz
 go_enter Tryz.func50, Tryz.ntmps50
 go_wp2_with fail
 refine (wUint_any B rv bs vns.length _ HST.out.wrt (by omega) (by have := HSZ.out; omega)).mono ?_
 rintro e w1 ⟨rfl, hp⟩
 obtain ⟨rv1, hst1⟩ := HST.out.call hp
 have ST1 := hid hst1
 have c1 := hst1.cellV (i := 1) rfl
 clear hp hst1
 go_wp2_with fail
 clear c1
 go_loopw [6, 7, 60] (fun _ _ i wr => ∃ (j : Nat) (rv1 : Value) (cur : List UInt8), j ≤ vns.length ∧ i = .int .i64 j ∧ Hid (WtSt w wr B rv rv1 cur #[.int .i64 10, .int .i64 lo, .int .i64 hi, .slice aln ns.length cln, .slice alp ps.length clp, .slice alr rs.length clr] #[.int .i64 vn, .slice bvn vns.length dvn, .slice bvp vps.length dvp, .slice bve ves.length dve]) ∧ Hid (cur ++ (vns.drop j).flatMap textE = T)) (fun _ _ i _ => vns.length - (intOf i).toNat)
 case atStart => exact ⟨0, rv1, _, Nat.zero_le _, rfl, ST1, hid (by rw [← HTE.out, List.append_assoc]; rfl)⟩
 case round =>
  obtain ⟨j, rv2, cur, hj, rfl, STW, He⟩ := hrel
  by_cases hlt : j < vns.length
  · obtain ⟨qb, qo, rfl, hqc⟩ := strs_sub HVN.out j hlt
    have c1 := STW.out.cellV (i := 1) rfl
    have c2 := STW.out.sub _ _ hqc
    have HQ := hid (name_small (HNB.out _ (List.getElem_mem hlt)))
    have HS : Hid ((cur ++ textE vns[j]) ++ (vns.drop (j + 1)).flatMap textE = T) := hid (by rw [← He.out, flatMap_drop textE vns j hlt, List.append_assoc])
    clear hqc
    go_wp2_with fail
    refine (wText_any B rv2 cur vns[j] _ STW.out.wrt (by have := part_le He.out HT.out; omega) HQ.out).mono ?_
    rintro e w2 ⟨rfl, hp⟩
    obtain ⟨rv3, hst3⟩ := STW.out.call hp
    have ST3 := hid hst3
    have c0 := hst3.cellL (i := 0) rfl
    clear hp hst3 c1 c2
    go_wp2_with fail
    go_roundw
    case rel => exact ⟨j + 1, rv3, _, by omega, by go_num, ST3, HS⟩
    case measure => simp [intOf]; omega
  · have HF : Hid (cur = T) := hid (by have := He.out; rw [show vns.drop j = [] from List.drop_eq_nil_of_le (by omega)] at this; simpa using this)
    have HP := hid STW.out.done
    rw [HF.out] at HP
    go_wp2_with fail
    go_end0
    exact ⟨rfl, HP.out⟩
theorem latCs_low {w : World} {a : Option Addr} {n cap : Nat} {l : List Lat} (h : SlRd w 6 (latRd w) (.slice a n cap) l) (i : Nat) (hi : i < l.length) : ∃ b o an cn ap cp ar cr, a = some ⟨b, o, none⟩ ∧ latRd w l[i] [.int .i64 l[i].kind, .int .i64 l[i].lo, .int .i64 l[i].hi, .slice an l[i].names.length cn, .slice ap l[i].parts.length cp, .slice ar l[i].rules.length cr] ∧ CellsAt w b (o + i * 6) [.int .i64 l[i].kind, .int .i64 l[i].lo, .int .i64 l[i].hi, .slice an l[i].names.length cn, .slice ap l[i].parts.length cp, .slice ar l[i].rules.length cr] := by
 obtain ⟨b, o, cs, ha, _, hc, hr⟩ := h.at i hi
 have hr' := hr
 obtain ⟨axn, cxn, axp, cxp, axr, cxr, rfl, hxi, hxn, hxp, hxr, ⟨_, mxn⟩, ⟨_, mxp⟩, _, mxr⟩ := latRd.lay hr
 exact ⟨b, o, axn, cxn, axp, cxp, axr, cxr, ha, hr', hc⟩
theorem valCs_low {w : World} {a : Option Addr} {n cap : Nat} {l : List Val} (h : SlRd w 4 (valRd w) (.slice a n cap) l) (i : Nat) (hi : i < l.length) : ∃ b o bn dn bp dp be de, a = some ⟨b, o, none⟩ ∧ valRd w l[i] [.int .i64 l[i].n, .slice bn l[i].names.length dn, .slice bp l[i].parts.length dp, .slice be l[i].entries.length de] ∧ CellsAt w b (o + i * 4) [.int .i64 l[i].n, .slice bn l[i].names.length dn, .slice bp l[i].parts.length dp, .slice be l[i].entries.length de] := by
 obtain ⟨b, o, cs, ha, _, hc, hr⟩ := h.at i hi
 have hr' := hr
 obtain ⟨bxn, dxn, bxp, dxp, bxe, dxe, rfl, gxi, gxn, gxp, gxe, ⟨_, nxn⟩, ⟨_, nxp⟩, _, nxe⟩ := valRd.lay hr
 exact ⟨b, o, bxn, dxn, bxp, dxp, bxe, dxe, ha, hr', hc⟩
theorem CellsAt.four {w : World} {b o : Nat} {x0 x1 x2 x3 : Value} (h : CellsAt w b o [x0, x1, x2, x3]) : w.cell? ⟨b, o, none⟩ = some x0 ∧ w.cell? ⟨b, o + 1, none⟩ = some x1 ∧ w.cell? ⟨b, o + 2, none⟩ = some x2 ∧ w.cell? ⟨b, o + 3, none⟩ = some x3 :=
 ⟨h 0 (by simp), h 1 (by simp), h 2 (by simp), h 3 (by simp)⟩
theorem putVs_drop (ps : List Lat) (vs : List Val) (j : Nat) (h : j < ps.length) (h' : j < vs.length) : putVs (ps.drop j) (vs.drop j) = putV ps[j] vs[j] ++ putVs (ps.drop (j + 1)) (vs.drop (j + 1)) := by
 rw [List.drop_eq_getElem_cons h, List.drop_eq_getElem_cons h', putVs]
theorem putVs_nil (vs : List Val) : putVs [] vs = [] := by rw [putVs]
theorem write_6 (l : Lat) (v : Val) (hk : l.kind = 6) (hwf : WfL l) (hel : elemB l v = true) (ih : ∀ p ∈ l.parts, ∀ v, elemB p v = true → WriteOk p v) : WriteOk l v := by
 intro B rv bs cl cv w hl hv hw hsz
 obtain ⟨aln, cln, alp, clp, alr, clr, rfl, hli, hln, hlp, hlr, ⟨_, mln⟩, ⟨_, mlp⟩, _, mlr⟩ := latRd.lay hl
 obtain ⟨bvn, dvn, bvp, dvp, bve, dve, rfl, gvi, gvn, gvp, gve, ⟨_, nvn⟩, ⟨_, nvp⟩, _, nve⟩ := valRd.lay hv
 have HWF := hid hwf
 obtain ⟨k, lo, hi, ns, ps, rs⟩ := l
 obtain ⟨vn, vns, vps, ves⟩ := v
 simp only [Lat.kind, Lat.lo, Lat.hi, Lat.names, Lat.parts, Lat.rules, Val.n, Val.names, Val.parts, Val.entries] at *
 subst hk
 have HST := hid (WtSt.start hw #[.int .i64 6, .int .i64 lo, .int .i64 hi, .slice aln ns.length cln, .slice alp ps.length clp, .slice alr rs.length clr] #[.int .i64 vn, .slice bvn vns.length dvn, .slice bvp vps.length dvp, .slice bve ves.length dve])
 have HSZ := hid hsz
 rw [putV_67 (by omega)] at *
 simp only [Val.parts] at *
 have hF := (isE_67 (by omega)).1 hel
 simp only [Val.n, Val.names, Val.parts, Val.entries] at hF
 have hlen := hF.2.1
 have hes := hF.2.2
 have HLEN := hid hlen
 have HES := hid ((elemsB_iff ps vps hlen).1 hes)
 have IH := hid ih
 have HLP := hid hlp
 have HVP := hid gvp
 clear hl hv hw hel hwf hln hlp hlr gvn gvp gve gvi hes hlen ih hF
 have HT : Hid ((bs ++ putVs ps vps).length ≤ 80000000) := hid (by rw [List.length_append]; exact hsz)
 generalize hT : bs ++ putVs ps vps = T at HT ⊢
 have HTE := hid hT
 clear hT hsz
 go_enter Tryz.func50, Tryz.ntmps50
 go_wp2_with fail
 go_loopw [12, 13, 19] (fun _ _ i wr => ∃ (j : Nat) (rv1 : Value) (cur : List UInt8), j ≤ vps.length ∧ i = .int .i64 j ∧ Hid (WtSt w wr B rv rv1 cur #[.int .i64 6, .int .i64 lo, .int .i64 hi, .slice aln ns.length cln, .slice alp ps.length clp, .slice alr rs.length clr] #[.int .i64 vn, .slice bvn vns.length dvn, .slice bvp vps.length dvp, .slice bve ves.length dve]) ∧ Hid (cur ++ putVs (ps.drop j) (vps.drop j) = T)) (fun _ _ i _ => vps.length - (intOf i).toNat)
 case atStart => exact ⟨0, rv, bs, Nat.zero_le _, rfl, HST, HTE⟩
 case round =>
  obtain ⟨j, rv2, cur, hj, rfl, STW, He⟩ := hrel
  by_cases hlt : j < vps.length
  · have hlt' : j < ps.length := by have := HLEN.out; omega
    obtain ⟨vb, vo, xn, xcn, xp, xcp, xe, xce, rfl, hxr, hxc⟩ := valCs_low HVP.out j hlt
    obtain ⟨lb, lo2, yn, ycn, yp, ycp, yr, ycr, rfl, hyr, hyc⟩ := latCs_low HLP.out j hlt'
    obtain ⟨x0, x1, x2, x3⟩ := (hxc.mono STW.out.sub).four
    have HXR := hid hxr
    have HYR := hid hyr
    have HYC := hid hyc
    have HS : Hid ((cur ++ putV ps[j] vps[j]) ++ putVs (ps.drop (j + 1)) (vps.drop (j + 1)) = T) := hid (by rw [← He.out, putVs_drop ps vps j hlt' hlt, List.append_assoc])
    have HSB : Hid (cur.length + (putV ps[j] vps[j]).length ≤ 80000000) := hid (by have := part_le HS.out HT.out; rw [List.length_append] at this; exact this)
    have HEL := hid (HES.out j hlt' hlt)
    have HJ : Hid (j + 1 ≤ vps.length) := hid hlt
    clear hxr hxc hyr hyc
    have hst := STW.out.cellV (i := 2) rfl
    go_wp2_with fail
    have ST2 := hid (STW.out.alloc (.cells #[.int .i64 vps[j].n, .slice xn vps[j].names.length xcn, .slice xp vps[j].parts.length xcp, .slice xe vps[j].entries.length xce] 30 (0, 0)))
    have HBX : Hid (∀ (i : Nat) (v : Value), #[.int .i64 vps[j].n, .slice xn vps[j].names.length xcn, .slice xp vps[j].parts.length xcp, .slice xe vps[j].entries.length xce][i]? = some v → (wr.alloc (.cells #[.int .i64 vps[j].n, .slice xn vps[j].names.length xcn, .slice xp vps[j].parts.length xcp, .slice xe vps[j].entries.length xce] 30 (0, 0))).cell? ⟨wr.heap.size, i, none⟩ = some v) := hid fun i v hv => by
      rw [World.cell?_alloc_at _ _ _ _ rfl]; exact hv
    have g0 := HBX.out 0 _ rfl
    have g1 := HBX.out 1 _ rfl
    have g2 := HBX.out 2 _ rfl
    have g3 := HBX.out 3 _ rfl
    have k4 := ST2.out.cellL (i := 4) rfl
    obtain ⟨y0, y1, y2, y3, y4, y5⟩ := (HYC.out.mono ST2.out.sub).six
    clear x0 x1 x2 x3 hst HBX
    generalize wr.alloc (.cells #[.int .i64 vps[j].n, .slice xn vps[j].names.length xcn, .slice xp vps[j].parts.length xcp, .slice xe vps[j].entries.length xce] 30 (0, 0)) = w6 at ST2 g0 g1 g2 g3 k4 y0 y1 y2 y3 y4 y5 ⊢
    go_region_law
     (go_simp
      go_at_call 50
      refine (IH.out ps[j] (List.getElem_mem hlt') vps[j] HEL.out B rv2 cur [.int .i64 ps[j].kind, .int .i64 ps[j].lo, .int .i64 ps[j].hi, .slice yn ps[j].names.length ycn, .slice yp ps[j].parts.length ycp, .slice yr ps[j].rules.length ycr] [.int .i64 vps[j].n, .slice xn vps[j].names.length xcn, .slice xp vps[j].parts.length xcp, .slice xe vps[j].entries.length xce] _ (latRd.mono (ST2.out.drewN _).low _ _ HYR.out) (valRd.mono (ST2.out.drewN _).low _ _ HXR.out) (ST2.out.drewN _).wrt HSB.out).mono ?_
      rintro e w7 ⟨rfl, hp⟩
      obtain ⟨rv3, hst3⟩ := (ST2.out.drewN _).call hp
      have ST3 := hid hst3
      clear hp hst3)
    all_goals
     clear g0 g1 g2 g3 k4 y0 y1 y2 y3 y4 y5
     go_wp2_with fail
     go_roundw
     case rel => exact ⟨j + 1, rv3, _, HJ.out, by go_num, ST3, HS⟩
     case measure => simp [intOf]; omega
  · have HF : Hid (cur = T) := hid (by have := He.out; rw [show ps.drop j = [] from List.drop_eq_nil_of_le (by have := HLEN.out; omega), putVs_nil, List.append_nil] at this; exact this)
    have HP := hid STW.out.done
    rw [HF.out] at HP
    go_wp2_with fail
    go_end0
    exact ⟨rfl, HP.out⟩
theorem write_7 (l : Lat) (v : Val) (hk : l.kind = 7) (hwf : WfL l) (hel : elemB l v = true) (ih : ∀ p ∈ l.parts, ∀ v, elemB p v = true → WriteOk p v) : WriteOk l v := by
 intro B rv bs cl cv w hl hv hw hsz
 obtain ⟨aln, cln, alp, clp, alr, clr, rfl, hli, hln, hlp, hlr, ⟨_, mln⟩, ⟨_, mlp⟩, _, mlr⟩ := latRd.lay hl
 obtain ⟨bvn, dvn, bvp, dvp, bve, dve, rfl, gvi, gvn, gvp, gve, ⟨_, nvn⟩, ⟨_, nvp⟩, _, nve⟩ := valRd.lay hv
 have HWF := hid hwf
 obtain ⟨k, lo, hi, ns, ps, rs⟩ := l
 obtain ⟨vn, vns, vps, ves⟩ := v
 simp only [Lat.kind, Lat.lo, Lat.hi, Lat.names, Lat.parts, Lat.rules, Val.n, Val.names, Val.parts, Val.entries] at *
 subst hk
 have HST := hid (WtSt.start hw #[.int .i64 7, .int .i64 lo, .int .i64 hi, .slice aln ns.length cln, .slice alp ps.length clp, .slice alr rs.length clr] #[.int .i64 vn, .slice bvn vns.length dvn, .slice bvp vps.length dvp, .slice bve ves.length dve])
 have HSZ := hid hsz
 rw [putV_67 (by omega)] at *
 simp only [Val.parts] at *
 have hF := (isE_67 (by omega)).1 hel
 simp only [Val.n, Val.names, Val.parts, Val.entries] at hF
 have hlen := hF.2.1
 have hes := hF.2.2
 have HLEN := hid hlen
 have HES := hid ((elemsB_iff ps vps hlen).1 hes)
 have IH := hid ih
 have HLP := hid hlp
 have HVP := hid gvp
 clear hl hv hw hel hwf hln hlp hlr gvn gvp gve gvi hes hlen ih hF
 have HT : Hid ((bs ++ putVs ps vps).length ≤ 80000000) := hid (by rw [List.length_append]; exact hsz)
 generalize hT : bs ++ putVs ps vps = T at HT ⊢
 have HTE := hid hT
 clear hT hsz
 go_enter Tryz.func50, Tryz.ntmps50
 go_wp2_with fail
 go_loopw [12, 13, 19] (fun _ _ i wr => ∃ (j : Nat) (rv1 : Value) (cur : List UInt8), j ≤ vps.length ∧ i = .int .i64 j ∧ Hid (WtSt w wr B rv rv1 cur #[.int .i64 7, .int .i64 lo, .int .i64 hi, .slice aln ns.length cln, .slice alp ps.length clp, .slice alr rs.length clr] #[.int .i64 vn, .slice bvn vns.length dvn, .slice bvp vps.length dvp, .slice bve ves.length dve]) ∧ Hid (cur ++ putVs (ps.drop j) (vps.drop j) = T)) (fun _ _ i _ => vps.length - (intOf i).toNat)
 case atStart => exact ⟨0, rv, bs, Nat.zero_le _, rfl, HST, HTE⟩
 case round =>
  obtain ⟨j, rv2, cur, hj, rfl, STW, He⟩ := hrel
  by_cases hlt : j < vps.length
  · have hlt' : j < ps.length := by have := HLEN.out; omega
    obtain ⟨vb, vo, xn, xcn, xp, xcp, xe, xce, rfl, hxr, hxc⟩ := valCs_low HVP.out j hlt
    obtain ⟨lb, lo2, yn, ycn, yp, ycp, yr, ycr, rfl, hyr, hyc⟩ := latCs_low HLP.out j hlt'
    obtain ⟨x0, x1, x2, x3⟩ := (hxc.mono STW.out.sub).four
    have HXR := hid hxr
    have HYR := hid hyr
    have HYC := hid hyc
    have HS : Hid ((cur ++ putV ps[j] vps[j]) ++ putVs (ps.drop (j + 1)) (vps.drop (j + 1)) = T) := hid (by rw [← He.out, putVs_drop ps vps j hlt' hlt, List.append_assoc])
    have HSB : Hid (cur.length + (putV ps[j] vps[j]).length ≤ 80000000) := hid (by have := part_le HS.out HT.out; rw [List.length_append] at this; exact this)
    have HEL := hid (HES.out j hlt' hlt)
    have HJ : Hid (j + 1 ≤ vps.length) := hid hlt
    clear hxr hxc hyr hyc
    have hst := STW.out.cellV (i := 2) rfl
    go_wp2_with fail
    have ST2 := hid (STW.out.alloc (.cells #[.int .i64 vps[j].n, .slice xn vps[j].names.length xcn, .slice xp vps[j].parts.length xcp, .slice xe vps[j].entries.length xce] 30 (0, 0)))
    have HBX : Hid (∀ (i : Nat) (v : Value), #[.int .i64 vps[j].n, .slice xn vps[j].names.length xcn, .slice xp vps[j].parts.length xcp, .slice xe vps[j].entries.length xce][i]? = some v → (wr.alloc (.cells #[.int .i64 vps[j].n, .slice xn vps[j].names.length xcn, .slice xp vps[j].parts.length xcp, .slice xe vps[j].entries.length xce] 30 (0, 0))).cell? ⟨wr.heap.size, i, none⟩ = some v) := hid fun i v hv => by
      rw [World.cell?_alloc_at _ _ _ _ rfl]; exact hv
    have g0 := HBX.out 0 _ rfl
    have g1 := HBX.out 1 _ rfl
    have g2 := HBX.out 2 _ rfl
    have g3 := HBX.out 3 _ rfl
    have k4 := ST2.out.cellL (i := 4) rfl
    obtain ⟨y0, y1, y2, y3, y4, y5⟩ := (HYC.out.mono ST2.out.sub).six
    clear x0 x1 x2 x3 hst HBX
    generalize wr.alloc (.cells #[.int .i64 vps[j].n, .slice xn vps[j].names.length xcn, .slice xp vps[j].parts.length xcp, .slice xe vps[j].entries.length xce] 30 (0, 0)) = w6 at ST2 g0 g1 g2 g3 k4 y0 y1 y2 y3 y4 y5 ⊢
    go_region_law
     (go_simp
      go_at_call 50
      refine (IH.out ps[j] (List.getElem_mem hlt') vps[j] HEL.out B rv2 cur [.int .i64 ps[j].kind, .int .i64 ps[j].lo, .int .i64 ps[j].hi, .slice yn ps[j].names.length ycn, .slice yp ps[j].parts.length ycp, .slice yr ps[j].rules.length ycr] [.int .i64 vps[j].n, .slice xn vps[j].names.length xcn, .slice xp vps[j].parts.length xcp, .slice xe vps[j].entries.length xce] _ (latRd.mono (ST2.out.drewN _).low _ _ HYR.out) (valRd.mono (ST2.out.drewN _).low _ _ HXR.out) (ST2.out.drewN _).wrt HSB.out).mono ?_
      rintro e w7 ⟨rfl, hp⟩
      obtain ⟨rv3, hst3⟩ := (ST2.out.drewN _).call hp
      have ST3 := hid hst3
      clear hp hst3)
    all_goals
     clear g0 g1 g2 g3 k4 y0 y1 y2 y3 y4 y5
     go_wp2_with fail
     go_roundw
     case rel => exact ⟨j + 1, rv3, _, HJ.out, by go_num, ST3, HS⟩
     case measure => simp [intOf]; omega
  · have HF : Hid (cur = T) := hid (by have := He.out; rw [show ps.drop j = [] from List.drop_eq_nil_of_le (by have := HLEN.out; omega), putVs_nil, List.append_nil] at this; exact this)
    have HP := hid STW.out.done
    rw [HF.out] at HP
    go_wp2_with fail
    go_end0
    exact ⟨rfl, HP.out⟩
end Go.Proofs.YtmdjnaobllajmaaGreatDoor
