/-
  What the statements of the chapter share, part 14: VRd3, VRd4, VRd5.
-/
import Derived.Test.YtmdjnaobllajmaaGreatDoorX13
import Derived.Lib.SlBytesRow
set_option linter.unusedVariables false
set_option linter.unusedSimpArgs false
set_option maxRecDepth 100000
set_option maxHeartbeats 8000000
namespace Go.Proofs.YtmdjnaobllajmaaGreatDoor
open Go.RowKit
theorem and_one (n : Nat) (h : n < 18446744073709551616) : bits .and .u64 (n : Int) 1 = (n : Int) % 2 := Lib.u64_and1 _ (by omega) (by omega)
theorem i64_xor_zero (a : Nat) (ha : a < 9223372036854775808) : bits .xor .i64 (a : Int) 0 = (a : Int) := by
 show IntKind.i64.wrap ((BitVec.ofInt 64 (a : Int) ^^^ BitVec.ofInt 64 0).toNat : Int) = _
 have e0 : BitVec.ofInt 64 0 = 0#64 := rfl
 rw [e0, BitVec.xor_zero, BitVec.ofInt_natCast, BitVec.toNat_ofNat, IntKind.wrap_i64]
 omega
theorem unzz_bits (n : Nat) (h : n < 18446744073709551616) : bits .xor .i64 ((n : Int) / 2) (-((n : Int) % 2)) = unzz n := by
 unfold unzz
 by_cases h0 : n % 2 = 0
 · rw [if_pos h0]
   have e : -((n : Int) % 2) = 0 := by omega
   rw [e]
   have e2 : (n : Int) / 2 = ((n / 2 : Nat) : Int) := by omega
   rw [e2]
   exact i64_xor_zero (n / 2) (by omega)
 · rw [if_neg h0]
   have e : -((n : Int) % 2) = -1 := by omega
   rw [e]
   have e2 : (n : Int) / 2 = ((n / 2 : Nat) : Int) := by omega
   rw [e2]
   have hc : bits .xor .i64 ((n / 2 : Nat) : Int) (-1) = bits .xor .i64 (-1) ((n / 2 : Nat) : Int) := by
    unfold bits
    simp only
    rw [BitVec.xor_comm]
   rw [hc, Lib.i64_not _ (by omega)]
theorem rInt_any (B : Nat) (v : Value) (s : RS) (w : World) (h : RdAt w B v s) (hl : s.data.length ≤ 1000000000) :
 Calls Tryz.prog 89 #[.pointer (some ⟨B, 0, none⟩)] w fun e w' => e = .returned (.int .i64 (rdInt s).1) ∧ RdPost B v (rdInt s).2 w w' := by
 have HU := hid (rUint_any B v s w h hl)
 have hb := (rdUint_ok h.ok).2.2
 have HI : Hid ((rdInt s).1 = unzz (rdUint s).1 ∧ (rdInt s).2 = (rdUint s).2) := hid ⟨rfl, rfl⟩
 generalize rdInt s = ri at HI ⊢
 generalize rdUint s = ru at HI HU hb
 obtain ⟨n, s'⟩ := ru
 simp only at HI HU hb
 have HB := hid hb
 have h1 := and_one n hb
 have h2 := unzz_bits n hb
 clear h hl
 have hn0 : (n : Int) / 2 ≤ 9223372036854775807 := by omega
 clear hb
 have H1 := hid h1
 have H2 := hid h2
 clear h2
 go_enter Tryz.func89, Tryz.ntmps89
 go_wp2_with fail
 refine HU.out.mono ?_
 rintro e w1 ⟨rfl, hp⟩
 have HP := hid hp
 clear hp
 go_wp2_with fail
 go_ret
 refine ⟨?_, by rw [HI.out.2]; exact HP.out⟩
 rw [HI.out.1, ← H2.out]
 rfl
theorem rCount_any (B : Nat) (v : Value) (s : RS) (w : World) (h : RdAt w B v s) (hl : s.data.length ≤ 1000000000) :
 Calls Tryz.prog 90 #[.pointer (some ⟨B, 0, none⟩)] w fun e w' => e = .returned (.int .i64 (rdCount s).1) ∧ RdPost B v (rdCount s).2 w w' := by
 obtain ⟨a, cap, rfl, _⟩ := h.shape
 by_cases he : s.err = 0
 rotate_left
 · have HR : Hid (rdCount s = (0, s)) := hid (by unfold rdCount; rw [if_pos he])
   have HBG := hid (begin_no B _ s w h he)
   have HW := hid h
   clear h he hl
   go_enter Tryz.func90, Tryz.ntmps90
   go_wp2_with fail
   refine HBG.out.mono ?_
   rintro e w1 ⟨rfl, rfl⟩
   go_wp2_with fail
   go_ret
   exact ⟨by rw [HR.out]; rfl, by rw [HR.out]; exact ⟨HW.out, But.refl _ _⟩⟩
 cases hn : s.num with
 | none =>
   have HR : Hid (rdCount s = (0, s.bad)) := hid (by unfold rdCount; rw [if_neg (fun h => h he), hn])
   have HBG := hid (begin_ok B _ s w h he)
   have HNM := hid (fun W (hW : RdAt W B (.slice a s.data.length cap) s.begun) => number_none B (.slice a s.data.length cap) s.begun W hW hl hn)
   clear h he hl hn
   go_enter Tryz.func90, Tryz.ntmps90
   go_wp2_with fail
   refine HBG.out.mono ?_
   rintro e w1 ⟨rfl, hw1, hb1⟩
   have HW1 := hid hw1
   have HB1 := hid hb1
   clear hw1 hb1
   go_wp2_with fail
   refine (HNM.out _ HW1.out).mono ?_
   rintro e w2 ⟨N, X, rfl, q, rfl⟩
   have HW2 := hid (rd_drewN HW1.out q)
   have HB2 := hid (HB1.out.trans (but_drewN B w1 q))
   have c0 : (w1.drewN q).cell? ⟨B, 0, none⟩ = some (.slice a s.data.length cap) := HW2.out.cell 0
   have c1 : (w1.drewN q).cell? ⟨B, 1, none⟩ = some (.int .i64 s.pos) := HW2.out.cell 1
   have c3 : (w1.drewN q).cell? ⟨B, 3, none⟩ = some (.int .i64 s.err) := HW2.out.cell 3
   have z1 := HW2.out.free 1
   have z3 := HW2.out.free 3
   have HP := hid (bad_set HW2.out)
   go_wp2_with fail
   go_ret
   exact ⟨by rw [HR.out]; rfl, by rw [HR.out]; exact RdPost.trans HB2.out HP.out⟩
 | some p =>
   obtain ⟨n, c⟩ := p
   have hc := (RS.num_some hn h.ok.pos).1
   have hn64 := (RS.num_some hn h.ok.pos).2.2.2
   have HBG := hid (begin_ok B _ s w h he)
   have HNM : Hid (∀ W, RdAt W B (.slice a s.data.length cap) s.begun → Calls Tryz.prog 132 #[.pointer (some ⟨B, 0, none⟩)] W fun e w' => e = .returned (.tuple #[.int .u64 n, .int .i64 ((s.pos : Int) + (c : Int)), .bool true]) ∧ ∃ q, w' = W.drewN q) := hid fun W hW => number_some B (.slice a s.data.length cap) s.begun W hW hl hn
   have HC := hid hc
   have hw1 : IntKind.i64.wrap ((s.data.length : Int) - ((s.pos : Int) + (c : Int))) = (s.data.length : Int) - ((s.pos : Int) + (c : Int)) := IntWalk.i64_in _ (by omega)
   have hw2 : IntKind.u64.wrap ((s.data.length : Int) - ((s.pos : Int) + (c : Int))) = (s.data.length : Int) - ((s.pos : Int) + (c : Int)) := by rw [IntKind.wrap_u64]; omega
   have hnn : (0 : Int) ≤ (s.data.length : Int) - ((s.pos : Int) + (c : Int)) := by omega
   have hln : (s.data.length : Int) ≤ 1000000000 := by omega
   have hpn : (s.pos : Int) + (c : Int) ≤ (s.data.length : Int) := by omega
   by_cases hb : s.data.length - (s.pos + c) < n
   · have HR : Hid (rdCount s = (0, s.bad)) := hid (by unfold rdCount; rw [if_neg (fun h => h he), hn]; exact if_pos hb)
     have hd : decide ((s.data.length : Int) - ((s.pos : Int) + (c : Int)) < (n : Int)) = true := decide_eq_true (by omega)
     clear h he hl hn hc hb hn64
     go_enter Tryz.func90, Tryz.ntmps90
     go_wp2_with fail
     refine HBG.out.mono ?_
     rintro e w1 ⟨rfl, hw1, hb1⟩
     have HW1 := hid hw1
     have HB1 := hid hb1
     clear hw1 hb1
     go_wp2_with fail
     refine (HNM.out _ HW1.out).mono ?_
     rintro e w2 ⟨rfl, q, rfl⟩
     have HW2 := hid (rd_drewN HW1.out q)
     have HB2 := hid (HB1.out.trans (but_drewN B w1 q))
     have c0 : (w1.drewN q).cell? ⟨B, 0, none⟩ = some (.slice a s.data.length cap) := HW2.out.cell 0
     have c1 : (w1.drewN q).cell? ⟨B, 1, none⟩ = some (.int .i64 s.pos) := HW2.out.cell 1
     have c3 : (w1.drewN q).cell? ⟨B, 3, none⟩ = some (.int .i64 s.err) := HW2.out.cell 3
     have z1 := HW2.out.free 1
     have z3 := HW2.out.free 3
     have HP := hid (bad_set HW2.out)
     go_wp2_with fail
     go_ret
     exact ⟨by rw [HR.out]; rfl, by rw [HR.out]; exact RdPost.trans HB2.out HP.out⟩
   · have HR : Hid (rdCount s = (n, s.go c)) := hid (by unfold rdCount; rw [if_neg (fun h => h he), hn]; exact if_neg hb)
     have hd : decide ((s.data.length : Int) - ((s.pos : Int) + (c : Int)) < (n : Int)) = false := decide_eq_false (by omega)
     have hn9 : (n : Int) ≤ 1000000000 := by omega
     clear h he hl hn hc hb hn64
     go_enter Tryz.func90, Tryz.ntmps90
     go_wp2_with fail
     refine HBG.out.mono ?_
     rintro e w1 ⟨rfl, hw1, hb1⟩
     have HW1 := hid hw1
     have HB1 := hid hb1
     clear hw1 hb1
     go_wp2_with fail
     refine (HNM.out _ HW1.out).mono ?_
     rintro e w2 ⟨rfl, q, rfl⟩
     have HW2 := hid (rd_drewN HW1.out q)
     have HB2 := hid (HB1.out.trans (but_drewN B w1 q))
     have c0 : (w1.drewN q).cell? ⟨B, 0, none⟩ = some (.slice a s.data.length cap) := HW2.out.cell 0
     have c1 : (w1.drewN q).cell? ⟨B, 1, none⟩ = some (.int .i64 s.pos) := HW2.out.cell 1
     have c3 : (w1.drewN q).cell? ⟨B, 3, none⟩ = some (.int .i64 s.err) := HW2.out.cell 3
     have z1 := HW2.out.free 1
     have z3 := HW2.out.free 3
     have HP := hid (go_set HW2.out c HC.out)
     go_wp2_with fail
     go_ret
     exact ⟨by rw [HR.out]; rfl, by rw [HR.out]; exact RdPost.trans HB2.out HP.out⟩
theorem rBool_any (B : Nat) (v : Value) (s : RS) (w : World) (h : RdAt w B v s) (hl : s.data.length ≤ 1000000000) :
 Calls Tryz.prog 88 #[.pointer (some ⟨B, 0, none⟩)] w fun e w' => e = .returned (.bool (rdBool s).1) ∧ RdPost B v (rdBool s).2 w w' := by
 obtain ⟨a, cap, rfl, _⟩ := h.shape
 by_cases he : s.err = 0
 rotate_left
 · have HR : Hid (rdBool s = (false, s)) := hid (by unfold rdBool; rw [if_pos he])
   have HBG := hid (begin_no B _ s w h he)
   have HW := hid h
   clear h he hl
   go_enter Tryz.func88, Tryz.ntmps88
   go_wp2_with fail
   refine HBG.out.mono ?_
   rintro e w1 ⟨rfl, rfl⟩
   go_wp2_with fail
   go_ret
   exact ⟨by rw [HR.out]; rfl, by rw [HR.out]; exact ⟨HW.out, But.refl _ _⟩⟩
 have HBG := hid (begin_ok B _ s w h he)
 have hpos := h.ok.pos
 by_cases hlt : s.pos < s.data.length
 · have hg : s.data[s.pos]? = some s.data[s.pos] := List.getElem?_eq_getElem hlt
   have hne : ((s.pos : Int) == (s.data.length : Int)) = false := by simp; omega
   have hbl : s.data[s.pos].toNat < 256 := s.data[s.pos].toNat_lt
   have hi1 : (s.pos : Int) < (s.data.length : Int) := by omega
   have hw1 : IntKind.i64.wrap ((s.pos : Int) + 1) = (s.pos : Int) + 1 := IntWalk.i64_in _ (by omega)
   by_cases hb : 1 < s.data[s.pos].toNat
   · have HR : Hid (rdBool s = (false, s.bad)) := hid (by unfold rdBool; rw [if_neg (fun h => h he), hg]; exact if_pos hb)
     have hd : decide ((1 : Int) < (s.data[s.pos].toNat : Int)) = true := decide_eq_true (by omega)
     clear h he hl hg hb
     go_enter Tryz.func88, Tryz.ntmps88
     go_wp2_with fail
     refine HBG.out.mono ?_
     rintro e w1 ⟨rfl, hw1, hb1⟩
     have HW1 := hid hw1
     have HB1 := hid hb1
     obtain ⟨b, o, rfl, hcell⟩ := hw1.byte s.pos hlt
     have hcell' : w1.cell? ⟨b, o + s.pos, none⟩ = some (.int .u8 s.data[s.pos].toNat) := hcell
     clear hw1 hb1 hcell
     have c0 : w1.cell? ⟨B, 0, none⟩ = some (.slice (some ⟨b, o, none⟩) s.data.length cap) := HW1.out.cell 0
     have c1 : w1.cell? ⟨B, 1, none⟩ = some (.int .i64 s.pos) := HW1.out.cell 1
     go_wp2_with fail
     go_quiet (fail)
     have HW2 := hid (rd_drewN HW1.out nq)
     have HB2 := hid (HB1.out.trans (but_drewN B w1 nq))
     have c3 : (w1.drewN nq).cell? ⟨B, 3, none⟩ = some (.int .i64 s.err) := HW2.out.cell 3
     have z3 := HW2.out.free 3
     have HP := hid (bad_set HW2.out)
     go_wp2_with fail
     go_ret
     exact ⟨by rw [HR.out]; rfl, by rw [HR.out]; exact RdPost.trans HB2.out HP.out⟩
   · have HR : Hid (rdBool s = (decide (s.data[s.pos].toNat = 1), s.go 1)) := hid (by unfold rdBool; rw [if_neg (fun h => h he), hg]; exact if_neg hb)
     have hd : decide ((1 : Int) < (s.data[s.pos].toNat : Int)) = false := decide_eq_false (by omega)
     clear h he hl hg hb
     go_enter Tryz.func88, Tryz.ntmps88
     go_wp2_with fail
     refine HBG.out.mono ?_
     rintro e w1 ⟨rfl, hw1, hb1⟩
     have HW1 := hid hw1
     have HB1 := hid hb1
     obtain ⟨b, o, rfl, hcell⟩ := hw1.byte s.pos hlt
     have hcell' : w1.cell? ⟨b, o + s.pos, none⟩ = some (.int .u8 s.data[s.pos].toNat) := hcell
     have HCE := hid hcell'
     clear hw1 hb1 hcell
     have c0 : w1.cell? ⟨B, 0, none⟩ = some (.slice (some ⟨b, o, none⟩) s.data.length cap) := HW1.out.cell 0
     have c1 : w1.cell? ⟨B, 1, none⟩ = some (.int .i64 s.pos) := HW1.out.cell 1
     go_wp2_with fail
     go_quiet (fail)
     have HW2 := hid (rd_drewN HW1.out nq)
     have HB2 := hid (HB1.out.trans (but_drewN B w1 nq))
     have z1 := HW2.out.free 1
     have hs1 : ((s.pos : Int) + ((1 : Nat) : Int)) = (s.pos : Int) + 1 := rfl
     have HP : Hid (RdPost B _ (s.go 1) (w1.drewN nq) ((w1.drewN nq).setCell ⟨B, 1, none⟩ (.int .i64 ((s.pos : Int) + 1)))) := hid (go_set HW2.out 1 (by show s.pos + 1 ≤ s.data.length; omega))
     obtain ⟨b', o', hbo, hcb⟩ := HP.out.1.byte s.pos hlt
     cases hbo
     have HPX := hid (RdPost.trans HB2.out HP.out)
     have hcb' : ((w1.drewN nq).setCell ⟨B, 1, none⟩ (.int .i64 ((s.pos : Int) + 1))).cell? ⟨b, o + s.pos, none⟩ = some (.int .u8 s.data[s.pos].toNat) := hcb
     have d0' : ((w1.drewN nq).setCell ⟨B, 1, none⟩ (.int .i64 ((s.pos : Int) + 1))).cell? ⟨B, 0, none⟩ = some (.slice (some ⟨b, o, none⟩) s.data.length cap) := HP.out.1.cell 0
     have d2' : ((w1.drewN nq).setCell ⟨B, 1, none⟩ (.int .i64 ((s.pos : Int) + 1))).cell? ⟨B, 2, none⟩ = some (.int .i64 s.pos) := HP.out.1.cell 2
     clear hcb hs1
     go_wp2_with fail
     generalize (w1.drewN nq).setCell ⟨B, 1, none⟩ (.int .i64 ((s.pos : Int) + 1)) = w3 at HPX hcb' d0' d2' ⊢
     go_quiet (fail)
     go_wp2_with fail
     go_ret
     refine ⟨ret_bool ?_, by rw [HR.out]; exact RdPost.trans HPX.out.2 ⟨rd_drewN HPX.out.1 _, but_drewN _ _ _⟩⟩
     rw [HR.out]
     show ((s.data[s.pos].toNat : Int) == 1) = decide (s.data[s.pos].toNat = 1)
     rw [Bool.eq_iff_iff]
     simp
     omega
 · have hg : s.data[s.pos]? = none := List.getElem?_eq_none (by omega)
   have hne : ((s.pos : Int) == (s.data.length : Int)) = true := by simp; omega
   have HR : Hid (rdBool s = (false, s.bad)) := hid (by unfold rdBool; rw [if_neg (fun h => h he), hg])
   clear h he hl hg
   go_enter Tryz.func88, Tryz.ntmps88
   go_wp2_with fail
   refine HBG.out.mono ?_
   rintro e w1 ⟨rfl, hw1, hb1⟩
   have HW1 := hid hw1
   have HB1 := hid hb1
   clear hw1 hb1
   have c0 : w1.cell? ⟨B, 0, none⟩ = some (.slice a s.data.length cap) := HW1.out.cell 0
   have c1 : w1.cell? ⟨B, 1, none⟩ = some (.int .i64 s.pos) := HW1.out.cell 1
   go_wp2_with fail
   go_quiet (fail)
   have HW2 := hid (rd_drewN HW1.out nq)
   have HB2 := hid (HB1.out.trans (but_drewN B w1 nq))
   have c3 : (w1.drewN nq).cell? ⟨B, 3, none⟩ = some (.int .i64 s.err) := HW2.out.cell 3
   have z3 := HW2.out.free 3
   have HP := hid (bad_set HW2.out)
   go_wp2_with fail
   go_ret
   exact ⟨by rw [HR.out]; rfl, by rw [HR.out]; exact RdPost.trans HB2.out HP.out⟩
theorem run_slice_cut {P : Program} (W : World) (t e : TypeId) (ht : P.underlying t = some (.slice e)) (sz : Nat) (hz : ∀ w, (Go.sizeOf e).run P w = .ok sz w) (b o len cap l h : Nat) (hlh : l ≤ h) (hh : h ≤ cap) :
 (Instr.slice t (.slice (some ⟨b, o, none⟩) len cap) (some (.int .i64 (l : Int))) (some (.int .i64 (h : Int))) none).run P W = .ok (.slice (cutA b o cap l sz) (h - l) (cap - l)) W := by
 have ht' : P.underlying t = some (.slice (P.elem t)) := by simp [Program.elem, ht]
 have he : P.elem t = e := by simp [Program.elem, ht]
 rw [run_slice_lh W t _ _ _ ht' .i64 .i64 _ _ (by omega) (by omega) (by omega), he, hz]
 unfold cutA
 by_cases h1 : cap = l
 · subst h1
   simp [Result.andThen, sliced]
 · by_cases h0 : l = 0
   · subst h0
     simp [Result.andThen, sliced, Addr.add, h1]
   · simp [Result.andThen, sliced, Addr.add, h1, h0]
theorem size_u8 : ∀ w, (Go.sizeOf 5).run Tryz.prog w = .ok 1 w := fun _ => by kernel_rfl
theorem SlRd.src {w : World} {b o n cap l k : Nat} {data : List UInt8} (h : SlRd w 1 byteRd (.slice (some ⟨b, o, none⟩) n cap) data) (hl : l + k ≤ data.length) : Src w 1 (.slice (cutA b o cap l 1) k (cap - l)) k (((data.drop l).take k).map u8v) := by
 have hlen : ((data.drop l).take k).length = k := by rw [List.length_take, List.length_drop]; omega
 refine ⟨_, cap - l, rfl, by rw [List.length_map, hlen, Nat.mul_one], ?_, fun ad had j q hq => ?_, u8v_one _⟩
 · unfold cutA; split <;> intro h <;> cases h
 · rw [List.getElem?_map] at hq
   have hj : j < k := by
    rcases Nat.lt_or_ge j k with h' | h'
    · exact h'
    · rw [List.getElem?_eq_none (by omega)] at hq; cases hq
   have hcap : n ≤ cap := by obtain ⟨a', c', hv, hn, _⟩ := h; cases hv; exact hn.2
   obtain ⟨a', c', hv, _⟩ := id h
   have hnl : n = data.length := by cases hv; rfl
   have hne : cap ≠ l := by omega
   unfold cutA at had
   rw [if_neg hne] at had
   cases had
   obtain ⟨b', o', cs, hb, _, hcs, rfl⟩ := h.at (l + j) (by omega)
   cases hb
   have hc := hcs 0 (by simp)
   rw [addr_add, show o + l * 1 + j = o + (l + j) * 1 + 0 by omega, hc]
   rw [List.getElem?_eq_getElem (by omega), List.getElem_take, List.getElem_drop] at hq
   exact hq
theorem SlRd.sub' {w w' : World} {v : Value} {data : List UInt8} (h : SlRd w 1 byteRd v data) (hs : Sub w w') : SlRd w' 1 byteRd v data := SlRd.mono h hs fun _ _ _ h => h
def BytesPost (w : World) (l : List UInt8) (r : Value) (w' : World) : Prop := w'.ownsRow w.heap.size 5 1 r l.length (l.map u8v)
theorem rBytes_any (B : Nat) (v : Value) (s : RS) (w : World) (h : RdAt w B v s) (hl : s.data.length ≤ 1000000000) :
 Calls Tryz.prog 133 #[.pointer (some ⟨B, 0, none⟩)] w fun e w' => ∃ r, e = .returned r ∧ BytesPost w (rdBytes s).1 r w' ∧ RdPost B v (rdBytes s).2 w w' := by
 obtain ⟨i0, hi0, hz0, hz1, hz2⟩ := info_parts infoByte
 obtain ⟨a, cap, rfl, _⟩ := h.shape
 show Calls _ _ _ _ fun e w' => Hid (∃ r, e = .returned r ∧ BytesPost w (rdBytes s).1 r w' ∧ RdPost B (.slice a s.data.length cap) (rdBytes s).2 w w')
 by_cases he : s.err = 0
 rotate_left
 · have HR : Hid (rdBytes s = ([], s)) := hid (by unfold rdBytes; rw [if_pos he])
   have HBG := hid (begin_no B _ s w h he)
   have HW := hid h
   clear h he hl
   go_enter Tryz.func133, Tryz.ntmps133
   go_wp2_with fail
   refine HBG.out.mono ?_
   rintro e w1 ⟨rfl, rfl⟩
   go_wp2_with fail
   go_ret
   exact hid ⟨_, rfl, by rw [HR.out]; exact World.ownsRow_nil _ _ _ _, by rw [HR.out]; exact ⟨HW.out, But.refl _ _⟩⟩
 cases hn : s.num with
 | none =>
   have HR : Hid (rdBytes s = ([], s.bad)) := hid (by unfold rdBytes; rw [if_neg (fun h => h he), hn])
   have HBG := hid (begin_ok B _ s w h he)
   have HNM := hid (fun W (hW : RdAt W B (.slice a s.data.length cap) s.begun) => number_none B (.slice a s.data.length cap) s.begun W hW hl hn)
   clear h he hl hn
   go_enter Tryz.func133, Tryz.ntmps133
   go_wp2_with fail
   refine HBG.out.mono ?_
   rintro e w1 ⟨rfl, hw1, hb1⟩
   have HW1 := hid hw1
   have HB1 := hid hb1
   clear hw1 hb1
   go_wp2_with fail
   refine (HNM.out _ HW1.out).mono ?_
   rintro e w2 ⟨N, X, rfl, q, rfl⟩
   have HW2 := hid (rd_drewN HW1.out q)
   have HB2 := hid (HB1.out.trans (but_drewN B w1 q))
   have c0 : (w1.drewN q).cell? ⟨B, 0, none⟩ = some (.slice a s.data.length cap) := HW2.out.cell 0
   have c1 : (w1.drewN q).cell? ⟨B, 1, none⟩ = some (.int .i64 s.pos) := HW2.out.cell 1
   have c3 : (w1.drewN q).cell? ⟨B, 3, none⟩ = some (.int .i64 s.err) := HW2.out.cell 3
   have z1 := HW2.out.free 1
   have z3 := HW2.out.free 3
   have HP := hid (bad_set HW2.out)
   go_wp2_with fail
   go_ret
   exact hid ⟨_, rfl, by rw [HR.out]; exact World.ownsRow_nil _ _ _ _, by rw [HR.out]; exact RdPost.trans HB2.out HP.out⟩
 | some p =>
   obtain ⟨n, c⟩ := p
   have hc := (RS.num_some hn h.ok.pos).1
   have hn64 := (RS.num_some hn h.ok.pos).2.2.2
   have HBG := hid (begin_ok B _ s w h he)
   have HNM : Hid (∀ W, RdAt W B (.slice a s.data.length cap) s.begun → Calls Tryz.prog 132 #[.pointer (some ⟨B, 0, none⟩)] W fun e w' => e = .returned (.tuple #[.int .u64 n, .int .i64 ((s.pos : Int) + (c : Int)), .bool true]) ∧ ∃ q, w' = W.drewN q) := hid fun W hW => number_some B (.slice a s.data.length cap) s.begun W hW hl hn
   have HC := hid hc
   have hw1 : IntKind.i64.wrap ((s.data.length : Int) - ((s.pos : Int) + (c : Int))) = (s.data.length : Int) - ((s.pos : Int) + (c : Int)) := IntWalk.i64_in _ (by omega)
   have hw2 : IntKind.u64.wrap ((s.data.length : Int) - ((s.pos : Int) + (c : Int))) = (s.data.length : Int) - ((s.pos : Int) + (c : Int)) := by rw [IntKind.wrap_u64]; omega
   have hnn : (0 : Int) ≤ (s.data.length : Int) - ((s.pos : Int) + (c : Int)) := by omega
   have hln : (s.data.length : Int) ≤ 1000000000 := by omega
   have hpn : (s.pos : Int) + (c : Int) ≤ (s.data.length : Int) := by omega
   by_cases hb : s.data.length - (s.pos + c) < n
   · have HR : Hid (rdBytes s = ([], s.bad)) := hid (by unfold rdBytes; rw [if_neg (fun h => h he), hn]; exact if_pos hb)
     have hd : decide ((s.data.length : Int) - ((s.pos : Int) + (c : Int)) < (n : Int)) = true := decide_eq_true (by omega)
     clear h he hl hn hc hb hn64
     go_enter Tryz.func133, Tryz.ntmps133
     go_wp2_with fail
     refine HBG.out.mono ?_
     rintro e w1 ⟨rfl, hw1, hb1⟩
     have HW1 := hid hw1
     have HB1 := hid hb1
     clear hw1 hb1
     go_wp2_with fail
     refine (HNM.out _ HW1.out).mono ?_
     rintro e w2 ⟨rfl, q, rfl⟩
     have HW2 := hid (rd_drewN HW1.out q)
     have HB2 := hid (HB1.out.trans (but_drewN B w1 q))
     have c0 : (w1.drewN q).cell? ⟨B, 0, none⟩ = some (.slice a s.data.length cap) := HW2.out.cell 0
     have c1 : (w1.drewN q).cell? ⟨B, 1, none⟩ = some (.int .i64 s.pos) := HW2.out.cell 1
     have c3 : (w1.drewN q).cell? ⟨B, 3, none⟩ = some (.int .i64 s.err) := HW2.out.cell 3
     have z1 := HW2.out.free 1
     have z3 := HW2.out.free 3
     have HP := hid (bad_set HW2.out)
     go_wp2_with fail
     go_ret
     exact hid ⟨_, rfl, by rw [HR.out]; exact World.ownsRow_nil _ _ _ _, by rw [HR.out]; exact RdPost.trans HB2.out HP.out⟩
   · have HR : Hid (rdBytes s = ((s.data.drop (s.pos + c)).take n, s.go (c + n))) := hid (by unfold rdBytes; rw [if_neg (fun h => h he), hn]; exact if_neg hb)
     have hd : decide ((s.data.length : Int) - ((s.pos : Int) + (c : Int)) < (n : Int)) = false := decide_eq_false (by omega)
     have hn9 : (n : Int) ≤ 1000000000 := by omega
     have hfit : s.pos + c + n ≤ s.data.length := by omega
     have hw3 : IntKind.i64.wrap ((s.pos : Int) + (c : Int) + (n : Int)) = (s.pos : Int) + (c : Int) + (n : Int) := IntWalk.i64_in _ (by omega)
     have hsb : (s.pos : Int) + (c : Int) + (n : Int) ≤ (s.data.length : Int) := by omega
     have ha : ∃ b o, a = some ⟨b, o, none⟩ := by
      have hc1 := (RS.num_some hn h.ok.pos).2.1
      obtain ⟨b, o, hab, _⟩ := h.byte 0 (by omega)
      exact ⟨b, o, hab⟩
     obtain ⟨b, o, rfl⟩ := ha
     have hcl : s.data.length ≤ cap := by obtain ⟨a', c', hv, hn', _⟩ := h.rd; cases hv; exact hn'.2
     have HFIT := hid hfit
     have hsl := fun W => run_slice_cut (P := Tryz.prog) W 46 5 Tryz.underlying46 1 size_u8 b o s.data.length cap (s.pos + c) (s.pos + c + n) (Nat.le_add_right _ _) (by omega)
     rw [show s.pos + c + n - (s.pos + c) = n by omega, Int.natCast_add, Int.natCast_add, Int.natCast_add] at hsl
     have HSL := hid hsl
     clear h he hl hn hc hb hn64 hfit hcl hsl
     go_enter Tryz.func133, Tryz.ntmps133
     go_wp2_with fail
     refine HBG.out.mono ?_
     rintro e w1 ⟨rfl, hw1, hb1⟩
     have HW1 := hid hw1
     have HB1 := hid hb1
     clear hw1 hb1
     go_wp2_with fail
     refine (HNM.out _ HW1.out).mono ?_
     rintro e w2 ⟨rfl, q, rfl⟩
     have HW2 := hid (rd_drewN HW1.out q)
     have HB2 := hid (HB1.out.trans (but_drewN B w1 q))
     have c0 : (w1.drewN q).cell? ⟨B, 0, none⟩ = some (.slice (some ⟨b, o, none⟩) s.data.length cap) := HW2.out.cell 0
     have c1 : (w1.drewN q).cell? ⟨B, 1, none⟩ = some (.int .i64 s.pos) := HW2.out.cell 1
     have c3 : (w1.drewN q).cell? ⟨B, 3, none⟩ = some (.int .i64 s.err) := HW2.out.cell 3
     have z1 := HW2.out.free 1
     have z3 := HW2.out.free 3
     have HP : Hid (RdPost B (.slice (some ⟨b, o, none⟩) s.data.length cap) (s.go (c + n)) (w1.drewN q) ((w1.drewN q).setCell ⟨B, 1, none⟩ (.int .i64 ((s.pos : Int) + (c : Int) + (n : Int))))) := hid (by
      have := go_set HW2.out (c + n) (by have := HFIT.out; omega)
      rw [Int.natCast_add, ← Int.add_assoc] at this
      exact this)
     go_wp2_with fail
     have HPX := hid (RdPost.trans HB2.out HP.out)
     generalize (w1.drewN q).setCell ⟨B, 1, none⟩ (.int .i64 ((s.pos : Int) + (c : Int) + (n : Int))) = w3 at HPX ⊢
     have d0 : ∀ x : Ext w3, x.1.cell? ⟨B, 0, none⟩ = some (.slice (some ⟨b, o, none⟩) s.data.length cap) := fun x => x.cell (HPX.out.1.cell 0)
     have d1 : ∀ x : Ext w3, x.1.cell? ⟨B, 1, none⟩ = some (.int .i64 ((s.pos : Int) + (c : Int) + (n : Int))) := fun x => by
       have := x.cell (HPX.out.1.cell 1)
       rw [this]
       show some (Value.int .i64 ((s.pos + (c + n) : Nat) : Int)) = _
       congr 2
       omega
     have HS : Hid (∀ x : Ext w3, x.1.cell? ⟨B, 0, none⟩ = some (.slice (some ⟨b, o, none⟩) s.data.length cap) ∧ x.1.cell? ⟨B, 1, none⟩ = some (.int .i64 ((s.pos : Int) + (c : Int) + (n : Int)))) := hid fun x => ⟨d0 x, d1 x⟩
     have HSRC : Hid (∀ x : Ext w3, Src x.1 1 (.slice (cutA b o cap (s.pos + c) 1) n (cap - (s.pos + c))) n (((s.data.drop (s.pos + c)).take n).map u8v)) := hid fun x => SlRd.src ((HPX.out.1.rd.sub' (only_sub _ _)).sub' (Sub.of_below x.2)) (by have := HFIT.out; show s.pos + c + n ≤ s.data.length; omega)
     have HLN : Hid (((s.data.drop (s.pos + c)).take n).length = n) := hid (by rw [List.length_take, List.length_drop]; have := HFIT.out; omega)
     have hsl := HSL.out
     clear d0 d1
     go_region_held3 (fun w' => w'.cell? ⟨B, 0, none⟩ = some (.slice (some ⟨b, o, none⟩) s.data.length cap) ∧ w'.cell? ⟨B, 1, none⟩ = some (.int .i64 ((s.pos : Int) + (c : Int) + (n : Int))))
       (first
         | exact HS.out ⟨_, (Below.refl _ _).drew⟩
         | exact HS.out ⟨_, (Below.refl _ _).alloc (Nat.le_refl _) _⟩
         | exact HS.out ⟨_, ((Below.refl _ _).alloc (Nat.le_refl _) _).drew⟩
         | exact HS.out ⟨_, (Below.refl _ _).drew.alloc (Nat.le_refl _) _⟩
         | exact HS.out ⟨_, HB4.out⟩
         | skip)
       (first
         | (refine step_append (by rfl) (.tmp 39) (.tmp 49) 46 (by rfl) w3.heap.size 5 1 1 Tryz.underlying46 hi0 hz0 hz1 hz2 rfl (by decide) (.slice (some ⟨_, 0, none⟩) 0 0) 0 [] (by rfl) ?_ (.slice (cutA b o cap (s.pos + c) 1) n (cap - (s.pos + c))) n (((s.data.drop (s.pos + c)).take n).map u8v) (by rfl) ?_ n (Nat.zero_add _) (((s.data.drop (s.pos + c)).take n).map u8v) (by rfl) (by unfold maxLen; omega) (by omega) ?_ ?_
            · first
               | exact owns_made #[] 0 (heap_alloc_new w3 _) (Nat.le_refl _) rfl (by decide)
               | exact owns_made #[] 0 (heap_alloc_new w3.drew _) (Nat.le_refl _) rfl (by decide)
            · first
               | exact HSRC.out ⟨_, (Below.refl _ _).alloc (Nat.le_refl _) _⟩
               | exact HSRC.out ⟨_, (Below.refl _ _).drew.alloc (Nat.le_refl _) _⟩
               | exact HSRC.out ⟨_, ((Below.refl _ _).alloc (Nat.le_refl _) _).drew⟩
            · simp <;> omega
            intro na nc w4 had
            have HAD := hid had
            have HB4 : Hid (Below w3.heap.size w3 w4) := hid (by
             first
              | exact ((Below.refl _ _).alloc (Nat.le_refl _) _).grown had.grown (by simp) (fun g hg => by simp [Value.ownBlock] at hg; omega)
              | exact ((Below.refl _ _).drew.alloc (Nat.le_refl _) _).grown had.grown (by simp) (fun g hg => by simp [Value.ownBlock] at hg; omega)
              | exact (((Below.refl _ _).alloc (Nat.le_refl _) _).drew).grown had.grown (by simp) (fun g hg => by simp [Value.ownBlock] at hg; omega))
            clear had))
     all_goals
      go_wp2_with fail
      go_ret
      refine hid ⟨_, rfl, ?_, ?_⟩
      · rw [HR.out]
        show World.ownsRow _ _ _ _ _ _ _
        rw [HLN.out]
        exact owns_base HAD.out.own HPX.out.2.size
      · rw [HR.out]
        exact RdPost.trans HPX.out.2 ⟨HPX.out.1.below HB4.out, But.of_below HB4.out⟩
end Go.Proofs.YtmdjnaobllajmaaGreatDoor
