/-
  What the statements of the chapter share, part 21: VRc1, VRc2, VRc3, VRc4, PAwk, VAwk, VLaw0.
-/
import Derived.Test.YtmdjnaobllajmaaGreatDoorX08
import Derived.Test.YtmdjnaobllajmaaGreatDoorX12
import Derived.Test.YtmdjnaobllajmaaGreatDoorX16
import Derived.Test.YtmdjnaobllajmaaGreatDoorX18
import Derived.Test.YtmdjnaobllajmaaGreatDoorX20
import Derived.BigGuardPart
set_option linter.unusedVariables false
set_option linter.unusedSimpArgs false
set_option maxRecDepth 100000
set_option maxHeartbeats 8000000
namespace Go.Proofs.YtmdjnaobllajmaaGreatDoor
open Go.RowKit
theorem wp_region_at {P : Program} {id : Nat} {Q : Exit → Act → World → Prop} {a : Act} {W : World} {l : List Oper} (hm : P.follows .mixedOrders = true) (hB : Region.lexB .any l.toArray = true) (x : Ext W)
 (h : wpQuiet P l.toArray (fun w' => ∃ x : Ext W, w' = x.1) (fun a' => ∀ w', (∃ x : Ext W, w' = x.1) → Q .normal a' w') l a) : (Code.region id l.toArray true).wp P Q a x.1 :=
 wp_region_quiet (C := fun w' => ∃ x : Ext W, w' = x.1) hm hB ⟨⟨_, x.2.drew⟩, rfl⟩ (by simpa using h)
def signI (b : Bool) : Int := if b then -1 else 1
theorem sign_any (b : Bool) (w : World) : Calls Tryz.prog 47 #[.bool b] w fun e w' => e = .returned (.int .i64 (signI b)) ∧ w' = w := by
  cases b
  all_goals
   go_enter Tryz.func47, Tryz.ntmps47
   go_wp2_with fail
   go_ret
   exact ⟨rfl, rfl⟩
def lenI (a b : Nat) : Int := if a = b then 0 else if a < b then -1 else 1
theorem lenI_lt {a b : Nat} (h : a < b) : lenI a b = -1 := by unfold lenI; rw [if_neg (by omega), if_pos h]
theorem lenI_gt {a b : Nat} (h : b < a) : lenI a b = 1 := by unfold lenI; rw [if_neg (by omega), if_neg (by omega)]
theorem lenI_eq {a b : Nat} (h : a = b) : lenI a b = 0 := by unfold lenI; rw [if_pos h]
theorem lengths_any (a b : Nat) (w : World) : Calls Tryz.prog 48 #[.int .i64 a, .int .i64 b] w fun e w' => e = .returned (.int .i64 (lenI a b)) ∧ w' = w := by
  rcases Nat.lt_trichotomy a b with h | h | h
  · have hb : ((a : Int) == (b : Int)) = false := by rw [beqI']; exact decide_eq_false (by omega)
    have HR := hid (lenI_lt h)
    have HS : Hid (∀ w, Calls Tryz.prog 47 #[.bool true] w fun e w' => e = .returned (.int .i64 (-1)) ∧ w' = w) := hid fun w => sign_any true w
    have hd : decide ((a : Int) < (b : Int)) = true := decide_eq_true (by omega)
    have hlt : (a : Int) < (b : Int) := by omega
    clear h
    go_enter Tryz.func48, Tryz.ntmps48
    go_wp2_with fail
    refine (HS.out _).mono ?_
    rintro e w1 ⟨rfl, rfl⟩
    go_wp2_with fail
    go_ret
    exact ⟨ret_int HR.out.symm, rfl⟩
  · subst h
    have HR := hid (lenI_eq (a := a) rfl)
    go_enter Tryz.func48, Tryz.ntmps48
    go_wp2_with fail
    go_ret
    exact ⟨ret_int HR.out.symm, rfl⟩
  · have hb : ((a : Int) == (b : Int)) = false := by rw [beqI']; exact decide_eq_false (by omega)
    have HR := hid (lenI_gt h)
    have HS : Hid (∀ w, Calls Tryz.prog 47 #[.bool false] w fun e w' => e = .returned (.int .i64 1) ∧ w' = w) := hid fun w => sign_any false w
    have hlt : ¬ (a : Int) < (b : Int) := by omega
    have hlt' : (b : Int) ≤ (a : Int) := by omega
    clear h
    go_enter Tryz.func48, Tryz.ntmps48
    go_wp2_with fail
    refine (HS.out _).mono ?_
    rintro e w1 ⟨rfl, rfl⟩
    go_wp2_with fail
    go_ret
    exact ⟨ret_int HR.out.symm, rfl⟩
theorem lexC_lens {α : Type} (c : α → α → Int) (a b : List α) (j : Nat) (ha : j ≤ a.length) (hb : j ≤ b.length) (h : ¬ (j < a.length ∧ j < b.length)) : lexC c (a.drop j) (b.drop j) = lenI a.length b.length := by
 by_cases h1 : j < a.length
 · rw [lexC_one c a b j h1 (by omega), lenI_gt (by omega)]
 · rw [lexC_end c a b j (by omega)]
   by_cases h2 : j < b.length
   · rw [if_pos h2, lenI_lt (by omega)]
   · rw [if_neg h2, lenI_eq (by omega)]
theorem cmpI_lt {a b : Int} (h : a < b) : cmpI a b = -1 := by unfold cmpI; rw [if_pos h]
theorem cmpI_gt {a b : Int} (h : b < a) : cmpI a b = 1 := by unfold cmpI; rw [if_neg (by omega), if_pos h]
theorem cmpI_eq (a : Int) : cmpI a a = 0 := by unfold cmpI; rw [if_neg (by omega), if_neg (by omega)]
theorem tickC_eq (a b : Tk) : tickC a b = if cmpI a.process b.process ≠ 0 then cmpI a.process b.process else cmpI a.n b.n := or2_eq _ _
theorem entC_eq (a b : En) : entC a b = if strC a.name b.name ≠ 0 then strC a.name b.name else lexC tickC a.clock b.clock := or2_eq _ _
theorem cmpI_sign {a b : Int} (h : a ≠ b) : cmpI a b = signI (decide (a < b)) := by
 unfold signI
 by_cases h1 : a < b
 · rw [cmpI_lt h1, decide_eq_true h1]; rfl
 · rw [cmpI_gt (by omega), decide_eq_false h1]; rfl
theorem strC_sign {a b : ByteArray} (h : a ≠ b) : strC a b = signI (strLt a b) := by
 rcases strC_cases a b with ⟨h1, h2⟩ | ⟨h1, h2, _⟩ | ⟨h1, _⟩
 · rw [h1, h2]; rfl
 · rw [h1, h2]; rfl
 · exact absurd ((strC_zero a b).1 h1) h
theorem strNe {a b : ByteArray} (h : a ≠ b) : (a.toList == b.toList) = false := by
 rw [Lib.toList_data, Lib.toList_data, beq_eq_false_iff_ne]
 exact fun e => h (ByteArray.ext (Array.toList_inj.1 e))
theorem if_of_zero {x y : Int} (h : x = 0) : (if x ≠ 0 then x else y) = y := if_neg fun h' => h' h
theorem if_of_nz {x y : Int} (h : x ≠ 0) : (if x ≠ 0 then x else y) = x := if_pos h
theorem cmpI_nz {a b : Int} (h : a ≠ b) : cmpI a b ≠ 0 := fun h' => h ((cmpI_zero a b).1 h')
theorem strC_nz {a b : ByteArray} (h : a ≠ b) : strC a b ≠ 0 := fun h' => h ((strC_zero a b).1 h')
theorem rTicks_any (va vb : Value) (a b : List Tk) (w : World) (ha : SlRd w 2 tickRd va a) (hb : SlRd w 2 tickRd vb b) :
 Calls Tryz.prog 79 #[va, vb] w fun e w' => e = .returned (.int .i64 (lexC tickC a b)) ∧ Below w.heap.size w w' := by
 obtain ⟨aa, ca, rfl, _, hma⟩ := ha.shape
 obtain ⟨ab, cb, rfl, _, hmb⟩ := hb.shape
 have HA := hid ha
 have HBB := hid hb
 have HE : Hid (lexC tickC a b = lexC tickC (a.drop 0) (b.drop 0)) := hid rfl
 generalize lexC tickC a b = R at HE ⊢
 clear ha hb
 go_enter Tryz.func79, Tryz.ntmps79
 go_wp2_with fail
 go_loopw [5] (fun i wr => ∃ (j : Nat) (x : Ext w), j ≤ a.length ∧ j ≤ b.length ∧ i = .int .i64 j ∧ wr = x.1 ∧ Hid (R = lexC tickC (a.drop j) (b.drop j))) (fun i _ => a.length - (intOf i).toNat)
 case atStart => exact ⟨0, ⟨w, Below.refl _ _⟩, Nat.zero_le _, Nat.zero_le _, rfl, rfl, HE⟩
 case round =>
  obtain ⟨j, x, hj, hj', rfl, rfl, He⟩ := hrel
  by_cases hlt : j < a.length ∧ j < b.length
  · obtain ⟨h1, h2⟩ := hlt
    obtain ⟨s, sb, so, hs, _, hsd, _, rfl, _, hsc⟩ := tickEl HA.out j h1
    obtain ⟨t, tb, to, ht, _, htd, _, rfl, _, htc⟩ := tickEl HBB.out j h2
    have HS : Hid (R = if tickC s t ≠ 0 then tickC s t else lexC tickC (a.drop (j + 1)) (b.drop (j + 1))) := hid (by rw [He.out, hsd, htd, lexC])
    have HTC := hid (tickC_eq s t)
    obtain ⟨HS0, HS1⟩ := hsc.two
    obtain ⟨HT0, HT1⟩ := htc.two
    have s0 : ∀ y : Ext w, y.1.cell? ⟨sb, so + j * 2, none⟩ = some (.int .i64 s.process) := fun y => y.cell HS0
    have s1 : ∀ y : Ext w, y.1.cell? ⟨sb, so + j * 2 + 1, none⟩ = some (.int .i64 s.n) := fun y => y.cell HS1
    have t0 : ∀ y : Ext w, y.1.cell? ⟨tb, to + j * 2, none⟩ = some (.int .i64 t.process) := fun y => y.cell HT0
    have t1 : ∀ y : Ext w, y.1.cell? ⟨tb, to + j * 2 + 1, none⟩ = some (.int .i64 t.n) := fun y => y.cell HT1
    have HJ : Hid (j + 1 ≤ a.length ∧ j + 1 ≤ b.length) := hid ⟨h1, h2⟩
    have hd1 : decide ((j : Int) < (a.length : Int)) = true := decide_eq_true (by omega)
    have hd2 : decide ((j : Int) < (b.length : Int)) = true := decide_eq_true (by omega)
    have hi1 : (j : Int) < (a.length : Int) := by omega
    have hi2 : (j : Int) < (b.length : Int) := by omega
    clear hs hsd ht htd HS0 HS1 HT0 HT1 hsc htc He HE
    go_wp2_with fail
    by_cases hp : s.process = t.process
    · have hpb : (s.process != t.process) = false := by simp [hp]
      have HS2 : Hid (R = if cmpI s.n t.n ≠ 0 then cmpI s.n t.n else lexC tickC (a.drop (j + 1)) (b.drop (j + 1))) := hid (by rw [HS.out, HTC.out, hp, cmpI_eq, if_of_zero rfl])
      clear hp HS HTC
      refine wp_region_at (by kernel_rfl) (by kernel_rfl) _ ?_
      repeat (go_big_quiet_step (fail))
      refine wpQuiet_nil ?_
      rintro _ ⟨z, rfl⟩
      go_wp2_with fail
      clear hpb
      by_cases hn : s.n = t.n
      · have hnb : (s.n != t.n) = false := by simp [hn]
        have HR : Hid (R = lexC tickC (a.drop (j + 1)) (b.drop (j + 1))) := hid (by rw [HS2.out, hn, cmpI_eq, if_of_zero rfl])
        clear hn HS2
        refine wp_region_at (by kernel_rfl) (by kernel_rfl) _ ?_
        repeat (go_big_quiet_step (fail))
        refine wpQuiet_nil ?_
        rintro _ ⟨z, rfl⟩
        go_wp2_with fail
        go_roundw
        case rel => exact ⟨j + 1, _, HJ.out.1, HJ.out.2, by go_num, rfl, HR⟩
        case measure => have := HJ.out.1; simp [intOf]; omega
      · have hnb : (s.n != t.n) = true := by simp [hn]
        have HR : Hid (R = signI (decide (s.n < t.n))) := hid (by rw [HS2.out, if_of_nz (cmpI_nz hn), cmpI_sign hn])
        clear hn HS2
        refine wp_region_at (by kernel_rfl) (by kernel_rfl) _ ?_
        repeat (go_big_quiet_step (fail))
        refine wpQuiet_nil ?_
        rintro _ ⟨z, rfl⟩
        go_wp2_with fail
        clear hnb
        refine wp_region_at (by kernel_rfl) (by kernel_rfl) _ ?_
        repeat (go_big_quiet_step ((go_at_call 47; exact ext_same _ (sign_any _ _))))
        refine wpQuiet_nil ?_
        rintro _ ⟨z, rfl⟩
        go_wp2_with fail
        go_ret
        exact ⟨ret_int HR.out.symm, z.2⟩
    · have hpb : (s.process != t.process) = true := by simp [hp]
      have HR : Hid (R = signI (decide (s.process < t.process))) := hid (by rw [HS.out, HTC.out, if_of_nz (cmpI_nz hp), if_of_nz (cmpI_nz hp), cmpI_sign hp])
      clear hp HS HTC
      refine wp_region_at (by kernel_rfl) (by kernel_rfl) _ ?_
      repeat (go_big_quiet_step (fail))
      refine wpQuiet_nil ?_
      rintro _ ⟨z, rfl⟩
      go_wp2_with fail
      clear hpb
      refine wp_region_at (by kernel_rfl) (by kernel_rfl) _ ?_
      repeat (go_big_quiet_step ((go_at_call 47; exact ext_same _ (sign_any _ _))))
      refine wpQuiet_nil ?_
      rintro _ ⟨z, rfl⟩
      go_wp2_with fail
      go_ret
      exact ⟨ret_int HR.out.symm, z.2⟩
  · have HR : Hid (R = lenI a.length b.length) := hid (by rw [He.out, lexC_lens _ _ _ _ hj hj' hlt])
    have HLE := hid (lengths_any a.length b.length)
    clear He HE
    by_cases h1 : j < a.length
    · have h2 : ¬ j < b.length := fun h => hlt ⟨h1, h⟩
      have hi1 : (j : Int) < (a.length : Int) := by omega
      have hi2 : (b.length : Int) ≤ (j : Int) := by omega
      clear hlt h1 h2
      go_wp2_with fail
      refine (HLE.out _).mono ?_
      rintro e w1 ⟨rfl, rfl⟩
      go_wp2_with fail
      go_ret
      exact ⟨ret_int HR.out.symm, x.2⟩
    · have hi1 : (a.length : Int) ≤ (j : Int) := by omega
      clear hlt h1
      go_wp2_with fail
      refine (HLE.out _).mono ?_
      rintro e w1 ⟨rfl, rfl⟩
      go_wp2_with fail
      go_ret
      exact ⟨ret_int HR.out.symm, x.2⟩
theorem rEntries_any (a b : En) (ca cb : List Value) (w : World) (ha : entryRd w a ca) (hb : entryRd w b cb) :
 Calls Tryz.prog 49 #[.agg ca.toArray, .agg cb.toArray] w fun e w' => e = .returned (.int .i64 (entC a b)) ∧ Below w.heap.size w w' := by
 obtain ⟨va, rfl, hka, hna⟩ := ha
 obtain ⟨vb, rfl, hkb, hnb⟩ := hb
 have HT : Hid (∀ u, Below w.heap.size w u → Calls Tryz.prog 79 #[va, vb] u fun e w' => e = .returned (.int .i64 (lexC tickC a.clock b.clock)) ∧ Below u.heap.size u w') := hid fun u hu => rTicks_any va vb a.clock b.clock u (SlRd.below hka hu fun _ _ _ h => h) (SlRd.below hkb hu fun _ _ _ h => h)
 obtain ⟨aa, cca, rfl, _, _⟩ := hka.shape
 obtain ⟨ab, ccb, rfl, _, _⟩ := hkb.shape
 have HE := hid (entC_eq a b)
 generalize entC a b = R at HE ⊢
 have HB : Hid (∀ O1 O2, Below w.heap.size w ((w.alloc O1).alloc O2)) := hid fun O1 O2 => ((Below.refl _ _).alloc (Nat.le_refl _) O1).alloc (by simp) O2
 clear hka hkb hna hnb
 by_cases hn : a.name = b.name
 · have HR : Hid (R = lexC tickC a.clock b.clock) := hid (by rw [HE.out, if_of_zero ((strC_zero _ _).2 hn)])
   have hq : (a.name.toList == b.name.toList) = true := by rw [hn]; simp
   clear hn HE
   go_enter Tryz.func49, Tryz.ntmps49
   go_wp2_with fail
   refine (HT.out _ (HB.out _ _)).mono ?_
   rintro e w1 ⟨rfl, hb1⟩
   have HB1 := hid ((HB.out _ _).trans (hb1.mono (HB.out _ _).size))
   clear hb1
   go_wp2_with fail
   go_ret
   exact ⟨ret_int HR.out.symm, HB1.out⟩
 · have HR : Hid (R = signI (strLt a.name b.name)) := hid (by rw [HE.out, if_of_nz (strC_nz hn), strC_sign hn])
   have hq := strNe hn
   have hb : Op.bytesLess a.name.toList b.name.toList = strLt a.name b.name := rfl
   clear hn HE HT
   go_enter Tryz.func49, Tryz.ntmps49
   go_wp2_with fail
   refine (sign_any _ _).mono ?_
   rintro e w1 ⟨rfl, rfl⟩
   go_wp2_with fail
   go_ret
   exact ⟨ret_int HR.out.symm, HB.out _ _⟩
theorem lenI_nz {a b : Nat} (h : a ≠ b) : lenI a b ≠ 0 := by
 rcases Nat.lt_or_gt_of_ne h with h | h
 · rw [lenI_lt h]; decide
 · rw [lenI_gt h]; decide
theorem rCompare_any (f : Nat) : ∀ (a b : Val) (ca cb : List Value) (w : World), SizeOf.sizeOf a ≤ f → valRd w a ca → valRd w b cb →
 Calls Tryz.prog 21 #[.agg ca.toArray, .agg cb.toArray] w fun e w' => e = .returned (.int .i64 (valC a b)) ∧ Below w.heap.size w w' := by
 induction f with
 | zero => intro a b ca cb w hn; cases a; simp at hn
 | succ f ih =>
   intro a b ca cb w hn ha hb
   have IH := hid ih
   obtain ⟨ban, dan, bap, dap, bae, dae, rfl, gai, gan, gap, gae, ⟨_, nan⟩, ⟨_, nap⟩, _, nae⟩ := valRd.lay ha
   obtain ⟨bbn, dbn, bbp, dbp, bbe, dbe, rfl, gbi, gbn, gbp, gbe, ⟨_, nbn⟩, ⟨_, nbp⟩, _, nbe⟩ := valRd.lay hb
   have HIP : Hid (∀ p ∈ a.parts, SizeOf.sizeOf p ≤ f) := hid fun p hp => by have := sizeOf_vp hp; omega
   obtain ⟨an, ans, aps, aes⟩ := a
   obtain ⟨bn, bns, bps, bes⟩ := b
   simp only [Val.n, Val.names, Val.parts, Val.entries] at *
   have HE : Hid (valC (.mk an ans aps aes) (.mk bn bns bps bes) = if cmpI an bn ≠ 0 then cmpI an bn else if lexC strC ans bns ≠ 0 then lexC strC ans bns else if lexC valC aps bps ≠ 0 then lexC valC aps bps else lexC entC aes bes) := hid (valC_eq _ _)
   generalize valC (.mk an ans aps aes) (.mk bn bns bps bes) = R at HE ⊢
   have HAN := hid gan
   have HBN := hid gbn
   have HAP := hid gap
   have HBP := hid gbp
   have HAE := hid gae
   have HBE := hid gbe
   clear ha hb hn ih gai gbi gan gbn gap gbp gae gbe
   obtain ⟨W2, hW, HB, HBl, HBv⟩ := two_box w #[.int .i64 an, .slice ban ans.length dan, .slice bap aps.length dap, .slice bae aes.length dae] #[.int .i64 bn, .slice bbn bns.length dbn, .slice bbp bps.length dbp, .slice bbe bes.length dbe] 30 30
   have HLE := hid lengths_any
   by_cases hn : an = bn
   · have hnb : (an != bn) = false := by simp [hn]
     have HE2 : Hid (R = if lexC strC (ans.drop 0) (bns.drop 0) ≠ 0 then lexC strC (ans.drop 0) (bns.drop 0) else if lexC valC (aps.drop 0) (bps.drop 0) ≠ 0 then lexC valC (aps.drop 0) (bps.drop 0) else lexC entC (aes.drop 0) (bes.drop 0)) := hid (by rw [HE.out, if_of_zero ((cmpI_zero an bn).2 hn)]; rfl)
     clear hn HE
     go_enter Tryz.func21, Tryz.ntmps21
     go_wp2_with fail
     rw [hW.out]
     clear hW
     obtain ⟨x0, hx⟩ := ext_self W2
     rw [hx]
     clear hx
     obtain ⟨a0, a1, a2, a3⟩ := bx4 fun x : Ext W2 => HBl.out.ext x
     obtain ⟨b0, b1, b2, b3⟩ := bx4 fun x : Ext W2 => HBv.out.ext x
     clear hnb
     go_loopw [5] (fun i wr => ∃ (j : Nat) (x : Ext W2), j ≤ ans.length ∧ j ≤ bns.length ∧ i = .int .i64 j ∧ wr = x.1 ∧ Hid (R = if lexC strC (ans.drop j) (bns.drop j) ≠ 0 then lexC strC (ans.drop j) (bns.drop j) else if lexC valC (aps.drop 0) (bps.drop 0) ≠ 0 then lexC valC (aps.drop 0) (bps.drop 0) else lexC entC (aes.drop 0) (bes.drop 0))) (fun i _ => ans.length - (intOf i).toNat)
     case atStart => exact ⟨0, x0, Nat.zero_le _, Nat.zero_le _, rfl, rfl, HE2⟩
     case round =>
      obtain ⟨j, x, hj, hj', rfl, rfl, He⟩ := hrel
      by_cases hlt : j < ans.length ∧ j < bns.length
      · obtain ⟨h1, h2⟩ := hlt
        obtain ⟨s, sb, so, _, _, hsd, _, rfl, hsc, _⟩ := strEl HAN.out j h1
        obtain ⟨t, tb, to, _, _, htd, _, rfl, htc, _⟩ := strEl HBN.out j h2
        have HS : Hid (lexC strC (ans.drop j) (bns.drop j) = if strC s t ≠ 0 then strC s t else lexC strC (ans.drop (j + 1)) (bns.drop (j + 1))) := hid (by rw [hsd, htd, lexC])
        have s0 : ∀ y : Ext W2, y.1.cell? ⟨sb, so + j, none⟩ = some (.string s) := fun y => ((HB.out y).cell (World.block_lt_of_cell? w _ hsc)).trans hsc
        have t0 : ∀ y : Ext W2, y.1.cell? ⟨tb, to + j, none⟩ = some (.string t) := fun y => ((HB.out y).cell (World.block_lt_of_cell? w _ htc)).trans htc
        have HJ : Hid (j + 1 ≤ ans.length ∧ j + 1 ≤ bns.length) := hid ⟨h1, h2⟩
        have hd1 : (j : Int) < (ans.length : Int) := by omega
        have hd2 : (j : Int) < (bns.length : Int) := by omega
        clear hsd htd hsc htc
        by_cases hst : s = t
        · have hq : (s.toList == t.toList) = true := by rw [hst]; simp
          have HR := He
          rw [HS.out, if_of_zero ((strC_zero s t).2 hst)] at HR
          clear hst He HS HE2
          go_wp2_with fail
          refine wp_region_at (by kernel_rfl) (by kernel_rfl) _ ?_
          repeat (go_big_quiet_step (fail))
          refine wpQuiet_nil ?_
          rintro _ ⟨z, rfl⟩
          go_wp2_with fail
          go_roundw
          case rel => exact ⟨j + 1, _, HJ.out.1, HJ.out.2, by go_num, rfl, HR⟩
          case measure => have := HJ.out.1; simp [intOf]; omega
        · have hq := strNe hst
          have hbl : Op.bytesLess s.toList t.toList = strLt s t := rfl
          have HR : Hid (R = signI (strLt s t)) := hid (by rw [He.out, HS.out, if_of_nz (strC_nz hst), if_of_nz (strC_nz hst), strC_sign hst])
          clear hst He HS HE2
          go_wp2_with fail
          refine wp_region_at (by kernel_rfl) (by kernel_rfl) _ ?_
          repeat (go_big_quiet_step (fail))
          refine wpQuiet_nil ?_
          rintro _ ⟨z, rfl⟩
          go_wp2_with fail
          refine wp_region_at (by kernel_rfl) (by kernel_rfl) _ ?_
          repeat (go_big_quiet_step ((go_at_call 47; exact ext_same _ (sign_any _ _))))
          refine wpQuiet_nil ?_
          rintro _ ⟨z, rfl⟩
          go_wp2_with fail
          go_ret
          exact ⟨ret_int HR.out.symm, HB.out _⟩
      · have HLX : Hid (lexC strC (ans.drop j) (bns.drop j) = lenI ans.length bns.length) := hid (lexC_lens _ _ _ _ hj hj' hlt)
        have HN := He
        rw [HLX.out] at HN
        by_cases hln : ans.length = bns.length
        · have hlb : ((ans.length : Int) != (bns.length : Int)) = false := by simp [hln]
          have HR : Hid (R = if lexC valC (aps.drop 0) (bps.drop 0) ≠ 0 then lexC valC (aps.drop 0) (bps.drop 0) else lexC entC (aes.drop 0) (bes.drop 0)) := hid (by rw [HN.out, if_of_zero (lenI_eq hln)])
          have hi1 : (ans.length : Int) ≤ (j : Int) := by omega
          clear hlt He HN HLX HE2 hln
          go_wp2_with fail
          clear hi1 hlb
          go_loopw [6, 7] (fun i _ wr => ∃ (j : Nat) (x : Ext W2), j ≤ aps.length ∧ j ≤ bps.length ∧ i = .int .i64 j ∧ wr = x.1 ∧ Hid (R = if lexC valC (aps.drop j) (bps.drop j) ≠ 0 then lexC valC (aps.drop j) (bps.drop j) else lexC entC (aes.drop 0) (bes.drop 0))) (fun i _ _ => aps.length - (intOf i).toNat)
          case atStart => exact ⟨0, _, Nat.zero_le _, Nat.zero_le _, rfl, rfl, HR⟩
          case round =>
           obtain ⟨j, x, hj, hj', rfl, rfl, He⟩ := hrel
           by_cases hlt : j < aps.length ∧ j < bps.length
           · obtain ⟨h1, h2⟩ := hlt
             obtain ⟨x', xb, xo, bxn, dxn, bxp, dxp, bxe, dxe, _, hxm, hsd, _, rfl, hxr, hxc⟩ := valEl HAP.out j h1
             obtain ⟨y', yb, yo, byn, dyn, byp, dyp, bye, dye, _, _, htd, _, rfl, hyr, hyc⟩ := valEl HBP.out j h2
             have HS : Hid (lexC valC (aps.drop j) (bps.drop j) = if valC x' y' ≠ 0 then valC x' y' else lexC valC (aps.drop (j + 1)) (bps.drop (j + 1))) := hid (by rw [hsd, htd, lexC])
             have HC : Hid (∀ y : Ext W2, Calls Tryz.prog 21 #[.agg #[.int .i64 x'.n, .slice bxn x'.names.length dxn, .slice bxp x'.parts.length dxp, .slice bxe x'.entries.length dxe], .agg #[.int .i64 y'.n, .slice byn y'.names.length dyn, .slice byp y'.parts.length dyp, .slice bye y'.entries.length dye]] y.1 fun e w' => e = .returned (.int .i64 (valC x' y')) ∧ ∃ z : Ext W2, w' = z.1) := hid fun y => ext_call y (IH.out x' y' [.int .i64 x'.n, .slice bxn x'.names.length dxn, .slice bxp x'.parts.length dxp, .slice bxe x'.entries.length dxe] [.int .i64 y'.n, .slice byn y'.names.length dyn, .slice byp y'.parts.length dyp, .slice bye y'.entries.length dye] y.1 (HIP.out _ hxm) (valRd.below (HB.out y) _ _ hxr) (valRd.below (HB.out y) _ _ hyr))
             have HXC := hid fun y : Ext W2 => (hxc.below (HB.out y)).four
             have HYC := hid fun y : Ext W2 => (hyc.below (HB.out y)).four
             have x0' := fun y : Ext W2 => (HXC.out y).1
             have x1' := fun y : Ext W2 => (HXC.out y).2.1
             have x2' := fun y : Ext W2 => (HXC.out y).2.2.1
             have x3' := fun y : Ext W2 => (HXC.out y).2.2.2
             have y0' := fun y : Ext W2 => (HYC.out y).1
             have y1' := fun y : Ext W2 => (HYC.out y).2.1
             have y2' := fun y : Ext W2 => (HYC.out y).2.2.1
             have y3' := fun y : Ext W2 => (HYC.out y).2.2.2
             have HJ : Hid (j + 1 ≤ aps.length ∧ j + 1 ≤ bps.length) := hid ⟨h1, h2⟩
             have hd1 : (j : Int) < (aps.length : Int) := by omega
             have hd2 : (j : Int) < (bps.length : Int) := by omega
             clear hsd htd hxr hxc hyr hyc hxm
             generalize valC x' y' = C at HS HC
             go_wp2_with fail
             refine wp_region_at (by kernel_rfl) (by kernel_rfl) _ ?_
             repeat (go_big_quiet_step ((go_at_call 21; exact HC.out _)))
             refine wpQuiet_nil ?_
             rintro _ ⟨z, rfl⟩
             clear x0' x1' x2' x3' y0' y1' y2' y3'
             by_cases hc : C = 0
             · have hcb : (C != 0) = false := by simp [hc]
               have HR2 := He
               rw [HS.out, if_of_zero hc] at HR2
               clear hc He HS
               go_wp2_with fail
               go_roundw
               case rel => exact ⟨j + 1, _, HJ.out.1, HJ.out.2, by go_num, rfl, HR2⟩
               case measure => have := HJ.out.1; simp [intOf]; omega
             · have hcb : (C != 0) = true := by simp [hc]
               have HR2 : Hid (R = C) := hid (by rw [He.out, HS.out, if_of_nz hc, if_of_nz hc])
               clear hc He HS
               go_wp2_with fail
               go_ret
               exact ⟨ret_int HR2.out.symm, HB.out _⟩
           · have HLX : Hid (lexC valC (aps.drop j) (bps.drop j) = lenI aps.length bps.length) := hid (lexC_lens _ _ _ _ hj hj' hlt)
             have HN := He
             rw [HLX.out] at HN
             by_cases hln : aps.length = bps.length
             · have hlb : ((aps.length : Int) != (bps.length : Int)) = false := by simp [hln]
               have HR : Hid (R = lexC entC (aes.drop 0) (bes.drop 0)) := hid (by rw [HN.out, if_of_zero (lenI_eq hln)])
               have hi1 : (aps.length : Int) ≤ (j : Int) := by omega
               clear hlt He HN HLX hln
               go_wp2_with fail
               clear hi1 hlb
               go_loopw [8, 9] (fun i _ wr => ∃ (j : Nat) (x : Ext W2), j ≤ aes.length ∧ j ≤ bes.length ∧ i = .int .i64 j ∧ wr = x.1 ∧ Hid (R = lexC entC (aes.drop j) (bes.drop j))) (fun i _ _ => aes.length - (intOf i).toNat)
               case atStart => exact ⟨0, _, Nat.zero_le _, Nat.zero_le _, rfl, rfl, HR⟩
               case round =>
                obtain ⟨j, x, hj, hj', rfl, rfl, He⟩ := hrel
                by_cases hlt : j < aes.length ∧ j < bes.length
                · obtain ⟨h1, h2⟩ := hlt
                  obtain ⟨e, eb, eo, ea, ec, _, _, hsd, _, rfl, hek, hen, hec⟩ := entEl HAE.out j h1
                  obtain ⟨g, gb, go, ga, gc, _, _, htd, _, rfl, hgk, hgn, hgc⟩ := entEl HBE.out j h2
                  have HS : Hid (lexC entC (aes.drop j) (bes.drop j) = if entC e g ≠ 0 then entC e g else lexC entC (aes.drop (j + 1)) (bes.drop (j + 1))) := hid (by rw [hsd, htd, lexC])
                  have HC : Hid (∀ y : Ext W2, Calls Tryz.prog 49 #[.agg #[.slice ea e.clock.length ec, .string e.name], .agg #[.slice ga g.clock.length gc, .string g.name]] y.1 fun r w' => r = .returned (.int .i64 (entC e g)) ∧ ∃ z : Ext W2, w' = z.1) := hid fun y => ext_call y (rEntries_any e g [.slice ea e.clock.length ec, .string e.name] [.slice ga g.clock.length gc, .string g.name] y.1 ⟨_, rfl, SlRd.below hek (HB.out y) fun _ _ _ h => h, hen⟩ ⟨_, rfl, SlRd.below hgk (HB.out y) fun _ _ _ h => h, hgn⟩)
                  have HEC := hid fun y : Ext W2 => (hec.below (HB.out y)).two
                  have HGC := hid fun y : Ext W2 => (hgc.below (HB.out y)).two
                  have e0 := fun y : Ext W2 => (HEC.out y).1
                  have e1 := fun y : Ext W2 => (HEC.out y).2
                  have g0 := fun y : Ext W2 => (HGC.out y).1
                  have g1 := fun y : Ext W2 => (HGC.out y).2
                  have HJ : Hid (j + 1 ≤ aes.length ∧ j + 1 ≤ bes.length) := hid ⟨h1, h2⟩
                  have hd1 : (j : Int) < (aes.length : Int) := by omega
                  have hd2 : (j : Int) < (bes.length : Int) := by omega
                  clear hsd htd hek hen hec hgk hgn hgc
                  generalize entC e g = C at HS HC
                  go_wp2_with fail
                  refine wp_region_at (by kernel_rfl) (by kernel_rfl) _ ?_
                  repeat (go_big_quiet_step ((go_at_call 49; exact HC.out _)))
                  refine wpQuiet_nil ?_
                  rintro _ ⟨z, rfl⟩
                  clear e0 e1 g0 g1
                  by_cases hc : C = 0
                  · have hcb : (C != 0) = false := by simp [hc]
                    have HR2 := He
                    rw [HS.out, if_of_zero hc] at HR2
                    clear hc He HS
                    go_wp2_with fail
                    go_roundw
                    case rel => exact ⟨j + 1, _, HJ.out.1, HJ.out.2, by go_num, rfl, HR2⟩
                    case measure => have := HJ.out.1; simp [intOf]; omega
                  · have hcb : (C != 0) = true := by simp [hc]
                    have HR2 : Hid (R = C) := hid (by rw [He.out, HS.out, if_of_nz hc])
                    clear hc He HS
                    go_wp2_with fail
                    go_ret
                    exact ⟨ret_int HR2.out.symm, HB.out _⟩
                · have HR2 : Hid (R = lenI aes.length bes.length) := hid (by rw [He.out, lexC_lens _ _ _ _ hj hj' hlt])
                  clear He
                  by_cases h1 : j < aes.length
                  · have hi2 : (bes.length : Int) ≤ (j : Int) := by omega
                    have hi1 : (j : Int) < (aes.length : Int) := by omega
                    clear h1 hlt
                    go_wp2_with fail
                    refine (HLE.out _ _ _).mono ?_
                    rintro e w1 ⟨rfl, rfl⟩
                    go_wp2_with fail
                    go_ret
                    exact ⟨ret_int HR2.out.symm, HB.out _⟩
                  · have hi1 : (aes.length : Int) ≤ (j : Int) := by omega
                    clear h1 hlt
                    go_wp2_with fail
                    refine (HLE.out _ _ _).mono ?_
                    rintro e w1 ⟨rfl, rfl⟩
                    go_wp2_with fail
                    go_ret
                    exact ⟨ret_int HR2.out.symm, HB.out _⟩
             · have hlb : ((aps.length : Int) != (bps.length : Int)) = true := by simp; omega
               have HR2 : Hid (R = lenI aps.length bps.length) := hid (by rw [HN.out, if_of_nz (lenI_nz hln)])
               clear HN HLX hln He
               by_cases h1 : j < aps.length
               · have hi2 : (bps.length : Int) ≤ (j : Int) := by omega
                 have hi1 : (j : Int) < (aps.length : Int) := by omega
                 clear h1 hlt
                 go_wp2_with fail
                 refine (HLE.out _ _ _).mono ?_
                 rintro e w1 ⟨rfl, rfl⟩
                 go_wp2_with fail
                 go_ret
                 exact ⟨ret_int HR2.out.symm, HB.out _⟩
               · have hje : j = aps.length := by omega
                 subst hje
                 clear h1 hlt
                 go_wp2_with fail
                 refine (HLE.out _ _ _).mono ?_
                 rintro e w1 ⟨rfl, rfl⟩
                 go_wp2_with fail
                 go_ret
                 exact ⟨ret_int HR2.out.symm, HB.out _⟩
        · have hlb : ((ans.length : Int) != (bns.length : Int)) = true := by simp; omega
          have HR2 : Hid (R = lenI ans.length bns.length) := hid (by rw [HN.out, if_of_nz (lenI_nz hln)])
          clear HN HLX hln He HE2
          by_cases h1 : j < ans.length
          · have hi2 : (bns.length : Int) ≤ (j : Int) := by omega
            have hi1 : (j : Int) < (ans.length : Int) := by omega
            clear h1 hlt
            go_wp2_with fail
            refine (HLE.out _ _ _).mono ?_
            rintro e w1 ⟨rfl, rfl⟩
            go_wp2_with fail
            go_ret
            exact ⟨ret_int HR2.out.symm, HB.out _⟩
          · have hje : j = ans.length := by omega
            subst hje
            clear h1 hlt
            go_wp2_with fail
            refine (HLE.out _ _ _).mono ?_
            rintro e w1 ⟨rfl, rfl⟩
            go_wp2_with fail
            go_ret
            exact ⟨ret_int HR2.out.symm, HB.out _⟩
   · have hnb : (an != bn) = true := by simp [hn]
     have HR : Hid (R = signI (decide (an < bn))) := hid (by rw [HE.out, if_of_nz (cmpI_nz hn), cmpI_sign hn])
     clear hn HE
     have HBB : Hid (∀ O1 O2, Below w.heap.size w ((w.alloc O1).alloc O2)) := hid fun O1 O2 => ((Below.refl _ _).alloc (Nat.le_refl _) O1).alloc (by simp) O2
     go_enter Tryz.func21, Tryz.ntmps21
     go_wp2_with fail
     refine (sign_any _ _).mono ?_
     rintro e w1 ⟨rfl, rfl⟩
     go_wp2_with fail
     go_ret
     exact ⟨ret_int HR.out.symm, HBB.out _ _⟩
theorem rEqual_any (a b : Val) (ca cb : List Value) (w : World) (ha : valRd w a ca) (hb : valRd w b cb) :
 Calls Tryz.prog 19 #[.agg ca.toArray, .agg cb.toArray] w fun e w' => e = .returned (.bool (decide (valC a b = 0))) ∧ Below w.heap.size w w' := by
 have HC : Hid (∀ W, Below w.heap.size w W → Calls Tryz.prog 21 #[.agg ca.toArray, .agg cb.toArray] W fun e w' => e = .returned (.int .i64 (valC a b)) ∧ Below W.heap.size W w') :=
   hid fun W h => rCompare_any _ a b ca cb W (Nat.le_refl _) (valRd.below h _ _ ha) (valRd.below h _ _ hb)
 have HZ : Hid ((valC a b == 0) = decide (valC a b = 0)) := hid (beqI' _ _)
 obtain ⟨ban, dan, bap, dap, bae, dae, rfl, gai, gan, gap, gae, ⟨_, nan⟩, ⟨_, nap⟩, _, nae⟩ := valRd.lay ha
 obtain ⟨bbn, dbn, bbp, dbp, bbe, dbe, rfl, gbi, gbn, gbp, gbe, ⟨_, nbn⟩, ⟨_, nbp⟩, _, nbe⟩ := valRd.lay hb
 clear ha hb gai gbi gan gbn gap gbp gae gbe
 generalize decide (valC a b = 0) = D at HZ ⊢
 generalize valC a b = E at HC HZ
 have HB : Hid (∀ O1 O2, Below w.heap.size w ((w.alloc O1).alloc O2)) := hid fun O1 O2 => ((Below.refl _ _).alloc (Nat.le_refl _) O1).alloc (by simp) O2
 go_enter Tryz.func19, Tryz.ntmps19
 go_wp2_with fail
 refine (HC.out _ (HB.out _ _)).mono ?_
 rintro e w1 ⟨rfl, hb1⟩
 have HB1 := hid ((HB.out _ _).trans (hb1.mono (HB.out _ _).size))
 clear hb1
 go_wp2_with fail
 go_ret
 exact ⟨ret_bool HZ.out, HB1.out⟩
def roomI (n m : Nat) : Int := if n ≤ m then ((m - n : Nat) : Int) else -1
theorem roomI_no {n m : Nat} (h : m < n) : roomI n m = -1 := if_neg (by omega)
theorem roomI_step {n m k : Nat} (h : k ≤ m) : roomI (k + n) m = roomI n (m - k) := by
 unfold roomI
 by_cases h1 : k + n ≤ m
 · rw [if_pos h1, if_pos (by omega)]; congr 1; omega
 · rw [if_neg h1, if_neg (by omega)]
theorem room_wrap {m n M : Nat} (hm : m ≤ 1000000) (h : n + 1 ≤ m) (hM : M = m - (1 + n)) : ∃ A K : Nat, wrap64 ((m : Int) - 1) = (A : Int) ∧ (n : Int) ≤ (A : Int) ∧ wrap64 (1 + (n : Int)) = (K : Int) ∧ wrap64 ((m : Int) - (K : Int)) = (M : Int) ∧ M ≤ 1000000 ∧ (1 : Int) ≤ (m : Int) := by
 have h1 : (m : Int) - ((1 + n : Nat) : Int) = (M : Int) := by omega
 exact ⟨m - 1, 1 + n, (IntWalk.wrap64_in _ (by omega)).trans (by omega), by omega, (IntWalk.wrap64_in _ (by omega)).trans (by omega), (IntWalk.wrap64_in _ (by omega)).trans h1, by omega, by omega⟩
theorem room_small {m n : Nat} (hm : m ≤ 1000000) (h1 : 1 ≤ m) (h : ¬ (1 ≤ m ∧ n + 1 ≤ m)) : ∃ A : Nat, wrap64 ((m : Int) - 1) = (A : Int) ∧ (A : Int) < (n : Int) ∧ (1 : Int) ≤ (m : Int) := ⟨m - 1, (IntWalk.wrap64_in _ (by omega)).trans (by omega), by omega, by omega⟩
def entsN : List En → Nat
 | [] => 0
 | e :: t => 1 + e.clock.length + entsN t
theorem entsN_eq : ∀ l : List En, entsN l = l.length + (l.map fun e => e.clock.length).sum
  | [] => rfl
  | e :: t => by rw [entsN, entsN_eq t, List.length_cons, List.map_cons, List.sum_cons]; omega
theorem room_any (f : Nat) : ∀ (v : Val) (cs : List Value) (m : Nat) (w : World), SizeOf.sizeOf v ≤ f → valRd w v cs → m ≤ 1000000 →
 Calls Tryz.prog 35 #[.agg cs.toArray, .int .i64 m] w fun e w' => e = .returned (.int .i64 (roomI (nodesN v) m)) ∧ Below w.heap.size w w' := by
 induction f with
 | zero => intro v cs m w hn; cases v; simp at hn
 | succ f ih =>
   intro v cs m w hn hv hm
   have IH := hid ih
   obtain ⟨bvn, dvn, bvp, dvp, bve, dve, rfl, gvi, gvn, gvp, gve, ⟨_, nvn⟩, ⟨_, nvp⟩, _, nve⟩ := valRd.lay hv
   have HIP : Hid (∀ p ∈ v.parts, SizeOf.sizeOf p ≤ f) := hid fun p hp => by have := sizeOf_vp hp; omega
   have HT : Hid (nodesN v = (1 + v.names.length) + (entsN v.entries + nodesNs v.parts)) := hid (by rw [nodesN_eq, entsN_eq]; omega)
   obtain ⟨vn, vns, vps, ves⟩ := v
   simp only [Val.n, Val.names, Val.parts, Val.entries] at gvn gvp gve nvn nvp nve HIP HT ⊢
   generalize nodesN (.mk vn vns vps ves) = T at HT ⊢
   have HP := hid gvp
   have HE := hid gve
   have HM := hid hm
   have HR0 : Hid (roomI T m = roomI ((1 + vns.length) + (entsN (ves.drop 0) + nodesNs (vps.drop 0))) m) := hid (by rw [HT.out]; rfl)
   generalize roomI T m = R at HR0 ⊢
   clear hv hn ih gvn gvp gve gvi hm HT
   have HB : Hid (∀ x : Ext (w.alloc (.cells #[.int .i64 vn, .slice bvn vns.length dvn, .slice bvp vps.length dvp, .slice bve ves.length dve] 30)), Below w.heap.size w x.1) := hid fun x => ((Below.refl _ _).alloc (Nat.le_refl _) _).trans (x.2.mono (by simp))
   have HX : Hid (∀ (x : Ext (w.alloc (.cells #[.int .i64 vn, .slice bvn vns.length dvn, .slice bvp vps.length dvp, .slice bve ves.length dve] 30))) (i : Nat) q, #[.int .i64 vn, .slice bvn vns.length dvn, .slice bvp vps.length dvp, .slice bve ves.length dve][i]? = some q → x.1.cell? ⟨w.heap.size, i, none⟩ = some q) := hid fun x i q hq => x.cell (by rw [World.cell?_alloc_at _ _ _ _ rfl]; exact hq)
   by_cases h1 : 1 ≤ m ∧ vns.length + 1 ≤ m
   · obtain ⟨h1, h2⟩ := h1
     obtain ⟨M, hM⟩ : ∃ M : Nat, M = m - (1 + vns.length) := ⟨_, rfl⟩
     have HR1 : Hid (R = roomI (entsN (ves.drop 0) + nodesNs (vps.drop 0)) M) := hid (by rw [HR0.out, roomI_step (by omega), hM])
     obtain ⟨A, K, hw1, hi2, hw2, hw3, hm1, hi1⟩ := room_wrap HM.out h2 hM
     have HM1 := hid hm1
     clear hm1
     clear h1 h2 HR0 hM
     go_enter Tryz.func35, Tryz.ntmps35
     go_wp2_with fail
     generalize w.alloc (.cells #[.int .i64 vn, .slice bvn vns.length dvn, .slice bvp vps.length dvp, .slice bve ves.length dve] 30) = W1 at HB HX ⊢
     obtain ⟨x0, hx⟩ := ext_self W1
     rw [hx]
     clear hx hw1 hw2 hw3 hi1 hi2
     obtain ⟨-, -, c2, c3⟩ := bx4 fun x : Ext W1 => HX.out x
     go_loopw [1, 5] (fun q i wr => ∃ (j M : Nat) (x : Ext W1), j ≤ ves.length ∧ i = .int .i64 j ∧ q = .int .i64 M ∧ wr = x.1 ∧ Hid (M ≤ 1000000) ∧ Hid (R = roomI (entsN (ves.drop j) + nodesNs (vps.drop 0)) M)) (fun _ i _ => ves.length - (intOf i).toNat)
     case atStart => exact ⟨0, M, x0, Nat.zero_le _, rfl, rfl, rfl, HM1, HR1⟩
     case round =>
      obtain ⟨j, M, x, hj, rfl, rfl, rfl, HMM, He⟩ := hrel
      by_cases hlt : j < ves.length
      · obtain ⟨e, eb, eo, ea, ec, _, _, hed, _, rfl, _, _, hec⟩ := entEl HE.out j hlt
        have hed2 : entsN (ves.drop j) = 1 + e.clock.length + entsN (ves.drop (j + 1)) := by rw [hed, entsN]
        have HR2 : Hid (R = roomI ((1 + e.clock.length) + (entsN (ves.drop (j + 1)) + nodesNs (vps.drop 0))) M) := hid (by rw [He.out, hed2, Nat.add_assoc])
        have HEC := hid fun y : Ext W1 => (hec.below (HB.out y)).two
        have e0 := fun y : Ext W1 => (HEC.out y).1
        have HJ : Hid (j + 1 ≤ ves.length) := hid hlt
        clear hed hed2 hec He
        by_cases h1 : 1 ≤ M ∧ e.clock.length + 1 ≤ M
        · obtain ⟨h1, h2⟩ := h1
          obtain ⟨M2, hM⟩ : ∃ M2 : Nat, M2 = M - (1 + e.clock.length) := ⟨_, rfl⟩
          have HR3 : Hid (R = roomI (entsN (ves.drop (j + 1)) + nodesNs (vps.drop 0)) M2) := hid (by rw [HR2.out, roomI_step (by omega), hM])
          obtain ⟨A, K, hw1, hi2, hw2, hw3, hm1, hi1⟩ := room_wrap HMM.out h2 hM
          have HM1 := hid hm1
          clear hm1
          clear h1 h2 HR2 hM
          go_wp2_with fail
          go_roundw
          case rel => exact ⟨j + 1, M2, x, HJ.out, by go_num, by rw [hw3], rfl, HM1, HR3⟩
          case measure => have := HJ.out; simp [intOf]; omega
        · have HR3 : Hid (R = -1) := hid (by rw [HR2.out, roomI_no (by omega)])
          by_cases hm1 : 1 ≤ M
          · obtain ⟨A, hw1, hi2, hi1⟩ := room_small HMM.out hm1 h1
            clear h1 hm1 HR2
            go_wp2_with fail
            go_ret
            exact ⟨ret_int HR3.out.symm, HB.out _⟩
          · have hi1 : (M : Int) < 1 := by omega
            clear h1 hm1 HR2
            go_wp2_with fail
            go_ret
            exact ⟨ret_int HR3.out.symm, HB.out _⟩
      · have HR2 : Hid (R = roomI (nodesNs (vps.drop 0)) M) := hid (by rw [He.out, show ves.drop j = [] from List.drop_eq_nil_of_le (by omega), entsN, Nat.zero_add])
        have hje : j = ves.length := by omega
        subst hje
        clear hlt He HR1
        go_wp2_with fail
        go_loopw [1, 6] (fun q i wr => ∃ (j M : Nat) (x : Ext W1), j ≤ vps.length ∧ i = .int .i64 j ∧ q = .int .i64 M ∧ wr = x.1 ∧ Hid (M ≤ 1000000) ∧ Hid (R = roomI (nodesNs (vps.drop j)) M)) (fun _ i _ => vps.length - (intOf i).toNat)
        case atStart => exact ⟨0, M, x, Nat.zero_le _, rfl, rfl, rfl, HMM, HR2⟩
        case round =>
         obtain ⟨k, M, x, hk, rfl, rfl, rfl, HMM, He⟩ := hrel
         by_cases hlt : k < vps.length
         · obtain ⟨p, pb, po, bxn, dxn, bxp, dxp, bxe, dxe, _, hpm, hpd, _, rfl, hpr, hpc⟩ := valEl HP.out k hlt
           have HR3 : Hid (R = roomI (nodesN p + nodesNs (vps.drop (k + 1))) M) := hid (by rw [He.out, hpd, nodesNs])
           have HC : Hid (∀ y : Ext W1, Calls Tryz.prog 35 #[.agg #[.int .i64 p.n, .slice bxn p.names.length dxn, .slice bxp p.parts.length dxp, .slice bxe p.entries.length dxe], .int .i64 M] y.1 fun r w' => r = .returned (.int .i64 (roomI (nodesN p) M)) ∧ Below y.1.heap.size y.1 w') := hid fun y => IH.out p [.int .i64 p.n, .slice bxn p.names.length dxn, .slice bxp p.parts.length dxp, .slice bxe p.entries.length dxe] M y.1 (HIP.out _ hpm) (valRd.below (HB.out y) _ _ hpr) HMM.out
           obtain ⟨p0, p1, p2, p3⟩ := (hpc.below (HB.out x)).four
           have HJ : Hid (k + 1 ≤ vps.length) := hid hlt
           clear hpm hpd hpr hpc He
           go_wp2_with fail
           refine (HC.out _).mono ?_
           rintro r w1 ⟨rfl, hb1⟩
           have HX1 : Hid (Below W1.heap.size W1 w1) := hid (x.2.trans (hb1.mono x.2.size))
           clear hb1 p0 p1 p2 p3
           by_cases hn : nodesN p ≤ M
           · have hr : roomI (nodesN p) M = ((M - nodesN p : Nat) : Int) := if_pos hn
             have HR4 : Hid (R = roomI (nodesNs (vps.drop (k + 1))) (M - nodesN p)) := hid (by rw [HR3.out, roomI_step hn])
             have HM1 : Hid (M - nodesN p ≤ 1000000) := hid (by have := HMM.out; omega)
             rw [hr]
             clear hn hr HR3
             generalize M - nodesN p = M2 at HR4 HM1 ⊢
             have hi0 : (0 : Int) ≤ (M2 : Int) := by omega
             go_wp2_with fail
             go_roundw
             case rel => exact ⟨k + 1, M2, ⟨w1, HX1.out⟩, HJ.out, by go_num, rfl, rfl, HM1, HR4⟩
             case measure => have := HJ.out; simp [intOf]; omega
           · have hr : roomI (nodesN p) M = -1 := roomI_no (by omega)
             have HR4 : Hid (R = -1) := hid (by rw [HR3.out, roomI_no (by omega)])
             rw [hr]
             clear hn hr HR3
             go_wp2_with fail
             go_ret
             exact ⟨ret_int HR4.out.symm, HB.out ⟨w1, HX1.out⟩⟩
         · have hke : k = vps.length := by omega
           subst hke
           have HR3 : Hid (R = M) := hid (by rw [He.out, List.drop_length, nodesNs]; exact if_pos (Nat.zero_le _))
           clear He hlt
           go_wp2_with fail
           go_ret
           exact ⟨ret_int HR3.out.symm, HB.out _⟩
   · have HR1 : Hid (R = -1) := hid (by rw [HR0.out, roomI_no (by omega)])
     by_cases hm1 : 1 ≤ m
     · obtain ⟨A, hw1, hi2, hi1⟩ := room_small HM.out hm1 h1
       have HBB : Hid (∀ O, Below w.heap.size w (w.alloc O)) := hid fun O => (Below.refl _ _).alloc (Nat.le_refl _) O
       clear h1 hm1 HR0
       go_enter Tryz.func35, Tryz.ntmps35
       go_wp2_with fail
       go_ret
       exact ⟨ret_int HR1.out.symm, HBB.out _⟩
     · have hi1 : (m : Int) < 1 := by omega
       have HBB : Hid (∀ O, Below w.heap.size w (w.alloc O)) := hid fun O => (Below.refl _ _).alloc (Nat.le_refl _) O
       clear h1 hm1 HR0
       go_enter Tryz.func35, Tryz.ntmps35
       go_wp2_with fail
       go_ret
       exact ⟨ret_int HR1.out.symm, HBB.out _⟩
theorem small_ref (v : Val) (cs : List Value) (m : Nat) (w : World) (hv : valRd w v cs) (hm : m ≤ 1000000) :
 Calls Tryz.prog 13 #[.agg cs.toArray, .int .i64 m] w fun e w' => e = .returned (.bool (decide (nodesN v ≤ m))) ∧ Below w.heap.size w w' := by
 have HC : Hid (∀ W, Below w.heap.size w W → Calls Tryz.prog 35 #[.agg cs.toArray, .int .i64 m] W fun e w' => e = .returned (.int .i64 (roomI (nodesN v) m)) ∧ Below W.heap.size W w') := hid fun W h => room_any _ v cs m W (Nat.le_refl _) (valRd.below h _ _ hv) hm
 have HZ : Hid (decide ((0 : Int) ≤ roomI (nodesN v) m) = decide (nodesN v ≤ m)) := hid (by
  unfold roomI
  by_cases h : nodesN v ≤ m
  · rw [if_pos h, decide_eq_true h]; exact decide_eq_true (by omega)
  · rw [if_neg h, decide_eq_false h]; rfl)
 obtain ⟨bvn, dvn, bvp, dvp, bve, dve, rfl, gvi, gvn, gvp, gve, ⟨_, nvn⟩, ⟨_, nvp⟩, _, nve⟩ := valRd.lay hv
 clear hv gvi gvn gvp gve
 generalize decide (nodesN v ≤ m) = D at HZ ⊢
 generalize roomI (nodesN v) m = E at HC HZ
 have HB : Hid (∀ O, Below w.heap.size w (w.alloc O)) := hid fun O => (Below.refl _ _).alloc (Nat.le_refl _) O
 go_enter Tryz.func13, Tryz.ntmps13
 go_wp2_with fail
 refine (HC.out _ (HB.out _)).mono ?_
 rintro e w1 ⟨rfl, hb1⟩
 have HB1 := hid ((HB.out _).trans (hb1.mono (HB.out _).size))
 clear hb1
 go_wp2_with fail
 go_ret
 exact ⟨ret_bool HZ.out, HB1.out⟩
theorem byteEl {w : World} {a : Option Addr} {n cap : Nat} {l : List UInt8} (h : SlRd w 1 byteRd (.slice a n cap) l) (i : Nat) (hi : i < l.length) :
 ∃ c b o, l.drop i = c :: l.drop (i + 1) ∧ a = some ⟨b, o, none⟩ ∧ w.cell? ⟨b, o + i, none⟩ = some (.int .u8 c.toNat) := by
 obtain ⟨b, o, cs, h1, _, hc, rfl⟩ := h.at i hi
 exact ⟨l[i], b, o, drop_at l i hi, h1, by have := hc 0 (by simp); simp only [List.getElem_cons_zero, Nat.mul_one, Nat.add_zero] at this; exact this⟩
theorem bytes_any (va vb : Value) (a b : List UInt8) (w : World) (ha : SlRd w 1 byteRd va a) (hb : SlRd w 1 byteRd vb b) :
 Calls Tryz.prog 26 #[va, vb] w fun e w' => e = .returned (.bool (decide (a = b))) ∧ Below w.heap.size w w' := by
 obtain ⟨aa, ca, rfl, _, hma⟩ := ha.shape
 obtain ⟨ab, cb, rfl, _, hmb⟩ := hb.shape
 have HA := hid ha
 have HBB := hid hb
 clear ha hb
 by_cases hl : a.length = b.length
 · have hlb : ((a.length : Int) != (b.length : Int)) = false := by simp [hl]
   have HLL := hid hl
   have HE : Hid (decide (a = b) = decide (a.drop 0 = b.drop 0)) := hid rfl
   generalize decide (a = b) = R at HE ⊢
   clear hl
   go_enter Tryz.func26, Tryz.ntmps26
   go_wp2_with fail
   clear hlb
   go_loopw [5] (fun i wr => ∃ (j : Nat) (x : Ext w), j ≤ a.length ∧ i = .int .i64 j ∧ wr = x.1 ∧ Hid (R = decide (a.drop j = b.drop j))) (fun i _ => a.length - (intOf i).toNat)
   case atStart => exact ⟨0, ⟨w, Below.refl _ _⟩, Nat.zero_le _, rfl, rfl, HE⟩
   case round =>
    obtain ⟨j, x, hj, rfl, rfl, He⟩ := hrel
    by_cases hlt : j < a.length
    · have h2 : j < b.length := by have := HLL.out; omega
      obtain ⟨s, sb, so, hsd, rfl, hsc⟩ := byteEl HA.out j hlt
      obtain ⟨t, tb, to, htd, rfl, htc⟩ := byteEl HBB.out j h2
      have HS : Hid (R = decide (s :: a.drop (j + 1) = t :: b.drop (j + 1))) := hid (by rw [He.out, hsd, htd])
      have s0 : ∀ y : Ext w, y.1.cell? ⟨sb, so + j, none⟩ = some (.int .u8 s.toNat) := fun y => y.cell hsc
      have t0 : ∀ y : Ext w, y.1.cell? ⟨tb, to + j, none⟩ = some (.int .u8 t.toNat) := fun y => y.cell htc
      have hd1 : (j : Int) < (a.length : Int) := by omega
      have hd2 : (j : Int) < (b.length : Int) := by omega
      have HJ : Hid (j + 1 ≤ a.length) := hid hlt
      clear hsd htd hsc htc He
      by_cases hst : s = t
      · have HR : Hid (R = decide (a.drop (j + 1) = b.drop (j + 1))) := hid (by rw [HS.out, hst]; simp)
        have hq : ((s.toNat : Int) != (t.toNat : Int)) = false := by simp [hst]
        clear hst HS
        go_wp2_with fail
        refine wp_region_at (by kernel_rfl) (by kernel_rfl) _ ?_
        repeat (go_big_quiet_step (fail))
        refine wpQuiet_nil ?_
        rintro _ ⟨z, rfl⟩
        go_wp2_with fail
        go_roundw
        case rel => exact ⟨j + 1, z, HJ.out, by go_num, rfl, HR⟩
        case measure => have := HJ.out; simp [intOf]; omega
      · have HR : Hid (R = false) := hid (by rw [HS.out, decide_eq_false]; intro e; injection e with e _; exact hst e)
        have hq : ((s.toNat : Int) != (t.toNat : Int)) = true := by
         simp only [bne_iff_ne, ne_eq]
         intro e
         exact hst (UInt8.toNat_inj.1 (by omega))
        clear hst HS
        go_wp2_with fail
        refine wp_region_at (by kernel_rfl) (by kernel_rfl) _ ?_
        repeat (go_big_quiet_step (fail))
        refine wpQuiet_nil ?_
        rintro _ ⟨z, rfl⟩
        go_wp2_with fail
        go_ret
        exact ⟨ret_bool HR.out.symm, z.2⟩
    · have HR : Hid (R = true) := hid (by rw [He.out, show a.drop j = [] from List.drop_eq_nil_of_le (by omega), show b.drop j = [] from List.drop_eq_nil_of_le (by have := HLL.out; omega)]; rfl)
      have hje : j = a.length := by omega
      subst hje
      clear hlt He
      go_wp2_with fail
      go_ret
      exact ⟨ret_bool HR.out.symm, x.2⟩
 · have hlb : ((a.length : Int) != (b.length : Int)) = true := by simp; omega
   have HR : Hid (decide (a = b) = false) := hid (decide_eq_false fun h => hl (by rw [h]))
   clear hl
   go_enter Tryz.func26, Tryz.ntmps26
   go_wp2_with fail
   go_ret
   exact ⟨ret_bool HR.out.symm, Below.refl _ _⟩
def s1 (a : UInt8) : ByteArray := ⟨#[a]⟩
def L0 : Lat := .mk 6 0 0 [s1 99, s1 97] [.mk 2 0 9 [] [] [], .mk 4 0 0 [] [] []] []
def V0 : Val := .mk 0 [] [.mk 3 [] [] [], .mk 0 [s1 120, s1 121] [] []] []
def M0 : Lat := .mk 5 0 0 [] [.mk 2 0 5 [] [] []] []
def K0 : Val := .mk 0 [s1 107] [zeroV] []
theorem s1_list (a : UInt8) : (s1 a).toList = [a] := Lib.toList_data _
theorem chk_L0 : chkE L0 = 0 := by decide +kernel
theorem lt_xy : strLt (s1 120) (s1 121) = true := by unfold strLt; rw [s1_list, s1_list]; rfl
theorem el_V0 : elemB L0 V0 = true := by
 rw [L0, isE_67 (.inl rfl)]
 refine ⟨⟨rfl, rfl, rfl⟩, rfl, ?_⟩
 show elemsB [_, _] [_, _] = true
 rw [elemsB, elemsB, elemsB, Bool.and_true, Bool.and_eq_true]
 refine ⟨(isE_23 (.inl rfl)).2 ⟨by decide, rfl, rfl, rfl⟩, isE_4.2 ⟨⟨rfl, rfl, rfl⟩, ?_⟩⟩
 show allowedB [] [s1 120, s1 121] = true
 show ((strLt (s1 120) (s1 121) && true) && [s1 120, s1 121].all (memB [])) = true
 rw [lt_xy]
 decide +kernel
theorem put_V0 : putV L0 V0 = [6, 2, 1, 120, 1, 121] := by
 rw [L0, putV_67 (.inl rfl)]
 show putVs [_, _] [_, _] = _
 rw [putVs, putVs, putVs, putV_23 (.inl rfl), putV_410 (.inl rfl)]
 show intE 3 ++ (uintE 2 ++ ([s1 120, s1 121].flatMap textE) ++ []) = _
 unfold intE textE
 rw [show zz 3 = 6 from rfl, uintE_lt (by decide), uintE_lt (by decide)]
 simp only [List.flatMap_cons, List.flatMap_nil]
 rw [show (s1 120).size = 1 from rfl, show (s1 121).size = 1 from rfl, uintE_lt (by decide)]
 rfl
theorem enc_V0 : encodeE L0 V0 = ([6, 2, 1, 120, 1, 121], 0) := by
 unfold encodeE
 rw [if_neg (fun h => h chk_L0), if_neg (by rw [el_V0]; decide), put_V0]
theorem dec_V0 : decodeV L0 [6, 2, 1, 120, 1, 121] = (V0, 0) := (decodeV_iff chk_L0 _ _ (by decide)).2 ⟨el_V0, put_V0.symm⟩
theorem txt_V0 : textE' L0 V0 = ([40, 99, 58, 32, 51, 44, 32, 97, 58, 32, 123, 120, 44, 121, 125, 41], 0) := by
 unfold textE'
 rw [if_neg (fun h => h chk_L0), if_neg (by rw [el_V0]; decide)]
 have h3 : Lib.itoa 3 = [51] := by unfold Lib.itoa; rw [if_neg (by decide)]; rw [Lib.decDigits_one (by decide)]; rfl
 have hl : textV (.mk 2 0 9 [] [] []) (.mk 3 [] [] []) = [51] := by rw [textV, if_neg (by decide), if_pos (by decide)]; exact h3
 have hs : textV (.mk 4 0 0 [] [] []) (.mk 0 [s1 120, s1 121] [] []) = [123, 120, 44, 121, 125] := by
  rw [textV, if_neg (by decide), if_neg (by decide), if_pos (by decide)]
  rfl
 have e : textV L0 V0 = 40 :: (Lib.join [bsOf (s1 99) ++ 58 :: 32 :: [51], bsOf (s1 97) ++ 58 :: 32 :: [123, 120, 44, 121, 125]] [44, 32] ++ [41]) := by
  rw [L0, textV, if_neg (by decide), if_neg (by decide), if_neg (by decide), if_neg (by decide), if_neg (by decide), if_neg (by decide), if_pos (by decide)]
  show 40 :: (Lib.join (textProd [_, _] [_, _] [_, _]) _ ++ _) = _
  rw [textProd, textProd, textProd, hl, hs]
 rw [e]
 rfl
theorem top_L0 : topE L0 = (zeroV, 14) := by
 unfold topE
 rw [if_pos chk_L0]
 have : topV L0 = (zeroV, false) := by
  rw [L0, topV, if_neg (by decide), if_neg (by decide), if_neg (by decide), if_neg (by decide), if_neg (by decide), if_neg (by decide), if_neg (by decide), if_neg]
  rw [topOk, topOk, topOk, topV, topV]
  decide
 rw [this]
 rfl
theorem val_V0 : validB L0 V0 = true := by unfold validB; rw [el_V0, chk_L0]; rfl
theorem val_Z0 : validB L0 zeroV = false := by
 unfold validB
 have : elemB L0 zeroV = false := by
  cases h : elemB L0 zeroV
  · rfl
  · rw [L0, isE_67 (.inl rfl)] at h
    exact absurd h.2.1 (by decide)
 rw [this, Bool.and_false]
theorem val_K0 : validB M0 K0 = false := by
 unfold validB
 have : elemB M0 K0 = false := by
  cases h : elemB M0 K0
  · rfl
  · rw [M0, isE_5] at h
    have h2 := ((mapB_one _ _).1 h.2.2.2 zeroV (by simp [K0, Val.parts])).2
    exact absurd ((valC_zero _ _).2 (by rw [botV]; rfl)) h2
 rw [this, Bool.and_false]
theorem nod_V0 : nodesN V0 = 5 := by
 rw [V0, nodesN, nodesNs, nodesNs, nodesNs, nodesN, nodesN, nodesNs]
 rfl
theorem cmp_V0 : valC zeroV V0 = -1 := by
 have h1 : cmpI zeroV.n V0.n = 0 := rfl
 have h2 : lexC strC zeroV.names V0.names = 0 := rfl
 have h3 : lexC valC zeroV.parts V0.parts = -1 := rfl
 rw [valC_eq, if_of_zero h1, if_of_zero h2, if_of_nz (by rw [h3]; decide), h3]
theorem all10 {α : Sort _} {p0 p1 p2 p3 p4 p5 p6 p7 p8 p9 : α → Prop} (h : ∀ o, p0 o ∧ p1 o ∧ p2 o ∧ p3 o ∧ p4 o ∧ p5 o ∧ p6 o ∧ p7 o ∧ p8 o ∧ p9 o) :
 (∀ o, p0 o) ∧ (∀ o, p1 o) ∧ (∀ o, p2 o) ∧ (∀ o, p3 o) ∧ (∀ o, p4 o) ∧ (∀ o, p5 o) ∧ (∀ o, p6 o) ∧ (∀ o, p7 o) ∧ (∀ o, p8 o) ∧ (∀ o, p9 o) :=
 ⟨fun o => (h o).1, fun o => (h o).2.1, fun o => (h o).2.2.1, fun o => (h o).2.2.2.1, fun o => (h o).2.2.2.2.1, fun o => (h o).2.2.2.2.2.1, fun o => (h o).2.2.2.2.2.2.1, fun o => (h o).2.2.2.2.2.2.2.1, fun o => (h o).2.2.2.2.2.2.2.2.1, fun o => (h o).2.2.2.2.2.2.2.2.2⟩
theorem all10c {p0 p1 p2 p3 p4 p5 p6 p7 p8 p9 : Obj → Obj → Obj → Prop} (h : ∀ o p q, p0 o p q ∧ p1 o p q ∧ p2 o p q ∧ p3 o p q ∧ p4 o p q ∧ p5 o p q ∧ p6 o p q ∧ p7 o p q ∧ p8 o p q ∧ p9 o p q) :
 (∀ o p q, p0 o p q) ∧ (∀ o p q, p1 o p q) ∧ (∀ o p q, p2 o p q) ∧ (∀ o p q, p3 o p q) ∧ (∀ o p q, p4 o p q) ∧ (∀ o p q, p5 o p q) ∧ (∀ o p q, p6 o p q) ∧ (∀ o p q, p7 o p q) ∧ (∀ o p q, p8 o p q) ∧ (∀ o p q, p9 o p q) :=
 ⟨fun o p q => (h o p q).1, fun o p q => (h o p q).2.1, fun o p q => (h o p q).2.2.1, fun o p q => (h o p q).2.2.2.1, fun o p q => (h o p q).2.2.2.2.1, fun o p q => (h o p q).2.2.2.2.2.1, fun o p q => (h o p q).2.2.2.2.2.2.1, fun o p q => (h o p q).2.2.2.2.2.2.2.1, fun o p q => (h o p q).2.2.2.2.2.2.2.2.1, fun o p q => (h o p q).2.2.2.2.2.2.2.2.2⟩
theorem sl_row {α : Type} {w : World} {g : Nat} {cs : Array Value} {t : TypeId} {fr : Nat × Nat} {sz : Nat} {R : α → List Value → Prop} {l : List α} (css : List (List Value)) (hg : w.heap[g]? = some (.cells cs t fr)) (hcs : cs.toList = css.flatten) (hl : css.length = l.length)
 (hsz : ∀ c ∈ css, c.length = sz) (hR : ∀ i (h : i < l.length) (h' : i < css.length), R l[i] css[i]) (hm : l.length ≤ maxLen) : SlRd w sz R (.slice (some ⟨g, 0, none⟩) l.length l.length) l := by
 refine ⟨_, l.length, rfl, ⟨by simp, Nat.le_refl _⟩, hm, fun i hi => ?_⟩
 have hi' : i < css.length := by omega
 refine ⟨g, 0, css[i], rfl, hsz _ (List.getElem_mem hi'), fun j hj => ?_, hR i hi hi'⟩
 rw [cell_at_block hg, Nat.zero_add]
 have := flatten_at sz css hsz i hi' j (by rw [← hsz _ (List.getElem_mem hi')]; exact hj)
 rw [← hcs] at this
 rw [List.getElem?_eq_getElem hj] at this
 simpa using this
theorem lat_flat {w : World} {k lo hi : Int} (h1 : I64 k) (h2 : I64 lo) (h3 : I64 hi) : latRd w (.mk k lo hi [] [] []) [.int .i64 k, .int .i64 lo, .int .i64 hi, .slice none 0 0, .slice none 0 0, .slice none 0 0] :=
 (latRd_iff _ _ _).2 ⟨_, _, _, rfl, ⟨h1, h2, h3⟩, sl_none _ _ _, sl_none _ _ _, sl_none _ _ _⟩
theorem i64_of {n : Int} (h : -1000 ≤ n ∧ n ≤ 1000) : I64 n := by unfold I64; omega
theorem s1_le (a : UInt8) : (s1 a).size ≤ maxLen := by show 1 ≤ maxLen; decide
theorem bytes_owns {w : World} {base : Nat} {v : Value} {l : List UInt8} (h : w.ownsRow base 5 1 v l.length (l.map u8v)) : SlRd w 1 byteRd v l := SlRd.of_owns (f := fun c => [u8v c]) (fun _ => rfl) (fun _ _ => rfl) (by
  have e : ∀ l : List UInt8, l.flatMap (fun c => [u8v c]) = l.map u8v := fun l => by
    induction l with
    | nil => rfl
    | cons x t ih => rw [List.flatMap_cons, ih]; rfl
  rw [e]; exact h)
theorem one_idx {P : Nat → Prop} (h0 : P 0) : ∀ i, i < 1 → P i
 | 0, _ => h0
 | _ + 1, h => by omega
theorem two_idx {P : Nat → Prop} (h0 : P 0) (h1 : P 1) : ∀ i, i < 2 → P i
 | 0, _ => h0
 | 1, _ => h1
 | _ + 2, h => by omega
theorem awake_any (w : World) (ht : Tab w) : Calls Tryz.prog 14 #[] w fun e w' => e = .returned (.bool true) ∧ Below w.heap.size w w' := by
  have HT := hid ht
  clear ht
  obtain ⟨W, hW⟩ : ∃ W, Hid ((((((w.alloc (.cells #[.string ⟨#[99]⟩, .string ⟨#[97]⟩] 9)).alloc (.cells #[.int .i64 2, .int .i64 0, .int .i64 9, .slice none 0 0, .slice none 0 0, .slice none 0 0, .int .i64 4, .int .i64 0, .int .i64 0, .slice none 0 0, .slice none 0 0, .slice none 0 0] 26)).alloc (.cells #[.int .i64 6, .int .i64 0, .int .i64 0, .slice (some ⟨w.heap.size, 0, none⟩) 2 2, .slice (some ⟨w.heap.size + 1, 0, none⟩) 2 2, .slice none 0 0] 26)).alloc (.cells #[.string ⟨#[120]⟩, .string ⟨#[121]⟩] 9)).alloc (.cells #[.int .i64 3, .slice none 0 0, .slice none 0 0, .slice none 0 0, .int .i64 0, .slice (some ⟨w.heap.size + 1 + 1 + 1, 0, none⟩) 2 2, .slice none 0 0, .slice none 0 0] 30)).alloc (.cells #[.int .i64 0, .slice none 0 0, .slice (some ⟨w.heap.size + 1 + 1 + 1 + 1, 0, none⟩) 2 2, .slice none 0 0] 30) = W) := ⟨_, hid rfl⟩
  have HW : Hid (Below w.heap.size w W) := hid (by rw [← hW.out]; repeat (first | exact Below.refl _ _ | refine Below.alloc ?_ (by simp <;> omega) _))
  have h0 : W.heap[w.heap.size]? = some (.cells #[.string ⟨#[99]⟩, .string ⟨#[97]⟩] 9 (0, 0)) := by rw [← hW.out]; repeat (first | exact heap_new_at _ _ _ (by simp) | refine block_alloc ?_ _)
  have h1 : W.heap[w.heap.size + 1]? = some (.cells #[.int .i64 2, .int .i64 0, .int .i64 9, .slice none 0 0, .slice none 0 0, .slice none 0 0, .int .i64 4, .int .i64 0, .int .i64 0, .slice none 0 0, .slice none 0 0, .slice none 0 0] 26 (0, 0)) := by rw [← hW.out]; repeat (first | exact heap_new_at _ _ _ (by simp) | refine block_alloc ?_ _)
  have h2 : W.heap[w.heap.size + 1 + 1]? = some (.cells #[.int .i64 6, .int .i64 0, .int .i64 0, .slice (some ⟨w.heap.size, 0, none⟩) 2 2, .slice (some ⟨w.heap.size + 1, 0, none⟩) 2 2, .slice none 0 0] 26 (0, 0)) := by rw [← hW.out]; repeat (first | exact heap_new_at _ _ _ (by simp) | refine block_alloc ?_ _)
  have h3 : W.heap[w.heap.size + 1 + 1 + 1]? = some (.cells #[.string ⟨#[120]⟩, .string ⟨#[121]⟩] 9 (0, 0)) := by rw [← hW.out]; repeat (first | exact heap_new_at _ _ _ (by simp) | refine block_alloc ?_ _)
  have h4 : W.heap[w.heap.size + 1 + 1 + 1 + 1]? = some (.cells #[.int .i64 3, .slice none 0 0, .slice none 0 0, .slice none 0 0, .int .i64 0, .slice (some ⟨w.heap.size + 1 + 1 + 1, 0, none⟩) 2 2, .slice none 0 0, .slice none 0 0] 30 (0, 0)) := by rw [← hW.out]; repeat (first | exact heap_new_at _ _ _ (by simp) | refine block_alloc ?_ _)
  have h5 : W.heap[w.heap.size + 1 + 1 + 1 + 1 + 1]? = some (.cells #[.int .i64 0, .slice none 0 0, .slice (some ⟨w.heap.size + 1 + 1 + 1 + 1, 0, none⟩) 2 2, .slice none 0 0] 30 (0, 0)) := by rw [← hW.out]; repeat (first | exact heap_new_at _ _ _ (by simp) | refine block_alloc ?_ _)
  have HSZ : Hid (W.heap.size = w.heap.size + 1 + 1 + 1 + 1 + 1 + 1) := hid (by rw [← hW.out]; simp)
  have HL : Hid (latRd W L0 [.int .i64 6, .int .i64 0, .int .i64 0, .slice (some ⟨w.heap.size, 0, none⟩) 2 2, .slice (some ⟨w.heap.size + 1, 0, none⟩) 2 2, .slice none 0 0]) := hid (by
   rw [L0]
   refine (latRd_iff _ _ _).2 ⟨_, _, _, rfl, ⟨i64_of (by decide), i64_of (by decide), i64_of (by decide)⟩, ?_, ?_, sl_none _ _ _⟩
   · exact sl_row (R := strRd) (l := [s1 99, s1 97]) [[.string (s1 99)], [.string (s1 97)]] h0 rfl rfl (by simp) (fun i h h' => two_idx (P := fun i => ∀ (h : i < 2) (h' : i < 2), strRd ([s1 99, s1 97][i]) ([[Value.string (s1 99)], [.string (s1 97)]][i])) (fun _ _ => ⟨rfl, s1_le _⟩) (fun _ _ => ⟨rfl, s1_le _⟩) i h h h') (by decide)
   · exact sl_row (R := latRd _) (l := [.mk 2 0 9 [] [] [], .mk 4 0 0 [] [] []]) [[.int .i64 2, .int .i64 0, .int .i64 9, .slice none 0 0, .slice none 0 0, .slice none 0 0], [.int .i64 4, .int .i64 0, .int .i64 0, .slice none 0 0, .slice none 0 0, .slice none 0 0]] h1 rfl rfl (by simp) (fun i h h' => two_idx (P := fun i => ∀ (h : i < 2) (h' : i < 2), latRd _ ([Lat.mk 2 0 9 [] [] [], .mk 4 0 0 [] [] []][i]) ([[Value.int .i64 2, .int .i64 0, .int .i64 9, .slice none 0 0, .slice none 0 0, .slice none 0 0], [.int .i64 4, .int .i64 0, .int .i64 0, .slice none 0 0, .slice none 0 0, .slice none 0 0]][i])) (fun _ _ => lat_flat (i64_of (by decide)) (i64_of (by decide)) (i64_of (by decide))) (fun _ _ => lat_flat (i64_of (by decide)) (i64_of (by decide)) (i64_of (by decide))) i h h h') (by decide))
  have HV : Hid (valRd W V0 [.int .i64 0, .slice none 0 0, .slice (some ⟨w.heap.size + 1 + 1 + 1 + 1, 0, none⟩) 2 2, .slice none 0 0]) := hid (by
   rw [V0]
   refine (valRd_iff _ _ _).2 ⟨_, _, _, rfl, i64_0, sl_none _ _ _, ?_, sl_none _ _ _⟩
   have hs := sl_row (sz := 1) (R := strRd) (l := [s1 120, s1 121]) [[.string (s1 120)], [.string (s1 121)]] h3 rfl rfl (by simp) (fun i h h' => two_idx (P := fun i => ∀ (h : i < 2) (h' : i < 2), strRd ([s1 120, s1 121][i]) ([[Value.string (s1 120)], [.string (s1 121)]][i])) (fun _ _ => ⟨rfl, s1_le _⟩) (fun _ _ => ⟨rfl, s1_le _⟩) i h h h') (by decide)
   exact sl_row (R := valRd _) (l := [.mk 3 [] [] [], .mk 0 [s1 120, s1 121] [] []]) [[.int .i64 3, .slice none 0 0, .slice none 0 0, .slice none 0 0], [.int .i64 0, .slice (some ⟨w.heap.size + 1 + 1 + 1, 0, none⟩) 2 2, .slice none 0 0, .slice none 0 0]] h4 rfl rfl (by simp) (fun i h h' => two_idx (P := fun i => ∀ (h : i < 2) (h' : i < 2), valRd _ ([Val.mk 3 [] [] [], .mk 0 [s1 120, s1 121] [] []][i]) ([[Value.int .i64 3, .slice none 0 0, .slice none 0 0, .slice none 0 0], [.int .i64 0, .slice (some ⟨w.heap.size + 1 + 1 + 1, 0, none⟩) 2 2, .slice none 0 0, .slice none 0 0]][i])) (fun _ _ => valRd_flat _ _ (i64_of (by decide))) (fun _ _ => (valRd_iff _ _ _).2 ⟨_, _, _, rfl, i64_0, hs, sl_none _ _ _, sl_none _ _ _⟩) i h h h') (by decide))
  have HH : Hid (∀ u, Below W.heap.size W u → u.heap[w.heap.size + 1 + 1]? = some (.cells #[.int .i64 6, .int .i64 0, .int .i64 0, .slice (some ⟨w.heap.size, 0, none⟩) 2 2, .slice (some ⟨w.heap.size + 1, 0, none⟩) 2 2, .slice none 0 0] 26 (0, 0)) ∧ u.heap[w.heap.size + 1 + 1 + 1 + 1 + 1]? = some (.cells #[.int .i64 0, .slice none 0 0, .slice (some ⟨w.heap.size + 1 + 1 + 1 + 1, 0, none⟩) 2 2, .slice none 0 0] 30 (0, 0))) := hid fun u hu => ⟨(hu.block _ (block_lt h2)).trans h2, (hu.block _ (block_lt h5)).trans h5⟩
  clear h0 h1 h2 h3 h4 h5
  go_enter Tryz.func14, Tryz.ntmps14
  go_wp2_with fail
  rw [hW.out]
  clear hW
  have HC : Hid (∀ u, Below W.heap.size W u → u.cell? ⟨w.heap.size + 1 + 1, 0, none⟩ = some (.int .i64 6) ∧ u.cell? ⟨w.heap.size + 1 + 1, 1, none⟩ = some (.int .i64 0) ∧ u.cell? ⟨w.heap.size + 1 + 1, 2, none⟩ = some (.int .i64 0) ∧ u.cell? ⟨w.heap.size + 1 + 1, 3, none⟩ = some (.slice (some ⟨w.heap.size, 0, none⟩) 2 2) ∧ u.cell? ⟨w.heap.size + 1 + 1, 4, none⟩ = some (.slice (some ⟨w.heap.size + 1, 0, none⟩) 2 2) ∧ u.cell? ⟨w.heap.size + 1 + 1, 5, none⟩ = some (.slice none 0 0) ∧ u.cell? ⟨w.heap.size + 1 + 1 + 1 + 1 + 1, 0, none⟩ = some (.int .i64 0) ∧ u.cell? ⟨w.heap.size + 1 + 1 + 1 + 1 + 1, 1, none⟩ = some (.slice none 0 0) ∧ u.cell? ⟨w.heap.size + 1 + 1 + 1 + 1 + 1, 2, none⟩ = some (.slice (some ⟨w.heap.size + 1 + 1 + 1 + 1, 0, none⟩) 2 2) ∧ u.cell? ⟨w.heap.size + 1 + 1 + 1 + 1 + 1, 3, none⟩ = some (.slice none 0 0)) := hid fun u h => ⟨cell_at_block (HH.out _ h).1, cell_at_block (HH.out _ h).1, cell_at_block (HH.out _ h).1, cell_at_block (HH.out _ h).1, cell_at_block (HH.out _ h).1, cell_at_block (HH.out _ h).1, cell_at_block (HH.out _ h).2, cell_at_block (HH.out _ h).2, cell_at_block (HH.out _ h).2, cell_at_block (HH.out _ h).2⟩
  have HUP : Hid (∀ {u : World}, Below W.heap.size W u → Below w.heap.size w u) := hid fun h => HW.out.trans (h.mono (by have := HSZ.out; omega))
  refine (Encode_any L0 V0 [.int .i64 6, .int .i64 0, .int .i64 0, .slice (some ⟨w.heap.size, 0, none⟩) 2 2, .slice (some ⟨w.heap.size + 1, 0, none⟩) 2 2, .slice none 0 0] [.int .i64 0, .slice none 0 0, .slice (some ⟨w.heap.size + 1 + 1 + 1 + 1, 0, none⟩) 2 2, .slice none 0 0] W HL.out HV.out (fun _ _ => by rw [put_V0]; decide)).mono ?_
  rw [enc_V0]
  rintro e u1 ⟨r1, rfl, hr1, hb1⟩
  have HR1 : Hid (u1.ownsRow W.heap.size 5 1 r1 6 ([6, 2, 1, 120, 1, 121].map u8v)) := hid hr1
  have HB1 := hid hb1
  clear hr1 hb1
  obtain ⟨l0, l1, l2, l3, l4, l5, v0, v1, v2, v3⟩ := HC.out _ HB1.out
  go_wp2_with fail
  refine (Text_any L0 V0 [.int .i64 6, .int .i64 0, .int .i64 0, .slice (some ⟨w.heap.size, 0, none⟩) 2 2, .slice (some ⟨w.heap.size + 1, 0, none⟩) 2 2, .slice none 0 0] [.int .i64 0, .slice none 0 0, .slice (some ⟨w.heap.size + 1 + 1 + 1 + 1, 0, none⟩) 2 2, .slice none 0 0] u1 (latRd.below HB1.out _ _ HL.out) (valRd.below HB1.out _ _ HV.out) (HT.out.below (HUP.out HB1.out)) (fun h1 h2 => by have := txt_V0; unfold textE' at this; rw [if_neg (fun h => h h1), if_neg (by rw [h2]; decide)] at this; injection this with this _; rw [this]; decide)).mono ?_
  rw [txt_V0]
  rintro e u2 ⟨rfl, hb2⟩
  have HB2 : Hid (Below W.heap.size W u2) := hid (HB1.out.trans (hb2.mono HB1.out.size))
  have HR2 : Hid (u2.ownsRow W.heap.size 5 1 r1 6 ([6, 2, 1, 120, 1, 121].map u8v)) := hid (owns_below HR1.out hb2)
  clear hb2 l0 l1 l2 l3 l4 l5 v0 v1 v2 v3
  obtain ⟨l0, l1, l2, l3, l4, l5, v0, v1, v2, v3⟩ := HC.out _ HB2.out
  obtain ⟨ra, rc, rfl⟩ := owns_shape HR2.out
  go_wp2_with fail
  refine (Decode_any L0 [6, 2, 1, 120, 1, 121] [.int .i64 6, .int .i64 0, .int .i64 0, .slice (some ⟨w.heap.size, 0, none⟩) 2 2, .slice (some ⟨w.heap.size + 1, 0, none⟩) 2 2, .slice none 0 0] (.slice ra 6 rc) u2 (latRd.below HB2.out _ _ HL.out) (bytes_owns HR2.out) (by decide)).mono ?_
  rw [dec_V0]
  rintro e u3 ⟨c3, rfl, hv3, hb3⟩
  have HV3 : Hid (valRd u3 V0 c3) := hid (valRd_mono' (only_sub _ _) hv3)
  have HB3 : Hid (Below W.heap.size W u3) := hid (HB2.out.trans (hb3.mono HB2.out.size))
  have HR3 : Hid (u3.ownsRow W.heap.size 5 1 (.slice ra 6 rc) 6 ([6, 2, 1, 120, 1, 121].map u8v)) := hid (owns_below HR2.out hb3)
  obtain ⟨xn3, xp3, xe3, rfl, _, h3n, h3p, h3e⟩ := (valRd_iff _ _ _).1 HV3.out
  obtain ⟨na, ncp, rfl, _, _⟩ := h3n.shape
  obtain ⟨pa, pcp, rfl, _, _⟩ := h3p.shape
  obtain ⟨ea, ecp, rfl, _, _⟩ := h3e.shape
  clear hv3 hb3 h3n h3p h3e l0 l1 l2 l3 l4 l5 v0 v1 v2 v3
  have HB3A : Hid (∀ O, Below W.heap.size W (u3.alloc O)) := hid fun O => HB3.out.alloc HB3.out.size O
  obtain ⟨l0, l1, l2, l3, l4, l5, v0, v1, v2, v3⟩ := all10 fun O => HC.out _ (HB3A.out O)
  go_wp2_with fail
  refine (Top_any L0 [.int .i64 6, .int .i64 0, .int .i64 0, .slice (some ⟨w.heap.size, 0, none⟩) 2 2, .slice (some ⟨w.heap.size + 1, 0, none⟩) 2 2, .slice none 0 0] _ (latRd.below (HB3A.out _) _ _ HL.out)).mono ?_
  rw [top_L0]
  rintro e u4 ⟨c4, rfl, hv4, hb4⟩
  have HB4 : Hid (Below W.heap.size W u4) := hid ((HB3A.out _).trans (hb4.mono (HB3A.out _).size))
  have HB34 : Hid (Below u3.heap.size u3 u4) := hid (((Below.refl _ _).alloc (Nat.le_refl _) _).trans (hb4.mono (by simp)))
  have H7 : Hid (u4.heap[u3.heap.size]? = some (.cells #[.int .i64 V0.n, .slice na V0.names.length ncp, .slice pa V0.parts.length pcp, .slice ea V0.entries.length ecp] 30 (0, 0))) := hid ((hb4.block _ (by simp)).trans (heap_alloc_new _ _))
  obtain ⟨na4, ncp4, pa4, pcp4, ea4, ecp4, rfl, _, h4n, h4p, h4e, _⟩ := valRd.lay hv4
  clear hv4 hb4 h4n h4p h4e l0 l1 l2 l3 l4 l5 v0 v1 v2 v3
  have HB4A : Hid (∀ O P Q, Below W.heap.size W (((u4.alloc O).alloc P).alloc Q)) := hid fun O P Q => ((HB4.out.alloc HB4.out.size O).alloc (by have := HB4.out.size; simp; omega) P).alloc (by have := HB4.out.size; simp; omega) Q
  obtain ⟨l0, l1, l2, l3, l4, l5, v0, v1, v2, v3⟩ := all10c fun O P Q => HC.out _ (HB4A.out O P Q)
  go_wp2_with fail
  obtain ⟨Z, hZ⟩ : ∃ Z, Hid (((u4.alloc (.cells #[.int .i64 zeroV.n, .slice na4 zeroV.names.length ncp4, .slice pa4 zeroV.parts.length pcp4, .slice ea4 zeroV.entries.length ecp4] 30)).alloc (.cells #[.int .i64 2, .int .i64 0, .int .i64 5, .slice none 0 0, .slice none 0 0, .slice none 0 0] 26)).alloc (.cells #[.int .i64 5, .int .i64 0, .int .i64 0, .slice none 0 0, .slice (some ⟨u4.heap.size + 1, 0, none⟩) 1 1, .slice none 0 0] 26) = Z) := ⟨_, hid rfl⟩
  have HBZ : Hid (Below W.heap.size W Z) := hid (by rw [← hZ.out]; exact HB4A.out _ _ _)
  have HB3Z : Hid (Below u3.heap.size u3 Z) := hid (by rw [← hZ.out]; exact ((HB34.out.alloc HB34.out.size _).alloc (by have := HB34.out.size; simp; omega) _).alloc (by have := HB34.out.size; simp; omega) _)
  have H7Z : Hid (Z.heap[u3.heap.size]? = some (.cells #[.int .i64 V0.n, .slice na V0.names.length ncp, .slice pa V0.parts.length pcp, .slice ea V0.entries.length ecp] 30 (0, 0))) := hid (by rw [← hZ.out]; exact block_alloc (block_alloc (block_alloc H7.out _) _) _)
  have H11 : Hid (Z.heap[u4.heap.size + 1 + 1]? = some (.cells #[.int .i64 5, .int .i64 0, .int .i64 0, .slice none 0 0, .slice (some ⟨u4.heap.size + 1, 0, none⟩) 1 1, .slice none 0 0] 26 (0, 0))) := hid (by rw [← hZ.out]; exact heap_new_at _ _ _ (by simp))
  have HMZ : Hid (latRd Z M0 [.int .i64 5, .int .i64 0, .int .i64 0, .slice none 0 0, .slice (some ⟨u4.heap.size + 1, 0, none⟩) 1 1, .slice none 0 0]) := hid (by
   rw [← hZ.out, M0]
   refine (latRd_iff _ _ _).2 ⟨_, _, _, rfl, ⟨i64_of (by decide), i64_of (by decide), i64_of (by decide)⟩, sl_none _ _ _, ?_, sl_none _ _ _⟩
   exact sl_row (g := u4.heap.size + 1) (R := latRd _) (l := [.mk 2 0 5 [] [] []]) [[.int .i64 2, .int .i64 0, .int .i64 5, .slice none 0 0, .slice none 0 0, .slice none 0 0]] (block_alloc (heap_new_at _ _ _ (by simp)) _) rfl rfl (by simp) (fun i h h' => one_idx (P := fun i => ∀ (h : i < 1) (h' : i < 1), latRd _ ([Lat.mk 2 0 5 [] [] []][i]) ([[Value.int .i64 2, .int .i64 0, .int .i64 5, .slice none 0 0, .slice none 0 0, .slice none 0 0]][i])) (fun _ _ => lat_flat (i64_of (by decide)) (i64_of (by decide)) (i64_of (by decide))) i h h h') (by decide))
  have HRZ : Hid (Z.ownsRow W.heap.size 5 1 (.slice ra 6 rc) 6 ([6, 2, 1, 120, 1, 121].map u8v)) := hid (owns_below HR3.out HB3Z.out)
  have HVZ : Hid (valRd Z V0 [.int .i64 V0.n, .slice na V0.names.length ncp, .slice pa V0.parts.length pcp, .slice ea V0.entries.length ecp]) := hid (valRd.below HB3Z.out _ _ HV3.out)
  rw [hZ.out]
  clear hZ
  clear l0 l1 l2 l3 l4 l5 v0 v1 v2 v3 HB4A HB3A H7
  have HZ : Hid (∀ u, Below Z.heap.size Z u → Below W.heap.size W u) := hid fun u hu => HBZ.out.trans (hu.mono HBZ.out.size)
  have HQ : Hid (∀ u, Below Z.heap.size Z u → u.heap[u3.heap.size]? = some (.cells #[.int .i64 V0.n, .slice na V0.names.length ncp, .slice pa V0.parts.length pcp, .slice ea V0.entries.length ecp] 30 (0, 0)) ∧ u.heap[u4.heap.size + 1 + 1]? = some (.cells #[.int .i64 5, .int .i64 0, .int .i64 0, .slice none 0 0, .slice (some ⟨u4.heap.size + 1, 0, none⟩) 1 1, .slice none 0 0] 26 (0, 0))) := hid fun u hu => ⟨(hu.block _ (block_lt H7Z.out)).trans H7Z.out, (hu.block _ (block_lt H11.out)).trans H11.out⟩
  have QC : Hid (∀ u, Below Z.heap.size Z u → u.cell? ⟨u3.heap.size, 0, none⟩ = some (.int .i64 V0.n) ∧ u.cell? ⟨u3.heap.size, 1, none⟩ = some (.slice na V0.names.length ncp) ∧ u.cell? ⟨u3.heap.size, 2, none⟩ = some (.slice pa V0.parts.length pcp) ∧ u.cell? ⟨u3.heap.size, 3, none⟩ = some (.slice ea V0.entries.length ecp) ∧ u.cell? ⟨u4.heap.size + 1 + 1, 0, none⟩ = some (.int .i64 5) ∧ u.cell? ⟨u4.heap.size + 1 + 1, 1, none⟩ = some (.int .i64 0) ∧ u.cell? ⟨u4.heap.size + 1 + 1, 2, none⟩ = some (.int .i64 0) ∧ u.cell? ⟨u4.heap.size + 1 + 1, 3, none⟩ = some (.slice none 0 0) ∧ u.cell? ⟨u4.heap.size + 1 + 1, 4, none⟩ = some (.slice (some ⟨u4.heap.size + 1, 0, none⟩) 1 1) ∧ u.cell? ⟨u4.heap.size + 1 + 1, 5, none⟩ = some (.slice none 0 0)) := hid fun u h => ⟨cell_at_block (HQ.out _ h).1, cell_at_block (HQ.out _ h).1, cell_at_block (HQ.out _ h).1, cell_at_block (HQ.out _ h).1, cell_at_block (HQ.out _ h).2, cell_at_block (HQ.out _ h).2, cell_at_block (HQ.out _ h).2, cell_at_block (HQ.out _ h).2, cell_at_block (HQ.out _ h).2, cell_at_block (HQ.out _ h).2⟩
  refine (valid_any L0 V0 [.int .i64 6, .int .i64 0, .int .i64 0, .slice (some ⟨w.heap.size, 0, none⟩) 2 2, .slice (some ⟨w.heap.size + 1, 0, none⟩) 2 2, .slice none 0 0] [.int .i64 0, .slice none 0 0, .slice (some ⟨w.heap.size + 1 + 1 + 1 + 1, 0, none⟩) 2 2, .slice none 0 0] Z (latRd.below HBZ.out _ _ HL.out) (valRd.below HBZ.out _ _ HV.out)).mono ?_
  rw [val_V0]
  rintro e z1 ⟨rfl, hb1⟩
  have ZB1 := hid hb1
  clear hb1
  obtain ⟨l0, l1, l2, l3, l4, l5, v0, v1, v2, v3⟩ := HC.out _ (HZ.out _ ZB1.out)
  obtain ⟨q0, q1, q2, q3, m0, m1, m2, m3, m4, m5⟩ := QC.out _ ZB1.out
  go_wp2_with fail
  refine (valid_any L0 zeroV [.int .i64 6, .int .i64 0, .int .i64 0, .slice (some ⟨w.heap.size, 0, none⟩) 2 2, .slice (some ⟨w.heap.size + 1, 0, none⟩) 2 2, .slice none 0 0] [.int .i64 0, .slice none 0 0, .slice none 0 0, .slice none 0 0] z1 (latRd.below (HZ.out _ ZB1.out) _ _ HL.out) (valRd_flat _ _ i64_0)).mono ?_
  rw [val_Z0]
  rintro e z2 ⟨rfl, hb2⟩
  have ZB2 : Hid (Below Z.heap.size Z z2) := hid (ZB1.out.trans (hb2.mono ZB1.out.size))
  clear hb2 l0 l1 l2 l3 l4 l5 v0 v1 v2 v3
  have HBY : Hid (SlRd (z2.alloc (.cells #[.int .u8 6, .int .u8 2, .int .u8 1, .int .u8 120, .int .u8 1, .int .u8 121] 5)) 1 byteRd (.slice (some ⟨z2.heap.size, 0, none⟩) 6 6) [6, 2, 1, 120, 1, 121]) := hid (sl_row (l := [6, 2, 1, 120, 1, 121]) (([6, 2, 1, 120, 1, 121] : List UInt8).map fun c => [u8v c]) (heap_alloc_new _ _) rfl rfl (by simp) (fun i h h' => by rw [List.getElem_map]; rfl) (by decide))
  have ZB2A : Hid (Below Z.heap.size Z (z2.alloc (.cells #[.int .u8 6, .int .u8 2, .int .u8 1, .int .u8 120, .int .u8 1, .int .u8 121] 5))) := hid (ZB2.out.alloc ZB2.out.size _)
  go_wp2_with fail
  refine (bytes_any (.slice ra 6 rc) _ [6, 2, 1, 120, 1, 121] [6, 2, 1, 120, 1, 121] _ (bytes_owns (owns_below HRZ.out ZB2A.out)) HBY.out).mono ?_
  rw [decide_eq_true rfl]
  rintro e z3 ⟨rfl, hb3⟩
  have ZB3 : Hid (Below Z.heap.size Z z3) := hid (ZB2A.out.trans (hb3.mono ZB2A.out.size))
  clear hb3
  obtain ⟨l0, l1, l2, l3, l4, l5, v0, v1, v2, v3⟩ := HC.out _ (HZ.out _ ZB3.out)
  obtain ⟨q0, q1, q2, q3, m0, m1, m2, m3, m4, m5⟩ := QC.out _ ZB3.out
  have hstr : strOf [40, 99, 58, 32, 51, 44, 32, 97, 58, 32, 123, 120, 44, 121, 125, 41] = ⟨#[40, 99, 58, 32, 51, 44, 32, 97, 58, 32, 123, 120, 44, 121, 125, 41]⟩ := rfl
  go_wp2_with fail
  refine (rEqual_any V0 V0 [.int .i64 V0.n, .slice na V0.names.length ncp, .slice pa V0.parts.length pcp, .slice ea V0.entries.length ecp] [.int .i64 0, .slice none 0 0, .slice (some ⟨w.heap.size + 1 + 1 + 1 + 1, 0, none⟩) 2 2, .slice none 0 0] z3 (valRd.below ZB3.out _ _ HVZ.out) (valRd.below (HZ.out _ ZB3.out) _ _ HV.out)).mono ?_
  rw [decide_eq_true (valC_self V0)]
  rintro e z4 ⟨rfl, hb4⟩
  have ZB4 : Hid (Below Z.heap.size Z z4) := hid (ZB3.out.trans (hb4.mono ZB3.out.size))
  clear hb4 l0 l1 l2 l3 l4 l5 v0 v1 v2 v3 q0 q1 q2 q3 m0 m1 m2 m3 m4 m5
  obtain ⟨l0, l1, l2, l3, l4, l5, v0, v1, v2, v3⟩ := HC.out _ (HZ.out _ ZB4.out)
  obtain ⟨q0, q1, q2, q3, m0, m1, m2, m3, m4, m5⟩ := QC.out _ ZB4.out
  go_wp2_with fail
  refine (nodes_any _ V0 [.int .i64 0, .slice none 0 0, .slice (some ⟨w.heap.size + 1 + 1 + 1 + 1, 0, none⟩) 2 2, .slice none 0 0] z4 (Nat.le_refl _) (valRd.below (HZ.out _ ZB4.out) _ _ HV.out) (by rw [nod_V0]; decide)).mono ?_
  rw [nod_V0]
  rintro e z5 ⟨rfl, hb5⟩
  have ZB5 : Hid (Below Z.heap.size Z z5) := hid (ZB4.out.trans (hb5.mono ZB4.out.size))
  clear hb5 l0 l1 l2 l3 l4 l5 v0 v1 v2 v3 q0 q1 q2 q3 m0 m1 m2 m3 m4 m5
  obtain ⟨l0, l1, l2, l3, l4, l5, v0, v1, v2, v3⟩ := HC.out _ (HZ.out _ ZB5.out)
  obtain ⟨q0, q1, q2, q3, m0, m1, m2, m3, m4, m5⟩ := QC.out _ ZB5.out
  have HBN : Hid (∀ O P, Below Z.heap.size Z ((z5.alloc O).alloc P)) := hid fun O P => (ZB5.out.alloc ZB5.out.size O).alloc (by have := ZB5.out.size; simp; omega) P
  go_wp2_with fail
  have HKR : Hid (valRd ((z5.alloc (.cells #[.string ⟨#[107]⟩] 9)).alloc (.cells #[.int .i64 0, .slice none 0 0, .slice none 0 0, .slice none 0 0] 30)) K0 [.int .i64 0, .slice (some ⟨z5.heap.size, 0, none⟩) 1 1, .slice (some ⟨z5.heap.size + 1, 0, none⟩) 1 1, .slice none 0 0]) := hid (by
   rw [K0]
   refine (valRd_iff _ _ _).2 ⟨_, _, _, rfl, i64_0, ?_, ?_, sl_none _ _ _⟩
   · exact sl_row (sz := 1) (R := strRd) (l := [s1 107]) [[.string (s1 107)]] (block_alloc (heap_alloc_new _ _) _) rfl rfl (by simp) (fun i h h' => one_idx (P := fun i => ∀ (h : i < 1) (h' : i < 1), strRd ([s1 107][i]) ([[Value.string (s1 107)]][i])) (fun _ _ => ⟨rfl, s1_le _⟩) i h h h') (by decide)
   · exact sl_row (R := valRd _) (l := [zeroV]) [[.int .i64 0, .slice none 0 0, .slice none 0 0, .slice none 0 0]] (heap_new_at _ _ _ (by simp)) rfl rfl (by simp) (fun i h h' => one_idx (P := fun i => ∀ (h : i < 1) (h' : i < 1), valRd _ ([zeroV][i]) ([([.int .i64 0, .slice none 0 0, .slice none 0 0, .slice none 0 0] : List Value)][i])) (fun _ _ => valRd_flat _ _ i64_0) i h h h') (by decide))
  have ZB5A := hid (HBN.out (.cells #[.string ⟨#[107]⟩] 9) (.cells #[.int .i64 0, .slice none 0 0, .slice none 0 0, .slice none 0 0] 30))
  refine (valid_any M0 K0 [.int .i64 5, .int .i64 0, .int .i64 0, .slice none 0 0, .slice (some ⟨u4.heap.size + 1, 0, none⟩) 1 1, .slice none 0 0] [.int .i64 0, .slice (some ⟨z5.heap.size, 0, none⟩) 1 1, .slice (some ⟨z5.heap.size + 1, 0, none⟩) 1 1, .slice none 0 0] _ (latRd.below ZB5A.out _ _ HMZ.out) HKR.out).mono ?_
  rw [val_K0]
  rintro e z6 ⟨rfl, hb6⟩
  have ZB6 : Hid (Below Z.heap.size Z z6) := hid (ZB5A.out.trans (hb6.mono ZB5A.out.size))
  clear hb6 l0 l1 l2 l3 l4 l5 v0 v1 v2 v3 q0 q1 q2 q3 m0 m1 m2 m3 m4 m5
  obtain ⟨l0, l1, l2, l3, l4, l5, v0, v1, v2, v3⟩ := HC.out _ (HZ.out _ ZB6.out)
  obtain ⟨q0, q1, q2, q3, m0, m1, m2, m3, m4, m5⟩ := QC.out _ ZB6.out
  go_wp2_with fail
  refine (compare_any _ zeroV V0 [.int .i64 0, .slice none 0 0, .slice none 0 0, .slice none 0 0] [.int .i64 0, .slice none 0 0, .slice (some ⟨w.heap.size + 1 + 1 + 1 + 1, 0, none⟩) 2 2, .slice none 0 0] z6 (Nat.le_refl _) (valRd_flat _ _ i64_0) (valRd.below (HZ.out _ ZB6.out) _ _ HV.out)).mono ?_
  rw [cmp_V0]
  rintro e z7 ⟨rfl, hb7⟩
  have ZB7 : Hid (Below Z.heap.size Z z7) := hid (ZB6.out.trans (hb7.mono ZB6.out.size))
  clear hb7 l0 l1 l2 l3 l4 l5 v0 v1 v2 v3 q0 q1 q2 q3 m0 m1 m2 m3 m4 m5
  go_wp2_with fail
  go_ret
  exact ⟨rfl, HUP.out (HZ.out _ ZB7.out)⟩
def R3 (x : Int) : Prop := x = -1 ∨ x = 0 ∨ x = 1
theorem R3.or {x y : Int} (h1 : R3 x) (h2 : R3 y) : R3 (if x ≠ 0 then x else y) := by
 by_cases h : x = 0
 · rw [if_neg (fun k => k h)]; exact h2
 · rw [if_pos h]; exact h1
theorem ext_of {P : Program} {f : FuncId} {args : Array Value} {w W2 : World} {v : Value} (hB : ∀ x : Ext W2, Below w.heap.size w x.1) (h : ∀ W, Below w.heap.size w W → Calls P f args W fun e w' => e = .returned v ∧ Below W.heap.size W w') :
    ∀ x : Ext W2, Calls P f args x.1 fun e w' => e = .returned v ∧ ∃ y : Ext W2, w' = y.1 := fun x => ext_call x (h _ (hB x))
theorem wp_region_ext2 {P : Program} {id : Nat} {Q : Exit → Act → World → Prop} {a : Act} {W : World} {l : List Oper} (x : Ext W) (hm : P.follows .mixedOrders = true) (hB : Region.lexB .any l.toArray = true)
 (h : wpQuiet P l.toArray (fun w' => ∃ y : Ext W, w' = y.1) (fun a' => ∀ w', (∃ y : Ext W, w' = y.1) → Q .normal a' w') l a) : (Code.region id l.toArray true).wp P Q a x.1 :=
 wp_region_quiet (C := fun w' => ∃ y : Ext W, w' = y.1) hm hB ⟨⟨_, x.2.drew⟩, rfl⟩ (by simpa using h)
theorem three_boxes (w : World) (c1 c2 c3 : Array Value) (t1 t2 t3 : TypeId) (x : Ext (((w.alloc (.cells c1 t1)).alloc (.cells c2 t2)).alloc (.cells c3 t3))) :
 (∀ (i : Nat) v, c1[i]? = some v → x.1.cell? ⟨w.heap.size, i, none⟩ = some v) ∧ (∀ (i : Nat) v, c2[i]? = some v → x.1.cell? ⟨w.heap.size + 1, i, none⟩ = some v) ∧ (∀ (i : Nat) v, c3[i]? = some v → x.1.cell? ⟨w.heap.size + 1 + 1, i, none⟩ = some v) := by
 refine ⟨fun i v hv => x.cell ?_, fun i v hv => x.cell ?_, fun i v hv => x.cell ?_⟩
 · rw [World.cell?_alloc_past _ _ _ (by simp; omega), World.cell?_alloc_past _ _ _ (by simp), World.cell?_alloc_at _ _ _ _ rfl]; exact hv
 · rw [World.cell?_alloc_past _ _ _ (by simp), World.cell?_alloc_at _ _ _ _ (by simp)]; exact hv
 · rw [World.cell?_alloc_at _ _ _ _ (by simp)]; exact hv
end Go.Proofs.YtmdjnaobllajmaaGreatDoor
