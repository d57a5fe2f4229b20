/-
  What the statements of the chapter share, part 04: VCmp5, VCmp6, VCmp7.
-/
import Derived.Test.YtmdjnaobllajmaaGreatDoorX03
set_option linter.unusedVariables false
set_option linter.unusedSimpArgs false
set_option maxRecDepth 100000
set_option maxHeartbeats 8000000
namespace Go.Proofs.YtmdjnaobllajmaaGreatDoor
open Go.RowKit
def entC (a b : En) : Int := orI [strC a.name b.name, lexC tickC a.clock b.clock]
theorem cfTicks_any (v u : Value) (a b : List Tk) (w : World) (hv : SlRd w 2 tickRd v a) (hu : SlRd w 2 tickRd u b) :
 Calls Tryz.prog 77 #[v, u, .func (.func 78) #[] #[]] w fun e w' => e = .returned (.int .i64 (lexC tickC a b)) ∧ Below w.heap.size w w' :=
 cf_tick tickC v u a b w hv hu fun i j hi hj cx cy W hx hy => by
   obtain ⟨rfl, _, _⟩ := hx
   obtain ⟨rfl, _, _⟩ := hy
   exact compareTicks_any _ _ W
theorem compareEntries_any (a b : En) (ca cb : List Value) (w : World) (ha : entryRd w a ca) (hb : entryRd w b cb) :
 Calls Tryz.prog 46 #[.agg ca.toArray, .agg cb.toArray] w fun e w' => e = .returned (.int .i64 (entC a b)) ∧ Below w.heap.size w w' := by
 obtain ⟨va, rfl, hsa, _⟩ := ha
 obtain ⟨vb, rfl, hsb, _⟩ := hb
 obtain ⟨aa, qa, rfl, _, _⟩ := hsa.shape
 obtain ⟨ab, qb, rfl, _, _⟩ := hsb.shape
 have HA := hid hsa
 have HBB := hid hsb
 clear hsa hsb
 obtain ⟨cka, na⟩ := a
 obtain ⟨ckb, nb⟩ := b
 simp only at HA HBB ⊢
 have HOR : Hid (∀ W N, W.heap[N]? = some (.cells #[.int .i64 (strC na nb), .int .i64 (lexC tickC cka ckb)] 3) →
  Calls Tryz.prog 41 #[.slice (some ⟨N, 0, none⟩) 2 2] W fun e w' => e = .returned (.int .i64 (entC ⟨cka, na⟩ ⟨ckb, nb⟩)) ∧ w' = W) := hid fun W N h => orInt_any _ _ W (two_ints _ _ h)
 generalize hE : entC ⟨cka, na⟩ ⟨ckb, nb⟩ = E at HOR ⊢
 clear hE
 go_enter Tryz.func46, Tryz.ntmps46
 go_wp2_with fail
 have HS : Hid (∀ w', Below (w.heap.size + 2) ((w.alloc (.cells #[.slice aa cka.length qa, .string na] 43)).alloc (.cells #[.slice ab ckb.length qb, .string nb] 43)) w' → w'.cell? ⟨w.heap.size, 0, none⟩ = some (.slice aa cka.length qa) ∧ w'.cell? ⟨w.heap.size + 1, 0, none⟩ = some (.slice ab ckb.length qb) ∧ w'.cell? ⟨w.heap.size, 1, none⟩ = some (.string na) ∧ w'.cell? ⟨w.heap.size + 1, 1, none⟩ = some (.string nb)) :=
  hid fun w' h => by
    obtain ⟨e1, e2⟩ := two_boxes w #[.slice aa cka.length qa, .string na] #[.slice ab ckb.length qb, .string nb] 43 43 h
    exact ⟨e1 0 _ rfl, e2 0 _ rfl, e1 1 _ rfl, e2 1 _ rfl⟩
 have HB : Hid (∀ w', Below (w.heap.size + 2) ((w.alloc (.cells #[.slice aa cka.length qa, .string na] 43)).alloc (.cells #[.slice ab ckb.length qb, .string nb] 43)) w' → Below w.heap.size w w') := hid fun w' h => (((Below.refl _ _).alloc (Nat.le_refl _) _).alloc (by simp) _).trans (h.mono (by omega))
 have hsz : ((w.alloc (.cells #[.slice aa cka.length qa, .string na] 43)).alloc (.cells #[.slice ab ckb.length qb, .string nb] 43)).heap.size = w.heap.size + 2 := by simp
 generalize (w.alloc (.cells #[.slice aa cka.length qa, .string na] 43)).alloc (.cells #[.slice ab ckb.length qb, .string nb] 43) = W2 at HS HB hsz ⊢
 have HSZ := hid hsz
 have HCF : Hid (∀ W, Below (w.heap.size + 2) W2 W → Calls Tryz.prog 77 #[.slice aa cka.length qa, .slice ab ckb.length qb, .func (.func 78) #[] #[]] W fun e w' => e = .returned (.int .i64 (lexC tickC cka ckb)) ∧ Below W.heap.size W w') :=
   hid fun W h => cfTicks_any _ _ cka ckb W (SlRd.below HA.out (HB.out _ h) fun _ _ _ h => h) (SlRd.below HBB.out (HB.out _ h) fun _ _ _ h => h)
 clear hsz
 go_region_held3 (fun w' => w'.cell? ⟨w.heap.size, 0, none⟩ = some (.slice aa cka.length qa) ∧ w'.cell? ⟨w.heap.size + 1, 0, none⟩ = some (.slice ab ckb.length qb) ∧ w'.cell? ⟨w.heap.size, 1, none⟩ = some (.string na) ∧ w'.cell? ⟨w.heap.size + 1, 1, none⟩ = some (.string nb))
   (first
     | exact HS.out _ (Below.refl _ _).drew
     | exact HS.out _ HB4.out
     | exact HS.out _ (HB4.out.alloc (Nat.le_trans (Nat.le_of_eq HSZ.out.symm) HB4.out.size) _)
     | skip)
   (first
     | (go_at_call 76
        refine (stringsCompare_any _ _ _).mono ?_
        rintro e w1 ⟨rfl, rfl⟩)
     | (go_at_call 77
        refine (HCF.out _ (Below.refl _ _).drew).mono ?_
        rintro e w6 ⟨rfl, hb⟩
        have HB4 : Hid (Below (w.heap.size + 2) W2 w6) := hid ((Below.refl _ _).drew.trans (hb.mono (Nat.le_of_eq HSZ.out.symm)))
        clear hb)
     | (go_at_call 41
        refine (HOR.out _ _ ?_).mono ?_
        · exact heap_alloc_new _ _
        rintro e w1 ⟨rfl, rfl⟩))
 all_goals
  go_wp2
  go_ret
  exact ⟨rfl, HB.out _ (HB4.out.alloc (Nat.le_trans (Nat.le_of_eq HSZ.out.symm) HB4.out.size) _)⟩
theorem cf_entry (c : En → En → Int) (v u : Value) (a b : List En) (w : World) (hv : SlRd w 2 (entryRd w) v a) (hu : SlRd w 2 (entryRd w) u b)
 (hcall : ∀ (i j : Nat) (hi : i < a.length) (hj : j < b.length) (cx cy : List Value) (W : World), entryRd W a[i] cx → entryRd W b[j] cy → Calls Tryz.prog 46 #[.agg cx.toArray, .agg cy.toArray] W fun e w' => e = .returned (.int .i64 (c a[i] b[j])) ∧ Below W.heap.size W w') :
 Calls Tryz.prog 45 #[v, u, .func (.func 46) #[] #[]] w fun e w' => e = .returned (.int .i64 (lexC c a b)) ∧ Below w.heap.size w w' := by
 obtain ⟨ad, cap, rfl, _, hmax⟩ := hv.shape
 obtain ⟨ad', cap', rfl, _, hmax'⟩ := hu.shape
 have HV := hid hv
 have HU := hid hu
 have HCALL := hid hcall
 clear hv hu hcall
 go_enter Tryz.func45, Tryz.ntmps45
 go_wp2
 go_loopw [13] (fun i wr => ∃ (k : Nat), k ≤ a.length ∧ k ≤ b.length ∧ i = .int .i64 k ∧ Hid (lexC c a b = lexC c (a.drop k) (b.drop k)) ∧ Hid (Below w.heap.size w wr)) (fun i _ => a.length - (intOf i).toNat)
 case atStart => exact ⟨0, Nat.zero_le _, Nat.zero_le _, rfl, hid (by simp), hid (Below.refl _ _)⟩
 case round =>
  obtain ⟨k, hk, hk', rfl, He, HW⟩ := hrel
  by_cases hlt : k < a.length
  · obtain ⟨bb, o, cs, rfl, hlx, hcsx, hrx⟩ := HV.out.at k hlt
    have HRx := hid hrx
    obtain ⟨vx, rfl, hsx, _⟩ := hrx
    obtain ⟨ax, qx, rfl, _, _⟩ := hsx.shape
    clear hsx
    by_cases hlt' : k < b.length
    · obtain ⟨bb', o', cs', rfl, hly, hcsy, hry⟩ := HU.out.at k hlt'
      have HRy := hid hry
      obtain ⟨vy, rfl, hsy, _⟩ := hry
      obtain ⟨ay, qy, rfl, _, _⟩ := hsy.shape
      clear hsy
      have x0 : wr.cell? ⟨bb, o + k * 2, none⟩ = some (.slice ax a[k].clock.length qx) := (hcsx.below HW.out) 0 (by simp)
      have x1 : wr.cell? ⟨bb, o + k * 2 + 1, none⟩ = some (.string a[k].name) := (hcsx.below HW.out) 1 (by simp)
      have y0 : wr.cell? ⟨bb', o' + k * 2, none⟩ = some (.slice ay b[k].clock.length qy) := (hcsy.below HW.out) 0 (by simp)
      have y1 : wr.cell? ⟨bb', o' + k * 2 + 1, none⟩ = some (.string b[k].name) := (hcsy.below HW.out) 1 (by simp)
      have z0 := cell_alloc y0
      have z1 := cell_alloc y1
      clear y0 y1
      have HD : Hid (lexC c a b = if c a[k] b[k] ≠ 0 then c a[k] b[k] else lexC c (a.drop (k + 1)) (b.drop (k + 1))) := hid (by rw [He.out, lexC_step _ _ _ _ hlt hlt'])
      clear hcsx hcsy
      go_wp2_with fail
      have HB2 : Hid (∀ O1 O2, Below w.heap.size w ((wr.alloc O1).alloc O2)) := hid fun O1 O2 => (HW.out.alloc HW.out.size _).alloc (Nat.le_trans HW.out.size (by simp)) _
      refine (HCALL.out k k hlt hlt' [.slice ax a[k].clock.length qx, .string a[k].name] [.slice ay b[k].clock.length qy, .string b[k].name] _ (entryRd.below HRx.out (HB2.out _ _)) (entryRd.below HRy.out (HB2.out _ _))).mono ?_
      rintro e w9 ⟨rfl, h9⟩
      have HW9 : Hid (Below w.heap.size w w9) := hid ((HB2.out _ _).trans (h9.mono (HB2.out _ _).size))
      clear h9
      generalize hcv : c a[k] b[k] = cv at HD ⊢
      clear hcv
      by_cases hz : cv = 0
      · have HD2 : Hid (lexC c a b = lexC c (a.drop (k + 1)) (b.drop (k + 1))) := hid (by rw [HD.out, if_neg (fun h => h hz)])
        have hzb : (cv != 0) = false := by rw [hz]; rfl
        clear hz
        go_wp2_with fail
        go_roundw
        case rel => exact ⟨k + 1, by omega, by omega, by go_num, HD2, HW9⟩
        case measure => simp [intOf]; omega
      · have HD2 : Hid (lexC c a b = cv) := hid (by rw [HD.out, if_pos hz])
        have hzb : (cv != 0) = true := by simpa using hz
        clear hz
        go_wp2_with fail
        go_ret
        exact ⟨ret_int HD2.out.symm, HW9.out⟩
    · have HF : Hid (lexC c a b = 1) := hid (by rw [He.out, lexC_one _ _ _ _ hlt (by omega)])
      have x0 : wr.cell? ⟨bb, o + k * 2, none⟩ = some (.slice ax a[k].clock.length qx) := (hcsx.below HW.out) 0 (by simp)
      have x1 : wr.cell? ⟨bb, o + k * 2 + 1, none⟩ = some (.string a[k].name) := (hcsx.below HW.out) 1 (by simp)
      go_wp2_with fail
      go_ret
      exact ⟨ret_int HF.out.symm, HW.out.alloc HW.out.size _⟩
  · have HF : Hid (lexC c a b = if k < b.length then -1 else 0) := hid (by rw [He.out, lexC_end _ _ _ _ (by omega)])
    have hka : k = a.length := by omega
    subst hka
    by_cases hl : a.length < b.length
    · have HF2 : Hid (lexC c a b = -1) := hid (by rw [HF.out, if_pos hl])
      go_wp2
      go_ret
      exact ⟨ret_int HF2.out.symm, HW.out⟩
    · have HF2 : Hid (lexC c a b = 0) := hid (by rw [HF.out, if_neg hl])
      go_wp2
      go_ret
      exact ⟨ret_int HF2.out.symm, HW.out⟩
theorem cf_value (c : Val → Val → Int) (v u : Value) (a b : List Val) (w : World) (hv : SlRd w 4 (valRd w) v a) (hu : SlRd w 4 (valRd w) u b)
 (hcall : ∀ (i j : Nat) (hi : i < a.length) (hj : j < b.length) (cx cy : List Value) (W : World), valRd W a[i] cx → valRd W b[j] cy → Calls Tryz.prog 20 #[.agg cx.toArray, .agg cy.toArray] W fun e w' => e = .returned (.int .i64 (c a[i] b[j])) ∧ Below W.heap.size W w') :
 Calls Tryz.prog 44 #[v, u, .func (.func 20) #[] #[]] w fun e w' => e = .returned (.int .i64 (lexC c a b)) ∧ Below w.heap.size w w' := by
 obtain ⟨ad, cap, rfl, _, hmax⟩ := hv.shape
 obtain ⟨ad', cap', rfl, _, hmax'⟩ := hu.shape
 have HV := hid hv
 have HU := hid hu
 have HCALL := hid hcall
 clear hv hu hcall
 go_enter Tryz.func44, Tryz.ntmps44
 go_wp2
 go_loopw [13] (fun i wr => ∃ (k : Nat), k ≤ a.length ∧ k ≤ b.length ∧ i = .int .i64 k ∧ Hid (lexC c a b = lexC c (a.drop k) (b.drop k)) ∧ Hid (Below w.heap.size w wr)) (fun i _ => a.length - (intOf i).toNat)
 case atStart => exact ⟨0, Nat.zero_le _, Nat.zero_le _, rfl, hid (by simp), hid (Below.refl _ _)⟩
 case round =>
  obtain ⟨k, hk, hk', rfl, He, HW⟩ := hrel
  by_cases hlt : k < a.length
  · obtain ⟨bb, o, cs, rfl, hlx, hcsx, hrx⟩ := HV.out.at k hlt
    have HRx := hid hrx
    obtain ⟨anx, qnx, apx, qpx, aex, qex, rfl, _, hnx, hpx, hex, _⟩ := valRd.lay hrx
    clear hnx hpx hex
    by_cases hlt' : k < b.length
    · obtain ⟨bb', o', cs', rfl, hly, hcsy, hry⟩ := HU.out.at k hlt'
      have HRy := hid hry
      obtain ⟨any, qny, apy, qpy, aey, qey, rfl, _, hny, hpy, hey, _⟩ := valRd.lay hry
      clear hny hpy hey
      have x0 : wr.cell? ⟨bb, o + k * 4, none⟩ = some (.int .i64 a[k].n) := (hcsx.below HW.out) 0 (by simp)
      have x1 : wr.cell? ⟨bb, o + k * 4 + 1, none⟩ = some (.slice anx a[k].names.length qnx) := (hcsx.below HW.out) 1 (by simp)
      have x2 : wr.cell? ⟨bb, o + k * 4 + 2, none⟩ = some (.slice apx a[k].parts.length qpx) := (hcsx.below HW.out) 2 (by simp)
      have x3 : wr.cell? ⟨bb, o + k * 4 + 3, none⟩ = some (.slice aex a[k].entries.length qex) := (hcsx.below HW.out) 3 (by simp)
      have y0 : wr.cell? ⟨bb', o' + k * 4, none⟩ = some (.int .i64 b[k].n) := (hcsy.below HW.out) 0 (by simp)
      have y1 : wr.cell? ⟨bb', o' + k * 4 + 1, none⟩ = some (.slice any b[k].names.length qny) := (hcsy.below HW.out) 1 (by simp)
      have y2 : wr.cell? ⟨bb', o' + k * 4 + 2, none⟩ = some (.slice apy b[k].parts.length qpy) := (hcsy.below HW.out) 2 (by simp)
      have y3 : wr.cell? ⟨bb', o' + k * 4 + 3, none⟩ = some (.slice aey b[k].entries.length qey) := (hcsy.below HW.out) 3 (by simp)
      have z0 := cell_alloc y0
      have z1 := cell_alloc y1
      have z2 := cell_alloc y2
      have z3 := cell_alloc y3
      clear y0 y1 y2 y3
      have HD : Hid (lexC c a b = if c a[k] b[k] ≠ 0 then c a[k] b[k] else lexC c (a.drop (k + 1)) (b.drop (k + 1))) := hid (by rw [He.out, lexC_step _ _ _ _ hlt hlt'])
      clear hcsx hcsy
      go_wp2_with fail
      have HB2 : Hid (∀ O1 O2, Below w.heap.size w ((wr.alloc O1).alloc O2)) := hid fun O1 O2 => (HW.out.alloc HW.out.size _).alloc (Nat.le_trans HW.out.size (by simp)) _
      refine (HCALL.out k k hlt hlt' [.int .i64 a[k].n, .slice anx a[k].names.length qnx, .slice apx a[k].parts.length qpx, .slice aex a[k].entries.length qex] [.int .i64 b[k].n, .slice any b[k].names.length qny, .slice apy b[k].parts.length qpy, .slice aey b[k].entries.length qey] _ (valRd.below (HB2.out _ _) _ _ HRx.out) (valRd.below (HB2.out _ _) _ _ HRy.out)).mono ?_
      rintro e w9 ⟨rfl, h9⟩
      have HW9 : Hid (Below w.heap.size w w9) := hid ((HB2.out _ _).trans (h9.mono (HB2.out _ _).size))
      clear h9
      generalize hcv : c a[k] b[k] = cv at HD ⊢
      clear hcv
      by_cases hz : cv = 0
      · have HD2 : Hid (lexC c a b = lexC c (a.drop (k + 1)) (b.drop (k + 1))) := hid (by rw [HD.out, if_neg (fun h => h hz)])
        have hzb : (cv != 0) = false := by rw [hz]; rfl
        clear hz
        go_wp2_with fail
        go_roundw
        case rel => exact ⟨k + 1, by omega, by omega, by go_num, HD2, HW9⟩
        case measure => simp [intOf]; omega
      · have HD2 : Hid (lexC c a b = cv) := hid (by rw [HD.out, if_pos hz])
        have hzb : (cv != 0) = true := by simpa using hz
        clear hz
        go_wp2_with fail
        go_ret
        exact ⟨ret_int HD2.out.symm, HW9.out⟩
    · have HF : Hid (lexC c a b = 1) := hid (by rw [He.out, lexC_one _ _ _ _ hlt (by omega)])
      have x0 : wr.cell? ⟨bb, o + k * 4, none⟩ = some (.int .i64 a[k].n) := (hcsx.below HW.out) 0 (by simp)
      have x1 : wr.cell? ⟨bb, o + k * 4 + 1, none⟩ = some (.slice anx a[k].names.length qnx) := (hcsx.below HW.out) 1 (by simp)
      have x2 : wr.cell? ⟨bb, o + k * 4 + 2, none⟩ = some (.slice apx a[k].parts.length qpx) := (hcsx.below HW.out) 2 (by simp)
      have x3 : wr.cell? ⟨bb, o + k * 4 + 3, none⟩ = some (.slice aex a[k].entries.length qex) := (hcsx.below HW.out) 3 (by simp)
      go_wp2_with fail
      go_ret
      exact ⟨ret_int HF.out.symm, HW.out.alloc HW.out.size _⟩
  · have HF : Hid (lexC c a b = if k < b.length then -1 else 0) := hid (by rw [He.out, lexC_end _ _ _ _ (by omega)])
    have hka : k = a.length := by omega
    subst hka
    by_cases hl : a.length < b.length
    · have HF2 : Hid (lexC c a b = -1) := hid (by rw [HF.out, if_pos hl])
      go_wp2
      go_ret
      exact ⟨ret_int HF2.out.symm, HW.out⟩
    · have HF2 : Hid (lexC c a b = 0) := hid (by rw [HF.out, if_neg hl])
      go_wp2
      go_ret
      exact ⟨ret_int HF2.out.symm, HW.out⟩
end Go.Proofs.YtmdjnaobllajmaaGreatDoor
