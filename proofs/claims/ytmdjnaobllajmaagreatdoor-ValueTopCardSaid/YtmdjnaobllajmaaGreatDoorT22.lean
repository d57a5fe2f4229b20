/-
  What the statements of the chapter share, part 22: VE8, VE9, VK4, VK5, VE10, VBtm, VE11, PBot, PTop.
-/
import Derived.Test.YtmdjnaobllajmaaGreatDoorT08
import Derived.Test.YtmdjnaobllajmaaGreatDoorT12
import Derived.Test.YtmdjnaobllajmaaGreatDoorT20
import Derived.Test.YtmdjnaobllajmaaGreatDoorT21
import Derived.Deep.Cut
set_option linter.unusedVariables false
set_option linter.unusedSimpArgs false
set_option maxRecDepth 100000
set_option maxHeartbeats 8000000
namespace Go.Proofs.YtmdjnaobllajmaaGreatDoor
open Go.RowKit


theorem rNode_any (l : Lat) (cs : List Value) (d : Int) (n : Nat) (w : World) (hl : latRd w l cs) (hd : 0 ≤ d ∧ d ≤ 7) (hn : n ≤ 64) :
 Calls Tryz.prog 106 #[.agg cs.toArray, .int .i64 d, .int .i64 n] w fun e w' => e = .returned (.int .i64 (nodeR l d n)) ∧ Below w.heap.size w w' := by
 obtain ⟨vn, vp, vr, rfl, hi, hns, hps, hrs⟩ := (latRd_iff _ _ _).1 hl
 have HL := hid hl
 obtain ⟨an, cn, rfl, hln, hmn⟩ := hns.shape
 obtain ⟨ap, cp, rfl, hlp, hmp⟩ := hps.shape
 obtain ⟨ar, cr, rfl, hlr, hmr⟩ := hrs.shape
 have HSH : Hid (∀ W, Below w.heap.size w W → Calls Tryz.prog 146 #[.agg #[.int .i64 l.kind, .int .i64 l.lo, .int .i64 l.hi, .slice an l.names.length cn, .slice ap l.parts.length cp, .slice ar l.rules.length cr]] W fun e w' => e = .returned (.bool (!shapeB l)) ∧ Below W.heap.size W w') := hid fun W h => rShape_any l _ W (latRd.below h _ _ HL.out)
 have HNA : Hid (∀ W, Below w.heap.size w W → Calls Tryz.prog 147 #[.agg #[.int .i64 l.kind, .int .i64 l.lo, .int .i64 l.hi, .slice an l.names.length cn, .slice ap l.parts.length cp, .slice ar l.rules.length cr]] W fun e w' => e = .returned (.bool (namedR l.kind l.names l.rules)) ∧ Below W.heap.size W w') := hid fun W h => rNamed_any l _ W (latRd.below h _ _ HL.out)
 have HR : Hid (nodeR l d n = if 6 < d ∨ 64 ≤ n then 6 else if shapeB l then 1 else if limitsB l then 6 else if namedR l.kind l.names l.rules = false then 3 else if l.hi < l.lo ∨ l.lo < -1000000000 ∨ 1000000000 < l.hi then 5 else if chainsB l then 4 else 0) := hid rfl
 have HP : Hid (shapeB l = false → l.kind = 7 → ∃ b o p q n0 p0 r0, ap = some ⟨b, o, none⟩ ∧ l.parts.length = 2 ∧ chainsB l = !(chainB p) ∧ latRd w p [.int .i64 p.kind, .int .i64 p.lo, .int .i64 p.hi, n0, p0, r0] ∧ CellsAt w b o [.int .i64 p.kind, .int .i64 p.lo, .int .i64 p.hi, n0, p0, r0]) := hid fun hs h7 => by
   have h2 := shapeB_lex l hs h7
   obtain ⟨p, q, hpq⟩ : ∃ p q, l.parts = [p, q] := by
    match l.parts, h2 with
    | [p, q], _ => exact ⟨p, q, rfl⟩
   obtain ⟨a', cp', heq, _, _, hcell⟩ := hps
   cases heq
   obtain ⟨b, o, cs0, hab, hl0, hc0, hr0⟩ := hcell 0 (by omega)
   have hp0 : l.parts[0]'(by omega) = p := by simp [hpq]
   rw [hp0] at hr0
   obtain ⟨n0, p0, r0, rfl, _⟩ := (latRd_iff _ _ _).1 hr0
   refine ⟨b, o, p, q, n0, p0, r0, hab, h2, ?_, hr0, by simpa using hc0⟩
   unfold chainsB
   rw [hpq, decide_eq_true h7]; rfl
 have H7 : Hid (l.kind ≠ 7 → chainsB l = false) := hid fun h => by unfold chainsB; rw [decide_eq_false h]; rfl
 have HLM : Hid (limitsB l = true ↔ mostN l.kind < l.names.length ∨ 32 < l.rules.length) := hid (by unfold limitsB; exact decide_eq_true_iff)
 generalize nodeR l d n = R at HR ⊢
 generalize shapeB l = S at HSH HR HP
 generalize limitsB l = LM at HR HLM
 generalize namedR l.kind l.names l.rules = NM at HNA HR
 generalize hch : chainsB l = CH at HR HP H7
 clear hch
 have hnn : l.names.length ≤ 9223372036854775807 := by omega
 have hnr : l.rules.length ≤ 9223372036854775807 := by omega
 have hnp : l.parts.length ≤ 9223372036854775807 := by omega
 clear hi hns hps hrs hl hln hlr hlp hmn hmr hmp HL
 generalize l.kind = k at HSH HNA HR HP H7 HLM ⊢
 generalize l.lo = lo at HSH HNA HR ⊢
 generalize l.hi = hi' at HSH HNA HR ⊢
 generalize l.names.length = nn at HSH HNA HLM hnn ⊢
 generalize l.rules.length = nr at HSH HNA HLM hnr ⊢
 generalize l.parts.length = np at HSH HNA HP hnp ⊢
 obtain ⟨hd0, hd7⟩ := hd
 have HB : Hid (∀ x : Ext (w.alloc (.cells #[.int .i64 k, .int .i64 lo, .int .i64 hi', .slice an nn cn, .slice ap np cp, .slice ar nr cr] 26)), Below w.heap.size w x.1) := hid fun x => ((Below.refl _ _).alloc (Nat.le_refl _) _).trans (x.2.mono (by simp))
 have HX : Hid (∀ (x : Ext (w.alloc (.cells #[.int .i64 k, .int .i64 lo, .int .i64 hi', .slice an nn cn, .slice ap np cp, .slice ar nr cr] 26))) (i : Nat) q, #[Value.int .i64 k, .int .i64 lo, .int .i64 hi', .slice an nn cn, .slice ap np cp, .slice ar nr cr][i]? = some q → x.1.cell? ⟨w.heap.size, i, none⟩ = some q) := hid fun x i q hq => x.cell (by rw [World.cell?_alloc_at _ _ _ _ rfl]; exact hq)
 have HBA : Hid (∀ O, Below w.heap.size w (w.alloc O)) := hid fun O => (Below.refl _ _).alloc (Nat.le_refl _) O
 by_cases k6 : k = 6
 · subst k6
   by_cases h6 : 6 < d
   · have HF : Hid (R = 6) := hid (by rw [HR.out, if_pos (.inl h6)])
     clear HX HB
     go_enter Tryz.func106, Tryz.ntmps106
     go_wp2_with fail
     go_ret
     exact ⟨ret_int HF.out.symm, HBA.out _⟩
   have h6' : d ≤ 6 := by omega
   by_cases h64 : 64 ≤ n
   · have HF : Hid (R = 6) := hid (by rw [HR.out, if_pos (.inr h64)])
     have h64' : (64 : Int) ≤ (n : Int) := by omega
     clear HX HB h6
     go_enter Tryz.func106, Tryz.ntmps106
     go_wp2_with fail
     go_ret
     exact ⟨ret_int HF.out.symm, HBA.out _⟩
   have h64' : (n : Int) < 64 := by omega
   replace HR : Hid (R = if S then 1 else if LM then 6 else if NM = false then 3 else if hi' < lo ∨ lo < -1000000000 ∨ 1000000000 < hi' then 5 else if CH then 4 else 0) := hid (by rw [HR.out, if_neg (by omega)])
   have g1 : decide (6 < d) = false := decide_eq_false h6
   have g2 : decide ((64 : Int) ≤ (n : Int)) = false := decide_eq_false (by omega)
   clear h6 h64
   go_enter Tryz.func106, Tryz.ntmps106
   go_wp2_with fail
   generalize w.alloc (.cells #[.int .i64 6, .int .i64 lo, .int .i64 hi', .slice an nn cn, .slice ap np cp, .slice ar nr cr] 26) = W1 at HB HX ⊢
   obtain ⟨x0, hx⟩ := ext_self W1
   rw [hx]
   clear hx
   obtain ⟨l0, l1, l2, l3, l4, l5⟩ := bx6 fun x : Ext W1 => HX.out x
   replace HSH := hid (ext_of HB.out HSH.out)
   replace HNA := hid (ext_of HB.out HNA.out)
   go_wp2_with fail
   refine (HSH.out _).mono ?_
   rintro e _ ⟨rfl, x1, rfl⟩
   clear x0
   cases S
   case true =>
    have HF : Hid (R = 1) := hid (by rw [HR.out, if_pos rfl])
    go_wp2_with fail
    go_ret
    exact ⟨ret_int HF.out.symm, HB.out _⟩
   replace HR : Hid (R = if LM then 6 else if NM = false then 3 else if hi' < lo ∨ lo < -1000000000 ∨ 1000000000 < hi' then 5 else if CH then 4 else 0) := hid (by rw [HR.out, if_neg Bool.false_ne_true])
   by_cases hm : 8 < nn
   · have HF : Hid (R = 6) := hid (by rw [HR.out, if_pos (HLM.out.2 (by first | exact .inl hm | (left; unfold mostN; split <;> (try split) <;> omega)))])
     have hm' : decide ((8 : Int) < (nn : Int)) = true := decide_eq_true (by omega)
     go_wp2_with fail
     go_ret
     exact ⟨ret_int HF.out.symm, HB.out _⟩
   have hm' : decide ((8 : Int) < (nn : Int)) = false := decide_eq_false (by omega)
   by_cases hr : 32 < nr
   · have HF : Hid (R = 6) := hid (by rw [HR.out, if_pos (HLM.out.2 (.inr hr))])
     have hr' : decide ((32 : Int) < (nr : Int)) = true := decide_eq_true (by omega)
     go_wp2_with fail
     go_ret
     exact ⟨ret_int HF.out.symm, HB.out _⟩
   have hr' : decide ((32 : Int) < (nr : Int)) = false := decide_eq_false (by omega)
   replace HR : Hid (R = if NM = false then 3 else if hi' < lo ∨ lo < -1000000000 ∨ 1000000000 < hi' then 5 else if CH then 4 else 0) := hid (by rw [HR.out, if_neg (fun h => by have := HLM.out.1 h; unfold mostN at this; revert this; first | omega | (split <;> (try split) <;> omega))])
   clear HLM hm hr
   go_wp2_with fail
   refine (HNA.out _).mono ?_
   rintro e _ ⟨rfl, x2, rfl⟩
   clear x1
   cases NM
   case false =>
    have HF : Hid (R = 3) := hid (by rw [HR.out, if_pos rfl])
    go_wp2_with fail
    go_ret
    exact ⟨ret_int HF.out.symm, HB.out _⟩
   replace HR : Hid (R = if hi' < lo ∨ lo < -1000000000 ∨ 1000000000 < hi' then 5 else if CH then 4 else 0) := hid (by rw [HR.out, if_neg (fun h => Bool.noConfusion h)])
   by_cases p1 : hi' < lo
   · have HF : Hid (R = 5) := hid (by rw [HR.out, if_pos (by omega)])
     have dp1 : decide (hi' < lo) = true := decide_eq_true p1
     clear p1
     go_wp2_with fail
     go_ret
     exact ⟨ret_int HF.out.symm, HB.out _⟩
   have dp1 : decide (hi' < lo) = false := decide_eq_false p1
   by_cases p2 : lo < -1000000000
   · have HF : Hid (R = 5) := hid (by rw [HR.out, if_pos (by omega)])
     have dp2 : decide (lo < -1000000000) = true := decide_eq_true p2
     clear p2
     go_wp2_with fail
     go_ret
     exact ⟨ret_int HF.out.symm, HB.out _⟩
   have dp2 : decide (lo < -1000000000) = false := decide_eq_false p2
   by_cases p3 : 1000000000 < hi'
   · have HF : Hid (R = 5) := hid (by rw [HR.out, if_pos (by omega)])
     have dp3 : decide (1000000000 < hi') = true := decide_eq_true p3
     clear p3
     go_wp2_with fail
     go_ret
     exact ⟨ret_int HF.out.symm, HB.out _⟩
   have dp3 : decide (1000000000 < hi') = false := decide_eq_false p3
   replace HR : Hid (R = if CH then 4 else 0) := hid (by rw [HR.out, if_neg (by omega)])
   clear p1 p2 p3
   have HF : Hid (R = 0) := hid (by rw [HR.out, H7.out (by decide)]; rfl)
   clear HP
   go_wp2_with fail
   go_ret
   exact ⟨ret_int HF.out.symm, HB.out _⟩
 by_cases k10 : k = 10
 · subst k10
   by_cases h6 : 6 < d
   · have HF : Hid (R = 6) := hid (by rw [HR.out, if_pos (.inl h6)])
     clear HX HB
     go_enter Tryz.func106, Tryz.ntmps106
     go_wp2_with fail
     go_ret
     exact ⟨ret_int HF.out.symm, HBA.out _⟩
   have h6' : d ≤ 6 := by omega
   by_cases h64 : 64 ≤ n
   · have HF : Hid (R = 6) := hid (by rw [HR.out, if_pos (.inr h64)])
     have h64' : (64 : Int) ≤ (n : Int) := by omega
     clear HX HB h6
     go_enter Tryz.func106, Tryz.ntmps106
     go_wp2_with fail
     go_ret
     exact ⟨ret_int HF.out.symm, HBA.out _⟩
   have h64' : (n : Int) < 64 := by omega
   replace HR : Hid (R = if S then 1 else if LM then 6 else if NM = false then 3 else if hi' < lo ∨ lo < -1000000000 ∨ 1000000000 < hi' then 5 else if CH then 4 else 0) := hid (by rw [HR.out, if_neg (by omega)])
   have g1 : decide (6 < d) = false := decide_eq_false h6
   have g2 : decide ((64 : Int) ≤ (n : Int)) = false := decide_eq_false (by omega)
   clear h6 h64
   go_enter Tryz.func106, Tryz.ntmps106
   go_wp2_with fail
   generalize w.alloc (.cells #[.int .i64 10, .int .i64 lo, .int .i64 hi', .slice an nn cn, .slice ap np cp, .slice ar nr cr] 26) = W1 at HB HX ⊢
   obtain ⟨x0, hx⟩ := ext_self W1
   rw [hx]
   clear hx
   obtain ⟨l0, l1, l2, l3, l4, l5⟩ := bx6 fun x : Ext W1 => HX.out x
   replace HSH := hid (ext_of HB.out HSH.out)
   replace HNA := hid (ext_of HB.out HNA.out)
   go_wp2_with fail
   refine (HSH.out _).mono ?_
   rintro e _ ⟨rfl, x1, rfl⟩
   clear x0
   cases S
   case true =>
    have HF : Hid (R = 1) := hid (by rw [HR.out, if_pos rfl])
    go_wp2_with fail
    go_ret
    exact ⟨ret_int HF.out.symm, HB.out _⟩
   replace HR : Hid (R = if LM then 6 else if NM = false then 3 else if hi' < lo ∨ lo < -1000000000 ∨ 1000000000 < hi' then 5 else if CH then 4 else 0) := hid (by rw [HR.out, if_neg Bool.false_ne_true])
   by_cases hm : 12 < nn
   · have HF : Hid (R = 6) := hid (by rw [HR.out, if_pos (HLM.out.2 (by first | exact .inl hm | (left; unfold mostN; split <;> (try split) <;> omega)))])
     have hm' : decide ((12 : Int) < (nn : Int)) = true := decide_eq_true (by omega)
     go_wp2_with fail
     go_ret
     exact ⟨ret_int HF.out.symm, HB.out _⟩
   have hm' : decide ((12 : Int) < (nn : Int)) = false := decide_eq_false (by omega)
   by_cases hr : 32 < nr
   · have HF : Hid (R = 6) := hid (by rw [HR.out, if_pos (HLM.out.2 (.inr hr))])
     have hr' : decide ((32 : Int) < (nr : Int)) = true := decide_eq_true (by omega)
     go_wp2_with fail
     go_ret
     exact ⟨ret_int HF.out.symm, HB.out _⟩
   have hr' : decide ((32 : Int) < (nr : Int)) = false := decide_eq_false (by omega)
   replace HR : Hid (R = if NM = false then 3 else if hi' < lo ∨ lo < -1000000000 ∨ 1000000000 < hi' then 5 else if CH then 4 else 0) := hid (by rw [HR.out, if_neg (fun h => by have := HLM.out.1 h; unfold mostN at this; revert this; first | omega | (split <;> (try split) <;> omega))])
   clear HLM hm hr
   go_wp2_with fail
   refine (HNA.out _).mono ?_
   rintro e _ ⟨rfl, x2, rfl⟩
   clear x1
   cases NM
   case false =>
    have HF : Hid (R = 3) := hid (by rw [HR.out, if_pos rfl])
    go_wp2_with fail
    go_ret
    exact ⟨ret_int HF.out.symm, HB.out _⟩
   replace HR : Hid (R = if hi' < lo ∨ lo < -1000000000 ∨ 1000000000 < hi' then 5 else if CH then 4 else 0) := hid (by rw [HR.out, if_neg (fun h => Bool.noConfusion h)])
   by_cases p1 : hi' < lo
   · have HF : Hid (R = 5) := hid (by rw [HR.out, if_pos (by omega)])
     have dp1 : decide (hi' < lo) = true := decide_eq_true p1
     clear p1
     go_wp2_with fail
     go_ret
     exact ⟨ret_int HF.out.symm, HB.out _⟩
   have dp1 : decide (hi' < lo) = false := decide_eq_false p1
   by_cases p2 : lo < -1000000000
   · have HF : Hid (R = 5) := hid (by rw [HR.out, if_pos (by omega)])
     have dp2 : decide (lo < -1000000000) = true := decide_eq_true p2
     clear p2
     go_wp2_with fail
     go_ret
     exact ⟨ret_int HF.out.symm, HB.out _⟩
   have dp2 : decide (lo < -1000000000) = false := decide_eq_false p2
   by_cases p3 : 1000000000 < hi'
   · have HF : Hid (R = 5) := hid (by rw [HR.out, if_pos (by omega)])
     have dp3 : decide (1000000000 < hi') = true := decide_eq_true p3
     clear p3
     go_wp2_with fail
     go_ret
     exact ⟨ret_int HF.out.symm, HB.out _⟩
   have dp3 : decide (1000000000 < hi') = false := decide_eq_false p3
   replace HR : Hid (R = if CH then 4 else 0) := hid (by rw [HR.out, if_neg (by omega)])
   clear p1 p2 p3
   have HF : Hid (R = 0) := hid (by rw [HR.out, H7.out (by decide)]; rfl)
   clear HP
   go_wp2_with fail
   go_ret
   exact ⟨ret_int HF.out.symm, HB.out _⟩
 have e6 : (k == 6) = false := by rw [beq_eq_false_iff_ne]; exact k6
 have e10 : (k == 10) = false := by rw [beq_eq_false_iff_ne]; exact k10
 by_cases h6 : 6 < d
 · have HF : Hid (R = 6) := hid (by rw [HR.out, if_pos (.inl h6)])
   clear HX HB
   go_enter Tryz.func106, Tryz.ntmps106
   go_wp2_with fail
   go_ret
   exact ⟨ret_int HF.out.symm, HBA.out _⟩
 have h6' : d ≤ 6 := by omega
 by_cases h64 : 64 ≤ n
 · have HF : Hid (R = 6) := hid (by rw [HR.out, if_pos (.inr h64)])
   have h64' : (64 : Int) ≤ (n : Int) := by omega
   clear HX HB h6
   go_enter Tryz.func106, Tryz.ntmps106
   go_wp2_with fail
   go_ret
   exact ⟨ret_int HF.out.symm, HBA.out _⟩
 have h64' : (n : Int) < 64 := by omega
 replace HR : Hid (R = if S then 1 else if LM then 6 else if NM = false then 3 else if hi' < lo ∨ lo < -1000000000 ∨ 1000000000 < hi' then 5 else if CH then 4 else 0) := hid (by rw [HR.out, if_neg (by omega)])
 have g1 : decide (6 < d) = false := decide_eq_false h6
 have g2 : decide ((64 : Int) ≤ (n : Int)) = false := decide_eq_false (by omega)
 clear h6 h64
 go_enter Tryz.func106, Tryz.ntmps106
 go_wp2_with fail
 generalize w.alloc (.cells #[.int .i64 k, .int .i64 lo, .int .i64 hi', .slice an nn cn, .slice ap np cp, .slice ar nr cr] 26) = W1 at HB HX ⊢
 obtain ⟨x0, hx⟩ := ext_self W1
 rw [hx]
 clear hx
 obtain ⟨l0, l1, l2, l3, l4, l5⟩ := bx6 fun x : Ext W1 => HX.out x
 replace HSH := hid (ext_of HB.out HSH.out)
 replace HNA := hid (ext_of HB.out HNA.out)
 go_wp2_with fail
 refine (HSH.out _).mono ?_
 rintro e _ ⟨rfl, x1, rfl⟩
 clear x0
 cases S
 case true =>
  have HF : Hid (R = 1) := hid (by rw [HR.out, if_pos rfl])
  go_wp2_with fail
  go_ret
  exact ⟨ret_int HF.out.symm, HB.out _⟩
 replace HR : Hid (R = if LM then 6 else if NM = false then 3 else if hi' < lo ∨ lo < -1000000000 ∨ 1000000000 < hi' then 5 else if CH then 4 else 0) := hid (by rw [HR.out, if_neg Bool.false_ne_true])
 by_cases hm : 32 < nn
 · have HF : Hid (R = 6) := hid (by rw [HR.out, if_pos (HLM.out.2 (by first | exact .inl hm | (left; unfold mostN; split <;> (try split) <;> omega)))])
   have hm' : decide ((32 : Int) < (nn : Int)) = true := decide_eq_true (by omega)
   go_wp2_with fail
   go_ret
   exact ⟨ret_int HF.out.symm, HB.out _⟩
 have hm' : decide ((32 : Int) < (nn : Int)) = false := decide_eq_false (by omega)
 by_cases hr : 32 < nr
 · have HF : Hid (R = 6) := hid (by rw [HR.out, if_pos (HLM.out.2 (.inr hr))])
   have hr' : decide ((32 : Int) < (nr : Int)) = true := decide_eq_true (by omega)
   go_wp2_with fail
   go_ret
   exact ⟨ret_int HF.out.symm, HB.out _⟩
 have hr' : decide ((32 : Int) < (nr : Int)) = false := decide_eq_false (by omega)
 replace HR : Hid (R = if NM = false then 3 else if hi' < lo ∨ lo < -1000000000 ∨ 1000000000 < hi' then 5 else if CH then 4 else 0) := hid (by rw [HR.out, if_neg (fun h => by have := HLM.out.1 h; unfold mostN at this; revert this; first | omega | (split <;> (try split) <;> omega))])
 clear HLM hm hr
 go_wp2_with fail
 refine (HNA.out _).mono ?_
 rintro e _ ⟨rfl, x2, rfl⟩
 clear x1
 cases NM
 case false =>
  have HF : Hid (R = 3) := hid (by rw [HR.out, if_pos rfl])
  go_wp2_with fail
  go_ret
  exact ⟨ret_int HF.out.symm, HB.out _⟩
 replace HR : Hid (R = if hi' < lo ∨ lo < -1000000000 ∨ 1000000000 < hi' then 5 else if CH then 4 else 0) := hid (by rw [HR.out, if_neg (fun h => Bool.noConfusion h)])
 by_cases p1 : hi' < lo
 · have HF : Hid (R = 5) := hid (by rw [HR.out, if_pos (by omega)])
   have dp1 : decide (hi' < lo) = true := decide_eq_true p1
   clear p1
   go_wp2_with fail
   go_ret
   exact ⟨ret_int HF.out.symm, HB.out _⟩
 have dp1 : decide (hi' < lo) = false := decide_eq_false p1
 by_cases p2 : lo < -1000000000
 · have HF : Hid (R = 5) := hid (by rw [HR.out, if_pos (by omega)])
   have dp2 : decide (lo < -1000000000) = true := decide_eq_true p2
   clear p2
   go_wp2_with fail
   go_ret
   exact ⟨ret_int HF.out.symm, HB.out _⟩
 have dp2 : decide (lo < -1000000000) = false := decide_eq_false p2
 by_cases p3 : 1000000000 < hi'
 · have HF : Hid (R = 5) := hid (by rw [HR.out, if_pos (by omega)])
   have dp3 : decide (1000000000 < hi') = true := decide_eq_true p3
   clear p3
   go_wp2_with fail
   go_ret
   exact ⟨ret_int HF.out.symm, HB.out _⟩
 have dp3 : decide (1000000000 < hi') = false := decide_eq_false p3
 replace HR : Hid (R = if CH then 4 else 0) := hid (by rw [HR.out, if_neg (by omega)])
 clear p1 p2 p3
 by_cases h7 : k = 7
 · obtain ⟨b, oo, p, q, n0, p0, r0, rfl, h2, hch, hpr, hpc⟩ := HP.out (by trivial) h7
   subst h7
   subst h2
   have HC := hid hpc
   have HR2 : Hid (R = if (!chainB p) then 4 else 0) := hid (by rw [HR.out, hch])
   have HCC : Hid (∀ x : Ext W1, Calls Tryz.prog 148 #[.agg #[.int .i64 p.kind, .int .i64 p.lo, .int .i64 p.hi, n0, p0, r0]] x.1 fun e w' => e = .returned (.bool (chainB p)) ∧ ∃ y : Ext W1, w' = y.1) := hid (ext_of HB.out fun W h => rChain_any _ p _ W (Nat.le_refl _) (latRd.below h _ _ hpr))
   have g0 : ∀ x : Ext W1, x.1.cell? ⟨b, oo, none⟩ = some (.int .i64 p.kind) := fun x => ((HC.out.below (HB.out x)) 0 (by simp))
   have g1 : ∀ x : Ext W1, x.1.cell? ⟨b, oo + 1, none⟩ = some (.int .i64 p.lo) := fun x => ((HC.out.below (HB.out x)) 1 (by simp))
   have g2 : ∀ x : Ext W1, x.1.cell? ⟨b, oo + 2, none⟩ = some (.int .i64 p.hi) := fun x => ((HC.out.below (HB.out x)) 2 (by simp))
   have g3 : ∀ x : Ext W1, x.1.cell? ⟨b, oo + 3, none⟩ = some (n0) := fun x => ((HC.out.below (HB.out x)) 3 (by simp))
   have g4 : ∀ x : Ext W1, x.1.cell? ⟨b, oo + 4, none⟩ = some (p0) := fun x => ((HC.out.below (HB.out x)) 4 (by simp))
   have g5 : ∀ x : Ext W1, x.1.cell? ⟨b, oo + 5, none⟩ = some (r0) := fun x => ((HC.out.below (HB.out x)) 5 (by simp))
   clear hpc hpr hch HP H7 HSH HNA e6 e10
   go_wp2_with fail
   refine (HCC.out _).mono ?_
   rintro e _ ⟨rfl, x3, rfl⟩
   cases hc : chainB p
   · have HF : Hid (R = 4) := hid (by rw [HR2.out, hc]; rfl)
     clear hc
     go_wp2_with fail
     go_ret
     exact ⟨ret_int HF.out.symm, HB.out _⟩
   · have HF : Hid (R = 0) := hid (by rw [HR2.out, hc]; rfl)
     clear hc
     go_wp2_with fail
     go_ret
     exact ⟨ret_int HF.out.symm, HB.out _⟩
 · have HF : Hid (R = 0) := hid (by rw [HR.out, H7.out h7]; rfl)
   have e7 : (k == 7) = false := by rw [beq_eq_false_iff_ne]; exact h7
   clear HP H7 h7
   go_wp2_with fail
   go_ret
   exact ⟨ret_int HF.out.symm, HB.out _⟩
def WalkPost (w : World) (x : Int × Nat) (e : Ending) (w' : World) : Prop := ∃ m : Nat, e = .returned (.tuple #[.int .i64 m, .int .i64 x.1]) ∧ (x.1 = 0 → m = x.2) ∧ Below w.heap.size w w'
theorem latElS {w : World} {a : Option Addr} {n cap : Nat} {l : List Lat} (h : SlRd w 6 (latRd w) (.slice a n cap) l) (i : Nat) (hi : i < l.length) :
 ∃ p b o n0 p0 r0, p ∈ l ∧ l.drop i = p :: l.drop (i + 1) ∧ a = some ⟨b, o, none⟩ ∧ latRd w p [.int .i64 p.kind, .int .i64 p.lo, .int .i64 p.hi, n0, p0, r0] ∧ CellsAt w b (o + i * 6) [.int .i64 p.kind, .int .i64 p.lo, .int .i64 p.hi, n0, p0, r0] := by
 obtain ⟨b, o, cs, h1, _, hc, hr⟩ := h.at i hi
 have hr' := hr
 obtain ⟨n0, p0, r0, rfl, _⟩ := (latRd_iff _ _ _).1 hr
 exact ⟨l[i], b, o, n0, p0, r0, List.getElem_mem hi, drop_consS l i hi, h1, hr', hc⟩
theorem rWalk_any (f : Nat) : ∀ (d : Int) (l : Lat) (cs : List Value) (n : Nat) (w : World), f ≤ 6 → d = 7 - f → n ≤ 64 → latRd w l cs →
 Calls Tryz.prog 60 #[.agg cs.toArray, .int .i64 d, .int .i64 n] w (WalkPost w (visitF f l n)) := by
 induction f with
 | zero =>
   intro d l cs n w _ hd hn hl
   have HV := hid (node_visit 0 l n d hd (by omega))
   have HNO : Hid (∀ W, Below w.heap.size w W → Calls Tryz.prog 106 #[.agg cs.toArray, .int .i64 d, .int .i64 n] W fun e w' => e = .returned (.int .i64 (nodeR l d n)) ∧ Below W.heap.size W w') := hid fun W h => rNode_any l cs d n W (latRd.below h _ _ hl) (by omega) hn
   obtain ⟨vn, vp, vr, rfl, hx⟩ := (latRd_iff _ _ _).1 hl
   clear hl hx
   generalize hE : nodeR l d n = E at HV HNO
   clear hE
   generalize visitF 0 l n = vv at HV ⊢
   have hne : E ≠ 0 ∧ vv.1 = E := by
    rcases HV.out with h | ⟨_, g, h, _⟩
    · exact h
    · omega
   have hE : (E != 0) = true := by rw [bne_iff_ne]; exact hne.1
   have HE := hid hne
   have HBA : Hid (∀ O, Below w.heap.size w (w.alloc O)) := hid fun O => (Below.refl _ _).alloc (Nat.le_refl _) O
   have hn64 : (n : Int) ≤ 64 := by omega
   clear hne hd
   go_enter Tryz.func60, Tryz.ntmps60
   go_wp2_with fail
   refine (HNO.out _ (HBA.out _)).mono ?_
   rintro e w1 ⟨rfl, hb⟩
   have HB1 := hid ((HBA.out _).trans (hb.mono (by simp)))
   clear hb
   go_wp2_with fail
   go_ret2
   exact ⟨n, by rw [HE.out.2]; rfl, fun h => absurd (HE.out.2.symm.trans h) HE.out.1, HB1.out⟩
 | succ f ih =>
   intro d l cs n w hf hd hn hl
   have IH := hid ih
   have HV := hid (node_visit (f + 1) l n d hd hf)
   have HLE := hid (fun p m h => visit_le f p m h)
   have HNO : Hid (∀ W, Below w.heap.size w W → Calls Tryz.prog 106 #[.agg cs.toArray, .int .i64 d, .int .i64 n] W fun e w' => e = .returned (.int .i64 (nodeR l d n)) ∧ Below W.heap.size W w') := hid fun W h => rNode_any l cs d n W (latRd.below h _ _ hl) (by omega) hn
   have hn1 : nodeR l d n = 0 → n < 64 := fun h => by
     unfold nodeR at h
     by_cases h6 : 6 < d ∨ 64 ≤ n
     · rw [if_pos h6] at h; exact absurd h (by decide)
     · omega
   have HN1 := hid hn1
   clear hn1
   obtain ⟨vn, vp, vr, rfl, hi, hns, hps, hrs⟩ := (latRd_iff _ _ _).1 hl
   obtain ⟨k, lo, hi', ns, ps, rs⟩ := l
   simp only [Lat.kind, Lat.lo, Lat.hi, Lat.names, Lat.parts, Lat.rules] at hi hns hps hrs HV HNO ⊢
   obtain ⟨ap, cp, rfl, hlp, hmp⟩ := hps.shape
   have HPS := hid hps
   clear hl hi hns hps hrs ih
   generalize hE : nodeR (.mk k lo hi' ns ps rs) d n = E at HV HNO HN1
   clear hE
   generalize visitF (f + 1) (.mk k lo hi' ns ps rs) n = vv at HV ⊢
   have HB : Hid (∀ x : Ext (w.alloc (.cells #[.int .i64 k, .int .i64 lo, .int .i64 hi', vn, .slice ap ps.length cp, vr] 26)), Below w.heap.size w x.1) := hid fun x => ((Below.refl _ _).alloc (Nat.le_refl _) _).trans (x.2.mono (by simp))
   have HX : Hid (∀ (x : Ext (w.alloc (.cells #[.int .i64 k, .int .i64 lo, .int .i64 hi', vn, .slice ap ps.length cp, vr] 26))) (i : Nat) q, #[Value.int .i64 k, .int .i64 lo, .int .i64 hi', vn, .slice ap ps.length cp, vr][i]? = some q → x.1.cell? ⟨w.heap.size, i, none⟩ = some q) := hid fun x i q hq => x.cell (by rw [World.cell?_alloc_at _ _ _ _ rfl]; exact hq)
   have hn64 : (n : Int) ≤ 64 := by omega
   have hd1 : 1 ≤ d ∧ d ≤ 6 := by omega
   obtain ⟨hd1, hd6⟩ := hd1
   have HD := hid hd
   have HF := hid hf
   clear hd hf
   go_enter Tryz.func60, Tryz.ntmps60
   go_wp2_with fail
   generalize w.alloc (.cells #[.int .i64 k, .int .i64 lo, .int .i64 hi', vn, .slice ap ps.length cp, vr] 26) = W1 at HB HX ⊢
   obtain ⟨x0, hx⟩ := ext_self W1
   rw [hx]
   clear hx
   obtain ⟨l0, l1, l2, l3, l4, l5⟩ := bx6 fun x : Ext W1 => HX.out x
   replace HNO := hid (ext_of HB.out HNO.out)
   go_wp2_with fail
   refine (HNO.out _).mono ?_
   rintro e _ ⟨rfl, x1, rfl⟩
   clear x0
   by_cases h0 : E = 0
   · have HN := hid (HN1.out h0)
     subst h0
     have HG : Hid (vv = goL (visitF f) (ps.drop 0) (n + 1)) := hid (by
      rcases HV.out with ⟨h, _⟩ | ⟨_, g, hg, hv⟩
      · exact absurd rfl h
      · obtain rfl : f = g := by omega
        exact hv)
     clear HV HNO l0 l1 l2 l3 l5
     have hn63 : (n : Int) < 64 := by have := HN.out; omega
     go_wp2_with fail
     go_loopw [9, 10, 11, 12] (fun c i _ _ wr => ∃ (j m : Nat) (x : Ext W1), j ≤ ps.length ∧ m ≤ 64 ∧ i = .int .i64 j ∧ c = .int .i64 m ∧ wr = x.1 ∧ Hid (vv = goL (visitF f) (ps.drop j) m)) (fun _ i _ _ _ => ps.length - (intOf i).toNat)
     case atStart => exact ⟨0, n + 1, x1, Nat.zero_le _, HN.out, rfl, rfl, rfl, HG⟩
     case round =>
      obtain ⟨j, m, x, hj, hm, rfl, rfl, rfl, He⟩ := hrel
      by_cases hlt : j < ps.length
      · obtain ⟨p, b, o, n0, p0, r0, _, hpd, rfl, hpr, hpc⟩ := latElS HPS.out j hlt
        have HPR := hid hpr
        have HC := hid hpc
        have HS : Hid (vv = if (visitF f p m).1 ≠ 0 then visitF f p m else goL (visitF f) (ps.drop (j + 1)) (visitF f p m).2) := hid (by rw [He.out, hpd, goL])
        have g0 : ∀ x : Ext W1, x.1.cell? ⟨b, o + j * 6, none⟩ = some (.int .i64 p.kind) := fun x => ((HC.out.below (HB.out x)) 0 (by simp))
        have g1 : ∀ x : Ext W1, x.1.cell? ⟨b, o + j * 6 + 1, none⟩ = some (.int .i64 p.lo) := fun x => ((HC.out.below (HB.out x)) 1 (by simp))
        have g2 : ∀ x : Ext W1, x.1.cell? ⟨b, o + j * 6 + 2, none⟩ = some (.int .i64 p.hi) := fun x => ((HC.out.below (HB.out x)) 2 (by simp))
        have g3 : ∀ x : Ext W1, x.1.cell? ⟨b, o + j * 6 + 3, none⟩ = some n0 := fun x => ((HC.out.below (HB.out x)) 3 (by simp))
        have g4 : ∀ x : Ext W1, x.1.cell? ⟨b, o + j * 6 + 4, none⟩ = some p0 := fun x => ((HC.out.below (HB.out x)) 4 (by simp))
        have g5 : ∀ x : Ext W1, x.1.cell? ⟨b, o + j * 6 + 5, none⟩ = some r0 := fun x => ((HC.out.below (HB.out x)) 5 (by simp))
        have HJ : Hid (j + 1 ≤ ps.length) := hid hlt
        have hi1 : (j : Int) < (ps.length : Int) := by omega
        have HL64 := hid (HLE.out p m hm)
        have HCALL : Hid (∀ y : Ext W1, Calls Tryz.prog 60 #[.agg #[.int .i64 p.kind, .int .i64 p.lo, .int .i64 p.hi, n0, p0, r0], .int .i64 (d + 1), .int .i64 m] y.1 (WalkPost y.1 (visitF f p m))) := hid fun y => IH.out (d + 1) p _ m y.1 (by have := HF.out; omega) (by have := HD.out; omega) hm (latRd.below (HB.out y) _ _ HPR.out)
        clear He hpr hpc hpd
        generalize visitF f p m = q at HS HCALL HL64
        obtain ⟨qe, qm⟩ := q
        simp only at HS HL64
        go_wp2_with fail
        refine (HCALL.out _).mono ?_
        rintro e w2 ⟨m', rfl, hm', hb⟩
        have HM := hid hm'
        simp only at HM
        obtain ⟨x2, hx2⟩ : ∃ y : Ext W1, w2 = y.1 := ⟨⟨w2, x.2.trans (hb.mono x.2.size)⟩, rfl⟩
        subst hx2
        clear hb hm'
        by_cases hq : qe = 0
        · have HM2 : Hid (m' = qm) := hid (HM.out hq)
          subst hq
          have HS2 : Hid (vv = goL (visitF f) (ps.drop (j + 1)) qm) := hid (by rw [HS.out, if_neg (fun h => h rfl)])
          clear HS HM
          go_wp2_with fail
          go_roundw
          case rel => exact ⟨j + 1, m', x2, HJ.out, by rw [HM2.out]; exact HL64.out, by go_num, rfl, rfl, hid (by rw [HM2.out]; exact HS2.out)⟩
          case measure => have := HJ.out; simp [intOf]; omega
        · have HQ := hid hq
          have HS2 : Hid (vv = (qe, qm)) := hid (by rw [HS.out, if_pos hq])
          have hqe : (qe != 0) = true := by rw [bne_iff_ne]; exact hq
          clear HS HM hq
          go_wp2_with fail
          go_ret2
          rw [HS2.out]
          exact ⟨m, rfl, fun h => absurd h HQ.out, HB.out _⟩
      · have hjj : j = ps.length := by omega
        subst hjj
        have HF : Hid (vv = (0, m)) := hid (by rw [He.out, List.drop_eq_nil_of_le (Nat.le_refl _)]; rfl)
        clear hlt hj
        go_wp2_with fail
        go_ret2
        rw [HF.out]
        exact ⟨m, rfl, fun _ => rfl, HB.out _⟩
   · have hE : (E != 0) = true := by rw [bne_iff_ne]; exact h0
     have HE : Hid (E ≠ 0 ∧ vv.1 = E) := hid (by
      rcases HV.out with h | ⟨h, _⟩
      · exact h
      · exact absurd h h0)
     clear HV h0
     go_wp2_with fail
     go_ret2
     exact ⟨n, by rw [HE.out.2]; rfl, fun h => absurd (HE.out.2.symm.trans h) HE.out.1, HB.out _⟩
theorem rCheck_any (l : Lat) (cs : List Value) (w : World) (hl : latRd w l cs) :
 Calls Tryz.prog 31 #[.agg cs.toArray] w fun e w' => e = .returned (.int .i64 (chkE l)) ∧ Below w.heap.size w w' := by
 have HW : Hid (∀ W, Below w.heap.size w W → Calls Tryz.prog 60 #[.agg cs.toArray, .int .i64 1, .int .i64 0] W (WalkPost W (visitF 6 l 0))) := hid fun W h => rWalk_any 6 1 l cs 0 W (Nat.le_refl _) (by omega) (by omega) (latRd.below h _ _ hl)
 have HBA : Hid (∀ O, Below w.heap.size w (w.alloc O)) := hid fun O => (Below.refl _ _).alloc (Nat.le_refl _) O
 have HC : Hid ((visitF 6 l 0).1 = chkE l) := hid rfl
 obtain ⟨vn, vp, vr, rfl, hx⟩ := (latRd_iff _ _ _).1 hl
 clear hl hx
 generalize visitF 6 l 0 = q at HW HC
 generalize chkE l = E at HC ⊢
 obtain ⟨qe, qm⟩ := q
 simp only at HC
 go_enter Tryz.func31, Tryz.ntmps31
 go_wp2_with fail
 refine (HW.out _ (HBA.out _)).mono ?_
 rintro e w1 ⟨m, rfl, _, hb⟩
 have HB1 := hid ((HBA.out _).trans (hb.mono (by simp)))
 clear hb
 go_wp2_with fail
 go_ret
 exact ⟨ret_int HC.out, HB1.out⟩
theorem WfL.rules {l : Lat} (h : WfL l) : RulesOk l.rules := by
 have h1 := h.spell
 have h2 := h.kinds.2.2.2.2.2.2.2.1
 unfold spellB at h1
 rw [Bool.not_eq_false', Bool.and_eq_true] at h1
 intro r hr
 have h3 := List.all_eq_true.1 h1.2 r hr
 unfold ruleB at h3
 simp only [Bool.and_eq_true] at h3
 have hs := sorted_ris h3.1.1.2
 refine ⟨hs, ?_⟩
 have hsub : r.cond ⊆ l.names := fun x hx => (hasS_iff _ _).1 (List.all_eq_true.1 h3.1.2 x hx)
 have := List.Nodup.length_le_of_subset hs.nodup hsub
 omega
theorem usedB_iff (v : Val) (n list parts entries : Bool) : usedB v n list parts entries = true ↔ ((n = true ∨ v.n = 0) ∧ (list = true ∨ v.names.length = 0) ∧ (parts = true ∨ v.parts.length = 0) ∧ (entries = true ∨ v.entries.length = 0)) := by
 unfold usedB
 simp only [Bool.and_eq_true, Bool.or_eq_true, decide_eq_true_eq, and_assoc]
theorem elem_iff_1 {l : Lat} {v : Val} (h : l.kind = 1) : elemB l v = true ↔ v.entries.length = 0 ∧ (v.n = 0 ∨ v.n = 1) ∧ v.names.length = 0 ∧ v.parts.length = 0 := by
 rw [elemB_eq, if_pos h, Bool.and_eq_true, usedB_iff, decide_eq_true_eq]
 grind
theorem elem_iff_23 {l : Lat} {v : Val} (h : l.kind = 2 ∨ l.kind = 3) : elemB l v = true ↔ v.entries.length = 0 ∧ (l.lo ≤ v.n ∧ v.n ≤ l.hi) ∧ v.names.length = 0 ∧ v.parts.length = 0 := by
 rw [elemB_eq, if_neg (by omega), if_pos h, Bool.and_eq_true, usedB_iff, decide_eq_true_eq]
 grind
theorem elem_iff_4 {l : Lat} {v : Val} (h : l.kind = 4) : elemB l v = true ↔ v.entries.length = 0 ∧ v.n = 0 ∧ v.parts.length = 0 ∧ allowedB l.names v.names = true := by
 rw [elemB_eq, if_neg (by omega), if_neg (by omega), if_pos h, Bool.and_eq_true, usedB_iff]
 grind
theorem elem_iff_10 {l : Lat} {v : Val} (h : l.kind = 10) : elemB l v = true ↔ v.entries.length = 0 ∧ v.n = 0 ∧ v.parts.length = 0 ∧ allowedB l.names v.names = true ∧ closedB l.rules v.names = true := by
 rw [elemB_eq, if_neg (by omega), if_neg (by omega), if_neg (by omega), if_pos h, Bool.and_eq_true, Bool.and_eq_true, usedB_iff]
 grind
theorem elem_iff_8 {l : Lat} {v : Val} (h : l.kind = 8) : elemB l v = true ↔ v.entries.length = 0 ∧ v.parts.length = 0 ∧ ((v.n = 0 ∨ v.n = 2) ∧ v.names.length = 0 ∨ v.n = 1 ∧ v.names.length = 1 ∧ allowedB l.names v.names = true) := by
 rw [elemB_eq, if_neg (by omega), if_neg (by omega), if_neg (by omega), if_neg (by omega), if_pos h]
 by_cases h1 : v.n = 0 ∨ v.n = 2
 · rw [if_pos h1, usedB_iff]
   grind
 · rw [if_neg h1]
   by_cases h2 : v.n = 1
   · rw [if_pos h2, Bool.and_eq_true, Bool.and_eq_true, usedB_iff, decide_eq_true_eq]
     grind
   · rw [if_neg h2]
     grind
theorem elem_iff_5 {l : Lat} {v : Val} {p : Lat} (h : l.kind = 5) (hp : l.parts = [p]) : elemB l v = (decide (v.entries.length = 0) && (decide (v.n = 0) && (decide (v.names.length = v.parts.length) && (allowedB l.names v.names && v.parts.all fun v => elemB p v && decide (valC v (botV p) ≠ 0))))) := by
  rw [elemB_eq, if_neg (by omega), if_neg (by omega), if_neg (by omega), if_neg (by omega), if_neg (by omega), if_neg (by omega), if_pos h, hp, mapB, Bool.eq_iff_iff]
  simp only [Bool.and_eq_true, usedB_iff, decide_eq_true_eq]
  grind
theorem elem_iff_67 {l : Lat} {v : Val} (h : l.kind = 6 ∨ l.kind = 7) : elemB l v = (decide (v.entries.length = 0) && (decide (v.n = 0) && (decide (v.names.length = 0) && (decide (v.parts.length = l.parts.length) && elemsB l.parts v.parts)))) := by
 rw [elemB_eq, if_neg (by omega), if_neg (by omega), if_neg (by omega), if_neg (by omega), if_neg (by omega), if_neg (by omega), if_neg (by omega), Bool.eq_iff_iff]
 simp only [Bool.and_eq_true, usedB_iff, decide_eq_true_eq]
 grind



theorem WfL.named {l : Lat} (h : WfL l) (h6 : l.kind ≠ 6) : l.names.all nameB = true ∧ sortedB l.names = true ∧ ∀ r ∈ l.rules, hasS l.names r.concl = true := by
 have h1 := h.spell
 have e6 : (l.kind == 6) = false := by simpa using h6
 unfold spellB at h1
 rw [Bool.not_eq_false', e6, nmGo_all, Bool.false_or, Bool.and_eq_true, Bool.and_eq_true] at h1
 refine ⟨h1.1.1, h1.1.2, fun r hr => ?_⟩
 have h3 := List.all_eq_true.1 h1.2 r hr
 unfold ruleB at h3
 simp only [Bool.and_eq_true] at h3
 exact h3.2
theorem allowed_self {ns : List ByteArray} (h1 : ns.all nameB = true) (h2 : sortedB ns = true) : allowedB ns ns = true := by
 unfold allowedB
 rw [h2, Bool.true_and, List.all_eq_true]
 intro s hs
 unfold memB
 rw [List.all_eq_true.1 h1 s hs, (hasS_iff ns s).2 hs, Bool.or_true]
 rfl
theorem closed_all {ns : List ByteArray} {rs : List Rl} (h : ∀ r ∈ rs, hasS ns r.concl = true) : closedB rs ns = true := by
 unfold closedB
 rw [List.all_eq_true]
 intro r hr
 rw [h r hr, Bool.or_true]
theorem trivBs_iff : ∀ ps : List Lat, trivBs ps = true ↔ ∀ p ∈ ps, trivB p = true
 | [] => by rw [trivBs]; simp
 | p :: t => by rw [trivBs, Bool.and_eq_true, trivBs_iff t]; simp
theorem topOk_iff (ps : List Lat) : topOk ps = true ↔ ∀ p ∈ ps, (topV p).2 = true := by rw [topOk_eq, List.all_eq_true]
theorem top_triv (f : Nat) : ∀ l : Lat, SizeOf.sizeOf l ≤ f → WfL l → (topV l).2 = true → (topV l).1 = botV l → trivB l = true := by
 induction f with
 | zero => intro l hn; cases l; simp at hn
 | succ f ih =>
  intro l hn hwf
  have hk := hwf.kinds
  have hpart : ∀ p ∈ l.parts, (topV p).2 = true → (topV p).1 = botV p → trivB p = true := fun p hp => ih p (by have := sizeOf_lp hp; omega) (hwf.part hp)
  obtain ⟨k, lo, hi, ns, ps, rs⟩ := l
  simp only [Lat.kind, Lat.lo, Lat.hi, Lat.names, Lat.parts, Lat.rules] at hk hpart
  have hkk : k = 1 ∨ k = 2 ∨ k = 3 ∨ k = 4 ∨ k = 5 ∨ (k = 6 ∨ k = 7) ∨ k = 8 ∨ k = 9 ∨ k = 10 := by omega
  rw [botV_eq, trivB]
  rcases hkk with rfl | rfl | rfl | rfl | rfl | h67 | rfl | rfl | rfl
  · rw [show topV (.mk 1 lo hi ns ps rs) = (.mk 1 [] [] [], true) by rw [topV]; rfl]; intro _ h; exact absurd (show (1 : Int) = 0 from congrArg Val.n h) (by decide)
  · rw [show topV (.mk 2 lo hi ns ps rs) = (.mk hi [] [] [], true) by rw [topV]; rfl]; intro _ h; exact decide_eq_true (congrArg Val.n h).symm
  · rw [show topV (.mk 3 lo hi ns ps rs) = (.mk lo [] [] [], true) by rw [topV]; rfl]; intro _ h; exact decide_eq_true (congrArg Val.n h)
  · rw [show topV (.mk 4 lo hi ns ps rs) = (.mk 0 ns [] [], decide (0 < ns.length)) by rw [topV]; rfl]; intro h1 h
    have h2 : ns = [] := congrArg Val.names h
    have h3 : 0 < ns.length := of_decide_eq_true h1
    rw [h2] at h3; exact absurd h3 (by decide)
  · obtain ⟨p, rfl⟩ := List.length_eq_one_iff.1 (hk.2.1 rfl)
    rw [show topV (.mk 5 lo hi ns [p] rs) = topMap ns [p] by rw [topV]; rfl]
    show (topMap ns [p]).2 = true → (topMap ns [p]).1 = zeroV → trivBs [p] = true
    rw [topMap]
    cases ht : trivB p
    · rw [if_neg (by decide)]
      by_cases hc : (topV p).2 = false ∨ ns.length = 0
      · rw [if_pos hc]; intro h; exact absurd h (by decide)
      · rw [if_neg hc]; intro _ h
        have h2 : ns = [] := congrArg Val.names h
        exact absurd (.inr (by rw [h2]; rfl)) hc
    · intro _ _
      exact (trivBs_iff [p]).2 (by intro q hq; rw [List.mem_singleton.1 hq]; exact ht)
  · have e : (topV (.mk k lo hi ns ps rs)) = if topOk ps then (.mk 0 [] (topVs ps) [], true) else (zeroV, false) := by rcases h67 with rfl | rfl <;> (rw [topV]; rfl)
    have e2 : (if k = 2 then Val.mk lo [] [] [] else if k = 3 then .mk hi [] [] [] else if k = 6 ∨ k = 7 then .mk 0 [] (ps.map botV) [] else zeroV) = .mk 0 [] (ps.map botV) [] := by rw [if_neg (by omega), if_neg (by omega), if_pos h67]
    have e3 : (if k = 2 ∨ k = 3 then decide (lo = hi) else if k = 5 ∨ k = 6 ∨ k = 7 then trivBs ps else false) = trivBs ps := by rw [if_neg (by omega), if_pos (.inr h67)]
    rw [e, e2, e3]
    cases ho : topOk ps
    · rw [if_neg (by decide)]; intro h; exact absurd (show false = true from h) (by decide)
    · rw [if_pos rfl, topVs_eq]
      intro _ h
      have h2 : ps.map (fun p => (topV p).1) = ps.map botV := congrArg Val.parts h
      exact (trivBs_iff ps).2 fun p hp => hpart p hp ((topOk_iff ps).1 ho p hp) (by
        have := List.map_inj_left.1 h2 p hp
        exact this)
  · rw [show topV (.mk 8 lo hi ns ps rs) = (.mk 2 [] [] [], true) by rw [topV]; rfl]; intro _ h; exact absurd (show (2 : Int) = 0 from congrArg Val.n h) (by decide)
  · rw [show topV (.mk 9 lo hi ns ps rs) = (zeroV, false) by rw [topV]; rfl]; intro h; exact absurd h (by decide)
  · rw [show topV (.mk 10 lo hi ns ps rs) = (.mk 0 ns [] [], decide (0 < ns.length)) by rw [topV]; rfl]; intro h1 h
    have h2 : ns = [] := congrArg Val.names h
    have h3 : 0 < ns.length := of_decide_eq_true h1
    rw [h2] at h3; exact absurd h3 (by decide)
theorem top_elem (f : Nat) : ∀ l : Lat, SizeOf.sizeOf l ≤ f → WfL l → (topV l).2 = true → elemB l (topV l).1 = true := by
 induction f with
 | zero => intro l hn; cases l; simp at hn
 | succ f ih =>
  intro l hn hwf
  have hk := hwf.kinds
  have hr := hwf.ranges
  have hna := hwf.named
  have hpart : ∀ p ∈ l.parts, (topV p).2 = true → elemB p (topV p).1 = true := fun p hp => ih p (by have := sizeOf_lp hp; omega) (hwf.part hp)
  have htr : ∀ p ∈ l.parts, (topV p).2 = true → (topV p).1 = botV p → trivB p = true := fun p hp => top_triv _ p (Nat.le_refl _) (hwf.part hp)
  have hlo : l.lo ≤ l.hi := by
   have := of_decide_eq_false hr
   omega
  obtain ⟨k, lo, hi, ns, ps, rs⟩ := l
  have hlo' : lo ≤ hi := hlo
  have hkk : k = 1 ∨ k = 2 ∨ k = 3 ∨ k = 4 ∨ k = 5 ∨ (k = 6 ∨ k = 7) ∨ k = 8 ∨ k = 9 ∨ k = 10 := by
   have h1 : 1 ≤ k := hk.1.1
   have h2 : k ≤ 10 := hk.1.2
   omega
  rcases hkk with rfl | rfl | rfl | rfl | rfl | h67 | rfl | rfl | rfl
  · rw [show topV (.mk 1 lo hi ns ps rs) = (.mk 1 [] [] [], true) by rw [topV]; rfl]; intro _; exact (elem_iff_1 rfl).2 ⟨rfl, .inr rfl, rfl, rfl⟩
  · rw [show topV (.mk 2 lo hi ns ps rs) = (.mk hi [] [] [], true) by rw [topV]; rfl]; intro _; exact (elem_iff_23 (.inl rfl)).2 ⟨rfl, ⟨hlo', Int.le_refl _⟩, rfl, rfl⟩
  · rw [show topV (.mk 3 lo hi ns ps rs) = (.mk lo [] [] [], true) by rw [topV]; rfl]; intro _; exact (elem_iff_23 (.inr rfl)).2 ⟨rfl, ⟨Int.le_refl _, hlo'⟩, rfl, rfl⟩
  · have hn := hna (show (4 : Int) ≠ 6 by decide)
    rw [show topV (.mk 4 lo hi ns ps rs) = (.mk 0 ns [] [], decide (0 < ns.length)) by rw [topV]; rfl]; intro _; exact (elem_iff_4 rfl).2 ⟨rfl, rfl, rfl, allowed_self hn.1 hn.2.1⟩
  · obtain ⟨p, rfl⟩ := List.length_eq_one_iff.1 (hk.2.1 rfl)
    have hn := hna (show (5 : Int) ≠ 6 by decide)
    have hE := ih
    rw [show topV (.mk 5 lo hi ns [p] rs) = topMap ns [p] by rw [topV]; rfl]
    show (topMap ns [p]).2 = true → elemB (.mk 5 lo hi ns [p] rs) (topMap ns [p]).1 = true
    rw [topMap]
    cases ht : trivB p
    · rw [if_neg (by decide)]
      by_cases hc : (topV p).2 = false ∨ ns.length = 0
      · rw [if_pos hc]; intro h; exact absurd h (by decide)
      · rw [if_neg hc]; intro _
        have h1 : (topV p).2 = true := by
         cases h : (topV p).2
         · exact absurd (.inl h) hc
         · rfl
        have h2 := hpart p (by simp [Lat.parts]) h1
        have h3 : valC (topV p).1 (botV p) ≠ 0 := fun e => by
         have := htr p (by simp [Lat.parts]) h1 ((valC_zero _ _).1 e)
         rw [ht] at this; exact absurd this (by decide)
        rw [elem_iff_5 rfl rfl]
        simp only [Val.entries, Val.n, Val.names, Val.parts, Lat.names, List.length_nil, List.length_replicate, decide_true, Bool.true_and, Bool.and_eq_true]
        refine ⟨allowed_self hn.1 hn.2.1, List.all_eq_true.2 fun v hv => ?_⟩
        rw [List.eq_of_mem_replicate hv, h2, decide_eq_true h3]
        rfl
    · intro _
      rw [if_pos rfl, elem_iff_5 rfl rfl]
      rfl
  · have e : (topV (.mk k lo hi ns ps rs)) = if topOk ps then (.mk 0 [] (topVs ps) [], true) else (zeroV, false) := by rcases h67 with rfl | rfl <;> (rw [topV]; rfl)
    rw [e]
    cases ho : topOk ps
    · rw [if_neg (by decide)]; intro h; exact absurd (show false = true from h) (by decide)
    · rw [if_pos rfl, topVs_eq]
      intro _
      rw [elem_iff_67 (show Lat.kind (.mk k lo hi ns ps rs) = 6 ∨ Lat.kind (.mk k lo hi ns ps rs) = 7 from h67)]
      have h1 : elemsB ps (ps.map fun p => (topV p).1) = true := (elemsB_iff ps _ (by rw [List.length_map])).2 fun i h h' => by
       rw [List.getElem_map]
       exact hpart _ (List.getElem_mem h) ((topOk_iff ps).1 ho _ (List.getElem_mem h))
      show (decide ([].length = 0) && (decide ((0 : Int) = 0) && (decide ([].length = 0) && (decide ((ps.map fun p => (topV p).1).length = ps.length) && elemsB ps (ps.map fun p => (topV p).1))))) = true
      rw [h1, decide_eq_true (show (ps.map fun p => (topV p).1).length = ps.length by rw [List.length_map])]
      rfl
  · rw [show topV (.mk 8 lo hi ns ps rs) = (.mk 2 [] [] [], true) by rw [topV]; rfl]; intro _; exact (elem_iff_8 rfl).2 ⟨rfl, rfl, .inl ⟨.inr rfl, rfl⟩⟩
  · rw [show topV (.mk 9 lo hi ns ps rs) = (zeroV, false) by rw [topV]; rfl]; intro h; exact absurd h (by decide)
  · have hn := hna (show (10 : Int) ≠ 6 by decide)
    rw [show topV (.mk 10 lo hi ns ps rs) = (.mk 0 ns [] [], decide (0 < ns.length)) by rw [topV]; rfl]; intro _; exact (elem_iff_10 rfl).2 ⟨rfl, rfl, rfl, allowed_self hn.1 hn.2.1, closed_all hn.2.2⟩
theorem top_valid {l : Lat} (h : chkE l = 0) (ht : (topV l).2 = true) : validB l (topV l).1 = true := by
 unfold validB
 rw [h, top_elem _ l (Nat.le_refl _) (chkE_wf h) ht]
 rfl
end Go.Proofs.YtmdjnaobllajmaaGreatDoor
