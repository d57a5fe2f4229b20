/-
  What the statements of the chapter share, part 23: VK2, VK3, PK, VE4, VX1.
-/
import Derived.Test.YtmdjnaobllajmaaGreatDoorX01
import Derived.Test.YtmdjnaobllajmaaGreatDoorX03
import Derived.Test.YtmdjnaobllajmaaGreatDoorX08
import Derived.Test.YtmdjnaobllajmaaGreatDoorX18
import Derived.Test.YtmdjnaobllajmaaGreatDoorX19
import Derived.Test.YtmdjnaobllajmaaGreatDoorX22
import Derived.Lib.Strings
set_option linter.unusedVariables false
set_option linter.unusedSimpArgs false
set_option maxRecDepth 100000
set_option maxHeartbeats 8000000
namespace Go.Proofs.YtmdjnaobllajmaaGreatDoor
open Go.RowKit
theorem rChain_any (n : Nat) : ∀ (l : Lat) (cs : List Value) (w : World), SizeOf.sizeOf l ≤ n → latRd w l cs →
 Calls Tryz.prog 148 #[.agg cs.toArray] w fun e w' => e = .returned (.bool (chainB l)) ∧ Below w.heap.size w w' := by
 induction n with
 | zero => intro l cs w hn; cases l; simp at hn
 | succ n ih =>
   intro l cs w hn hl
   obtain ⟨vn, vp, vr, rfl, hi, hns, hps, hrs⟩ := (latRd_iff _ _ _).1 hl
   obtain ⟨k, lo, hi', ns, ps, rs⟩ := l
   simp only [Lat.kind, Lat.lo, Lat.hi, Lat.names, Lat.parts, Lat.rules] at hi hns hps hrs ⊢
   obtain ⟨ap, cp, rfl, hcp, hmp⟩ := hps.shape
   have hb : Below w.heap.size w (w.alloc (.cells #[.int .i64 k, .int .i64 lo, .int .i64 hi', vn, .slice ap ps.length cp, vr] 26)) := (Below.refl _ _).alloc (Nat.le_refl _) _
   by_cases h1 : k = 1 ∨ k = 2 ∨ k = 3
   · have HC : Hid (chainB (.mk k lo hi' ns ps rs) = true) := hid (by rw [chainB_eq]; simp only [Lat.kind, h1, decide_true, Bool.true_or])
     rcases h1 with rfl | rfl | rfl
     all_goals
      go_enter Tryz.func148, Tryz.ntmps148
      go_wp2
      all_goals (go_ret; exact ⟨ret_bool HC.out.symm, hb⟩)
   · by_cases h7 : k = 7
     · subst h7
       by_cases h2 : ps.length = 2
       · obtain ⟨p, q, rfl⟩ : ∃ p q, ps = [p, q] := by
          match ps, h2 with
          | [p, q], _ => exact ⟨p, q, rfl⟩
         obtain ⟨a', cp', heq, _, _, hcell⟩ := hps
         cases heq
         obtain ⟨b, o, cs0, hab, hl0, hc0, hr0⟩ := hcell 0 (by simp)
         obtain ⟨b', o', cs1, hab', hl1, hc1, hr1⟩ := hcell 1 (by simp)
         subst hab
         cases hab'
         simp only [List.getElem_cons_zero, List.getElem_cons_succ] at hr0 hr1
         obtain ⟨n0, p0, r0, rfl, _⟩ := (latRd_iff _ _ _).1 hr0
         obtain ⟨n1, p1, r1, rfl, _⟩ := (latRd_iff _ _ _).1 hr1
         simp only [Nat.zero_mul, Nat.add_zero, Nat.one_mul] at hc0 hc1
         obtain ⟨f0, f1, f2, f3, f4, f5⟩ := hc0.six_alloc
         skip
         have HC : Hid (chainB (.mk 7 lo hi' ns [p, q] rs) = (chainB p && chainB q)) := hid (by rw [chainB_eq]; simp [Lat.kind, Lat.parts])
         have hsp : SizeOf.sizeOf p ≤ n := by have := sizeOf_part (l := .mk 7 lo hi' ns [p, q] rs) (p := p) (by simp [Lat.parts]); omega
         have hsq : SizeOf.sizeOf q ≤ n := by have := sizeOf_part (l := .mk 7 lo hi' ns [p, q] rs) (p := q) (by simp [Lat.parts]); omega
         have hb0 : ∀ {O}, Below w.heap.size w (w.alloc O) := fun {O} => (Below.refl _ _).alloc (Nat.le_refl _) O
         clear hb hl h1 h2
         go_enter Tryz.func148, Tryz.ntmps148
         go_wp2_with fail
         refine (ih p [.int .i64 p.kind, .int .i64 p.lo, .int .i64 p.hi, n0, p0, r0] _ hsp (latRd.below ((Below.refl _ _).alloc (Nat.le_refl _) _) _ _ hr0)).mono ?_
         rintro e w1 ⟨rfl, hb1⟩
         cases hcp' : chainB p
         · have HC2 : Hid (chainB (.mk 7 lo hi' ns [p, q] rs) = false) := hid (by rw [HC.out, hcp']; rfl)
           have HB1 := hid (hb0.trans (hb1.mono (by simp)))
           clear hb1
           go_wp2_with fail
           go_ret
           exact ⟨ret_bool HC2.out.symm, HB1.out⟩
         · have HC2 : Hid (chainB (.mk 7 lo hi' ns [p, q] rs) = chainB q) := hid (by rw [HC.out, hcp']; rfl)
           have HB1 := hid (hb0.trans (hb1.mono (by simp)))
           obtain ⟨g0, g1, g2, g3, g4, g5⟩ := (hc1.below HB1.out).six
           have hbox : w1.cell? ⟨w.heap.size, 4, none⟩ = some (.slice (some ⟨b, o, none⟩) 2 cp) := (hb1.cell (by simp)).trans (by rw [World.cell?_alloc_at _ _ _ _ rfl]; rfl)
           clear hb1
           go_wp2_with fail
           refine (ih q [.int .i64 q.kind, .int .i64 q.lo, .int .i64 q.hi, n1, p1, r1] _ hsq (latRd.below HB1.out _ _ hr1)).mono ?_
           rintro e w2 ⟨rfl, hb2⟩
           have HB2 := hid (HB1.out.trans (hb2.mono HB1.out.size))
           clear hb2
           go_wp2_with fail
           go_ret
           exact ⟨ret_bool HC2.out.symm, HB2.out⟩
       · have HC : Hid (chainB (.mk 7 lo hi' ns ps rs) = false) := hid (by rw [chainB_eq]; simp [Lat.kind, Lat.parts, h2])
         have e2 : ((ps.length : Int) == 2) = false := by simp; omega
         clear h2
         go_enter Tryz.func148, Tryz.ntmps148
         go_wp2
         go_ret
         exact ⟨ret_bool HC.out.symm, hb⟩
     · have HC : Hid (chainB (.mk k lo hi' ns ps rs) = false) := hid (by rw [chainB_eq]; simp only [Lat.kind, h1, h7, decide_false, Bool.false_or, Bool.false_and])
       have e1 : (k == 1) = false := by simp; omega
       have e2 : (k == 2) = false := by simp; omega
       have e3 : (k == 3) = false := by simp; omega
       have e7 : (k == 7) = false := by simp; omega
       clear h1 h7
       go_enter Tryz.func148, Tryz.ntmps148
       go_wp2
       all_goals (go_ret; exact ⟨ret_bool HC.out.symm, hb⟩)
/-! shape -/
theorem kindI_ranged {k : Int} {n : Nat} (h2 : k ≠ 2) (h3 : k ≠ 3) : kindI k n = none ∨ ∃ p a b, kindI k n = some (p, a, b, false) := by
 unfold kindI
 repeat' split
 all_goals first | exact .inl rfl | exact .inr ⟨_, _, _, rfl⟩ | omega
theorem kindI_ruled {k : Int} {n : Nat} (h10 : k ≠ 10) : kindI k n = none ∨ ∃ p a b, kindI k n = some (p, a, false, b) := by
 unfold kindI
 repeat' split
 all_goals first | exact .inl rfl | exact .inr ⟨_, _, _, rfl⟩ | omega
theorem shapeC_ranged {k lo hi : Int} {nn np nr : Nat} (h2 : k ≠ 2) (h3 : k ≠ 3) (h : lo ≠ 0 ∨ hi ≠ 0) : shapeC k lo hi nn np nr = true := by
 unfold shapeC
 rcases kindI_ranged (n := nn) h2 h3 with e | ⟨p, a, b, e⟩
 · rw [e]
 · rw [e]; simp [h]
theorem shapeC_ruled {k lo hi : Int} {nn np nr : Nat} (h10 : k ≠ 10) (h : nr ≠ 0) : shapeC k lo hi nn np nr = true := by
 unfold shapeC
 rcases kindI_ruled (n := nn) h10 with e | ⟨p, a, b, e⟩
 · rw [e]
 · rw [e]; simp [show 0 < nr by omega]
theorem shapeC_none {k lo hi : Int} {nn np nr : Nat} (h : ¬ (1 ≤ k ∧ k ≤ 10)) : shapeC k lo hi nn np nr = true := by
 have hk : kindI k nn = none := by unfold kindI; rw [if_neg (by omega), if_neg (by omega), if_neg (by omega), if_neg (by omega), if_neg (by omega), if_neg (by omega), if_neg (by omega)]
 unfold shapeC
 rw [hk]
theorem rShape_any (l : Lat) (cs : List Value) (w : World) (hl : latRd w l cs) :
 Calls Tryz.prog 146 #[.agg cs.toArray] w fun e w' => e = .returned (.bool (!shapeB l)) ∧ Below w.heap.size w w' := by
 obtain ⟨vn, vp, vr, rfl, hi, hns, hps, hrs⟩ := (latRd_iff _ _ _).1 hl
 obtain ⟨k, lo, hi', ns, ps, rs⟩ := l
 simp only [Lat.kind, Lat.lo, Lat.hi, Lat.names, Lat.parts, Lat.rules] at hi hns hps hrs ⊢
 obtain ⟨an, cn, rfl, _, hmn⟩ := hns.shape
 obtain ⟨ap, cp, rfl, _, hmp⟩ := hps.shape
 obtain ⟨ar, cr, rfl, _, hmr⟩ := hrs.shape
 rw [show shapeB (.mk k lo hi' ns ps rs) = shapeC k lo hi' ns.length ps.length rs.length from rfl]
 generalize ns.length = nn at hmn ⊢
 generalize ps.length = np at hmp ⊢
 generalize rs.length = nr at hmr ⊢
 clear hi hns hps hrs hl
 have HB : Hid (Below w.heap.size w (w.alloc (.cells #[.int .i64 k, .int .i64 lo, .int .i64 hi', .slice an nn cn, .slice ap np cp, .slice ar nr cr] 26))) := hid ((Below.refl _ _).alloc (Nat.le_refl _) _)
 by_cases h23 : k = 2 ∨ k = 3
 · by_cases hr : nr = 0
   · subst hr
     rcases h23 with rfl | rfl
     · skip
       by_cases hn0 : nn = 0
       · by_cases hp0 : np = 0
         · subst hn0; subst hp0
           have HC : Hid (shapeC 2 lo hi' 0 0 0 = false) := hid (by unfold shapeC kindI; simp <;> omega)
           go_enter Tryz.func146, Tryz.ntmps146
           go_wp2
           all_goals first
            | (exfalso; omega)
            | (go_ret; exact ⟨ret_bool (by rw [HC.out]; rfl), HB.out⟩)
         · subst hn0
           have HC : Hid (shapeC 2 lo hi' 0 np 0 = true) := hid (by unfold shapeC kindI; simp <;> omega)
           have q1 : ((np : Int) == 0) = false := by rw [beq_eq_false_iff_ne]; omega
           clear hp0
           go_enter Tryz.func146, Tryz.ntmps146
           go_wp2
           all_goals first
            | (exfalso; omega)
            | (go_ret; exact ⟨ret_bool (by rw [HC.out]; rfl), HB.out⟩)
       · have HC : Hid (shapeC 2 lo hi' nn np 0 = true) := hid (by unfold shapeC kindI; simp <;> omega)
         have q1 : ((nn : Int) == 0) = false := by rw [beq_eq_false_iff_ne]; omega
         clear hn0
         go_enter Tryz.func146, Tryz.ntmps146
         go_wp2
         all_goals first
          | (exfalso; omega)
          | (go_ret; exact ⟨ret_bool (by rw [HC.out]; rfl), HB.out⟩)
     · skip
       by_cases hn0 : nn = 0
       · by_cases hp0 : np = 0
         · subst hn0; subst hp0
           have HC : Hid (shapeC 3 lo hi' 0 0 0 = false) := hid (by unfold shapeC kindI; simp <;> omega)
           go_enter Tryz.func146, Tryz.ntmps146
           go_wp2
           all_goals first
            | (exfalso; omega)
            | (go_ret; exact ⟨ret_bool (by rw [HC.out]; rfl), HB.out⟩)
         · subst hn0
           have HC : Hid (shapeC 3 lo hi' 0 np 0 = true) := hid (by unfold shapeC kindI; simp <;> omega)
           have q1 : ((np : Int) == 0) = false := by rw [beq_eq_false_iff_ne]; omega
           clear hp0
           go_enter Tryz.func146, Tryz.ntmps146
           go_wp2
           all_goals first
            | (exfalso; omega)
            | (go_ret; exact ⟨ret_bool (by rw [HC.out]; rfl), HB.out⟩)
       · have HC : Hid (shapeC 3 lo hi' nn np 0 = true) := hid (by unfold shapeC kindI; simp <;> omega)
         have q1 : ((nn : Int) == 0) = false := by rw [beq_eq_false_iff_ne]; omega
         clear hn0
         go_enter Tryz.func146, Tryz.ntmps146
         go_wp2
         all_goals first
          | (exfalso; omega)
          | (go_ret; exact ⟨ret_bool (by rw [HC.out]; rfl), HB.out⟩)
   · rcases h23 with rfl | rfl
     · have HC : Hid (shapeC 2 lo hi' nn np nr = true) := hid (by unfold shapeC kindI; simp <;> omega)
       have q0 : ((nr : Int) != 0) = true := by rw [bne_iff_ne]; omega
       clear hr
       go_enter Tryz.func146, Tryz.ntmps146
       go_wp2
       all_goals first
        | (exfalso; omega)
        | (go_ret; exact ⟨ret_bool (by rw [HC.out]; rfl), HB.out⟩)
     · have HC : Hid (shapeC 3 lo hi' nn np nr = true) := hid (by unfold shapeC kindI; simp <;> omega)
       have q0 : ((nr : Int) != 0) = true := by rw [bne_iff_ne]; omega
       clear hr
       go_enter Tryz.func146, Tryz.ntmps146
       go_wp2
       all_goals first
        | (exfalso; omega)
        | (go_ret; exact ⟨ret_bool (by rw [HC.out]; rfl), HB.out⟩)
 have hk2 : (k == 2) = false := by rw [beq_eq_false_iff_ne]; omega
 have hk3 : (k == 3) = false := by rw [beq_eq_false_iff_ne]; omega
 by_cases hlo : lo = 0
 · subst hlo
   by_cases hhi : hi' = 0
   · subst hhi
     by_cases h10 : k = 10
     · subst h10
       clear hk2 hk3 h23
       by_cases hn0 : nn = 0
       · subst hn0
         have HC : Hid (shapeC 10 0 0 0 np nr = true) := hid (by unfold shapeC kindI; simp <;> omega)
         go_enter Tryz.func146, Tryz.ntmps146
         go_wp2
         all_goals first
          | (exfalso; omega)
          | (go_ret; exact ⟨ret_bool (by rw [HC.out]; rfl), HB.out⟩)
       · have q1 : (0 : Int) < (nn : Int) := by omega
         by_cases hp0 : np = 0
         · subst hp0
           have HC : Hid (shapeC 10 0 0 nn 0 nr = false) := hid (by unfold shapeC kindI; simp <;> omega)
           clear hn0
           go_enter Tryz.func146, Tryz.ntmps146
           go_wp2
           all_goals first
            | (exfalso; omega)
            | (go_ret; exact ⟨ret_bool (by rw [HC.out]; rfl), HB.out⟩)
         · have HC : Hid (shapeC 10 0 0 nn np nr = true) := hid (by unfold shapeC kindI; simp <;> omega)
           have q2 : ((np : Int) == 0) = false := by rw [beq_eq_false_iff_ne]; omega
           clear hn0 hp0
           go_enter Tryz.func146, Tryz.ntmps146
           go_wp2
           all_goals first
            | (exfalso; omega)
            | (go_ret; exact ⟨ret_bool (by rw [HC.out]; rfl), HB.out⟩)
     · have hk10 : (k != 10) = true := by rw [bne_iff_ne]; exact h10
       by_cases hr : nr = 0
       · subst hr
         clear hk10
         by_cases hk : k = 1 ∨ k = 4 ∨ k = 5 ∨ k = 6 ∨ k = 7 ∨ k = 8 ∨ k = 9
         · clear hk2 hk3 h23 h10
           rcases hk with rfl | rfl | rfl | rfl | rfl | rfl | rfl
           · skip
             by_cases hn0 : nn = 0
             · by_cases hp0 : np = 0
               · subst hn0; subst hp0
                 have HC : Hid (shapeC 1 0 0 0 0 0 = false) := hid (by unfold shapeC kindI; simp <;> omega)
                 go_enter Tryz.func146, Tryz.ntmps146
                 go_wp2
                 all_goals first
                  | (exfalso; omega)
                  | (go_ret; exact ⟨ret_bool (by rw [HC.out]; rfl), HB.out⟩)
               · subst hn0
                 have HC : Hid (shapeC 1 0 0 0 np 0 = true) := hid (by unfold shapeC kindI; simp <;> omega)
                 have q1 : ((np : Int) == 0) = false := by rw [beq_eq_false_iff_ne]; omega
                 clear hp0
                 go_enter Tryz.func146, Tryz.ntmps146
                 go_wp2
                 all_goals first
                  | (exfalso; omega)
                  | (go_ret; exact ⟨ret_bool (by rw [HC.out]; rfl), HB.out⟩)
             · have HC : Hid (shapeC 1 0 0 nn np 0 = true) := hid (by unfold shapeC kindI; simp <;> omega)
               have q1 : ((nn : Int) == 0) = false := by rw [beq_eq_false_iff_ne]; omega
               clear hn0
               go_enter Tryz.func146, Tryz.ntmps146
               go_wp2
               all_goals first
                | (exfalso; omega)
                | (go_ret; exact ⟨ret_bool (by rw [HC.out]; rfl), HB.out⟩)
           · skip
             by_cases hp0 : np = 0
             · subst hp0
               have HC : Hid (shapeC 4 0 0 nn 0 0 = false) := hid (by unfold shapeC kindI; simp <;> omega)
               go_enter Tryz.func146, Tryz.ntmps146
               go_wp2
               all_goals first
                | (exfalso; omega)
                | (go_ret; exact ⟨ret_bool (by rw [HC.out]; rfl), HB.out⟩)
             · have HC : Hid (shapeC 4 0 0 nn np 0 = true) := hid (by unfold shapeC kindI; simp <;> omega)
               have q1 : ((np : Int) == 0) = false := by rw [beq_eq_false_iff_ne]; omega
               clear hp0
               go_enter Tryz.func146, Tryz.ntmps146
               go_wp2
               all_goals first
                | (exfalso; omega)
                | (go_ret; exact ⟨ret_bool (by rw [HC.out]; rfl), HB.out⟩)
           · skip
             by_cases hp0 : np = 1
             · subst hp0
               have HC : Hid (shapeC 5 0 0 nn 1 0 = false) := hid (by unfold shapeC kindI; simp <;> omega)
               go_enter Tryz.func146, Tryz.ntmps146
               go_wp2
               all_goals first
                | (exfalso; omega)
                | (go_ret; exact ⟨ret_bool (by rw [HC.out]; rfl), HB.out⟩)
             · have HC : Hid (shapeC 5 0 0 nn np 0 = true) := hid (by unfold shapeC kindI; simp <;> omega)
               have q1 : ((np : Int) == 1) = false := by rw [beq_eq_false_iff_ne]; omega
               clear hp0
               go_enter Tryz.func146, Tryz.ntmps146
               go_wp2
               all_goals first
                | (exfalso; omega)
                | (go_ret; exact ⟨ret_bool (by rw [HC.out]; rfl), HB.out⟩)
           · skip
             by_cases hn0 : nn = 0
             · subst hn0
               have HC : Hid (shapeC 6 0 0 0 np 0 = true) := hid (by unfold shapeC kindI; simp <;> omega)
               go_enter Tryz.func146, Tryz.ntmps146
               go_wp2
               all_goals first
                | (exfalso; omega)
                | (go_ret; exact ⟨ret_bool (by rw [HC.out]; rfl), HB.out⟩)
             · have q1 : (0 : Int) < (nn : Int) := by omega
               by_cases hp0 : nn = np
               · subst hp0
                 have HC : Hid (shapeC 6 0 0 nn nn 0 = false) := hid (by unfold shapeC kindI; simp <;> omega)
                 clear hn0
                 go_enter Tryz.func146, Tryz.ntmps146
                 go_wp2
                 all_goals first
                  | (exfalso; omega)
                  | (go_ret; exact ⟨ret_bool (by rw [HC.out]; rfl), HB.out⟩)
               · have HC : Hid (shapeC 6 0 0 nn np 0 = true) := hid (by unfold shapeC kindI; simp <;> omega)
                 have q2 : ((nn : Int) == (np : Int)) = false := by rw [beq_eq_false_iff_ne]; omega
                 clear hn0 hp0
                 go_enter Tryz.func146, Tryz.ntmps146
                 go_wp2
                 all_goals first
                  | (exfalso; omega)
                  | (go_ret; exact ⟨ret_bool (by rw [HC.out]; rfl), HB.out⟩)
           · skip
             by_cases hn0 : nn = 0
             · by_cases hp0 : np = 2
               · subst hn0; subst hp0
                 have HC : Hid (shapeC 7 0 0 0 2 0 = false) := hid (by unfold shapeC kindI; simp <;> omega)
                 go_enter Tryz.func146, Tryz.ntmps146
                 go_wp2
                 all_goals first
                  | (exfalso; omega)
                  | (go_ret; exact ⟨ret_bool (by rw [HC.out]; rfl), HB.out⟩)
               · subst hn0
                 have HC : Hid (shapeC 7 0 0 0 np 0 = true) := hid (by unfold shapeC kindI; simp <;> omega)
                 have q1 : ((np : Int) == 2) = false := by rw [beq_eq_false_iff_ne]; omega
                 clear hp0
                 go_enter Tryz.func146, Tryz.ntmps146
                 go_wp2
                 all_goals first
                  | (exfalso; omega)
                  | (go_ret; exact ⟨ret_bool (by rw [HC.out]; rfl), HB.out⟩)
             · have HC : Hid (shapeC 7 0 0 nn np 0 = true) := hid (by unfold shapeC kindI; simp <;> omega)
               have q1 : ((nn : Int) == 0) = false := by rw [beq_eq_false_iff_ne]; omega
               clear hn0
               go_enter Tryz.func146, Tryz.ntmps146
               go_wp2
               all_goals first
                | (exfalso; omega)
                | (go_ret; exact ⟨ret_bool (by rw [HC.out]; rfl), HB.out⟩)
           · skip
             by_cases hp0 : np = 0
             · subst hp0
               have HC : Hid (shapeC 8 0 0 nn 0 0 = false) := hid (by unfold shapeC kindI; simp <;> omega)
               go_enter Tryz.func146, Tryz.ntmps146
               go_wp2
               all_goals first
                | (exfalso; omega)
                | (go_ret; exact ⟨ret_bool (by rw [HC.out]; rfl), HB.out⟩)
             · have HC : Hid (shapeC 8 0 0 nn np 0 = true) := hid (by unfold shapeC kindI; simp <;> omega)
               have q1 : ((np : Int) == 0) = false := by rw [beq_eq_false_iff_ne]; omega
               clear hp0
               go_enter Tryz.func146, Tryz.ntmps146
               go_wp2
               all_goals first
                | (exfalso; omega)
                | (go_ret; exact ⟨ret_bool (by rw [HC.out]; rfl), HB.out⟩)
           · skip
             by_cases hn0 : nn = 0
             · by_cases hp0 : np = 0
               · subst hn0; subst hp0
                 have HC : Hid (shapeC 9 0 0 0 0 0 = false) := hid (by unfold shapeC kindI; simp <;> omega)
                 go_enter Tryz.func146, Tryz.ntmps146
                 go_wp2
                 all_goals first
                  | (exfalso; omega)
                  | (go_ret; exact ⟨ret_bool (by rw [HC.out]; rfl), HB.out⟩)
               · subst hn0
                 have HC : Hid (shapeC 9 0 0 0 np 0 = true) := hid (by unfold shapeC kindI; simp <;> omega)
                 have q1 : ((np : Int) == 0) = false := by rw [beq_eq_false_iff_ne]; omega
                 clear hp0
                 go_enter Tryz.func146, Tryz.ntmps146
                 go_wp2
                 all_goals first
                  | (exfalso; omega)
                  | (go_ret; exact ⟨ret_bool (by rw [HC.out]; rfl), HB.out⟩)
             · have HC : Hid (shapeC 9 0 0 nn np 0 = true) := hid (by unfold shapeC kindI; simp <;> omega)
               have q1 : ((nn : Int) == 0) = false := by rw [beq_eq_false_iff_ne]; omega
               clear hn0
               go_enter Tryz.func146, Tryz.ntmps146
               go_wp2
               all_goals first
                | (exfalso; omega)
                | (go_ret; exact ⟨ret_bool (by rw [HC.out]; rfl), HB.out⟩)
         · have HC : Hid (shapeC k 0 0 nn np 0 = true) := hid (shapeC_none (by omega))
           have e1 : ((k : Int) == 1) = false := by rw [beq_eq_false_iff_ne]; omega
           have e4 : ((k : Int) == 4) = false := by rw [beq_eq_false_iff_ne]; omega
           have e5 : ((k : Int) == 5) = false := by rw [beq_eq_false_iff_ne]; omega
           have e6 : ((k : Int) == 6) = false := by rw [beq_eq_false_iff_ne]; omega
           have e7 : ((k : Int) == 7) = false := by rw [beq_eq_false_iff_ne]; omega
           have e8 : ((k : Int) == 8) = false := by rw [beq_eq_false_iff_ne]; omega
           have e9 : ((k : Int) == 9) = false := by rw [beq_eq_false_iff_ne]; omega
           have e10 : ((k : Int) == 10) = false := by rw [beq_eq_false_iff_ne]; omega
           have e10n : ((k : Int) != 10) = true := by rw [bne_iff_ne]; omega
           clear hk h10 h23
           go_enter Tryz.func146, Tryz.ntmps146
           go_wp2
           all_goals first
            | (exfalso; omega)
            | (go_ret; exact ⟨ret_bool (by rw [HC.out]; rfl), HB.out⟩)
       · have HC : Hid (shapeC k 0 0 nn np nr = true) := hid (shapeC_ruled h10 hr)
         have q0 : ((nr : Int) != 0) = true := by rw [bne_iff_ne]; omega
         clear hr h10 h23
         go_enter Tryz.func146, Tryz.ntmps146
         go_wp2
         all_goals first
          | (exfalso; omega)
          | (go_ret; exact ⟨ret_bool (by rw [HC.out]; rfl), HB.out⟩)
   · have HC : Hid (shapeC k 0 hi' nn np nr = true) := hid (shapeC_ranged (by omega) (by omega) (.inr hhi))
     have q0 : ((hi' : Int) != 0) = true := by rw [bne_iff_ne]; omega
     clear hhi h23
     go_enter Tryz.func146, Tryz.ntmps146
     go_wp2
     all_goals first
      | (exfalso; omega)
      | (go_ret; exact ⟨ret_bool (by rw [HC.out]; rfl), HB.out⟩)
 · have HC : Hid (shapeC k lo hi' nn np nr = true) := hid (shapeC_ranged (by omega) (by omega) (.inl hlo))
   have q0 : ((lo : Int) != 0) = true := by rw [bne_iff_ne]; omega
   clear hlo h23
   go_enter Tryz.func146, Tryz.ntmps146
   go_wp2
   all_goals first
    | (exfalso; omega)
    | (go_ret; exact ⟨ret_bool (by rw [HC.out]; rfl), HB.out⟩)
def ruleR (ns : List ByteArray) (r : Rl) : Bool := decide (r.cond.length ≠ 0) && (risingB r.cond && (hasS ns r.concl && r.cond.all (hasS ns)))
def namedR (k : Int) (ns : List ByteArray) (rs : List Rl) : Bool := if k = 6 then nmGo true ns 0 ns else risingB ns && rs.all (ruleR ns)
theorem wp_region_extx {P : Program} {id : Nat} {Q : Exit → Act → World → Prop} {a : Act} {W : World} {l : List Oper} (x : Ext W) (hm : P.follows .mixedOrders = true) (hB : Region.lexB .any l.toArray = true)
 (h : wpQuiet P l.toArray (fun w' => ∃ y : Ext W, w' = y.1) (fun a' => ∀ w', (∃ y : Ext W, w' = y.1) → Q .normal a' w') l a) : (Code.region id l.toArray true).wp P Q a x.1 :=
 wp_region_quiet (C := fun w' => ∃ y : Ext W, w' = y.1) hm hB ⟨⟨_, x.2.drew⟩, rfl⟩ (by simpa using h)
theorem run_slice_toS (W : World) (a : Option Addr) (len cap k : Nat) (hk : k ≤ cap) : (Instr.slice 22 (.slice a len cap) none (some (.int .i64 (k : Int))) none).run Tryz.prog W = .ok (.slice a k cap) W := by
 have ht' : Tryz.prog.underlying 22 = some (.slice (Tryz.prog.elem 22)) := by simp [Program.elem, Tryz.underlying22]
 have he : Tryz.prog.elem 22 = 9 := by simp [Program.elem, Tryz.underlying22]
 have hz : (Go.sizeOf 9).run Tryz.prog W = .ok 1 W := by kernel_rfl
 rw [run_slice_h W 22 a _ _ ht' .i64 _ (by omega) (by omega), he, hz]
 cases a <;> simp [Result.andThen, sliced, Addr.add]
theorem ruleEl {w : World} {a : Option Addr} {n cap : Nat} {l : List Rl} (h : SlRd w 2 (ruleRd w) (.slice a n cap) l) (i : Nat) (hi : i < l.length) :
 ∃ r b o ea ec, l[i]? = some r ∧ r ∈ l ∧ l.drop i = r :: l.drop (i + 1) ∧ l.take (i + 1) = l.take i ++ [r] ∧ a = some ⟨b, o, none⟩ ∧ Strs w (.slice ea r.cond.length ec) r.cond ∧ r.concl.size ≤ maxLen ∧ CellsAt w b (o + i * 2) [.slice ea r.cond.length ec, .string r.concl] := by
 obtain ⟨b, o, cs, h1, _, hc, v, rfl, hk, hn⟩ := h.at i hi
 obtain ⟨ea, ec, rfl, _, _⟩ := hk.shape
 exact ⟨l[i], b, o, ea, ec, List.getElem?_eq_getElem hi, List.getElem_mem hi, drop_at l i hi, take_at l i hi, h1, hk, hn, hc⟩
theorem rNamed_any (l : Lat) (cs : List Value) (w : World) (hl : latRd w l cs) :
 Calls Tryz.prog 147 #[.agg cs.toArray] w fun e w' => e = .returned (.bool (namedR l.kind l.names l.rules)) ∧ Below w.heap.size w w' := by
 obtain ⟨vn, vp, vr, rfl, hi, hns, hps, hrs⟩ := (latRd_iff _ _ _).1 hl
 obtain ⟨k, lo, hi', ns, ps, rs⟩ := l
 simp only [Lat.kind, Lat.lo, Lat.hi, Lat.names, Lat.parts, Lat.rules] at hi hns hps hrs ⊢
 obtain ⟨an, cn, rfl, hln, hmn⟩ := hns.shape
 obtain ⟨ap, cp, rfl, _, _⟩ := hps.shape
 obtain ⟨ar, cr, rfl, hlr, hmr⟩ := hrs.shape
 have HN := hid hns
 have HR := hid hrs
 have HLN := hid hln
 have HS : Hid (namedR k ns rs = if k = 6 then nmGo true ns 0 ns else risingB ns && rs.all (ruleR ns)) := hid rfl
 generalize namedR k ns rs = R at HS ⊢
 have HB : Hid (∀ x : Ext (w.alloc (.cells #[.int .i64 k, .int .i64 lo, .int .i64 hi', .slice an ns.length cn, .slice ap ps.length cp, .slice ar rs.length cr] 26)), Below w.heap.size w x.1) := hid fun x => ((Below.refl _ _).alloc (Nat.le_refl _) _).trans (x.2.mono (by simp))
 have HX : Hid (∀ (x : Ext (w.alloc (.cells #[.int .i64 k, .int .i64 lo, .int .i64 hi', .slice an ns.length cn, .slice ap ps.length cp, .slice ar rs.length cr] 26))) (i : Nat) q, #[Value.int .i64 k, .int .i64 lo, .int .i64 hi', .slice an ns.length cn, .slice ap ps.length cp, .slice ar rs.length cr][i]? = some q → x.1.cell? ⟨w.heap.size, i, none⟩ = some q) := hid fun x i q hq => x.cell (by rw [World.cell?_alloc_at _ _ _ _ rfl]; exact hq)
 clear hl hi hns hps hrs hln hlr
 by_cases hk6 : k = 6
 · have HS1 : Hid (R = nmGo true ns 0 (ns.drop 0)) := hid (by rw [HS.out, if_pos hk6]; rfl)
   subst hk6
   clear HS HR
   go_enter Tryz.func147, Tryz.ntmps147
   go_wp2_with fail
   generalize w.alloc (.cells #[.int .i64 6, .int .i64 lo, .int .i64 hi', .slice an ns.length cn, .slice ap ps.length cp, .slice ar rs.length cr] 26) = W1 at HB HX ⊢
   obtain ⟨x0, hx⟩ := ext_self W1
   rw [hx]
   clear hx
   have l3 : ∀ x : Ext W1, x.1.cell? ⟨w.heap.size, 3, none⟩ = some (.slice an ns.length cn) := fun x => HX.out x 3 _ rfl
   go_loopw [3] (fun i wr => ∃ (j : Nat) (x : Ext W1), j ≤ ns.length ∧ i = .int .i64 j ∧ wr = x.1 ∧ Hid (R = nmGo true ns j (ns.drop j))) (fun i _ => ns.length - (intOf i).toNat)
   case atStart => exact ⟨0, x0, Nat.zero_le _, rfl, rfl, HS1⟩
   case round =>
    obtain ⟨j, x, hj, rfl, rfl, He⟩ := hrel
    by_cases hlt : j < ns.length
    · obtain ⟨nm, b, o, _, _, hnd, _, rfl, hcell, hsz⟩ := strEl HN.out j hlt
      have HSZ := hid hsz
      have HCL := hid hcell
      have hc0 : ∀ y : Ext W1, y.1.cell? ⟨b, o + j, none⟩ = some (.string nm) := fun y => ((HB.out y).cell (World.block_lt_of_cell? w _ HCL.out)).trans HCL.out
      have HD : Hid (R = (nameB nm && !(hasS (ns.take j) nm) && nmGo true ns (j + 1) (ns.drop (j + 1)))) := hid (by rw [He.out, hnd, nmGo, Bool.true_and])
      have hsl := fun W => run_slice_toS W (some ⟨b, o, none⟩) ns.length cn j (by have := HLN.out; omega)
      have HNM : Hid (∀ y : Ext W1, Calls Tryz.prog 166 #[.string nm] y.1 fun e w' => e = .returned (.bool (nameB nm)) ∧ ∃ z : Ext W1, w' = z.1) := hid fun y => ext_same y (rName_any _ _ HSZ.out)
      have HIN : Hid (∀ y : Ext W1, Calls Tryz.prog 167 #[.slice (some ⟨b, o, none⟩) j cn, .string nm] y.1 fun e w' => e = .returned (.bool (hasS (ns.take j) nm)) ∧ ∃ z : Ext W1, w' = z.1) := hid fun y => ext_same y (rIn_any _ _ _ _ ((HN.out.below (HB.out y)).take j hj))
      have HJ : Hid (j + 1 ≤ ns.length) := hid hlt
      have hi1 : (j : Int) < (ns.length : Int) := by omega
      clear He hcell hsz hnd
      cases hc : nameB nm
      · have HC := hid hc
        rw [hc] at HNM
        clear hc
        go_wp2_with fail
        refine wp_region_extx _ (by kernel_rfl) (by kernel_rfl) ?_
        repeat (go_big_quiet_step (with_reducible first | exact HNM.out _ | exact HIN.out _))
        refine wpQuiet_nil ?_
        rintro _ ⟨z, rfl⟩
        go_wp2_with fail
        go_ret
        exact ⟨ret_bool (by rw [HD.out, HC.out]; rfl), HB.out _⟩
      · have HC := hid hc
        rw [hc] at HNM
        clear hc
        cases hs : hasS (ns.take j) nm
        · have HS := hid hs
          rw [hs] at HIN
          clear hs
          go_wp2_with fail
          refine wp_region_extx _ (by kernel_rfl) (by kernel_rfl) ?_
          repeat (go_big_quiet_step (with_reducible first | exact HNM.out _ | exact HIN.out _))
          refine wpQuiet_nil ?_
          rintro _ ⟨z, rfl⟩
          go_wp2_with fail
          go_roundw
          case rel => exact ⟨j + 1, z, HJ.out, by go_num, rfl, hid (by rw [HD.out, HC.out, HS.out]; rfl)⟩
          case measure => have := HJ.out; simp [intOf]; omega
        · have HS := hid hs
          rw [hs] at HIN
          clear hs
          go_wp2_with fail
          refine wp_region_extx _ (by kernel_rfl) (by kernel_rfl) ?_
          repeat (go_big_quiet_step (with_reducible first | exact HNM.out _ | exact HIN.out _))
          refine wpQuiet_nil ?_
          rintro _ ⟨z, rfl⟩
          go_wp2_with fail
          go_ret
          exact ⟨ret_bool (by rw [HD.out, HC.out, HS.out]; rfl), HB.out _⟩
    · have hjj : j = ns.length := by omega
      subst hjj
      have HF : Hid (R = true) := hid (by rw [He.out, List.drop_eq_nil_of_le (Nat.le_refl _)]; rfl)
      clear hlt hj
      go_wp2_with fail
      go_ret
      exact ⟨ret_bool HF.out.symm, HB.out _⟩
 · have HS1 : Hid (R = (risingB ns && (rs.drop 0).all (ruleR ns))) := hid (by rw [HS.out, if_neg hk6]; rfl)
   have hkb : (k == 6) = false := by rw [beq_eq_false_iff_ne]; exact hk6
   clear HS hk6
   go_enter Tryz.func147, Tryz.ntmps147
   go_wp2_with fail
   generalize w.alloc (.cells #[.int .i64 k, .int .i64 lo, .int .i64 hi', .slice an ns.length cn, .slice ap ps.length cp, .slice ar rs.length cr] 26) = W1 at HB HX ⊢
   obtain ⟨x0, hx⟩ := ext_self W1
   rw [hx]
   clear hx hkb
   obtain ⟨-, -, -, l3, -, l5⟩ := bx6 fun x : Ext W1 => HX.out x
   go_wp2_with fail
   refine (ext_call x0 ((rRising_any _ ns x0.1 (HN.out.below (HB.out _))).mono fun e w' h => ⟨h.1, by obtain ⟨n, rfl⟩ := h.2; exact below_drewN' (Below.refl _ _) n⟩)).mono ?_
   rintro e _ ⟨rfl, x1, rfl⟩
   clear x0
   cases hri : risingB ns
   · have HF : Hid (R = false) := hid (by rw [HS1.out, hri]; rfl)
     clear hri
     go_wp2_with fail
     go_ret
     exact ⟨ret_bool HF.out.symm, HB.out _⟩
   · have HS2 : Hid (R = (rs.drop 0).all (ruleR ns)) := hid (by rw [HS1.out, hri]; rfl)
     clear hri HS1
     go_wp2_with fail
     go_loopw [4] (fun i wr => ∃ (j : Nat) (x : Ext W1), j ≤ rs.length ∧ i = .int .i64 j ∧ wr = x.1 ∧ Hid (R = (rs.drop j).all (ruleR ns))) (fun i _ => rs.length - (intOf i).toNat)
     case atStart => exact ⟨0, x1, Nat.zero_le _, rfl, rfl, HS2⟩
     case round =>
      obtain ⟨j, x, hj, rfl, rfl, He⟩ := hrel
      by_cases hlt : j < rs.length
      · obtain ⟨r, b, o, ac, cc, _, _, hrd, _, rfl, hcd, hcl, hca⟩ := ruleEl HR.out j hlt
        obtain ⟨L, hL⟩ : ∃ L, L = r.cond.length := ⟨_, rfl⟩
        have HLL := hid hL
        have hLm : L ≤ 9223372036854775807 := by obtain ⟨_, _, _, _, h⟩ := hcd.shape; omega
        rw [← hL] at hcd hca
        clear hL
        have HCD := hid hcd
        have HCL := hid hcl
        have HCA := hid hca
        obtain ⟨hd0, hd1⟩ := cx2 fun y : Ext W1 => HCA.out.below (HB.out y)
        have HD : Hid (R = (ruleR ns r && (rs.drop (j + 1)).all (ruleR ns))) := hid (by rw [He.out, hrd, List.all_cons])
        have HJ : Hid (j + 1 ≤ rs.length) := hid hlt
        have hi1 : (j : Int) < (rs.length : Int) := by omega
        clear He hca hcd hcl hrd
        have HUP : Hid (∀ z : Ext (x.1.alloc (.cells #[.slice ac L cc, .string r.concl] 131)), ∃ y : Ext W1, z.1 = y.1) := hid fun z => ⟨⟨z.1, (x.2.alloc x.2.size _).trans (z.2.mono (by have := x.2.size; simp; omega))⟩, rfl⟩
        have HXC : Hid (∀ (z : Ext (x.1.alloc (.cells #[.slice ac L cc, .string r.concl] 131))) (i : Nat) q, #[Value.slice ac L cc, .string r.concl][i]? = some q → z.1.cell? ⟨x.1.heap.size, i, none⟩ = some q) := hid fun z i q hq => z.cell (by rw [World.cell?_alloc_at _ _ _ _ rfl]; exact hq)
        have HRU : Hid (ruleR ns r = (decide (r.cond.length ≠ 0) && (risingB r.cond && (hasS ns r.concl && (r.cond.drop 0).all (hasS ns))))) := hid rfl
        by_cases h0 : L = 0
        · have HF : Hid (R = false) := hid (by rw [HD.out, HRU.out, ← HLL.out, h0]; rfl)
          have hz0 : ((L : Int) == 0) = true := by rw [h0]; rfl
          clear h0
          have HBA : Hid (∀ O, Below w.heap.size w (x.1.alloc O)) := hid fun O => (HB.out x).alloc (HB.out x).size O
          clear HUP HXC
          go_wp2_with fail
          go_ret
          exact ⟨ret_bool HF.out.symm, HBA.out _⟩
        · have hz0 : ((L : Int) == 0) = false := by rw [beq_eq_false_iff_ne]; omega
          have H0 : Hid (decide (r.cond.length ≠ 0) = true) := hid (decide_eq_true (by rw [← HLL.out]; exact h0))
          clear h0
          go_wp2_with fail
          generalize x.1.alloc (.cells #[.slice ac L cc, .string r.concl] 131) = W2 at HUP HXC ⊢
          obtain ⟨z0, hz⟩ := ext_self W2
          rw [hz]
          clear hz hd0 hd1
          generalize x.1.heap.size = N2 at HXC ⊢
          have HBZ : Hid (∀ z : Ext W2, Below w.heap.size w z.1) := hid fun z => by obtain ⟨y, hy⟩ := HUP.out z; rw [hy]; exact HB.out y
          have m3 : ∀ z : Ext W2, z.1.cell? ⟨w.heap.size, 3, none⟩ = some (.slice an ns.length cn) := fun z => by obtain ⟨y, hy⟩ := HUP.out z; rw [hy]; exact HX.out y 3 _ rfl
          obtain ⟨k0, k1⟩ := bx2 fun z : Ext W2 => HXC.out z
          have HCR : Hid (∀ z : Ext W2, Calls Tryz.prog 168 #[.slice ac L cc] z.1 fun e w' => e = .returned (.bool (risingB r.cond)) ∧ ∃ y : Ext W2, w' = y.1) := hid fun z => ext_call z ((rRising_any _ _ z.1 (HCD.out.below (HBZ.out _))).mono fun e w' h => ⟨h.1, by obtain ⟨n, rfl⟩ := h.2; exact below_drewN' (Below.refl _ _) n⟩)
          have HCI : Hid (∀ z : Ext W2, Calls Tryz.prog 167 #[.slice an ns.length cn, .string r.concl] z.1 fun e w' => e = .returned (.bool (hasS ns r.concl)) ∧ ∃ y : Ext W2, w' = y.1) := hid fun z => ext_same z (rIn_any _ _ _ _ (HN.out.below (HBZ.out z)))
          clear l3 l5
          refine (HCR.out _).mono ?_
          rintro e _ ⟨rfl, z1, rfl⟩
          cases hri : risingB r.cond
          · have HF : Hid (R = false) := hid (by rw [HD.out, HRU.out, hri, Bool.false_and, Bool.and_false]; rfl)
            clear hri
            go_wp2_with fail
            go_ret
            exact ⟨ret_bool HF.out.symm, HBZ.out _⟩
          · have HRI := hid hri
            clear hri
            go_wp2_with fail
            refine (HCI.out _).mono ?_
            rintro e _ ⟨rfl, z2, rfl⟩
            cases hcc : hasS ns r.concl
            · have HF : Hid (R = false) := hid (by rw [HD.out, HRU.out, hcc, Bool.false_and, Bool.and_false, Bool.and_false]; rfl)
              clear hcc
              go_wp2_with fail
              go_ret
              exact ⟨ret_bool HF.out.symm, HBZ.out _⟩
            · have HRJ : Hid (R = ((r.cond.drop 0).all (hasS ns) && (rs.drop (j + 1)).all (ruleR ns))) := hid (by rw [HD.out, HRU.out, H0.out, HRI.out, hcc]; rfl)
              clear hcc hz0
              go_wp2_with fail
              go_loopw [6] (fun i wr => ∃ (m : Nat) (z : Ext W2), m ≤ L ∧ i = .int .i64 m ∧ wr = z.1 ∧ Hid (R = ((r.cond.drop m).all (hasS ns) && (rs.drop (j + 1)).all (ruleR ns)))) (fun i _ => L - (intOf i).toNat)
              case atStart => exact ⟨0, z2, Nat.zero_le _, rfl, rfl, HRJ⟩
              case round =>
               obtain ⟨m, z, hm, rfl, rfl, Hm⟩ := hrel
               by_cases hlm : m < L
               · obtain ⟨cn2, b2, o2, _, _, hcd2, _, rfl, hcell, hsz⟩ := strEl HCD.out m (by rw [← HLL.out]; exact hlm)
                 have HCM := hid hcell
                 have hc0 : ∀ y : Ext W2, y.1.cell? ⟨b2, o2 + m, none⟩ = some (.string cn2) := fun y => ((HBZ.out y).cell (World.block_lt_of_cell? w _ HCM.out)).trans HCM.out
                 have HIM : Hid (∀ z : Ext W2, Calls Tryz.prog 167 #[.slice an ns.length cn, .string cn2] z.1 fun e w' => e = .returned (.bool (hasS ns cn2)) ∧ ∃ y : Ext W2, w' = y.1) := hid fun z => ext_same z (rIn_any _ _ _ _ (HN.out.below (HBZ.out z)))
                 have HDM : Hid (R = ((hasS ns cn2 && (r.cond.drop (m + 1)).all (hasS ns)) && (rs.drop (j + 1)).all (ruleR ns))) := hid (by rw [Hm.out, hcd2, List.all_cons])
                 have HM : Hid (m + 1 ≤ L) := hid hlm
                 have hi2 : (m : Int) < (L : Int) := by omega
                 clear Hm hcell hsz HCI HCR hcd2
                 cases hcm : hasS ns cn2
                 · have HF : Hid (R = false) := hid (by rw [HDM.out, hcm]; rfl)
                   rw [hcm] at HIM
                   clear hcm
                   go_wp2_with fail
                   refine wp_region_extx _ (by kernel_rfl) (by kernel_rfl) ?_
                   repeat (go_big_quiet_step (with_reducible exact HIM.out _))
                   refine wpQuiet_nil ?_
                   rintro _ ⟨z3, rfl⟩
                   go_wp2_with fail
                   go_ret
                   exact ⟨ret_bool HF.out.symm, HBZ.out _⟩
                 · have HF : Hid (R = ((r.cond.drop (m + 1)).all (hasS ns) && (rs.drop (j + 1)).all (ruleR ns))) := hid (by rw [HDM.out, hcm]; rfl)
                   rw [hcm] at HIM
                   clear hcm
                   go_wp2_with fail
                   refine wp_region_extx _ (by kernel_rfl) (by kernel_rfl) ?_
                   repeat (go_big_quiet_step (with_reducible exact HIM.out _))
                   refine wpQuiet_nil ?_
                   rintro _ ⟨z3, rfl⟩
                   go_wp2_with fail
                   go_roundw
                   case rel => exact ⟨m + 1, z3, HM.out, by go_num, rfl, HF⟩
                   case measure => have := HM.out; simp [intOf]; omega
               · have hmm : m = L := by omega
                 subst hmm
                 have HF : Hid (R = (rs.drop (j + 1)).all (ruleR ns)) := hid (by rw [Hm.out, List.drop_eq_nil_of_le (Nat.le_of_eq HLL.out.symm)]; rfl)
                 clear hlm hm Hm
                 go_wp2_with fail
                 obtain ⟨y, hy⟩ := HUP.out z
                 go_roundw
                 case rel => exact ⟨j + 1, y, HJ.out, by go_num, hy, HF⟩
                 case measure => have := HJ.out; simp [intOf]; omega
      · have hjj : j = rs.length := by omega
        subst hjj
        have HF : Hid (R = true) := hid (by rw [He.out, List.drop_eq_nil_of_le (Nat.le_refl _)]; rfl)
        clear hlt hj
        go_wp2_with fail
        go_ret
        exact ⟨ret_bool HF.out.symm, HB.out _⟩
theorem strEq_iff (a b : ByteArray) : strEq a b = true ↔ a = b := by
 unfold strEq
 rw [Lib.toList_data, Lib.toList_data, beq_iff_eq]
 exact ⟨fun h => ByteArray.ext (Array.toList_inj.1 h), fun h => by rw [h]⟩
theorem hasS_iff (l : List ByteArray) (s : ByteArray) : hasS l s = true ↔ s ∈ l := by
 unfold hasS
 rw [List.any_eq_true]
 constructor
 · rintro ⟨x, hx, h⟩
   rw [(strEq_iff _ _).1 h]; exact hx
 · intro h
   exact ⟨s, h, (strEq_iff _ _).2 rfl⟩
theorem hasS_name {ns : List ByteArray} (h : ns.all nameB = true) {c : ByteArray} (hc : hasS ns c = true) : nameB c = true :=
 List.all_eq_true.1 h c ((hasS_iff _ _).1 hc)
theorem nmGo_all (full : List ByteArray) : ∀ (k : Nat) (l : List ByteArray), nmGo false full k l = l.all nameB
 | _, [] => rfl
 | k, s :: t => by rw [nmGo, nmGo_all full (k + 1) t, List.all_cons, Bool.false_and, Bool.not_false, Bool.and_true]
theorem rule_eq {ns : List ByteArray} (h : ns.all nameB = true) (r : Rl) : ruleR ns r = ruleB ns r := by
 unfold ruleR ruleB risingB
 have hq : subsetS r.cond ns = r.cond.all (hasS ns) := rfl
 rw [hq]
 cases hs : r.cond.all (hasS ns)
 · simp
 · have : r.cond.all nameB = true := by
    rw [List.all_eq_true] at hs ⊢
    intro c hc
    exact hasS_name h (hs c hc)
   rw [this]
   cases decide (r.cond.length ≠ 0) <;> cases sortedB r.cond <;> cases hasS ns r.concl <;> rfl
theorem shapeB_rules {l : Lat} (h : shapeB l = false) (h6 : l.kind = 6) : l.rules = [] := by
 refine List.eq_nil_of_length_eq_zero ?_
 by_cases h0 : l.rules.length = 0
 · exact h0
 · have := shapeC_ruled (lo := l.lo) (hi := l.hi) (nn := l.names.length) (np := l.parts.length) (nr := l.rules.length) (k := l.kind) (by omega) h0
   exact absurd (h.symm.trans this) Bool.false_ne_true
theorem spell_named {l : Lat} (h : shapeB l = false) : spellB l = !(namedR l.kind l.names l.rules) := by
 unfold spellB namedR
 by_cases h6 : l.kind = 6
 · rw [if_pos h6, shapeB_rules h h6, h6]
   have : rulesB l.names [] = true := rfl
   rw [this]
   simp
 · rw [if_neg h6]
   have hk : (l.kind == 6) = false := by rw [beq_eq_false_iff_ne]; exact h6
   rw [hk, nmGo_all, Bool.false_or]
   unfold risingB
   cases hn : l.names.all nameB
   · simp
   · have hr : rulesB l.names l.rules = l.rules.all (ruleR l.names) := by
      unfold rulesB
      congr 1
      funext r
      exact (rule_eq hn r).symm
     rw [hr, Bool.true_and]
def nodeR (l : Lat) (d : Int) (n : Nat) : Int := if 6 < d ∨ 64 ≤ n then 6 else if shapeB l then 1 else if limitsB l then 6 else if namedR l.kind l.names l.rules = false then 3 else if l.hi < l.lo ∨ l.lo < -1000000000 ∨ 1000000000 < l.hi then 5 else if chainsB l then 4 else 0
theorem ranges_iff (l : Lat) : rangesB l = decide (l.hi < l.lo ∨ l.lo < -1000000000 ∨ 1000000000 < l.hi) := by
 unfold rangesB
 rw [decide_eq_decide]
 omega
theorem node_visit (f : Nat) (l : Lat) (n : Nat) (d : Int) (hd : d = 7 - f) (hf : f ≤ 6) : nodeR l d n ≠ 0 ∧ (visitF f l n).1 = nodeR l d n ∨ nodeR l d n = 0 ∧ ∃ g, f = g + 1 ∧ visitF f l n = goL (visitF g) l.parts (n + 1) := by
 unfold nodeR
 cases f with
 | zero =>
   left
   rw [if_pos (by omega)]
   exact ⟨by decide, rfl⟩
 | succ f =>
   have hv : visitF (f + 1) l n = if 64 ≤ n then (6, n) else if shapeB l then (1, n + 1) else if checkE l ≠ 0 then (checkE l, n + 1) else goL (visitF f) l.parts (n + 1) := rfl
   by_cases h64 : 64 ≤ n
   · left
     rw [if_pos (.inr h64), hv, if_pos h64]
     exact ⟨by decide, rfl⟩
   · rw [if_neg (by omega), hv, if_neg h64]
     cases hs : shapeB l
     · rw [if_neg Bool.false_ne_true, if_neg Bool.false_ne_true]
       have hc : checkE l = if limitsB l then 6 else if namedR l.kind l.names l.rules = false then 3 else if l.hi < l.lo ∨ l.lo < -1000000000 ∨ 1000000000 < l.hi then 5 else if chainsB l then 4 else 0 := by
        unfold checkE
        rw [spell_named hs, ranges_iff]
        cases limitsB l <;> cases namedR l.kind l.names l.rules <;> by_cases hr : (l.hi < l.lo ∨ l.lo < -1000000000 ∨ 1000000000 < l.hi) <;> cases chainsB l <;> simp [hr, whenI, orI]
       rw [← hc]
       by_cases h0 : checkE l = 0
       · right
         rw [if_neg (fun h => h h0)]
         exact ⟨h0, f, rfl, rfl⟩
       · left
         rw [if_pos h0]
         exact ⟨h0, rfl⟩
     · left
       rw [if_pos rfl, if_pos rfl]
       exact ⟨by decide, rfl⟩
theorem visit_le (f : Nat) : ∀ (l : Lat) (n : Nat), n ≤ 64 → (visitF f l n).2 ≤ 64 := by
 induction f with
 | zero => intro l n h; exact h
 | succ f ih =>
   intro l n h
   have hv : visitF (f + 1) l n = if 64 ≤ n then (6, n) else if shapeB l then (1, n + 1) else if checkE l ≠ 0 then (checkE l, n + 1) else goL (visitF f) l.parts (n + 1) := rfl
   have hg : ∀ (ps : List Lat) (n : Nat), n ≤ 64 → (goL (visitF f) ps n).2 ≤ 64 := by
    intro ps
    induction ps with
    | nil => intro n h; exact h
    | cons p t ht =>
      intro n h
      rw [goL]
      split
      · exact ih p n h
      · exact ht _ (ih p n h)
   rw [hv]
   split
   · exact h
   · split
     · show n + 1 ≤ 64; omega
     · split
       · show n + 1 ≤ 64; omega
       · exact hg _ _ (by omega)
theorem strLt_trans {a b c : ByteArray} (h1 : strLt a b = true) (h2 : strLt b c = true) : strLt a c = true := by
 rw [strLt_eq, decide_eq_true_eq] at *
 exact List.lt_trans h1 h2
theorem strLt_irr (a : ByteArray) : strLt a a = false := by
 rw [strLt_eq]
 exact decide_eq_false (List.lt_irrefl _)
def Ris (l : List ByteArray) : Prop := l.Pairwise fun a b => strLt a b = true
theorem sortedFrom_pw : ∀ (p : ByteArray) (l : List ByteArray), sortedFrom p l = true → (∀ x ∈ l, strLt p x = true) ∧ Ris l
 | _, [], _ => ⟨fun _ h => by simp at h, List.Pairwise.nil⟩
 | p, x :: t, h => by
   rw [sortedFrom, Bool.and_eq_true] at h
   obtain ⟨h1, h2⟩ := sortedFrom_pw x t h.2
   refine ⟨fun y hy => ?_, List.pairwise_cons.2 ⟨h1, h2⟩⟩
   rcases List.mem_cons.1 hy with rfl | hy
   · exact h.1
   · exact strLt_trans h.1 (h1 y hy)
theorem sorted_ris {l : List ByteArray} (h : sortedB l = true) : Ris l := by
 cases l with
 | nil => exact List.Pairwise.nil
 | cons x t =>
   obtain ⟨h1, h2⟩ := sortedFrom_pw x t h
   exact List.pairwise_cons.2 ⟨h1, h2⟩
theorem Ris.at {l : List ByteArray} (h : Ris l) {i j : Nat} (hij : i < j) (hj : j < l.length) : strLt (l[i]'(by omega)) l[j] = true := List.pairwise_iff_getElem.1 h i j (by omega) hj hij
theorem Ris.nodup {l : List ByteArray} (h : Ris l) : l.Nodup := h.imp fun {a b} hab e => by
  subst e
  rw [strLt_irr] at hab
  exact absurd hab Bool.false_ne_true
theorem Ris.fresh {l : List ByteArray} (h : Ris l) {i : Nat} (hi : i < l.length) : hasS (l.take i) l[i] = false := by
 cases hc : hasS (l.take i) l[i]
 · rfl
 · rw [hasS_iff] at hc
   obtain ⟨j, hj, he⟩ := List.getElem_of_mem hc
   rw [List.length_take] at hj
   rw [List.getElem_take] at he
   have := h.at (i := j) (j := i) (by omega) hi
   rw [he, strLt_irr] at this
   exact absurd this Bool.false_ne_true
theorem Ris.adj {l : List ByteArray} (h : Ris l) {n : Nat} {t s : ByteArray} (ht : l[n]? = some t) (hs : l[n + 1]? = some s) : strLt t s = true := by
 obtain ⟨h1, rfl⟩ := List.getElem?_eq_some_iff.1 ht
 obtain ⟨h2, rfl⟩ := List.getElem?_eq_some_iff.1 hs
 exact h.at (Nat.lt_succ_self n) h2
def Gos (B : Nat) (w : World) (v : Value) (L : List ByteArray) : Prop := w.ownsRow B 9 1 v L.length (L.map Value.string)
theorem Gos.shape {B : Nat} {w : World} {v : Value} {L : List ByteArray} (h : Gos B w v L) : ∃ a c, v = .slice a L.length c := owns_shape h
theorem Gos.below {B : Nat} {w w1 : World} {v : Value} {L : List ByteArray} (h : Gos B w v L) (k : Below w.heap.size w w1) : Gos B w1 v L := owns_below h k
theorem Gos.step {B : Nat} {w w1 : World} {v vn : Value} {L : List ByteArray} {s : ByteArray} (h : Appd w w1 B 9 1 v vn (L.length + 1) (L.map Value.string ++ [.string s])) : Gos B w1 vn (L ++ [s]) := by
 have := h.own
 unfold Gos
 rw [List.map_append, List.length_append]
 exact this
theorem Gos.strs {B : Nat} {w : World} {v : Value} {L : List ByteArray} (h : Gos B w v L) (hs : ∀ s ∈ L, s.size ≤ maxLen) : Strs w v L := SlRd.of_owns (f := fun s => [.string s]) (fun _ => rfl) (fun s hm => ⟨rfl, hs s hm⟩) (by
  rw [flat_one]; exact h)
theorem Gos.grown {B : Nat} {w0 w w1 : World} {v vn : Value} {N : Nat} {L : List ByteArray} {X : List Value} (h : Gos B w v L) (h0 : w0.heap.size ≤ B) (hb : Below w0.heap.size w0 w) (k : Appd w w1 B 9 1 v vn N X) : Below w0.heap.size w0 w1 :=
 hb.grown k.grown hb.size fun g hg => Nat.le_trans h0 (owns_tag h hg).1
def NamesPost (w : World) (L : List ByteArray) (e : Ending) (w' : World) : Prop := ∃ v, e = .returned v ∧ Strs w' v L ∧ Below w.heap.size w w'
theorem Strs.mem_size {w : World} {v : Value} {l : List ByteArray} (h : Strs w v l) {s : ByteArray} (hs : s ∈ l) : s.size ≤ maxLen := by
 obtain ⟨a, c, rfl, _, _⟩ := h.shape
 obtain ⟨i, hi, rfl⟩ := List.getElem_of_mem hs
 obtain ⟨_, _, _, _, h2⟩ := h.cell i hi
 exact h2
theorem rOf_any (v : Value) (l : List ByteArray) (w : World) (hv : Strs w v l) (hr : Ris l) (hn : l.length ≤ 1000000) :
 Calls Tryz.prog 144 #[v] w (NamesPost w l) := by
 obtain ⟨al, cl, rfl, _, hml⟩ := hv.shape
 have HV := hid hv
 have HR := hid hr
 have HN := hid hn
 have HSZ : Hid (∀ s ∈ l, s.size ≤ maxLen) := hid fun s hs => hv.mem_size hs
 obtain ⟨i0, hi0, hz0, hz1, hz2⟩ := info_parts infoString3
 clear hv hr hn
 have HB0 : Hid (∀ O, Below w.heap.size w (w.alloc O)) := hid fun O => (Below.refl _ _).alloc (Nat.le_refl _) O
 have HG0 : Hid (Gos w.heap.size (w.alloc (.cells #[] 9)) (.slice (some ⟨w.heap.size, 0, none⟩) 0 0) []) := hid (owns_made #[] 0 (heap_alloc_new w _) (Nat.le_refl _) rfl (by decide))
 go_enter Tryz.func144, Tryz.ntmps144
 go_wp2_with fail
 go_loopw [3, 4, 5] (fun vo i _ wr => ∃ (j : Nat) (L : List ByteArray), j ≤ l.length ∧ i = .int .i64 j ∧ Hid (L.length = j) ∧ Hid (L = l.take j) ∧ Hid (Below w.heap.size w wr) ∧ Hid (Gos w.heap.size wr vo L)) (fun _ i _ _ => l.length - (intOf i).toNat)
 case atStart => exact ⟨0, [], Nat.zero_le _, rfl, hid rfl, hid rfl, hid (HB0.out _), HG0⟩
 case round =>
  obtain ⟨j, L, hj, rfl, HLJ, HL, HB, HG⟩ := hrel
  obtain ⟨ao, co, rfl⟩ := HG.out.shape
  by_cases hlt : j < l.length
  · obtain ⟨s, b, o, hs, hsm, _, htk, rfl, hcell, hsz⟩ := strEl HV.out j hlt
    have HCELL := hid hcell
    have hc0 : wr.cell? ⟨b, o + j, none⟩ = some (.string s) := (HB.out.cell (World.block_lt_of_cell? w _ HCELL.out)).trans HCELL.out
    have hls : l[j] = s := by
     have := List.getElem?_eq_getElem hlt
     rw [hs] at this
     exact (Option.some.inj this).symm
    have HLS := hid hls
    have HL2 : Hid (L ++ [s] = l.take (j + 1)) := hid (by rw [HL.out, htk])
    have hi1 : (j : Int) < (l.length : Int) := by omega
    have HJ : Hid (j + 1 ≤ l.length) := hid hlt
    have HH : Hid (Calls Tryz.prog 120 #[.slice ao L.length co, .string s] wr fun e w' => e = .returned (.bool false) ∧ w' = wr) := hid (by
      have h := rHas_any (.slice ao L.length co) L s wr (HG.out.strs fun x hx => HSZ.out x (by rw [HL.out] at hx; exact List.mem_of_mem_take hx))
      have hf := HR.out.fresh hlt
      rw [HLS.out, ← HL.out] at hf
      rw [hf] at h
      exact h)
    have HGA : Hid (∀ O, Gos w.heap.size (wr.alloc O) (.slice ao L.length co) L) := hid fun O => HG.out.below ((Below.refl _ _).alloc (Nat.le_refl _) O)
    have HBA : Hid (∀ O, Below w.heap.size w (wr.alloc O)) := hid fun O => HB.out.alloc HB.out.size O
    have HMX : Hid (L.length + 1 ≤ 1000000) := hid (by have := HLJ.out; have := HN.out; omega)
    have hmx : L.length + 1 ≤ 1000000 := HMX.out
    clear hs htk hcell hsz hsm hj hls
    go_wp2_with fail
    refine HH.out.mono ?_
    rintro e _ ⟨rfl, rfl⟩
    go_wp2_with (at_builtin; refine wpList_append rfl (.tmp 19) (.tmp 24) 22 rfl w.heap.size 9 1 16 Tryz.underlying22 hi0 hz0 hz1 hz2 rfl (by decide) (.slice ao L.length co) L.length (L.map Value.string) rfl (HGA.out _) _ 1 [.string s] rfl (Src.of_block (cs := #[.string s]) (heap_alloc_new _ _) 1 1 1 rfl (by simp [Value.oneCell'])) (L.length + 1) rfl _ rfl (by have := HMX.out; unfold maxLen; omega) (by have := HMX.out; omega) (HBA.out _).size ?_; intro na nc w4 had; have HG4 := hid (Gos.step had); have HB4 := hid ((HGA.out (.cells #[.string s] 9)).grown (Nat.le_refl _) (HBA.out _) had); clear had)
    have HSN : Hid (∀ x ∈ L ++ [s], x.size ≤ maxLen) := hid fun x hx => HSZ.out x (by rw [HL2.out] at hx; exact List.mem_of_mem_take hx)
    have HS4 : Hid (Strs w4 (.slice na (L.length + 1) nc) (L ++ [s])) := hid (HG4.out.strs HSN.out)
    have HLL : Hid ((L ++ [s]).length = j + 1) := hid (by rw [List.length_append, HLJ.out]; rfl)
    obtain ⟨x4, hx⟩ := ext_self w4
    rw [hx]
    clear hx hc0
    obtain ⟨m, hm⟩ : ∃ m, m = L.length := ⟨_, rfl⟩
    have HM := hid hm
    rw [← hm] at HS4 HG4 ⊢
    clear hm hmx
    cases m with
    | zero =>
      refine wp_loop_rounds 1 ?_
      rw [rounds_succ]
      go_wp2_with fail
      refine wp_region_at (by kernel_rfl) (by kernel_rfl) _ ?_
      repeat (go_big_quiet_step (fail))
      refine wpQuiet_nil ?_
      rintro _ ⟨z, rfl⟩
      go_wp2_with fail
      go_roundw
      case rel => exact ⟨j + 1, L ++ [s], HJ.out, by go_num, HLL, HL2, hid (HB4.out.trans (z.2.mono HB4.out.size)), hid (HG4.out.below z.2)⟩
      case measure => have := HJ.out; simp [intOf]; omega
    | succ n =>
      have hlen : (L ++ [s]).length = n + 2 := by rw [List.length_append, ← HM.out]; rfl
      have hnb : n + 2 ≤ 1000000 := by have := HMX.out; have := HM.out; omega
      obtain ⟨t, b1, o1, ht, _, _, _, rfl, hct, _⟩ := strEl HS4.out n (by omega)
      obtain ⟨s', b2, o2, hs', _, _, _, heq, hcs, _⟩ := strEl HS4.out (n + 1) (by omega)
      cases heq
      have hb : Op.bytesLess t.toList s'.toList = true := by
       rw [HL2.out] at ht hs'
       have hjn : j = n + 1 := by rw [← HLJ.out]; exact HM.out.symm
       rw [List.getElem?_take_of_lt (by omega)] at ht hs'
       exact HR.out.adj ht hs'
      have HCT := hid hct
      have HCS := hid hcs
      have t0 : ∀ y : Ext w4, y.1.cell? ⟨b1, o1 + n, none⟩ = some (.string t) := fun y => y.cell HCT.out
      have t1 : ∀ y : Ext w4, y.1.cell? ⟨b1, o1 + (n + 1), none⟩ = some (.string s') := fun y => y.cell HCS.out
      have e1 : wrap64 ((n : Int) + 1 - 1) = (n : Int) := by rw [show (n : Int) + 1 - 1 = n by omega]; exact IntWalk.wrap64_in _ (by omega)
      have e2 : ((n : Int) + 1 - 1) = (n : Int) := by omega
      have hk0 : (0 : Int) ≤ (n : Int) := by omega
      have hk1 : (n : Int) < (n : Int) + 1 + 1 := by omega
      have hk5 : (n : Int) + 1 < (n : Int) + 1 + 1 := by omega
      have hk2 : (0 : Int) < (n : Int) + 1 := by omega
      have hk3 : ((n : Int) + 1).toNat = n + 1 := by omega
      have hk4 : ((n + 1 : Nat) : Int) = (n : Int) + 1 := by omega
      have hk6 : ((n + 1 + 1 : Nat) : Int) = (n : Int) + 1 + 1 := by omega
      have hd1 : decide ((0 : Int) < (n : Int) + 1) = true := decide_eq_true hk2
      clear hlen ht hs' hct hcs
      refine wp_loop_rounds 1 ?_
      rw [rounds_succ]
      go_wp2_with fail
      refine wp_region_at (by kernel_rfl) (by kernel_rfl) _ ?_
      repeat (go_big_quiet_step (fail))
      refine wpQuiet_nil ?_
      rintro _ ⟨z, rfl⟩
      go_wp2_with fail
      go_roundw
      case rel => exact ⟨j + 1, L ++ [s], HJ.out, by go_num, HLL, HL2, hid (HB4.out.trans (z.2.mono HB4.out.size)), hid (HG4.out.below z.2)⟩
      case measure => have := HJ.out; simp [intOf]; omega
  · have hjj : j = l.length := by omega
    have HF : Hid (L = l) := hid (by rw [HL.out, hjj, List.take_length])
    subst hjj
    clear hlt hj
    go_wp2_with fail
    go_ret
    refine ⟨_, rfl, ?_, HB.out⟩
    have key : ∀ L', L' = l → Strs wr (.slice ao L.length co) L' → Strs wr (.slice ao L.length co) l := fun _ h k => h ▸ k
    exact key L HF.out (HG.out.strs (by rw [HF.out]; exact HSZ.out))
def minusS (a b : List ByteArray) : List ByteArray := a.filter fun s => !hasS b s
theorem minusS_step {a b : List ByteArray} {j : Nat} {s : ByteArray} (h : a.take (j + 1) = a.take j ++ [s]) : minusS (a.take (j + 1)) b = minusS (a.take j) b ++ (if hasS b s then [] else [s]) := by
 unfold minusS
 rw [h, List.filter_append]
 congr 1
 cases hc : hasS b s <;> simp [hc]
theorem minusS_ris {a b : List ByteArray} (h : Ris a) : Ris (minusS a b) := List.Pairwise.filter _ h
theorem minusS_len (a b : List ByteArray) : (minusS a b).length ≤ a.length := List.length_filter_le _ _
theorem minusS_sub {a b : List ByteArray} : decide ((minusS a b).length = 0) = subsetS a b := by
 rw [Bool.eq_iff_iff, decide_eq_true_eq, List.length_eq_zero_iff]
 unfold minusS subsetS
 rw [List.filter_eq_nil_iff, List.all_eq_true]
 simp
theorem rMinus_any (va vb : Value) (a b : List ByteArray) (w : World) (ha : Strs w va a) (hb : Strs w vb b) (hr : Ris a) (hn : a.length ≤ 1000000) :
 Calls Tryz.prog 156 #[va, vb] w (NamesPost w (minusS a b)) := by
 obtain ⟨aa, ca, rfl, _, hma⟩ := ha.shape
 have HA := hid ha
 have HBB := hid hb
 have HR := hid hr
 have HN := hid hn
 have HSZ : Hid (∀ s ∈ a, s.size ≤ maxLen) := hid fun s hs => ha.mem_size hs
 obtain ⟨i0, hi0, hz0, hz1, hz2⟩ := info_parts infoString3
 clear ha hb hr hn
 have HB0 : Hid (∀ O, Below w.heap.size w (w.alloc O)) := hid fun O => (Below.refl _ _).alloc (Nat.le_refl _) O
 have HG0 : Hid (Gos w.heap.size (w.alloc (.cells #[] 9)) (.slice (some ⟨w.heap.size, 0, none⟩) 0 0) []) := hid (owns_made #[] 0 (heap_alloc_new w _) (Nat.le_refl _) rfl (by decide))
 go_enter Tryz.func156, Tryz.ntmps156
 go_wp2_with fail
 go_loopw [5, 6] (fun vo i wr => ∃ (j : Nat) (L : List ByteArray), j ≤ a.length ∧ i = .int .i64 j ∧ Hid (L = minusS (a.take j) b) ∧ Hid (Below w.heap.size w wr) ∧ Hid (Gos w.heap.size wr vo L)) (fun _ i _ => a.length - (intOf i).toNat)
 case atStart => exact ⟨0, [], Nat.zero_le _, rfl, hid rfl, hid (HB0.out _), HG0⟩
 case round =>
  obtain ⟨j, L, hj, rfl, HL, HB, HG⟩ := hrel
  obtain ⟨ao, co, rfl⟩ := HG.out.shape
  by_cases hlt : j < a.length
  · obtain ⟨s, bb, o, hs, hsm, _, htk, rfl, hcell, hsz⟩ := strEl HA.out j hlt
    have HCELL := hid hcell
    have hc0 : wr.cell? ⟨bb, o + j, none⟩ = some (.string s) := (HB.out.cell (World.block_lt_of_cell? w _ HCELL.out)).trans HCELL.out
    have HMS : Hid (minusS (a.take (j + 1)) b = L ++ (if hasS b s then [] else [s])) := hid (by rw [minusS_step htk, HL.out])
    have hi1 : (j : Int) < (a.length : Int) := by omega
    have HJ : Hid (j + 1 ≤ a.length) := hid hlt
    have HH : Hid (Calls Tryz.prog 120 #[vb, .string s] wr fun e w' => e = .returned (.bool (hasS b s)) ∧ w' = wr) := hid (rHas_any vb b s wr (HBB.out.below HB.out))
    have HMX : Hid (L.length + 1 ≤ 2000000) := hid (by
     have h1 := minusS_len (a.take j) b
     rw [← HL.out, List.length_take] at h1
     have := HN.out
     omega)
    clear hs htk hcell hsz hsm hj
    cases hc : hasS b s
    · have HMS2 : Hid (L ++ [s] = minusS (a.take (j + 1)) b) := hid (by rw [HMS.out, hc]; rfl)
      rw [hc] at HH
      have HGA : Hid (∀ O, Gos w.heap.size (wr.alloc O) (.slice ao L.length co) L) := hid fun O => HG.out.below ((Below.refl _ _).alloc (Nat.le_refl _) O)
      have HBA : Hid (∀ O, Below w.heap.size w (wr.alloc O)) := hid fun O => HB.out.alloc HB.out.size O
      clear hc HMS
      go_wp2_with fail
      refine HH.out.mono ?_
      rintro e _ ⟨rfl, rfl⟩
      go_wp2_with (at_builtin; refine wpList_append rfl (.tmp 21) (.tmp 26) 22 rfl w.heap.size 9 1 16 Tryz.underlying22 hi0 hz0 hz1 hz2 rfl (by decide) (.slice ao L.length co) L.length (L.map Value.string) rfl (HGA.out _) _ 1 [.string s] rfl (Src.of_block (cs := #[.string s]) (heap_alloc_new _ _) 1 1 1 rfl (by simp [Value.oneCell'])) (L.length + 1) rfl _ rfl (by have := HMX.out; unfold maxLen; omega) (by have := HMX.out; omega) (HBA.out _).size ?_; intro na nc w4 had; have HG4 := hid (Gos.step had); have HB4 := hid ((HGA.out (.cells #[.string s] 9)).grown (Nat.le_refl _) (HBA.out _) had); clear had)
      go_roundw
      case rel => exact ⟨j + 1, L ++ [s], HJ.out, by go_num, HMS2, HB4, HG4⟩
      case measure => have := HJ.out; simp [intOf]; omega
    · have HMS2 : Hid (L = minusS (a.take (j + 1)) b) := hid (by rw [HMS.out, hc]; simp)
      rw [hc] at HH
      clear hc HMS
      go_wp2_with fail
      refine HH.out.mono ?_
      rintro e _ ⟨rfl, rfl⟩
      go_wp2_with fail
      go_roundw
      case rel => exact ⟨j + 1, L, HJ.out, by go_num, HMS2, HB, HG⟩
      case measure => have := HJ.out; simp [intOf]; omega
  · have hjj : j = a.length := by omega
    have HF : Hid (L = minusS a b) := hid (by rw [HL.out, hjj, List.take_length])
    subst hjj
    have HLS : Hid (L.length ≤ 1000000 ∧ Ris L ∧ ∀ x ∈ L, x.size ≤ maxLen) := hid (by
     rw [HF.out]
     exact ⟨Nat.le_trans (minusS_len _ _) HN.out, minusS_ris HR.out, fun x hx => HSZ.out x (List.mem_filter.1 hx).1⟩)
    clear hlt hj
    go_wp2_with fail
    refine (rOf_any (.slice ao L.length co) L wr (HG.out.strs HLS.out.2.2) HLS.out.2.1 HLS.out.1).mono ?_
    rintro e w1 ⟨v, rfl, hv, hb1⟩
    have HV := hid hv
    have HB1 := hid (HB.out.trans (hb1.mono HB.out.size))
    clear hv hb1
    go_wp2_with fail
    go_ret
    refine ⟨_, rfl, ?_, HB1.out⟩
    have key : ∀ L', L' = minusS a b → Strs w1 v L' → Strs w1 v (minusS a b) := fun _ h k => h ▸ k
    exact key L HF.out HV.out
theorem rSubset_any (va vb : Value) (a b : List ByteArray) (w : World) (ha : Strs w va a) (hb : Strs w vb b) (hr : Ris a) (hn : a.length ≤ 1000000) :
 Calls Tryz.prog 124 #[va, vb] w fun e w' => e = .returned (.bool (subsetS a b)) ∧ Below w.heap.size w w' := by
 have HM := hid (rMinus_any va vb a b w ha hb hr hn)
 have HS := hid (minusS_sub (a := a) (b := b))
 generalize minusS a b = M at HM HS
 clear ha hb hr hn
 go_enter Tryz.func124, Tryz.ntmps124
 go_wp2_with fail
 refine HM.out.mono ?_
 rintro e w1 ⟨v, rfl, hv, hb1⟩
 obtain ⟨av, cv, rfl, _, hm⟩ := hv.shape
 have HB1 := hid hb1
 clear hv hb1
 generalize hK : M.length = K at HS hm ⊢
 clear hK
 by_cases h0 : K = 0
 · have HF : Hid (subsetS a b = true) := hid (by rw [← HS.out]; exact decide_eq_true h0)
   subst h0
   go_wp2_with fail
   go_ret
   exact ⟨ret_bool HF.out.symm, HB1.out⟩
 · have HF : Hid (subsetS a b = false) := hid (by rw [← HS.out]; exact decide_eq_false h0)
   have hk : ((K : Int) == 0) = false := by rw [beq_eq_false_iff_ne]; omega
   clear h0
   go_wp2_with fail
   go_ret
   exact ⟨ret_bool HF.out.symm, HB1.out⟩
theorem bsOf_append (a b : ByteArray) : bsOf (a ++ b) = bsOf a ++ bsOf b := by
 unfold bsOf
 simp
def restJ (sep : List UInt8) (j : Nat) (l : List (List UInt8)) : List UInt8 := if j = 0 then Lib.join l sep else Lib.joinTail sep l
theorem restJ_zero (sep : List UInt8) (l : List (List UInt8)) : restJ sep 0 l = Lib.join l sep := rfl
theorem restJ_nil (sep : List UInt8) (j : Nat) : restJ sep j [] = [] := by
 unfold restJ
 split <;> rfl
theorem restJ_tail (sep : List UInt8) (j : Nat) (h : 0 < j) (l : List (List UInt8)) : restJ sep j l = Lib.joinTail sep l := if_neg (by omega)
theorem restJ_first (sep x : List UInt8) (t : List (List UInt8)) : restJ sep 0 (x :: t) = x ++ restJ sep (0 + 1) t := by
 rw [restJ_zero, Lib.join_cons, restJ_tail _ _ (by omega)]
theorem restJ_more (sep x : List UInt8) (t : List (List UInt8)) {j : Nat} (h : 0 < j) : restJ sep j (x :: t) = sep ++ (x ++ restJ sep (j + 1) t) := by
 rw [restJ_tail _ _ h, restJ_tail _ _ (by omega)]
 simp [Lib.joinTail]
structure Jn (J : List UInt8) (sep : List UInt8) (S : ByteArray) (j : Nat) (l : List (List UInt8)) : Prop where
 eq : bsOf S ++ restJ sep j l = J
theorem Jn.start {J sep : List UInt8} {S : ByteArray} {l : List (List UInt8)} (h : bsOf S ++ Lib.join l sep = J) : Jn J sep S 0 l := ⟨by rw [restJ_zero, h]⟩
theorem Jn.stop {J sep : List UInt8} {S : ByteArray} {j : Nat} (h : Jn J sep S j []) : bsOf S = J := by rw [← h.eq, restJ_nil, List.append_nil]
def Jm (J : List UInt8) (sep : List UInt8) (S : ByteArray) (j : Nat) (x : List UInt8) (t : List (List UInt8)) : Prop := bsOf S ++ (x ++ restJ sep (j + 1) t) = J
theorem Jn.first {J sep x : List UInt8} {S : ByteArray} {t : List (List UInt8)} (h : Jn J sep S 0 (x :: t)) : Jm J sep S 0 x t := by
 have := h.eq
 rw [restJ_first] at this
 exact this
theorem Jn.more {J sep x : List UInt8} {S q : ByteArray} {j : Nat} {t : List (List UInt8)} (h : Jn J sep S j (x :: t)) (hj : 0 < j) (hq : bsOf q = sep) : Jm J sep (S ++ q) j x t := by
 have := h.eq
 rw [restJ_more _ _ _ hj] at this
 unfold Jm
 rw [bsOf_append, hq, List.append_assoc]
 exact this
theorem Jm.next {J sep x : List UInt8} {S q : ByteArray} {j : Nat} {t : List (List UInt8)} (h : Jm J sep S j x t) (hq : bsOf q = x) : Jn J sep (S ++ q) (j + 1) t := ⟨by
 rw [bsOf_append, hq, List.append_assoc]
 exact h⟩
theorem bsOf_len (s : ByteArray) : (bsOf s).length = s.size := rfl
theorem Jn.size {J sep : List UInt8} {S : ByteArray} {j : Nat} {l : List (List UInt8)} (h : Jn J sep S j l) : S.size ≤ J.length := by
 rw [← h.eq, List.length_append, bsOf_len]; omega
theorem Jm.size {J sep x : List UInt8} {S : ByteArray} {j : Nat} {t : List (List UInt8)} (h : Jm J sep S j x t) : S.size + x.length ≤ J.length := by
 unfold Jm at h
 rw [← h, List.length_append, List.length_append, bsOf_len]; omega
theorem str_wrap {S : ByteArray} {J : List UInt8} (a b : UInt8) (h : bsOf S = J) : ((⟨#[a]⟩ : ByteArray) ++ S) ++ ⟨#[b]⟩ = strOf (a :: (J ++ [b])) := by
 rw [← h, ← wrap_str]
 rfl
def rTextS (l : List ByteArray) : ByteArray := strOf (123 :: (Lib.join (l.map bsOf) [44] ++ [125]))
theorem rNText_any (v : Value) (l : List ByteArray) (w : World) (hv : Strs w v l) (hr : Ris l) (hn : ∀ s ∈ l, nameB s = true) (hz : (Lib.join (l.map bsOf) [44]).length ≤ 900000) :
 Calls Tryz.prog 104 #[v] w fun e w' => e = .returned (.tuple #[.string (rTextS l), .int .i64 0]) ∧ Below w.heap.size w w' := by
 have hl : l.length ≤ 1000000 := by
  have h := join_len [44] (l.map bsOf) fun x hx => by
   obtain ⟨s, hs, rfl⟩ := List.mem_map.1 hx
   exact (name_le (hn s hs)).1
  rw [List.length_map] at h
  omega
 have HOF := hid (rOf_any v l w hv hr hl)
 have HN := hid hn
 have HLL := hid hl
 obtain ⟨J, hJ⟩ : ∃ J, J = 123 :: Lib.join (l.map bsOf) [44] := ⟨_, rfl⟩
 have HJ0 : Hid (Jn J [44] ⟨#[123]⟩ 0 ((l.map bsOf).drop 0)) := hid (Jn.start (by rw [hJ]; rfl))
 have HJZ : Hid (J.length ≤ 900001) := hid (by rw [hJ, List.length_cons]; omega)
 have HJR : Hid (∀ S, bsOf S = J → S ++ ⟨#[125]⟩ = rTextS l) := hid fun S h => by
  have e : S = strOf (123 :: Lib.join (l.map bsOf) [44]) := by rw [← hJ, ← h]; rfl
  have e2 : (⟨#[125]⟩ : ByteArray) = strOf [125] := rfl
  rw [e, e2, strOf_append]
  rfl
 generalize rTextS l = R at HJR ⊢
 obtain ⟨av, cv, rfl, _, hmv⟩ := hv.shape
 clear hv hr hn hz hl hJ
 go_enter Tryz.func104, Tryz.ntmps104
 go_wp2_with fail
 refine HOF.out.mono ?_
 rintro e u ⟨vL, rfl, hs, hb⟩
 have HBU := hid hb
 have HS := hid hs
 obtain ⟨aL, cL, rfl, _, hmL⟩ := hs.shape
 obtain ⟨x0, hx⟩ := ext_self u
 rw [hx]
 clear hx hs hb HOF
 go_wp2_with fail
 go_loopw [5, 6] (fun s i wr => ∃ (S : ByteArray) (j : Nat) (x : Ext u), s = .string S ∧ j ≤ l.length ∧ i = .int .i64 j ∧ wr = x.1 ∧ Hid (Jn J [44] S j ((l.map bsOf).drop j))) (fun _ i _ => l.length - (intOf i).toNat)
 case atStart => exact ⟨_, 0, x0, rfl, Nat.zero_le _, rfl, rfl, HJ0⟩
 case round =>
  obtain ⟨S, j, x, rfl, hj, rfl, rfl, HQ⟩ := hrel
  by_cases hlt : j < l.length
  · obtain ⟨s, b, o, hsj, hmem, hdrop, _, rfl, hcell, hsz⟩ := strEl HS.out j hlt
    have HSZ := hid hsz
    have HCELL := hid hcell
    have hc0 : ∀ y : Ext u, y.1.cell? ⟨b, o + j, none⟩ = some (.string s) := fun y => y.cell HCELL.out
    have HV : Hid (∀ y : Ext u, Calls Tryz.prog 119 #[.string s] y.1 fun e w' => e = .returned (.bool true) ∧ ∃ z : Ext u, w' = z.1) := hid fun y => by
     have h := rNameValid_any s y.1 HSZ.out
     rw [HN.out s hmem] at h
     exact ext_same y h
    have HQ1 : Hid (Jn J [44] S j (bsOf s :: (l.map bsOf).drop (j + 1))) := hid (by
     have h := HQ.out
     rw [← List.map_drop] at h ⊢
     rw [hdrop, List.map_cons] at h
     exact h)
    have HJ : Hid (j + 1 ≤ l.length) := hid hlt
    have hi1 : (j : Int) < (l.length : Int) := by omega
    clear HQ hdrop hcell hsz hmem hsj hlt hj
    go_wp2_with fail
    refine (HV.out _).mono ?_
    rintro e _ ⟨rfl, x1, rfl⟩
    have HSS : Hid (S.size ≤ 900001) := hid (Nat.le_trans HQ1.out.size HJZ.out)
    rcases Nat.eq_zero_or_pos j with h0 | h0
    case' inl =>
     have hd : decide (0 < j) = false := decide_eq_false (by omega)
     have HM : Hid (Jm J [44] S j (bsOf s) ((l.map bsOf).drop (j + 1))) := hid (by have h := HQ1.out; rw [h0] at h ⊢; exact h.first)
     have HMS : Hid (S.size + s.size ≤ 900001) := hid (Nat.le_trans HM.out.size HJZ.out)
     have hz2 : ¬ (9223372036854775807 < S.size + s.size) := by have := HMS.out; omega
     clear h0
     go_wp2_with fail
    case' inr =>
     have hd : decide (0 < j) = true := decide_eq_true (by omega)
     have HM : Hid (Jm J [44] (S ++ ⟨#[44]⟩) j (bsOf s) ((l.map bsOf).drop (j + 1))) := hid (HQ1.out.more h0 rfl)
     have HMS : Hid ((S ++ ⟨#[44]⟩).size + s.size ≤ 900001) := hid (Nat.le_trans HM.out.size HJZ.out)
     have hz1 : ¬ (9223372036854775807 < S.size + 1) := by have := HSS.out; omega
     have hz2 : ¬ (9223372036854775807 < S.size + 1 + s.size) := by have := HSS.out; have := HSZ.out; have := HMS.out; simp at this; omega
     clear h0
     go_wp2_with fail
    all_goals
     have HN1 := hid (HM.out.next (q := s) rfl)
     go_roundw
     case rel => exact ⟨_, j + 1, x1, rfl, HJ.out, by go_num, rfl, HN1⟩
     case measure => have := HJ.out; simp [intOf]; omega
  · have HE : Hid (bsOf S = J) := hid (Jn.stop (j := j) (by have h := HQ.out; rw [List.drop_eq_nil_of_le (by rw [List.length_map]; omega)] at h; exact h))
    have HSS : Hid (S.size ≤ 900001) := hid (Nat.le_trans HQ.out.size HJZ.out)
    have hz1 : ¬ (9223372036854775807 < S.size + 1) := by have := HSS.out; omega
    have HRE := hid (HJR.out S HE.out)
    go_wp2_with fail
    go_ret2
    exact ⟨by rw [HRE.out]; rfl, HBU.out.trans (x.2.mono HBU.out.size)⟩
end Go.Proofs.YtmdjnaobllajmaaGreatDoor
