/-
  What the statements of the chapter share, part 21: VK2, VK3, PK, VE4, VE5, VE6, VE7, VBox.
-/
import Derived.Test.YtmdjnaobllajmaaGreatDoorT01
import Derived.Test.YtmdjnaobllajmaaGreatDoorT03
import Derived.Test.YtmdjnaobllajmaaGreatDoorT08
import Derived.Test.YtmdjnaobllajmaaGreatDoorT17
import Derived.Test.YtmdjnaobllajmaaGreatDoorT20
import Derived.Lib.Strings
set_option linter.unusedVariables false
set_option linter.unusedSimpArgs false
set_option maxRecDepth 100000
set_option maxHeartbeats 8000000
namespace Go.Proofs.YtmdjnaobllajmaaGreatDoor
open Go.RowKit
theorem rChain_any (n : Nat) : ∀ (l : Lat) (cs : List Value) (w : World), SizeOf.sizeOf l ≤ n → latRd w l cs →
 Calls Tryz.prog 148 #[.agg cs.toArray] w fun e w' => e = .returned (.bool (chainB l)) ∧ Below w.heap.size w w' := by
 induction n with
 | zero => intro l cs w hn; cases l; simp at hn
 | succ n ih =>
   intro l cs w hn hl
   obtain ⟨vn, vp, vr, rfl, hi, hns, hps, hrs⟩ := (latRd_iff _ _ _).1 hl
   obtain ⟨k, lo, hi', ns, ps, rs⟩ := l
   simp only [Lat.kind, Lat.lo, Lat.hi, Lat.names, Lat.parts, Lat.rules] at hi hns hps hrs ⊢
   obtain ⟨ap, cp, rfl, hcp, hmp⟩ := hps.shape
   have hb : Below w.heap.size w (w.alloc (.cells #[.int .i64 k, .int .i64 lo, .int .i64 hi', vn, .slice ap ps.length cp, vr] 26)) := (Below.refl _ _).alloc (Nat.le_refl _) _
   by_cases h1 : k = 1 ∨ k = 2 ∨ k = 3
   · have HC : Hid (chainB (.mk k lo hi' ns ps rs) = true) := hid (by rw [chainB_eq]; simp only [Lat.kind, h1, decide_true, Bool.true_or])
     rcases h1 with rfl | rfl | rfl
     all_goals
      go_enter Tryz.func148, Tryz.ntmps148
      go_wp2
      all_goals (go_ret; exact ⟨ret_bool HC.out.symm, hb⟩)
   · by_cases h7 : k = 7
     · subst h7
       by_cases h2 : ps.length = 2
       · obtain ⟨p, q, rfl⟩ : ∃ p q, ps = [p, q] := by
          match ps, h2 with
          | [p, q], _ => exact ⟨p, q, rfl⟩
         obtain ⟨a', cp', heq, _, _, hcell⟩ := hps
         cases heq
         obtain ⟨b, o, cs0, hab, hl0, hc0, hr0⟩ := hcell 0 (by simp)
         obtain ⟨b', o', cs1, hab', hl1, hc1, hr1⟩ := hcell 1 (by simp)
         subst hab
         cases hab'
         simp only [List.getElem_cons_zero, List.getElem_cons_succ] at hr0 hr1
         obtain ⟨n0, p0, r0, rfl, _⟩ := (latRd_iff _ _ _).1 hr0
         obtain ⟨n1, p1, r1, rfl, _⟩ := (latRd_iff _ _ _).1 hr1
         simp only [Nat.zero_mul, Nat.add_zero, Nat.one_mul] at hc0 hc1
         obtain ⟨f0, f1, f2, f3, f4, f5⟩ := hc0.six_alloc
         skip
         have HC : Hid (chainB (.mk 7 lo hi' ns [p, q] rs) = (chainB p && chainB q)) := hid (by rw [chainB_eq]; simp [Lat.kind, Lat.parts])
         have hsp : SizeOf.sizeOf p ≤ n := by have := sizeOf_part (l := .mk 7 lo hi' ns [p, q] rs) (p := p) (by simp [Lat.parts]); omega
         have hsq : SizeOf.sizeOf q ≤ n := by have := sizeOf_part (l := .mk 7 lo hi' ns [p, q] rs) (p := q) (by simp [Lat.parts]); omega
         have hb0 : ∀ {O}, Below w.heap.size w (w.alloc O) := fun {O} => (Below.refl _ _).alloc (Nat.le_refl _) O
         clear hb hl h1 h2
         go_enter Tryz.func148, Tryz.ntmps148
         go_wp2_with fail
         refine (ih p [.int .i64 p.kind, .int .i64 p.lo, .int .i64 p.hi, n0, p0, r0] _ hsp (latRd.below ((Below.refl _ _).alloc (Nat.le_refl _) _) _ _ hr0)).mono ?_
         rintro e w1 ⟨rfl, hb1⟩
         cases hcp' : chainB p
         · have HC2 : Hid (chainB (.mk 7 lo hi' ns [p, q] rs) = false) := hid (by rw [HC.out, hcp']; rfl)
           have HB1 := hid (hb0.trans (hb1.mono (by simp)))
           clear hb1
           go_wp2_with fail
           go_ret
           exact ⟨ret_bool HC2.out.symm, HB1.out⟩
         · have HC2 : Hid (chainB (.mk 7 lo hi' ns [p, q] rs) = chainB q) := hid (by rw [HC.out, hcp']; rfl)
           have HB1 := hid (hb0.trans (hb1.mono (by simp)))
           obtain ⟨g0, g1, g2, g3, g4, g5⟩ := (hc1.below HB1.out).six
           have hbox : w1.cell? ⟨w.heap.size, 4, none⟩ = some (.slice (some ⟨b, o, none⟩) 2 cp) := (hb1.cell (by simp)).trans (by rw [World.cell?_alloc_at _ _ _ _ rfl]; rfl)
           clear hb1
           go_wp2_with fail
           refine (ih q [.int .i64 q.kind, .int .i64 q.lo, .int .i64 q.hi, n1, p1, r1] _ hsq (latRd.below HB1.out _ _ hr1)).mono ?_
           rintro e w2 ⟨rfl, hb2⟩
           have HB2 := hid (HB1.out.trans (hb2.mono HB1.out.size))
           clear hb2
           go_wp2_with fail
           go_ret
           exact ⟨ret_bool HC2.out.symm, HB2.out⟩
       · have HC : Hid (chainB (.mk 7 lo hi' ns ps rs) = false) := hid (by rw [chainB_eq]; simp [Lat.kind, Lat.parts, h2])
         have e2 : ((ps.length : Int) == 2) = false := by simp; omega
         clear h2
         go_enter Tryz.func148, Tryz.ntmps148
         go_wp2
         go_ret
         exact ⟨ret_bool HC.out.symm, hb⟩
     · have HC : Hid (chainB (.mk k lo hi' ns ps rs) = false) := hid (by rw [chainB_eq]; simp only [Lat.kind, h1, h7, decide_false, Bool.false_or, Bool.false_and])
       have e1 : (k == 1) = false := by simp; omega
       have e2 : (k == 2) = false := by simp; omega
       have e3 : (k == 3) = false := by simp; omega
       have e7 : (k == 7) = false := by simp; omega
       clear h1 h7
       go_enter Tryz.func148, Tryz.ntmps148
       go_wp2
       all_goals (go_ret; exact ⟨ret_bool HC.out.symm, hb⟩)
/-! shape -/
theorem kindI_ranged {k : Int} {n : Nat} (h2 : k ≠ 2) (h3 : k ≠ 3) : kindI k n = none ∨ ∃ p a b, kindI k n = some (p, a, b, false) := by
 unfold kindI
 repeat' split
 all_goals first | exact .inl rfl | exact .inr ⟨_, _, _, rfl⟩ | omega
theorem kindI_ruled {k : Int} {n : Nat} (h10 : k ≠ 10) : kindI k n = none ∨ ∃ p a b, kindI k n = some (p, a, false, b) := by
 unfold kindI
 repeat' split
 all_goals first | exact .inl rfl | exact .inr ⟨_, _, _, rfl⟩ | omega
theorem shapeC_ranged {k lo hi : Int} {nn np nr : Nat} (h2 : k ≠ 2) (h3 : k ≠ 3) (h : lo ≠ 0 ∨ hi ≠ 0) : shapeC k lo hi nn np nr = true := by
 unfold shapeC
 rcases kindI_ranged (n := nn) h2 h3 with e | ⟨p, a, b, e⟩
 · rw [e]
 · rw [e]; simp [h]
theorem shapeC_ruled {k lo hi : Int} {nn np nr : Nat} (h10 : k ≠ 10) (h : nr ≠ 0) : shapeC k lo hi nn np nr = true := by
 unfold shapeC
 rcases kindI_ruled (n := nn) h10 with e | ⟨p, a, b, e⟩
 · rw [e]
 · rw [e]; simp [show 0 < nr by omega]
theorem shapeC_none {k lo hi : Int} {nn np nr : Nat} (h : ¬ (1 ≤ k ∧ k ≤ 10)) : shapeC k lo hi nn np nr = true := by
 have hk : kindI k nn = none := by unfold kindI; rw [if_neg (by omega), if_neg (by omega), if_neg (by omega), if_neg (by omega), if_neg (by omega), if_neg (by omega), if_neg (by omega)]
 unfold shapeC
 rw [hk]
theorem rShape_any (l : Lat) (cs : List Value) (w : World) (hl : latRd w l cs) :
 Calls Tryz.prog 146 #[.agg cs.toArray] w fun e w' => e = .returned (.bool (!shapeB l)) ∧ Below w.heap.size w w' := by
 obtain ⟨vn, vp, vr, rfl, hi, hns, hps, hrs⟩ := (latRd_iff _ _ _).1 hl
 obtain ⟨k, lo, hi', ns, ps, rs⟩ := l
 simp only [Lat.kind, Lat.lo, Lat.hi, Lat.names, Lat.parts, Lat.rules] at hi hns hps hrs ⊢
 obtain ⟨an, cn, rfl, _, hmn⟩ := hns.shape
 obtain ⟨ap, cp, rfl, _, hmp⟩ := hps.shape
 obtain ⟨ar, cr, rfl, _, hmr⟩ := hrs.shape
 rw [show shapeB (.mk k lo hi' ns ps rs) = shapeC k lo hi' ns.length ps.length rs.length from rfl]
 generalize ns.length = nn at hmn ⊢
 generalize ps.length = np at hmp ⊢
 generalize rs.length = nr at hmr ⊢
 clear hi hns hps hrs hl
 have HB : Hid (Below w.heap.size w (w.alloc (.cells #[.int .i64 k, .int .i64 lo, .int .i64 hi', .slice an nn cn, .slice ap np cp, .slice ar nr cr] 26))) := hid ((Below.refl _ _).alloc (Nat.le_refl _) _)
 by_cases h23 : k = 2 ∨ k = 3
 · by_cases hr : nr = 0
   · subst hr
     rcases h23 with rfl | rfl
     · skip
       by_cases hn0 : nn = 0
       · by_cases hp0 : np = 0
         · subst hn0; subst hp0
           have HC : Hid (shapeC 2 lo hi' 0 0 0 = false) := hid (by unfold shapeC kindI; simp <;> omega)
           go_enter Tryz.func146, Tryz.ntmps146
           go_wp2
           all_goals first
            | (exfalso; omega)
            | (go_ret; exact ⟨ret_bool (by rw [HC.out]; rfl), HB.out⟩)
         · subst hn0
           have HC : Hid (shapeC 2 lo hi' 0 np 0 = true) := hid (by unfold shapeC kindI; simp <;> omega)
           have q1 : ((np : Int) == 0) = false := by rw [beq_eq_false_iff_ne]; omega
           clear hp0
           go_enter Tryz.func146, Tryz.ntmps146
           go_wp2
           all_goals first
            | (exfalso; omega)
            | (go_ret; exact ⟨ret_bool (by rw [HC.out]; rfl), HB.out⟩)
       · have HC : Hid (shapeC 2 lo hi' nn np 0 = true) := hid (by unfold shapeC kindI; simp <;> omega)
         have q1 : ((nn : Int) == 0) = false := by rw [beq_eq_false_iff_ne]; omega
         clear hn0
         go_enter Tryz.func146, Tryz.ntmps146
         go_wp2
         all_goals first
          | (exfalso; omega)
          | (go_ret; exact ⟨ret_bool (by rw [HC.out]; rfl), HB.out⟩)
     · skip
       by_cases hn0 : nn = 0
       · by_cases hp0 : np = 0
         · subst hn0; subst hp0
           have HC : Hid (shapeC 3 lo hi' 0 0 0 = false) := hid (by unfold shapeC kindI; simp <;> omega)
           go_enter Tryz.func146, Tryz.ntmps146
           go_wp2
           all_goals first
            | (exfalso; omega)
            | (go_ret; exact ⟨ret_bool (by rw [HC.out]; rfl), HB.out⟩)
         · subst hn0
           have HC : Hid (shapeC 3 lo hi' 0 np 0 = true) := hid (by unfold shapeC kindI; simp <;> omega)
           have q1 : ((np : Int) == 0) = false := by rw [beq_eq_false_iff_ne]; omega
           clear hp0
           go_enter Tryz.func146, Tryz.ntmps146
           go_wp2
           all_goals first
            | (exfalso; omega)
            | (go_ret; exact ⟨ret_bool (by rw [HC.out]; rfl), HB.out⟩)
       · have HC : Hid (shapeC 3 lo hi' nn np 0 = true) := hid (by unfold shapeC kindI; simp <;> omega)
         have q1 : ((nn : Int) == 0) = false := by rw [beq_eq_false_iff_ne]; omega
         clear hn0
         go_enter Tryz.func146, Tryz.ntmps146
         go_wp2
         all_goals first
          | (exfalso; omega)
          | (go_ret; exact ⟨ret_bool (by rw [HC.out]; rfl), HB.out⟩)
   · rcases h23 with rfl | rfl
     · have HC : Hid (shapeC 2 lo hi' nn np nr = true) := hid (by unfold shapeC kindI; simp <;> omega)
       have q0 : ((nr : Int) != 0) = true := by rw [bne_iff_ne]; omega
       clear hr
       go_enter Tryz.func146, Tryz.ntmps146
       go_wp2
       all_goals first
        | (exfalso; omega)
        | (go_ret; exact ⟨ret_bool (by rw [HC.out]; rfl), HB.out⟩)
     · have HC : Hid (shapeC 3 lo hi' nn np nr = true) := hid (by unfold shapeC kindI; simp <;> omega)
       have q0 : ((nr : Int) != 0) = true := by rw [bne_iff_ne]; omega
       clear hr
       go_enter Tryz.func146, Tryz.ntmps146
       go_wp2
       all_goals first
        | (exfalso; omega)
        | (go_ret; exact ⟨ret_bool (by rw [HC.out]; rfl), HB.out⟩)
 have hk2 : (k == 2) = false := by rw [beq_eq_false_iff_ne]; omega
 have hk3 : (k == 3) = false := by rw [beq_eq_false_iff_ne]; omega
 by_cases hlo : lo = 0
 · subst hlo
   by_cases hhi : hi' = 0
   · subst hhi
     by_cases h10 : k = 10
     · subst h10
       clear hk2 hk3 h23
       by_cases hn0 : nn = 0
       · subst hn0
         have HC : Hid (shapeC 10 0 0 0 np nr = true) := hid (by unfold shapeC kindI; simp <;> omega)
         go_enter Tryz.func146, Tryz.ntmps146
         go_wp2
         all_goals first
          | (exfalso; omega)
          | (go_ret; exact ⟨ret_bool (by rw [HC.out]; rfl), HB.out⟩)
       · have q1 : (0 : Int) < (nn : Int) := by omega
         by_cases hp0 : np = 0
         · subst hp0
           have HC : Hid (shapeC 10 0 0 nn 0 nr = false) := hid (by unfold shapeC kindI; simp <;> omega)
           clear hn0
           go_enter Tryz.func146, Tryz.ntmps146
           go_wp2
           all_goals first
            | (exfalso; omega)
            | (go_ret; exact ⟨ret_bool (by rw [HC.out]; rfl), HB.out⟩)
         · have HC : Hid (shapeC 10 0 0 nn np nr = true) := hid (by unfold shapeC kindI; simp <;> omega)
           have q2 : ((np : Int) == 0) = false := by rw [beq_eq_false_iff_ne]; omega
           clear hn0 hp0
           go_enter Tryz.func146, Tryz.ntmps146
           go_wp2
           all_goals first
            | (exfalso; omega)
            | (go_ret; exact ⟨ret_bool (by rw [HC.out]; rfl), HB.out⟩)
     · have hk10 : (k != 10) = true := by rw [bne_iff_ne]; exact h10
       by_cases hr : nr = 0
       · subst hr
         clear hk10
         by_cases hk : k = 1 ∨ k = 4 ∨ k = 5 ∨ k = 6 ∨ k = 7 ∨ k = 8 ∨ k = 9
         · clear hk2 hk3 h23 h10
           rcases hk with rfl | rfl | rfl | rfl | rfl | rfl | rfl
           · skip
             by_cases hn0 : nn = 0
             · by_cases hp0 : np = 0
               · subst hn0; subst hp0
                 have HC : Hid (shapeC 1 0 0 0 0 0 = false) := hid (by unfold shapeC kindI; simp <;> omega)
                 go_enter Tryz.func146, Tryz.ntmps146
                 go_wp2
                 all_goals first
                  | (exfalso; omega)
                  | (go_ret; exact ⟨ret_bool (by rw [HC.out]; rfl), HB.out⟩)
               · subst hn0
                 have HC : Hid (shapeC 1 0 0 0 np 0 = true) := hid (by unfold shapeC kindI; simp <;> omega)
                 have q1 : ((np : Int) == 0) = false := by rw [beq_eq_false_iff_ne]; omega
                 clear hp0
                 go_enter Tryz.func146, Tryz.ntmps146
                 go_wp2
                 all_goals first
                  | (exfalso; omega)
                  | (go_ret; exact ⟨ret_bool (by rw [HC.out]; rfl), HB.out⟩)
             · have HC : Hid (shapeC 1 0 0 nn np 0 = true) := hid (by unfold shapeC kindI; simp <;> omega)
               have q1 : ((nn : Int) == 0) = false := by rw [beq_eq_false_iff_ne]; omega
               clear hn0
               go_enter Tryz.func146, Tryz.ntmps146
               go_wp2
               all_goals first
                | (exfalso; omega)
                | (go_ret; exact ⟨ret_bool (by rw [HC.out]; rfl), HB.out⟩)
           · skip
             by_cases hp0 : np = 0
             · subst hp0
               have HC : Hid (shapeC 4 0 0 nn 0 0 = false) := hid (by unfold shapeC kindI; simp <;> omega)
               go_enter Tryz.func146, Tryz.ntmps146
               go_wp2
               all_goals first
                | (exfalso; omega)
                | (go_ret; exact ⟨ret_bool (by rw [HC.out]; rfl), HB.out⟩)
             · have HC : Hid (shapeC 4 0 0 nn np 0 = true) := hid (by unfold shapeC kindI; simp <;> omega)
               have q1 : ((np : Int) == 0) = false := by rw [beq_eq_false_iff_ne]; omega
               clear hp0
               go_enter Tryz.func146, Tryz.ntmps146
               go_wp2
               all_goals first
                | (exfalso; omega)
                | (go_ret; exact ⟨ret_bool (by rw [HC.out]; rfl), HB.out⟩)
           · skip
             by_cases hp0 : np = 1
             · subst hp0
               have HC : Hid (shapeC 5 0 0 nn 1 0 = false) := hid (by unfold shapeC kindI; simp <;> omega)
               go_enter Tryz.func146, Tryz.ntmps146
               go_wp2
               all_goals first
                | (exfalso; omega)
                | (go_ret; exact ⟨ret_bool (by rw [HC.out]; rfl), HB.out⟩)
             · have HC : Hid (shapeC 5 0 0 nn np 0 = true) := hid (by unfold shapeC kindI; simp <;> omega)
               have q1 : ((np : Int) == 1) = false := by rw [beq_eq_false_iff_ne]; omega
               clear hp0
               go_enter Tryz.func146, Tryz.ntmps146
               go_wp2
               all_goals first
                | (exfalso; omega)
                | (go_ret; exact ⟨ret_bool (by rw [HC.out]; rfl), HB.out⟩)
           · skip
             by_cases hn0 : nn = 0
             · subst hn0
               have HC : Hid (shapeC 6 0 0 0 np 0 = true) := hid (by unfold shapeC kindI; simp <;> omega)
               go_enter Tryz.func146, Tryz.ntmps146
               go_wp2
               all_goals first
                | (exfalso; omega)
                | (go_ret; exact ⟨ret_bool (by rw [HC.out]; rfl), HB.out⟩)
             · have q1 : (0 : Int) < (nn : Int) := by omega
               by_cases hp0 : nn = np
               · subst hp0
                 have HC : Hid (shapeC 6 0 0 nn nn 0 = false) := hid (by unfold shapeC kindI; simp <;> omega)
                 clear hn0
                 go_enter Tryz.func146, Tryz.ntmps146
                 go_wp2
                 all_goals first
                  | (exfalso; omega)
                  | (go_ret; exact ⟨ret_bool (by rw [HC.out]; rfl), HB.out⟩)
               · have HC : Hid (shapeC 6 0 0 nn np 0 = true) := hid (by unfold shapeC kindI; simp <;> omega)
                 have q2 : ((nn : Int) == (np : Int)) = false := by rw [beq_eq_false_iff_ne]; omega
                 clear hn0 hp0
                 go_enter Tryz.func146, Tryz.ntmps146
                 go_wp2
                 all_goals first
                  | (exfalso; omega)
                  | (go_ret; exact ⟨ret_bool (by rw [HC.out]; rfl), HB.out⟩)
           · skip
             by_cases hn0 : nn = 0
             · by_cases hp0 : np = 2
               · subst hn0; subst hp0
                 have HC : Hid (shapeC 7 0 0 0 2 0 = false) := hid (by unfold shapeC kindI; simp <;> omega)
                 go_enter Tryz.func146, Tryz.ntmps146
                 go_wp2
                 all_goals first
                  | (exfalso; omega)
                  | (go_ret; exact ⟨ret_bool (by rw [HC.out]; rfl), HB.out⟩)
               · subst hn0
                 have HC : Hid (shapeC 7 0 0 0 np 0 = true) := hid (by unfold shapeC kindI; simp <;> omega)
                 have q1 : ((np : Int) == 2) = false := by rw [beq_eq_false_iff_ne]; omega
                 clear hp0
                 go_enter Tryz.func146, Tryz.ntmps146
                 go_wp2
                 all_goals first
                  | (exfalso; omega)
                  | (go_ret; exact ⟨ret_bool (by rw [HC.out]; rfl), HB.out⟩)
             · have HC : Hid (shapeC 7 0 0 nn np 0 = true) := hid (by unfold shapeC kindI; simp <;> omega)
               have q1 : ((nn : Int) == 0) = false := by rw [beq_eq_false_iff_ne]; omega
               clear hn0
               go_enter Tryz.func146, Tryz.ntmps146
               go_wp2
               all_goals first
                | (exfalso; omega)
                | (go_ret; exact ⟨ret_bool (by rw [HC.out]; rfl), HB.out⟩)
           · skip
             by_cases hp0 : np = 0
             · subst hp0
               have HC : Hid (shapeC 8 0 0 nn 0 0 = false) := hid (by unfold shapeC kindI; simp <;> omega)
               go_enter Tryz.func146, Tryz.ntmps146
               go_wp2
               all_goals first
                | (exfalso; omega)
                | (go_ret; exact ⟨ret_bool (by rw [HC.out]; rfl), HB.out⟩)
             · have HC : Hid (shapeC 8 0 0 nn np 0 = true) := hid (by unfold shapeC kindI; simp <;> omega)
               have q1 : ((np : Int) == 0) = false := by rw [beq_eq_false_iff_ne]; omega
               clear hp0
               go_enter Tryz.func146, Tryz.ntmps146
               go_wp2
               all_goals first
                | (exfalso; omega)
                | (go_ret; exact ⟨ret_bool (by rw [HC.out]; rfl), HB.out⟩)
           · skip
             by_cases hn0 : nn = 0
             · by_cases hp0 : np = 0
               · subst hn0; subst hp0
                 have HC : Hid (shapeC 9 0 0 0 0 0 = false) := hid (by unfold shapeC kindI; simp <;> omega)
                 go_enter Tryz.func146, Tryz.ntmps146
                 go_wp2
                 all_goals first
                  | (exfalso; omega)
                  | (go_ret; exact ⟨ret_bool (by rw [HC.out]; rfl), HB.out⟩)
               · subst hn0
                 have HC : Hid (shapeC 9 0 0 0 np 0 = true) := hid (by unfold shapeC kindI; simp <;> omega)
                 have q1 : ((np : Int) == 0) = false := by rw [beq_eq_false_iff_ne]; omega
                 clear hp0
                 go_enter Tryz.func146, Tryz.ntmps146
                 go_wp2
                 all_goals first
                  | (exfalso; omega)
                  | (go_ret; exact ⟨ret_bool (by rw [HC.out]; rfl), HB.out⟩)
             · have HC : Hid (shapeC 9 0 0 nn np 0 = true) := hid (by unfold shapeC kindI; simp <;> omega)
               have q1 : ((nn : Int) == 0) = false := by rw [beq_eq_false_iff_ne]; omega
               clear hn0
               go_enter Tryz.func146, Tryz.ntmps146
               go_wp2
               all_goals first
                | (exfalso; omega)
                | (go_ret; exact ⟨ret_bool (by rw [HC.out]; rfl), HB.out⟩)
         · have HC : Hid (shapeC k 0 0 nn np 0 = true) := hid (shapeC_none (by omega))
           have e1 : ((k : Int) == 1) = false := by rw [beq_eq_false_iff_ne]; omega
           have e4 : ((k : Int) == 4) = false := by rw [beq_eq_false_iff_ne]; omega
           have e5 : ((k : Int) == 5) = false := by rw [beq_eq_false_iff_ne]; omega
           have e6 : ((k : Int) == 6) = false := by rw [beq_eq_false_iff_ne]; omega
           have e7 : ((k : Int) == 7) = false := by rw [beq_eq_false_iff_ne]; omega
           have e8 : ((k : Int) == 8) = false := by rw [beq_eq_false_iff_ne]; omega
           have e9 : ((k : Int) == 9) = false := by rw [beq_eq_false_iff_ne]; omega
           have e10 : ((k : Int) == 10) = false := by rw [beq_eq_false_iff_ne]; omega
           have e10n : ((k : Int) != 10) = true := by rw [bne_iff_ne]; omega
           clear hk h10 h23
           go_enter Tryz.func146, Tryz.ntmps146
           go_wp2
           all_goals first
            | (exfalso; omega)
            | (go_ret; exact ⟨ret_bool (by rw [HC.out]; rfl), HB.out⟩)
       · have HC : Hid (shapeC k 0 0 nn np nr = true) := hid (shapeC_ruled h10 hr)
         have q0 : ((nr : Int) != 0) = true := by rw [bne_iff_ne]; omega
         clear hr h10 h23
         go_enter Tryz.func146, Tryz.ntmps146
         go_wp2
         all_goals first
          | (exfalso; omega)
          | (go_ret; exact ⟨ret_bool (by rw [HC.out]; rfl), HB.out⟩)
   · have HC : Hid (shapeC k 0 hi' nn np nr = true) := hid (shapeC_ranged (by omega) (by omega) (.inr hhi))
     have q0 : ((hi' : Int) != 0) = true := by rw [bne_iff_ne]; omega
     clear hhi h23
     go_enter Tryz.func146, Tryz.ntmps146
     go_wp2
     all_goals first
      | (exfalso; omega)
      | (go_ret; exact ⟨ret_bool (by rw [HC.out]; rfl), HB.out⟩)
 · have HC : Hid (shapeC k lo hi' nn np nr = true) := hid (shapeC_ranged (by omega) (by omega) (.inl hlo))
   have q0 : ((lo : Int) != 0) = true := by rw [bne_iff_ne]; omega
   clear hlo h23
   go_enter Tryz.func146, Tryz.ntmps146
   go_wp2
   all_goals first
    | (exfalso; omega)
    | (go_ret; exact ⟨ret_bool (by rw [HC.out]; rfl), HB.out⟩)
def ruleR (ns : List ByteArray) (r : Rl) : Bool := decide (r.cond.length ≠ 0) && (risingB r.cond && (hasS ns r.concl && r.cond.all (hasS ns)))
def namedR (k : Int) (ns : List ByteArray) (rs : List Rl) : Bool := if k = 6 then nmGo true ns 0 ns else risingB ns && rs.all (ruleR ns)
theorem wp_region_extx {P : Program} {id : Nat} {Q : Exit → Act → World → Prop} {a : Act} {W : World} {l : List Oper} (x : Ext W) (hm : P.follows .mixedOrders = true) (hB : Region.lexB .any l.toArray = true)
 (h : wpQuiet P l.toArray (fun w' => ∃ y : Ext W, w' = y.1) (fun a' => ∀ w', (∃ y : Ext W, w' = y.1) → Q .normal a' w') l a) : (Code.region id l.toArray true).wp P Q a x.1 :=
 wp_region_quiet (C := fun w' => ∃ y : Ext W, w' = y.1) hm hB ⟨⟨_, x.2.drew⟩, rfl⟩ (by simpa using h)
theorem run_slice_toS (W : World) (a : Option Addr) (len cap k : Nat) (hk : k ≤ cap) : (Instr.slice 22 (.slice a len cap) none (some (.int .i64 (k : Int))) none).run Tryz.prog W = .ok (.slice a k cap) W := by
 have ht' : Tryz.prog.underlying 22 = some (.slice (Tryz.prog.elem 22)) := by simp [Program.elem, Tryz.underlying22]
 have he : Tryz.prog.elem 22 = 9 := by simp [Program.elem, Tryz.underlying22]
 have hz : (Go.sizeOf 9).run Tryz.prog W = .ok 1 W := by kernel_rfl
 rw [run_slice_h W 22 a _ _ ht' .i64 _ (by omega) (by omega), he, hz]
 cases a <;> simp [Result.andThen, sliced, Addr.add]
theorem ruleEl {w : World} {a : Option Addr} {n cap : Nat} {l : List Rl} (h : SlRd w 2 (ruleRd w) (.slice a n cap) l) (i : Nat) (hi : i < l.length) :
 ∃ r b o ea ec, l[i]? = some r ∧ r ∈ l ∧ l.drop i = r :: l.drop (i + 1) ∧ l.take (i + 1) = l.take i ++ [r] ∧ a = some ⟨b, o, none⟩ ∧ Strs w (.slice ea r.cond.length ec) r.cond ∧ r.concl.size ≤ maxLen ∧ CellsAt w b (o + i * 2) [.slice ea r.cond.length ec, .string r.concl] := by
 obtain ⟨b, o, cs, h1, _, hc, v, rfl, hk, hn⟩ := h.at i hi
 obtain ⟨ea, ec, rfl, _, _⟩ := hk.shape
 exact ⟨l[i], b, o, ea, ec, List.getElem?_eq_getElem hi, List.getElem_mem hi, drop_at l i hi, take_at l i hi, h1, hk, hn, hc⟩
theorem rNamed_any (l : Lat) (cs : List Value) (w : World) (hl : latRd w l cs) :
 Calls Tryz.prog 147 #[.agg cs.toArray] w fun e w' => e = .returned (.bool (namedR l.kind l.names l.rules)) ∧ Below w.heap.size w w' := by
 obtain ⟨vn, vp, vr, rfl, hi, hns, hps, hrs⟩ := (latRd_iff _ _ _).1 hl
 obtain ⟨k, lo, hi', ns, ps, rs⟩ := l
 simp only [Lat.kind, Lat.lo, Lat.hi, Lat.names, Lat.parts, Lat.rules] at hi hns hps hrs ⊢
 obtain ⟨an, cn, rfl, hln, hmn⟩ := hns.shape
 obtain ⟨ap, cp, rfl, _, _⟩ := hps.shape
 obtain ⟨ar, cr, rfl, hlr, hmr⟩ := hrs.shape
 have HN := hid hns
 have HR := hid hrs
 have HLN := hid hln
 have HS : Hid (namedR k ns rs = if k = 6 then nmGo true ns 0 ns else risingB ns && rs.all (ruleR ns)) := hid rfl
 generalize namedR k ns rs = R at HS ⊢
 have HB : Hid (∀ x : Ext (w.alloc (.cells #[.int .i64 k, .int .i64 lo, .int .i64 hi', .slice an ns.length cn, .slice ap ps.length cp, .slice ar rs.length cr] 26)), Below w.heap.size w x.1) := hid fun x => ((Below.refl _ _).alloc (Nat.le_refl _) _).trans (x.2.mono (by simp))
 have HX : Hid (∀ (x : Ext (w.alloc (.cells #[.int .i64 k, .int .i64 lo, .int .i64 hi', .slice an ns.length cn, .slice ap ps.length cp, .slice ar rs.length cr] 26))) (i : Nat) q, #[Value.int .i64 k, .int .i64 lo, .int .i64 hi', .slice an ns.length cn, .slice ap ps.length cp, .slice ar rs.length cr][i]? = some q → x.1.cell? ⟨w.heap.size, i, none⟩ = some q) := hid fun x i q hq => x.cell (by rw [World.cell?_alloc_at _ _ _ _ rfl]; exact hq)
 clear hl hi hns hps hrs hln hlr
 by_cases hk6 : k = 6
 · have HS1 : Hid (R = nmGo true ns 0 (ns.drop 0)) := hid (by rw [HS.out, if_pos hk6]; rfl)
   subst hk6
   clear HS HR
   go_enter Tryz.func147, Tryz.ntmps147
   go_wp2_with fail
   generalize w.alloc (.cells #[.int .i64 6, .int .i64 lo, .int .i64 hi', .slice an ns.length cn, .slice ap ps.length cp, .slice ar rs.length cr] 26) = W1 at HB HX ⊢
   obtain ⟨x0, hx⟩ := ext_self W1
   rw [hx]
   clear hx
   have l3 : ∀ x : Ext W1, x.1.cell? ⟨w.heap.size, 3, none⟩ = some (.slice an ns.length cn) := fun x => HX.out x 3 _ rfl
   go_loopw [3] (fun i wr => ∃ (j : Nat) (x : Ext W1), j ≤ ns.length ∧ i = .int .i64 j ∧ wr = x.1 ∧ Hid (R = nmGo true ns j (ns.drop j))) (fun i _ => ns.length - (intOf i).toNat)
   case atStart => exact ⟨0, x0, Nat.zero_le _, rfl, rfl, HS1⟩
   case round =>
    obtain ⟨j, x, hj, rfl, rfl, He⟩ := hrel
    by_cases hlt : j < ns.length
    · obtain ⟨nm, b, o, _, _, hnd, _, rfl, hcell, hsz⟩ := strEl HN.out j hlt
      have HSZ := hid hsz
      have HCL := hid hcell
      have hc0 : ∀ y : Ext W1, y.1.cell? ⟨b, o + j, none⟩ = some (.string nm) := fun y => ((HB.out y).cell (World.block_lt_of_cell? w _ HCL.out)).trans HCL.out
      have HD : Hid (R = (nameB nm && !(hasS (ns.take j) nm) && nmGo true ns (j + 1) (ns.drop (j + 1)))) := hid (by rw [He.out, hnd, nmGo, Bool.true_and])
      have hsl := fun W => run_slice_toS W (some ⟨b, o, none⟩) ns.length cn j (by have := HLN.out; omega)
      have HNM : Hid (∀ y : Ext W1, Calls Tryz.prog 166 #[.string nm] y.1 fun e w' => e = .returned (.bool (nameB nm)) ∧ ∃ z : Ext W1, w' = z.1) := hid fun y => ext_same y (rName_any _ _ HSZ.out)
      have HIN : Hid (∀ y : Ext W1, Calls Tryz.prog 167 #[.slice (some ⟨b, o, none⟩) j cn, .string nm] y.1 fun e w' => e = .returned (.bool (hasS (ns.take j) nm)) ∧ ∃ z : Ext W1, w' = z.1) := hid fun y => ext_same y (rIn_any _ _ _ _ ((HN.out.below (HB.out y)).take j hj))
      have HJ : Hid (j + 1 ≤ ns.length) := hid hlt
      have hi1 : (j : Int) < (ns.length : Int) := by omega
      clear He hcell hsz hnd
      cases hc : nameB nm
      · have HC := hid hc
        rw [hc] at HNM
        clear hc
        go_wp2_with fail
        refine wp_region_extx _ (by kernel_rfl) (by kernel_rfl) ?_
        repeat (go_big_quiet_step (with_reducible first | exact HNM.out _ | exact HIN.out _))
        refine wpQuiet_nil ?_
        rintro _ ⟨z, rfl⟩
        go_wp2_with fail
        go_ret
        exact ⟨ret_bool (by rw [HD.out, HC.out]; rfl), HB.out _⟩
      · have HC := hid hc
        rw [hc] at HNM
        clear hc
        cases hs : hasS (ns.take j) nm
        · have HS := hid hs
          rw [hs] at HIN
          clear hs
          go_wp2_with fail
          refine wp_region_extx _ (by kernel_rfl) (by kernel_rfl) ?_
          repeat (go_big_quiet_step (with_reducible first | exact HNM.out _ | exact HIN.out _))
          refine wpQuiet_nil ?_
          rintro _ ⟨z, rfl⟩
          go_wp2_with fail
          go_roundw
          case rel => exact ⟨j + 1, z, HJ.out, by go_num, rfl, hid (by rw [HD.out, HC.out, HS.out]; rfl)⟩
          case measure => have := HJ.out; simp [intOf]; omega
        · have HS := hid hs
          rw [hs] at HIN
          clear hs
          go_wp2_with fail
          refine wp_region_extx _ (by kernel_rfl) (by kernel_rfl) ?_
          repeat (go_big_quiet_step (with_reducible first | exact HNM.out _ | exact HIN.out _))
          refine wpQuiet_nil ?_
          rintro _ ⟨z, rfl⟩
          go_wp2_with fail
          go_ret
          exact ⟨ret_bool (by rw [HD.out, HC.out, HS.out]; rfl), HB.out _⟩
    · have hjj : j = ns.length := by omega
      subst hjj
      have HF : Hid (R = true) := hid (by rw [He.out, List.drop_eq_nil_of_le (Nat.le_refl _)]; rfl)
      clear hlt hj
      go_wp2_with fail
      go_ret
      exact ⟨ret_bool HF.out.symm, HB.out _⟩
 · have HS1 : Hid (R = (risingB ns && (rs.drop 0).all (ruleR ns))) := hid (by rw [HS.out, if_neg hk6]; rfl)
   have hkb : (k == 6) = false := by rw [beq_eq_false_iff_ne]; exact hk6
   clear HS hk6
   go_enter Tryz.func147, Tryz.ntmps147
   go_wp2_with fail
   generalize w.alloc (.cells #[.int .i64 k, .int .i64 lo, .int .i64 hi', .slice an ns.length cn, .slice ap ps.length cp, .slice ar rs.length cr] 26) = W1 at HB HX ⊢
   obtain ⟨x0, hx⟩ := ext_self W1
   rw [hx]
   clear hx hkb
   obtain ⟨-, -, -, l3, -, l5⟩ := bx6 fun x : Ext W1 => HX.out x
   go_wp2_with fail
   refine (ext_call x0 ((rRising_any _ ns x0.1 (HN.out.below (HB.out _))).mono fun e w' h => ⟨h.1, by obtain ⟨n, rfl⟩ := h.2; exact below_drewN' (Below.refl _ _) n⟩)).mono ?_
   rintro e _ ⟨rfl, x1, rfl⟩
   clear x0
   cases hri : risingB ns
   · have HF : Hid (R = false) := hid (by rw [HS1.out, hri]; rfl)
     clear hri
     go_wp2_with fail
     go_ret
     exact ⟨ret_bool HF.out.symm, HB.out _⟩
   · have HS2 : Hid (R = (rs.drop 0).all (ruleR ns)) := hid (by rw [HS1.out, hri]; rfl)
     clear hri HS1
     go_wp2_with fail
     go_loopw [4] (fun i wr => ∃ (j : Nat) (x : Ext W1), j ≤ rs.length ∧ i = .int .i64 j ∧ wr = x.1 ∧ Hid (R = (rs.drop j).all (ruleR ns))) (fun i _ => rs.length - (intOf i).toNat)
     case atStart => exact ⟨0, x1, Nat.zero_le _, rfl, rfl, HS2⟩
     case round =>
      obtain ⟨j, x, hj, rfl, rfl, He⟩ := hrel
      by_cases hlt : j < rs.length
      · obtain ⟨r, b, o, ac, cc, _, _, hrd, _, rfl, hcd, hcl, hca⟩ := ruleEl HR.out j hlt
        obtain ⟨L, hL⟩ : ∃ L, L = r.cond.length := ⟨_, rfl⟩
        have HLL := hid hL
        have hLm : L ≤ 9223372036854775807 := by obtain ⟨_, _, _, _, h⟩ := hcd.shape; omega
        rw [← hL] at hcd hca
        clear hL
        have HCD := hid hcd
        have HCL := hid hcl
        have HCA := hid hca
        obtain ⟨hd0, hd1⟩ := cx2 fun y : Ext W1 => HCA.out.below (HB.out y)
        have HD : Hid (R = (ruleR ns r && (rs.drop (j + 1)).all (ruleR ns))) := hid (by rw [He.out, hrd, List.all_cons])
        have HJ : Hid (j + 1 ≤ rs.length) := hid hlt
        have hi1 : (j : Int) < (rs.length : Int) := by omega
        clear He hca hcd hcl hrd
        have HUP : Hid (∀ z : Ext (x.1.alloc (.cells #[.slice ac L cc, .string r.concl] 131)), ∃ y : Ext W1, z.1 = y.1) := hid fun z => ⟨⟨z.1, (x.2.alloc x.2.size _).trans (z.2.mono (by have := x.2.size; simp; omega))⟩, rfl⟩
        have HXC : Hid (∀ (z : Ext (x.1.alloc (.cells #[.slice ac L cc, .string r.concl] 131))) (i : Nat) q, #[Value.slice ac L cc, .string r.concl][i]? = some q → z.1.cell? ⟨x.1.heap.size, i, none⟩ = some q) := hid fun z i q hq => z.cell (by rw [World.cell?_alloc_at _ _ _ _ rfl]; exact hq)
        have HRU : Hid (ruleR ns r = (decide (r.cond.length ≠ 0) && (risingB r.cond && (hasS ns r.concl && (r.cond.drop 0).all (hasS ns))))) := hid rfl
        by_cases h0 : L = 0
        · have HF : Hid (R = false) := hid (by rw [HD.out, HRU.out, ← HLL.out, h0]; rfl)
          have hz0 : ((L : Int) == 0) = true := by rw [h0]; rfl
          clear h0
          have HBA : Hid (∀ O, Below w.heap.size w (x.1.alloc O)) := hid fun O => (HB.out x).alloc (HB.out x).size O
          clear HUP HXC
          go_wp2_with fail
          go_ret
          exact ⟨ret_bool HF.out.symm, HBA.out _⟩
        · have hz0 : ((L : Int) == 0) = false := by rw [beq_eq_false_iff_ne]; omega
          have H0 : Hid (decide (r.cond.length ≠ 0) = true) := hid (decide_eq_true (by rw [← HLL.out]; exact h0))
          clear h0
          go_wp2_with fail
          generalize x.1.alloc (.cells #[.slice ac L cc, .string r.concl] 131) = W2 at HUP HXC ⊢
          obtain ⟨z0, hz⟩ := ext_self W2
          rw [hz]
          clear hz hd0 hd1
          generalize x.1.heap.size = N2 at HXC ⊢
          have HBZ : Hid (∀ z : Ext W2, Below w.heap.size w z.1) := hid fun z => by obtain ⟨y, hy⟩ := HUP.out z; rw [hy]; exact HB.out y
          have m3 : ∀ z : Ext W2, z.1.cell? ⟨w.heap.size, 3, none⟩ = some (.slice an ns.length cn) := fun z => by obtain ⟨y, hy⟩ := HUP.out z; rw [hy]; exact HX.out y 3 _ rfl
          obtain ⟨k0, k1⟩ := bx2 fun z : Ext W2 => HXC.out z
          have HCR : Hid (∀ z : Ext W2, Calls Tryz.prog 168 #[.slice ac L cc] z.1 fun e w' => e = .returned (.bool (risingB r.cond)) ∧ ∃ y : Ext W2, w' = y.1) := hid fun z => ext_call z ((rRising_any _ _ z.1 (HCD.out.below (HBZ.out _))).mono fun e w' h => ⟨h.1, by obtain ⟨n, rfl⟩ := h.2; exact below_drewN' (Below.refl _ _) n⟩)
          have HCI : Hid (∀ z : Ext W2, Calls Tryz.prog 167 #[.slice an ns.length cn, .string r.concl] z.1 fun e w' => e = .returned (.bool (hasS ns r.concl)) ∧ ∃ y : Ext W2, w' = y.1) := hid fun z => ext_same z (rIn_any _ _ _ _ (HN.out.below (HBZ.out z)))
          clear l3 l5
          refine (HCR.out _).mono ?_
          rintro e _ ⟨rfl, z1, rfl⟩
          cases hri : risingB r.cond
          · have HF : Hid (R = false) := hid (by rw [HD.out, HRU.out, hri, Bool.false_and, Bool.and_false]; rfl)
            clear hri
            go_wp2_with fail
            go_ret
            exact ⟨ret_bool HF.out.symm, HBZ.out _⟩
          · have HRI := hid hri
            clear hri
            go_wp2_with fail
            refine (HCI.out _).mono ?_
            rintro e _ ⟨rfl, z2, rfl⟩
            cases hcc : hasS ns r.concl
            · have HF : Hid (R = false) := hid (by rw [HD.out, HRU.out, hcc, Bool.false_and, Bool.and_false, Bool.and_false]; rfl)
              clear hcc
              go_wp2_with fail
              go_ret
              exact ⟨ret_bool HF.out.symm, HBZ.out _⟩
            · have HRJ : Hid (R = ((r.cond.drop 0).all (hasS ns) && (rs.drop (j + 1)).all (ruleR ns))) := hid (by rw [HD.out, HRU.out, H0.out, HRI.out, hcc]; rfl)
              clear hcc hz0
              go_wp2_with fail
              go_loopw [6] (fun i wr => ∃ (m : Nat) (z : Ext W2), m ≤ L ∧ i = .int .i64 m ∧ wr = z.1 ∧ Hid (R = ((r.cond.drop m).all (hasS ns) && (rs.drop (j + 1)).all (ruleR ns)))) (fun i _ => L - (intOf i).toNat)
              case atStart => exact ⟨0, z2, Nat.zero_le _, rfl, rfl, HRJ⟩
              case round =>
               obtain ⟨m, z, hm, rfl, rfl, Hm⟩ := hrel
               by_cases hlm : m < L
               · obtain ⟨cn2, b2, o2, _, _, hcd2, _, rfl, hcell, hsz⟩ := strEl HCD.out m (by rw [← HLL.out]; exact hlm)
                 have HCM := hid hcell
                 have hc0 : ∀ y : Ext W2, y.1.cell? ⟨b2, o2 + m, none⟩ = some (.string cn2) := fun y => ((HBZ.out y).cell (World.block_lt_of_cell? w _ HCM.out)).trans HCM.out
                 have HIM : Hid (∀ z : Ext W2, Calls Tryz.prog 167 #[.slice an ns.length cn, .string cn2] z.1 fun e w' => e = .returned (.bool (hasS ns cn2)) ∧ ∃ y : Ext W2, w' = y.1) := hid fun z => ext_same z (rIn_any _ _ _ _ (HN.out.below (HBZ.out z)))
                 have HDM : Hid (R = ((hasS ns cn2 && (r.cond.drop (m + 1)).all (hasS ns)) && (rs.drop (j + 1)).all (ruleR ns))) := hid (by rw [Hm.out, hcd2, List.all_cons])
                 have HM : Hid (m + 1 ≤ L) := hid hlm
                 have hi2 : (m : Int) < (L : Int) := by omega
                 clear Hm hcell hsz HCI HCR hcd2
                 cases hcm : hasS ns cn2
                 · have HF : Hid (R = false) := hid (by rw [HDM.out, hcm]; rfl)
                   rw [hcm] at HIM
                   clear hcm
                   go_wp2_with fail
                   refine wp_region_extx _ (by kernel_rfl) (by kernel_rfl) ?_
                   repeat (go_big_quiet_step (with_reducible exact HIM.out _))
                   refine wpQuiet_nil ?_
                   rintro _ ⟨z3, rfl⟩
                   go_wp2_with fail
                   go_ret
                   exact ⟨ret_bool HF.out.symm, HBZ.out _⟩
                 · have HF : Hid (R = ((r.cond.drop (m + 1)).all (hasS ns) && (rs.drop (j + 1)).all (ruleR ns))) := hid (by rw [HDM.out, hcm]; rfl)
                   rw [hcm] at HIM
                   clear hcm
                   go_wp2_with fail
                   refine wp_region_extx _ (by kernel_rfl) (by kernel_rfl) ?_
                   repeat (go_big_quiet_step (with_reducible exact HIM.out _))
                   refine wpQuiet_nil ?_
                   rintro _ ⟨z3, rfl⟩
                   go_wp2_with fail
                   go_roundw
                   case rel => exact ⟨m + 1, z3, HM.out, by go_num, rfl, HF⟩
                   case measure => have := HM.out; simp [intOf]; omega
               · have hmm : m = L := by omega
                 subst hmm
                 have HF : Hid (R = (rs.drop (j + 1)).all (ruleR ns)) := hid (by rw [Hm.out, List.drop_eq_nil_of_le (Nat.le_of_eq HLL.out.symm)]; rfl)
                 clear hlm hm Hm
                 go_wp2_with fail
                 obtain ⟨y, hy⟩ := HUP.out z
                 go_roundw
                 case rel => exact ⟨j + 1, y, HJ.out, by go_num, hy, HF⟩
                 case measure => have := HJ.out; simp [intOf]; omega
      · have hjj : j = rs.length := by omega
        subst hjj
        have HF : Hid (R = true) := hid (by rw [He.out, List.drop_eq_nil_of_le (Nat.le_refl _)]; rfl)
        clear hlt hj
        go_wp2_with fail
        go_ret
        exact ⟨ret_bool HF.out.symm, HB.out _⟩
theorem strEq_iff (a b : ByteArray) : strEq a b = true ↔ a = b := by
 unfold strEq
 rw [Lib.toList_data, Lib.toList_data, beq_iff_eq]
 exact ⟨fun h => ByteArray.ext (Array.toList_inj.1 h), fun h => by rw [h]⟩
theorem hasS_iff (l : List ByteArray) (s : ByteArray) : hasS l s = true ↔ s ∈ l := by
 unfold hasS
 rw [List.any_eq_true]
 constructor
 · rintro ⟨x, hx, h⟩
   rw [(strEq_iff _ _).1 h]; exact hx
 · intro h
   exact ⟨s, h, (strEq_iff _ _).2 rfl⟩
theorem hasS_name {ns : List ByteArray} (h : ns.all nameB = true) {c : ByteArray} (hc : hasS ns c = true) : nameB c = true :=
 List.all_eq_true.1 h c ((hasS_iff _ _).1 hc)
theorem nmGo_all (full : List ByteArray) : ∀ (k : Nat) (l : List ByteArray), nmGo false full k l = l.all nameB
 | _, [] => rfl
 | k, s :: t => by rw [nmGo, nmGo_all full (k + 1) t, List.all_cons, Bool.false_and, Bool.not_false, Bool.and_true]
theorem rule_eq {ns : List ByteArray} (h : ns.all nameB = true) (r : Rl) : ruleR ns r = ruleB ns r := by
 unfold ruleR ruleB risingB
 have hq : subsetS r.cond ns = r.cond.all (hasS ns) := rfl
 rw [hq]
 cases hs : r.cond.all (hasS ns)
 · simp
 · have : r.cond.all nameB = true := by
    rw [List.all_eq_true] at hs ⊢
    intro c hc
    exact hasS_name h (hs c hc)
   rw [this]
   cases decide (r.cond.length ≠ 0) <;> cases sortedB r.cond <;> cases hasS ns r.concl <;> rfl
theorem shapeB_rules {l : Lat} (h : shapeB l = false) (h6 : l.kind = 6) : l.rules = [] := by
 refine List.eq_nil_of_length_eq_zero ?_
 by_cases h0 : l.rules.length = 0
 · exact h0
 · have := shapeC_ruled (lo := l.lo) (hi := l.hi) (nn := l.names.length) (np := l.parts.length) (nr := l.rules.length) (k := l.kind) (by omega) h0
   exact absurd (h.symm.trans this) Bool.false_ne_true
theorem spell_named {l : Lat} (h : shapeB l = false) : spellB l = !(namedR l.kind l.names l.rules) := by
 unfold spellB namedR
 by_cases h6 : l.kind = 6
 · rw [if_pos h6, shapeB_rules h h6, h6]
   have : rulesB l.names [] = true := rfl
   rw [this]
   simp
 · rw [if_neg h6]
   have hk : (l.kind == 6) = false := by rw [beq_eq_false_iff_ne]; exact h6
   rw [hk, nmGo_all, Bool.false_or]
   unfold risingB
   cases hn : l.names.all nameB
   · simp
   · have hr : rulesB l.names l.rules = l.rules.all (ruleR l.names) := by
      unfold rulesB
      congr 1
      funext r
      exact (rule_eq hn r).symm
     rw [hr, Bool.true_and]
def nodeR (l : Lat) (d : Int) (n : Nat) : Int := if 6 < d ∨ 64 ≤ n then 6 else if shapeB l then 1 else if limitsB l then 6 else if namedR l.kind l.names l.rules = false then 3 else if l.hi < l.lo ∨ l.lo < -1000000000 ∨ 1000000000 < l.hi then 5 else if chainsB l then 4 else 0
theorem ranges_iff (l : Lat) : rangesB l = decide (l.hi < l.lo ∨ l.lo < -1000000000 ∨ 1000000000 < l.hi) := by
 unfold rangesB
 rw [decide_eq_decide]
 omega
theorem node_visit (f : Nat) (l : Lat) (n : Nat) (d : Int) (hd : d = 7 - f) (hf : f ≤ 6) : nodeR l d n ≠ 0 ∧ (visitF f l n).1 = nodeR l d n ∨ nodeR l d n = 0 ∧ ∃ g, f = g + 1 ∧ visitF f l n = goL (visitF g) l.parts (n + 1) := by
 unfold nodeR
 cases f with
 | zero =>
   left
   rw [if_pos (by omega)]
   exact ⟨by decide, rfl⟩
 | succ f =>
   have hv : visitF (f + 1) l n = if 64 ≤ n then (6, n) else if shapeB l then (1, n + 1) else if checkE l ≠ 0 then (checkE l, n + 1) else goL (visitF f) l.parts (n + 1) := rfl
   by_cases h64 : 64 ≤ n
   · left
     rw [if_pos (.inr h64), hv, if_pos h64]
     exact ⟨by decide, rfl⟩
   · rw [if_neg (by omega), hv, if_neg h64]
     cases hs : shapeB l
     · rw [if_neg Bool.false_ne_true, if_neg Bool.false_ne_true]
       have hc : checkE l = if limitsB l then 6 else if namedR l.kind l.names l.rules = false then 3 else if l.hi < l.lo ∨ l.lo < -1000000000 ∨ 1000000000 < l.hi then 5 else if chainsB l then 4 else 0 := by
        unfold checkE
        rw [spell_named hs, ranges_iff]
        cases limitsB l <;> cases namedR l.kind l.names l.rules <;> by_cases hr : (l.hi < l.lo ∨ l.lo < -1000000000 ∨ 1000000000 < l.hi) <;> cases chainsB l <;> simp [hr, whenI, orI]
       rw [← hc]
       by_cases h0 : checkE l = 0
       · right
         rw [if_neg (fun h => h h0)]
         exact ⟨h0, f, rfl, rfl⟩
       · left
         rw [if_pos h0]
         exact ⟨h0, rfl⟩
     · left
       rw [if_pos rfl, if_pos rfl]
       exact ⟨by decide, rfl⟩
theorem visit_le (f : Nat) : ∀ (l : Lat) (n : Nat), n ≤ 64 → (visitF f l n).2 ≤ 64 := by
 induction f with
 | zero => intro l n h; exact h
 | succ f ih =>
   intro l n h
   have hv : visitF (f + 1) l n = if 64 ≤ n then (6, n) else if shapeB l then (1, n + 1) else if checkE l ≠ 0 then (checkE l, n + 1) else goL (visitF f) l.parts (n + 1) := rfl
   have hg : ∀ (ps : List Lat) (n : Nat), n ≤ 64 → (goL (visitF f) ps n).2 ≤ 64 := by
    intro ps
    induction ps with
    | nil => intro n h; exact h
    | cons p t ht =>
      intro n h
      rw [goL]
      split
      · exact ih p n h
      · exact ht _ (ih p n h)
   rw [hv]
   split
   · exact h
   · split
     · show n + 1 ≤ 64; omega
     · split
       · show n + 1 ≤ 64; omega
       · exact hg _ _ (by omega)
theorem strLt_trans {a b c : ByteArray} (h1 : strLt a b = true) (h2 : strLt b c = true) : strLt a c = true := by
 rw [strLt_eq, decide_eq_true_eq] at *
 exact List.lt_trans h1 h2
theorem strLt_irr (a : ByteArray) : strLt a a = false := by
 rw [strLt_eq]
 exact decide_eq_false (List.lt_irrefl _)
def Ris (l : List ByteArray) : Prop := l.Pairwise fun a b => strLt a b = true
theorem sortedFrom_pw : ∀ (p : ByteArray) (l : List ByteArray), sortedFrom p l = true → (∀ x ∈ l, strLt p x = true) ∧ Ris l
 | _, [], _ => ⟨fun _ h => by simp at h, List.Pairwise.nil⟩
 | p, x :: t, h => by
   rw [sortedFrom, Bool.and_eq_true] at h
   obtain ⟨h1, h2⟩ := sortedFrom_pw x t h.2
   refine ⟨fun y hy => ?_, List.pairwise_cons.2 ⟨h1, h2⟩⟩
   rcases List.mem_cons.1 hy with rfl | hy
   · exact h.1
   · exact strLt_trans h.1 (h1 y hy)
theorem sorted_ris {l : List ByteArray} (h : sortedB l = true) : Ris l := by
 cases l with
 | nil => exact List.Pairwise.nil
 | cons x t =>
   obtain ⟨h1, h2⟩ := sortedFrom_pw x t h
   exact List.pairwise_cons.2 ⟨h1, h2⟩
theorem Ris.at {l : List ByteArray} (h : Ris l) {i j : Nat} (hij : i < j) (hj : j < l.length) : strLt (l[i]'(by omega)) l[j] = true := List.pairwise_iff_getElem.1 h i j (by omega) hj hij
theorem Ris.nodup {l : List ByteArray} (h : Ris l) : l.Nodup := h.imp fun {a b} hab e => by
  subst e
  rw [strLt_irr] at hab
  exact absurd hab Bool.false_ne_true
def Gos (B : Nat) (w : World) (v : Value) (L : List ByteArray) : Prop := w.ownsRow B 9 1 v L.length (L.map Value.string)
theorem Gos.shape {B : Nat} {w : World} {v : Value} {L : List ByteArray} (h : Gos B w v L) : ∃ a c, v = .slice a L.length c := owns_shape h
theorem Gos.below {B : Nat} {w w1 : World} {v : Value} {L : List ByteArray} (h : Gos B w v L) (k : Below w.heap.size w w1) : Gos B w1 v L := owns_below h k
theorem Gos.step {B : Nat} {w w1 : World} {v vn : Value} {L : List ByteArray} {s : ByteArray} (h : Appd w w1 B 9 1 v vn (L.length + 1) (L.map Value.string ++ [.string s])) : Gos B w1 vn (L ++ [s]) := by
 have := h.own
 unfold Gos
 rw [List.map_append, List.length_append]
 exact this
theorem Gos.strs {B : Nat} {w : World} {v : Value} {L : List ByteArray} (h : Gos B w v L) (hs : ∀ s ∈ L, s.size ≤ maxLen) : Strs w v L := SlRd.of_owns (f := fun s => [.string s]) (fun _ => rfl) (fun s hm => ⟨rfl, hs s hm⟩) (by
  rw [flat_one]; exact h)
theorem Gos.grown {B : Nat} {w0 w w1 : World} {v vn : Value} {N : Nat} {L : List ByteArray} {X : List Value} (h : Gos B w v L) (h0 : w0.heap.size ≤ B) (hb : Below w0.heap.size w0 w) (k : Appd w w1 B 9 1 v vn N X) : Below w0.heap.size w0 w1 :=
 hb.grown k.grown hb.size fun g hg => Nat.le_trans h0 (owns_tag h hg).1
def NamesPost (w : World) (L : List ByteArray) (e : Ending) (w' : World) : Prop := ∃ v, e = .returned v ∧ Strs w' v L ∧ Below w.heap.size w w'
def minusS (a b : List ByteArray) : List ByteArray := a.filter fun s => !hasS b s
def RulesOk (rs : List Rl) : Prop := ∀ r ∈ rs, Ris r.cond ∧ r.cond.length ≤ 1000000
def closeB (list : List ByteArray) (r : Rl) : Bool := !subsetS r.cond list || hasS list r.concl



end Go.Proofs.YtmdjnaobllajmaaGreatDoor
