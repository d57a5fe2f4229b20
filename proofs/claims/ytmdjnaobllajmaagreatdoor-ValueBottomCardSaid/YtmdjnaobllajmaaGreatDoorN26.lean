/-
  What the statements of the chapter share, part 26: VK5, VE10.
-/
import Derived.Test.YtmdjnaobllajmaaGreatDoorN14
import Derived.Test.YtmdjnaobllajmaaGreatDoorN25
set_option linter.unusedVariables false
set_option linter.unusedSimpArgs false
set_option maxRecDepth 100000
set_option maxHeartbeats 8000000
namespace Go.Proofs.YtmdjnaobllajmaaGreatDoor
open Go.RowKit
def WalkPost (w : World) (x : Int × Nat) (e : Ending) (w' : World) : Prop := ∃ m : Nat, e = .returned (.tuple #[.int .i64 m, .int .i64 x.1]) ∧ (x.1 = 0 → m = x.2) ∧ Below w.heap.size w w'
theorem latElS {w : World} {a : Option Addr} {n cap : Nat} {l : List Lat} (h : SlRd w 6 (latRd w) (.slice a n cap) l) (i : Nat) (hi : i < l.length) :
    ∃ p b o n0 p0 r0, p ∈ l ∧ l.drop i = p :: l.drop (i + 1) ∧ a = some ⟨b, o, none⟩ ∧ latRd w p [.int .i64 p.kind, .int .i64 p.lo, .int .i64 p.hi, n0, p0, r0] ∧ CellsAt w b (o + i * 6) [.int .i64 p.kind, .int .i64 p.lo, .int .i64 p.hi, n0, p0, r0] := by
  obtain ⟨b, o, cs, h1, _, hc, hr⟩ := h.at i hi
  have hr' := hr
  obtain ⟨n0, p0, r0, rfl, _⟩ := (latRd_iff _ _ _).1 hr
  exact ⟨l[i], b, o, n0, p0, r0, List.getElem_mem hi, drop_consS l i hi, h1, hr', hc⟩
theorem rWalk_any (f : Nat) : ∀ (d : Int) (l : Lat) (cs : List Value) (n : Nat) (w : World), f ≤ 6 → d = 7 - f → n ≤ 64 → latRd w l cs →
    Calls Tryz.prog 60 #[.agg cs.toArray, .int .i64 d, .int .i64 n] w (WalkPost w (visitF f l n)) := by
  induction f with
  | zero =>
    intro d l cs n w _ hd hn hl
    have HV := hid (node_visit 0 l n d hd (by omega))
    have HNO : Hid (∀ W, Below w.heap.size w W → Calls Tryz.prog 106 #[.agg cs.toArray, .int .i64 d, .int .i64 n] W fun e w' => e = .returned (.int .i64 (nodeR l d n)) ∧ Below W.heap.size W w') := hid fun W h => rNode_any l cs d n W (latRd.below h _ _ hl) (by omega) hn
    obtain ⟨vn, vp, vr, rfl, hx⟩ := (latRd_iff _ _ _).1 hl
    clear hl hx
    generalize hE : nodeR l d n = E at HV HNO
    clear hE
    generalize visitF 0 l n = vv at HV ⊢
    have hne : E ≠ 0 ∧ vv.1 = E := by
      rcases HV.out with h | ⟨_, g, h, _⟩
      · exact h
      · omega
    have hE : (E != 0) = true := by rw [bne_iff_ne]; exact hne.1
    have HE := hid hne
    have HBA : Hid (∀ O, Below w.heap.size w (w.alloc O)) := hid fun O => (Below.refl _ _).alloc (Nat.le_refl _) O
    have hn64 : (n : Int) ≤ 64 := by omega
    clear hne hd
    go_enter Tryz.func60, Tryz.ntmps60
    go_wp2_with fail
    refine (HNO.out _ (HBA.out _)).mono ?_
    rintro e w1 ⟨rfl, hb⟩
    have HB1 := hid ((HBA.out _).trans (hb.mono (by simp)))
    clear hb
    go_wp2_with fail
    go_ret2
    exact ⟨n, by rw [HE.out.2]; rfl, fun h => absurd (HE.out.2.symm.trans h) HE.out.1, HB1.out⟩
  | succ f ih =>
    intro d l cs n w hf hd hn hl
    have IH := hid ih
    have HV := hid (node_visit (f + 1) l n d hd hf)
    have HLE := hid (fun p m h => visit_le f p m h)
    have HNO : Hid (∀ W, Below w.heap.size w W → Calls Tryz.prog 106 #[.agg cs.toArray, .int .i64 d, .int .i64 n] W fun e w' => e = .returned (.int .i64 (nodeR l d n)) ∧ Below W.heap.size W w') := hid fun W h => rNode_any l cs d n W (latRd.below h _ _ hl) (by omega) hn
    have hn1 : nodeR l d n = 0 → n < 64 := fun h => by
      unfold nodeR at h
      by_cases h6 : 6 < d ∨ 64 ≤ n
      · rw [if_pos h6] at h; exact absurd h (by decide)
      · omega
    have HN1 := hid hn1
    clear hn1
    obtain ⟨vn, vp, vr, rfl, hi, hns, hps, hrs⟩ := (latRd_iff _ _ _).1 hl
    obtain ⟨k, lo, hi', ns, ps, rs⟩ := l
    simp only [Lat.kind, Lat.lo, Lat.hi, Lat.names, Lat.parts, Lat.rules] at hi hns hps hrs HV HNO ⊢
    obtain ⟨ap, cp, rfl, hlp, hmp⟩ := hps.shape
    have HPS := hid hps
    clear hl hi hns hps hrs ih
    generalize hE : nodeR (.mk k lo hi' ns ps rs) d n = E at HV HNO HN1
    clear hE
    generalize visitF (f + 1) (.mk k lo hi' ns ps rs) n = vv at HV ⊢
    have HB : Hid (∀ x : Ext (w.alloc (.cells #[.int .i64 k, .int .i64 lo, .int .i64 hi', vn, .slice ap ps.length cp, vr] 26)), Below w.heap.size w x.1) := hid fun x => ((Below.refl _ _).alloc (Nat.le_refl _) _).trans (x.2.mono (by simp))
    have HX : Hid (∀ (x : Ext (w.alloc (.cells #[.int .i64 k, .int .i64 lo, .int .i64 hi', vn, .slice ap ps.length cp, vr] 26))) (i : Nat) q, #[Value.int .i64 k, .int .i64 lo, .int .i64 hi', vn, .slice ap ps.length cp, vr][i]? = some q → x.1.cell? ⟨w.heap.size, i, none⟩ = some q) := hid fun x i q hq => x.cell (by rw [World.cell?_alloc_at _ _ _ _ rfl]; exact hq)
    have hn64 : (n : Int) ≤ 64 := by omega
    have hd1 : 1 ≤ d ∧ d ≤ 6 := by omega
    obtain ⟨hd1, hd6⟩ := hd1
    have HD := hid hd
    have HF := hid hf
    clear hd hf
    go_enter Tryz.func60, Tryz.ntmps60
    go_wp2_with fail
    generalize w.alloc (.cells #[.int .i64 k, .int .i64 lo, .int .i64 hi', vn, .slice ap ps.length cp, vr] 26) = W1 at HB HX ⊢
    obtain ⟨x0, hx⟩ := ext_self W1
    rw [hx]
    clear hx
    have l0 : ∀ x : Ext W1, x.1.cell? ⟨w.heap.size, 0, none⟩ = some (.int .i64 k) := fun x => HX.out x 0 _ rfl
    have l1 : ∀ x : Ext W1, x.1.cell? ⟨w.heap.size, 1, none⟩ = some (.int .i64 lo) := fun x => HX.out x 1 _ rfl
    have l2 : ∀ x : Ext W1, x.1.cell? ⟨w.heap.size, 2, none⟩ = some (.int .i64 hi') := fun x => HX.out x 2 _ rfl
    have l3 : ∀ x : Ext W1, x.1.cell? ⟨w.heap.size, 3, none⟩ = some vn := fun x => HX.out x 3 _ rfl
    have l4 : ∀ x : Ext W1, x.1.cell? ⟨w.heap.size, 4, none⟩ = some (.slice ap ps.length cp) := fun x => HX.out x 4 _ rfl
    have l5 : ∀ x : Ext W1, x.1.cell? ⟨w.heap.size, 5, none⟩ = some vr := fun x => HX.out x 5 _ rfl
    replace HNO := hid (ext_of HB.out HNO.out)
    go_wp2_with fail
    refine (HNO.out _).mono ?_
    rintro e _ ⟨rfl, x1, rfl⟩
    clear x0
    by_cases h0 : E = 0
    · have HN := hid (HN1.out h0)
      subst h0
      have HG : Hid (vv = goL (visitF f) (ps.drop 0) (n + 1)) := hid (by
        rcases HV.out with ⟨h, _⟩ | ⟨_, g, hg, hv⟩
        · exact absurd rfl h
        · obtain rfl : f = g := by omega
          exact hv)
      clear HV HNO l0 l1 l2 l3 l5
      have hn63 : (n : Int) < 64 := by have := HN.out; omega
      go_wp2_with fail
      go_loopw [9, 10, 11, 12] (fun c i _ _ wr => ∃ (j m : Nat) (x : Ext W1), j ≤ ps.length ∧ m ≤ 64 ∧ i = .int .i64 j ∧ c = .int .i64 m ∧ wr = x.1 ∧ Hid (vv = goL (visitF f) (ps.drop j) m)) (fun _ i _ _ _ => ps.length - (intOf i).toNat)
      case atStart => exact ⟨0, n + 1, x1, Nat.zero_le _, HN.out, rfl, rfl, rfl, HG⟩
      case round =>
        obtain ⟨j, m, x, hj, hm, rfl, rfl, rfl, He⟩ := hrel
        by_cases hlt : j < ps.length
        · obtain ⟨p, b, o, n0, p0, r0, _, hpd, rfl, hpr, hpc⟩ := latElS HPS.out j hlt
          have HPR := hid hpr
          have HC := hid hpc
          have HS : Hid (vv = if (visitF f p m).1 ≠ 0 then visitF f p m else goL (visitF f) (ps.drop (j + 1)) (visitF f p m).2) := hid (by rw [He.out, hpd, goL])
          have g0 : ∀ x : Ext W1, x.1.cell? ⟨b, o + j * 6, none⟩ = some (.int .i64 p.kind) := fun x => ((HC.out.below (HB.out x)) 0 (by simp))
          have g1 : ∀ x : Ext W1, x.1.cell? ⟨b, o + j * 6 + 1, none⟩ = some (.int .i64 p.lo) := fun x => ((HC.out.below (HB.out x)) 1 (by simp))
          have g2 : ∀ x : Ext W1, x.1.cell? ⟨b, o + j * 6 + 2, none⟩ = some (.int .i64 p.hi) := fun x => ((HC.out.below (HB.out x)) 2 (by simp))
          have g3 : ∀ x : Ext W1, x.1.cell? ⟨b, o + j * 6 + 3, none⟩ = some n0 := fun x => ((HC.out.below (HB.out x)) 3 (by simp))
          have g4 : ∀ x : Ext W1, x.1.cell? ⟨b, o + j * 6 + 4, none⟩ = some p0 := fun x => ((HC.out.below (HB.out x)) 4 (by simp))
          have g5 : ∀ x : Ext W1, x.1.cell? ⟨b, o + j * 6 + 5, none⟩ = some r0 := fun x => ((HC.out.below (HB.out x)) 5 (by simp))
          have HJ : Hid (j + 1 ≤ ps.length) := hid hlt
          have hi1 : (j : Int) < (ps.length : Int) := by omega
          have HL64 := hid (HLE.out p m hm)
          have HCALL : Hid (∀ y : Ext W1, Calls Tryz.prog 60 #[.agg #[.int .i64 p.kind, .int .i64 p.lo, .int .i64 p.hi, n0, p0, r0], .int .i64 (d + 1), .int .i64 m] y.1 (WalkPost y.1 (visitF f p m))) := hid fun y => IH.out (d + 1) p _ m y.1 (by have := HF.out; omega) (by have := HD.out; omega) hm (latRd.below (HB.out y) _ _ HPR.out)
          clear He hpr hpc hpd
          generalize visitF f p m = q at HS HCALL HL64
          obtain ⟨qe, qm⟩ := q
          simp only at HS HL64
          go_wp2_with fail
          refine (HCALL.out _).mono ?_
          rintro e w2 ⟨m', rfl, hm', hb⟩
          have HM := hid hm'
          simp only at HM
          obtain ⟨x2, hx2⟩ : ∃ y : Ext W1, w2 = y.1 := ⟨⟨w2, x.2.trans (hb.mono x.2.size)⟩, rfl⟩
          subst hx2
          clear hb hm'
          by_cases hq : qe = 0
          · have HM2 : Hid (m' = qm) := hid (HM.out hq)
            subst hq
            have HS2 : Hid (vv = goL (visitF f) (ps.drop (j + 1)) qm) := hid (by rw [HS.out, if_neg (fun h => h rfl)])
            clear HS HM
            go_wp2_with fail
            go_roundw
            case rel => exact ⟨j + 1, m', x2, HJ.out, by rw [HM2.out]; exact HL64.out, by go_num, rfl, rfl, hid (by rw [HM2.out]; exact HS2.out)⟩
            case measure => have := HJ.out; simp [intOf]; omega
          · have HQ := hid hq
            have HS2 : Hid (vv = (qe, qm)) := hid (by rw [HS.out, if_pos hq])
            have hqe : (qe != 0) = true := by rw [bne_iff_ne]; exact hq
            clear HS HM hq
            go_wp2_with fail
            go_ret2
            rw [HS2.out]
            exact ⟨m, rfl, fun h => absurd h HQ.out, HB.out _⟩
        · have hjj : j = ps.length := by omega
          subst hjj
          have HF : Hid (vv = (0, m)) := hid (by rw [He.out, List.drop_eq_nil_of_le (Nat.le_refl _)]; rfl)
          clear hlt hj
          go_wp2_with fail
          go_ret2
          rw [HF.out]
          exact ⟨m, rfl, fun _ => rfl, HB.out _⟩
    · have hE : (E != 0) = true := by rw [bne_iff_ne]; exact h0
      have HE : Hid (E ≠ 0 ∧ vv.1 = E) := hid (by
        rcases HV.out with h | ⟨h, _⟩
        · exact h
        · exact absurd h h0)
      clear HV h0
      go_wp2_with fail
      go_ret2
      exact ⟨n, by rw [HE.out.2]; rfl, fun h => absurd (HE.out.2.symm.trans h) HE.out.1, HB.out _⟩
theorem rCheck_any (l : Lat) (cs : List Value) (w : World) (hl : latRd w l cs) :
    Calls Tryz.prog 31 #[.agg cs.toArray] w fun e w' => e = .returned (.int .i64 (chkE l)) ∧ Below w.heap.size w w' := by
  have HW : Hid (∀ W, Below w.heap.size w W → Calls Tryz.prog 60 #[.agg cs.toArray, .int .i64 1, .int .i64 0] W (WalkPost W (visitF 6 l 0))) := hid fun W h => rWalk_any 6 1 l cs 0 W (Nat.le_refl _) (by omega) (by omega) (latRd.below h _ _ hl)
  have HBA : Hid (∀ O, Below w.heap.size w (w.alloc O)) := hid fun O => (Below.refl _ _).alloc (Nat.le_refl _) O
  have HC : Hid ((visitF 6 l 0).1 = chkE l) := hid rfl
  obtain ⟨vn, vp, vr, rfl, hx⟩ := (latRd_iff _ _ _).1 hl
  clear hl hx
  generalize visitF 6 l 0 = q at HW HC
  generalize chkE l = E at HC ⊢
  obtain ⟨qe, qm⟩ := q
  simp only at HC
  go_enter Tryz.func31, Tryz.ntmps31
  go_wp2_with fail
  refine (HW.out _ (HBA.out _)).mono ?_
  rintro e w1 ⟨m, rfl, _, hb⟩
  have HB1 := hid ((HBA.out _).trans (hb.mono (by simp)))
  clear hb
  go_wp2_with fail
  go_ret
  exact ⟨ret_int HC.out, HB1.out⟩
theorem WfL.rules {l : Lat} (h : WfL l) : RulesOk l.rules := by
  have h1 := h.spell
  have h2 := h.kinds.2.2.2.2.2.2.2.1
  unfold spellB at h1
  rw [Bool.not_eq_false', Bool.and_eq_true] at h1
  intro r hr
  have h3 := List.all_eq_true.1 h1.2 r hr
  unfold ruleB at h3
  simp only [Bool.and_eq_true] at h3
  have hs := sorted_ris h3.1.1.2
  refine ⟨hs, ?_⟩
  have hsub : r.cond ⊆ l.names := fun x hx => (hasS_iff _ _).1 (List.all_eq_true.1 h3.1.2 x hx)
  have := List.Nodup.length_le_of_subset hs.nodup hsub
  omega
theorem usedB_iff (v : Val) (n list parts entries : Bool) : usedB v n list parts entries = true ↔ ((n = true ∨ v.n = 0) ∧ (list = true ∨ v.names.length = 0) ∧ (parts = true ∨ v.parts.length = 0) ∧ (entries = true ∨ v.entries.length = 0)) := by
  unfold usedB
  simp only [Bool.and_eq_true, Bool.or_eq_true, decide_eq_true_eq, and_assoc]
theorem elem_iff_1 {l : Lat} {v : Val} (h : l.kind = 1) : elemB l v = true ↔ v.entries.length = 0 ∧ (v.n = 0 ∨ v.n = 1) ∧ v.names.length = 0 ∧ v.parts.length = 0 := by
  rw [elemB_eq, if_pos h, Bool.and_eq_true, usedB_iff, decide_eq_true_eq]
  grind
theorem elem_iff_23 {l : Lat} {v : Val} (h : l.kind = 2 ∨ l.kind = 3) : elemB l v = true ↔ v.entries.length = 0 ∧ (l.lo ≤ v.n ∧ v.n ≤ l.hi) ∧ v.names.length = 0 ∧ v.parts.length = 0 := by
  rw [elemB_eq, if_neg (by omega), if_pos h, Bool.and_eq_true, usedB_iff, decide_eq_true_eq]
  grind
theorem elem_iff_4 {l : Lat} {v : Val} (h : l.kind = 4) : elemB l v = true ↔ v.entries.length = 0 ∧ v.n = 0 ∧ v.parts.length = 0 ∧ allowedB l.names v.names = true := by
  rw [elemB_eq, if_neg (by omega), if_neg (by omega), if_pos h, Bool.and_eq_true, usedB_iff]
  grind
theorem elem_iff_10 {l : Lat} {v : Val} (h : l.kind = 10) : elemB l v = true ↔ v.entries.length = 0 ∧ v.n = 0 ∧ v.parts.length = 0 ∧ allowedB l.names v.names = true ∧ closedB l.rules v.names = true := by
  rw [elemB_eq, if_neg (by omega), if_neg (by omega), if_neg (by omega), if_pos h, Bool.and_eq_true, Bool.and_eq_true, usedB_iff]
  grind
theorem elem_iff_8 {l : Lat} {v : Val} (h : l.kind = 8) : elemB l v = true ↔ v.entries.length = 0 ∧ v.parts.length = 0 ∧ ((v.n = 0 ∨ v.n = 2) ∧ v.names.length = 0 ∨ v.n = 1 ∧ v.names.length = 1 ∧ allowedB l.names v.names = true) := by
  rw [elemB_eq, if_neg (by omega), if_neg (by omega), if_neg (by omega), if_neg (by omega), if_pos h]
  by_cases h1 : v.n = 0 ∨ v.n = 2
  · rw [if_pos h1, usedB_iff]
    grind
  · rw [if_neg h1]
    by_cases h2 : v.n = 1
    · rw [if_pos h2, Bool.and_eq_true, Bool.and_eq_true, usedB_iff, decide_eq_true_eq]
      grind
    · rw [if_neg h2]
      grind
theorem elem_iff_9 {l : Lat} {v : Val} (h : l.kind = 9) : elemB l v = true ↔ v.n = 0 ∧ v.names.length = 0 ∧ v.parts.length = 0 ∧ regB v.entries = true := by
  rw [elemB_eq, if_neg (by omega), if_neg (by omega), if_neg (by omega), if_neg (by omega), if_neg (by omega), if_pos h, Bool.and_eq_true, usedB_iff]
  grind
theorem elem_iff_5 {l : Lat} {v : Val} {p : Lat} (h : l.kind = 5) (hp : l.parts = [p]) : elemB l v = (decide (v.entries.length = 0) && (decide (v.n = 0) && (decide (v.names.length = v.parts.length) && (allowedB l.names v.names && v.parts.all fun v => elemB p v && decide (valC v (botV p) ≠ 0))))) := by
  rw [elemB_eq, if_neg (by omega), if_neg (by omega), if_neg (by omega), if_neg (by omega), if_neg (by omega), if_neg (by omega), if_pos h, hp, mapB, Bool.eq_iff_iff]
  simp only [Bool.and_eq_true, usedB_iff, decide_eq_true_eq]
  grind
theorem elem_iff_67 {l : Lat} {v : Val} (h : l.kind = 6 ∨ l.kind = 7) : elemB l v = (decide (v.entries.length = 0) && (decide (v.n = 0) && (decide (v.names.length = 0) && (decide (v.parts.length = l.parts.length) && elemsB l.parts v.parts)))) := by
  rw [elemB_eq, if_neg (by omega), if_neg (by omega), if_neg (by omega), if_neg (by omega), if_neg (by omega), if_neg (by omega), if_neg (by omega), Bool.eq_iff_iff]
  simp only [Bool.and_eq_true, usedB_iff, decide_eq_true_eq]
  grind
theorem rElement_any (f : Nat) : ∀ (l : Lat) (v : Val) (cl cv : List Value) (w : World), SizeOf.sizeOf l ≤ f → latRd w l cl → valRd w v cv → WfL l →
    Calls Tryz.prog 38 #[.agg cl.toArray, .agg cv.toArray] w fun e w' => e = .returned (.bool (elemB l v)) ∧ Below w.heap.size w w' := by
  induction f with
  | zero => intro l v cl cv w hn; cases l; simp at hn
  | succ f ih =>
    intro l v cl cv w hn hl hv hwf
    obtain ⟨vn, vp, vr, rfl, hi, hns, hps, hrs⟩ := (latRd_iff _ _ _).1 hl
    obtain ⟨un, up, ue, rfl, gi, gn, gp, ge⟩ := (valRd_iff _ _ _).1 hv
    have hkind := hwf.kinds
    have hrules := hwf.rules
    have hpart : ∀ p ∈ l.parts, WfL p ∧ SizeOf.sizeOf p ≤ f := fun p hp => ⟨hwf.part hp, by have := sizeOf_part (l := l) (p := p) hp; omega⟩
    obtain ⟨k, lo, hi', ns, ps, rs⟩ := l
    obtain ⟨n, vns, vps, ves⟩ := v
    simp only [Lat.kind, Lat.lo, Lat.hi, Lat.names, Lat.parts, Lat.rules, Val.n, Val.names, Val.parts, Val.entries] at *
    obtain ⟨ap, cp, rfl, _, _⟩ := hps.shape
    obtain ⟨bn, bcn, rfl, _, _⟩ := gn.shape
    obtain ⟨bp, bcp, rfl, _, _⟩ := gp.shape
    obtain ⟨be, bce, rfl, _, _⟩ := ge.shape
    have HM : Hid (∀ W, Below w.heap.size w W → Calls Tryz.prog 68 #[vn, .slice bn vns.length bcn] W fun e w' => e = .returned (.bool (allowedB ns vns)) ∧ Below W.heap.size W w') := hid fun W h => rMembers_any _ _ _ _ W (hns.below h) (gn.below h)
    have HEN : Hid (∀ W, Below w.heap.size w W → Calls Tryz.prog 69 #[.slice be ves.length bce] W fun e w' => e = .returned (.bool (regB ves)) ∧ Below W.heap.size W w') := hid fun W h => by
      rw [← rents_reg]
      exact rEnts_any _ _ W (SlRd.below ge h fun _ _ _ k => k.below h)
    have HCL : Hid (∀ W, Below w.heap.size w W → Calls Tryz.prog 70 #[vr, .slice bn vns.length bcn] W fun e w' => e = .returned (.bool (closedB rs vns)) ∧ Below W.heap.size W w') := hid fun W h => rClosed_any _ _ _ _ W (SlRd.below hrs h fun _ _ _ k => k.below h) (gn.below h) hrules
    have HIH : Hid (∀ (p : Lat) (q : Val) (cl cq : List Value) (W : World), p ∈ ps → Below w.heap.size w W → latRd W p cl → valRd W q cq → Calls Tryz.prog 38 #[.agg cl.toArray, .agg cq.toArray] W fun e w' => e = .returned (.bool (elemB p q)) ∧ Below W.heap.size W w') := hid fun p q c1 c2 W hp _ h1 h2 => ih p q c1 c2 W (hpart p hp).2 h1 h2 (hpart p hp).1
    have hk : k = 1 ∨ k = 2 ∨ k = 3 ∨ k = 4 ∨ k = 5 ∨ k = 6 ∨ k = 7 ∨ k = 8 ∨ k = 9 ∨ k = 10 := by omega
    have hm5 : k = 5 → ps.length = 1 := hkind.2.1
    clear hkind ih hn hwf
    rcases hk with rfl | rfl | rfl | rfl | rfl | rfl | rfl | rfl | rfl | rfl
    · exact relem_1 lo hi' vn _ vr n vns.length vps.length ves.length bn bp be bcn bcp bce w _ (hid (elem_iff_1 rfl))
    · exact relem_2 lo hi' vn _ vr n vns.length vps.length ves.length bn bp be bcn bcp bce w _ (hid (elem_iff_23 (.inl rfl)))
    · exact relem_3 lo hi' vn _ vr n vns.length vps.length ves.length bn bp be bcn bcp bce w _ (hid (elem_iff_23 (.inr rfl)))
    · exact relem_4 lo hi' vn _ vr n vns.length vps.length ves.length bn bp be bcn bcp bce w _ (allowedB ns vns) HM (hid (elem_iff_4 rfl))
    · obtain ⟨p, rfl⟩ : ∃ p, ps = [p] := by
        match ps, hm5 rfl with
        | [p], _ => exact ⟨p, rfl⟩
      exact relem_5 lo hi' vn vr n vns.length ves.length bn bp be bcn bcp bce w _ vps ap cp [p] (hid gp) (hid hps) p rfl (allowedB ns vns) HM (hid fun q c1 c2 W h h1 h2 => HIH.out p q c1 c2 W (by simp) h h1 h2) (hid fun c1 W h h1 => least_any _ p c1 W (Nat.le_refl _) h1 (hpart p (by simp)).1) (hid (elem_iff_5 rfl rfl))
    · exact relem_6 lo hi' vn vr n vns.length ves.length bn bp be bcn bcp bce w _ vps ap cp ps (hid gp) (hid hps) HIH (hid (elem_iff_67 (.inl rfl)))
    · exact relem_7 lo hi' vn vr n vns.length ves.length bn bp be bcn bcp bce w _ vps ap cp ps (hid gp) (hid hps) HIH (hid (elem_iff_67 (.inr rfl)))
    · exact relem_8 lo hi' vn _ vr n vns.length vps.length ves.length bn bp be bcn bcp bce w _ (allowedB ns vns) HM (hid (elem_iff_8 rfl))
    · exact relem_9 lo hi' vn _ vr n vns.length vps.length ves.length bn bp be bcn bcp bce w _ (regB ves) HEN (hid (elem_iff_9 rfl))
    · exact relem_10 lo hi' vn _ vr n vns.length vps.length ves.length bn bp be bcn bcp bce w _ (allowedB ns vns) HM (closedB rs vns) HCL (hid (elem_iff_10 rfl))
theorem rValid_any (l : Lat) (v : Val) (cl cv : List Value) (w : World) (hl : latRd w l cl) (hv : valRd w v cv) :
    Calls Tryz.prog 16 #[.agg cl.toArray, .agg cv.toArray] w fun e w' => e = .returned (.bool (validB l v)) ∧ Below w.heap.size w w' := by
  have HC : Hid (∀ W, Below w.heap.size w W → Calls Tryz.prog 31 #[.agg cl.toArray] W fun e w' => e = .returned (.int .i64 (chkE l)) ∧ Below W.heap.size W w') := hid fun W h => rCheck_any l cl W (latRd.below h _ _ hl)
  have HEL : Hid (chkE l = 0 → ∀ W, Below w.heap.size w W → Calls Tryz.prog 38 #[.agg cl.toArray, .agg cv.toArray] W fun e w' => e = .returned (.bool (elemB l v)) ∧ Below W.heap.size W w') := hid fun h0 W h => rElement_any _ l v cl cv W (Nat.le_refl _) (latRd.below h _ _ hl) (valRd.below h _ _ hv) (chkE_wf h0)
  have HE : Hid (validB l v = (decide (chkE l = 0) && elemB l v)) := hid rfl
  generalize validB l v = R at HE ⊢
  obtain ⟨vn, vp, vr, rfl, _⟩ := (latRd_iff _ _ _).1 hl
  obtain ⟨un, up, ue, rfl, _⟩ := (valRd_iff _ _ _).1 hv
  clear hl hv
  generalize l.kind = k at HC HEL ⊢
  generalize l.lo = lo at HC HEL ⊢
  generalize l.hi = hi' at HC HEL ⊢
  generalize v.n = n at HEL ⊢
  generalize chkE l = CE at HC HEL HE
  generalize elemB l v = EL at HEL HE
  have HB : Hid (∀ x : Ext ((w.alloc (.cells #[.int .i64 k, .int .i64 lo, .int .i64 hi', vn, vp, vr] 26)).alloc (.cells #[.int .i64 n, un, up, ue] 30)), Below w.heap.size w x.1) := hid fun x => (((Below.refl _ _).alloc (Nat.le_refl _) _).alloc (by simp) _).trans (x.2.mono (by simp; omega))
  have HBl : Hid (Box ((w.alloc (.cells #[.int .i64 k, .int .i64 lo, .int .i64 hi', vn, vp, vr] 26)).alloc (.cells #[.int .i64 n, un, up, ue] 30)) (w.heap.size) #[.int .i64 k, .int .i64 lo, .int .i64 hi', vn, vp, vr]) := hid ((Box.new _ _ _ _ rfl).alloc _)
  have HBv : Hid (Box ((w.alloc (.cells #[.int .i64 k, .int .i64 lo, .int .i64 hi', vn, vp, vr] 26)).alloc (.cells #[.int .i64 n, un, up, ue] 30)) (w.heap.size + 1) #[.int .i64 n, un, up, ue]) := hid (Box.new _ _ _ _ (by simp))
  go_enter Tryz.func16, Tryz.ntmps16
  go_wp2_with fail
  generalize (w.alloc (.cells #[.int .i64 k, .int .i64 lo, .int .i64 hi', vn, vp, vr] 26)).alloc (.cells #[.int .i64 n, un, up, ue] 30) = W2 at HB HBl HBv ⊢
  obtain ⟨x0, hx⟩ := ext_self W2
  rw [hx]
  clear hx
  have l0 : ∀ x : Ext W2, x.1.cell? ⟨w.heap.size, 0, none⟩ = some (.int .i64 k) := fun x => (HBl.out.ext x) 0 _ rfl
  have l1 : ∀ x : Ext W2, x.1.cell? ⟨w.heap.size, 1, none⟩ = some (.int .i64 lo) := fun x => (HBl.out.ext x) 1 _ rfl
  have l2 : ∀ x : Ext W2, x.1.cell? ⟨w.heap.size, 2, none⟩ = some (.int .i64 hi') := fun x => (HBl.out.ext x) 2 _ rfl
  have l3 : ∀ x : Ext W2, x.1.cell? ⟨w.heap.size, 3, none⟩ = some vn := fun x => (HBl.out.ext x) 3 _ rfl
  have l4 : ∀ x : Ext W2, x.1.cell? ⟨w.heap.size, 4, none⟩ = some vp := fun x => (HBl.out.ext x) 4 _ rfl
  have l5 : ∀ x : Ext W2, x.1.cell? ⟨w.heap.size, 5, none⟩ = some vr := fun x => (HBl.out.ext x) 5 _ rfl
  have v0 : ∀ x : Ext W2, x.1.cell? ⟨w.heap.size + 1, 0, none⟩ = some (.int .i64 n) := fun x => (HBv.out.ext x) 0 _ rfl
  have v1 : ∀ x : Ext W2, x.1.cell? ⟨w.heap.size + 1, 1, none⟩ = some un := fun x => (HBv.out.ext x) 1 _ rfl
  have v2 : ∀ x : Ext W2, x.1.cell? ⟨w.heap.size + 1, 2, none⟩ = some up := fun x => (HBv.out.ext x) 2 _ rfl
  have v3 : ∀ x : Ext W2, x.1.cell? ⟨w.heap.size + 1, 3, none⟩ = some ue := fun x => (HBv.out.ext x) 3 _ rfl
  replace HC := hid (ext_of HB.out HC.out)
  refine (HC.out _).mono ?_
  rintro e _ ⟨rfl, x1, rfl⟩
  clear HC
  by_cases h0 : CE = 0
  · have HF : Hid (R = EL) := hid (by rw [HE.out, decide_eq_true h0]; rfl)
    replace HEL := hid (ext_of HB.out (HEL.out h0))
    subst h0
    go_wp2_with fail
    refine (HEL.out _).mono ?_
    rintro e _ ⟨rfl, x2, rfl⟩
    go_wp2_with fail
    go_ret
    exact ⟨ret_bool HF.out.symm, HB.out _⟩
  · have HF : Hid (R = false) := hid (by rw [HE.out, decide_eq_false h0]; rfl)
    have hz : (CE == 0) = false := by rw [beq_eq_false_iff_ne]; exact h0
    clear h0
    go_wp2_with fail
    go_ret
    exact ⟨ret_bool HF.out.symm, HB.out _⟩
end Go.Proofs.YtmdjnaobllajmaaGreatDoor
