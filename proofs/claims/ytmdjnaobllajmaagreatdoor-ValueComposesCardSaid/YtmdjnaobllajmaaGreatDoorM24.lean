/-
  What the statements of the chapter share, part 24: VK5, PSize, VLawPre, PComp.
-/
import Derived.Test.YtmdjnaobllajmaaGreatDoorM10
import Derived.Test.YtmdjnaobllajmaaGreatDoorM12
import Derived.Test.YtmdjnaobllajmaaGreatDoorM14
import Derived.Test.YtmdjnaobllajmaaGreatDoorM15
import Derived.Test.YtmdjnaobllajmaaGreatDoorM20
import Derived.Test.YtmdjnaobllajmaaGreatDoorM21
import Derived.Test.YtmdjnaobllajmaaGreatDoorM23
set_option linter.unusedVariables false
set_option linter.unusedSimpArgs false
/- The walks of the reference of package lattice: walk, Check. -/
namespace Go.Proofs.YtmdjnaobllajmaaGreatDoor
open Go.RowKit

def WalkPost (w : World) (x : Int × Nat) (e : Ending) (w' : World) : Prop := ∃ m : Nat, e = .returned (.tuple #[.int .i64 m, .int .i64 x.1]) ∧ (x.1 = 0 → m = x.2) ∧ Below w.heap.size w w'
theorem latElS {w : World} {a : Option Addr} {n cap : Nat} {l : List Lat} (h : SlRd w 6 (latRd w) (.slice a n cap) l) (i : Nat) (hi : i < l.length) :
    ∃ p b o n0 p0 r0, p ∈ l ∧ l.drop i = p :: l.drop (i + 1) ∧ a = some ⟨b, o, none⟩ ∧ latRd w p [.int .i64 p.kind, .int .i64 p.lo, .int .i64 p.hi, n0, p0, r0] ∧ CellsAt w b (o + i * 6) [.int .i64 p.kind, .int .i64 p.lo, .int .i64 p.hi, n0, p0, r0] := by
  obtain ⟨b, o, cs, h1, _, hc, hr⟩ := h.at i hi
  have hr' := hr
  obtain ⟨n0, p0, r0, rfl, _⟩ := (latRd_iff _ _ _).1 hr
  exact ⟨l[i], b, o, n0, p0, r0, List.getElem_mem hi, drop_consS l i hi, h1, hr', hc⟩

set_option maxRecDepth 100000 in
set_option maxHeartbeats 4000000 in
theorem rWalk_any (f : Nat) : ∀ (d : Int) (l : Lat) (cs : List Value) (n : Nat) (w : World), f ≤ 6 → d = 7 - f → n ≤ 64 → latRd w l cs →
    Calls Tryz.prog 60 #[.agg cs.toArray, .int .i64 d, .int .i64 n] w (WalkPost w (visitF f l n)) := by
  induction f with
  | zero =>
    intro d l cs n w _ hd hn hl
    have HV := hid (node_visit 0 l n d hd (by omega))
    have HNO : Hid (∀ W, Below w.heap.size w W → Calls Tryz.prog 106 #[.agg cs.toArray, .int .i64 d, .int .i64 n] W fun e w' => e = .returned (.int .i64 (nodeR l d n)) ∧ Below W.heap.size W w') := hid fun W h => rNode_any l cs d n W (latRd.below h _ _ hl) (by omega) hn
    obtain ⟨vn, vp, vr, rfl, hx⟩ := (latRd_iff _ _ _).1 hl
    clear hl hx
    generalize hE : nodeR l d n = E at HV HNO
    clear hE
    generalize visitF 0 l n = vv at HV ⊢
    have hne : E ≠ 0 ∧ vv.1 = E := by
      rcases HV.out with h | ⟨_, g, h, _⟩
      · exact h
      · omega
    have hE : (E != 0) = true := by rw [bne_iff_ne]; exact hne.1
    have HE := hid hne
    have HBA : Hid (∀ O, Below w.heap.size w (w.alloc O)) := hid fun O => (Below.refl _ _).alloc (Nat.le_refl _) O
    have hn64 : (n : Int) ≤ 64 := by omega
    clear hne hd
    go_enter Tryz.func60, Tryz.ntmps60
    go_wp2_with fail
    refine (HNO.out _ (HBA.out _)).mono ?_
    rintro e w1 ⟨rfl, hb⟩
    have HB1 := hid ((HBA.out _).trans (hb.mono (by simp)))
    clear hb
    go_wp2_with fail
    go_ret2
    exact ⟨n, by rw [HE.out.2]; rfl, fun h => absurd (HE.out.2.symm.trans h) HE.out.1, HB1.out⟩
  | succ f ih =>
    intro d l cs n w hf hd hn hl
    have IH := hid ih
    have HV := hid (node_visit (f + 1) l n d hd hf)
    have HLE := hid (fun p m h => visit_le f p m h)
    have HNO : Hid (∀ W, Below w.heap.size w W → Calls Tryz.prog 106 #[.agg cs.toArray, .int .i64 d, .int .i64 n] W fun e w' => e = .returned (.int .i64 (nodeR l d n)) ∧ Below W.heap.size W w') := hid fun W h => rNode_any l cs d n W (latRd.below h _ _ hl) (by omega) hn
    have hn1 : nodeR l d n = 0 → n < 64 := fun h => by
      unfold nodeR at h
      by_cases h6 : 6 < d ∨ 64 ≤ n
      · rw [if_pos h6] at h; exact absurd h (by decide)
      · omega
    have HN1 := hid hn1
    clear hn1
    obtain ⟨vn, vp, vr, rfl, hi, hns, hps, hrs⟩ := (latRd_iff _ _ _).1 hl
    obtain ⟨k, lo, hi', ns, ps, rs⟩ := l
    simp only [Lat.kind, Lat.lo, Lat.hi, Lat.names, Lat.parts, Lat.rules] at hi hns hps hrs HV HNO ⊢
    obtain ⟨ap, cp, rfl, hlp, hmp⟩ := hps.shape
    have HPS := hid hps
    clear hl hi hns hps hrs ih
    generalize hE : nodeR (.mk k lo hi' ns ps rs) d n = E at HV HNO HN1
    clear hE
    generalize visitF (f + 1) (.mk k lo hi' ns ps rs) n = vv at HV ⊢
    have HB : Hid (∀ x : Ext (w.alloc (.cells #[.int .i64 k, .int .i64 lo, .int .i64 hi', vn, .slice ap ps.length cp, vr] 26)), Below w.heap.size w x.1) := hid fun x => ((Below.refl _ _).alloc (Nat.le_refl _) _).trans (x.2.mono (by simp))
    have HX : Hid (∀ (x : Ext (w.alloc (.cells #[.int .i64 k, .int .i64 lo, .int .i64 hi', vn, .slice ap ps.length cp, vr] 26))) (i : Nat) q, #[Value.int .i64 k, .int .i64 lo, .int .i64 hi', vn, .slice ap ps.length cp, vr][i]? = some q → x.1.cell? ⟨w.heap.size, i, none⟩ = some q) := hid fun x i q hq => x.cell (by rw [World.cell?_alloc_at _ _ _ _ rfl]; exact hq)
    have hn64 : (n : Int) ≤ 64 := by omega
    have hd1 : 1 ≤ d ∧ d ≤ 6 := by omega
    obtain ⟨hd1, hd6⟩ := hd1
    have HD := hid hd
    have HF := hid hf
    clear hd hf
    go_enter Tryz.func60, Tryz.ntmps60
    go_wp2_with fail
    generalize w.alloc (.cells #[.int .i64 k, .int .i64 lo, .int .i64 hi', vn, .slice ap ps.length cp, vr] 26) = W1 at HB HX ⊢
    obtain ⟨x0, hx⟩ := ext_self W1
    rw [hx]
    clear hx
    have l0 : ∀ x : Ext W1, x.1.cell? ⟨w.heap.size, 0, none⟩ = some (.int .i64 k) := fun x => HX.out x 0 _ rfl
    have l1 : ∀ x : Ext W1, x.1.cell? ⟨w.heap.size, 1, none⟩ = some (.int .i64 lo) := fun x => HX.out x 1 _ rfl
    have l2 : ∀ x : Ext W1, x.1.cell? ⟨w.heap.size, 2, none⟩ = some (.int .i64 hi') := fun x => HX.out x 2 _ rfl
    have l3 : ∀ x : Ext W1, x.1.cell? ⟨w.heap.size, 3, none⟩ = some vn := fun x => HX.out x 3 _ rfl
    have l4 : ∀ x : Ext W1, x.1.cell? ⟨w.heap.size, 4, none⟩ = some (.slice ap ps.length cp) := fun x => HX.out x 4 _ rfl
    have l5 : ∀ x : Ext W1, x.1.cell? ⟨w.heap.size, 5, none⟩ = some vr := fun x => HX.out x 5 _ rfl
    replace HNO := hid (ext_of HB.out HNO.out)
    go_wp2_with fail
    refine (HNO.out _).mono ?_
    rintro e _ ⟨rfl, x1, rfl⟩
    clear x0
    by_cases h0 : E = 0
    · have HN := hid (HN1.out h0)
      subst h0
      have HG : Hid (vv = goL (visitF f) (ps.drop 0) (n + 1)) := hid (by
        rcases HV.out with ⟨h, _⟩ | ⟨_, g, hg, hv⟩
        · exact absurd rfl h
        · obtain rfl : f = g := by omega
          exact hv)
      clear HV HNO l0 l1 l2 l3 l5
      have hn63 : (n : Int) < 64 := by have := HN.out; omega
      go_wp2_with fail
      go_loopw [9, 10, 11, 12] (fun c i _ _ wr => ∃ (j m : Nat) (x : Ext W1), j ≤ ps.length ∧ m ≤ 64 ∧ i = .int .i64 j ∧ c = .int .i64 m ∧ wr = x.1 ∧ Hid (vv = goL (visitF f) (ps.drop j) m)) (fun _ i _ _ _ => ps.length - (intOf i).toNat)
      case atStart => exact ⟨0, n + 1, x1, Nat.zero_le _, HN.out, rfl, rfl, rfl, HG⟩
      case round =>
        obtain ⟨j, m, x, hj, hm, rfl, rfl, rfl, He⟩ := hrel
        by_cases hlt : j < ps.length
        · obtain ⟨p, b, o, n0, p0, r0, _, hpd, rfl, hpr, hpc⟩ := latElS HPS.out j hlt
          have HPR := hid hpr
          have HC := hid hpc
          have HS : Hid (vv = if (visitF f p m).1 ≠ 0 then visitF f p m else goL (visitF f) (ps.drop (j + 1)) (visitF f p m).2) := hid (by rw [He.out, hpd, goL])
          have g0 : ∀ x : Ext W1, x.1.cell? ⟨b, o + j * 6, none⟩ = some (.int .i64 p.kind) := fun x => ((HC.out.below (HB.out x)) 0 (by simp))
          have g1 : ∀ x : Ext W1, x.1.cell? ⟨b, o + j * 6 + 1, none⟩ = some (.int .i64 p.lo) := fun x => ((HC.out.below (HB.out x)) 1 (by simp))
          have g2 : ∀ x : Ext W1, x.1.cell? ⟨b, o + j * 6 + 2, none⟩ = some (.int .i64 p.hi) := fun x => ((HC.out.below (HB.out x)) 2 (by simp))
          have g3 : ∀ x : Ext W1, x.1.cell? ⟨b, o + j * 6 + 3, none⟩ = some n0 := fun x => ((HC.out.below (HB.out x)) 3 (by simp))
          have g4 : ∀ x : Ext W1, x.1.cell? ⟨b, o + j * 6 + 4, none⟩ = some p0 := fun x => ((HC.out.below (HB.out x)) 4 (by simp))
          have g5 : ∀ x : Ext W1, x.1.cell? ⟨b, o + j * 6 + 5, none⟩ = some r0 := fun x => ((HC.out.below (HB.out x)) 5 (by simp))
          have HJ : Hid (j + 1 ≤ ps.length) := hid hlt
          have hi1 : (j : Int) < (ps.length : Int) := by omega
          have HL64 := hid (HLE.out p m hm)
          have HCALL : Hid (∀ y : Ext W1, Calls Tryz.prog 60 #[.agg #[.int .i64 p.kind, .int .i64 p.lo, .int .i64 p.hi, n0, p0, r0], .int .i64 (d + 1), .int .i64 m] y.1 (WalkPost y.1 (visitF f p m))) := hid fun y => IH.out (d + 1) p _ m y.1 (by have := HF.out; omega) (by have := HD.out; omega) hm (latRd.below (HB.out y) _ _ HPR.out)
          clear He hpr hpc hpd
          generalize visitF f p m = q at HS HCALL HL64
          obtain ⟨qe, qm⟩ := q
          simp only at HS HL64
          go_wp2_with fail
          refine (HCALL.out _).mono ?_
          rintro e w2 ⟨m', rfl, hm', hb⟩
          have HM := hid hm'
          simp only at HM
          obtain ⟨x2, hx2⟩ : ∃ y : Ext W1, w2 = y.1 := ⟨⟨w2, x.2.trans (hb.mono x.2.size)⟩, rfl⟩
          subst hx2
          clear hb hm'
          by_cases hq : qe = 0
          · have HM2 : Hid (m' = qm) := hid (HM.out hq)
            subst hq
            have HS2 : Hid (vv = goL (visitF f) (ps.drop (j + 1)) qm) := hid (by rw [HS.out, if_neg (fun h => h rfl)])
            clear HS HM
            go_wp2_with fail
            go_roundw
            case rel => exact ⟨j + 1, m', x2, HJ.out, by rw [HM2.out]; exact HL64.out, by go_num, rfl, rfl, hid (by rw [HM2.out]; exact HS2.out)⟩
            case measure => have := HJ.out; simp [intOf]; omega
          · have HQ := hid hq
            have HS2 : Hid (vv = (qe, qm)) := hid (by rw [HS.out, if_pos hq])
            have hqe : (qe != 0) = true := by rw [bne_iff_ne]; exact hq
            clear HS HM hq
            go_wp2_with fail
            go_ret2
            rw [HS2.out]
            exact ⟨m, rfl, fun h => absurd h HQ.out, HB.out _⟩
        · have hjj : j = ps.length := by omega
          subst hjj
          have HF : Hid (vv = (0, m)) := hid (by rw [He.out, List.drop_eq_nil_of_le (Nat.le_refl _)]; rfl)
          clear hlt hj
          go_wp2_with fail
          go_ret2
          rw [HF.out]
          exact ⟨m, rfl, fun _ => rfl, HB.out _⟩
    · have hE : (E != 0) = true := by rw [bne_iff_ne]; exact h0
      have HE : Hid (E ≠ 0 ∧ vv.1 = E) := hid (by
        rcases HV.out with h | ⟨h, _⟩
        · exact h
        · exact absurd h h0)
      clear HV h0
      go_wp2_with fail
      go_ret2
      exact ⟨n, by rw [HE.out.2]; rfl, fun h => absurd (HE.out.2.symm.trans h) HE.out.1, HB.out _⟩

set_option maxRecDepth 100000 in
set_option maxHeartbeats 4000000 in
theorem rCheck_any (l : Lat) (cs : List Value) (w : World) (hl : latRd w l cs) :
    Calls Tryz.prog 31 #[.agg cs.toArray] w fun e w' => e = .returned (.int .i64 (chkE l)) ∧ Below w.heap.size w w' := by
  have HW : Hid (∀ W, Below w.heap.size w W → Calls Tryz.prog 60 #[.agg cs.toArray, .int .i64 1, .int .i64 0] W (WalkPost W (visitF 6 l 0))) := hid fun W h => rWalk_any 6 1 l cs 0 W (Nat.le_refl _) (by omega) (by omega) (latRd.below h _ _ hl)
  have HBA : Hid (∀ O, Below w.heap.size w (w.alloc O)) := hid fun O => (Below.refl _ _).alloc (Nat.le_refl _) O
  have HC : Hid ((visitF 6 l 0).1 = chkE l) := hid rfl
  obtain ⟨vn, vp, vr, rfl, hx⟩ := (latRd_iff _ _ _).1 hl
  clear hl hx
  generalize visitF 6 l 0 = q at HW HC
  generalize chkE l = E at HC ⊢
  obtain ⟨qe, qm⟩ := q
  simp only at HC
  go_enter Tryz.func31, Tryz.ntmps31
  go_wp2_with fail
  refine (HW.out _ (HBA.out _)).mono ?_
  rintro e w1 ⟨m, rfl, _, hb⟩
  have HB1 := hid ((HBA.out _).trans (hb.mono (by simp)))
  clear hb
  go_wp2_with fail
  go_ret
  exact ⟨ret_int HC.out, HB1.out⟩
end Go.Proofs.YtmdjnaobllajmaaGreatDoor

/- How long the encoding of a small element is. -/
namespace Go.Proofs.YtmdjnaobllajmaaGreatDoor

theorem fmap_len {α : Type} (enc : α → List UInt8) (c : Nat) : ∀ (l : List α), (∀ x ∈ l, (enc x).length ≤ c) → (l.flatMap enc).length ≤ c * l.length
  | [], _ => by simp
  | x :: t, h => by
    have h1 := h x (by simp)
    have h2 := fmap_len enc c t fun y hy => h y (by simp [hy])
    rw [List.flatMap_cons, List.length_append, List.length_cons, Nat.mul_add]
    omega
theorem textE_le {s : ByteArray} (h : nameB s = true) : (textE s).length ≤ 26 := by
  have h1 := name_le h
  have h2 := uintE_len10 s.size (by omega)
  unfold textE
  rw [List.length_append]
  have h3 : s.data.toList.length = s.size := by rw [Array.length_toList]; rfl
  omega
theorem uint_le {n : Nat} (h : n ≤ 1000000000000000000) : (uintE n).length ≤ 10 := (uintE_len10 n (by omega)).1
theorem tick_len {t : Tk} (h : (0 ≤ t.process ∧ t.process ≤ 63) ∧ (0 ≤ t.n ∧ t.n ≤ 1000000000000000)) : (uintE t.process.toNat ++ uintE t.n.toNat).length ≤ 20 := by
  have h1 := uint_le (n := t.process.toNat) (by omega)
  have h2 := uint_le (n := t.n.toNat) (by omega)
  rw [List.length_append]
  omega
theorem entry_len {e : En} (h : clockB e.clock = true) (hn : nameB e.name = true) (hc : e.clock.length ≤ 60) : (entryE e).length ≤ 36 + 20 * e.clock.length := by
  unfold entryE
  rw [ticksE_eq]
  have h1 := uint_le (n := e.clock.length) (by omega)
  have h2 := textE_le hn
  have h3 := fmap_len (fun t : Tk => uintE t.process.toNat ++ uintE t.n.toNat) 20 e.clock fun t ht => tick_len (clockFrom_mem (-1) e.clock (by omega) h t ht)
  simp only [List.length_append] at h3 ⊢
  omega
theorem ents_len : ∀ (l : List En), (∀ e ∈ l, clockB e.clock = true ∧ nameB e.name = true) → (∀ e ∈ l, e.clock.length ≤ 60) → (l.flatMap entryE).length ≤ 36 * l.length + 20 * (l.map fun e => e.clock.length).sum
  | [], _, _ => by simp
  | e :: t, h, hc => by
    have h1 := entry_len (h e (by simp)).1 (h e (by simp)).2 (hc e (by simp))
    have h2 := ents_len t (fun x hx => h x (by simp [hx])) fun x hx => hc x (by simp [hx])
    rw [List.flatMap_cons, List.length_append, List.length_cons, List.map_cons, List.sum_cons]
    omega
theorem clock_le_sum : ∀ (l : List En), ∀ e ∈ l, e.clock.length ≤ (l.map fun e => e.clock.length).sum
  | [], e, h => by simp at h
  | x :: t, e, h => by
    rw [List.map_cons, List.sum_cons]
    rcases List.mem_cons.1 h with rfl | h
    · omega
    · have := clock_le_sum t e h; omega
theorem nodesN_le : ∀ (l : List Val), ∀ v ∈ l, nodesN v ≤ nodesNs l
  | [], e, h => by simp at h
  | x :: t, e, h => by
    rw [nodesNs]
    rcases List.mem_cons.1 h with rfl | h
    · omega
    · have := nodesN_le t e h; omega
theorem zip_len (p : Lat) : ∀ (ns : List ByteArray) (vs : List Val), (∀ s ∈ ns, nameB s = true) → (∀ v ∈ vs, (putV p v).length ≤ 40 * nodesN v) → ((ns.zip vs).flatMap fun x => textE x.1 ++ putV p x.2).length ≤ 26 * ns.length + 40 * nodesNs vs
  | [], vs, _, _ => by simp
  | _ :: _, [], _, _ => by simp
  | n :: ns, v :: vs, h1, h2 => by
    have a := textE_le (h1 n (by simp))
    have b := h2 v (by simp)
    have c := zip_len p ns vs (fun s hs => h1 s (by simp [hs])) fun x hx => h2 x (by simp [hx])
    rw [List.zip_cons_cons, List.flatMap_cons, List.length_append, List.length_append, List.length_cons, nodesNs]
    simp only
    omega
theorem puts_len : ∀ (ps : List Lat) (vs : List Val), elemsB ps vs = true → (∀ p ∈ ps, ∀ v, v ∈ vs → elemB p v = true → (putV p v).length ≤ 40 * nodesN v) → (putVs ps vs).length ≤ 40 * nodesNs vs
  | [], vs, _, _ => by rw [putVs]; simp
  | p :: ps, [], _, _ => by rw [putVs]; simp
  | p :: ps, v :: vs, he, H => by
    rw [elemsB, Bool.and_eq_true] at he
    have a := H p (by simp) v (by simp) he.1
    have b := puts_len ps vs he.2 fun q hq x hx => H q (by simp [hq]) x (by simp [hx])
    rw [putVs, List.length_append, nodesNs]
    omega

theorem put_len (f : Nat) : ∀ (l : Lat) (v : Val), SizeOf.sizeOf l ≤ f → WfL l → elemB l v = true → nodesN v ≤ 60 → (putV l v).length ≤ 40 * nodesN v := by
  induction f with
  | zero => intro l v hn; cases l; simp at hn
  | succ f ih =>
    intro l v hn hwf hel hsm
    have hk := hwf.kinds
    have hrg : ¬ _ := of_decide_eq_false hwf.ranges
    have hp : ∀ p ∈ l.parts, ∀ v, elemB p v = true → nodesN v ≤ 60 → (putV p v).length ≤ 40 * nodesN v := fun p hp v => ih p v (by have := sizeOf_lpart hp; omega) (hwf.part hp)
    have hN := nodesN_eq v
    obtain ⟨k, lo, hi, ns, ps, rs⟩ := l
    simp only [Lat.kind, Lat.lo, Lat.hi, Lat.names, Lat.parts, Lat.rules] at hk hp hrg
    rcases kind_cases hk.1 with rfl | e | e | rfl | e | rfl | rfl
    · rw [putV_1]
      show 1 ≤ _
      omega
    · have hu := (isE_23 e).1 hel
      rw [putV_23 e]
      have := uintE_len10 (zz v.n) (zz_lt _ (by omega) (by omega))
      show (uintE (zz v.n)).length ≤ _
      omega
    · have hu := isE_410 e hel
      rw [putV_410 e]
      have a := uint_le (n := v.names.length) (by omega)
      have b := fmap_len textE 26 v.names fun x hx => textE_le (allowed_names hu.2 x hx)
      rw [List.length_append]
      omega
    · obtain ⟨_, hlen, hal, hm⟩ := isE_5.1 hel
      obtain ⟨p, rfl⟩ := List.length_eq_one_iff.1 (hk.2.1 rfl)
      rw [mapB_one] at hm
      rw [putV_5]
      have a := uint_le (n := v.names.length) (by omega)
      have b := zip_len p v.names v.parts (fun s hs => allowed_names hal s hs) fun x hx => hp p (by simp) x (hm x hx).1 (by have := nodesN_le v.parts x hx; omega)
      rw [List.length_append]
      omega
    · obtain ⟨_, hlen, hm⟩ := (isE_67 e).1 hel
      rw [putV_67 e]
      have b := puts_len ps v.parts hm fun p hp' x hx he => hp p hp' x he (by have := nodesN_le v.parts x hx; omega)
      omega
    · obtain ⟨_, _, hu⟩ := isE_8.1 hel
      rw [putV_8, List.length_append]
      have a := uint_le (n := v.n.toNat) (by omega)
      rcases hu with ⟨h1, _⟩ | ⟨h1, _⟩ | ⟨h1, hlen, hal⟩
      · rw [if_neg (by omega)]; simp only [List.length_nil]; omega
      · rw [if_neg (by omega)]; simp only [List.length_nil]; omega
      · rw [if_pos h1]
        obtain ⟨q, hq⟩ := List.length_eq_one_iff.1 hlen
        have := textE_le (allowed_names hal q (by rw [hq]; simp))
        rw [hq]
        show _ + (textE q).length ≤ _
        omega
    · obtain ⟨_, hreg⟩ := isE_9.1 hel
      rw [putV_9, List.length_append]
      have a := uint_le (n := v.entries.length) (by omega)
      have b := ents_len v.entries (fun x hx => regGo_mem v.entries 0 v.entries hreg x hx) fun x hx => by have := clock_le_sum v.entries x hx; omega
      omega
theorem put_small {l : Lat} {v : Val} (hs : nodesN v ≤ 60) (h1 : chkE l = 0) (h2 : elemB l v = true) : (putV l v).length ≤ 2400 := by
  have := put_len _ l v (Nat.le_refl _) (chkE_wf h1) h2 hs
  omega
end Go.Proofs.YtmdjnaobllajmaaGreatDoor

/- The walk of 'ValuePrefix'. -/
namespace Go.Proofs.YtmdjnaobllajmaaGreatDoor
open Go.RowKit

theorem Ext.trans_ {W u : World} (x : Ext W) (h : Below x.1.heap.size x.1 u) : Below W.heap.size W u := x.2.trans (h.mono x.2.size)
theorem enc_code (l : Lat) (v : Val) : (encodeE l v).2 = 1 ∨ (encodeE l v).2 = 4 ∨ ((encodeE l v).2 = 0 ∧ chkE l = 0 ∧ elemB l v = true ∧ (encodeE l v).1 = putV l v) := by
  unfold encodeE
  by_cases h1 : chkE l ≠ 0
  · rw [if_pos h1]; exact .inl rfl
  · rw [if_neg h1]
    cases h2 : elemB l v
    · exact .inr (.inl rfl)
    · exact .inr (.inr ⟨rfl, Decidable.of_not_not h1, rfl, rfl⟩)
theorem pre_one {l : Lat} {v u : Val} (h : chkE l = 0) (hv : elemB l v = true) (hu : elemB l u = true) (sv : nodesN v ≤ 60) : (putV l u).length ≤ (putV l v).length → (putV l v).take (putV l u).length = putV l u → v = u := fun h1 h2 => by
  have h3 : putV l v = putV l u ++ (putV l v).drop (putV l u).length := by
    conv => lhs; rw [← List.take_append_drop (putV l u).length (putV l v), h2]
  exact putV_prefix h hv hu h3 (by have := put_small sv h hv; omega)
/-- Cut to the length of the shorter, two encodings are alike exactly if the elements are. -/
theorem pre_fact {l : Lat} {v u : Val} (h : chkE l = 0) (hv : elemB l v = true) (hu : elemB l u = true) (sv : nodesN v ≤ 60) (su : nodesN u ≤ 60) :
    ((putV l u).length ≤ (putV l v).length → decide ((putV l v).take (putV l u).length = (putV l u).take (putV l u).length) = decide (valC v u = 0)) ∧
    ((putV l v).length ≤ (putV l u).length → decide ((putV l v).take (putV l v).length = (putV l u).take (putV l v).length) = decide (valC v u = 0)) := by
  refine ⟨fun hl => ?_, fun hl => ?_⟩
  · refine decide_eq_decide.2 ?_
    rw [List.take_length, valC_zero]
    exact ⟨fun h1 => pre_one h hv hu sv hl h1, fun e => by subst e; exact List.take_length⟩
  · refine decide_eq_decide.2 ?_
    rw [List.take_length, valC_zero]
    exact ⟨fun h1 => (pre_one h hu hv su hl h1.symm).symm, fun e => by subst e; exact List.take_length.symm⟩
theorem run_slice_to (W : World) (a : Option Addr) (len cap k : Nat) (hk : k ≤ cap) : (Instr.slice 46 (.slice a len cap) none (some (.int .i64 (k : Int))) none).run Tryz.prog W = .ok (.slice a k cap) W := by
  have ht' : Tryz.prog.underlying 46 = some (.slice (Tryz.prog.elem 46)) := by simp [Program.elem, Tryz.underlying46]
  have he : Tryz.prog.elem 46 = 5 := by simp [Program.elem, Tryz.underlying46]
  rw [run_slice_h W 46 a _ _ ht' .i64 _ (by omega) (by omega), he, size_u8]
  cases a <;> simp [Result.andThen, sliced, Addr.add]
theorem SlRd.to {α : Type} {w : World} {sz : Nat} {R : α → List Value → Prop} {a : Option Addr} {n cap : Nat} {l : List α} (h : SlRd w sz R (.slice a n cap) l) (k : Nat) (hk : k ≤ l.length) : SlRd w sz R (.slice a k cap) (l.take k) := by
  obtain ⟨a', cap', hv, hn, hm, hc⟩ := h
  cases hv
  have hl : (l.take k).length = k := by rw [List.length_take]; omega
  refine ⟨a, cap, by rw [hl], ⟨hn.1, by omega⟩, hm, fun i hi => ?_⟩
  obtain ⟨b, o, cs, h1, h2, h3, h4⟩ := hc i (by omega)
  exact ⟨b, o, cs, h1, h2, h3, by rw [List.getElem_take]; exact h4⟩

set_option maxRecDepth 100000 in
set_option maxHeartbeats 4000000 in
theorem valuePrefix_walk (l : Lat) (v u : Val) (cl cv cu : List Value) (w : World) (hl : latRd w l cl) (hv : valRd w v cv) (hu : valRd w u cu) (ht : Tab w) :
    Calls Tryz.prog 9 #[.agg cl.toArray, .agg cv.toArray, .agg cu.toArray] w fun e w' => e = .returned (.bool true) ∧ Below w.heap.size w w' := by
  have HSv : Hid (∀ W, Below w.heap.size w W → Calls Tryz.prog 13 #[.agg cv.toArray, .int .i64 60] W fun e w' => e = .returned (.bool (decide (nodesN v ≤ 60))) ∧ Below W.heap.size W w') := hid fun W h => small_ref v cv 60 W (valRd.below h _ _ hv) (by decide)
  have HSu : Hid (∀ W, Below w.heap.size w W → Calls Tryz.prog 13 #[.agg cu.toArray, .int .i64 60] W fun e w' => e = .returned (.bool (decide (nodesN u ≤ 60))) ∧ Below W.heap.size W w') := hid fun W h => small_ref u cu 60 W (valRd.below h _ _ hu) (by decide)
  have HEv : Hid (nodesN v ≤ 60 → ∀ W, Below w.heap.size w W → Calls Tryz.prog 24 #[.agg cl.toArray, .agg cv.toArray] W (BytesEPost W (encodeE l v))) := hid fun hs W h => Encode_any l v cl cv W (latRd.below h _ _ hl) (valRd.below h _ _ hv) (fun h1 h2 => Nat.le_trans (put_small hs h1 h2) (by decide))
  have HEu : Hid (nodesN u ≤ 60 → ∀ W, Below w.heap.size w W → Calls Tryz.prog 24 #[.agg cl.toArray, .agg cu.toArray] W (BytesEPost W (encodeE l u))) := hid fun hs W h => Encode_any l u cl cu W (latRd.below h _ _ hl) (valRd.below h _ _ hu) (fun h1 h2 => Nat.le_trans (put_small hs h1 h2) (by decide))
  have HRE : Hid (∀ W, Below w.heap.size w W → Calls Tryz.prog 19 #[.agg cv.toArray, .agg cu.toArray] W fun e w' => e = .returned (.bool (decide (valC v u = 0))) ∧ Below W.heap.size W w') := hid fun W h => rEqual_any v u cv cu W (valRd.below h _ _ hv) (valRd.below h _ _ hu)
  have HAW0 : Hid (∀ W, Below w.heap.size w W → Calls Tryz.prog 14 #[] W fun e w' => e = .returned (.bool true) ∧ Below W.heap.size W w') := hid fun W h => awake_any W (ht.below h)
  have HAW := HAW0
  have HF : Hid (nodesN v ≤ 60 → nodesN u ≤ 60 → chkE l = 0 → elemB l v = true → elemB l u = true → _) := hid fun sv su h1 h2 h3 => pre_fact h1 h2 h3 sv su
  have HC1 := hid (enc_code l v)
  have HC2 := hid (enc_code l u)
  generalize decide (valC v u = 0) = D at HRE HF
  obtain ⟨vln, vlp, vlr, rfl, hli, hln, hlp, hlr⟩ := (latRd_iff _ _ _).1 hl
  obtain ⟨aln, cln, rfl, _, mln⟩ := hln.shape
  obtain ⟨alp, clp, rfl, _, mlp⟩ := hlp.shape
  obtain ⟨alr, clr, rfl, _, mlr⟩ := hlr.shape
  obtain ⟨uan, uap, uae, rfl, gai, gan, gap, gae⟩ := (valRd_iff _ _ _).1 hv
  obtain ⟨ban, dan, rfl, _, nan⟩ := gan.shape
  obtain ⟨bap, dap, rfl, _, nap⟩ := gap.shape
  obtain ⟨bae, dae, rfl, _, nae⟩ := gae.shape
  obtain ⟨ubn, ubp, ube, rfl, gbi, gbn, gbp, gbe⟩ := (valRd_iff _ _ _).1 hu
  obtain ⟨bbn, dbn, rfl, _, nbn⟩ := gbn.shape
  obtain ⟨bbp, dbp, rfl, _, nbp⟩ := gbp.shape
  obtain ⟨bbe, dbe, rfl, _, nbe⟩ := gbe.shape
  clear hl hv hu ht hli hln hlp hlr gai gan gap gae gbi gbn gbp gbe
  have HNV : Hid (∀ b, decide (nodesN v ≤ 60) = b → b = true → nodesN v ≤ 60) := hid fun b h1 h2 => of_decide_eq_true (h1.trans h2)
  have HNU : Hid (∀ b, decide (nodesN u ≤ 60) = b → b = true → nodesN u ≤ 60) := hid fun b h1 h2 => of_decide_eq_true (h1.trans h2)
  generalize hSv : decide (nodesN v ≤ 60) = Sv at HSv
  generalize hSu : decide (nodesN u ≤ 60) = Su at HSu
  replace HNV := hid (HNV.out _ hSv)
  replace HNU := hid (HNU.out _ hSu)
  clear hSv hSu
  generalize encodeE l v = E1 at HEv HC1
  generalize encodeE l u = E2 at HEu HC2
  obtain ⟨BV, e1⟩ := E1
  obtain ⟨BU, e2⟩ := E2
  simp only at HC1 HC2
  have HB : Hid (∀ x : Ext (((w.alloc (.cells #[.int .i64 l.kind, .int .i64 l.lo, .int .i64 l.hi, .slice aln l.names.length cln, .slice alp l.parts.length clp, .slice alr l.rules.length clr] 26)).alloc (.cells #[.int .i64 v.n, .slice ban v.names.length dan, .slice bap v.parts.length dap, .slice bae v.entries.length dae] 30)).alloc (.cells #[.int .i64 u.n, .slice bbn u.names.length dbn, .slice bbp u.parts.length dbp, .slice bbe u.entries.length dbe] 30)), Below w.heap.size w x.1) := hid fun x => ((((Below.refl _ _).alloc (Nat.le_refl _) _).alloc (by simp) _).alloc (by simp; omega) _).trans (x.2.mono (by simp; omega))
  have HX := hid fun x => three_boxes w #[.int .i64 l.kind, .int .i64 l.lo, .int .i64 l.hi, .slice aln l.names.length cln, .slice alp l.parts.length clp, .slice alr l.rules.length clr] #[.int .i64 v.n, .slice ban v.names.length dan, .slice bap v.parts.length dap, .slice bae v.entries.length dae] #[.int .i64 u.n, .slice bbn u.names.length dbn, .slice bbp u.parts.length dbp, .slice bbe u.entries.length dbe] 26 30 30 x
  go_enter Tryz.func9, Tryz.ntmps9
  go_wp2_with fail
  generalize ((w.alloc (.cells #[.int .i64 l.kind, .int .i64 l.lo, .int .i64 l.hi, .slice aln l.names.length cln, .slice alp l.parts.length clp, .slice alr l.rules.length clr] 26)).alloc (.cells #[.int .i64 v.n, .slice ban v.names.length dan, .slice bap v.parts.length dap, .slice bae v.entries.length dae] 30)).alloc (.cells #[.int .i64 u.n, .slice bbn u.names.length dbn, .slice bbp u.parts.length dbp, .slice bbe u.entries.length dbe] 30) = W3 at HB HX ⊢
  obtain ⟨x0, hx⟩ := ext_self W3
  rw [hx]
  clear hx
  replace HSv := hid (ext_of HB.out HSv.out)
  replace HSu := hid (ext_of HB.out HSu.out)
  replace HAW := hid (ext_of HB.out HAW.out)
  have l0 : ∀ x : Ext W3, x.1.cell? ⟨w.heap.size, 0, none⟩ = some (.int .i64 l.kind) := fun x => (HX.out x).1 0 _ rfl
  have l1 : ∀ x : Ext W3, x.1.cell? ⟨w.heap.size, 1, none⟩ = some (.int .i64 l.lo) := fun x => (HX.out x).1 1 _ rfl
  have l2 : ∀ x : Ext W3, x.1.cell? ⟨w.heap.size, 2, none⟩ = some (.int .i64 l.hi) := fun x => (HX.out x).1 2 _ rfl
  have l3 : ∀ x : Ext W3, x.1.cell? ⟨w.heap.size, 3, none⟩ = some (.slice aln l.names.length cln) := fun x => (HX.out x).1 3 _ rfl
  have l4 : ∀ x : Ext W3, x.1.cell? ⟨w.heap.size, 4, none⟩ = some (.slice alp l.parts.length clp) := fun x => (HX.out x).1 4 _ rfl
  have l5 : ∀ x : Ext W3, x.1.cell? ⟨w.heap.size, 5, none⟩ = some (.slice alr l.rules.length clr) := fun x => (HX.out x).1 5 _ rfl
  have a0 : ∀ x : Ext W3, x.1.cell? ⟨w.heap.size + 1, 0, none⟩ = some (.int .i64 v.n) := fun x => (HX.out x).2.1 0 _ rfl
  have a1 : ∀ x : Ext W3, x.1.cell? ⟨w.heap.size + 1, 1, none⟩ = some (.slice ban v.names.length dan) := fun x => (HX.out x).2.1 1 _ rfl
  have a2 : ∀ x : Ext W3, x.1.cell? ⟨w.heap.size + 1, 2, none⟩ = some (.slice bap v.parts.length dap) := fun x => (HX.out x).2.1 2 _ rfl
  have a3 : ∀ x : Ext W3, x.1.cell? ⟨w.heap.size + 1, 3, none⟩ = some (.slice bae v.entries.length dae) := fun x => (HX.out x).2.1 3 _ rfl
  have b0 : ∀ x : Ext W3, x.1.cell? ⟨w.heap.size + 1 + 1, 0, none⟩ = some (.int .i64 u.n) := fun x => (HX.out x).2.2 0 _ rfl
  have b1 : ∀ x : Ext W3, x.1.cell? ⟨w.heap.size + 1 + 1, 1, none⟩ = some (.slice bbn u.names.length dbn) := fun x => (HX.out x).2.2 1 _ rfl
  have b2 : ∀ x : Ext W3, x.1.cell? ⟨w.heap.size + 1 + 1, 2, none⟩ = some (.slice bbp u.parts.length dbp) := fun x => (HX.out x).2.2 2 _ rfl
  have b3 : ∀ x : Ext W3, x.1.cell? ⟨w.heap.size + 1 + 1, 3, none⟩ = some (.slice bbe u.entries.length dbe) := fun x => (HX.out x).2.2 3 _ rfl
  refine ((HSv.out _)).mono ?_
  rintro e _ ⟨rfl, x, rfl⟩
  cases Sv
  · go_wp2_with fail
    refine ((HAW.out _)).mono ?_
    rintro e _ ⟨rfl, x, rfl⟩
    go_wp2_with fail
    go_ret
    exact ⟨rfl, HB.out _⟩
  go_wp2_with fail
  refine ((HSu.out _)).mono ?_
  rintro e _ ⟨rfl, x, rfl⟩
  cases Su
  · go_wp2_with fail
    refine ((HAW.out _)).mono ?_
    rintro e _ ⟨rfl, x, rfl⟩
    go_wp2_with fail
    go_ret
    exact ⟨rfl, HB.out _⟩
  have HN1 : Hid (nodesN v ≤ 60) := hid (HNV.out (by trivial))
  have HN2 : Hid (nodesN u ≤ 60) := hid (HNU.out (by trivial))
  go_wp2_with fail
  refine (HEv.out HN1.out _ (HB.out _)).mono ?_
  rintro e u1 ⟨r1, he, hr1, hb1⟩
  simp only at he hr1
  subst he
  obtain ⟨ra, rc, rfl⟩ := owns_shape hr1
  have HR1 : Hid (SlRd u1 1 byteRd (.slice ra BV.length rc) BV) := hid (bytes_owns hr1)
  have HK1 : Hid (Below W3.heap.size W3 u1) := hid (Ext.trans_ x hb1)
  have HU1 : Hid (Below w.heap.size w u1) := hid ((HB.out _).trans (hb1.mono (HB.out _).size))
  clear hr1 hb1 l0 l1 l2 l3 l4 l5 a0 a1 a2 a3 b0 b1 b2 b3 HAW HSv HSu HEv x
  replace HX := hid fun (x : Ext u1) => HX.out ⟨x.1, HK1.out.trans (x.2.mono HK1.out.size)⟩
  replace HB : Hid (∀ x : Ext u1, Below w.heap.size w x.1) := hid fun x => HU1.out.trans (x.2.mono HU1.out.size)
  clear HU1
  obtain ⟨x1, hx⟩ := ext_self u1
  rw [hx]
  clear hx
  have l0 : ∀ x : Ext u1, x.1.cell? ⟨w.heap.size, 0, none⟩ = some (.int .i64 l.kind) := fun x => (HX.out x).1 0 _ rfl
  have l1 : ∀ x : Ext u1, x.1.cell? ⟨w.heap.size, 1, none⟩ = some (.int .i64 l.lo) := fun x => (HX.out x).1 1 _ rfl
  have l2 : ∀ x : Ext u1, x.1.cell? ⟨w.heap.size, 2, none⟩ = some (.int .i64 l.hi) := fun x => (HX.out x).1 2 _ rfl
  have l3 : ∀ x : Ext u1, x.1.cell? ⟨w.heap.size, 3, none⟩ = some (.slice aln l.names.length cln) := fun x => (HX.out x).1 3 _ rfl
  have l4 : ∀ x : Ext u1, x.1.cell? ⟨w.heap.size, 4, none⟩ = some (.slice alp l.parts.length clp) := fun x => (HX.out x).1 4 _ rfl
  have l5 : ∀ x : Ext u1, x.1.cell? ⟨w.heap.size, 5, none⟩ = some (.slice alr l.rules.length clr) := fun x => (HX.out x).1 5 _ rfl
  have a0 : ∀ x : Ext u1, x.1.cell? ⟨w.heap.size + 1, 0, none⟩ = some (.int .i64 v.n) := fun x => (HX.out x).2.1 0 _ rfl
  have a1 : ∀ x : Ext u1, x.1.cell? ⟨w.heap.size + 1, 1, none⟩ = some (.slice ban v.names.length dan) := fun x => (HX.out x).2.1 1 _ rfl
  have a2 : ∀ x : Ext u1, x.1.cell? ⟨w.heap.size + 1, 2, none⟩ = some (.slice bap v.parts.length dap) := fun x => (HX.out x).2.1 2 _ rfl
  have a3 : ∀ x : Ext u1, x.1.cell? ⟨w.heap.size + 1, 3, none⟩ = some (.slice bae v.entries.length dae) := fun x => (HX.out x).2.1 3 _ rfl
  have b0 : ∀ x : Ext u1, x.1.cell? ⟨w.heap.size + 1 + 1, 0, none⟩ = some (.int .i64 u.n) := fun x => (HX.out x).2.2 0 _ rfl
  have b1 : ∀ x : Ext u1, x.1.cell? ⟨w.heap.size + 1 + 1, 1, none⟩ = some (.slice bbn u.names.length dbn) := fun x => (HX.out x).2.2 1 _ rfl
  have b2 : ∀ x : Ext u1, x.1.cell? ⟨w.heap.size + 1 + 1, 2, none⟩ = some (.slice bbp u.parts.length dbp) := fun x => (HX.out x).2.2 2 _ rfl
  have b3 : ∀ x : Ext u1, x.1.cell? ⟨w.heap.size + 1 + 1, 3, none⟩ = some (.slice bbe u.entries.length dbe) := fun x => (HX.out x).2.2 3 _ rfl
  go_wp2_with fail
  refine (HEu.out HN2.out _ (HB.out _)).mono ?_
  rintro e u2 ⟨r2, he, hr2, hb2⟩
  simp only at he hr2
  subst he
  obtain ⟨qa, qc, rfl⟩ := owns_shape hr2
  have HR2 : Hid (SlRd u2 1 byteRd (.slice qa BU.length qc) BU) := hid (bytes_owns hr2)
  have HK2 : Hid (Below u1.heap.size u1 u2) := hid (Ext.trans_ x1 hb2)
  have HU2 : Hid (Below w.heap.size w u2) := hid ((HB.out _).trans (hb2.mono (HB.out _).size))
  clear hr2 hb2 l0 l1 l2 l3 l4 l5 a0 a1 a2 a3 b0 b1 b2 b3 HEu x1
  replace HR1 : Hid (SlRd u2 1 byteRd (.slice ra BV.length rc) BV) := hid (SlRd.below HR1.out HK2.out fun _ _ _ h => h)
  replace HX := hid fun (x : Ext u2) => HX.out ⟨x.1, HK2.out.trans (x.2.mono HK2.out.size)⟩
  replace HB : Hid (∀ x : Ext u2, Below w.heap.size w x.1) := hid fun x => HU2.out.trans (x.2.mono HU2.out.size)
  clear HU2
  obtain ⟨x2, hx⟩ := ext_self u2
  rw [hx]
  clear hx
  have HAW := hid (ext_of HB.out HAW0.out)
  replace HRE := hid (ext_of HB.out HRE.out)
  have a0 : ∀ x : Ext u2, x.1.cell? ⟨w.heap.size + 1, 0, none⟩ = some (.int .i64 v.n) := fun x => (HX.out x).2.1 0 _ rfl
  have a1 : ∀ x : Ext u2, x.1.cell? ⟨w.heap.size + 1, 1, none⟩ = some (.slice ban v.names.length dan) := fun x => (HX.out x).2.1 1 _ rfl
  have a2 : ∀ x : Ext u2, x.1.cell? ⟨w.heap.size + 1, 2, none⟩ = some (.slice bap v.parts.length dap) := fun x => (HX.out x).2.1 2 _ rfl
  have a3 : ∀ x : Ext u2, x.1.cell? ⟨w.heap.size + 1, 3, none⟩ = some (.slice bae v.entries.length dae) := fun x => (HX.out x).2.1 3 _ rfl
  have b0 : ∀ x : Ext u2, x.1.cell? ⟨w.heap.size + 1 + 1, 0, none⟩ = some (.int .i64 u.n) := fun x => (HX.out x).2.2 0 _ rfl
  have b1 : ∀ x : Ext u2, x.1.cell? ⟨w.heap.size + 1 + 1, 1, none⟩ = some (.slice bbn u.names.length dbn) := fun x => (HX.out x).2.2 1 _ rfl
  have b2 : ∀ x : Ext u2, x.1.cell? ⟨w.heap.size + 1 + 1, 2, none⟩ = some (.slice bbp u.parts.length dbp) := fun x => (HX.out x).2.2 2 _ rfl
  have b3 : ∀ x : Ext u2, x.1.cell? ⟨w.heap.size + 1 + 1, 3, none⟩ = some (.slice bbe u.entries.length dbe) := fun x => (HX.out x).2.2 3 _ rfl
  have hcp : BV.length ≤ rc ∧ BU.length ≤ qc := ⟨(by obtain ⟨a, c, hv, hn, _⟩ := HR1.out; cases hv; exact hn.2), (by obtain ⟨a, c, hv, hn, _⟩ := HR2.out; cases hv; exact hn.2)⟩
  rcases HC1.out with rfl | rfl | ⟨rfl, h1, h2, h3⟩
  · go_wp2_with fail
    refine ((HAW.out _)).mono ?_
    rintro e _ ⟨rfl, x, rfl⟩
    go_wp2_with fail
    go_ret
    exact ⟨rfl, HB.out _⟩
  · go_wp2_with fail
    refine ((HAW.out _)).mono ?_
    rintro e _ ⟨rfl, x, rfl⟩
    go_wp2_with fail
    go_ret
    exact ⟨rfl, HB.out _⟩
  · rcases HC2.out with rfl | rfl | ⟨rfl, h1', h2', h3'⟩
    · go_wp2_with fail
      refine ((HAW.out _)).mono ?_
      rintro e _ ⟨rfl, x, rfl⟩
      go_wp2_with fail
      go_ret
      exact ⟨rfl, HB.out _⟩
    · go_wp2_with fail
      refine ((HAW.out _)).mono ?_
      rintro e _ ⟨rfl, x, rfl⟩
      go_wp2_with fail
      go_ret
      exact ⟨rfl, HB.out _⟩
    · by_cases hlt : BU.length < BV.length
      · have hi : (BU.length : Int) < (BV.length : Int) := by omega
        have HD : Hid (decide (BV.take BU.length = BU.take BU.length) = D) := hid (by rw [h3, h3']; exact (HF.out HN1.out HN2.out h1 h2 h2').1 (by rw [← h3, ← h3']; omega))
        have hs1 := fun W => run_slice_to W ra BV.length rc BU.length (by omega)
        have hs2 := fun W => run_slice_to W qa BU.length qc BU.length (by omega)
        have HBY : Hid (∀ x : Ext u2, Calls Tryz.prog 26 #[.slice ra BU.length rc, .slice qa BU.length qc] x.1 fun e w' => e = .returned (.bool D) ∧ ∃ y : Ext u2, w' = y.1) := hid fun x => ext_call x (by
          have h := bytes_any _ _ (BV.take BU.length) (BU.take BU.length) x.1 (SlRd.below (HR1.out.to BU.length (by omega)) x.2 fun _ _ _ h => h) (SlRd.below (HR2.out.to BU.length (by omega)) x.2 fun _ _ _ h => h)
          rw [HD.out] at h
          exact h)
        clear h1 h2 h3 h1' h2' h3' hcp
        go_wp2_with fail
        refine wp_region_ext2 _ (by kernel_rfl) (by kernel_rfl) ?_
        repeat (go_big_quiet_step (with_reducible first | exact HAW.out _ | exact HBY.out _ | exact HRE.out _))
        refine wpQuiet_nil ?_
        rintro _ ⟨x5, rfl⟩
        go_wp2_with fail
        go_ret
        exact ⟨rfl, HB.out _⟩
      · have hi : (BV.length : Int) ≤ (BU.length : Int) := by omega
        have HD : Hid (decide (BV.take BV.length = BU.take BV.length) = D) := hid (by rw [h3, h3']; exact (HF.out HN1.out HN2.out h1 h2 h2').2 (by rw [← h3, ← h3']; omega))
        have hs1 := fun W => run_slice_to W ra BV.length rc BV.length (by omega)
        have hs2 := fun W => run_slice_to W qa BU.length qc BV.length (by omega)
        have HBY : Hid (∀ x : Ext u2, Calls Tryz.prog 26 #[.slice ra BV.length rc, .slice qa BV.length qc] x.1 fun e w' => e = .returned (.bool D) ∧ ∃ y : Ext u2, w' = y.1) := hid fun x => ext_call x (by
          have h := bytes_any _ _ (BV.take BV.length) (BU.take BV.length) x.1 (SlRd.below (HR1.out.to BV.length (by omega)) x.2 fun _ _ _ h => h) (SlRd.below (HR2.out.to BV.length (by omega)) x.2 fun _ _ _ h => h)
          rw [HD.out] at h
          exact h)
        clear h1 h2 h3 h1' h2' h3' hcp
        go_wp2_with fail
        refine wp_region_ext2 _ (by kernel_rfl) (by kernel_rfl) ?_
        repeat (go_big_quiet_step (with_reducible first | exact HAW.out _ | exact HBY.out _ | exact HRE.out _))
        refine wpQuiet_nil ?_
        rintro _ ⟨x5, rfl⟩
        go_wp2_with fail
        go_ret
        exact ⟨rfl, HB.out _⟩
end Go.Proofs.YtmdjnaobllajmaaGreatDoor

/- The plain law of a product of two lattices: its elements, sizes, bottoms and encodings are those of the two. -/
namespace Go.Proofs.YtmdjnaobllajmaaGreatDoor

/-- A description that is right at a place is right higher up and after fewer nodes, with as many nodes. -/
theorem visit_mono (f : Nat) : ∀ (l : Lat) (n f' n' : Nat), (visitF f l n).1 = 0 → n' ≤ n → f ≤ f' → (visitF f' l n').1 = 0 ∧ n ≤ (visitF f l n).2 ∧ (visitF f' l n').2 + n = (visitF f l n).2 + n' := by
  induction f with
  | zero => intro l n f' n' h; exact absurd h (by show (6 : Int) ≠ 0; decide)
  | succ f ih =>
    intro l n f' n' h hn hf
    obtain ⟨g, rfl⟩ : ∃ g, f' = g + 1 := ⟨f' - 1, by omega⟩
    have hv : ∀ f n, visitF (f + 1) l n = if 64 ≤ n then (6, n) else if shapeB l then (1, n + 1) else if checkE l ≠ 0 then (checkE l, n + 1) else goL (visitF f) l.parts (n + 1) := fun _ _ => rfl
    have hg : ∀ (ps : List Lat) (n n' : Nat), (goL (visitF f) ps n).1 = 0 → n' ≤ n → (goL (visitF g) ps n').1 = 0 ∧ n ≤ (goL (visitF f) ps n).2 ∧ (goL (visitF g) ps n').2 + n = (goL (visitF f) ps n).2 + n' := by
      intro ps
      induction ps with
      | nil => intro n n' _ _; exact ⟨rfl, Nat.le_refl _, by show n' + n = n + n'; omega⟩
      | cons p t ht =>
        intro n n' h hn
        rw [goL] at h ⊢
        rw [goL]
        by_cases h1 : (visitF f p n).1 = 0
        · obtain ⟨a, b, c⟩ := ih p n g n' h1 hn (by omega)
          rw [if_neg (fun h => h h1)] at h
          rw [if_neg (fun h => h a), if_neg (fun h => h h1)]
          obtain ⟨d, e, k⟩ := ht _ (visitF g p n').2 h (by omega)
          exact ⟨d, by omega, by omega⟩
        · rw [if_pos h1] at h
          exact absurd h h1
    rw [hv] at h
    rw [hv, hv]
    by_cases h64 : 64 ≤ n
    · rw [if_pos h64] at h; exact absurd h (by show (6 : Int) ≠ 0; decide)
    · rw [if_neg h64] at h
      rw [if_neg (by omega), if_neg h64]
      by_cases hs : shapeB l = true
      · rw [if_pos hs] at h; exact absurd h (by show (1 : Int) ≠ 0; decide)
      · rw [if_neg hs] at h
        rw [if_neg hs, if_neg hs]
        by_cases hc : checkE l ≠ 0
        · rw [if_pos hc] at h; exact absurd h hc
        · rw [if_neg hc] at h
          rw [if_neg hc, if_neg hc]
          obtain ⟨a, b, c⟩ := hg l.parts (n + 1) (n' + 1) h (by omega)
          exact ⟨a, by omega, by omega⟩
def pairL (y x : ByteArray) (l k : Lat) : Lat := .mk 6 0 0 [y, x] [l, k] []
def pairV (v u : Val) : Val := .mk 0 [] [v, u] []
theorem pair_chk {y x : ByteArray} {l k : Lat} (h : chkE (pairL y x l k) = 0) : chkE l = 0 ∧ chkE k = 0 := by
  have hv : visitF 6 (pairL y x l k) 0 = if 64 ≤ 0 then (6, 0) else if shapeB (pairL y x l k) then (1, 0 + 1) else if checkE (pairL y x l k) ≠ 0 then (checkE (pairL y x l k), 0 + 1) else goL (visitF 5) [l, k] (0 + 1) := rfl
  unfold chkE at h ⊢
  rw [hv, if_neg (by omega)] at h
  by_cases hs : shapeB (pairL y x l k) = true
  · rw [if_pos hs] at h; exact absurd h (by show (1 : Int) ≠ 0; decide)
  · rw [if_neg hs] at h
    by_cases hc : checkE (pairL y x l k) ≠ 0
    · rw [if_pos hc] at h; exact absurd h hc
    · rw [if_neg hc, goL] at h
      by_cases h1 : (visitF 5 l 1).1 = 0
      · rw [if_neg (fun h => h h1), goL] at h
        by_cases h2 : (visitF 5 k (visitF 5 l 1).2).1 = 0
        · exact ⟨(visit_mono 5 l 1 6 0 h1 (by omega) (by omega)).1, (visit_mono 5 k _ 6 0 h2 (by omega) (by omega)).1⟩
        · rw [if_pos h2] at h; exact absurd h h2
      · rw [if_pos h1] at h; exact absurd h h1
theorem pair_valid {y x : ByteArray} {l k : Lat} (h : chkE (pairL y x l k) = 0) (v u : Val) : elemB (pairL y x l k) (pairV v u) = (elemB l v && elemB k u) ∧ validB (pairL y x l k) (pairV v u) = (validB l v && validB k u) := by
  obtain ⟨h1, h2⟩ := pair_chk h
  have he : elemB (pairL y x l k) (pairV v u) = (elemB l v && elemB k u) := by
    unfold pairL pairV
    rw [elemB]
    simp [usedB, Val.n, Val.names, Val.parts, Val.entries, elemsB]
  refine ⟨he, ?_⟩
  unfold validB
  rw [he, h, h1, h2]
  simp
theorem pair_nodes (v u : Val) : nodesN (pairV v u) = 1 + nodesN v + nodesN u := by
  unfold pairV
  rw [nodesN]
  simp [nodesNs]
  omega
theorem pair_bot {y x : ByteArray} {l k : Lat} (h : chkE (pairL y x l k) = 0) (v u : Val) : isBotB (pairL y x l k) (pairV v u) = (isBotB l v && isBotB k u) := by
  obtain ⟨h1, h2⟩ := pair_chk h
  unfold isBotB
  rw [h, h1, h2]
  have hb : botV (pairL y x l k) = pairV (botV l) (botV k) := by
    unfold pairL pairV
    rw [botV]
    simp [botVs]
  have : (valC (pairV v u) (pairV (botV l) (botV k)) = 0) ↔ (valC v (botV l) = 0 ∧ valC u (botV k) = 0) := by
    rw [valC_zero, valC_zero, valC_zero]
    unfold pairV
    simp
  rw [hb]
  simp [this]
theorem pair_put {y x : ByteArray} {l k : Lat} (v u : Val) : putV (pairL y x l k) (pairV v u) = putV l v ++ putV k u := by
  unfold pairL pairV
  rw [putV]
  simp [putVs, Val.parts]
/-- What the encodings of a pair and of its parts are. -/
theorem pair_enc {y x : ByteArray} {l k : Lat} (h : chkE (pairL y x l k) = 0) (v u : Val) :
    decide ((encodeE (pairL y x l k) (pairV v u)).2 = 0) = (decide ((encodeE l v).2 = 0) && decide ((encodeE k u).2 = 0)) ∧
    ((encodeE (pairL y x l k) (pairV v u)).2 = 0 → (encodeE (pairL y x l k) (pairV v u)).1 = (encodeE l v).1 ++ (encodeE k u).1) := by
  obtain ⟨h1, h2⟩ := pair_chk h
  have he := (pair_valid h v u).1
  have e0 : encodeE (pairL y x l k) (pairV v u) = if elemB (pairL y x l k) (pairV v u) = false then ([], 4) else (putV (pairL y x l k) (pairV v u), 0) := if_neg fun h' => h' h
  have e1 : encodeE l v = if elemB l v = false then ([], 4) else (putV l v, 0) := if_neg fun h' => h' h1
  have e2 : encodeE k u = if elemB k u = false then ([], 4) else (putV k u, 0) := if_neg fun h' => h' h2
  rw [e0, e1, e2, he]
  cases elemB l v <;> cases elemB k u <;> simp [pair_put]
end Go.Proofs.YtmdjnaobllajmaaGreatDoor

