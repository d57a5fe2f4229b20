/-
  The walk of the reference's least.
-/
import Derived.Test.YtaifmlbhglfbeaaWalkL
namespace Go.Proofs.Ytaifmlbhglfbeaa
open Go.RowKit

def badB (s t : List Int) : Bool := decide (t.length < s.length) && ((partL t s false).length == 0)
theorem leastOk_eq (xss : List (List Int)) (s : List Int) : leastOk xss s = !(xss.any (badB s)) := rfl

theorem any_take (p : List Int → Bool) (L : List (List Int)) (k : Nat) (h : k < L.length) : (L.take (k + 1)).any p = ((L.take k).any p || p L[k]) := by
  rw [List.take_succ_eq_append_getElem h, List.any_append]
  simp
theorem filter_take' (p : List Int → Bool) (L : List (List Int)) (k : Nat) (h : k < L.length) : (L.take (k + 1)).filter p = (L.take k).filter p ++ (if p L[k] then [L[k]] else []) := filter_take p L k h

set_option maxRecDepth 100000 in
set_option maxHeartbeats 4000000 in
theorem least_any (v : Value) (us : List Value) (xss : List (List Int)) (w : World) (hv : LLt w v us xss) (hlu : us.length ≤ 2000) (hbd : ∀ (i : Nat) (h : i < xss.length), xss[i].length ≤ 1000) :
    Calls Try.prog 39 #[v] w (OPost (leastL xss) w) := by
  obtain ⟨j0, hj, hy0, hy1, hy2⟩ := info_parts Try.infoSl
  obtain ⟨a, cap, rfl, hcells⟩ := hv.shape
  have HL := hid hv.len
  have HE := hid hv.els
  have HB := hid hbd
  have HC := hid hcells
  clear hcells hbd hv
  go_enter Try.func39, Try.ntmps39
  go_wp2_with fail
  go_loopw [3, 4] (fun vo i wr => ∃ (k : Nat) (us' : List Value), k ≤ us.length ∧ i = .int .i64 k ∧ OLL w.heap.size wr vo us' ((xss.take k).filter (leastOk xss)) ∧ Below w.heap.size w wr) (fun _ i _ => us.length - (intOf i).toNat)
  case atStart => exact ⟨0, [], Nat.zero_le _, rfl, OLL.nil _ _, Below.refl _ _⟩
  case round =>
    obtain ⟨k, us', hk, rfl, hO, hnx⟩ := hrel
    have hOl : us'.length ≤ 2000 := by
      have := hO.len
      have h2 := List.length_filter_le (leastOk xss) (xss.take k)
      rw [List.length_take] at h2
      omega
    by_cases hlt : k < us.length
    · have hkR : k < xss.length := by have := HL.out; omega
      obtain ⟨b, off, rfl, hck⟩ := HC.out k hlt
      have hrowk : RowOf wr us[k] xss[k] := (HE.out k us[k] xss[k] (by simp [hlt]) (by simp [hkR])).below hnx
      have hckr : wr.cell? ⟨b, off + k, none⟩ = some us[k] := (hnx.cell (World.block_lt_of_cell? w _ hck)).trans hck
      obtain ⟨ak, cak, huk⟩ := owns_shape hrowk
      have Hrowk := hid hrowk
      rw [huk] at hckr Hrowk
      have HUK := hid huk
      have HO := hid hO
      have hnxs := hnx.size
      have hbk := HB.out k hkR
      clear hck hrowk huk hO
      go_wp2_with fail
      obtain ⟨wo, rfl⟩ : ∃ wo : World, wo = wr := ⟨_, rfl⟩
      go_loopw [5, 6] (fun ok j wr => ∃ (n : Nat), n ≤ us.length ∧ j = .int .i64 n ∧ ok = .bool (!((xss.take n).any (badB xss[k]))) ∧ Below wo.heap.size wo wr) (fun _ j _ => us.length - (intOf j).toNat)
      case atStart => exact ⟨0, Nat.zero_le _, rfl, by simp, Below.refl _ _⟩
      case round =>
        obtain ⟨n, hn, rfl, rfl, hnw⟩ := hrel
        by_cases hlt2 : n < us.length
        · have hnR : n < xss.length := by have := HL.out; omega
          obtain ⟨b', off', heq, hcn⟩ := HC.out n hlt2
          cases heq
          have hnxw := hnx.trans (hnw.mono hnxs)
          have hrown : RowOf wr us[n] xss[n] := (HE.out n us[n] xss[n] (by simp [hlt2]) (by simp [hnR])).below hnxw
          have hcnr : wr.cell? ⟨b, off + n, none⟩ = some us[n] := (hnxw.cell (World.block_lt_of_cell? w _ hcn)).trans hcn
          obtain ⟨an, can, hun⟩ := owns_shape hrown
          have Hrown := hid hrown
          rw [hun] at hcnr Hrown
          have hckw : wr.cell? ⟨b, off + k, none⟩ = some (.slice ak xss[k].length cak) := (hnw.cell (World.block_lt_of_cell? wo _ hckr)).trans hckr
          have HAT := hid (any_take (badB xss[k]) xss n hnR)
          have HP : Hid (∀ W, Below wr.heap.size wr W → Calls Try.prog 33 #[.slice an xss[n].length can, .slice ak xss[k].length cak, .bool false] W fun e w' => ∃ ar cr, e = .returned (.slice ar (partL xss[n] xss[k] false).length cr) ∧ W.heap.size ≤ w'.heap.size ∧ Below W.heap.size W w') := hid fun W hW =>
            (part_any _ _ xss[n] xss[k] false W (Ints.of_owns (Hrown.out.below hW)) (Ints.of_owns ((Hrowk.out.below hnw).below hW)) (by have := HB.out n hnR; omega)).mono fun e w' ⟨ar, cr, he, _, hb⟩ => ⟨ar, cr, he, hb.size, hb⟩
          have hn0 : (0 : Int) ≤ (n : Int) := by omega
          have hn1 : (n : Int) < (us.length : Int) := by omega
          have hk0 : (0 : Int) ≤ (k : Int) := by omega
          have hk1 : (k : Int) < (us.length : Int) := by omega
          clear hcn hrown hun
          by_cases hg : xss[n].length < xss[k].length
          · have hgd : decide ((xss[n].length : Int) < (xss[k].length : Int)) = true := by simp; omega
            have hgd2 : (xss[n].length : Int) < (xss[k].length : Int) := by omega
            have HBD : Hid (badB xss[k] xss[n] = ((partL xss[n] xss[k] false).length == 0)) := hid (by unfold badB; rw [decide_eq_true hg, Bool.true_and])
            have HS : Hid (∀ w' : World, Below wr.heap.size wr w' → w'.cell? ⟨b, off + n, none⟩ = some (.slice an xss[n].length can) ∧ w'.cell? ⟨b, off + k, none⟩ = some (.slice ak xss[k].length cak)) :=
              hid fun w' h => ⟨(h.cell (World.block_lt_of_cell? wr _ hcnr)).trans hcnr, (h.cell (World.block_lt_of_cell? wr _ hckw)).trans hckw⟩
            cases hz : ((partL xss[n] xss[k] false).length == 0)
            all_goals
              have HZ := hid hz
              clear hz
              go_wp2_with fail
              go_region_held3 (fun w' => w'.cell? ⟨b, off + n, none⟩ = some (.slice an xss[n].length can) ∧ w'.cell? ⟨b, off + k, none⟩ = some (.slice ak xss[k].length cak))
                (first
                  | exact HS.out _ (Below.refl _ _).drew
                  | exact HS.out _ HB1.out
                  | skip)
                (first
                  | (go_at_call 33
                     refine (HP.out _ (Below.refl _ _).drew).mono ?_
                     rintro e w2 ⟨ar, cr, rfl, _hs, hb2⟩
                     have HB1 : Hid (Below wr.heap.size wr w2) := hid ((Below.refl _ _).drew.trans hb2)
                     clear hb2))
            · have hzi : (((partL xss[n] xss[k] false).length : Int) == 0) = false := by have := HZ.out; simp at this ⊢; omega
              go_wp2
              go_roundw
              case rel => exact ⟨n + 1, by omega, by go_num, by rw [HAT.out, HBD.out, HZ.out, Bool.or_false], hnw.trans (HB1.out.mono hnw.size)⟩
              case measure => simp [intOf]; omega
            · have hzi : (((partL xss[n] xss[k] false).length : Int) == 0) = true := by have := HZ.out; simp at this ⊢; omega
              go_wp2
              go_roundw
              case rel => exact ⟨n + 1, by omega, by go_num, by rw [HAT.out, HBD.out, HZ.out, Bool.or_true]; rfl, hnw.trans (HB1.out.mono hnw.size)⟩
              case measure => simp [intOf]; omega
          · have hgd : decide ((xss[n].length : Int) < (xss[k].length : Int)) = false := by simp; omega
            have hgd2 : decide (xss[n].length < xss[k].length) = false := by simp; omega
            have hgd3 : (xss[k].length : Int) ≤ (xss[n].length : Int) := by omega
            have HBD : Hid (badB xss[k] xss[n] = false) := hid (by unfold badB; rw [hgd2, Bool.false_and])
            have Hg := hid hg
            clear hg
            go_wp2_with fail
            go_quiet (fail)
            go_wp2
            go_roundw
            case rel => exact ⟨n + 1, by omega, by go_num, by rw [HAT.out, HBD.out, Bool.or_false], hnw.trans (below_drewN' (Below.refl _ _) nq)⟩
            case measure => simp [intOf]; omega
        · have hnl : n = us.length := by omega
          have HOK : Hid ((!((xss.take n).any (badB xss[k]))) = leastOk xss xss[k]) := hid (by rw [hnl, HL.out, List.take_length, leastOk_eq])
          have HFT := hid (filter_take (leastOk xss) xss k hkR)
          have hckw : wr.cell? ⟨b, off + k, none⟩ = some (.slice ak xss[k].length cak) := (hnw.cell (World.block_lt_of_cell? wo _ hckr)).trans hckr
          have HO2 := hid (HO.out.below hnw)
          have HB2 := hid (hnx.trans (hnw.mono hnxs))
          have hnws := hnw.size
          have Hrow2 := hid (Hrowk.out.below hnw)
          clear hnl
          generalize (!((xss.take n).any (badB xss[k]))) = q at HOK ⊢
          cases hl : leastOk xss xss[k]
          · obtain rfl : q = false := HOK.out.trans hl
            have HLo := hid hl
            clear hl HOK
            go_wp2
            go_roundw
            case rel => exact ⟨k + 1, us', by omega, by go_num, by rw [HFT.out, HLo.out]; simpa using HO2.out, HB2.out⟩
            case measure => simp [intOf]; omega
          · obtain rfl : q = true := HOK.out.trans hl
            have HLo := hid hl
            clear hl HOK
            go_wp2_with (first | (at_builtin; refine wpList_append_any rfl (.tmp 44) (.tmp 49) 30 rfl w.heap.size 25 j0 (.slice none 0 0) 1 24 Try.underlying30 hj hy0 hy1 hy2 rfl (by decide) _ us'.length us' rfl (HO2.out.own.alloc _) (some ⟨wr.heap.size, 0, none⟩) 1 1 [.slice ak xss[k].length cak] rfl rfl (by simp) (fun ad had jq q hq => by cases had; exact World.news_of_block (cs := #[.slice ak xss[k].length cak]) (heap_alloc_new wr _) jq q hq) (by simp [Value.oneCell']) (us'.length + 1) rfl (us' ++ [.slice ak xss[k].length cak]) rfl (by unfold maxLen; omega) (by omega) (by simp; omega) ?_))
            intro a2 c2 w3 hown2 hgrow2
            have HO3 := hid (OLL.append HO2.out Hrow2.out hown2 hgrow2)
            have HB3 : Hid (Below w.heap.size w w3) := hid ((HB2.out.alloc (by omega) _).grown hgrow2 (by simp; omega) (fun g hg => ((HO2.out.own).lt g hg).1))
            clear hown2 hgrow2
            go_wp2
            go_roundw
            case rel => exact ⟨k + 1, us' ++ [.slice ak xss[k].length cak], by omega, by go_num, by rw [HFT.out, HLo.out]; simpa using HO3.out, HB3.out⟩
            case measure => simp [intOf]; omega
    · have hkl : k = us.length := by omega
      have HF : Hid (OLL w.heap.size wr u3 us' (leastL xss)) := hid (by
        have h := hO
        rw [hkl, HL.out, List.take_length] at h
        exact h)
      clear hO hkl
      obtain ⟨af, cf, hvf⟩ := owns_shape HF.out.own
      have hfin : OPost (leastL xss) w (.returned u3) wr := ⟨af, cf, us', congrArg Ending.returned hvf, by rw [← hvf]; exact HF.out, hnx⟩
      go_wp2
      go_ret
      exact hfin
end Go.Proofs.Ytaifmlbhglfbeaa
