/-
  The walk of the reference's Subsets.
-/
import Derived.Test.YtaifmlbhglfbeaaWalkJ
namespace Go.Proofs.Ytaifmlbhglfbeaa
open Go.RowKit

theorem sub_bound (t s : List Int) (k : Nat) (h : (subsL t)[k]? = some s) : s.length ≤ t.length :=
  ((mem_subs t s).1 (List.mem_of_getElem? h)).length_le

set_option maxRecDepth 100000 in
set_option maxHeartbeats 3200000 in
theorem rsubs_any (n : Nat) : ∀ (v : Value) (xs : List Int) (w : World), xs.length ≤ n → n ≤ 10 → Ints w v xs → Calls Try.prog 41 #[v] w (OPost (subsL xs) w) := by
  induction n with
  | zero =>
    intro v xs w hx hn hv
    obtain rfl : xs = [] := List.eq_nil_of_length_eq_zero (by omega)
    obtain ⟨a, c, rfl⟩ := hv.shape
    have HN : (((0 : Nat) : Int) == 0) = true := by decide
    go_enter Try.func41, Try.ntmps41
    go_wp2
    go_ret
    refine ⟨_, _, [.slice none 0 0], rfl, ⟨owns_made #[.slice none 0 0] 1 (heap_alloc_new w _) (Nat.le_refl _) rfl (by decide), rfl, fun i u x hu hx => ?_⟩, (Below.refl _ _).alloc (Nat.le_refl _) _⟩
    match i with
    | 0 => simp [subsL] at hu hx; subst hu; subst hx; exact World.ownsRow_nil _ _ _ _
    | i + 1 => simp at hu
  | succ n ih =>
    intro v xs w hx hn hv
    match xs with
    | [] => exact ih v [] w (by simp) (by omega) hv
    | x :: t =>
      have IH := hid ih; clear ih
      obtain ⟨a, c, hvs, hnn, hmax, hcell⟩ := hv
      subst hvs
      have hcap := hnn.2
      obtain ⟨b, off, rfl, hc0⟩ := hcell 0 (by simp)
      have hcx : w.cell? ⟨b, off, none⟩ = some (.int .i64 x) := by simpa using hc0
      have htl : Hid (∀ q, (q = off + 1 ∨ t = []) → Ints w (.slice (some ⟨b, q, none⟩) t.length (c - 1)) t) := hid fun q hq => by
        refine ⟨some ⟨b, q, none⟩, c - 1, rfl, ⟨by simp, by simp at hcap; omega⟩, by simp at hmax; omega, fun i hi => ?_⟩
        obtain ⟨b', off', e, hci⟩ := hcell (i + 1) (by simpa using hi)
        cases e
        rcases hq with rfl | rfl
        · refine ⟨b, off + 1, rfl, ?_⟩
          rw [show off + 1 + i = off + (i + 1) by omega, hci]
          simp
        · simp at hi
      clear hcell hc0 hnn
      have hlen : (x :: t).length = t.length + 1 := rfl
      rw [hlen] at hmax hcap ⊢
      have hx' : t.length ≤ n := by simpa using hx
      have HN : (((t.length : Int) + 1) == 0) = false := by simp; omega
      have hcap0 : (0 : Int) ≤ (c : Int) := by omega
      have hz : Hid (c = 1 → Ints w (.slice (some ⟨b, off, none⟩) t.length 0) t) := hid fun h => by
        have ht : t = [] := List.eq_nil_of_length_eq_zero (by omega)
        have := htl.out off (Or.inr ht)
        rw [h] at this
        exact this
      have h1 : Hid (Ints w (.slice (some ⟨b, off + 1, none⟩) t.length (c - 1)) t) := hid (htl.out _ (Or.inl rfl))
      clear htl
      have hpow : 2 ^ t.length ≤ 2 ^ 9 := Nat.pow_le_pow_right (by omega) (by omega)
      have hsl := subs_len t
      obtain ⟨i0, hi, hz0, hz1, hz2⟩ := info_parts Try.infoInt
      obtain ⟨j0, hj, hy0, hy1, hy2⟩ := info_parts Try.infoSl
      by_cases hc1 : c = 1
      all_goals
        go_enter Try.func41, Try.ntmps41
        go_wp2_with fail
        first
          | ((with_reducible refine (IH.out (.slice (some ⟨b, off + 1, none⟩) t.length (c - 1)) t w hx' (by omega) h1.out).mono ?_))
          | ((with_reducible refine (IH.out (.slice (some ⟨b, off, none⟩) t.length 0) t w hx' (by omega) (hz.out hc1)).mono ?_))
        rintro e w1 ⟨ao, co, us, rfl, hR, hb1⟩
        have hcx1 : w1.cell? ⟨b, off, none⟩ = some (.int .i64 x) := (hb1.cell (World.block_lt_of_cell? w _ hcx)).trans hcx
        have hRL := hid hR.llt
        have hus : us.length ≤ 512 := by have := hR.len; omega
        have hus1 : 1 ≤ us.length := by have := hR.len; have := Nat.two_pow_pos t.length; omega
        have HR := hid hR.len
        have hpos : Hid (0 < (subsL t).length) := hid (by have := hR.len; omega)
        clear hR hpow hsl hz h1
        go_wp2_with fail
        go_loopw [4, 5] (fun vo i wr => ∃ (k : Nat) (us' : List Value), k ≤ us.length ∧ i = .int .i64 k ∧ OLL w1.heap.size wr vo us' ([] :: ((subsL t).take k).map (x :: ·)) ∧ Below w1.heap.size w1 wr) (fun _ i _ => us.length - (intOf i).toNat)
        case atStart =>
          refine ⟨0, [.slice none 0 0], Nat.zero_le _, rfl, ⟨owns_made #[.slice none 0 0] 1 (heap_alloc_new w1 _) (Nat.le_refl _) rfl (by decide), rfl, fun i u x' hu hx' => ?_⟩, (Below.refl _ _).alloc (Nat.le_refl _) _⟩
          match i with
          | 0 => simp at hu hx'; subst hu; subst hx'; exact World.ownsRow_nil _ _ _ _
          | i + 1 => simp at hu
        case round =>
          obtain ⟨k, us', hk, rfl, hO, hnx⟩ := hrel
          have hOl : us'.length ≤ 513 := by
            have := hO.len
            rw [List.length_cons, List.length_map, List.length_take] at this
            omega
          by_cases hlt : k < us.length
          · have hkR : k < (subsL t).length := by have := HR.out; omega
            obtain ⟨ao', co', heq, hcells⟩ := hRL.out.shape
            cases heq
            obtain ⟨b2, off2, rfl, hc2⟩ := hcells k hlt
            have hrow : RowOf wr us[k] (subsL t)[k] := (hRL.out.els k us[k] (subsL t)[k] (by simp [hlt]) (by simp [hkR])).below hnx
            obtain ⟨ax, cx, hux, hl, hnone, hnews, h1c⟩ := hrow.src
            have hsb := sub_bound t (subsL t)[k] k (by simp [hkR])
            have hc2r : wr.cell? ⟨b2, off2 + k, none⟩ = some (.slice ax (subsL t)[k].length cx) := by rw [← hux]; exact (hnx.cell (World.block_lt_of_cell? w1 _ hc2)).trans hc2
            have hcxr : wr.cell? ⟨b, off, none⟩ = some (.int .i64 x) := (hnx.cell (World.block_lt_of_cell? w1 _ hcx1)).trans hcx1
            have HTK : Hid (([] :: ((subsL t).take k).map (x :: ·)) ++ [x :: (subsL t)[k]] = [] :: ((subsL t).take (k + 1)).map (x :: ·)) := hid (by rw [List.take_succ_eq_append_getElem hkR, List.map_append]; rfl)
            have hlt2 : Hid (b2 < w1.heap.size) := hid (World.block_lt_of_cell? w1 _ hc2)
            have hc2w : Hid (w1.cell? ⟨b2, off2 + k, none⟩ = some (.slice ax (subsL t)[k].length cx)) := hid (by rw [← hux]; exact hc2)
            clear hcells hc2 hux hrow
            have HS : Hid (∀ w' : World, Below wr.heap.size wr w' → w'.cell? ⟨b, off, none⟩ = some (.int .i64 x) ∧ w'.cell? ⟨b2, off2 + k, none⟩ = some (.slice ax (subsL t)[k].length cx)) :=
              hid fun w' h => ⟨(h.cell (World.block_lt_of_cell? wr _ hcxr)).trans hcxr, (h.cell (World.block_lt_of_cell? wr _ hc2r)).trans hc2r⟩
            have hk0 : (0 : Int) ≤ (k : Int) := by omega
            have hk1 : (k : Int) < (us.length : Int) := by omega
            have hnxs := hnx.size
            have HO := hid hO; clear hO
            go_wp2_with fail
            go_region_held3 (fun w' => w'.cell? ⟨b, off, none⟩ = some (.int .i64 x) ∧ w'.cell? ⟨b2, off2 + k, none⟩ = some (.slice ax (subsL t)[k].length cx))
              (first
                | exact HS.out _ (Below.refl _ _).drew
                | exact HS.out _ ((Below.refl _ _).alloc (Nat.le_refl _) _).drew
                | exact HS.out _ ((Below.refl _ _).alloc (Nat.le_refl _) _)
                | exact HS3.out
                | exact HS.out _ HB1.out
                | exact HS.out _ (HB1.out.alloc HB1.out.size _)
                | skip)
              (first
                | (refine step_append_any (by rfl) (.tmp 25) (.tmp 29) 25 (by rfl) wr.heap.size 3 i0 (.int .i64 0) 1 8 Try.underlying25 hi hz0 hz1 hz2 rfl (by decide) (.slice (some ⟨_, 0, none⟩) 1 1) 1 [.int .i64 x] (by rfl) (owns_made #[.int .i64 x] 1 (heap_alloc_new wr _) (Nat.le_refl _) rfl (by decide)) ax (subsL t)[k].length cx ((subsL t)[k].map (Value.int .i64)) (by rfl) hl hnone ?_ h1c ((subsL t)[k].length + 1) (Nat.add_comm _ _) (.int .i64 x :: (subsL t)[k].map (Value.int .i64)) (by rfl) (by unfold maxLen; omega) (by omega) (by simp) ?_
                   · intro ad had jq q hq
                     have hq1 := hnews ad had jq q hq
                     exact (World.cell?_alloc_lt _ _ _ (World.block_lt_of_cell? wr _ hq1)).trans hq1
                   intro a1 c1 w2 hown1 hgrow1
                   have HB1 : Hid (Below wr.heap.size wr w2) := hid ((((Below.refl _ _).alloc (Nat.le_refl _) _).drew).grown hgrow1 (by simp) (fun g hg => by simp [Value.ownBlock] at hg; omega)))
                | (refine step_append_any (by rfl) (.tmp 21) (.tmp 31) 30 (by rfl) w1.heap.size 25 j0 (.slice none 0 0) 1 24 Try.underlying30 hj hy0 hy1 hy2 rfl (by decide) _ us'.length us' (by rfl) ((HO.out.below HB1.out).own.alloc _) (some ⟨_, 0, none⟩) 1 1 [.slice a1 ((subsL t)[k].length + 1) c1] (by rfl) rfl (by simp) ?_ (by simp [Value.oneCell']) (us'.length + 1) (by rfl) (us' ++ [.slice a1 ((subsL t)[k].length + 1) c1]) (by rfl) (by unfold maxLen; omega) (by omega) ?_ ?_
                   · intro ad had jq q hq
                     cases had
                     exact World.news_of_block (cs := #[.slice a1 ((subsL t)[k].length + 1) c1]) (heap_alloc_new w2 _) jq q hq
                   · have := HB1.out.size; simp <;> omega
                   intro a2 c2 w3 hown2 hgrow2
                   have HO3 := hid (OLL.append (HO.out.below HB1.out) (x := x :: (subsL t)[k]) (owns_base hown1 (Nat.zero_le _)) hown2 hgrow2)
                   have HB3 : Hid (Below w1.heap.size w1 w3) := hid (((hnx.trans (HB1.out.mono hnxs)).alloc (by have := HB1.out.size; omega) _).grown hgrow2 (by have := HB1.out.size; simp; omega) (fun g hg => ((HO.out.own).lt g hg).1))
                   have HS3 : Hid (w3.cell? ⟨b, off, none⟩ = some (.int .i64 x) ∧ w3.cell? ⟨b2, off2 + k, none⟩ = some (.slice ax (subsL t)[k].length cx)) := hid ⟨(HB3.out.cell (World.block_lt_of_cell? w1 _ hcx1)).trans hcx1, (HB3.out.cell hlt2.out).trans hc2w.out⟩))
            go_wp2
            go_roundw
            case rel => exact ⟨k + 1, us' ++ [.slice a1 ((subsL t)[k].length + 1) c1], by omega, by go_num, by rw [← HTK.out]; simpa using HO3.out, HB3.out⟩
            case measure => simp [intOf]; omega
          · have hkl : k = us.length := by omega
            have HF : Hid (OLL w1.heap.size wr u4 us' ([] :: (subsL t).map (x :: ·))) := hid (by
              have h := hO
              rw [hkl, HR.out, List.take_length] at h
              exact h)
            clear hO hkl
            go_wp2_with fail
            obtain ⟨wa, hwa⟩ : ∃ wa : World, wa = wr := ⟨_, rfl⟩
            subst hwa
            go_loopw [4, 6] (fun vo i wr => ∃ (k : Nat) (us' : List Value), 1 ≤ k ∧ k ≤ us.length ∧ i = .int .i64 k ∧ OLL w1.heap.size wr vo us' (([] :: (subsL t).map (x :: ·)) ++ ((subsL t).take k).drop 1) ∧ Below w1.heap.size w1 wr) (fun _ i _ => us.length - (intOf i).toNat)
            case atStart => exact ⟨1, us', Nat.le_refl _, hus1, rfl, by simpa [List.drop_take] using HF.out, hnx⟩
            case round =>
              obtain ⟨k2, us2, hk1, hk2, rfl, hO, hnx⟩ := hrel
              have hOl : us2.length ≤ 1030 := by
                have := hO.len
                rw [List.length_append, List.length_cons, List.length_map, List.length_drop, List.length_take] at this
                have := HR.out
                omega
              by_cases hlt : k2 < us.length
              · have hkR : k2 < (subsL t).length := by have := HR.out; omega
                obtain ⟨ao', co', heq, hcells⟩ := hRL.out.shape
                cases heq
                obtain ⟨b2, off2, rfl, hc2⟩ := hcells k2 hlt
                have hrow : RowOf wr us[k2] (subsL t)[k2] := (hRL.out.els k2 us[k2] (subsL t)[k2] (by simp [hlt]) (by simp [hkR])).below hnx
                have hc2r : wr.cell? ⟨b2, off2 + k2, none⟩ = some us[k2] := (hnx.cell (World.block_lt_of_cell? w1 _ hc2)).trans hc2
                have HTK : Hid ((([] :: (subsL t).map (x :: ·)) ++ ((subsL t).take k2).drop 1) ++ [(subsL t)[k2]] = ([] :: (subsL t).map (x :: ·)) ++ ((subsL t).take (k2 + 1)).drop 1) := hid (by
                  rw [List.take_succ_eq_append_getElem hkR, List.drop_append_of_le_length (by rw [List.length_take]; omega), List.append_assoc])
                have Hrow := hid hrow
                have HO := hid hO
                have hnxs := hnx.size
                obtain ⟨ar, cr, hur⟩ := owns_shape hrow
                rw [hur] at hc2r Hrow
                clear hcells hc2 hrow hO hur
                go_wp2_with (first | (at_builtin; refine wpList_append_any rfl (.tmp 39) (.tmp 44) 30 rfl w1.heap.size 25 j0 (.slice none 0 0) 1 24 Try.underlying30 hj hy0 hy1 hy2 rfl (by decide) _ us2.length us2 rfl (HO.out.own.alloc _) (some ⟨wr.heap.size, 0, none⟩) 1 1 [.slice ar (subsL t)[k2].length cr] rfl rfl (by simp) (fun ad had jq q hq => by cases had; exact World.news_of_block (cs := #[.slice ar (subsL t)[k2].length cr]) (heap_alloc_new wr _) jq q hq) (by simp [Value.oneCell']) (us2.length + 1) rfl (us2 ++ [.slice ar (subsL t)[k2].length cr]) rfl (by unfold maxLen; omega) (by omega) (by simp; omega) ?_))
                intro a2 c2 w3 hown2 hgrow2
                have HO3 := hid (OLL.append HO.out Hrow.out hown2 hgrow2)
                have HB3 : Hid (Below w1.heap.size w1 w3) := hid ((hnx.alloc hnxs _).grown hgrow2 (by simp; omega) (fun g hg => ((HO.out.own).lt g hg).1))
                clear hown2 hgrow2
                go_wp2
                go_roundw
                case rel => exact ⟨k2 + 1, us2 ++ [.slice ar (subsL t)[k2].length cr], by omega, by omega, by go_num, by rw [← HTK.out]; simpa using HO3.out, HB3.out⟩
                case measure => simp [intOf]; omega
              · have hkl : k2 = us.length := by omega
                have HF2 : Hid (OLL w1.heap.size wr u4 us2 (subsL (x :: t))) := hid (by
                  have h := hO
                  rw [hkl, HR.out, List.take_length] at h
                  rw [subsL, ← List.drop_one]
                  exact h)
                clear hO hkl
                obtain ⟨af, cf, hvf⟩ := owns_shape HF2.out.own
                have hfin : OPost (subsL (x :: t)) w (.returned u4) wr := ⟨af, cf, us2, congrArg Ending.returned hvf, by rw [← hvf]; exact HF2.out.base hb1.size, hb1.trans (hnx.mono hb1.size)⟩
                go_wp2
                go_ret
                exact hfin
end Go.Proofs.Ytaifmlbhglfbeaa
