/-
  How long the encoding of a small element is.
-/
import Derived.Test.YtmdjnaobllajmaaGreatDoorM20
import Derived.Test.YtmdjnaobllajmaaGreatDoorM10
set_option linter.unusedVariables false
set_option linter.unusedSimpArgs false
namespace Go.Proofs.YtmdjnaobllajmaaGreatDoor

theorem fmap_len {α : Type} (enc : α → List UInt8) (c : Nat) : ∀ (l : List α), (∀ x ∈ l, (enc x).length ≤ c) → (l.flatMap enc).length ≤ c * l.length
  | [], _ => by simp
  | x :: t, h => by
    have h1 := h x (by simp)
    have h2 := fmap_len enc c t fun y hy => h y (by simp [hy])
    rw [List.flatMap_cons, List.length_append, List.length_cons, Nat.mul_add]
    omega
theorem textE_le {s : ByteArray} (h : nameB s = true) : (textE s).length ≤ 26 := by
  have h1 := name_le h
  have h2 := uintE_len10 s.size (by omega)
  unfold textE
  rw [List.length_append]
  have h3 : s.data.toList.length = s.size := by rw [Array.length_toList]; rfl
  omega
theorem uint_le {n : Nat} (h : n ≤ 1000000000000000000) : (uintE n).length ≤ 10 := (uintE_len10 n (by omega)).1
theorem tick_len {t : Tk} (h : (0 ≤ t.process ∧ t.process ≤ 63) ∧ (0 ≤ t.n ∧ t.n ≤ 1000000000000000)) : (uintE t.process.toNat ++ uintE t.n.toNat).length ≤ 20 := by
  have h1 := uint_le (n := t.process.toNat) (by omega)
  have h2 := uint_le (n := t.n.toNat) (by omega)
  rw [List.length_append]
  omega
theorem entry_len {e : En} (h : clockB e.clock = true) (hn : nameB e.name = true) (hc : e.clock.length ≤ 60) : (entryE e).length ≤ 36 + 20 * e.clock.length := by
  unfold entryE
  rw [ticksE_eq]
  have h1 := uint_le (n := e.clock.length) (by omega)
  have h2 := textE_le hn
  have h3 := fmap_len (fun t : Tk => uintE t.process.toNat ++ uintE t.n.toNat) 20 e.clock fun t ht => tick_len (clockFrom_mem (-1) e.clock (by omega) h t ht)
  simp only [List.length_append] at h3 ⊢
  omega
theorem ents_len : ∀ (l : List En), (∀ e ∈ l, clockB e.clock = true ∧ nameB e.name = true) → (∀ e ∈ l, e.clock.length ≤ 60) → (l.flatMap entryE).length ≤ 36 * l.length + 20 * (l.map fun e => e.clock.length).sum
  | [], _, _ => by simp
  | e :: t, h, hc => by
    have h1 := entry_len (h e (by simp)).1 (h e (by simp)).2 (hc e (by simp))
    have h2 := ents_len t (fun x hx => h x (by simp [hx])) fun x hx => hc x (by simp [hx])
    rw [List.flatMap_cons, List.length_append, List.length_cons, List.map_cons, List.sum_cons]
    omega
theorem clock_le_sum : ∀ (l : List En), ∀ e ∈ l, e.clock.length ≤ (l.map fun e => e.clock.length).sum
  | [], e, h => by simp at h
  | x :: t, e, h => by
    rw [List.map_cons, List.sum_cons]
    rcases List.mem_cons.1 h with rfl | h
    · omega
    · have := clock_le_sum t e h; omega
theorem nodesN_le : ∀ (l : List Val), ∀ v ∈ l, nodesN v ≤ nodesNs l
  | [], e, h => by simp at h
  | x :: t, e, h => by
    rw [nodesNs]
    rcases List.mem_cons.1 h with rfl | h
    · omega
    · have := nodesN_le t e h; omega
theorem zip_len (p : Lat) : ∀ (ns : List ByteArray) (vs : List Val), (∀ s ∈ ns, nameB s = true) → (∀ v ∈ vs, (putV p v).length ≤ 40 * nodesN v) → ((ns.zip vs).flatMap fun x => textE x.1 ++ putV p x.2).length ≤ 26 * ns.length + 40 * nodesNs vs
  | [], vs, _, _ => by simp
  | _ :: _, [], _, _ => by simp
  | n :: ns, v :: vs, h1, h2 => by
    have a := textE_le (h1 n (by simp))
    have b := h2 v (by simp)
    have c := zip_len p ns vs (fun s hs => h1 s (by simp [hs])) fun x hx => h2 x (by simp [hx])
    rw [List.zip_cons_cons, List.flatMap_cons, List.length_append, List.length_append, List.length_cons, nodesNs]
    simp only
    omega
theorem puts_len : ∀ (ps : List Lat) (vs : List Val), elemsB ps vs = true → (∀ p ∈ ps, ∀ v, v ∈ vs → elemB p v = true → (putV p v).length ≤ 40 * nodesN v) → (putVs ps vs).length ≤ 40 * nodesNs vs
  | [], vs, _, _ => by rw [putVs]; simp
  | p :: ps, [], _, _ => by rw [putVs]; simp
  | p :: ps, v :: vs, he, H => by
    rw [elemsB, Bool.and_eq_true] at he
    have a := H p (by simp) v (by simp) he.1
    have b := puts_len ps vs he.2 fun q hq x hx => H q (by simp [hq]) x (by simp [hx])
    rw [putVs, List.length_append, nodesNs]
    omega

theorem put_len (f : Nat) : ∀ (l : Lat) (v : Val), SizeOf.sizeOf l ≤ f → WfL l → elemB l v = true → nodesN v ≤ 60 → (putV l v).length ≤ 40 * nodesN v := by
  induction f with
  | zero => intro l v hn; cases l; simp at hn
  | succ f ih =>
    intro l v hn hwf hel hsm
    have hk := hwf.kinds
    have hrg : ¬ _ := of_decide_eq_false hwf.ranges
    have hp : ∀ p ∈ l.parts, ∀ v, elemB p v = true → nodesN v ≤ 60 → (putV p v).length ≤ 40 * nodesN v := fun p hp v => ih p v (by have := sizeOf_lpart hp; omega) (hwf.part hp)
    have hN := nodesN_eq v
    obtain ⟨k, lo, hi, ns, ps, rs⟩ := l
    simp only [Lat.kind, Lat.lo, Lat.hi, Lat.names, Lat.parts, Lat.rules] at hk hp hrg
    rcases kind_cases hk.1 with rfl | e | e | rfl | e | rfl | rfl
    · rw [putV_1]
      show 1 ≤ _
      omega
    · have hu := (isE_23 e).1 hel
      rw [putV_23 e]
      have := uintE_len10 (zz v.n) (zz_lt _ (by omega) (by omega))
      show (uintE (zz v.n)).length ≤ _
      omega
    · have hu := isE_410 e hel
      rw [putV_410 e]
      have a := uint_le (n := v.names.length) (by omega)
      have b := fmap_len textE 26 v.names fun x hx => textE_le (allowed_names hu.2 x hx)
      rw [List.length_append]
      omega
    · obtain ⟨_, hlen, hal, hm⟩ := isE_5.1 hel
      obtain ⟨p, rfl⟩ := List.length_eq_one_iff.1 (hk.2.1 rfl)
      rw [mapB_one] at hm
      rw [putV_5]
      have a := uint_le (n := v.names.length) (by omega)
      have b := zip_len p v.names v.parts (fun s hs => allowed_names hal s hs) fun x hx => hp p (by simp) x (hm x hx).1 (by have := nodesN_le v.parts x hx; omega)
      rw [List.length_append]
      omega
    · obtain ⟨_, hlen, hm⟩ := (isE_67 e).1 hel
      rw [putV_67 e]
      have b := puts_len ps v.parts hm fun p hp' x hx he => hp p hp' x he (by have := nodesN_le v.parts x hx; omega)
      omega
    · obtain ⟨_, _, hu⟩ := isE_8.1 hel
      rw [putV_8, List.length_append]
      have a := uint_le (n := v.n.toNat) (by omega)
      rcases hu with ⟨h1, _⟩ | ⟨h1, _⟩ | ⟨h1, hlen, hal⟩
      · rw [if_neg (by omega)]; simp only [List.length_nil]; omega
      · rw [if_neg (by omega)]; simp only [List.length_nil]; omega
      · rw [if_pos h1]
        obtain ⟨q, hq⟩ := List.length_eq_one_iff.1 hlen
        have := textE_le (allowed_names hal q (by rw [hq]; simp))
        rw [hq]
        show _ + (textE q).length ≤ _
        omega
    · obtain ⟨_, hreg⟩ := isE_9.1 hel
      rw [putV_9, List.length_append]
      have a := uint_le (n := v.entries.length) (by omega)
      have b := ents_len v.entries (fun x hx => regGo_mem v.entries 0 v.entries hreg x hx) fun x hx => by have := clock_le_sum v.entries x hx; omega
      omega
theorem put_small {l : Lat} {v : Val} (hs : nodesN v ≤ 60) (h1 : chkE l = 0) (h2 : elemB l v = true) : (putV l v).length ≤ 2400 := by
  have := put_len _ l v (Nat.le_refl _) (chkE_wf h1) h2 hs
  omega
end Go.Proofs.YtmdjnaobllajmaaGreatDoor
