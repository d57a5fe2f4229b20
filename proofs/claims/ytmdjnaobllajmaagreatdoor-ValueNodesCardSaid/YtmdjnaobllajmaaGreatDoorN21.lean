/-
  What the statements of the chapter share, part 21: VAwk, VLaw0.
-/
import Derived.Test.YtmdjnaobllajmaaGreatDoorN20
set_option linter.unusedVariables false
set_option linter.unusedSimpArgs false
set_option maxRecDepth 100000
set_option maxHeartbeats 8000000
namespace Go.Proofs.YtmdjnaobllajmaaGreatDoor
open Go.RowKit
theorem sl_row {α : Type} {w : World} {g : Nat} {cs : Array Value} {t : TypeId} {fr : Nat × Nat} {sz : Nat} {R : α → List Value → Prop} {l : List α} (css : List (List Value)) (hg : w.heap[g]? = some (.cells cs t fr)) (hcs : cs.toList = css.flatten) (hl : css.length = l.length)
    (hsz : ∀ c ∈ css, c.length = sz) (hR : ∀ i (h : i < l.length) (h' : i < css.length), R l[i] css[i]) (hm : l.length ≤ maxLen) : SlRd w sz R (.slice (some ⟨g, 0, none⟩) l.length l.length) l := by
  refine ⟨_, l.length, rfl, ⟨by simp, Nat.le_refl _⟩, hm, fun i hi => ?_⟩
  have hi' : i < css.length := by omega
  refine ⟨g, 0, css[i], rfl, hsz _ (List.getElem_mem hi'), fun j hj => ?_, hR i hi hi'⟩
  rw [cell_at_block hg, Nat.zero_add]
  have := flatten_at sz css hsz i hi' j (by rw [← hsz _ (List.getElem_mem hi')]; exact hj)
  rw [← hcs] at this
  rw [List.getElem?_eq_getElem hj] at this
  simpa using this
theorem lat_flat {w : World} {k lo hi : Int} (h1 : I64 k) (h2 : I64 lo) (h3 : I64 hi) : latRd w (.mk k lo hi [] [] []) [.int .i64 k, .int .i64 lo, .int .i64 hi, .slice none 0 0, .slice none 0 0, .slice none 0 0] :=
  (latRd_iff _ _ _).2 ⟨_, _, _, rfl, ⟨h1, h2, h3⟩, sl_none _ _ _, sl_none _ _ _, sl_none _ _ _⟩
theorem i64_of {n : Int} (h : -1000 ≤ n ∧ n ≤ 1000) : I64 n := by unfold I64; omega
theorem s1_le (a : UInt8) : (s1 a).size ≤ maxLen := by show 1 ≤ maxLen; decide
theorem bytes_owns {w : World} {base : Nat} {v : Value} {l : List UInt8} (h : w.ownsRow base 5 1 v l.length (l.map u8v)) : SlRd w 1 byteRd v l := SlRd.of_owns (f := fun c => [u8v c]) (fun _ => rfl) (fun _ _ => rfl) (by
  have e : ∀ l : List UInt8, l.flatMap (fun c => [u8v c]) = l.map u8v := fun l => by
    induction l with
    | nil => rfl
    | cons x t ih => rw [List.flatMap_cons, ih]; rfl
  rw [e]; exact h)
theorem one_idx {P : Nat → Prop} (h0 : P 0) : ∀ i, i < 1 → P i
  | 0, _ => h0
  | _ + 1, h => by omega
theorem two_idx {P : Nat → Prop} (h0 : P 0) (h1 : P 1) : ∀ i, i < 2 → P i
  | 0, _ => h0
  | 1, _ => h1
  | _ + 2, h => by omega
theorem awake_any (w : World) (ht : Tab w) : Calls Tryz.prog 14 #[] w fun e w' => e = .returned (.bool true) ∧ Below w.heap.size w w' := by
  have HT := hid ht
  clear ht
  have HW : Hid (Below w.heap.size w ((((((w.alloc (.cells #[.string ⟨#[99]⟩, .string ⟨#[97]⟩] 9)).alloc (.cells #[.int .i64 2, .int .i64 0, .int .i64 9, .slice none 0 0, .slice none 0 0, .slice none 0 0, .int .i64 4, .int .i64 0, .int .i64 0, .slice none 0 0, .slice none 0 0, .slice none 0 0] 26)).alloc (.cells #[.int .i64 6, .int .i64 0, .int .i64 0, .slice (some ⟨w.heap.size, 0, none⟩) 2 2, .slice (some ⟨w.heap.size + 1, 0, none⟩) 2 2, .slice none 0 0] 26)).alloc (.cells #[.string ⟨#[120]⟩, .string ⟨#[121]⟩] 9)).alloc (.cells #[.int .i64 3, .slice none 0 0, .slice none 0 0, .slice none 0 0, .int .i64 0, .slice (some ⟨w.heap.size + 1 + 1 + 1, 0, none⟩) 2 2, .slice none 0 0, .slice none 0 0] 30)).alloc (.cells #[.int .i64 0, .slice none 0 0, .slice (some ⟨w.heap.size + 1 + 1 + 1 + 1, 0, none⟩) 2 2, .slice none 0 0] 30))) := hid (by repeat (first | exact Below.refl _ _ | refine Below.alloc ?_ (by simp <;> omega) _))
  have h0 : ((((((w.alloc (.cells #[.string ⟨#[99]⟩, .string ⟨#[97]⟩] 9)).alloc (.cells #[.int .i64 2, .int .i64 0, .int .i64 9, .slice none 0 0, .slice none 0 0, .slice none 0 0, .int .i64 4, .int .i64 0, .int .i64 0, .slice none 0 0, .slice none 0 0, .slice none 0 0] 26)).alloc (.cells #[.int .i64 6, .int .i64 0, .int .i64 0, .slice (some ⟨w.heap.size, 0, none⟩) 2 2, .slice (some ⟨w.heap.size + 1, 0, none⟩) 2 2, .slice none 0 0] 26)).alloc (.cells #[.string ⟨#[120]⟩, .string ⟨#[121]⟩] 9)).alloc (.cells #[.int .i64 3, .slice none 0 0, .slice none 0 0, .slice none 0 0, .int .i64 0, .slice (some ⟨w.heap.size + 1 + 1 + 1, 0, none⟩) 2 2, .slice none 0 0, .slice none 0 0] 30)).alloc (.cells #[.int .i64 0, .slice none 0 0, .slice (some ⟨w.heap.size + 1 + 1 + 1 + 1, 0, none⟩) 2 2, .slice none 0 0] 30)).heap[w.heap.size]? = some (.cells #[.string ⟨#[99]⟩, .string ⟨#[97]⟩] 9 (0, 0)) := by repeat (first | exact heap_new_at _ _ _ (by simp) | refine block_alloc ?_ _)
  have h1 : ((((((w.alloc (.cells #[.string ⟨#[99]⟩, .string ⟨#[97]⟩] 9)).alloc (.cells #[.int .i64 2, .int .i64 0, .int .i64 9, .slice none 0 0, .slice none 0 0, .slice none 0 0, .int .i64 4, .int .i64 0, .int .i64 0, .slice none 0 0, .slice none 0 0, .slice none 0 0] 26)).alloc (.cells #[.int .i64 6, .int .i64 0, .int .i64 0, .slice (some ⟨w.heap.size, 0, none⟩) 2 2, .slice (some ⟨w.heap.size + 1, 0, none⟩) 2 2, .slice none 0 0] 26)).alloc (.cells #[.string ⟨#[120]⟩, .string ⟨#[121]⟩] 9)).alloc (.cells #[.int .i64 3, .slice none 0 0, .slice none 0 0, .slice none 0 0, .int .i64 0, .slice (some ⟨w.heap.size + 1 + 1 + 1, 0, none⟩) 2 2, .slice none 0 0, .slice none 0 0] 30)).alloc (.cells #[.int .i64 0, .slice none 0 0, .slice (some ⟨w.heap.size + 1 + 1 + 1 + 1, 0, none⟩) 2 2, .slice none 0 0] 30)).heap[w.heap.size + 1]? = some (.cells #[.int .i64 2, .int .i64 0, .int .i64 9, .slice none 0 0, .slice none 0 0, .slice none 0 0, .int .i64 4, .int .i64 0, .int .i64 0, .slice none 0 0, .slice none 0 0, .slice none 0 0] 26 (0, 0)) := by repeat (first | exact heap_new_at _ _ _ (by simp) | refine block_alloc ?_ _)
  have h2 : ((((((w.alloc (.cells #[.string ⟨#[99]⟩, .string ⟨#[97]⟩] 9)).alloc (.cells #[.int .i64 2, .int .i64 0, .int .i64 9, .slice none 0 0, .slice none 0 0, .slice none 0 0, .int .i64 4, .int .i64 0, .int .i64 0, .slice none 0 0, .slice none 0 0, .slice none 0 0] 26)).alloc (.cells #[.int .i64 6, .int .i64 0, .int .i64 0, .slice (some ⟨w.heap.size, 0, none⟩) 2 2, .slice (some ⟨w.heap.size + 1, 0, none⟩) 2 2, .slice none 0 0] 26)).alloc (.cells #[.string ⟨#[120]⟩, .string ⟨#[121]⟩] 9)).alloc (.cells #[.int .i64 3, .slice none 0 0, .slice none 0 0, .slice none 0 0, .int .i64 0, .slice (some ⟨w.heap.size + 1 + 1 + 1, 0, none⟩) 2 2, .slice none 0 0, .slice none 0 0] 30)).alloc (.cells #[.int .i64 0, .slice none 0 0, .slice (some ⟨w.heap.size + 1 + 1 + 1 + 1, 0, none⟩) 2 2, .slice none 0 0] 30)).heap[w.heap.size + 1 + 1]? = some (.cells #[.int .i64 6, .int .i64 0, .int .i64 0, .slice (some ⟨w.heap.size, 0, none⟩) 2 2, .slice (some ⟨w.heap.size + 1, 0, none⟩) 2 2, .slice none 0 0] 26 (0, 0)) := by repeat (first | exact heap_new_at _ _ _ (by simp) | refine block_alloc ?_ _)
  have h3 : ((((((w.alloc (.cells #[.string ⟨#[99]⟩, .string ⟨#[97]⟩] 9)).alloc (.cells #[.int .i64 2, .int .i64 0, .int .i64 9, .slice none 0 0, .slice none 0 0, .slice none 0 0, .int .i64 4, .int .i64 0, .int .i64 0, .slice none 0 0, .slice none 0 0, .slice none 0 0] 26)).alloc (.cells #[.int .i64 6, .int .i64 0, .int .i64 0, .slice (some ⟨w.heap.size, 0, none⟩) 2 2, .slice (some ⟨w.heap.size + 1, 0, none⟩) 2 2, .slice none 0 0] 26)).alloc (.cells #[.string ⟨#[120]⟩, .string ⟨#[121]⟩] 9)).alloc (.cells #[.int .i64 3, .slice none 0 0, .slice none 0 0, .slice none 0 0, .int .i64 0, .slice (some ⟨w.heap.size + 1 + 1 + 1, 0, none⟩) 2 2, .slice none 0 0, .slice none 0 0] 30)).alloc (.cells #[.int .i64 0, .slice none 0 0, .slice (some ⟨w.heap.size + 1 + 1 + 1 + 1, 0, none⟩) 2 2, .slice none 0 0] 30)).heap[w.heap.size + 1 + 1 + 1]? = some (.cells #[.string ⟨#[120]⟩, .string ⟨#[121]⟩] 9 (0, 0)) := by repeat (first | exact heap_new_at _ _ _ (by simp) | refine block_alloc ?_ _)
  have h4 : ((((((w.alloc (.cells #[.string ⟨#[99]⟩, .string ⟨#[97]⟩] 9)).alloc (.cells #[.int .i64 2, .int .i64 0, .int .i64 9, .slice none 0 0, .slice none 0 0, .slice none 0 0, .int .i64 4, .int .i64 0, .int .i64 0, .slice none 0 0, .slice none 0 0, .slice none 0 0] 26)).alloc (.cells #[.int .i64 6, .int .i64 0, .int .i64 0, .slice (some ⟨w.heap.size, 0, none⟩) 2 2, .slice (some ⟨w.heap.size + 1, 0, none⟩) 2 2, .slice none 0 0] 26)).alloc (.cells #[.string ⟨#[120]⟩, .string ⟨#[121]⟩] 9)).alloc (.cells #[.int .i64 3, .slice none 0 0, .slice none 0 0, .slice none 0 0, .int .i64 0, .slice (some ⟨w.heap.size + 1 + 1 + 1, 0, none⟩) 2 2, .slice none 0 0, .slice none 0 0] 30)).alloc (.cells #[.int .i64 0, .slice none 0 0, .slice (some ⟨w.heap.size + 1 + 1 + 1 + 1, 0, none⟩) 2 2, .slice none 0 0] 30)).heap[w.heap.size + 1 + 1 + 1 + 1]? = some (.cells #[.int .i64 3, .slice none 0 0, .slice none 0 0, .slice none 0 0, .int .i64 0, .slice (some ⟨w.heap.size + 1 + 1 + 1, 0, none⟩) 2 2, .slice none 0 0, .slice none 0 0] 30 (0, 0)) := by repeat (first | exact heap_new_at _ _ _ (by simp) | refine block_alloc ?_ _)
  have h5 : ((((((w.alloc (.cells #[.string ⟨#[99]⟩, .string ⟨#[97]⟩] 9)).alloc (.cells #[.int .i64 2, .int .i64 0, .int .i64 9, .slice none 0 0, .slice none 0 0, .slice none 0 0, .int .i64 4, .int .i64 0, .int .i64 0, .slice none 0 0, .slice none 0 0, .slice none 0 0] 26)).alloc (.cells #[.int .i64 6, .int .i64 0, .int .i64 0, .slice (some ⟨w.heap.size, 0, none⟩) 2 2, .slice (some ⟨w.heap.size + 1, 0, none⟩) 2 2, .slice none 0 0] 26)).alloc (.cells #[.string ⟨#[120]⟩, .string ⟨#[121]⟩] 9)).alloc (.cells #[.int .i64 3, .slice none 0 0, .slice none 0 0, .slice none 0 0, .int .i64 0, .slice (some ⟨w.heap.size + 1 + 1 + 1, 0, none⟩) 2 2, .slice none 0 0, .slice none 0 0] 30)).alloc (.cells #[.int .i64 0, .slice none 0 0, .slice (some ⟨w.heap.size + 1 + 1 + 1 + 1, 0, none⟩) 2 2, .slice none 0 0] 30)).heap[w.heap.size + 1 + 1 + 1 + 1 + 1]? = some (.cells #[.int .i64 0, .slice none 0 0, .slice (some ⟨w.heap.size + 1 + 1 + 1 + 1, 0, none⟩) 2 2, .slice none 0 0] 30 (0, 0)) := by repeat (first | exact heap_new_at _ _ _ (by simp) | refine block_alloc ?_ _)
  have HSZ : Hid (((((((w.alloc (.cells #[.string ⟨#[99]⟩, .string ⟨#[97]⟩] 9)).alloc (.cells #[.int .i64 2, .int .i64 0, .int .i64 9, .slice none 0 0, .slice none 0 0, .slice none 0 0, .int .i64 4, .int .i64 0, .int .i64 0, .slice none 0 0, .slice none 0 0, .slice none 0 0] 26)).alloc (.cells #[.int .i64 6, .int .i64 0, .int .i64 0, .slice (some ⟨w.heap.size, 0, none⟩) 2 2, .slice (some ⟨w.heap.size + 1, 0, none⟩) 2 2, .slice none 0 0] 26)).alloc (.cells #[.string ⟨#[120]⟩, .string ⟨#[121]⟩] 9)).alloc (.cells #[.int .i64 3, .slice none 0 0, .slice none 0 0, .slice none 0 0, .int .i64 0, .slice (some ⟨w.heap.size + 1 + 1 + 1, 0, none⟩) 2 2, .slice none 0 0, .slice none 0 0] 30)).alloc (.cells #[.int .i64 0, .slice none 0 0, .slice (some ⟨w.heap.size + 1 + 1 + 1 + 1, 0, none⟩) 2 2, .slice none 0 0] 30)).heap.size = w.heap.size + 1 + 1 + 1 + 1 + 1 + 1) := hid (by simp)
  have HL : Hid (latRd ((((((w.alloc (.cells #[.string ⟨#[99]⟩, .string ⟨#[97]⟩] 9)).alloc (.cells #[.int .i64 2, .int .i64 0, .int .i64 9, .slice none 0 0, .slice none 0 0, .slice none 0 0, .int .i64 4, .int .i64 0, .int .i64 0, .slice none 0 0, .slice none 0 0, .slice none 0 0] 26)).alloc (.cells #[.int .i64 6, .int .i64 0, .int .i64 0, .slice (some ⟨w.heap.size, 0, none⟩) 2 2, .slice (some ⟨w.heap.size + 1, 0, none⟩) 2 2, .slice none 0 0] 26)).alloc (.cells #[.string ⟨#[120]⟩, .string ⟨#[121]⟩] 9)).alloc (.cells #[.int .i64 3, .slice none 0 0, .slice none 0 0, .slice none 0 0, .int .i64 0, .slice (some ⟨w.heap.size + 1 + 1 + 1, 0, none⟩) 2 2, .slice none 0 0, .slice none 0 0] 30)).alloc (.cells #[.int .i64 0, .slice none 0 0, .slice (some ⟨w.heap.size + 1 + 1 + 1 + 1, 0, none⟩) 2 2, .slice none 0 0] 30)) L0 [.int .i64 6, .int .i64 0, .int .i64 0, .slice (some ⟨w.heap.size, 0, none⟩) 2 2, .slice (some ⟨w.heap.size + 1, 0, none⟩) 2 2, .slice none 0 0]) := hid (by
    rw [L0]
    refine (latRd_iff _ _ _).2 ⟨_, _, _, rfl, ⟨i64_of (by decide), i64_of (by decide), i64_of (by decide)⟩, ?_, ?_, sl_none _ _ _⟩
    · exact sl_row (R := strRd) (l := [s1 99, s1 97]) [[.string (s1 99)], [.string (s1 97)]] h0 rfl rfl (by simp) (fun i h h' => two_idx (P := fun i => ∀ (h : i < 2) (h' : i < 2), strRd ([s1 99, s1 97][i]) ([[Value.string (s1 99)], [.string (s1 97)]][i])) (fun _ _ => ⟨rfl, s1_le _⟩) (fun _ _ => ⟨rfl, s1_le _⟩) i h h h') (by decide)
    · exact sl_row (R := latRd _) (l := [.mk 2 0 9 [] [] [], .mk 4 0 0 [] [] []]) [[.int .i64 2, .int .i64 0, .int .i64 9, .slice none 0 0, .slice none 0 0, .slice none 0 0], [.int .i64 4, .int .i64 0, .int .i64 0, .slice none 0 0, .slice none 0 0, .slice none 0 0]] h1 rfl rfl (by simp) (fun i h h' => two_idx (P := fun i => ∀ (h : i < 2) (h' : i < 2), latRd _ ([Lat.mk 2 0 9 [] [] [], .mk 4 0 0 [] [] []][i]) ([[Value.int .i64 2, .int .i64 0, .int .i64 9, .slice none 0 0, .slice none 0 0, .slice none 0 0], [.int .i64 4, .int .i64 0, .int .i64 0, .slice none 0 0, .slice none 0 0, .slice none 0 0]][i])) (fun _ _ => lat_flat (i64_of (by decide)) (i64_of (by decide)) (i64_of (by decide))) (fun _ _ => lat_flat (i64_of (by decide)) (i64_of (by decide)) (i64_of (by decide))) i h h h') (by decide))
  have HV : Hid (valRd ((((((w.alloc (.cells #[.string ⟨#[99]⟩, .string ⟨#[97]⟩] 9)).alloc (.cells #[.int .i64 2, .int .i64 0, .int .i64 9, .slice none 0 0, .slice none 0 0, .slice none 0 0, .int .i64 4, .int .i64 0, .int .i64 0, .slice none 0 0, .slice none 0 0, .slice none 0 0] 26)).alloc (.cells #[.int .i64 6, .int .i64 0, .int .i64 0, .slice (some ⟨w.heap.size, 0, none⟩) 2 2, .slice (some ⟨w.heap.size + 1, 0, none⟩) 2 2, .slice none 0 0] 26)).alloc (.cells #[.string ⟨#[120]⟩, .string ⟨#[121]⟩] 9)).alloc (.cells #[.int .i64 3, .slice none 0 0, .slice none 0 0, .slice none 0 0, .int .i64 0, .slice (some ⟨w.heap.size + 1 + 1 + 1, 0, none⟩) 2 2, .slice none 0 0, .slice none 0 0] 30)).alloc (.cells #[.int .i64 0, .slice none 0 0, .slice (some ⟨w.heap.size + 1 + 1 + 1 + 1, 0, none⟩) 2 2, .slice none 0 0] 30)) V0 [.int .i64 0, .slice none 0 0, .slice (some ⟨w.heap.size + 1 + 1 + 1 + 1, 0, none⟩) 2 2, .slice none 0 0]) := hid (by
    rw [V0]
    refine (valRd_iff _ _ _).2 ⟨_, _, _, rfl, i64_0, sl_none _ _ _, ?_, sl_none _ _ _⟩
    have hs := sl_row (sz := 1) (R := strRd) (l := [s1 120, s1 121]) [[.string (s1 120)], [.string (s1 121)]] h3 rfl rfl (by simp) (fun i h h' => two_idx (P := fun i => ∀ (h : i < 2) (h' : i < 2), strRd ([s1 120, s1 121][i]) ([[Value.string (s1 120)], [.string (s1 121)]][i])) (fun _ _ => ⟨rfl, s1_le _⟩) (fun _ _ => ⟨rfl, s1_le _⟩) i h h h') (by decide)
    exact sl_row (R := valRd _) (l := [.mk 3 [] [] [], .mk 0 [s1 120, s1 121] [] []]) [[.int .i64 3, .slice none 0 0, .slice none 0 0, .slice none 0 0], [.int .i64 0, .slice (some ⟨w.heap.size + 1 + 1 + 1, 0, none⟩) 2 2, .slice none 0 0, .slice none 0 0]] h4 rfl rfl (by simp) (fun i h h' => two_idx (P := fun i => ∀ (h : i < 2) (h' : i < 2), valRd _ ([Val.mk 3 [] [] [], .mk 0 [s1 120, s1 121] [] []][i]) ([[Value.int .i64 3, .slice none 0 0, .slice none 0 0, .slice none 0 0], [.int .i64 0, .slice (some ⟨w.heap.size + 1 + 1 + 1, 0, none⟩) 2 2, .slice none 0 0, .slice none 0 0]][i])) (fun _ _ => valRd_flat _ _ (i64_of (by decide))) (fun _ _ => (valRd_iff _ _ _).2 ⟨_, _, _, rfl, i64_0, hs, sl_none _ _ _, sl_none _ _ _⟩) i h h h') (by decide))
  have HH : Hid (∀ u, Below ((((((w.alloc (.cells #[.string ⟨#[99]⟩, .string ⟨#[97]⟩] 9)).alloc (.cells #[.int .i64 2, .int .i64 0, .int .i64 9, .slice none 0 0, .slice none 0 0, .slice none 0 0, .int .i64 4, .int .i64 0, .int .i64 0, .slice none 0 0, .slice none 0 0, .slice none 0 0] 26)).alloc (.cells #[.int .i64 6, .int .i64 0, .int .i64 0, .slice (some ⟨w.heap.size, 0, none⟩) 2 2, .slice (some ⟨w.heap.size + 1, 0, none⟩) 2 2, .slice none 0 0] 26)).alloc (.cells #[.string ⟨#[120]⟩, .string ⟨#[121]⟩] 9)).alloc (.cells #[.int .i64 3, .slice none 0 0, .slice none 0 0, .slice none 0 0, .int .i64 0, .slice (some ⟨w.heap.size + 1 + 1 + 1, 0, none⟩) 2 2, .slice none 0 0, .slice none 0 0] 30)).alloc (.cells #[.int .i64 0, .slice none 0 0, .slice (some ⟨w.heap.size + 1 + 1 + 1 + 1, 0, none⟩) 2 2, .slice none 0 0] 30)).heap.size ((((((w.alloc (.cells #[.string ⟨#[99]⟩, .string ⟨#[97]⟩] 9)).alloc (.cells #[.int .i64 2, .int .i64 0, .int .i64 9, .slice none 0 0, .slice none 0 0, .slice none 0 0, .int .i64 4, .int .i64 0, .int .i64 0, .slice none 0 0, .slice none 0 0, .slice none 0 0] 26)).alloc (.cells #[.int .i64 6, .int .i64 0, .int .i64 0, .slice (some ⟨w.heap.size, 0, none⟩) 2 2, .slice (some ⟨w.heap.size + 1, 0, none⟩) 2 2, .slice none 0 0] 26)).alloc (.cells #[.string ⟨#[120]⟩, .string ⟨#[121]⟩] 9)).alloc (.cells #[.int .i64 3, .slice none 0 0, .slice none 0 0, .slice none 0 0, .int .i64 0, .slice (some ⟨w.heap.size + 1 + 1 + 1, 0, none⟩) 2 2, .slice none 0 0, .slice none 0 0] 30)).alloc (.cells #[.int .i64 0, .slice none 0 0, .slice (some ⟨w.heap.size + 1 + 1 + 1 + 1, 0, none⟩) 2 2, .slice none 0 0] 30)) u → u.heap[w.heap.size + 1 + 1]? = some (.cells #[.int .i64 6, .int .i64 0, .int .i64 0, .slice (some ⟨w.heap.size, 0, none⟩) 2 2, .slice (some ⟨w.heap.size + 1, 0, none⟩) 2 2, .slice none 0 0] 26 (0, 0)) ∧ u.heap[w.heap.size + 1 + 1 + 1 + 1 + 1]? = some (.cells #[.int .i64 0, .slice none 0 0, .slice (some ⟨w.heap.size + 1 + 1 + 1 + 1, 0, none⟩) 2 2, .slice none 0 0] 30 (0, 0))) := hid fun u hu => ⟨(hu.block _ (block_lt h2)).trans h2, (hu.block _ (block_lt h5)).trans h5⟩
  clear h0 h1 h2 h3 h4 h5
  go_enter Tryz.func14, Tryz.ntmps14
  go_wp2_with fail
  generalize (((((w.alloc (.cells #[.string ⟨#[99]⟩, .string ⟨#[97]⟩] 9)).alloc (.cells #[.int .i64 2, .int .i64 0, .int .i64 9, .slice none 0 0, .slice none 0 0, .slice none 0 0, .int .i64 4, .int .i64 0, .int .i64 0, .slice none 0 0, .slice none 0 0, .slice none 0 0] 26)).alloc (.cells #[.int .i64 6, .int .i64 0, .int .i64 0, .slice (some ⟨w.heap.size, 0, none⟩) 2 2, .slice (some ⟨w.heap.size + 1, 0, none⟩) 2 2, .slice none 0 0] 26)).alloc (.cells #[.string ⟨#[120]⟩, .string ⟨#[121]⟩] 9)).alloc (.cells #[.int .i64 3, .slice none 0 0, .slice none 0 0, .slice none 0 0, .int .i64 0, .slice (some ⟨w.heap.size + 1 + 1 + 1, 0, none⟩) 2 2, .slice none 0 0, .slice none 0 0] 30)).alloc (.cells #[.int .i64 0, .slice none 0 0, .slice (some ⟨w.heap.size + 1 + 1 + 1 + 1, 0, none⟩) 2 2, .slice none 0 0] 30) = W at HW HSZ HL HV HH ⊢
  have HUP : Hid (∀ {u : World}, Below W.heap.size W u → Below w.heap.size w u) := hid fun h => HW.out.trans (h.mono (by have := HSZ.out; omega))
  refine (Encode_any L0 V0 [.int .i64 6, .int .i64 0, .int .i64 0, .slice (some ⟨w.heap.size, 0, none⟩) 2 2, .slice (some ⟨w.heap.size + 1, 0, none⟩) 2 2, .slice none 0 0] [.int .i64 0, .slice none 0 0, .slice (some ⟨w.heap.size + 1 + 1 + 1 + 1, 0, none⟩) 2 2, .slice none 0 0] W HL.out HV.out (fun _ _ => by rw [put_V0]; decide)).mono ?_
  rw [enc_V0]
  rintro e u1 ⟨r1, rfl, hr1, hb1⟩
  have HR1 : Hid (u1.ownsRow W.heap.size 5 1 r1 6 ([6, 2, 1, 120, 1, 121].map u8v)) := hid hr1
  have HB1 := hid hb1
  clear hr1 hb1
  have l0 : u1.cell? ⟨w.heap.size + 1 + 1, 0, none⟩ = some (.int .i64 6) := cell_at_block (HH.out _ HB1.out).1
  have l1 : u1.cell? ⟨w.heap.size + 1 + 1, 1, none⟩ = some (.int .i64 0) := cell_at_block (HH.out _ HB1.out).1
  have l2 : u1.cell? ⟨w.heap.size + 1 + 1, 2, none⟩ = some (.int .i64 0) := cell_at_block (HH.out _ HB1.out).1
  have l3 : u1.cell? ⟨w.heap.size + 1 + 1, 3, none⟩ = some (.slice (some ⟨w.heap.size, 0, none⟩) 2 2) := cell_at_block (HH.out _ HB1.out).1
  have l4 : u1.cell? ⟨w.heap.size + 1 + 1, 4, none⟩ = some (.slice (some ⟨w.heap.size + 1, 0, none⟩) 2 2) := cell_at_block (HH.out _ HB1.out).1
  have l5 : u1.cell? ⟨w.heap.size + 1 + 1, 5, none⟩ = some (.slice none 0 0) := cell_at_block (HH.out _ HB1.out).1
  have v0 : u1.cell? ⟨w.heap.size + 1 + 1 + 1 + 1 + 1, 0, none⟩ = some (.int .i64 0) := cell_at_block (HH.out _ HB1.out).2
  have v1 : u1.cell? ⟨w.heap.size + 1 + 1 + 1 + 1 + 1, 1, none⟩ = some (.slice none 0 0) := cell_at_block (HH.out _ HB1.out).2
  have v2 : u1.cell? ⟨w.heap.size + 1 + 1 + 1 + 1 + 1, 2, none⟩ = some (.slice (some ⟨w.heap.size + 1 + 1 + 1 + 1, 0, none⟩) 2 2) := cell_at_block (HH.out _ HB1.out).2
  have v3 : u1.cell? ⟨w.heap.size + 1 + 1 + 1 + 1 + 1, 3, none⟩ = some (.slice none 0 0) := cell_at_block (HH.out _ HB1.out).2
  go_wp2_with fail
  refine (Text_any L0 V0 [.int .i64 6, .int .i64 0, .int .i64 0, .slice (some ⟨w.heap.size, 0, none⟩) 2 2, .slice (some ⟨w.heap.size + 1, 0, none⟩) 2 2, .slice none 0 0] [.int .i64 0, .slice none 0 0, .slice (some ⟨w.heap.size + 1 + 1 + 1 + 1, 0, none⟩) 2 2, .slice none 0 0] u1 (latRd.below HB1.out _ _ HL.out) (valRd.below HB1.out _ _ HV.out) (HT.out.below (HUP.out HB1.out)) (fun h1 h2 => by have := txt_V0; unfold textE' at this; rw [if_neg (fun h => h h1), if_neg (by rw [h2]; decide)] at this; injection this with this _; rw [this]; decide)).mono ?_
  rw [txt_V0]
  rintro e u2 ⟨rfl, hb2⟩
  have HB2 : Hid (Below W.heap.size W u2) := hid (HB1.out.trans (hb2.mono HB1.out.size))
  have HR2 : Hid (u2.ownsRow W.heap.size 5 1 r1 6 ([6, 2, 1, 120, 1, 121].map u8v)) := hid (owns_below HR1.out hb2)
  clear hb2 l0 l1 l2 l3 l4 l5 v0 v1 v2 v3
  have l0 : u2.cell? ⟨w.heap.size + 1 + 1, 0, none⟩ = some (.int .i64 6) := cell_at_block (HH.out _ HB2.out).1
  have l1 : u2.cell? ⟨w.heap.size + 1 + 1, 1, none⟩ = some (.int .i64 0) := cell_at_block (HH.out _ HB2.out).1
  have l2 : u2.cell? ⟨w.heap.size + 1 + 1, 2, none⟩ = some (.int .i64 0) := cell_at_block (HH.out _ HB2.out).1
  have l3 : u2.cell? ⟨w.heap.size + 1 + 1, 3, none⟩ = some (.slice (some ⟨w.heap.size, 0, none⟩) 2 2) := cell_at_block (HH.out _ HB2.out).1
  have l4 : u2.cell? ⟨w.heap.size + 1 + 1, 4, none⟩ = some (.slice (some ⟨w.heap.size + 1, 0, none⟩) 2 2) := cell_at_block (HH.out _ HB2.out).1
  have l5 : u2.cell? ⟨w.heap.size + 1 + 1, 5, none⟩ = some (.slice none 0 0) := cell_at_block (HH.out _ HB2.out).1
  have v0 : u2.cell? ⟨w.heap.size + 1 + 1 + 1 + 1 + 1, 0, none⟩ = some (.int .i64 0) := cell_at_block (HH.out _ HB2.out).2
  have v1 : u2.cell? ⟨w.heap.size + 1 + 1 + 1 + 1 + 1, 1, none⟩ = some (.slice none 0 0) := cell_at_block (HH.out _ HB2.out).2
  have v2 : u2.cell? ⟨w.heap.size + 1 + 1 + 1 + 1 + 1, 2, none⟩ = some (.slice (some ⟨w.heap.size + 1 + 1 + 1 + 1, 0, none⟩) 2 2) := cell_at_block (HH.out _ HB2.out).2
  have v3 : u2.cell? ⟨w.heap.size + 1 + 1 + 1 + 1 + 1, 3, none⟩ = some (.slice none 0 0) := cell_at_block (HH.out _ HB2.out).2
  obtain ⟨ra, rc, rfl⟩ := owns_shape HR2.out
  go_wp2_with fail
  refine (Decode_any L0 [6, 2, 1, 120, 1, 121] [.int .i64 6, .int .i64 0, .int .i64 0, .slice (some ⟨w.heap.size, 0, none⟩) 2 2, .slice (some ⟨w.heap.size + 1, 0, none⟩) 2 2, .slice none 0 0] (.slice ra 6 rc) u2 (latRd.below HB2.out _ _ HL.out) (bytes_owns HR2.out) (by decide)).mono ?_
  rw [dec_V0]
  rintro e u3 ⟨c3, rfl, hv3, hb3⟩
  have HV3 : Hid (valRd u3 V0 c3) := hid (valRd_mono' (only_sub _ _) hv3)
  have HB3 : Hid (Below W.heap.size W u3) := hid (HB2.out.trans (hb3.mono HB2.out.size))
  have HR3 : Hid (u3.ownsRow W.heap.size 5 1 (.slice ra 6 rc) 6 ([6, 2, 1, 120, 1, 121].map u8v)) := hid (owns_below HR2.out hb3)
  obtain ⟨xn3, xp3, xe3, rfl, _, h3n, h3p, h3e⟩ := (valRd_iff _ _ _).1 HV3.out
  obtain ⟨na, ncp, rfl, _, _⟩ := h3n.shape
  obtain ⟨pa, pcp, rfl, _, _⟩ := h3p.shape
  obtain ⟨ea, ecp, rfl, _, _⟩ := h3e.shape
  clear hv3 hb3 h3n h3p h3e l0 l1 l2 l3 l4 l5 v0 v1 v2 v3
  have HB3A : Hid (∀ O, Below W.heap.size W (u3.alloc O)) := hid fun O => HB3.out.alloc HB3.out.size O
  have l0 : ∀ O, (u3.alloc O).cell? ⟨w.heap.size + 1 + 1, 0, none⟩ = some (.int .i64 6) := fun O => cell_at_block (HH.out _ (HB3A.out O)).1
  have l1 : ∀ O, (u3.alloc O).cell? ⟨w.heap.size + 1 + 1, 1, none⟩ = some (.int .i64 0) := fun O => cell_at_block (HH.out _ (HB3A.out O)).1
  have l2 : ∀ O, (u3.alloc O).cell? ⟨w.heap.size + 1 + 1, 2, none⟩ = some (.int .i64 0) := fun O => cell_at_block (HH.out _ (HB3A.out O)).1
  have l3 : ∀ O, (u3.alloc O).cell? ⟨w.heap.size + 1 + 1, 3, none⟩ = some (.slice (some ⟨w.heap.size, 0, none⟩) 2 2) := fun O => cell_at_block (HH.out _ (HB3A.out O)).1
  have l4 : ∀ O, (u3.alloc O).cell? ⟨w.heap.size + 1 + 1, 4, none⟩ = some (.slice (some ⟨w.heap.size + 1, 0, none⟩) 2 2) := fun O => cell_at_block (HH.out _ (HB3A.out O)).1
  have l5 : ∀ O, (u3.alloc O).cell? ⟨w.heap.size + 1 + 1, 5, none⟩ = some (.slice none 0 0) := fun O => cell_at_block (HH.out _ (HB3A.out O)).1
  have v0 : ∀ O, (u3.alloc O).cell? ⟨w.heap.size + 1 + 1 + 1 + 1 + 1, 0, none⟩ = some (.int .i64 0) := fun O => cell_at_block (HH.out _ (HB3A.out O)).2
  have v1 : ∀ O, (u3.alloc O).cell? ⟨w.heap.size + 1 + 1 + 1 + 1 + 1, 1, none⟩ = some (.slice none 0 0) := fun O => cell_at_block (HH.out _ (HB3A.out O)).2
  have v2 : ∀ O, (u3.alloc O).cell? ⟨w.heap.size + 1 + 1 + 1 + 1 + 1, 2, none⟩ = some (.slice (some ⟨w.heap.size + 1 + 1 + 1 + 1, 0, none⟩) 2 2) := fun O => cell_at_block (HH.out _ (HB3A.out O)).2
  have v3 : ∀ O, (u3.alloc O).cell? ⟨w.heap.size + 1 + 1 + 1 + 1 + 1, 3, none⟩ = some (.slice none 0 0) := fun O => cell_at_block (HH.out _ (HB3A.out O)).2
  go_wp2_with fail
  refine (Top_any L0 [.int .i64 6, .int .i64 0, .int .i64 0, .slice (some ⟨w.heap.size, 0, none⟩) 2 2, .slice (some ⟨w.heap.size + 1, 0, none⟩) 2 2, .slice none 0 0] _ (latRd.below (HB3A.out _) _ _ HL.out)).mono ?_
  rw [top_L0]
  rintro e u4 ⟨c4, rfl, hv4, hb4⟩
  have HB4 : Hid (Below W.heap.size W u4) := hid ((HB3A.out _).trans (hb4.mono (HB3A.out _).size))
  have HB34 : Hid (Below u3.heap.size u3 u4) := hid (((Below.refl _ _).alloc (Nat.le_refl _) _).trans (hb4.mono (by simp)))
  have H7 : Hid (u4.heap[u3.heap.size]? = some (.cells #[.int .i64 V0.n, .slice na V0.names.length ncp, .slice pa V0.parts.length pcp, .slice ea V0.entries.length ecp] 30 (0, 0))) := hid ((hb4.block _ (by simp)).trans (heap_alloc_new _ _))
  obtain ⟨xn4, xp4, xe4, rfl, _, h4n, h4p, h4e⟩ := (valRd_iff _ _ _).1 hv4
  obtain ⟨na4, ncp4, rfl, _, _⟩ := h4n.shape
  obtain ⟨pa4, pcp4, rfl, _, _⟩ := h4p.shape
  obtain ⟨ea4, ecp4, rfl, _, _⟩ := h4e.shape
  clear hv4 hb4 h4n h4p h4e l0 l1 l2 l3 l4 l5 v0 v1 v2 v3
  have HB4A : Hid (∀ O P Q, Below W.heap.size W (((u4.alloc O).alloc P).alloc Q)) := hid fun O P Q => ((HB4.out.alloc HB4.out.size O).alloc (by have := HB4.out.size; simp; omega) P).alloc (by have := HB4.out.size; simp; omega) Q
  have l0 : ∀ O P Q, (((u4.alloc O).alloc P).alloc Q).cell? ⟨w.heap.size + 1 + 1, 0, none⟩ = some (.int .i64 6) := fun O P Q => cell_at_block (HH.out _ (HB4A.out O P Q)).1
  have l1 : ∀ O P Q, (((u4.alloc O).alloc P).alloc Q).cell? ⟨w.heap.size + 1 + 1, 1, none⟩ = some (.int .i64 0) := fun O P Q => cell_at_block (HH.out _ (HB4A.out O P Q)).1
  have l2 : ∀ O P Q, (((u4.alloc O).alloc P).alloc Q).cell? ⟨w.heap.size + 1 + 1, 2, none⟩ = some (.int .i64 0) := fun O P Q => cell_at_block (HH.out _ (HB4A.out O P Q)).1
  have l3 : ∀ O P Q, (((u4.alloc O).alloc P).alloc Q).cell? ⟨w.heap.size + 1 + 1, 3, none⟩ = some (.slice (some ⟨w.heap.size, 0, none⟩) 2 2) := fun O P Q => cell_at_block (HH.out _ (HB4A.out O P Q)).1
  have l4 : ∀ O P Q, (((u4.alloc O).alloc P).alloc Q).cell? ⟨w.heap.size + 1 + 1, 4, none⟩ = some (.slice (some ⟨w.heap.size + 1, 0, none⟩) 2 2) := fun O P Q => cell_at_block (HH.out _ (HB4A.out O P Q)).1
  have l5 : ∀ O P Q, (((u4.alloc O).alloc P).alloc Q).cell? ⟨w.heap.size + 1 + 1, 5, none⟩ = some (.slice none 0 0) := fun O P Q => cell_at_block (HH.out _ (HB4A.out O P Q)).1
  have v0 : ∀ O P Q, (((u4.alloc O).alloc P).alloc Q).cell? ⟨w.heap.size + 1 + 1 + 1 + 1 + 1, 0, none⟩ = some (.int .i64 0) := fun O P Q => cell_at_block (HH.out _ (HB4A.out O P Q)).2
  have v1 : ∀ O P Q, (((u4.alloc O).alloc P).alloc Q).cell? ⟨w.heap.size + 1 + 1 + 1 + 1 + 1, 1, none⟩ = some (.slice none 0 0) := fun O P Q => cell_at_block (HH.out _ (HB4A.out O P Q)).2
  have v2 : ∀ O P Q, (((u4.alloc O).alloc P).alloc Q).cell? ⟨w.heap.size + 1 + 1 + 1 + 1 + 1, 2, none⟩ = some (.slice (some ⟨w.heap.size + 1 + 1 + 1 + 1, 0, none⟩) 2 2) := fun O P Q => cell_at_block (HH.out _ (HB4A.out O P Q)).2
  have v3 : ∀ O P Q, (((u4.alloc O).alloc P).alloc Q).cell? ⟨w.heap.size + 1 + 1 + 1 + 1 + 1, 3, none⟩ = some (.slice none 0 0) := fun O P Q => cell_at_block (HH.out _ (HB4A.out O P Q)).2
  go_wp2_with fail
  have HBZ : Hid (Below W.heap.size W (((u4.alloc (.cells #[.int .i64 zeroV.n, .slice na4 zeroV.names.length ncp4, .slice pa4 zeroV.parts.length pcp4, .slice ea4 zeroV.entries.length ecp4] 30)).alloc (.cells #[.int .i64 2, .int .i64 0, .int .i64 5, .slice none 0 0, .slice none 0 0, .slice none 0 0] 26)).alloc (.cells #[.int .i64 5, .int .i64 0, .int .i64 0, .slice none 0 0, .slice (some ⟨u4.heap.size + 1, 0, none⟩) 1 1, .slice none 0 0] 26))) := hid (HB4A.out _ _ _)
  have HB3Z : Hid (Below u3.heap.size u3 (((u4.alloc (.cells #[.int .i64 zeroV.n, .slice na4 zeroV.names.length ncp4, .slice pa4 zeroV.parts.length pcp4, .slice ea4 zeroV.entries.length ecp4] 30)).alloc (.cells #[.int .i64 2, .int .i64 0, .int .i64 5, .slice none 0 0, .slice none 0 0, .slice none 0 0] 26)).alloc (.cells #[.int .i64 5, .int .i64 0, .int .i64 0, .slice none 0 0, .slice (some ⟨u4.heap.size + 1, 0, none⟩) 1 1, .slice none 0 0] 26))) := hid (((HB34.out.alloc HB34.out.size _).alloc (by have := HB34.out.size; simp; omega) _).alloc (by have := HB34.out.size; simp; omega) _)
  have H7Z : Hid ((((u4.alloc (.cells #[.int .i64 zeroV.n, .slice na4 zeroV.names.length ncp4, .slice pa4 zeroV.parts.length pcp4, .slice ea4 zeroV.entries.length ecp4] 30)).alloc (.cells #[.int .i64 2, .int .i64 0, .int .i64 5, .slice none 0 0, .slice none 0 0, .slice none 0 0] 26)).alloc (.cells #[.int .i64 5, .int .i64 0, .int .i64 0, .slice none 0 0, .slice (some ⟨u4.heap.size + 1, 0, none⟩) 1 1, .slice none 0 0] 26)).heap[u3.heap.size]? = some (.cells #[.int .i64 V0.n, .slice na V0.names.length ncp, .slice pa V0.parts.length pcp, .slice ea V0.entries.length ecp] 30 (0, 0))) := hid (block_alloc (block_alloc (block_alloc H7.out _) _) _)
  have H11 : Hid ((((u4.alloc (.cells #[.int .i64 zeroV.n, .slice na4 zeroV.names.length ncp4, .slice pa4 zeroV.parts.length pcp4, .slice ea4 zeroV.entries.length ecp4] 30)).alloc (.cells #[.int .i64 2, .int .i64 0, .int .i64 5, .slice none 0 0, .slice none 0 0, .slice none 0 0] 26)).alloc (.cells #[.int .i64 5, .int .i64 0, .int .i64 0, .slice none 0 0, .slice (some ⟨u4.heap.size + 1, 0, none⟩) 1 1, .slice none 0 0] 26)).heap[u4.heap.size + 1 + 1]? = some (.cells #[.int .i64 5, .int .i64 0, .int .i64 0, .slice none 0 0, .slice (some ⟨u4.heap.size + 1, 0, none⟩) 1 1, .slice none 0 0] 26 (0, 0))) := hid (heap_new_at _ _ _ (by simp))
  have HMZ : Hid (latRd (((u4.alloc (.cells #[.int .i64 zeroV.n, .slice na4 zeroV.names.length ncp4, .slice pa4 zeroV.parts.length pcp4, .slice ea4 zeroV.entries.length ecp4] 30)).alloc (.cells #[.int .i64 2, .int .i64 0, .int .i64 5, .slice none 0 0, .slice none 0 0, .slice none 0 0] 26)).alloc (.cells #[.int .i64 5, .int .i64 0, .int .i64 0, .slice none 0 0, .slice (some ⟨u4.heap.size + 1, 0, none⟩) 1 1, .slice none 0 0] 26)) M0 [.int .i64 5, .int .i64 0, .int .i64 0, .slice none 0 0, .slice (some ⟨u4.heap.size + 1, 0, none⟩) 1 1, .slice none 0 0]) := hid (by
    rw [M0]
    refine (latRd_iff _ _ _).2 ⟨_, _, _, rfl, ⟨i64_of (by decide), i64_of (by decide), i64_of (by decide)⟩, sl_none _ _ _, ?_, sl_none _ _ _⟩
    exact sl_row (g := u4.heap.size + 1) (R := latRd _) (l := [.mk 2 0 5 [] [] []]) [[.int .i64 2, .int .i64 0, .int .i64 5, .slice none 0 0, .slice none 0 0, .slice none 0 0]] (block_alloc (heap_new_at _ _ _ (by simp)) _) rfl rfl (by simp) (fun i h h' => one_idx (P := fun i => ∀ (h : i < 1) (h' : i < 1), latRd _ ([Lat.mk 2 0 5 [] [] []][i]) ([[Value.int .i64 2, .int .i64 0, .int .i64 5, .slice none 0 0, .slice none 0 0, .slice none 0 0]][i])) (fun _ _ => lat_flat (i64_of (by decide)) (i64_of (by decide)) (i64_of (by decide))) i h h h') (by decide))
  have HRZ : Hid ((((u4.alloc (.cells #[.int .i64 zeroV.n, .slice na4 zeroV.names.length ncp4, .slice pa4 zeroV.parts.length pcp4, .slice ea4 zeroV.entries.length ecp4] 30)).alloc (.cells #[.int .i64 2, .int .i64 0, .int .i64 5, .slice none 0 0, .slice none 0 0, .slice none 0 0] 26)).alloc (.cells #[.int .i64 5, .int .i64 0, .int .i64 0, .slice none 0 0, .slice (some ⟨u4.heap.size + 1, 0, none⟩) 1 1, .slice none 0 0] 26)).ownsRow W.heap.size 5 1 (.slice ra 6 rc) 6 ([6, 2, 1, 120, 1, 121].map u8v)) := hid (owns_below HR3.out HB3Z.out)
  have HVZ : Hid (valRd (((u4.alloc (.cells #[.int .i64 zeroV.n, .slice na4 zeroV.names.length ncp4, .slice pa4 zeroV.parts.length pcp4, .slice ea4 zeroV.entries.length ecp4] 30)).alloc (.cells #[.int .i64 2, .int .i64 0, .int .i64 5, .slice none 0 0, .slice none 0 0, .slice none 0 0] 26)).alloc (.cells #[.int .i64 5, .int .i64 0, .int .i64 0, .slice none 0 0, .slice (some ⟨u4.heap.size + 1, 0, none⟩) 1 1, .slice none 0 0] 26)) V0 [.int .i64 V0.n, .slice na V0.names.length ncp, .slice pa V0.parts.length pcp, .slice ea V0.entries.length ecp]) := hid (valRd.below HB3Z.out _ _ HV3.out)
  generalize ((u4.alloc (.cells #[.int .i64 zeroV.n, .slice na4 zeroV.names.length ncp4, .slice pa4 zeroV.parts.length pcp4, .slice ea4 zeroV.entries.length ecp4] 30)).alloc (.cells #[.int .i64 2, .int .i64 0, .int .i64 5, .slice none 0 0, .slice none 0 0, .slice none 0 0] 26)).alloc (.cells #[.int .i64 5, .int .i64 0, .int .i64 0, .slice none 0 0, .slice (some ⟨u4.heap.size + 1, 0, none⟩) 1 1, .slice none 0 0] 26) = Z at HBZ HB3Z H7Z H11 HMZ HRZ HVZ ⊢
  clear l0 l1 l2 l3 l4 l5 v0 v1 v2 v3 HB4A HB3A H7
  have HZ : Hid (∀ u, Below Z.heap.size Z u → Below W.heap.size W u) := hid fun u hu => HBZ.out.trans (hu.mono HBZ.out.size)
  have HQ : Hid (∀ u, Below Z.heap.size Z u → u.heap[u3.heap.size]? = some (.cells #[.int .i64 V0.n, .slice na V0.names.length ncp, .slice pa V0.parts.length pcp, .slice ea V0.entries.length ecp] 30 (0, 0)) ∧ u.heap[u4.heap.size + 1 + 1]? = some (.cells #[.int .i64 5, .int .i64 0, .int .i64 0, .slice none 0 0, .slice (some ⟨u4.heap.size + 1, 0, none⟩) 1 1, .slice none 0 0] 26 (0, 0))) := hid fun u hu => ⟨(hu.block _ (block_lt H7Z.out)).trans H7Z.out, (hu.block _ (block_lt H11.out)).trans H11.out⟩
  refine (valid_any L0 V0 [.int .i64 6, .int .i64 0, .int .i64 0, .slice (some ⟨w.heap.size, 0, none⟩) 2 2, .slice (some ⟨w.heap.size + 1, 0, none⟩) 2 2, .slice none 0 0] [.int .i64 0, .slice none 0 0, .slice (some ⟨w.heap.size + 1 + 1 + 1 + 1, 0, none⟩) 2 2, .slice none 0 0] Z (latRd.below HBZ.out _ _ HL.out) (valRd.below HBZ.out _ _ HV.out)).mono ?_
  rw [val_V0]
  rintro e z1 ⟨rfl, hb1⟩
  have ZB1 := hid hb1
  clear hb1
  have l0 : z1.cell? ⟨w.heap.size + 1 + 1, 0, none⟩ = some (.int .i64 6) := cell_at_block (HH.out _ (HZ.out _ ZB1.out)).1
  have l1 : z1.cell? ⟨w.heap.size + 1 + 1, 1, none⟩ = some (.int .i64 0) := cell_at_block (HH.out _ (HZ.out _ ZB1.out)).1
  have l2 : z1.cell? ⟨w.heap.size + 1 + 1, 2, none⟩ = some (.int .i64 0) := cell_at_block (HH.out _ (HZ.out _ ZB1.out)).1
  have l3 : z1.cell? ⟨w.heap.size + 1 + 1, 3, none⟩ = some (.slice (some ⟨w.heap.size, 0, none⟩) 2 2) := cell_at_block (HH.out _ (HZ.out _ ZB1.out)).1
  have l4 : z1.cell? ⟨w.heap.size + 1 + 1, 4, none⟩ = some (.slice (some ⟨w.heap.size + 1, 0, none⟩) 2 2) := cell_at_block (HH.out _ (HZ.out _ ZB1.out)).1
  have l5 : z1.cell? ⟨w.heap.size + 1 + 1, 5, none⟩ = some (.slice none 0 0) := cell_at_block (HH.out _ (HZ.out _ ZB1.out)).1
  have v0 : z1.cell? ⟨w.heap.size + 1 + 1 + 1 + 1 + 1, 0, none⟩ = some (.int .i64 0) := cell_at_block (HH.out _ (HZ.out _ ZB1.out)).2
  have v1 : z1.cell? ⟨w.heap.size + 1 + 1 + 1 + 1 + 1, 1, none⟩ = some (.slice none 0 0) := cell_at_block (HH.out _ (HZ.out _ ZB1.out)).2
  have v2 : z1.cell? ⟨w.heap.size + 1 + 1 + 1 + 1 + 1, 2, none⟩ = some (.slice (some ⟨w.heap.size + 1 + 1 + 1 + 1, 0, none⟩) 2 2) := cell_at_block (HH.out _ (HZ.out _ ZB1.out)).2
  have v3 : z1.cell? ⟨w.heap.size + 1 + 1 + 1 + 1 + 1, 3, none⟩ = some (.slice none 0 0) := cell_at_block (HH.out _ (HZ.out _ ZB1.out)).2
  have q0 : z1.cell? ⟨u3.heap.size, 0, none⟩ = some (.int .i64 V0.n) := cell_at_block (HQ.out _ ZB1.out).1
  have q1 : z1.cell? ⟨u3.heap.size, 1, none⟩ = some (.slice na V0.names.length ncp) := cell_at_block (HQ.out _ ZB1.out).1
  have q2 : z1.cell? ⟨u3.heap.size, 2, none⟩ = some (.slice pa V0.parts.length pcp) := cell_at_block (HQ.out _ ZB1.out).1
  have q3 : z1.cell? ⟨u3.heap.size, 3, none⟩ = some (.slice ea V0.entries.length ecp) := cell_at_block (HQ.out _ ZB1.out).1
  have m0 : z1.cell? ⟨u4.heap.size + 1 + 1, 0, none⟩ = some (.int .i64 5) := cell_at_block (HQ.out _ ZB1.out).2
  have m1 : z1.cell? ⟨u4.heap.size + 1 + 1, 1, none⟩ = some (.int .i64 0) := cell_at_block (HQ.out _ ZB1.out).2
  have m2 : z1.cell? ⟨u4.heap.size + 1 + 1, 2, none⟩ = some (.int .i64 0) := cell_at_block (HQ.out _ ZB1.out).2
  have m3 : z1.cell? ⟨u4.heap.size + 1 + 1, 3, none⟩ = some (.slice none 0 0) := cell_at_block (HQ.out _ ZB1.out).2
  have m4 : z1.cell? ⟨u4.heap.size + 1 + 1, 4, none⟩ = some (.slice (some ⟨u4.heap.size + 1, 0, none⟩) 1 1) := cell_at_block (HQ.out _ ZB1.out).2
  have m5 : z1.cell? ⟨u4.heap.size + 1 + 1, 5, none⟩ = some (.slice none 0 0) := cell_at_block (HQ.out _ ZB1.out).2
  go_wp2_with fail
  refine (valid_any L0 zeroV [.int .i64 6, .int .i64 0, .int .i64 0, .slice (some ⟨w.heap.size, 0, none⟩) 2 2, .slice (some ⟨w.heap.size + 1, 0, none⟩) 2 2, .slice none 0 0] [.int .i64 0, .slice none 0 0, .slice none 0 0, .slice none 0 0] z1 (latRd.below (HZ.out _ ZB1.out) _ _ HL.out) (valRd_flat _ _ i64_0)).mono ?_
  rw [val_Z0]
  rintro e z2 ⟨rfl, hb2⟩
  have ZB2 : Hid (Below Z.heap.size Z z2) := hid (ZB1.out.trans (hb2.mono ZB1.out.size))
  clear hb2 l0 l1 l2 l3 l4 l5 v0 v1 v2 v3
  have HBY : Hid (SlRd (z2.alloc (.cells #[.int .u8 6, .int .u8 2, .int .u8 1, .int .u8 120, .int .u8 1, .int .u8 121] 5)) 1 byteRd (.slice (some ⟨z2.heap.size, 0, none⟩) 6 6) [6, 2, 1, 120, 1, 121]) := hid (sl_row (l := [6, 2, 1, 120, 1, 121]) (([6, 2, 1, 120, 1, 121] : List UInt8).map fun c => [u8v c]) (heap_alloc_new _ _) rfl rfl (by simp) (fun i h h' => by rw [List.getElem_map]; rfl) (by decide))
  have ZB2A : Hid (Below Z.heap.size Z (z2.alloc (.cells #[.int .u8 6, .int .u8 2, .int .u8 1, .int .u8 120, .int .u8 1, .int .u8 121] 5))) := hid (ZB2.out.alloc ZB2.out.size _)
  go_wp2_with fail
  refine (bytes_any (.slice ra 6 rc) _ [6, 2, 1, 120, 1, 121] [6, 2, 1, 120, 1, 121] _ (bytes_owns (owns_below HRZ.out ZB2A.out)) HBY.out).mono ?_
  rw [decide_eq_true rfl]
  rintro e z3 ⟨rfl, hb3⟩
  have ZB3 : Hid (Below Z.heap.size Z z3) := hid (ZB2A.out.trans (hb3.mono ZB2A.out.size))
  clear hb3
  have l0 : z3.cell? ⟨w.heap.size + 1 + 1, 0, none⟩ = some (.int .i64 6) := cell_at_block (HH.out _ (HZ.out _ ZB3.out)).1
  have l1 : z3.cell? ⟨w.heap.size + 1 + 1, 1, none⟩ = some (.int .i64 0) := cell_at_block (HH.out _ (HZ.out _ ZB3.out)).1
  have l2 : z3.cell? ⟨w.heap.size + 1 + 1, 2, none⟩ = some (.int .i64 0) := cell_at_block (HH.out _ (HZ.out _ ZB3.out)).1
  have l3 : z3.cell? ⟨w.heap.size + 1 + 1, 3, none⟩ = some (.slice (some ⟨w.heap.size, 0, none⟩) 2 2) := cell_at_block (HH.out _ (HZ.out _ ZB3.out)).1
  have l4 : z3.cell? ⟨w.heap.size + 1 + 1, 4, none⟩ = some (.slice (some ⟨w.heap.size + 1, 0, none⟩) 2 2) := cell_at_block (HH.out _ (HZ.out _ ZB3.out)).1
  have l5 : z3.cell? ⟨w.heap.size + 1 + 1, 5, none⟩ = some (.slice none 0 0) := cell_at_block (HH.out _ (HZ.out _ ZB3.out)).1
  have v0 : z3.cell? ⟨w.heap.size + 1 + 1 + 1 + 1 + 1, 0, none⟩ = some (.int .i64 0) := cell_at_block (HH.out _ (HZ.out _ ZB3.out)).2
  have v1 : z3.cell? ⟨w.heap.size + 1 + 1 + 1 + 1 + 1, 1, none⟩ = some (.slice none 0 0) := cell_at_block (HH.out _ (HZ.out _ ZB3.out)).2
  have v2 : z3.cell? ⟨w.heap.size + 1 + 1 + 1 + 1 + 1, 2, none⟩ = some (.slice (some ⟨w.heap.size + 1 + 1 + 1 + 1, 0, none⟩) 2 2) := cell_at_block (HH.out _ (HZ.out _ ZB3.out)).2
  have v3 : z3.cell? ⟨w.heap.size + 1 + 1 + 1 + 1 + 1, 3, none⟩ = some (.slice none 0 0) := cell_at_block (HH.out _ (HZ.out _ ZB3.out)).2
  have q0 : z3.cell? ⟨u3.heap.size, 0, none⟩ = some (.int .i64 V0.n) := cell_at_block (HQ.out _ ZB3.out).1
  have q1 : z3.cell? ⟨u3.heap.size, 1, none⟩ = some (.slice na V0.names.length ncp) := cell_at_block (HQ.out _ ZB3.out).1
  have q2 : z3.cell? ⟨u3.heap.size, 2, none⟩ = some (.slice pa V0.parts.length pcp) := cell_at_block (HQ.out _ ZB3.out).1
  have q3 : z3.cell? ⟨u3.heap.size, 3, none⟩ = some (.slice ea V0.entries.length ecp) := cell_at_block (HQ.out _ ZB3.out).1
  have m0 : z3.cell? ⟨u4.heap.size + 1 + 1, 0, none⟩ = some (.int .i64 5) := cell_at_block (HQ.out _ ZB3.out).2
  have m1 : z3.cell? ⟨u4.heap.size + 1 + 1, 1, none⟩ = some (.int .i64 0) := cell_at_block (HQ.out _ ZB3.out).2
  have m2 : z3.cell? ⟨u4.heap.size + 1 + 1, 2, none⟩ = some (.int .i64 0) := cell_at_block (HQ.out _ ZB3.out).2
  have m3 : z3.cell? ⟨u4.heap.size + 1 + 1, 3, none⟩ = some (.slice none 0 0) := cell_at_block (HQ.out _ ZB3.out).2
  have m4 : z3.cell? ⟨u4.heap.size + 1 + 1, 4, none⟩ = some (.slice (some ⟨u4.heap.size + 1, 0, none⟩) 1 1) := cell_at_block (HQ.out _ ZB3.out).2
  have m5 : z3.cell? ⟨u4.heap.size + 1 + 1, 5, none⟩ = some (.slice none 0 0) := cell_at_block (HQ.out _ ZB3.out).2
  have hstr : strOf [40, 99, 58, 32, 51, 44, 32, 97, 58, 32, 123, 120, 44, 121, 125, 41] = ⟨#[40, 99, 58, 32, 51, 44, 32, 97, 58, 32, 123, 120, 44, 121, 125, 41]⟩ := rfl
  go_wp2_with fail
  refine (rEqual_any V0 V0 [.int .i64 V0.n, .slice na V0.names.length ncp, .slice pa V0.parts.length pcp, .slice ea V0.entries.length ecp] [.int .i64 0, .slice none 0 0, .slice (some ⟨w.heap.size + 1 + 1 + 1 + 1, 0, none⟩) 2 2, .slice none 0 0] z3 (valRd.below ZB3.out _ _ HVZ.out) (valRd.below (HZ.out _ ZB3.out) _ _ HV.out)).mono ?_
  rw [decide_eq_true (valC_self V0)]
  rintro e z4 ⟨rfl, hb4⟩
  have ZB4 : Hid (Below Z.heap.size Z z4) := hid (ZB3.out.trans (hb4.mono ZB3.out.size))
  clear hb4 l0 l1 l2 l3 l4 l5 v0 v1 v2 v3 q0 q1 q2 q3 m0 m1 m2 m3 m4 m5
  have l0 : z4.cell? ⟨w.heap.size + 1 + 1, 0, none⟩ = some (.int .i64 6) := cell_at_block (HH.out _ (HZ.out _ ZB4.out)).1
  have l1 : z4.cell? ⟨w.heap.size + 1 + 1, 1, none⟩ = some (.int .i64 0) := cell_at_block (HH.out _ (HZ.out _ ZB4.out)).1
  have l2 : z4.cell? ⟨w.heap.size + 1 + 1, 2, none⟩ = some (.int .i64 0) := cell_at_block (HH.out _ (HZ.out _ ZB4.out)).1
  have l3 : z4.cell? ⟨w.heap.size + 1 + 1, 3, none⟩ = some (.slice (some ⟨w.heap.size, 0, none⟩) 2 2) := cell_at_block (HH.out _ (HZ.out _ ZB4.out)).1
  have l4 : z4.cell? ⟨w.heap.size + 1 + 1, 4, none⟩ = some (.slice (some ⟨w.heap.size + 1, 0, none⟩) 2 2) := cell_at_block (HH.out _ (HZ.out _ ZB4.out)).1
  have l5 : z4.cell? ⟨w.heap.size + 1 + 1, 5, none⟩ = some (.slice none 0 0) := cell_at_block (HH.out _ (HZ.out _ ZB4.out)).1
  have v0 : z4.cell? ⟨w.heap.size + 1 + 1 + 1 + 1 + 1, 0, none⟩ = some (.int .i64 0) := cell_at_block (HH.out _ (HZ.out _ ZB4.out)).2
  have v1 : z4.cell? ⟨w.heap.size + 1 + 1 + 1 + 1 + 1, 1, none⟩ = some (.slice none 0 0) := cell_at_block (HH.out _ (HZ.out _ ZB4.out)).2
  have v2 : z4.cell? ⟨w.heap.size + 1 + 1 + 1 + 1 + 1, 2, none⟩ = some (.slice (some ⟨w.heap.size + 1 + 1 + 1 + 1, 0, none⟩) 2 2) := cell_at_block (HH.out _ (HZ.out _ ZB4.out)).2
  have v3 : z4.cell? ⟨w.heap.size + 1 + 1 + 1 + 1 + 1, 3, none⟩ = some (.slice none 0 0) := cell_at_block (HH.out _ (HZ.out _ ZB4.out)).2
  have q0 : z4.cell? ⟨u3.heap.size, 0, none⟩ = some (.int .i64 V0.n) := cell_at_block (HQ.out _ ZB4.out).1
  have q1 : z4.cell? ⟨u3.heap.size, 1, none⟩ = some (.slice na V0.names.length ncp) := cell_at_block (HQ.out _ ZB4.out).1
  have q2 : z4.cell? ⟨u3.heap.size, 2, none⟩ = some (.slice pa V0.parts.length pcp) := cell_at_block (HQ.out _ ZB4.out).1
  have q3 : z4.cell? ⟨u3.heap.size, 3, none⟩ = some (.slice ea V0.entries.length ecp) := cell_at_block (HQ.out _ ZB4.out).1
  have m0 : z4.cell? ⟨u4.heap.size + 1 + 1, 0, none⟩ = some (.int .i64 5) := cell_at_block (HQ.out _ ZB4.out).2
  have m1 : z4.cell? ⟨u4.heap.size + 1 + 1, 1, none⟩ = some (.int .i64 0) := cell_at_block (HQ.out _ ZB4.out).2
  have m2 : z4.cell? ⟨u4.heap.size + 1 + 1, 2, none⟩ = some (.int .i64 0) := cell_at_block (HQ.out _ ZB4.out).2
  have m3 : z4.cell? ⟨u4.heap.size + 1 + 1, 3, none⟩ = some (.slice none 0 0) := cell_at_block (HQ.out _ ZB4.out).2
  have m4 : z4.cell? ⟨u4.heap.size + 1 + 1, 4, none⟩ = some (.slice (some ⟨u4.heap.size + 1, 0, none⟩) 1 1) := cell_at_block (HQ.out _ ZB4.out).2
  have m5 : z4.cell? ⟨u4.heap.size + 1 + 1, 5, none⟩ = some (.slice none 0 0) := cell_at_block (HQ.out _ ZB4.out).2
  go_wp2_with fail
  refine (nodes_any _ V0 [.int .i64 0, .slice none 0 0, .slice (some ⟨w.heap.size + 1 + 1 + 1 + 1, 0, none⟩) 2 2, .slice none 0 0] z4 (Nat.le_refl _) (valRd.below (HZ.out _ ZB4.out) _ _ HV.out) (by rw [nod_V0]; decide)).mono ?_
  rw [nod_V0]
  rintro e z5 ⟨rfl, hb5⟩
  have ZB5 : Hid (Below Z.heap.size Z z5) := hid (ZB4.out.trans (hb5.mono ZB4.out.size))
  clear hb5 l0 l1 l2 l3 l4 l5 v0 v1 v2 v3 q0 q1 q2 q3 m0 m1 m2 m3 m4 m5
  have l0 : z5.cell? ⟨w.heap.size + 1 + 1, 0, none⟩ = some (.int .i64 6) := cell_at_block (HH.out _ (HZ.out _ ZB5.out)).1
  have l1 : z5.cell? ⟨w.heap.size + 1 + 1, 1, none⟩ = some (.int .i64 0) := cell_at_block (HH.out _ (HZ.out _ ZB5.out)).1
  have l2 : z5.cell? ⟨w.heap.size + 1 + 1, 2, none⟩ = some (.int .i64 0) := cell_at_block (HH.out _ (HZ.out _ ZB5.out)).1
  have l3 : z5.cell? ⟨w.heap.size + 1 + 1, 3, none⟩ = some (.slice (some ⟨w.heap.size, 0, none⟩) 2 2) := cell_at_block (HH.out _ (HZ.out _ ZB5.out)).1
  have l4 : z5.cell? ⟨w.heap.size + 1 + 1, 4, none⟩ = some (.slice (some ⟨w.heap.size + 1, 0, none⟩) 2 2) := cell_at_block (HH.out _ (HZ.out _ ZB5.out)).1
  have l5 : z5.cell? ⟨w.heap.size + 1 + 1, 5, none⟩ = some (.slice none 0 0) := cell_at_block (HH.out _ (HZ.out _ ZB5.out)).1
  have v0 : z5.cell? ⟨w.heap.size + 1 + 1 + 1 + 1 + 1, 0, none⟩ = some (.int .i64 0) := cell_at_block (HH.out _ (HZ.out _ ZB5.out)).2
  have v1 : z5.cell? ⟨w.heap.size + 1 + 1 + 1 + 1 + 1, 1, none⟩ = some (.slice none 0 0) := cell_at_block (HH.out _ (HZ.out _ ZB5.out)).2
  have v2 : z5.cell? ⟨w.heap.size + 1 + 1 + 1 + 1 + 1, 2, none⟩ = some (.slice (some ⟨w.heap.size + 1 + 1 + 1 + 1, 0, none⟩) 2 2) := cell_at_block (HH.out _ (HZ.out _ ZB5.out)).2
  have v3 : z5.cell? ⟨w.heap.size + 1 + 1 + 1 + 1 + 1, 3, none⟩ = some (.slice none 0 0) := cell_at_block (HH.out _ (HZ.out _ ZB5.out)).2
  have q0 : z5.cell? ⟨u3.heap.size, 0, none⟩ = some (.int .i64 V0.n) := cell_at_block (HQ.out _ ZB5.out).1
  have q1 : z5.cell? ⟨u3.heap.size, 1, none⟩ = some (.slice na V0.names.length ncp) := cell_at_block (HQ.out _ ZB5.out).1
  have q2 : z5.cell? ⟨u3.heap.size, 2, none⟩ = some (.slice pa V0.parts.length pcp) := cell_at_block (HQ.out _ ZB5.out).1
  have q3 : z5.cell? ⟨u3.heap.size, 3, none⟩ = some (.slice ea V0.entries.length ecp) := cell_at_block (HQ.out _ ZB5.out).1
  have m0 : z5.cell? ⟨u4.heap.size + 1 + 1, 0, none⟩ = some (.int .i64 5) := cell_at_block (HQ.out _ ZB5.out).2
  have m1 : z5.cell? ⟨u4.heap.size + 1 + 1, 1, none⟩ = some (.int .i64 0) := cell_at_block (HQ.out _ ZB5.out).2
  have m2 : z5.cell? ⟨u4.heap.size + 1 + 1, 2, none⟩ = some (.int .i64 0) := cell_at_block (HQ.out _ ZB5.out).2
  have m3 : z5.cell? ⟨u4.heap.size + 1 + 1, 3, none⟩ = some (.slice none 0 0) := cell_at_block (HQ.out _ ZB5.out).2
  have m4 : z5.cell? ⟨u4.heap.size + 1 + 1, 4, none⟩ = some (.slice (some ⟨u4.heap.size + 1, 0, none⟩) 1 1) := cell_at_block (HQ.out _ ZB5.out).2
  have m5 : z5.cell? ⟨u4.heap.size + 1 + 1, 5, none⟩ = some (.slice none 0 0) := cell_at_block (HQ.out _ ZB5.out).2
  have HBN : Hid (∀ O P, Below Z.heap.size Z ((z5.alloc O).alloc P)) := hid fun O P => (ZB5.out.alloc ZB5.out.size O).alloc (by have := ZB5.out.size; simp; omega) P
  go_wp2_with fail
  have HKR : Hid (valRd ((z5.alloc (.cells #[.string ⟨#[107]⟩] 9)).alloc (.cells #[.int .i64 0, .slice none 0 0, .slice none 0 0, .slice none 0 0] 30)) K0 [.int .i64 0, .slice (some ⟨z5.heap.size, 0, none⟩) 1 1, .slice (some ⟨z5.heap.size + 1, 0, none⟩) 1 1, .slice none 0 0]) := hid (by
    rw [K0]
    refine (valRd_iff _ _ _).2 ⟨_, _, _, rfl, i64_0, ?_, ?_, sl_none _ _ _⟩
    · exact sl_row (sz := 1) (R := strRd) (l := [s1 107]) [[.string (s1 107)]] (block_alloc (heap_alloc_new _ _) _) rfl rfl (by simp) (fun i h h' => one_idx (P := fun i => ∀ (h : i < 1) (h' : i < 1), strRd ([s1 107][i]) ([[Value.string (s1 107)]][i])) (fun _ _ => ⟨rfl, s1_le _⟩) i h h h') (by decide)
    · exact sl_row (R := valRd _) (l := [zeroV]) [[.int .i64 0, .slice none 0 0, .slice none 0 0, .slice none 0 0]] (heap_new_at _ _ _ (by simp)) rfl rfl (by simp) (fun i h h' => one_idx (P := fun i => ∀ (h : i < 1) (h' : i < 1), valRd _ ([zeroV][i]) ([([.int .i64 0, .slice none 0 0, .slice none 0 0, .slice none 0 0] : List Value)][i])) (fun _ _ => valRd_flat _ _ i64_0) i h h h') (by decide))
  have ZB5A := hid (HBN.out (.cells #[.string ⟨#[107]⟩] 9) (.cells #[.int .i64 0, .slice none 0 0, .slice none 0 0, .slice none 0 0] 30))
  refine (valid_any M0 K0 [.int .i64 5, .int .i64 0, .int .i64 0, .slice none 0 0, .slice (some ⟨u4.heap.size + 1, 0, none⟩) 1 1, .slice none 0 0] [.int .i64 0, .slice (some ⟨z5.heap.size, 0, none⟩) 1 1, .slice (some ⟨z5.heap.size + 1, 0, none⟩) 1 1, .slice none 0 0] _ (latRd.below ZB5A.out _ _ HMZ.out) HKR.out).mono ?_
  rw [val_K0]
  rintro e z6 ⟨rfl, hb6⟩
  have ZB6 : Hid (Below Z.heap.size Z z6) := hid (ZB5A.out.trans (hb6.mono ZB5A.out.size))
  clear hb6 l0 l1 l2 l3 l4 l5 v0 v1 v2 v3 q0 q1 q2 q3 m0 m1 m2 m3 m4 m5
  have l0 : z6.cell? ⟨w.heap.size + 1 + 1, 0, none⟩ = some (.int .i64 6) := cell_at_block (HH.out _ (HZ.out _ ZB6.out)).1
  have l1 : z6.cell? ⟨w.heap.size + 1 + 1, 1, none⟩ = some (.int .i64 0) := cell_at_block (HH.out _ (HZ.out _ ZB6.out)).1
  have l2 : z6.cell? ⟨w.heap.size + 1 + 1, 2, none⟩ = some (.int .i64 0) := cell_at_block (HH.out _ (HZ.out _ ZB6.out)).1
  have l3 : z6.cell? ⟨w.heap.size + 1 + 1, 3, none⟩ = some (.slice (some ⟨w.heap.size, 0, none⟩) 2 2) := cell_at_block (HH.out _ (HZ.out _ ZB6.out)).1
  have l4 : z6.cell? ⟨w.heap.size + 1 + 1, 4, none⟩ = some (.slice (some ⟨w.heap.size + 1, 0, none⟩) 2 2) := cell_at_block (HH.out _ (HZ.out _ ZB6.out)).1
  have l5 : z6.cell? ⟨w.heap.size + 1 + 1, 5, none⟩ = some (.slice none 0 0) := cell_at_block (HH.out _ (HZ.out _ ZB6.out)).1
  have v0 : z6.cell? ⟨w.heap.size + 1 + 1 + 1 + 1 + 1, 0, none⟩ = some (.int .i64 0) := cell_at_block (HH.out _ (HZ.out _ ZB6.out)).2
  have v1 : z6.cell? ⟨w.heap.size + 1 + 1 + 1 + 1 + 1, 1, none⟩ = some (.slice none 0 0) := cell_at_block (HH.out _ (HZ.out _ ZB6.out)).2
  have v2 : z6.cell? ⟨w.heap.size + 1 + 1 + 1 + 1 + 1, 2, none⟩ = some (.slice (some ⟨w.heap.size + 1 + 1 + 1 + 1, 0, none⟩) 2 2) := cell_at_block (HH.out _ (HZ.out _ ZB6.out)).2
  have v3 : z6.cell? ⟨w.heap.size + 1 + 1 + 1 + 1 + 1, 3, none⟩ = some (.slice none 0 0) := cell_at_block (HH.out _ (HZ.out _ ZB6.out)).2
  have q0 : z6.cell? ⟨u3.heap.size, 0, none⟩ = some (.int .i64 V0.n) := cell_at_block (HQ.out _ ZB6.out).1
  have q1 : z6.cell? ⟨u3.heap.size, 1, none⟩ = some (.slice na V0.names.length ncp) := cell_at_block (HQ.out _ ZB6.out).1
  have q2 : z6.cell? ⟨u3.heap.size, 2, none⟩ = some (.slice pa V0.parts.length pcp) := cell_at_block (HQ.out _ ZB6.out).1
  have q3 : z6.cell? ⟨u3.heap.size, 3, none⟩ = some (.slice ea V0.entries.length ecp) := cell_at_block (HQ.out _ ZB6.out).1
  have m0 : z6.cell? ⟨u4.heap.size + 1 + 1, 0, none⟩ = some (.int .i64 5) := cell_at_block (HQ.out _ ZB6.out).2
  have m1 : z6.cell? ⟨u4.heap.size + 1 + 1, 1, none⟩ = some (.int .i64 0) := cell_at_block (HQ.out _ ZB6.out).2
  have m2 : z6.cell? ⟨u4.heap.size + 1 + 1, 2, none⟩ = some (.int .i64 0) := cell_at_block (HQ.out _ ZB6.out).2
  have m3 : z6.cell? ⟨u4.heap.size + 1 + 1, 3, none⟩ = some (.slice none 0 0) := cell_at_block (HQ.out _ ZB6.out).2
  have m4 : z6.cell? ⟨u4.heap.size + 1 + 1, 4, none⟩ = some (.slice (some ⟨u4.heap.size + 1, 0, none⟩) 1 1) := cell_at_block (HQ.out _ ZB6.out).2
  have m5 : z6.cell? ⟨u4.heap.size + 1 + 1, 5, none⟩ = some (.slice none 0 0) := cell_at_block (HQ.out _ ZB6.out).2
  go_wp2_with fail
  refine (compare_any _ zeroV V0 [.int .i64 0, .slice none 0 0, .slice none 0 0, .slice none 0 0] [.int .i64 0, .slice none 0 0, .slice (some ⟨w.heap.size + 1 + 1 + 1 + 1, 0, none⟩) 2 2, .slice none 0 0] z6 (Nat.le_refl _) (valRd_flat _ _ i64_0) (valRd.below (HZ.out _ ZB6.out) _ _ HV.out)).mono ?_
  rw [cmp_V0]
  rintro e z7 ⟨rfl, hb7⟩
  have ZB7 : Hid (Below Z.heap.size Z z7) := hid (ZB6.out.trans (hb7.mono ZB6.out.size))
  clear hb7 l0 l1 l2 l3 l4 l5 v0 v1 v2 v3 q0 q1 q2 q3 m0 m1 m2 m3 m4 m5
  go_wp2_with fail
  go_ret
  exact ⟨rfl, HUP.out (HZ.out _ ZB7.out)⟩
def R3 (x : Int) : Prop := x = -1 ∨ x = 0 ∨ x = 1
theorem R3.or {x y : Int} (h1 : R3 x) (h2 : R3 y) : R3 (if x ≠ 0 then x else y) := by
  by_cases h : x = 0
  · rw [if_neg (fun k => k h)]; exact h2
  · rw [if_pos h]; exact h1
theorem cmpI_rng (a b : Int) : R3 (cmpI a b) := by
  unfold R3
  rcases cmpI_cases a b with ⟨h, _⟩ | ⟨h, _⟩ | ⟨h, _⟩ <;> omega
theorem strC_rng (a b : ByteArray) : R3 (strC a b) := by unfold R3 strC; split <;> (try split) <;> omega
theorem lexC_rng {α : Type} (c : α → α → Int) : ∀ (a b : List α), (∀ x ∈ a, ∀ y, R3 (c x y)) → R3 (lexC c a b)
  | [], [], _ => .inr (.inl rfl)
  | [], _ :: _, _ => .inl rfl
  | _ :: _, [], _ => .inr (.inr rfl)
  | x :: s, y :: t, h => by
    rw [lexC]
    exact (h x (by simp) y).or (lexC_rng c s t fun z hz => h z (by simp [hz]))
theorem tickC_rng (a b : Tk) : R3 (tickC a b) := by unfold tickC; rw [or2_eq]; exact (cmpI_rng _ _).or (cmpI_rng _ _)
theorem entC_rng (a b : En) : R3 (entC a b) := by unfold entC; rw [or2_eq]; exact (strC_rng _ _).or (lexC_rng _ _ _ fun x _ y => tickC_rng x y)
theorem valC_rng (a b : Val) : R3 (valC a b) := by
  rw [valC_eq a b]
  refine (cmpI_rng _ _).or ((lexC_rng _ _ _ fun x _ y => strC_rng x y).or ((lexC_rng _ _ _ fun x hx y => ?_).or (lexC_rng _ _ _ fun x _ y => entC_rng x y)))
  have := sizeOf_part' hx
  exact valC_rng x y
  termination_by SizeOf.sizeOf a
theorem ord_fact (a b c : Val) : ∃ X Y Z : Int, valC a b = X ∧ valC b c = Y ∧ valC a c = Z ∧ valC a a = 0 ∧ (∃ M : Int, valC b a = M ∧ wrap64 (-X) = M) ∧ decide (valC a b = 0) = (X == 0) ∧ R3 X ∧ R3 Y ∧ R3 Z ∧ (X > 0 ∨ Y > 0 ∨ (Z ≤ 0 ∧ (Z < 0 ∨ (X = 0 ∧ Y = 0)))) := by
  obtain ⟨h1, h2, h3⟩ := valC_total a b c
  have hr := valC_rng a b
  exact ⟨_, _, _, rfl, rfl, rfl, h2, ⟨_, rfl, by rw [h1, Int.zero_sub]; exact IntWalk.wrap64_in _ (by unfold R3 at hr; omega)⟩, (beqI' _ _).symm, hr, valC_rng b c, valC_rng a c, h3⟩
theorem ext_of {P : Program} {f : FuncId} {args : Array Value} {w W2 : World} {v : Value} (hB : ∀ x : Ext W2, Below w.heap.size w x.1) (h : ∀ W, Below w.heap.size w W → Calls P f args W fun e w' => e = .returned v ∧ Below W.heap.size W w') :
    ∀ x : Ext W2, Calls P f args x.1 fun e w' => e = .returned v ∧ ∃ y : Ext W2, w' = y.1 := fun x => ext_call x (h _ (hB x))
theorem wp_region_ext2 {P : Program} {id : Nat} {Q : Exit → Act → World → Prop} {a : Act} {W : World} {l : List Oper} (x : Ext W) (hm : P.follows .mixedOrders = true) (hB : Region.lexB .any l.toArray = true)
    (h : wpQuiet P l.toArray (fun w' => ∃ y : Ext W, w' = y.1) (fun a' => ∀ w', (∃ y : Ext W, w' = y.1) → Q .normal a' w') l a) : (Code.region id l.toArray true).wp P Q a x.1 :=
  wp_region_quiet (C := fun w' => ∃ y : Ext W, w' = y.1) hm hB ⟨⟨_, x.2.drew⟩, rfl⟩ (by simpa using h)
theorem three_boxes (w : World) (c1 c2 c3 : Array Value) (t1 t2 t3 : TypeId) (x : Ext (((w.alloc (.cells c1 t1)).alloc (.cells c2 t2)).alloc (.cells c3 t3))) :
    (∀ (i : Nat) v, c1[i]? = some v → x.1.cell? ⟨w.heap.size, i, none⟩ = some v) ∧ (∀ (i : Nat) v, c2[i]? = some v → x.1.cell? ⟨w.heap.size + 1, i, none⟩ = some v) ∧ (∀ (i : Nat) v, c3[i]? = some v → x.1.cell? ⟨w.heap.size + 1 + 1, i, none⟩ = some v) := by
  refine ⟨fun i v hv => x.cell ?_, fun i v hv => x.cell ?_, fun i v hv => x.cell ?_⟩
  · rw [World.cell?_alloc_past _ _ _ (by simp; omega), World.cell?_alloc_past _ _ _ (by simp), World.cell?_alloc_at _ _ _ _ rfl]; exact hv
  · rw [World.cell?_alloc_past _ _ _ (by simp), World.cell?_alloc_at _ _ _ _ (by simp)]; exact hv
  · rw [World.cell?_alloc_at _ _ _ _ (by simp)]; exact hv
end Go.Proofs.YtmdjnaobllajmaaGreatDoor
