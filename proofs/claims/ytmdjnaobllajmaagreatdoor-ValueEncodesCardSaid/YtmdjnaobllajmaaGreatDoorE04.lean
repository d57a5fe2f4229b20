/-
  What the statements of the chapter share, part 04: VWr2, VNames, VLat2.
-/
import Derived.Test.YtmdjnaobllajmaaGreatDoorE01
import Derived.Test.YtmdjnaobllajmaaGreatDoorE03
import Derived.Laws.BitsAllLaws
import Derived.Lib.Zigzag
set_option linter.unusedVariables false
set_option linter.unusedSimpArgs false
set_option maxRecDepth 100000
set_option maxHeartbeats 8000000
namespace Go.Proofs.YtmdjnaobllajmaaGreatDoor
open Go.RowKit
theorem zz_pos (n : Int) (h0 : 0 ≤ n) (h2 : n ≤ 9223372036854775807) : bits .xor .u64 (n * 2) (n / 9223372036854775808) = ((zz n : Nat) : Int) := by
 have e : n / 9223372036854775808 = 0 := by omega
 rw [e, u64_xor (n * 2) 0 (by omega) (by omega) (by omega) (by omega)]
 unfold zz
 rw [if_pos h0]
 simp
 omega
theorem xor_ones (b : Nat) (hb : b < 2 ^ 64) : b ^^^ (2 ^ 64 - 1) = 2 ^ 64 - 1 - b := by rw [Nat.xor_comm]; exact Lib.xor_ones64 b hb
theorem zz_neg (n : Int) (h1 : -9223372036854775808 ≤ n) (h0 : ¬ 0 ≤ n) : bits .xor .u64 (IntKind.u64.wrap (IntKind.u64.wrap n * 2)) (IntKind.u64.wrap (n / 9223372036854775808)) = ((zz n : Nat) : Int) := by
 have e0 : IntKind.u64.wrap n = n + 18446744073709551616 := by rw [IntKind.wrap_u64]; omega
 have e1 : IntKind.u64.wrap (IntKind.u64.wrap n * 2) = 2 * n + 18446744073709551616 := by rw [e0, IntKind.wrap_u64]; omega
 have e2 : IntKind.u64.wrap (n / 9223372036854775808) = 18446744073709551615 := by
  have : n / 9223372036854775808 = -1 := by omega
  rw [this, IntKind.wrap_u64]; rfl
 rw [e1, e2, u64_xor _ _ (by omega) (by omega) (by omega) (by omega)]
 have e3 : (18446744073709551615 : Int).toNat = 2 ^ 64 - 1 := rfl
 rw [e3, xor_ones _ (by omega)]
 unfold zz
 rw [if_neg h0]
 omega
theorem wInt_any (B : Nat) (v : Value) (bs : List UInt8) (n : Int) (w : World) (h : WrAt w B v bs) (hn : I64 n) (hl : bs.length ≤ 100000000) :
 Calls Tryz.prog 81 #[.pointer (some ⟨B, 0, none⟩), .int .i64 n] w fun e w' => e = .returned (.tuple #[]) ∧ WrPost B v w (bs ++ intE n) w' := by
 obtain ⟨h1, h2⟩ := hn
 have HU := hid (wUint_any B v bs (zz n) w h (zz_lt n h1 h2) hl)
 clear h hl
 by_cases h0 : 0 ≤ n
 · have HZ := hid (zz_pos n h0 h2)
   go_enter Tryz.func81, Tryz.ntmps81
   go_wp2_with fail
   rw [HZ.out]
   refine HU.out.mono ?_
   rintro e w1 ⟨rfl, hp⟩
   have HP := hid hp
   clear hp
   go_wp2_with fail
   go_end0
   exact ⟨rfl, HP.out⟩
 · have HZ := hid (zz_neg n h1 h0)
   go_enter Tryz.func81, Tryz.ntmps81
   go_wp2_with fail
   rw [HZ.out]
   refine HU.out.mono ?_
   rintro e w1 ⟨rfl, hp⟩
   have HP := hid hp
   clear hp
   go_wp2_with fail
   go_end0
   exact ⟨rfl, HP.out⟩
theorem Src.of_own {w : World} {base E sz : Nat} {v : Value} {n : Nat} {xs : List Value} (h : w.ownsRow base E sz v n xs) (h1 : ∀ q ∈ xs, q.oneCell' = true) : Src w sz v n xs := by
 rcases h.2 with ⟨rfl, hn⟩ | ⟨g, cap, cur, rfl, hb, hg, hn, hcap, hsz, htake⟩
 · subst hn
   exact ⟨none, 0, rfl, h.1, fun _ => ⟨rfl, rfl⟩, by simp, h1⟩
 · exact ⟨_, cap, rfl, h.1, by simp, fun ad had j q hq => by cases had; exact h.cells (g := g) rfl j q hq, h1⟩
theorem u8v_one (l : List UInt8) : ∀ q ∈ l.map u8v, q.oneCell' = true := by
 intro q hq
 obtain ⟨c, _, rfl⟩ := List.mem_map.1 hq
 rfl
theorem wData_any (B : Nat) (v : Value) (bs : List UInt8) (w : World) (h : WrAt w B v bs) (hl : bs.length ≤ 200000000) :
 Calls Tryz.prog 51 #[.pointer (some ⟨B, 0, none⟩)] w fun e w' => ∃ r, e = .returned r ∧ w'.ownsRow w.heap.size 5 1 r bs.length (bs.map u8v) ∧ Below w.heap.size w w' := by
 obtain ⟨i0, hi0, hz0, hz1, hz2⟩ := info_parts infoByte
 have hcell := h.cell
 have hca := fun O => cell_alloc hcell O
 obtain ⟨av, cv, rfl⟩ := owns_shape h.own
 have HSRC : Hid (∀ O, Src (w.alloc O) 1 (.slice av bs.length cv) bs.length (bs.map u8v)) := hid fun O => Src.of_own (h.own.alloc O) (u8v_one bs)
 have HL := hid hl
 clear h hl
 show Calls _ _ _ _ fun e w' => Hid (∃ r, e = .returned r ∧ w'.ownsRow w.heap.size 5 1 r bs.length (bs.map u8v) ∧ Below w.heap.size w w')
 go_enter Tryz.func51, Tryz.ntmps51
 go_wp2_with (at_builtin; refine wpList_append rfl (.tmp 3) (.tmp 7) 46 rfl w.heap.size 5 1 1 Tryz.underlying46 hi0 hz0 hz1 hz2 rfl (by decide) (.slice (some ⟨w.heap.size, 0, none⟩) 0 0) 0 [] rfl (owns_made #[] 0 (heap_alloc_new w _) (Nat.le_refl _) rfl (by decide)) (.slice av bs.length cv) bs.length (bs.map u8v) rfl (HSRC.out _) bs.length (Nat.zero_add _) (bs.map u8v) rfl (by have := HL.out; unfold maxLen; omega) (by have := HL.out; omega) (by simp) ?_; intro na nc w2 had; have HAD := hid had; clear had)
 go_ret
 exact hid ⟨_, rfl, HAD.out.own, ((Below.refl _ _).alloc (Nat.le_refl _) _).grown HAD.out.grown (by simp) (fun g hg => by simp [Value.ownBlock] at hg; omega)⟩
def wordB (c : Int) : Bool := decide ((97 ≤ c ∧ c ≤ 122) ∨ (48 ≤ c ∧ c ≤ 57) ∨ c = 45)
theorem wordByte_any (c : Int) (w : World) : Calls Tryz.prog 152 #[.int .u8 c] w fun e w' => e = .returned (.bool (wordB c)) ∧ w' = w := by
  by_cases h1 : 97 ≤ c ∧ c ≤ 122
  · obtain ⟨a, b⟩ := h1
    have e1 : wordB c = true := by unfold wordB; exact decide_eq_true (by omega)
    have E := hid e1
    clear e1
    go_enter Tryz.func152, Tryz.ntmps152
    go_wp2
    go_ret
    exact ⟨ret_bool E.out.symm, rfl⟩
  · by_cases h2 : 48 ≤ c ∧ c ≤ 57
    · obtain ⟨a, b⟩ := h2
      have e1 : wordB c = true := by unfold wordB; exact decide_eq_true (by omega)
      have E := hid e1
      have hx : c < 97 := by omega
      clear e1 h1
      go_enter Tryz.func152, Tryz.ntmps152
      go_wp2
      go_ret
      exact ⟨ret_bool E.out.symm, rfl⟩
    · have hx : c < 48 ∨ (57 < c ∧ c < 97) ∨ 122 < c := by omega
      have HN := hid h1
      have HN2 := hid h2
      clear h1 h2
      rcases hx with hx | ⟨hx, hy⟩ | hx
      all_goals
       go_enter Tryz.func152, Tryz.ntmps152
       go_wp2
       go_ret
       have h1 := HN.out
       have h2 := HN2.out
       exact ⟨ret_bool (by unfold wordB; rw [Bool.eq_iff_iff]; simp; omega), rfl⟩
def strEq (a b : ByteArray) : Bool := a.toList == b.toList
def idxN : List ByteArray → ByteArray → Nat → Option Nat
 | [], _, _ => none
 | x :: t, s, k => if strEq s x = true then some k else idxN t s (k + 1)
def idxI (l : List ByteArray) (s : ByteArray) : Int := match idxN l s 0 with
 | some k => k
 | none => -1
def hasS (l : List ByteArray) (s : ByteArray) : Bool := l.any fun x => strEq s x
theorem idxN_some (l : List ByteArray) (s : ByteArray) : ∀ k, (idxN l s k).isSome = hasS l s := by
 induction l with
 | nil => intro k; rfl
 | cons x t ih =>
   intro k
   rw [idxN]
   unfold hasS
   rw [List.any_cons]
   cases h : strEq s x
   · simp only [Bool.false_or]; exact ih (k + 1)
   · simp
theorem idxI_has (l : List ByteArray) (s : ByteArray) : decide (0 ≤ idxI l s) = hasS l s := by
 rw [← idxN_some l s 0]
 unfold idxI
 cases h : idxN l s 0 <;> simp
theorem drop_consS {α : Type} (xs : List α) (k : Nat) (h : k < xs.length) : xs.drop k = xs[k] :: xs.drop (k + 1) := List.drop_eq_getElem_cons h
theorem index_any (v : Value) (l : List ByteArray) (s : ByteArray) (w : World) (hv : Strs w v l) :
 Calls Tryz.prog 169 #[v, .string s] w fun e w' => e = .returned (.int .i64 (idxI l s)) ∧ w' = w := by
 obtain ⟨a, cap, rfl, _, hmax⟩ := hv.shape
 have HV := hid hv
 clear hv
 go_enter Tryz.func169, Tryz.ntmps169
 go_wp2
 go_loop [8] (fun i => ∃ (k : Nat), k ≤ l.length ∧ i = .int .i64 k ∧ Hid (idxN l s 0 = idxN (l.drop k) s k)) (fun i => l.length - (intOf i).toNat)
 case atStart => exact ⟨0, Nat.zero_le _, rfl, hid (by simp)⟩
 case round =>
  obtain ⟨k, hk, rfl, He⟩ := hrel
  by_cases hlt : k < l.length
  · obtain ⟨b, o, rfl, hcell, _⟩ := HV.out.cell k hlt
    have HD := hid (drop_consS l k hlt)
    have HN : Hid (strEq s l[k] = false → idxN l s 0 = idxN (l.drop (k + 1)) s (k + 1)) := hid fun hc => by rw [He.out, HD.out, idxN, if_neg (by rw [hc]; exact Bool.false_ne_true)]
    have HY : Hid (strEq s l[k] = true → idxI l s = k) := hid fun hc => by unfold idxI; rw [He.out, HD.out, idxN, if_pos hc]
    go_wp2
    · have ht : (s.toList == l[k].toList) = true := by assumption
      go_ret
      exact ⟨ret_int (HY.out ht).symm, rfl⟩
    · have ht : (s.toList == l[k].toList) = false := by assumption
      go_round
      case rel => exact ⟨k + 1, by omega, by go_num, hid (HN.out ht)⟩
      case measure => simp [intOf]; omega
  · have HF : Hid (idxI l s = -1) := hid (by unfold idxI; rw [He.out, List.drop_eq_nil_of_le (by omega)]; rfl)
    go_wp2
    go_ret
    exact ⟨ret_int HF.out.symm, rfl⟩
theorem contains_any (v : Value) (l : List ByteArray) (s : ByteArray) (w : World) (hv : Strs w v l) :
 Calls Tryz.prog 150 #[v, .string s] w fun e w' => e = .returned (.bool (hasS l s)) ∧ w' = w := by
 have HI := hid (index_any v l s w hv)
 have HH := hid (idxI_has l s)
 go_enter Tryz.func150, Tryz.ntmps150
 go_wp2_with fail
 refine HI.out.mono ?_
 rintro e w' ⟨rfl, rfl⟩
 go_wp2_with fail
 go_ret
 exact ⟨ret_bool HH.out, rfl⟩
theorem has_any (v : Value) (l : List ByteArray) (s : ByteArray) (w : World) (hv : Strs w v l) :
 Calls Tryz.prog 115 #[v, .string s] w fun e w' => e = .returned (.bool (hasS l s)) ∧ w' = w := by
 have HI := hid (contains_any v l s w hv)
 go_enter Tryz.func115, Tryz.ntmps115
 go_wp2_with fail
 refine HI.out.mono ?_
 rintro e w' ⟨rfl, rfl⟩
 go_wp2_with fail
 go_ret
 exact ⟨rfl, rfl⟩
def subsetS (a b : List ByteArray) : Bool := a.all fun s => hasS b s
theorem subset_any (v u : Value) (a b : List ByteArray) (w : World) (hv : Strs w v a) (hu : Strs w u b) :
 Calls Tryz.prog 116 #[v, u] w fun e w' => e = .returned (.bool (subsetS a b)) ∧ w' = w := by
 obtain ⟨ad, cap, rfl, _, hmax⟩ := hv.shape
 have HV := hid hv
 have HU := hid hu
 clear hv hu
 go_enter Tryz.func116, Tryz.ntmps116
 go_wp2
 go_loop [9] (fun i => ∃ (k : Nat), k ≤ a.length ∧ i = .int .i64 k ∧ Hid (subsetS a b = subsetS (a.drop k) b)) (fun i => a.length - (intOf i).toNat)
 case atStart => exact ⟨0, Nat.zero_le _, rfl, hid (by simp)⟩
 case round =>
  obtain ⟨k, hk, rfl, He⟩ := hrel
  by_cases hlt : k < a.length
  · obtain ⟨bb, o, rfl, hcell, _⟩ := HV.out.cell k hlt
    have HD : Hid (subsetS a b = (hasS b a[k] && subsetS (a.drop (k + 1)) b)) := hid (by rw [He.out, drop_consS a k hlt]; unfold subsetS; rw [List.all_cons])
    have HH := hid (has_any u b a[k] w HU.out)
    cases hc : hasS b a[k]
    all_goals
     have HC := hid hc
     clear hc
     go_wp2_with fail
     refine HH.out.mono ?_
     rintro e w' ⟨rfl, rfl⟩
     rw [HC.out]
    · go_wp2
      go_ret
      exact ⟨ret_bool (by rw [HD.out, HC.out]; rfl), rfl⟩
    · go_wp2
      go_round
      case rel => exact ⟨k + 1, by omega, by go_num, hid (by rw [HD.out, HC.out]; rfl)⟩
      case measure => simp [intOf]; omega
  · have HF : Hid (subsetS a b = true) := hid (by rw [He.out, List.drop_eq_nil_of_le (by omega)]; rfl)
    go_wp2
    go_ret
    exact ⟨ret_bool HF.out.symm, rfl⟩
def strLt (a b : ByteArray) : Bool := Op.bytesLess a.toList b.toList
def sortedFrom : ByteArray → List ByteArray → Bool
 | _, [] => true
 | p, x :: t => strLt p x && sortedFrom x t
def sortedB : List ByteArray → Bool
 | [] => true
 | x :: t => sortedFrom x t
theorem sorted_step (l : List ByteArray) (k : Nat) (h : k + 1 < l.length) : sortedFrom (l[k]'(by omega)) (l.drop (k + 1)) = (strLt (l[k]'(by omega)) l[k + 1] && sortedFrom l[k + 1] (l.drop (k + 2))) := by
  rw [drop_consS l (k + 1) h, sortedFrom]
theorem sorted_any (v : Value) (l : List ByteArray) (w : World) (hv : Strs w v l) :
 Calls Tryz.prog 113 #[v] w fun e w' => e = .returned (.bool (sortedB l)) ∧ ∃ n, w' = w.drewN n := by
 obtain ⟨ad, cap, rfl, _, hmax⟩ := hv.shape
 have HV := hid hv
 clear hv
 by_cases h0 : l.length = 0
 · have HB : Hid (sortedB l = true) := hid (by rw [List.eq_nil_of_length_eq_zero h0]; rfl)
   have h0' : l.length ≤ 0 := by omega
   have Hl := hid h0
   clear h0
   go_enter Tryz.func113, Tryz.ntmps113
   go_wp2
   refine wp_loop_rounds 1 ?_
   rw [rounds_succ]
   go_wp2
   go_ret
   exact ⟨ret_bool HB.out.symm, 0, rfl⟩
 go_enter Tryz.func113, Tryz.ntmps113
 go_wp2
 go_loopw [3] (fun i wr => ∃ (k : Nat), k < l.length ∧ i = .int .i64 ((k : Int) + 1) ∧ Hid ((∃ n, wr = w.drewN n) ∧ ∀ h : k < l.length, sortedB l = sortedFrom l[k] (l.drop (k + 1)))) (fun i _ => l.length + 1 - (intOf i).toNat)
 case atStart => exact ⟨0, by omega, rfl, hid ⟨⟨0, rfl⟩, fun h => by cases l <;> first | rfl | simp at h⟩⟩
 case round =>
  obtain ⟨k, hk, rfl, HR⟩ := hrel
  by_cases hlt : k + 1 < l.length
  · obtain ⟨b, o, rfl, hc0, _⟩ := HV.out.cell k hk
    obtain ⟨b', o', heq, hc1, _⟩ := HV.out.cell (k + 1) hlt
    cases heq
    have hcell : wr.cell? ⟨b, o + k, none⟩ = some (.string l[k]) := by obtain ⟨⟨n, rfl⟩, _⟩ := HR.out; exact hc0
    have hcell1 : wr.cell? ⟨b, o + (k + 1), none⟩ = some (.string l[k + 1]) := by obtain ⟨⟨n, rfl⟩, _⟩ := HR.out; exact hc1
    have HS : Hid (sortedB l = (strLt l[k] l[k + 1] && sortedFrom l[k + 1] (l.drop (k + 2)))) := hid (by rw [HR.out.2 hk, sorted_step l k hlt])
    have hw1 : IntKind.i64.wrap ((k : Int) + 1 - 1) = (k : Int) := by rw [show (k : Int) + 1 - 1 = k by omega]; exact IntWalk.i64_in _ (by omega)
    have e1 : ((k : Int) + 1 - 1) = (k : Int) := by omega
    have hk0 : (0 : Int) ≤ (k : Int) := by omega
    have hk1 : (k : Int) < (l.length : Int) := by omega
    have hk2 : (k : Int) + 1 < (l.length : Int) := by omega
    have hk3 : ((k : Int) + 1).toNat = k + 1 := by omega
    clear hc0 hc1
    cases hc : strLt l[k] l[k + 1]
    all_goals
     have HC := hid hc
     have hb : Op.bytesLess l[k].toList l[k + 1].toList = _ := hc
     clear hc
     go_wp2
     go_quiet (fail)
     go_wp2
    · go_ret
      exact ⟨ret_bool (by rw [HS.out, HC.out]; rfl), by obtain ⟨⟨n, rfl⟩, _⟩ := HR.out; exact ⟨n + nq, by rw [World.drewN_drewN]⟩⟩
    · go_roundw
      case rel => exact ⟨k + 1, hlt, by go_num, hid ⟨by obtain ⟨⟨n, rfl⟩, _⟩ := HR.out; exact ⟨n + nq, by rw [World.drewN_drewN]⟩, fun h => by rw [HS.out, HC.out]; rfl⟩⟩
      case measure => simp [intOf]; omega
  · have HB : Hid (sortedB l = true) := hid (by rw [HR.out.2 hk, List.drop_eq_nil_of_le (by omega)]; rfl)
    go_wp2
    go_ret
    exact ⟨ret_bool HB.out.symm, HR.out.1⟩
def nameB (s : ByteArray) : Bool := decide (1 ≤ s.size ∧ s.size ≤ 16) && (decide ((97 : Int) ≤ ((s.data.toList.getD 0 0).toNat : Int) ∧ ((s.data.toList.getD 0 0).toNat : Int) ≤ 122) && s.data.toList.all fun c => wordB c.toNat)
theorem nameB_drop (s : ByteArray) (k : Nat) (h : k < s.size) : (s.data.toList.drop k).all (fun c => wordB c.toNat) = (wordB s[k].toNat && (s.data.toList.drop (k + 1)).all fun c => wordB c.toNat) := by
  rw [drop_consS s.data.toList k h, List.all_cons]
  rfl
theorem nameValid_any (s : ByteArray) (w : World) (hs : s.size ≤ maxLen) : Calls Tryz.prog 114 #[.string s] w fun e w' => e = .returned (.bool (nameB s)) ∧ w' = w := by
  unfold maxLen at hs
  have hsz : s.data.toList.length = s.size := rfl
  by_cases h0 : s.size = 0
  · have HB : Hid (nameB s = false) := hid (by unfold nameB; rw [decide_eq_false (show ¬ (1 ≤ s.size ∧ s.size ≤ 16) by omega), Bool.false_and])
    have e0 : ((s.size : Int) == 0) = true := by rw [h0]; rfl
    have Hs := hid h0
    clear h0 hsz
    go_enter Tryz.func114, Tryz.ntmps114
    go_wp2
    go_ret
    exact ⟨ret_bool HB.out.symm, rfl⟩
  have hne : ¬ s = ByteArray.empty := fun h => h0 (by rw [h]; rfl)
  have e0 : ((s.size : Int) == 0) = false := by rw [beq_eq_false_iff_ne]; omega
  have hlt : 0 < s.size := by omega
  by_cases h16 : 16 < s.size
  · have HB : Hid (nameB s = false) := hid (by unfold nameB; rw [decide_eq_false (show ¬ (1 ≤ s.size ∧ s.size ≤ 16) by omega), Bool.false_and])
    have e1 : (16 : Int) < (s.size : Int) := by omega
    clear hsz
    go_enter Tryz.func114, Tryz.ntmps114
    go_wp2
    go_ret
    exact ⟨ret_bool HB.out.symm, rfl⟩
  have h16' : (s.size : Int) ≤ 16 := by omega
  have hg : s.data.toList.getD 0 0 = s[0] := by rw [List.getD_eq_getElem?_getD, List.getElem?_eq_getElem (by omega)]; rfl
  by_cases h97 : (s[0].toNat : Int) < 97
  · have HB : Hid (nameB s = false) := hid (by unfold nameB; rw [hg, decide_eq_true (show 1 ≤ s.size ∧ s.size ≤ 16 by omega), decide_eq_false (show ¬ ((97 : Int) ≤ (s[0].toNat : Int) ∧ (s[0].toNat : Int) ≤ 122) by omega)]; rfl)
    clear hsz hg
    go_enter Tryz.func114, Tryz.ntmps114
    go_wp2
    go_ret
    exact ⟨ret_bool HB.out.symm, rfl⟩
  have h97' : (97 : Int) ≤ (s[0].toNat : Int) := by omega
  by_cases h122 : 122 < (s[0].toNat : Int)
  · have HB : Hid (nameB s = false) := hid (by unfold nameB; rw [hg, decide_eq_true (show 1 ≤ s.size ∧ s.size ≤ 16 by omega), decide_eq_false (show ¬ ((97 : Int) ≤ (s[0].toNat : Int) ∧ (s[0].toNat : Int) ≤ 122) by omega)]; rfl)
    clear hsz hg
    go_enter Tryz.func114, Tryz.ntmps114
    go_wp2
    go_ret
    exact ⟨ret_bool HB.out.symm, rfl⟩
  have h122' : (s[0].toNat : Int) ≤ 122 := by omega
  have HB : Hid (nameB s = s.data.toList.all fun c => wordB c.toNat) := hid (by unfold nameB; rw [hg, decide_eq_true (show 1 ≤ s.size ∧ s.size ≤ 16 by omega), decide_eq_true (show (97 : Int) ≤ (s[0].toNat : Int) ∧ (s[0].toNat : Int) ≤ 122 by omega), Bool.true_and, Bool.true_and])
  clear hg hsz h97 h122 h16 h0
  go_enter Tryz.func114, Tryz.ntmps114
  go_wp2
  go_loop [24] (fun i => ∃ (k : Nat), k ≤ s.size ∧ i = .int .i64 k ∧ Hid (nameB s = (s.data.toList.drop k).all fun c => wordB c.toNat)) (fun i => s.size - (intOf i).toNat)
  case atStart => exact ⟨0, Nat.zero_le _, rfl, hid (by rw [HB.out, List.drop_zero])⟩
  case round =>
   obtain ⟨k, hk, rfl, He⟩ := hrel
   by_cases hlt : k < s.size
   · have HD : Hid (nameB s = (wordB s[k].toNat && (s.data.toList.drop (k + 1)).all fun c => wordB c.toNat)) := hid (by rw [He.out, nameB_drop s k hlt])
     cases hc : wordB s[k].toNat
     all_goals
      have HC := hid hc
      clear hc
      go_wp2_with fail
      refine (wordByte_any _ _).mono ?_
      rintro e w' ⟨rfl, rfl⟩
      rw [HC.out]
     · go_wp2
       go_ret
       exact ⟨ret_bool (by rw [HD.out, HC.out]; rfl), rfl⟩
     · go_wp2
       go_round
       case rel => exact ⟨k + 1, by omega, by go_num, hid (by rw [HD.out, HC.out]; rfl)⟩
       case measure => simp [intOf]; omega
   · have HF : Hid (nameB s = true) := hid (by rw [He.out, List.drop_eq_nil_of_le (by have : s.data.toList.length = s.size := rfl; omega)]; rfl)
     go_wp2
     go_ret
     exact ⟨ret_bool HF.out.symm, rfl⟩
def whenI (b : Bool) (e : Int) : Int := if b then e else 0
theorem when_any (b : Bool) (e : Int) (w : World) : Calls Tryz.prog 149 #[.bool b, .int .i64 e] w fun r w' => r = .returned (.int .i64 (whenI b e)) ∧ w' = w := by
  cases b
  all_goals
   go_enter Tryz.func149, Tryz.ntmps149
   go_wp2
   go_ret
   exact ⟨rfl, rfl⟩
def mostN (k : Int) : Nat := if k = 6 then 8 else if k = 10 then 12 else 32
def limitsB (l : Lat) : Bool := decide (mostN l.kind < l.names.length ∨ 32 < l.rules.length)
def rangesB (l : Lat) : Bool := decide (l.hi < l.lo ∨ l.lo < -1000000000 ∨ 1000000000 < l.lo ∨ l.hi < -1000000000 ∨ 1000000000 < l.hi)
def chainsB (l : Lat) : Bool := decide (l.kind = 7) && !(match l.parts with
 | p :: _ => chainB p
 | [] => true)
theorem limits_any (l : Lat) (cs : List Value) (w : World) (hl : latRd w l cs) :
 Calls Tryz.prog 109 #[.agg cs.toArray] w fun e w' => e = .returned (.int .i64 (whenI (limitsB l) 6)) ∧ Below w.heap.size w w' := by
 obtain ⟨vn, vp, vr, rfl, hi, hns, hps, hrs⟩ := (latRd_iff _ _ _).1 hl
 obtain ⟨k, lo, hi', ns, ps, rs⟩ := l
 simp only [Lat.kind, Lat.lo, Lat.hi, Lat.names, Lat.parts, Lat.rules] at hi hns hps hrs ⊢
 obtain ⟨an, cn, rfl, _, hmn⟩ := hns.shape
 obtain ⟨ar, cr, rfl, _, hmr⟩ := hrs.shape
 have HB : Hid (∀ O, Below w.heap.size w (w.alloc O)) := hid fun O => (Below.refl _ _).alloc (Nat.le_refl _) O
 clear hl hi hns hps hrs
 have hk : (k = 6 ∧ mostN k = 8) ∨ (k = 10 ∧ mostN k = 12) ∨ ((k == 6) = false ∧ (k == 10) = false ∧ mostN k = 32) := by
  unfold mostN
  by_cases h6 : k = 6
  · left; simp [h6]
  · by_cases h10 : k = 10
    · right; left; simp [h10]
    · right; right; simp [h6, h10]
 rcases hk with ⟨rfl, hm⟩ | ⟨rfl, hm⟩ | ⟨e1, e2, hm⟩
 all_goals
  have HM := hid hm
  clear hm
  go_enter Tryz.func109, Tryz.ntmps109
  go_wp2_with fail
  all_goals
   refine (when_any _ _ _).mono ?_
   rintro e w' ⟨rfl, rfl⟩
   go_wp2_with fail
   go_ret
   refine ⟨ret_int (congrArg (whenI · 6) ?_), HB.out _⟩
   refine Bool.eq_iff_iff.2 ?_
   unfold limitsB
   simp only [Lat.kind, Lat.names, Lat.rules, Bool.or_eq_true, decide_eq_true_eq, HM.out, eq_self, true_iff, Bool.false_eq_true, false_iff] <;> omega
theorem ranges_any (l : Lat) (cs : List Value) (w : World) (hl : latRd w l cs) :
 Calls Tryz.prog 111 #[.agg cs.toArray] w fun e w' => e = .returned (.int .i64 (whenI (rangesB l) 5)) ∧ Below w.heap.size w w' := by
 obtain ⟨vn, vp, vr, rfl, hi, hns, hps, hrs⟩ := (latRd_iff _ _ _).1 hl
 obtain ⟨k, lo, hi', ns, ps, rs⟩ := l
 simp only [Lat.kind, Lat.lo, Lat.hi, Lat.names, Lat.parts, Lat.rules] at hi hns hps hrs ⊢
 obtain ⟨an, cn, rfl, _, hmn⟩ := hns.shape
 obtain ⟨ar, cr, rfl, _, hmr⟩ := hrs.shape
 have HB : Hid (∀ O, Below w.heap.size w (w.alloc O)) := hid fun O => (Below.refl _ _).alloc (Nat.le_refl _) O
 clear hl hi hns hps hrs
 go_enter Tryz.func111, Tryz.ntmps111
 go_wp2_with fail
 all_goals
  refine (when_any _ _ _).mono ?_
  rintro e w' ⟨rfl, rfl⟩
  go_wp2_with fail
  go_ret
  refine ⟨ret_int (congrArg (whenI · 5) ?_), HB.out _⟩
  refine Bool.eq_iff_iff.2 ?_
  refine Iff.trans ?_ (decide_eq_true_iff).symm
  show _ ↔ (hi' < lo ∨ lo < -1000000000 ∨ 1000000000 < lo ∨ hi' < -1000000000 ∨ 1000000000 < hi')
  simp only [Bool.or_eq_true, decide_eq_true_eq, eq_self, true_iff, Bool.false_eq_true, false_iff] <;> omega
theorem chains_any (l : Lat) (cs : List Value) (w : World) (hl : latRd w l cs) (h7 : l.kind = 7 → l.parts.length = 2) :
 Calls Tryz.prog 112 #[.agg cs.toArray] w fun e w' => e = .returned (.int .i64 (whenI (chainsB l) 4)) ∧ Below w.heap.size w w' := by
 obtain ⟨vn, vp, vr, rfl, hi, hns, hps, hrs⟩ := (latRd_iff _ _ _).1 hl
 obtain ⟨k, lo, hi', ns, ps, rs⟩ := l
 simp only [Lat.kind, Lat.lo, Lat.hi, Lat.names, Lat.parts, Lat.rules] at hi hns hps hrs ⊢
 obtain ⟨an, cn, rfl, _, hmn⟩ := hns.shape
 obtain ⟨ar, cr, rfl, _, hmr⟩ := hrs.shape
 have HB : Hid (∀ O, Below w.heap.size w (w.alloc O)) := hid fun O => (Below.refl _ _).alloc (Nat.le_refl _) O
 by_cases hk : k = 7
 · subst hk
   obtain ⟨p, q, rfl⟩ : ∃ p q, ps = [p, q] := by
    match ps, h7 rfl with
    | [p, q], _ => exact ⟨p, q, rfl⟩
   obtain ⟨a', cp', rfl, _, _, hcell⟩ := hps
   obtain ⟨b, o, cs0, hab, hl0, hc0, hr0⟩ := hcell 0 (by simp)
   subst hab
   simp only [List.getElem_cons_zero] at hr0
   have Hr0 := hid hr0
   obtain ⟨n0, p0, r0, rfl, _⟩ := (latRd_iff _ _ _).1 hr0
   simp only [Nat.zero_mul, Nat.add_zero] at hc0
   obtain ⟨f0, f1, f2, f3, f4, f5⟩ := hc0.six_alloc
   have HC : Hid (chainsB (.mk 7 lo hi' ns [p, q] rs) = !chainB p) := hid (by unfold chainsB; simp [Lat.kind, Lat.parts])
   clear hl hi hns hrs hcell hc0 hr0 h7
   go_enter Tryz.func112, Tryz.ntmps112
   go_wp2_with fail
   refine (chain_any _ p [.int .i64 p.kind, .int .i64 p.lo, .int .i64 p.hi, n0, p0, r0] _ (Nat.le_refl _) (latRd.below (HB.out _) _ _ Hr0.out)).mono ?_
   rintro e w1 ⟨rfl, hb1⟩
   have HB1 := hid ((HB.out _).trans (hb1.mono (by simp)))
   clear hb1
   go_wp2_with fail
   refine (when_any _ _ _).mono ?_
   rintro e w' ⟨rfl, rfl⟩
   go_wp2_with fail
   go_ret
   exact ⟨ret_int (by rw [HC.out]), HB1.out⟩
 · have e1 : (k == 7) = false := by simp; omega
   have HC : Hid (chainsB (.mk k lo hi' ns ps rs) = false) := hid (by unfold chainsB; simp [Lat.kind, hk])
   clear hl hi hns hps hrs h7 hk
   go_enter Tryz.func112, Tryz.ntmps112
   go_wp2_with fail
   refine (when_any _ _ _).mono ?_
   rintro e w' ⟨rfl, rfl⟩
   go_wp2_with fail
   go_ret
   exact ⟨ret_int (by rw [HC.out]), HB.out _⟩
def orI : List Int → Int
 | [] => 0
 | x :: t => if x = 0 then orI t else x
def I64s (w : World) (v : Value) (l : List Int) : Prop := SlRd w 1 (fun x cs => cs = [.int .i64 x]) v l
theorem I64s.cell {w : World} {a : Option Addr} {n cap : Nat} {l : List Int} (h : I64s w (.slice a n cap) l) (i : Nat) (hi : i < l.length) : ∃ b o, a = some ⟨b, o, none⟩ ∧ w.cell? ⟨b, o + i, none⟩ = some (.int .i64 l[i]) := by
 obtain ⟨a', cap', hv, hn, hm, hc⟩ := h
 cases hv
 obtain ⟨b, o, cs, ha, hl, hcs, hr⟩ := hc i hi
 subst hr
 exact ⟨b, o, ha, by simpa using hcs 0 (by simp)⟩
theorem orErr_any (v : Value) (l : List Int) (w : World) (hv : I64s w v l) :
 Calls Tryz.prog 108 #[v] w fun e w' => e = .returned (.int .i64 (orI l)) ∧ w' = w := by
 obtain ⟨a, cap, rfl, _, hmax⟩ := hv.shape
 have HV := hid hv
 clear hv
 go_enter Tryz.func108, Tryz.ntmps108
 go_wp2
 go_loop [8] (fun i => ∃ (k : Nat), k ≤ l.length ∧ i = .int .i64 k ∧ Hid (orI l = orI (l.drop k))) (fun i => l.length - (intOf i).toNat)
 case atStart => exact ⟨0, Nat.zero_le _, rfl, hid (by simp)⟩
 case round =>
  obtain ⟨k, hk, rfl, He⟩ := hrel
  by_cases hlt : k < l.length
  · obtain ⟨b, o, rfl, hcell⟩ := HV.out.cell k hlt
    have HD : Hid (orI l = if l[k] = 0 then orI (l.drop (k + 1)) else l[k]) := hid (by rw [He.out, drop_consS l k hlt, orI])
    cases hz : (l[k] != 0)
    · have HZ : Hid (l[k] = 0) := hid (by simpa using hz)
      go_wp2
      go_round
      case rel => exact ⟨k + 1, by omega, by go_num, hid (by rw [HD.out, if_pos HZ.out])⟩
      case measure => simp [intOf]; omega
    · have HZ : Hid (¬ l[k] = 0) := hid (by simpa using hz)
      go_wp2
      go_ret
      exact ⟨ret_int (by rw [HD.out, if_neg HZ.out]), rfl⟩
  · have HF : Hid (orI l = 0) := hid (by rw [He.out, List.drop_eq_nil_of_le (by omega)]; rfl)
    go_wp2
    go_ret
    exact ⟨ret_int HF.out.symm, rfl⟩
def kindI (k : Int) (n : Nat) : Option (Nat × Bool × Bool × Bool) :=
 if k = 1 ∨ k = 9 then some (0, false, false, false) else if k = 2 ∨ k = 3 then some (0, false, false, true)
 else if k = 4 ∨ k = 8 then some (0, true, false, false) else if k = 5 then some (1, true, false, false)
 else if k = 7 then some (2, false, false, false) else if k = 6 then some (n, true, false, false)
 else if k = 10 then some (0, true, true, false) else none
def shapeC (k lo hi : Int) (nn np nr : Nat) : Bool := match kindI k nn with
 | none => true
 | some (p, named, ruled, ranged) => decide (np ≠ p) || (!named && decide (0 < nn)) || (!ruled && decide (0 < nr)) || (!ranged && decide (lo ≠ 0 ∨ hi ≠ 0)) || (decide (k = 6 ∨ k = 10) && decide (nn = 0))
def shapeB (l : Lat) : Bool := shapeC l.kind l.lo l.hi l.names.length l.parts.length l.rules.length
end Go.Proofs.YtmdjnaobllajmaaGreatDoor
