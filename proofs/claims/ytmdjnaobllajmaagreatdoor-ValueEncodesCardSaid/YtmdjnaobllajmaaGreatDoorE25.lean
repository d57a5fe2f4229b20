/-
  What the statements of the chapter share, part 25: VW1, VW2, VW3, VW4, VW5.
-/
import Derived.Test.YtmdjnaobllajmaaGreatDoorE10
import Derived.Test.YtmdjnaobllajmaaGreatDoorE13
import Derived.Test.YtmdjnaobllajmaaGreatDoorE14
import Derived.Test.YtmdjnaobllajmaaGreatDoorE21
import Derived.Test.YtmdjnaobllajmaaGreatDoorE23
import Derived.Test.YtmdjnaobllajmaaGreatDoorE24
import Derived.Deep.Cut
set_option linter.unusedVariables false
set_option linter.unusedSimpArgs false
set_option maxRecDepth 100000
set_option maxHeartbeats 8000000
namespace Go.Proofs.YtmdjnaobllajmaaGreatDoor
open Go.RowKit
def PutPost (w : World) (L : List UInt8) (e : Ending) (w' : World) : Prop := ∃ r, e = .returned r ∧ w'.ownsRow w.heap.size 5 1 r L.length (L.map u8v) ∧ Below w.heap.size w w'
theorem own_bytes {w w2 : World} {B : Nat} {v v' : Value} {N : Nat} {cur add : List UInt8} (hA : Appd w w2 B 5 1 v v' N (cur.map u8v ++ add.map u8v)) (hN : N = cur.length + add.length) : w2.ownsRow B 5 1 v' (cur ++ add).length ((cur ++ add).map u8v) := by
 have h := hA.own
 rw [List.map_append, List.length_append, ← hN]
 exact h
theorem u8_add (k : Nat) : ((k % 128 : Nat) : Int) + 128 = ((UInt8.ofNat (k % 128 + 128)).toNat : Int) := by
 have e2 : (UInt8.ofNat (k % 128 + 128)).toNat = k % 128 + 128 := by simp; omega
 rw [e2]
 omega
theorem pUint_any (v : Value) (bs : List UInt8) (n : Nat) (w : World) (h : SlRd w 1 byteRd v bs) (hn : n < 18446744073709551616) (hl : bs.length ≤ 100000000) :
 Calls Tryz.prog 86 #[v, .int .u64 n] w (PutPost w (bs ++ uintE n)) := by
 obtain ⟨i0, hi0, hz0, hz1, hz2⟩ := info_parts infoByte
 obtain ⟨a, cap, rfl, _, _⟩ := h.shape
 have HS : Hid (∀ O, Src (w.alloc O) 1 (.slice a bs.length cap) bs.length (bs.map u8v)) := hid fun O => bytes_src (h.sub' (Sub.of_below ((Below.refl _ _).alloc (Nat.le_refl _) O)))
 have HN := hid hn
 have HL := hid hl
 clear h hn hl
 go_enter Tryz.func86, Tryz.ntmps86
 go_wp2_with (at_builtin; refine wpList_append rfl (.tmp 6) (.tmp 7) 46 rfl w.heap.size 5 1 1 Tryz.underlying46 hi0 hz0 hz1 hz2 rfl (by decide) (.slice (some ⟨w.heap.size, 0, none⟩) 0 0) 0 [] rfl (owns_made #[] 0 (heap_alloc_new w _) (Nat.le_refl _) rfl (by decide)) (.slice a bs.length cap) bs.length (bs.map u8v) rfl (HS.out _) bs.length (Nat.zero_add _) (bs.map u8v) rfl (by have := HL.out; unfold maxLen; omega) (by have := HL.out; omega) (by simp) ?_; intro na nc w2 had; have HO2 := hid had.own; have HB2 : Hid (Below w.heap.size w w2) := hid (((Below.refl _ _).alloc (Nat.le_refl _) _).grown had.grown (by simp) (fun g hg => by simp [Value.ownBlock] at hg; omega)); clear had)
 go_loopw [1, 5] (fun i vo wr => ∃ (k : Nat) (cur : List UInt8), i = .int .u64 k ∧ Hid (wr.ownsRow w.heap.size 5 1 vo cur.length (cur.map u8v)) ∧ Hid (Below w.heap.size w wr) ∧ Hid (cur ++ uintE k = bs ++ uintE n) ∧ Hid (k < 18446744073709551616)) (fun i _ _ => (intOf i).toNat)
 case atStart => exact ⟨n, bs, rfl, HO2, HB2, hid rfl, HN⟩
 case round =>
  obtain ⟨k, cur, rfl, HO, HB, HE, HK⟩ := hrel
  obtain ⟨av, cv, rfl⟩ := owns_shape HO.out
  have HOA : Hid (∀ O, (wr.alloc O).ownsRow w.heap.size 5 1 (.slice av cur.length cv) cur.length (cur.map u8v)) := hid fun O => HO.out.alloc O
  have HBA : Hid (∀ O, Below w.heap.size w (wr.alloc O)) := hid fun O => HB.out.alloc HB.out.size O
  have HLEN : Hid (cur.length + 1 ≤ maxLen ∧ (cur.length + 1) * 1 ≤ 140737488355328) := hid (by
   have h1 := congrArg List.length HE.out
   rw [List.length_append, List.length_append] at h1
   have := (uintE_len10 n HN.out).1
   have := (uintE_len10 k HK.out).2
   have := HL.out
   unfold maxLen
   omega)
  by_cases hlt : k < 128
  · have hlt' : (k : Int) < 128 := by omega
    have hk2 : (k : Int) % 256 = (k : Int) := by omega
    have HEX : Hid (cur ++ [UInt8.ofNat k] = bs ++ uintE n) := hid (by rw [← HE.out, uintE_lt hlt])
    have HOB := hid (one_byte k (by omega))
    clear hlt
    go_wp2_with (at_builtin; refine wpList_append rfl (.tmp 20) (.tmp 23) 46 rfl w.heap.size 5 1 1 Tryz.underlying46 hi0 hz0 hz1 hz2 rfl (by decide) (.slice av cur.length cv) cur.length (cur.map u8v) rfl (HOA.out _) _ 1 [.int .u8 k] rfl (Src.of_block (cs := #[.int .u8 k]) (heap_alloc_new _ _) 1 1 1 rfl (by simp [Value.oneCell'])) (cur.length + 1) rfl _ rfl HLEN.out.1 HLEN.out.2 (HBA.out _).size ?_; intro na2 nc2 w4 had; have HA4 := hid had; have HB4 : Hid (Below w.heap.size w w4) := hid ((HBA.out _).grown had.grown (HBA.out _).size (fun g hg => (owns_tag (HOA.out (.cells #[] 0 (0, 0))) hg).1)); clear had)
    go_ret
    refine ⟨_, rfl, ?_, HB4.out⟩
    rw [← HEX.out]
    have h4 := HA4.out
    rw [HOB.out] at h4
    exact own_bytes (add := [UInt8.ofNat k]) h4 rfl
  · have hge : (128 : Int) ≤ (k : Int) := by omega
    have hm1 : 0 ≤ (k : Int) % 128 := by omega
    have hm2 : (k : Int) % 128 < 128 := by omega
    have hm3 : (k : Int) % 128 % 256 = (k : Int) % 128 := by omega
    have HEX : Hid ((cur ++ [UInt8.ofNat (k % 128 + 128)]) ++ uintE (k / 128) = bs ++ uintE n) := hid (by rw [← HE.out, uintE_ge (n := k) (by omega), List.append_assoc]; rfl)
    have HOB := hid (u8_add k)
    go_wp2_with (at_builtin; refine wpList_append rfl (.tmp 11) (.tmp 16) 46 rfl w.heap.size 5 1 1 Tryz.underlying46 hi0 hz0 hz1 hz2 rfl (by decide) (.slice av cur.length cv) cur.length (cur.map u8v) rfl (HOA.out _) _ 1 [_] rfl (Src.of_block (cs := #[_]) (heap_alloc_new _ _) 1 1 1 rfl (by simp [Value.oneCell'])) (cur.length + 1) rfl _ rfl HLEN.out.1 HLEN.out.2 (HBA.out _).size ?_; intro na2 nc2 w4 had; have HA4 := hid had; have HB4 : Hid (Below w.heap.size w w4) := hid ((HBA.out _).grown had.grown (HBA.out _).size (fun g hg => (owns_tag (HOA.out (.cells #[] 0 (0, 0))) hg).1)); clear had)
    have h4 := HA4.out
    have he : ((k : Int) % 128 + 128) = ((UInt8.ofNat (k % 128 + 128)).toNat : Int) := by
     rw [← HOB.out]
     omega
    have hq : IntKind.u64.wrap ((k : Int) / 128) = ((k / 128 : Nat) : Int) := by
     have := HK.out
     simp [IntKind.wrap, IntKind.bits, IntKind.signed]
     omega
    refine ⟨⟨k / 128, cur ++ [UInt8.ofNat (k % 128 + 128)], by rw [hq], hid ?_, HB4, HEX, hid (by have := HK.out; omega)⟩, by rw [hq]; simp only [intOf, Int.toNat_natCast]; omega⟩
    rw [he] at h4
    exact own_bytes (add := [UInt8.ofNat (k % 128 + 128)]) h4 rfl
theorem pBool_any (v : Value) (bs : List UInt8) (b : Bool) (w : World) (h : SlRd w 1 byteRd v bs) (hl : bs.length ≤ 100000000) :
 Calls Tryz.prog 84 #[v, .bool b] w (PutPost w (bs ++ boolE b)) := by
 obtain ⟨i0, hi0, hz0, hz1, hz2⟩ := info_parts infoByte
 obtain ⟨a, cap, rfl, _, _⟩ := h.shape
 have HS : Hid (∀ O, Src (w.alloc O) 1 (.slice a bs.length cap) bs.length (bs.map u8v)) := hid fun O => bytes_src (h.sub' (Sub.of_below ((Below.refl _ _).alloc (Nat.le_refl _) O)))
 have HL := hid hl
 clear h hl
 cases b
 · go_enter Tryz.func84, Tryz.ntmps84
   go_wp2_with (first
     | (at_builtin
        refine wpList_append rfl (.tmp 11) (.tmp 12) 46 rfl w.heap.size 5 1 1 Tryz.underlying46 hi0 hz0 hz1 hz2 rfl (by decide) (.slice (some ⟨w.heap.size, 0, none⟩) 0 0) 0 [] rfl (owns_made #[] 0 (heap_alloc_new w _) (Nat.le_refl _) rfl (by decide)) (.slice a bs.length cap) bs.length (bs.map u8v) rfl (HS.out _) bs.length (Nat.zero_add _) (bs.map u8v) rfl (by have := HL.out; unfold maxLen; omega) (by have := HL.out; omega) (by simp) ?_
        intro na nc w2 had
        have HO2 := hid had.own
        have HB2 : Hid (Below w.heap.size w w2) := hid (((Below.refl _ _).alloc (Nat.le_refl _) _).grown had.grown (by simp) (fun g hg => by simp [Value.ownBlock] at hg; omega))
        clear had)
     | (at_builtin
        refine wpList_append rfl (.tmp 13) (.tmp 14) 46 rfl w.heap.size 5 1 1 Tryz.underlying46 hi0 hz0 hz1 hz2 rfl (by decide) (.slice na bs.length nc) bs.length (bs.map u8v) rfl (HO2.out.alloc _) _ 1 [.int .u8 0] rfl (Src.of_block (cs := #[.int .u8 0]) (heap_alloc_new _ _) 1 1 1 rfl (by simp [Value.oneCell'])) (bs.length + 1) rfl _ rfl (by have := HL.out; unfold maxLen; omega) (by have := HL.out; omega) (by have := HB2.out.size; simp; omega) ?_
        intro nb nd w3 had
        have HA3 := hid had
        have HB3 : Hid (Below w.heap.size w w3) := hid ((HB2.out.alloc HB2.out.size _).grown had.grown (by have := HB2.out.size; simp; omega) (fun g hg => (owns_tag HO2.out hg).1))
        clear had))
   go_ret
   exact ⟨_, rfl, own_bytes (add := [0]) HA3.out rfl, HB3.out⟩
 · go_enter Tryz.func84, Tryz.ntmps84
   go_wp2_with (first
     | (at_builtin
        refine wpList_append rfl (.tmp 6) (.tmp 7) 46 rfl w.heap.size 5 1 1 Tryz.underlying46 hi0 hz0 hz1 hz2 rfl (by decide) (.slice (some ⟨w.heap.size, 0, none⟩) 0 0) 0 [] rfl (owns_made #[] 0 (heap_alloc_new w _) (Nat.le_refl _) rfl (by decide)) (.slice a bs.length cap) bs.length (bs.map u8v) rfl (HS.out _) bs.length (Nat.zero_add _) (bs.map u8v) rfl (by have := HL.out; unfold maxLen; omega) (by have := HL.out; omega) (by simp) ?_
        intro na nc w2 had
        have HO2 := hid had.own
        have HB2 : Hid (Below w.heap.size w w2) := hid (((Below.refl _ _).alloc (Nat.le_refl _) _).grown had.grown (by simp) (fun g hg => by simp [Value.ownBlock] at hg; omega))
        clear had)
     | (at_builtin
        refine wpList_append rfl (.tmp 8) (.tmp 9) 46 rfl w.heap.size 5 1 1 Tryz.underlying46 hi0 hz0 hz1 hz2 rfl (by decide) (.slice na bs.length nc) bs.length (bs.map u8v) rfl (HO2.out.alloc _) _ 1 [.int .u8 1] rfl (Src.of_block (cs := #[.int .u8 1]) (heap_alloc_new _ _) 1 1 1 rfl (by simp [Value.oneCell'])) (bs.length + 1) rfl _ rfl (by have := HL.out; unfold maxLen; omega) (by have := HL.out; omega) (by have := HB2.out.size; simp; omega) ?_
        intro nb nd w3 had
        have HA3 := hid had
        have HB3 : Hid (Below w.heap.size w w3) := hid ((HB2.out.alloc HB2.out.size _).grown had.grown (by have := HB2.out.size; simp; omega) (fun g hg => (owns_tag HO2.out hg).1))
        clear had))
   go_ret
   exact ⟨_, rfl, own_bytes (add := [1]) HA3.out rfl, HB3.out⟩
theorem pInt_any (v : Value) (bs : List UInt8) (n : Int) (w : World) (h : SlRd w 1 byteRd v bs) (hn : I64 n) (hl : bs.length ≤ 100000000) :
 Calls Tryz.prog 85 #[v, .int .i64 n] w (PutPost w (bs ++ intE n)) := by
 unfold I64 at hn
 by_cases h0 : 0 ≤ n
 · obtain ⟨m, rfl⟩ : ∃ m : Nat, n = m := ⟨n.toNat, by omega⟩
   have hm : m ≤ 9223372036854775807 := by omega
   have HU : Hid (Calls Tryz.prog 86 #[v, .int .u64 (2 * (m : Int))] w (PutPost w (bs ++ intE (m : Int)))) := hid (by
    have := pUint_any v bs (zz (m : Int)) w h (zz_lt _ hn.1 hn.2) hl
    have e : ((zz (m : Int) : Nat) : Int) = 2 * (m : Int) := by unfold zz; rw [if_pos (by omega)]; omega
    rw [e] at this
    exact this)
   have b1 : (m : Int) ≤ 18446744073709551615 := by omega
   have b2 : 2 * (m : Int) ≤ 18446744073709551615 := by omega
   have b0 : (0 : Int) ≤ (m : Int) := by omega
   clear h hn hl h0
   go_enter Tryz.func85, Tryz.ntmps85
   go_wp2_with fail
   refine HU.out.mono ?_
   rintro e w1 ⟨r, rfl, hr, hb⟩
   have HR := hid hr
   have HB := hid hb
   clear hr hb
   go_wp2_with fail
   go_ret
   exact ⟨r, rfl, HR.out, HB.out⟩
 · obtain ⟨m, hm⟩ : ∃ m : Nat, n = -(m : Int) - 1 := ⟨(-(n + 1)).toNat, by omega⟩
   obtain ⟨n1, hn1⟩ : ∃ n1 : Int, n1 = n + 1 := ⟨_, rfl⟩
   have HU : Hid (Calls Tryz.prog 86 #[v, .int .u64 (2 * (m : Int) + 1)] w (PutPost w (bs ++ intE n))) := hid (by
    have := pUint_any v bs (zz n) w h (zz_lt _ hn.1 hn.2) hl
    have e : ((zz n : Nat) : Int) = 2 * (m : Int) + 1 := by unfold zz; rw [if_neg h0]; omega
    rw [e] at this
    exact this)
   have f1 : wrap64 (n + 1) = n1 := by rw [hn1]; exact IntWalk.wrap64_in _ (by omega)
   have f2 : wrap64 (-n1) = (m : Int) := by rw [hn1, show -(n + 1) = (m : Int) by omega]; exact IntWalk.wrap64_in _ (by omega)
   have b1 : (m : Int) ≤ 9223372036854775807 := by omega
   have b2 : 2 * (m : Int) + 1 ≤ 18446744073709551615 := by omega
   have b3 : 2 * (m : Int) ≤ 18446744073709551615 := by omega
   have b0 : (0 : Int) ≤ (m : Int) := by omega
   have hd0 : decide (0 ≤ n) = false := decide_eq_false h0
   generalize intE n = EN at HU ⊢
   clear hm hn1
   clear h hn hl h0
   go_enter Tryz.func85, Tryz.ntmps85
   go_wp2_with fail
   refine HU.out.mono ?_
   rintro e w1 ⟨r, rfl, hr, hb⟩
   have HR := hid hr
   have HB := hid hb
   clear hr hb
   go_wp2_with fail
   go_ret
   exact ⟨r, rfl, HR.out, HB.out⟩
theorem pText_any (v : Value) (bs : List UInt8) (s : ByteArray) (w : World) (h : SlRd w 1 byteRd v bs) (hs : s.size ≤ 100000000) (hl : bs.length ≤ 100000000) :
 Calls Tryz.prog 87 #[v, .string s] w (PutPost w (bs ++ textE s)) := by
 obtain ⟨i0, hi0, hz0, hz1, hz2⟩ := info_parts infoByte
 have HU := hid (pUint_any v bs s.size w h (by omega) hl)
 have HLN : Hid ((bs ++ uintE s.size).length ≤ 100000010) := hid (by have := (uintE_len10 s.size (by omega)).1; rw [List.length_append]; omega)
 have HSS := hid hs
 have hs1 : (s.size : Int) ≤ 18446744073709551615 := by omega
 have HTE : Hid (bs ++ textE s = (bs ++ uintE s.size) ++ s.data.toList) := hid (by unfold textE; rw [List.append_assoc])
 generalize bs ++ textE s = TE at HTE ⊢
 generalize bs ++ uintE s.size = UE at HU HLN HTE
 clear h hs hl
 go_enter Tryz.func87, Tryz.ntmps87
 go_wp2_with fail
 refine HU.out.mono ?_
 rintro e w1 ⟨r, rfl, hr, hb⟩
 obtain ⟨ar, cr, rfl⟩ := owns_shape hr
 have HR := hid hr
 have HB := hid hb
 clear hr hb
 go_wp2_with (at_builtin; refine wpList_appendS rfl (.tmp 9) (.tmp 10) 46 9 rfl w.heap.size 5 Tryz.underlying46 Tryz.underlying9 hi0 hz0 hz1 hz2 (.slice ar UE.length cr) UE.length (UE.map u8v) rfl HR.out s rfl (UE.length + s.size) rfl _ rfl (by have := HLN.out; have := HSS.out; unfold maxLen; omega) (by have := HLN.out; have := HSS.out; omega) HB.out.size ?_; intro na nc w2 had; have HA2 := hid had; have HB2 : Hid (Below w.heap.size w w2) := hid (HB.out.grown had.grown HB.out.size (fun g hg => (owns_tag HR.out hg).1)); clear had)
 go_ret
 refine ⟨_, rfl, ?_, HB2.out⟩
 rw [HTE.out]
 exact own_bytes (add := s.data.toList) HA2.out rfl
def PutR (w : World) (L : List UInt8) (e : Ending) (w' : World) : Prop := ∃ r, e = .returned r ∧ SlRd w' 1 byteRd r L ∧ Below w.heap.size w w'
theorem put_1 (lo hi' : Int) (sn sp sr bn bp be : Value) (vn : Int) (vb : Value) (bs : List UInt8) (w : World) (h : SlRd w 1 byteRd vb bs) (hl : bs.length ≤ 100000000) :
 Calls Tryz.prog 52 #[vb, .agg #[.int .i64 1, .int .i64 lo, .int .i64 hi', sn, sp, sr], .agg #[.int .i64 vn, bn, bp, be]] w (PutR w (bs ++ boolE (decide (vn = 1)))) := by
 have HC : Hid (∀ W, Below w.heap.size w W → Calls Tryz.prog 84 #[vb, .bool (vn == 1)] W (PutPost W (bs ++ boolE (decide (vn = 1))))) := hid fun W hb => by
   have := pBool_any vb bs (decide (vn = 1)) W (SlRd.below h hb fun _ _ _ h => h) hl
   rw [show (vn == 1) = decide (vn = 1) from beqI' _ _]
   exact this
 generalize bs ++ boolE (decide (vn = 1)) = TL at HC ⊢
 clear h hl
 obtain ⟨W2, hW, HB, HBl, HBv⟩ := two_box w #[.int .i64 1, .int .i64 lo, .int .i64 hi', sn, sp, sr] #[.int .i64 vn, bn, bp, be] 26 30
 go_enter Tryz.func52, Tryz.ntmps52
 go_upto_region 1 with fail
 rw [hW.out]
 clear hW
 obtain ⟨x0, hx⟩ := ext_self W2
 rw [hx]
 clear hx
 have l0 : ∀ x : Ext W2, x.1.cell? ⟨w.heap.size, 0, none⟩ = some (.int .i64 1) := fun x => (HBl.out.ext x) 0 _ rfl
 obtain ⟨v0, v1, v2, v3⟩ := bx4 fun x : Ext W2 => HBv.out.ext x
 go_wp2_with fail
 refine (HC.out _ (HB.out _)).mono ?_
 rintro e w1 ⟨r, rfl, hr, hb⟩
 have HR := hid (bytes_owns hr)
 have HBF : Hid (Below w.heap.size w w1) := hid ((HB.out _).trans (hb.mono (HB.out _).size))
 clear hr hb
 go_wp2_with fail
 go_ret
 exact ⟨r, rfl, HR.out, HBF.out⟩
theorem put_23 (k : Int) (hk : k = 2 ∨ k = 3) (lo hi' : Int) (sn sp sr bn bp be : Value) (vn : Int) (vb : Value) (bs : List UInt8) (w : World) (h : SlRd w 1 byteRd vb bs) (hn : I64 vn) (hl : bs.length ≤ 100000000) :
 Calls Tryz.prog 52 #[vb, .agg #[.int .i64 k, .int .i64 lo, .int .i64 hi', sn, sp, sr], .agg #[.int .i64 vn, bn, bp, be]] w (PutR w (bs ++ intE vn)) := by
 have HC : Hid (∀ W, Below w.heap.size w W → Calls Tryz.prog 85 #[vb, .int .i64 vn] W (PutPost W (bs ++ intE vn))) := hid fun W hb => pInt_any vb bs vn W (SlRd.below h hb fun _ _ _ h => h) hn hl
 generalize bs ++ intE vn = TL at HC ⊢
 clear h hl hn
 obtain ⟨W2, hW, HB, HBl, HBv⟩ := two_box w #[.int .i64 k, .int .i64 lo, .int .i64 hi', sn, sp, sr] #[.int .i64 vn, bn, bp, be] 26 30
 go_enter Tryz.func52, Tryz.ntmps52
 go_upto_region 1 with fail
 rw [hW.out]
 clear hW
 obtain ⟨x0, hx⟩ := ext_self W2
 rw [hx]
 clear hx
 have l0 : ∀ x : Ext W2, x.1.cell? ⟨w.heap.size, 0, none⟩ = some (.int .i64 k) := fun x => (HBl.out.ext x) 0 _ rfl
 obtain ⟨v0, v1, v2, v3⟩ := bx4 fun x : Ext W2 => HBv.out.ext x
 rcases hk with rfl | rfl
 all_goals
  go_wp2_with fail
  refine (HC.out _ (HB.out _)).mono ?_
  rintro e w1 ⟨r, rfl, hr, hb⟩
  have HR := hid (bytes_owns hr)
  have HBF : Hid (Below w.heap.size w w1) := hid ((HB.out _).trans (hb.mono (HB.out _).size))
  clear hr hb
  go_wp2_with fail
  go_ret
  exact ⟨r, rfl, HR.out, HBF.out⟩
theorem put_410 (k : Int) (hk : k = 4 ∨ k = 10) (lo hi' : Int) (sn sp sr bp be : Value) (vn : Int) (bn : Option Addr) (bcn a : Nat) (ns : List ByteArray) (vb : Value) (bs : List UInt8) (w : World) (ha : a = ns.length) (hs : Strs w (.slice bn a bcn) ns) (h : SlRd w 1 byteRd vb bs) (hl : (bs ++ (uintE ns.length ++ textsE ns)).length ≤ 100000000) :
 Calls Tryz.prog 52 #[vb, .agg #[.int .i64 k, .int .i64 lo, .int .i64 hi', sn, sp, sr], .agg #[.int .i64 vn, .slice bn a bcn, bp, be]] w (PutR w (bs ++ (uintE ns.length ++ textsE ns))) := by
 have hal : a ≤ 9223372036854775807 := by obtain ⟨_, _, _, _, h⟩ := hs.shape; omega
 have ha2 : (a : Int) ≤ 18446744073709551615 := by omega
 have HC : Hid (∀ W, Below w.heap.size w W → Calls Tryz.prog 86 #[vb, .int .u64 (a : Nat)] W (PutPost W (bs ++ uintE ns.length))) := hid fun W hb => by
   rw [ha]
   exact pUint_any vb bs ns.length W (SlRd.below h hb fun _ _ _ h => h) (by omega) (by rw [List.length_append] at hl; omega)
 have HTL : Hid (bs ++ (uintE ns.length ++ textsE ns) = (bs ++ uintE ns.length) ++ textsE (ns.drop 0)) := hid (by rw [List.append_assoc]; rfl)
 generalize bs ++ (uintE ns.length ++ textsE ns) = TL at hl HTL ⊢
 generalize bs ++ uintE ns.length = T0 at HC HTL
 have HL := hid hl
 have HA := hid ha
 have HS := hid hs
 clear h hl ha hs
 obtain ⟨W2, hW, HB, HBl, HBv⟩ := two_box w #[.int .i64 k, .int .i64 lo, .int .i64 hi', sn, sp, sr] #[.int .i64 vn, .slice bn a bcn, bp, be] 26 30
 go_enter Tryz.func52, Tryz.ntmps52
 go_upto_region 1 with fail
 rw [hW.out]
 clear hW
 obtain ⟨x0, hx⟩ := ext_self W2
 rw [hx]
 clear hx
 have l0 : ∀ x : Ext W2, x.1.cell? ⟨w.heap.size, 0, none⟩ = some (.int .i64 k) := fun x => (HBl.out.ext x) 0 _ rfl
 obtain ⟨v0, v1, v2, v3⟩ := bx4 fun x : Ext W2 => HBv.out.ext x
 rcases hk with rfl | rfl
 all_goals
  go_wp2_with fail
  refine (HC.out _ (HB.out _)).mono ?_
  rintro e w1 ⟨r, rfl, hr, hb⟩
  have HR := hid (bytes_owns hr)
  obtain ⟨x1, hx⟩ : ∃ y : Ext W2, w1 = y.1 := ⟨⟨w1, x0.2.trans (hb.mono x0.2.size)⟩, rfl⟩
  subst hx
  clear hr hb HC
  go_wp2_with fail
  go_loopw [0, 7] (fun q i wr => ∃ (j : Nat) (cur : List UInt8) (x : Ext W2), j ≤ a ∧ i = .int .i64 j ∧ wr = x.1 ∧ Hid (SlRd wr 1 byteRd q cur) ∧ Hid (TL = cur ++ textsE (ns.drop j))) (fun _ i _ => a - (intOf i).toNat)
  case atStart => exact ⟨0, T0, x1, Nat.zero_le _, rfl, rfl, HR, HTL⟩
  case round =>
   obtain ⟨j, cur, x, hj, rfl, rfl, HQ, HE⟩ := hrel
   by_cases hlt : j < a
   · obtain ⟨s, b, o, _, _, hd, _, rfl, hcell, hsz⟩ := strEl HS.out j (by rw [← HA.out]; exact hlt)
     have HCL := hid hcell
     have hc0 : ∀ y : Ext W2, y.1.cell? ⟨b, o + j, none⟩ = some (.string s) := fun y => ((HB.out y).cell (World.block_lt_of_cell? w _ HCL.out)).trans HCL.out
     have HE2 : Hid (TL = (cur ++ textE s) ++ textsE (ns.drop (j + 1))) := hid (by rw [HE.out, hd, textsE, List.append_assoc])
     have HLN : Hid (cur.length ≤ 100000000 ∧ s.size ≤ 100000000) := hid (by
      have h1 := HL.out
      rw [HE2.out, List.length_append, List.length_append] at h1
      have h2 : (textE s).length = (uintE s.size).length + s.size := by unfold textE; rw [List.length_append]; rfl
      omega)
     have HT := hid (pText_any _ cur s x.1 HQ.out HLN.out.2 HLN.out.1)
     have hi1 : (j : Int) < (a : Int) := by omega
     have HJ : Hid (j + 1 ≤ a) := hid hlt
     clear HE hd hcell hsz hlt hj
     go_wp2_with fail
     refine HT.out.mono ?_
     rintro e w2 ⟨r2, rfl, hr, hb⟩
     have HR2 := hid (bytes_owns hr)
     obtain ⟨x2, hx⟩ : ∃ y : Ext W2, w2 = y.1 := ⟨⟨w2, x.2.trans (hb.mono x.2.size)⟩, rfl⟩
     subst hx
     clear hr hb
     go_wp2_with fail
     go_roundw
     case rel => exact ⟨j + 1, _, x2, HJ.out, by go_num, rfl, HR2, HE2⟩
     case measure => have := HJ.out; simp [intOf]; omega
   · have hjj : j = a := by omega
     subst hjj
     have HF : Hid (TL = cur) := hid (by rw [HE.out, List.drop_eq_nil_of_le (Nat.le_of_eq HA.out.symm), textsE, List.append_nil])
     clear hlt hj
     go_wp2_with fail
     go_ret
     refine ⟨_, rfl, ?_, HB.out _⟩
     rw [HF.out]
     exact HQ.out
theorem put_8 (lo hi' : Int) (sn sp sr bp be : Value) (vn : Int) (bn : Option Addr) (bcn a : Nat) (ns : List ByteArray) (vb : Value) (bs : List UInt8) (w : World) (ha : a = ns.length) (h1 : vn = 1 → 1 ≤ ns.length) (h0 : 0 ≤ vn ∧ vn ≤ 2) (hs : Strs w (.slice bn a bcn) ns) (h : SlRd w 1 byteRd vb bs) (hl : (bs ++ (uintE vn.toNat ++ (if vn = 1 then textE (ns.headD ByteArray.empty) else []))).length ≤ 100000000) :
 Calls Tryz.prog 52 #[vb, .agg #[.int .i64 8, .int .i64 lo, .int .i64 hi', sn, sp, sr], .agg #[.int .i64 vn, .slice bn a bcn, bp, be]] w (PutR w (bs ++ (uintE vn.toNat ++ (if vn = 1 then textE (ns.headD ByteArray.empty) else [])))) := by
 have HC : Hid (∀ W, Below w.heap.size w W → Calls Tryz.prog 86 #[vb, .int .u64 vn] W (PutPost W (bs ++ uintE vn.toNat))) := hid fun W hb => by
   have := pUint_any vb bs vn.toNat W (SlRd.below h hb fun _ _ _ h => h) (by omega) (by rw [List.length_append] at hl; omega)
   rw [show ((vn.toNat : Nat) : Int) = vn by omega] at this
   exact this
 obtain ⟨c1, c2⟩ := h0
 have c3 : vn ≤ 18446744073709551615 := by omega
 have HA := hid ha
 have HS := hid hs
 have hal : a ≤ 9223372036854775807 := by obtain ⟨_, _, _, _, h⟩ := hs.shape; omega
 by_cases hv1 : vn = 1
 · subst hv1
   have hlen := h1 rfl
   obtain ⟨s, b, o, hs0, _, _, _, rfl, hcell, hsz⟩ := strEl hs 0 (by omega)
   have hhd : ns.headD ByteArray.empty = s := by
    cases ns with
    | nil => simp at hs0
    | cons x t => simpa using hs0
   rw [if_pos rfl, hhd] at hl ⊢
   have HTL : Hid (bs ++ (uintE (1 : Int).toNat ++ textE s) = (bs ++ uintE (1 : Int).toNat) ++ textE s) := hid (by rw [List.append_assoc])
   rw [HTL.out] at hl ⊢
   have HLN : Hid ((bs ++ uintE (1 : Int).toNat).length ≤ 100000000 ∧ s.size ≤ 100000000) := hid (by
    rw [List.length_append] at hl
    have h2 : (textE s).length = (uintE s.size).length + s.size := by unfold textE; rw [List.length_append]; rfl
    omega)
   generalize bs ++ uintE (1 : Int).toNat = T0 at HC HLN ⊢
   have hcell' : w.cell? ⟨b, o, none⟩ = some (.string s) := hcell
   have HCL := hid hcell'
   have hi1 : (0 : Int) < (a : Int) := by omega
   have hi2 : 0 < a := by omega
   clear h hl ha hs h1 hlen hs0 hhd hcell hcell' hsz c1 c2 c3 HTL
   obtain ⟨W2, hW, HB, HBl, HBv⟩ := two_box w #[.int .i64 8, .int .i64 lo, .int .i64 hi', sn, sp, sr] #[.int .i64 1, .slice (some ⟨b, o, none⟩) a bcn, bp, be] 26 30
   go_enter Tryz.func52, Tryz.ntmps52
   go_upto_region 1 with fail
   rw [hW.out]
   clear hW
   obtain ⟨x0, hx⟩ := ext_self W2
   rw [hx]
   clear hx
   have l0 : ∀ x : Ext W2, x.1.cell? ⟨w.heap.size, 0, none⟩ = some (.int .i64 8) := fun x => (HBl.out.ext x) 0 _ rfl
   obtain ⟨v0, v1, v2, v3⟩ := bx4 fun x : Ext W2 => HBv.out.ext x
   have hc0 : ∀ y : Ext W2, y.1.cell? ⟨b, o, none⟩ = some (.string s) := fun y => ((HB.out y).cell (World.block_lt_of_cell? w _ HCL.out)).trans HCL.out
   go_wp2_with fail
   refine (HC.out _ (HB.out _)).mono ?_
   rintro e w1 ⟨r, rfl, hr, hb⟩
   have HR := hid (bytes_owns hr)
   obtain ⟨x1, hx⟩ : ∃ y : Ext W2, w1 = y.1 := ⟨⟨w1, x0.2.trans (hb.mono x0.2.size)⟩, rfl⟩
   subst hx
   clear hr hb HC
   have HT := hid (pText_any _ T0 s x1.1 HR.out HLN.out.2 HLN.out.1)
   go_wp2_with fail
   refine HT.out.mono ?_
   rintro e w2 ⟨r2, rfl, hr, hb⟩
   have HR2 := hid (bytes_owns hr)
   have HBF : Hid (Below w.heap.size w w2) := hid ((HB.out x1).trans (hb.mono (HB.out x1).size))
   clear hr hb
   go_wp2_with fail
   go_ret
   exact ⟨_, rfl, HR2.out, HBF.out⟩
 · rw [if_neg hv1, List.append_nil] at hl ⊢
   have hvb : (vn == 1) = false := by rw [beq_eq_false_iff_ne]; exact hv1
   generalize bs ++ uintE vn.toNat = T0 at HC ⊢
   clear h hl ha hs h1
   have HB : Hid (∀ x : Ext ((w.alloc (.cells #[.int .i64 8, .int .i64 lo, .int .i64 hi', sn, sp, sr] 26)).alloc (.cells #[.int .i64 vn, .slice bn a bcn, bp, be] 30)), Below w.heap.size w x.1) := hid fun x => (((Below.refl _ _).alloc (Nat.le_refl _) _).alloc (by simp) _).trans (x.2.mono (by simp; omega))
   have HBl : Hid (Box ((w.alloc (.cells #[.int .i64 8, .int .i64 lo, .int .i64 hi', sn, sp, sr] 26)).alloc (.cells #[.int .i64 vn, .slice bn a bcn, bp, be] 30)) (w.heap.size) #[.int .i64 8, .int .i64 lo, .int .i64 hi', sn, sp, sr]) := hid ((Box.new _ _ _ _ rfl).alloc _)
   have HBv : Hid (Box ((w.alloc (.cells #[.int .i64 8, .int .i64 lo, .int .i64 hi', sn, sp, sr] 26)).alloc (.cells #[.int .i64 vn, .slice bn a bcn, bp, be] 30)) (w.heap.size + 1) #[.int .i64 vn, .slice bn a bcn, bp, be]) := hid (Box.new _ _ _ _ (by simp))
   go_enter Tryz.func52, Tryz.ntmps52
   go_upto_region 1 with fail
   generalize (w.alloc (.cells #[.int .i64 8, .int .i64 lo, .int .i64 hi', sn, sp, sr] 26)).alloc (.cells #[.int .i64 vn, .slice bn a bcn, bp, be] 30) = W2 at HB HBl HBv ⊢
   obtain ⟨x0, hx⟩ := ext_self W2
   rw [hx]
   clear hx
   have l0 : ∀ x : Ext W2, x.1.cell? ⟨w.heap.size, 0, none⟩ = some (.int .i64 8) := fun x => (HBl.out.ext x) 0 _ rfl
   obtain ⟨v0, v1, v2, v3⟩ := bx4 fun x : Ext W2 => HBv.out.ext x
   go_wp2_with fail
   refine (HC.out _ (HB.out _)).mono ?_
   rintro e w1 ⟨r, rfl, hr, hb⟩
   have HR := hid (bytes_owns hr)
   obtain ⟨x1, hx⟩ : ∃ y : Ext W2, w1 = y.1 := ⟨⟨w1, x0.2.trans (hb.mono x0.2.size)⟩, rfl⟩
   subst hx
   clear hr hb
   go_wp2_with fail
   go_ret
   exact ⟨r, rfl, HR.out, HB.out _⟩
def PutAt (w : World) (p : Lat) : Prop := ∀ (q : Val) (cl cq : List Value) (vb : Value) (bs : List UInt8) (W : World), elemB p q = true → Below w.heap.size w W → latRd W p cl → valRd W q cq → SlRd W 1 byteRd vb bs → (bs ++ putV p q).length ≤ 100000000 →
    Calls Tryz.prog 52 #[vb, .agg cl.toArray, .agg cq.toArray] W (PutR W (bs ++ putV p q))
theorem put_67 (k : Int) (hk : k = 6 ∨ k = 7) (lo hi' : Int) (sn sr : Value) (vn : Int) (bn be : Value) (nv cp bcp : Nat) (ap bp : Option Addr) (ps : List Lat) (vps : List Val) (vb : Value) (bs : List UInt8) (w : World) (HNV : Hid (nv = vps.length)) (HNP : Hid (nv = ps.length))
 (HVP : Hid (SlRd w 4 (valRd w) (.slice bp nv bcp) vps)) (HPS : Hid (SlRd w 6 (latRd w) (.slice ap nv cp) ps)) (h : SlRd w 1 byteRd vb bs) (he : elemsB ps vps = true) (hl : (bs ++ putVs ps vps).length ≤ 100000000) (HPUT : Hid (∀ p ∈ ps, PutAt w p)) :
 Calls Tryz.prog 52 #[vb, .agg #[.int .i64 k, .int .i64 lo, .int .i64 hi', sn, .slice ap nv cp, sr], .agg #[.int .i64 vn, bn, .slice bp nv bcp, be]] w (PutR w (bs ++ putVs ps vps)) := by
 have hvl : nv ≤ 9223372036854775807 := by have := HNV.out; obtain ⟨_, _, _, _, h⟩ := HVP.out.shape; omega
 have HTL : Hid (bs ++ putVs ps vps = bs ++ putVs (ps.drop 0) (vps.drop 0)) := hid rfl
 have HEL : Hid (elemsB (ps.drop 0) (vps.drop 0) = true) := hid he
 generalize bs ++ putVs ps vps = TL at hl HTL ⊢
 have HL := hid hl
 have HQ0 := hid h
 clear h hl he
 obtain ⟨W2, hW, HB, HBl, HBv⟩ := two_box w #[.int .i64 k, .int .i64 lo, .int .i64 hi', sn, .slice ap nv cp, sr] #[.int .i64 vn, bn, .slice bp nv bcp, be] 26 30
 go_enter Tryz.func52, Tryz.ntmps52
 go_upto_region 1 with fail
 rw [hW.out]
 clear hW
 obtain ⟨x0, hx⟩ := ext_self W2
 rw [hx]
 clear hx
 obtain ⟨l0, -, -, -, l4⟩ := bx5 fun x : Ext W2 => HBl.out.ext x
 rcases hk with rfl | rfl
 all_goals
  have v2 : ∀ x : Ext W2, x.1.cell? ⟨w.heap.size + 1, 2, none⟩ = some (.slice bp nv bcp) := fun x => (HBv.out.ext x) 2 _ rfl
  have HQ1 : Hid (SlRd x0.1 1 byteRd vb bs) := hid (SlRd.below HQ0.out (HB.out x0) fun _ _ _ h => h)
  go_wp2_with fail
  go_loopw [0, 12] (fun vc i wr => ∃ (ve : Value) (j : Nat) (cur : List UInt8) (x : Ext W2), ve = vc ∧ j ≤ nv ∧ i = .int .i64 j ∧ wr = x.1 ∧ Hid (SlRd wr 1 byteRd vc cur) ∧ Hid (TL = cur ++ putVs (ps.drop j) (vps.drop j)) ∧ Hid (elemsB (ps.drop j) (vps.drop j) = true)) (fun _ i _ => nv - (intOf i).toNat)
  case atStart => exact ⟨_, 0, bs, x0, rfl, Nat.zero_le _, rfl, rfl, HQ1, HTL, HEL⟩
  case round =>
   obtain ⟨ve, j, cur, x, rfl, hj, rfl, rfl, HQ, HE, HEJ⟩ := hrel
   by_cases hlt : j < nv
   · obtain ⟨q, qb, qo, qn, qdn, qp, qdp, qe, qde, _, _, hqd, _, rfl, hqr, hqc⟩ := valEl HVP.out j (by rw [← HNV.out]; exact hlt)
     obtain ⟨p, pb, po, pan, pcn, pap, pcp, par, pcr, _, hpm, hpd, _, rfl, hpr, hpc⟩ := latEl HPS.out j (by rw [← HNP.out]; exact hlt)
     have HQR := hid hqr
     have HQC := hid hqc
     have HPR := hid hpr
     have HPC := hid hpc
     have hE := HEJ.out
     rw [hpd, hqd, elemsB, Bool.and_eq_true] at hE
     have HE2 : Hid (TL = (cur ++ putV p q) ++ putVs (ps.drop (j + 1)) (vps.drop (j + 1))) := hid (by rw [HE.out, hpd, hqd, putVs, List.append_assoc])
     have HEN : Hid (elemsB (ps.drop (j + 1)) (vps.drop (j + 1)) = true) := hid hE.2
     have HCE : Hid (∀ W, Below x.1.heap.size x.1 W → Calls Tryz.prog 52 #[ve, .agg #[.int .i64 p.kind, .int .i64 p.lo, .int .i64 p.hi, .slice pan p.names.length pcn, .slice pap p.parts.length pcp, .slice par p.rules.length pcr], .agg #[.int .i64 q.n, .slice qn q.names.length qdn, .slice qp q.parts.length qdp, .slice qe q.entries.length qde]] W (PutR W (cur ++ putV p q))) := hid fun W hW => HPUT.out p hpm q _ _ ve cur W hE.1 ((HB.out x).trans (hW.mono (HB.out x).size)) (latRd.below ((HB.out x).trans (hW.mono (HB.out x).size)) _ _ HPR.out) (valRd.below ((HB.out x).trans (hW.mono (HB.out x).size)) _ _ HQR.out) (SlRd.below HQ.out hW fun _ _ _ h => h) (by have h1 := HL.out; rw [HE2.out, List.length_append] at h1; omega)
     generalize cur ++ putV p q = C1 at HCE HE2
     have HXB : Hid (∀ W, Below x.1.heap.size x.1 W → Below w.heap.size w W ∧ ∃ y : Ext W2, W = y.1) := hid fun W h => ⟨(HB.out x).trans (h.mono (HB.out x).size), ⟨W, x.2.trans (h.mono x.2.size)⟩, rfl⟩
     have HSX : Hid (∀ w', Below x.1.heap.size x.1 w' → w'.cell? ⟨w.heap.size, 4, none⟩ = some (.slice (some ⟨pb, po, none⟩) nv cp) ∧ w'.cell? ⟨w.heap.size + 1, 2, none⟩ = some (.slice (some ⟨qb, qo, none⟩) nv bcp) ∧ w'.cell? ⟨pb, po + j * 6, none⟩ = some (.int .i64 p.kind) ∧ w'.cell? ⟨pb, po + j * 6 + 1, none⟩ = some (.int .i64 p.lo) ∧ w'.cell? ⟨pb, po + j * 6 + 2, none⟩ = some (.int .i64 p.hi) ∧ w'.cell? ⟨pb, po + j * 6 + 3, none⟩ = some (.slice pan p.names.length pcn) ∧ w'.cell? ⟨pb, po + j * 6 + 4, none⟩ = some (.slice pap p.parts.length pcp) ∧ w'.cell? ⟨pb, po + j * 6 + 5, none⟩ = some (.slice par p.rules.length pcr) ∧ w'.cell? ⟨qb, qo + j * 4, none⟩ = some (.int .i64 q.n) ∧ w'.cell? ⟨qb, qo + j * 4 + 1, none⟩ = some (.slice qn q.names.length qdn) ∧ w'.cell? ⟨qb, qo + j * 4 + 2, none⟩ = some (.slice qp q.parts.length qdp) ∧ w'.cell? ⟨qb, qo + j * 4 + 3, none⟩ = some (.slice qe q.entries.length qde)) := hid fun w' h => by
       obtain ⟨h1, y, rfl⟩ := HXB.out w' h
       exact ⟨l4 y, v2 y, (HPC.out.below h1) 0 (by simp), (HPC.out.below h1) 1 (by simp), (HPC.out.below h1) 2 (by simp), (HPC.out.below h1) 3 (by simp), (HPC.out.below h1) 4 (by simp), (HPC.out.below h1) 5 (by simp), (HQC.out.below h1) 0 (by simp), (HQC.out.below h1) 1 (by simp), (HQC.out.below h1) 2 (by simp), (HQC.out.below h1) 3 (by simp)⟩
     have hi1 : (j : Int) < (nv : Int) := by omega
     have HJ : Hid (j + 1 ≤ nv) := hid hlt
     clear HE hqd hpd hqr hpr hqc hpc hpm hE hj HEJ
     go_wp2_with fail
     clear l0 l4 v2
     go_region_held3 (fun w' => w'.cell? ⟨w.heap.size, 4, none⟩ = some (.slice (some ⟨pb, po, none⟩) nv cp) ∧ w'.cell? ⟨w.heap.size + 1, 2, none⟩ = some (.slice (some ⟨qb, qo, none⟩) nv bcp) ∧ w'.cell? ⟨pb, po + j * 6, none⟩ = some (.int .i64 p.kind) ∧ w'.cell? ⟨pb, po + j * 6 + 1, none⟩ = some (.int .i64 p.lo) ∧ w'.cell? ⟨pb, po + j * 6 + 2, none⟩ = some (.int .i64 p.hi) ∧ w'.cell? ⟨pb, po + j * 6 + 3, none⟩ = some (.slice pan p.names.length pcn) ∧ w'.cell? ⟨pb, po + j * 6 + 4, none⟩ = some (.slice pap p.parts.length pcp) ∧ w'.cell? ⟨pb, po + j * 6 + 5, none⟩ = some (.slice par p.rules.length pcr) ∧ w'.cell? ⟨qb, qo + j * 4, none⟩ = some (.int .i64 q.n) ∧ w'.cell? ⟨qb, qo + j * 4 + 1, none⟩ = some (.slice qn q.names.length qdn) ∧ w'.cell? ⟨qb, qo + j * 4 + 2, none⟩ = some (.slice qp q.parts.length qdp) ∧ w'.cell? ⟨qb, qo + j * 4 + 3, none⟩ = some (.slice qe q.entries.length qde))
       (first
         | exact HSX.out _ (Below.refl _ _)
         | exact HSX.out _ (Below.refl _ _).drew
         | exact HSX.out _ HB5.out
         | skip)
       ((go_at_call 52
         first
          | refine (HCE.out _ (Below.refl _ _)).mono ?_
          | refine (HCE.out _ (Below.refl _ _).drew).mono ?_
         rintro e w5 ⟨r5, rfl, hr5, hb5⟩
         have HR5 := hid hr5
         have HB5 : Hid (Below x.1.heap.size x.1 w5) := hid (by first | exact hb5 | exact (Below.refl _ _).drew.trans hb5)
         clear hb5 hr5))
     all_goals
      obtain ⟨z, hz⟩ := (HXB.out _ HB5.out).2
      subst hz
      go_wp2_with fail
      go_roundw
      case rel => exact ⟨_, j + 1, C1, z, rfl, HJ.out, by go_num, rfl, HR5, HE2, HEN⟩
      case measure => have := HJ.out; simp [intOf]; omega
   · have hjj : j = nv := by omega
     subst hjj
     have HF : Hid (TL = cur) := hid (by rw [HE.out, List.drop_eq_nil_of_le (Nat.le_of_eq HNP.out.symm), putVs_nil, List.append_nil])
     clear hlt hj
     go_wp2_with fail
     go_ret
     refine ⟨_, rfl, ?_, HB.out _⟩
     rw [HF.out]
     exact HQ.out
theorem put_5 (lo hi' : Int) (sn sr : Value) (vn : Int) (be : Value) (nv np cp bcn bcp : Nat) (ap bn bp : Option Addr) (p : Lat) (ps : List Lat) (ns : List ByteArray) (vps : List Val) (vb : Value) (bs : List UInt8) (w : World) (HNV : Hid (nv = vps.length)) (HNN : Hid (nv = ns.length)) (HNP : Hid (np = ps.length)) (HPSE : Hid (ps = [p]))
 (HS : Hid (Strs w (.slice bn nv bcn) ns)) (HVP : Hid (SlRd w 4 (valRd w) (.slice bp nv bcp) vps)) (HPS : Hid (SlRd w 6 (latRd w) (.slice ap np cp) ps)) (h : SlRd w 1 byteRd vb bs) (HEL : Hid (∀ q ∈ vps, elemB p q = true)) (hl : (bs ++ (uintE ns.length ++ (ns.zip vps).flatMap fun x => textE x.1 ++ putV p x.2)).length ≤ 100000000) (HPUT : Hid (PutAt w p)) :
 Calls Tryz.prog 52 #[vb, .agg #[.int .i64 5, .int .i64 lo, .int .i64 hi', sn, .slice ap np cp, sr], .agg #[.int .i64 vn, .slice bn nv bcn, .slice bp nv bcp, be]] w (PutR w (bs ++ (uintE ns.length ++ (ns.zip vps).flatMap fun x => textE x.1 ++ putV p x.2))) := by
 have hvl : nv ≤ 9223372036854775807 := by have := HNV.out; obtain ⟨_, _, _, _, h⟩ := HVP.out.shape; omega
 have hv2 : (nv : Int) ≤ 18446744073709551615 := by omega
 have HC : Hid (∀ W, Below w.heap.size w W → Calls Tryz.prog 86 #[vb, .int .u64 (nv : Nat)] W (PutPost W (bs ++ uintE ns.length))) := hid fun W hb => by
   rw [HNN.out]
   exact pUint_any vb bs ns.length W (SlRd.below h hb fun _ _ _ h => h) (by have := HNN.out; omega) (by rw [List.length_append] at hl; omega)
 have HTL : Hid (bs ++ (uintE ns.length ++ (ns.zip vps).flatMap fun x => textE x.1 ++ putV p x.2) = (bs ++ uintE ns.length) ++ ((ns.drop 0).zip (vps.drop 0)).flatMap fun x => textE x.1 ++ putV p x.2) := hid (by rw [List.append_assoc]; rfl)
 generalize bs ++ (uintE ns.length ++ (ns.zip vps).flatMap fun x => textE x.1 ++ putV p x.2) = TL at hl HTL ⊢
 generalize bs ++ uintE ns.length = T0 at HC HTL
 have HL := hid hl
 have HNP1 : Hid (np = 1) := hid (by rw [HNP.out, HPSE.out]; rfl)
 have hnp1 : (0 : Int) < (np : Int) := by have := HNP1.out; omega
 have hnp2 : 0 < np := by have := HNP1.out; omega
 clear h hl
 obtain ⟨W2, hW, HB, HBl, HBv⟩ := two_box w #[.int .i64 5, .int .i64 lo, .int .i64 hi', sn, .slice ap np cp, sr] #[.int .i64 vn, .slice bn nv bcn, .slice bp nv bcp, be] 26 30
 go_enter Tryz.func52, Tryz.ntmps52
 go_upto_region 1 with fail
 rw [hW.out]
 clear hW
 obtain ⟨x0, hx⟩ := ext_self W2
 rw [hx]
 clear hx
 obtain ⟨l0, -, -, -, l4⟩ := bx5 fun x : Ext W2 => HBl.out.ext x
 obtain ⟨-, v1, v2⟩ := bx3 fun x : Ext W2 => HBv.out.ext x
 go_wp2_with fail
 refine (HC.out _ (HB.out _)).mono ?_
 rintro e w1 ⟨r, rfl, hr, hb⟩
 have HR := hid (bytes_owns hr)
 obtain ⟨x1, hx⟩ : ∃ y : Ext W2, w1 = y.1 := ⟨⟨w1, x0.2.trans (hb.mono x0.2.size)⟩, rfl⟩
 subst hx
 clear hr hb HC
 go_wp2_with fail
 go_loopw [0, 11] (fun vc i wr => ∃ (ve : Value) (j : Nat) (cur : List UInt8) (x : Ext W2), ve = vc ∧ j ≤ nv ∧ i = .int .i64 j ∧ wr = x.1 ∧ Hid (SlRd wr 1 byteRd vc cur) ∧ Hid (TL = cur ++ ((ns.drop j).zip (vps.drop j)).flatMap fun x => textE x.1 ++ putV p x.2)) (fun _ i _ => nv - (intOf i).toNat)
 case atStart => exact ⟨_, 0, T0, x1, rfl, Nat.zero_le _, rfl, rfl, HR, HTL⟩
 case round =>
  obtain ⟨ve, j, cur, x, rfl, hj, rfl, rfl, HQ, HE⟩ := hrel
  by_cases hlt : j < nv
  · obtain ⟨q, qb, qo, qn, qdn, qp, qdp, qe, qde, _, hqm, hqd, _, rfl, hqr, hqc⟩ := valEl HVP.out j (by rw [← HNV.out]; exact hlt)
    obtain ⟨s, sb, so, _, _, hsd, _, rfl, hcell, hsz⟩ := strEl HS.out j (by rw [← HNN.out]; exact hlt)
    obtain ⟨p', pb, po, pan, pcn, pap, pcp, par, pcr, hp0, _, _, _, rfl, hpr, hpc⟩ := latEl HPS.out 0 (by rw [HPSE.out]; exact Nat.one_pos)
    obtain rfl : p = p' := by rw [HPSE.out] at hp0; exact Option.some.inj hp0
    have hpc' : CellsAt w pb po [.int .i64 p.kind, .int .i64 p.lo, .int .i64 p.hi, .slice pan p.names.length pcn, .slice pap p.parts.length pcp, .slice par p.rules.length pcr] := by rw [Nat.zero_mul, Nat.add_zero] at hpc; exact hpc
    have HQR := hid hqr
    have HQC := hid hqc
    have HPR := hid hpr
    have HPC := hid hpc'
    have HCL := hid hcell
    have hE := HEL.out q hqm
    have HE2 : Hid (TL = ((cur ++ textE s) ++ putV p q) ++ ((ns.drop (j + 1)).zip (vps.drop (j + 1))).flatMap fun x => textE x.1 ++ putV p x.2) := hid (by rw [HE.out, hsd, hqd, List.zip_cons_cons, List.flatMap_cons]; simp only [List.append_assoc])
    have HLN : Hid (cur.length ≤ 100000000 ∧ s.size ≤ 100000000 ∧ ((cur ++ textE s) ++ putV p q).length ≤ 100000000) := hid (by
     have h1 := HL.out
     rw [HE2.out] at h1
     have h2 : (textE s).length = (uintE s.size).length + s.size := by unfold textE; rw [List.length_append]; rfl
     simp only [List.length_append] at h1 ⊢
     omega)
    have HCT : Hid (∀ W, Below x.1.heap.size x.1 W → Calls Tryz.prog 87 #[ve, .string s] W (PutPost W (cur ++ textE s))) := hid fun W hW => pText_any ve cur s W (SlRd.below HQ.out hW fun _ _ _ h => h) HLN.out.2.1 HLN.out.1
    have HCE : Hid (∀ W vd, Below x.1.heap.size x.1 W → SlRd W 1 byteRd vd (cur ++ textE s) → Calls Tryz.prog 52 #[vd, .agg #[.int .i64 p.kind, .int .i64 p.lo, .int .i64 p.hi, .slice pan p.names.length pcn, .slice pap p.parts.length pcp, .slice par p.rules.length pcr], .agg #[.int .i64 q.n, .slice qn q.names.length qdn, .slice qp q.parts.length qdp, .slice qe q.entries.length qde]] W (PutR W ((cur ++ textE s) ++ putV p q))) := hid fun W vd hW hv => HPUT.out q _ _ vd _ W hE ((HB.out x).trans (hW.mono (HB.out x).size)) (latRd.below ((HB.out x).trans (hW.mono (HB.out x).size)) _ _ HPR.out) (valRd.below ((HB.out x).trans (hW.mono (HB.out x).size)) _ _ HQR.out) hv HLN.out.2.2
    clear HLN
    generalize (cur ++ textE s) ++ putV p q = C1 at HCE HE2
    generalize cur ++ textE s = C0 at HCE HCT
    have HXB : Hid (∀ W, Below x.1.heap.size x.1 W → Below w.heap.size w W ∧ ∃ y : Ext W2, W = y.1) := hid fun W h => ⟨(HB.out x).trans (h.mono (HB.out x).size), ⟨W, x.2.trans (h.mono x.2.size)⟩, rfl⟩
    have HSX : Hid (∀ w', Below x.1.heap.size x.1 w' → w'.cell? ⟨w.heap.size, 4, none⟩ = some (.slice (some ⟨pb, po, none⟩) np cp) ∧ w'.cell? ⟨w.heap.size + 1, 2, none⟩ = some (.slice (some ⟨qb, qo, none⟩) nv bcp) ∧ w'.cell? ⟨w.heap.size + 1, 1, none⟩ = some (.slice (some ⟨sb, so, none⟩) nv bcn) ∧ w'.cell? ⟨sb, so + j, none⟩ = some (.string s) ∧ w'.cell? ⟨pb, po, none⟩ = some (.int .i64 p.kind) ∧ w'.cell? ⟨pb, po + 1, none⟩ = some (.int .i64 p.lo) ∧ w'.cell? ⟨pb, po + 2, none⟩ = some (.int .i64 p.hi) ∧ w'.cell? ⟨pb, po + 3, none⟩ = some (.slice pan p.names.length pcn) ∧ w'.cell? ⟨pb, po + 4, none⟩ = some (.slice pap p.parts.length pcp) ∧ w'.cell? ⟨pb, po + 5, none⟩ = some (.slice par p.rules.length pcr) ∧ w'.cell? ⟨qb, qo + j * 4, none⟩ = some (.int .i64 q.n) ∧ w'.cell? ⟨qb, qo + j * 4 + 1, none⟩ = some (.slice qn q.names.length qdn) ∧ w'.cell? ⟨qb, qo + j * 4 + 2, none⟩ = some (.slice qp q.parts.length qdp) ∧ w'.cell? ⟨qb, qo + j * 4 + 3, none⟩ = some (.slice qe q.entries.length qde)) := hid fun w' h => by
      obtain ⟨h1, y, rfl⟩ := HXB.out w' h
      exact ⟨l4 y, v2 y, v1 y, (h1.cell (World.block_lt_of_cell? w _ HCL.out)).trans HCL.out, (HPC.out.below h1) 0 (by simp), (HPC.out.below h1) 1 (by simp), (HPC.out.below h1) 2 (by simp), (HPC.out.below h1) 3 (by simp), (HPC.out.below h1) 4 (by simp), (HPC.out.below h1) 5 (by simp), (HQC.out.below h1) 0 (by simp), (HQC.out.below h1) 1 (by simp), (HQC.out.below h1) 2 (by simp), (HQC.out.below h1) 3 (by simp)⟩
    have hi1 : (j : Int) < (nv : Int) := by omega
    have HJ : Hid (j + 1 ≤ nv) := hid hlt
    clear HE hqd hsd hqr hpr hqc hpc hpc' hE hj hp0 hqm hcell hsz
    go_wp2_with fail
    clear l0 l4 v1 v2
    go_region_held3 (fun w' => w'.cell? ⟨w.heap.size, 4, none⟩ = some (.slice (some ⟨pb, po, none⟩) np cp) ∧ w'.cell? ⟨w.heap.size + 1, 2, none⟩ = some (.slice (some ⟨qb, qo, none⟩) nv bcp) ∧ w'.cell? ⟨w.heap.size + 1, 1, none⟩ = some (.slice (some ⟨sb, so, none⟩) nv bcn) ∧ w'.cell? ⟨sb, so + j, none⟩ = some (.string s) ∧ w'.cell? ⟨pb, po, none⟩ = some (.int .i64 p.kind) ∧ w'.cell? ⟨pb, po + 1, none⟩ = some (.int .i64 p.lo) ∧ w'.cell? ⟨pb, po + 2, none⟩ = some (.int .i64 p.hi) ∧ w'.cell? ⟨pb, po + 3, none⟩ = some (.slice pan p.names.length pcn) ∧ w'.cell? ⟨pb, po + 4, none⟩ = some (.slice pap p.parts.length pcp) ∧ w'.cell? ⟨pb, po + 5, none⟩ = some (.slice par p.rules.length pcr) ∧ w'.cell? ⟨qb, qo + j * 4, none⟩ = some (.int .i64 q.n) ∧ w'.cell? ⟨qb, qo + j * 4 + 1, none⟩ = some (.slice qn q.names.length qdn) ∧ w'.cell? ⟨qb, qo + j * 4 + 2, none⟩ = some (.slice qp q.parts.length qdp) ∧ w'.cell? ⟨qb, qo + j * 4 + 3, none⟩ = some (.slice qe q.entries.length qde))
      (first
        | exact HSX.out _ (Below.refl _ _)
        | exact HSX.out _ (Below.refl _ _).drew
        | exact HSX.out _ HB6.out
        | exact HSX.out _ HB5.out
        | skip)
      (first
        | (go_at_call 87
           first
            | refine (HCT.out _ (Below.refl _ _)).mono ?_
            | refine (HCT.out _ (Below.refl _ _).drew).mono ?_
           rintro e w5 ⟨r5, rfl, hr5, hb5⟩
           have HR5 := hid (bytes_owns hr5)
           have HB5 : Hid (Below x.1.heap.size x.1 w5) := hid (by first | exact hb5 | exact (Below.refl _ _).drew.trans hb5)
           clear hb5 hr5)
        | (go_at_call 52
           refine (HCE.out _ _ HB5.out HR5.out).mono ?_
           rintro e w6 ⟨r6, rfl, hr6, hb6⟩
           have HR6 := hid hr6
           have HB6 : Hid (Below x.1.heap.size x.1 w6) := hid (HB5.out.trans (hb6.mono HB5.out.size))
           clear hb6 hr6))
    all_goals
     obtain ⟨z, hz⟩ := (HXB.out _ HB6.out).2
     subst hz
     go_wp2_with fail
     go_roundw
     case rel => exact ⟨_, j + 1, C1, z, rfl, HJ.out, by go_num, rfl, HR6, HE2⟩
     case measure => have := HJ.out; simp [intOf]; omega
  · have hjj : j = nv := by omega
    subst hjj
    have HF : Hid (TL = cur) := hid (by rw [HE.out, List.drop_eq_nil_of_le (Nat.le_of_eq HNN.out.symm)]; simp)
    clear hlt hj
    go_wp2_with fail
    go_ret
    refine ⟨_, rfl, ?_, HB.out _⟩
    rw [HF.out]
    exact HQ.out
theorem put_9 (lo hi' : Int) (sn sp sr : Value) (vn : Int) (bn bp : Value) (ne bce : Nat) (be : Option Addr) (es : List En) (vb : Value) (bs : List UInt8) (w : World) (HNE : Hid (ne = es.length))
 (HES : Hid (SlRd w 2 (entryRd w) (.slice be ne bce) es)) (h : SlRd w 1 byteRd vb bs) (HTK : Hid (∀ e ∈ es, ∀ t ∈ e.clock, (0 ≤ t.process ∧ t.process ≤ 63) ∧ (0 ≤ t.n ∧ t.n ≤ 1000000000000000))) (hl : (bs ++ (uintE es.length ++ entriesE es)).length ≤ 100000000) :
 Calls Tryz.prog 52 #[vb, .agg #[.int .i64 9, .int .i64 lo, .int .i64 hi', sn, sp, sr], .agg #[.int .i64 vn, bn, bp, .slice be ne bce]] w (PutR w (bs ++ (uintE es.length ++ entriesE es))) := by
 have hvl : ne ≤ 9223372036854775807 := by have := HNE.out; obtain ⟨_, _, _, _, h⟩ := HES.out.shape; omega
 have hv2 : (ne : Int) ≤ 18446744073709551615 := by omega
 have HC : Hid (∀ W, Below w.heap.size w W → Calls Tryz.prog 86 #[vb, .int .u64 (ne : Nat)] W (PutPost W (bs ++ uintE es.length))) := hid fun W hb => by
   rw [HNE.out]
   exact pUint_any vb bs es.length W (SlRd.below h hb fun _ _ _ h => h) (by have := HNE.out; omega) (by rw [List.length_append] at hl; omega)
 have HTL : Hid (bs ++ (uintE es.length ++ entriesE es) = (bs ++ uintE es.length) ++ entriesE (es.drop 0)) := hid (by rw [List.append_assoc]; rfl)
 generalize bs ++ (uintE es.length ++ entriesE es) = TL at hl HTL ⊢
 generalize bs ++ uintE es.length = T0 at HC HTL
 have HL := hid hl
 clear h hl
 obtain ⟨W2, hW, HB, HBl, HBv⟩ := two_box w #[.int .i64 9, .int .i64 lo, .int .i64 hi', sn, sp, sr] #[.int .i64 vn, bn, bp, .slice be ne bce] 26 30
 go_enter Tryz.func52, Tryz.ntmps52
 go_upto_region 1 with fail
 rw [hW.out]
 clear hW
 obtain ⟨x0, hx⟩ := ext_self W2
 rw [hx]
 clear hx
 have l0 : ∀ x : Ext W2, x.1.cell? ⟨w.heap.size, 0, none⟩ = some (.int .i64 9) := fun x => (HBl.out.ext x) 0 _ rfl
 have v3 : ∀ x : Ext W2, x.1.cell? ⟨w.heap.size + 1, 3, none⟩ = some (.slice be ne bce) := fun x => (HBv.out.ext x) 3 _ rfl
 go_wp2_with fail
 refine (HC.out _ (HB.out _)).mono ?_
 rintro e w1 ⟨r, rfl, hr, hb⟩
 have HR := hid (bytes_owns hr)
 obtain ⟨x1, hx⟩ : ∃ y : Ext W2, w1 = y.1 := ⟨⟨w1, x0.2.trans (hb.mono x0.2.size)⟩, rfl⟩
 subst hx
 clear hr hb HC
 go_wp2_with fail
 go_loopw [0, 8] (fun vc i wr => ∃ (ve : Value) (j : Nat) (cur : List UInt8) (x : Ext W2), ve = vc ∧ j ≤ ne ∧ i = .int .i64 j ∧ wr = x.1 ∧ Hid (SlRd wr 1 byteRd vc cur) ∧ Hid (TL = cur ++ entriesE (es.drop j))) (fun _ i _ => ne - (intOf i).toNat)
 case atStart => exact ⟨_, 0, T0, x1, rfl, Nat.zero_le _, rfl, rfl, HR, HTL⟩
 case round =>
  obtain ⟨ve, j, cur, x, rfl, hj, rfl, rfl, HQ, HE⟩ := hrel
  by_cases hlt : j < ne
  · obtain ⟨e, eb, eo, ea, ec, _, hem, hed, _, rfl, hck, hnm, hec⟩ := entEl HES.out j (by rw [← HNE.out]; exact hlt)
    have HT := hid (HTK.out e hem)
    have HCK := hid hck
    have HEC := hid hec
    have HE2 : Hid (TL = (((cur ++ uintE e.clock.length) ++ ticksE e.clock) ++ textE e.name) ++ entriesE (es.drop (j + 1))) := hid (by rw [HE.out, hed, entriesE, entryE]; simp only [List.append_assoc])
    obtain ⟨nm, hnme⟩ : ∃ nm, nm = e.name := ⟨_, rfl⟩
    obtain ⟨K, hK⟩ : ∃ K, K = e.clock.length := ⟨_, rfl⟩
    obtain ⟨clk, hclk⟩ : ∃ c, c = e.clock := ⟨_, rfl⟩
    rw [← hclk] at HT HCK HE2 hK
    rw [← hnme, ← hclk, ← hK] at HEC
    rw [← hnme, ← hK] at HE2
    rw [← hK] at HCK
    have HK := hid hK
    have HLN : Hid (cur.length ≤ 100000000 ∧ nm.size ≤ 100000000 ∧ ((cur ++ uintE K) ++ ticksE clk).length ≤ 100000000) := hid (by
     have h1 := HL.out
     rw [HE2.out] at h1
     have h2 : (textE nm).length = (uintE nm.size).length + nm.size := by unfold textE; rw [List.length_append]; rfl
     simp only [List.length_append] at h1 ⊢
     omega)
    have hkl : K ≤ 9223372036854775807 := by have := HK.out; obtain ⟨_, _, _, _, h⟩ := HCK.out.shape; omega
    have hkl2 : (K : Int) ≤ 18446744073709551615 := by omega
    obtain ⟨e0, e1⟩ := cx2 fun x : Ext W2 => HEC.out.below (HB.out x)
    have hi1 : (j : Int) < (ne : Int) := by omega
    have HJ : Hid (j + 1 ≤ ne) := hid hlt
    clear HE hed hem hck hnm hec hnme hclk hK hlt hj
    have HB3 : Hid (∀ y : Ext (x.1.alloc (.cells #[.slice ea K ec, .string nm] 43)), Below x.1.heap.size x.1 y.1) := hid fun y => ((Below.refl _ _).alloc (Nat.le_refl _) _).trans (y.2.mono (by simp))
    have HBe : Hid (Box (x.1.alloc (.cells #[.slice ea K ec, .string nm] 43)) x.1.heap.size #[.slice ea K ec, .string nm]) := hid (Box.new _ _ _ _ rfl)
    go_upto_region 24 with fail
    generalize x.1.alloc (.cells #[.slice ea K ec, .string nm] 43) = W3 at HB3 HBe ⊢
    obtain ⟨y0, hy⟩ := ext_self W3
    rw [hy]
    clear hy e0 e1
    obtain ⟨f0, f1⟩ := bx2 fun y : Ext W3 => HBe.out.ext y
    have HU1 : Hid (∀ y : Ext W3, Calls Tryz.prog 86 #[ve, .int .u64 (K : Nat)] y.1 (PutPost y.1 (cur ++ uintE K))) := hid fun y => pUint_any ve cur K y.1 (SlRd.below HQ.out (HB3.out y) fun _ _ _ h => h) (by omega) HLN.out.1
    have HTT : Hid ((cur ++ uintE K) ++ ticksE clk = (cur ++ uintE K) ++ ticksE (clk.drop 0)) := hid rfl
    generalize (cur ++ uintE K) ++ ticksE clk = TT at HE2 HLN HTT
    generalize cur ++ uintE K = C0 at HU1 HTT
    go_wp2_with fail
    refine (HU1.out _).mono ?_
    rintro e2 w2 ⟨r2, rfl, hr2, hb2⟩
    have HR2 := hid (bytes_owns hr2)
    obtain ⟨y1, hx⟩ : ∃ y : Ext W3, w2 = y.1 := ⟨⟨w2, y0.2.trans (hb2.mono y0.2.size)⟩, rfl⟩
    subst hx
    clear hr2 hb2 HU1
    go_wp2_with fail
    go_loopw [0, 10] (fun vd i wr => ∃ (vf : Value) (k : Nat) (cur : List UInt8) (y : Ext W3), vf = vd ∧ k ≤ K ∧ i = .int .i64 k ∧ wr = y.1 ∧ Hid (SlRd wr 1 byteRd vd cur) ∧ Hid (TT = cur ++ ticksE (clk.drop k))) (fun _ i _ => K - (intOf i).toNat)
    case atStart => exact ⟨_, 0, C0, y1, rfl, Nat.zero_le _, rfl, rfl, HR2, HTT⟩
    case round =>
     obtain ⟨vf, k, cur2, y, rfl, hk, rfl, rfl, HQ2, HET⟩ := hrel
     by_cases hltk : k < K
     · obtain ⟨t, tb, to, _, htm, htd, _, rfl, _, htc⟩ := tickEl HCK.out k (by rw [← HK.out]; exact hltk)
       have HTC := hid htc
       have hT := HT.out t htm
       have HE3 : Hid (TT = ((cur2 ++ uintE t.process.toNat) ++ uintE t.n.toNat) ++ ticksE (clk.drop (k + 1))) := hid (by rw [HET.out, htd, ticksE]; simp only [List.append_assoc])
       obtain ⟨tp, htp⟩ : ∃ a, a = t.process := ⟨_, rfl⟩
       obtain ⟨tn, htn⟩ : ∃ a, a = t.n := ⟨_, rfl⟩
       rw [← htp, ← htn] at HTC hT HE3
       have b1 : 0 ≤ tp := hT.1.1
       have b2 : tp ≤ 18446744073709551615 := by omega
       have b3 : 0 ≤ tn := hT.2.1
       have b4 : tn ≤ 18446744073709551615 := by omega
       have HLN2 : Hid (cur2.length ≤ 100000000 ∧ (cur2 ++ uintE tp.toNat).length ≤ 100000000) := hid (by
        have h1 := HLN.out.2.2
        rw [HE3.out] at h1
        simp only [List.length_append] at h1 ⊢
        omega)
       have HCA : Hid (∀ W, Below y.1.heap.size y.1 W → Calls Tryz.prog 86 #[vf, .int .u64 (IntKind.u64.wrap tp)] W (PutPost W (cur2 ++ uintE tp.toNat))) := hid fun W hW => by
         have := pUint_any vf cur2 tp.toNat W (SlRd.below HQ2.out hW fun _ _ _ h => h) (by omega) HLN2.out.1
         rw [show ((tp.toNat : Nat) : Int) = IntKind.u64.wrap tp by simp [IntKind.wrap, IntKind.bits, IntKind.signed]; omega] at this
         exact this
       have HCB : Hid (∀ W vg, SlRd W 1 byteRd vg (cur2 ++ uintE tp.toNat) → Calls Tryz.prog 86 #[vg, .int .u64 (IntKind.u64.wrap tn)] W (PutPost W ((cur2 ++ uintE tp.toNat) ++ uintE tn.toNat))) := hid fun W vg hg => by
         have := pUint_any vg _ tn.toNat W hg (by omega) HLN2.out.2
         rw [show ((tn.toNat : Nat) : Int) = IntKind.u64.wrap tn by simp [IntKind.wrap, IntKind.bits, IntKind.signed]; omega] at this
         exact this
       clear HLN2
       generalize (cur2 ++ uintE tp.toNat) ++ uintE tn.toNat = C2 at HCB HE3
       generalize cur2 ++ uintE tp.toNat = C1 at HCB HCA
       have HXB : Hid (∀ W, Below y.1.heap.size y.1 W → Below w.heap.size w W ∧ ∃ z : Ext W3, W = z.1) := hid fun W h => ⟨(HB.out x).trans (((HB3.out y).trans (h.mono (HB3.out y).size)).mono (HB.out x).size), ⟨W, y.2.trans (h.mono y.2.size)⟩, rfl⟩
       have HSX : Hid (∀ w', Below y.1.heap.size y.1 w' → w'.cell? ⟨x.1.heap.size, 0, none⟩ = some (.slice (some ⟨tb, to, none⟩) K ec) ∧ w'.cell? ⟨tb, to + k * 2, none⟩ = some (.int .i64 tp) ∧ w'.cell? ⟨tb, to + k * 2 + 1, none⟩ = some (.int .i64 tn)) := hid fun w' h => by
         obtain ⟨h1, z, rfl⟩ := HXB.out w' h
         exact ⟨f0 z, (HTC.out.below h1) 0 (by simp), (HTC.out.below h1) 1 (by simp)⟩
       have hi2 : (k : Int) < (K : Int) := by omega
       have HJ2 : Hid (k + 1 ≤ K) := hid hltk
       clear HET htd htm htc hT htp htn hk
       go_wp2_with fail
       clear f1 l0 v3 hi1 hv2 hvl
       go_region_held3 (fun w' => w'.cell? ⟨x.1.heap.size, 0, none⟩ = some (.slice (some ⟨tb, to, none⟩) K ec) ∧ w'.cell? ⟨tb, to + k * 2, none⟩ = some (.int .i64 tp) ∧ w'.cell? ⟨tb, to + k * 2 + 1, none⟩ = some (.int .i64 tn))
         (first
           | exact HSX.out _ (Below.refl _ _)
           | exact HSX.out _ (Below.refl _ _).drew
           | exact HSX.out _ HB6.out
           | exact HSX.out _ HB5.out
           | skip)
         (first
           | (go_at_call 86
              refine (HCB.out _ _ HR5.out).mono ?_
              rintro e w6 ⟨r6, rfl, hr6, hb6⟩
              have HR6 := hid (bytes_owns hr6)
              have HB6 : Hid (Below y.1.heap.size y.1 w6) := hid (HB5.out.trans (hb6.mono HB5.out.size))
              clear hb6 hr6)
           | (go_at_call 86
              first
               | refine (HCA.out _ (Below.refl _ _)).mono ?_
               | refine (HCA.out _ (Below.refl _ _).drew).mono ?_
              rintro e w5 ⟨r5, rfl, hr5, hb5⟩
              have HR5 := hid (bytes_owns hr5)
              have HB5 : Hid (Below y.1.heap.size y.1 w5) := hid (by first | exact hb5 | exact (Below.refl _ _).drew.trans hb5)
              clear hb5 hr5))
       all_goals
        obtain ⟨z, hz⟩ := (HXB.out _ HB6.out).2
        subst hz
        go_wp2_with fail
        go_roundw
        case rel => exact ⟨_, k + 1, C2, z, rfl, HJ2.out, by go_num, rfl, HR6, HE3⟩
        case measure => have := HJ2.out; simp [intOf]; omega
     · have hkk : k = K := by omega
       subst hkk
       have HF : Hid (TT = cur2) := hid (by rw [HET.out, List.drop_eq_nil_of_le (Nat.le_of_eq HK.out.symm), ticksE, List.append_nil])
       have HTX := hid (pText_any vf cur2 nm y.1 HQ2.out HLN.out.2.1 (by rw [← HF.out]; exact HLN.out.2.2))
       rw [HF.out] at HE2
       clear hltk hk HET HTT HLN
       go_wp2_with fail
       refine HTX.out.mono ?_
       rintro e2 w3 ⟨r3, rfl, hr3, hb3⟩
       have HR3 := hid (bytes_owns hr3)
       obtain ⟨z, hz⟩ : ∃ z : Ext W2, w3 = z.1 := ⟨⟨w3, x.2.trans (((HB3.out y).trans (hb3.mono (HB3.out y).size)).mono x.2.size)⟩, rfl⟩
       subst hz
       clear hr3 hb3 HTX
       go_wp2_with fail
       go_roundw
       case rel => exact ⟨_, j + 1, _, z, rfl, HJ.out, by go_num, rfl, HR3, HE2⟩
       case measure => have := HJ.out; simp [intOf]; omega
  · have hjj : j = ne := by omega
    subst hjj
    have HF : Hid (TL = cur) := hid (by rw [HE.out, List.drop_eq_nil_of_le (Nat.le_of_eq HNE.out.symm), entriesE, List.append_nil])
    clear hlt hj
    go_wp2_with fail
    go_ret
    refine ⟨_, rfl, ?_, HB.out _⟩
    rw [HF.out]
    exact HQ.out
theorem rPut_any (f : Nat) : ∀ (l : Lat) (v : Val) (cl cv : List Value) (vb : Value) (bs : List UInt8) (w : World), SizeOf.sizeOf l ≤ f → latRd w l cl → valRd w v cv → WfL l → elemB l v = true → SlRd w 1 byteRd vb bs → (bs ++ putV l v).length ≤ 100000000 →
 Calls Tryz.prog 52 #[vb, .agg cl.toArray, .agg cv.toArray] w (PutR w (bs ++ putV l v)) := by
 induction f with
 | zero => intro l v cl cv vb bs w hn; cases l; simp at hn
 | succ f ih =>
   intro l v cl cv vb bs w hn hl hv hwf hel hb hz
   obtain ⟨vn, vp, vr, rfl, hi, hns, hps, hrs⟩ := (latRd_iff _ _ _).1 hl
   obtain ⟨un, up, ue, rfl, gi, gn, gp, ge⟩ := (valRd_iff _ _ _).1 hv
   have hkind := hwf.kinds
   have hpart : ∀ p ∈ l.parts, WfL p ∧ SizeOf.sizeOf p ≤ f := fun p hp => ⟨hwf.part hp, by have := sizeOf_part (l := l) (p := p) hp; omega⟩
   obtain ⟨k, lo, hi', ns, ps, rs⟩ := l
   obtain ⟨n, vns, vps, ves⟩ := v
   simp only [Lat.kind, Lat.lo, Lat.hi, Lat.names, Lat.parts, Lat.rules, Val.n, Val.names, Val.parts, Val.entries] at *
   obtain ⟨ap, cp, rfl, _, _⟩ := hps.shape
   obtain ⟨bn, bcn, rfl, _, _⟩ := gn.shape
   obtain ⟨bp, bcp, rfl, _, _⟩ := gp.shape
   obtain ⟨be, bce, rfl, _, _⟩ := ge.shape
   have HIH : Hid (∀ p ∈ ps, PutAt w p) := hid fun p hp q c1 c2 vd b W he _ h1 h2 h3 h4 => ih p q c1 c2 vd b W (hpart p hp).2 h1 h2 (hpart p hp).1 he h3 h4
   have hlen : bs.length ≤ 100000000 := by rw [List.length_append] at hz; omega
   rcases kind_cases hkind.1 with rfl | e | e | rfl | e | rfl | rfl
   · rw [putV_1]
     exact put_1 lo hi' vn _ vr _ _ _ n vb bs w hb hlen
   · rw [putV_23 e]
     rcases e with rfl | rfl
     · exact put_23 2 (.inl rfl) lo hi' vn _ vr _ _ _ n vb bs w hb gi hlen
     · exact put_23 3 (.inr rfl) lo hi' vn _ vr _ _ _ n vb bs w hb gi hlen
   · rw [putV_410 e, ← textsE_eq] at hz ⊢
     rcases e with rfl | rfl
     · exact put_410 4 (.inl rfl) lo hi' vn _ vr _ _ n bn bcn vns.length vns vb bs w rfl gn hb hz
     · exact put_410 10 (.inr rfl) lo hi' vn _ vr _ _ n bn bcn vns.length vns vb bs w rfl gn hb hz
   · obtain ⟨p, rfl⟩ := List.length_eq_one_iff.1 (hkind.2.1 rfl)
     have h5 := elem_iff_5 (l := .mk 5 lo hi' ns [p] rs) (v := .mk n vns vps ves) rfl rfl
     rw [hel] at h5
     have h6 := h5.symm
     simp only [Bool.and_eq_true, decide_eq_true_eq, List.all_eq_true] at h6
     obtain ⟨_, _, h7, _, h8⟩ := h6
     simp only [Val.names, Val.parts] at h7 h8
     rw [putV_5] at hz ⊢
     have gn' : Strs w (.slice bn vps.length bcn) vns := by rw [← h7]; exact gn
     have HH := put_5 lo hi' vn vr n (.slice be ves.length bce) vps.length 1 cp bcn bcp ap bn bp p [p] vns vps vb bs w (hid rfl) (hid h7.symm) (hid rfl) (hid rfl) (hid gn') (hid gp) (hid hps) hb (hid fun q hq => (h8 q hq).1) hz (hid (HIH.out p (by simp)))
     rw [← h7] at HH
     rw [← h7]
     exact HH
   · have h5 := elem_iff_67 (l := .mk k lo hi' ns ps rs) (v := .mk n vns vps ves) e
     rw [hel] at h5
     have h6 := h5.symm
     simp only [Bool.and_eq_true, decide_eq_true_eq] at h6
     obtain ⟨_, _, _, h7, h8⟩ := h6
     simp only [Val.parts, Lat.parts] at h7 h8
     rw [putV_67 e] at hz ⊢
     have hps' : SlRd w 6 (latRd w) (.slice ap vps.length cp) ps := by rw [h7]; exact hps
     rcases e with rfl | rfl
     · have HH := put_67 6 (.inl rfl) lo hi' vn vr n (.slice bn vns.length bcn) (.slice be ves.length bce) vps.length cp bcp ap bp ps vps vb bs w (hid rfl) (hid h7) (hid gp) (hid hps') hb h8 hz HIH
       rw [← h7]
       exact HH
     · have HH := put_67 7 (.inr rfl) lo hi' vn vr n (.slice bn vns.length bcn) (.slice be ves.length bce) vps.length cp bcp ap bp ps vps vb bs w (hid rfl) (hid h7) (hid gp) (hid hps') hb h8 hz HIH
       rw [← h7]
       exact HH
   · have h5 := (elem_iff_8 (l := .mk 8 lo hi' ns ps rs) (v := .mk n vns vps ves) rfl).1 hel
     simp only [Val.n, Val.names, Val.parts, Val.entries] at h5
     rw [putV_8] at hz ⊢
     exact put_8 lo hi' vn _ vr _ _ n bn bcn vns.length vns vb bs w rfl (by omega) (by omega) gn hb hz
   · have h5 := (elem_iff_9 (l := .mk 9 lo hi' ns ps rs) (v := .mk n vns vps ves) rfl).1 hel
     simp only [Val.n, Val.names, Val.parts, Val.entries] at h5
     rw [putV_9, ← entriesE_eq] at hz ⊢
     exact put_9 lo hi' vn _ vr n _ _ ves.length bce be ves vb bs w (hid rfl) (hid ge) hb (hid fun e he t ht => clockFrom_mem (-1) e.clock (by omega) (regGo_mem ves 0 ves h5.2.2.2 e he).1 t ht) hz
def BytesRPost (w : World) (x : List UInt8 × Int) (e : Ending) (w' : World) : Prop := ∃ r, e = .returned (.tuple #[r, .int .i64 x.2]) ∧ SlRd w' 1 byteRd r x.1 ∧ Below w.heap.size w w'
theorem noBytes (w : World) : SlRd w 1 byteRd (.slice none 0 0) [] := ⟨none, 0, rfl, ⟨fun _ => rfl, Nat.le_refl _⟩, Nat.zero_le _, fun i hi => absurd hi (Nat.not_lt_zero i)⟩
theorem rEncode_any (l : Lat) (v : Val) (cl cv : List Value) (w : World) (hl : latRd w l cl) (hv : valRd w v cv) (hsz : chkE l = 0 → elemB l v = true → (putV l v).length ≤ 80000000) :
 Calls Tryz.prog 25 #[.agg cl.toArray, .agg cv.toArray] w (BytesRPost w (encodeE l v)) := by
 have HC : Hid (∀ W, Below w.heap.size w W → Calls Tryz.prog 31 #[.agg cl.toArray] W fun e w' => e = .returned (.int .i64 (chkE l)) ∧ Below W.heap.size W w') := hid fun W h => rCheck_any l cl W (latRd.below h _ _ hl)
 have HEL : Hid (chkE l = 0 → ∀ W, Below w.heap.size w W → Calls Tryz.prog 38 #[.agg cl.toArray, .agg cv.toArray] W fun e w' => e = .returned (.bool (elemB l v)) ∧ Below W.heap.size W w') := hid fun h0 W h => rElement_any _ l v cl cv W (Nat.le_refl _) (latRd.below h _ _ hl) (valRd.below h _ _ hv) (chkE_wf h0)
 have HPU : Hid (chkE l = 0 → elemB l v = true → ∀ W, Below w.heap.size w W → Calls Tryz.prog 52 #[.slice none 0 0, .agg cl.toArray, .agg cv.toArray] W (PutR W (putV l v))) := hid fun h0 h1 W h => rPut_any _ l v cl cv _ [] W (Nat.le_refl _) (latRd.below h _ _ hl) (valRd.below h _ _ hv) (chkE_wf h0) h1 (noBytes W) (by have := hsz h0 h1; simpa using Nat.le_trans this (by decide))
 have HE : Hid (encodeE l v = if chkE l ≠ 0 then ([], 1) else if elemB l v = false then ([], 4) else (putV l v, 0)) := hid rfl
 generalize encodeE l v = R at HE ⊢
 obtain ⟨vn, vp, vr, rfl, _⟩ := (latRd_iff _ _ _).1 hl
 obtain ⟨un, up, ue, rfl, _⟩ := (valRd_iff _ _ _).1 hv
 clear hl hv hsz
 generalize l.kind = k at HC HEL HPU ⊢
 generalize l.lo = lo at HC HEL HPU ⊢
 generalize l.hi = hi' at HC HEL HPU ⊢
 generalize v.n = n at HEL HPU ⊢
 generalize chkE l = CE at HC HEL HPU HE
 generalize elemB l v = EL at HEL HPU HE
 generalize putV l v = PB at HPU HE
 obtain ⟨W2, hW, HB, HBl, HBv⟩ := two_box w #[.int .i64 k, .int .i64 lo, .int .i64 hi', vn, vp, vr] #[.int .i64 n, un, up, ue] 26 30
 go_enter Tryz.func25, Tryz.ntmps25
 go_wp2_with fail
 rw [hW.out]
 clear hW
 obtain ⟨x0, hx⟩ := ext_self W2
 rw [hx]
 clear hx
 obtain ⟨l0, l1, l2, l3, l4, l5⟩ := bx6 fun x : Ext W2 => HBl.out.ext x
 obtain ⟨v0, v1, v2, v3⟩ := bx4 fun x : Ext W2 => HBv.out.ext x
 replace HC := hid (ext_of HB.out HC.out)
 refine (HC.out _).mono ?_
 rintro e _ ⟨rfl, x1, rfl⟩
 clear HC
 by_cases h0 : CE = 0
 · have HE2 : Hid (R = if EL = false then ([], 4) else (PB, 0)) := hid (by rw [HE.out, if_neg (by omega)])
   replace HEL := hid (ext_of HB.out (HEL.out h0))
   replace HPU := hid (HPU.out h0)
   subst h0
   clear HE
   go_wp2_with fail
   refine (HEL.out _).mono ?_
   rintro e _ ⟨rfl, x2, rfl⟩
   clear HEL
   cases EL
   · have HF : Hid (R = ([], 4)) := hid HE2.out
     have hF := HF.out
     clear HE2 HPU HF
     subst hF
     go_wp2_with fail
     go_ret2
     exact ⟨_, rfl, noBytes _, HB.out _⟩
   · have HF : Hid (R = (PB, 0)) := hid HE2.out
     have hF := HF.out
     replace HPU := hid (HPU.out rfl)
     clear HE2 HF
     subst hF
     go_wp2_with fail
     refine (HPU.out _ (HB.out _)).mono ?_
     rintro e w3 ⟨r3, rfl, hr3, hb3⟩
     have HR3 := hid hr3
     have HB3 : Hid (Below w.heap.size w w3) := hid ((HB.out _).trans (hb3.mono (HB.out _).size))
     clear hr3 hb3 HPU
     go_wp2_with fail
     go_ret2
     exact ⟨r3, rfl, HR3.out, HB3.out⟩
 · have HF : Hid (R = ([], 1)) := hid (by rw [HE.out, if_pos h0])
   have hne : (CE != 0) = true := by rw [bne_iff_ne]; exact h0
   have hF := HF.out
   clear HE HEL HPU HF h0
   subst hF
   go_wp2_with fail
   go_ret2
   exact ⟨_, rfl, noBytes _, HB.out _⟩
end Go.Proofs.YtmdjnaobllajmaaGreatDoor
