/-
  What the statements of the chapter share, part 03: VCmp2, VCmp3, VLat3, VLat3b, VLat3c, VLat4, VLat5, VLat6, VCmp4.
-/
import Derived.Test.YtmdjnaobllajmaaGreatDoorX01
import Derived.Test.YtmdjnaobllajmaaGreatDoorX02
import Derived.Lib.Strings
set_option linter.unusedVariables false
set_option linter.unusedSimpArgs false
set_option maxRecDepth 100000
set_option maxHeartbeats 8000000
namespace Go.Proofs.YtmdjnaobllajmaaGreatDoor
open Go.RowKit
theorem cmp_lists : ∀ (x y : List UInt8), (match (List.range (min x.length y.length)).find? (fun i => x.getD i 0 != y.getD i 0) with
    | some i => if x.getD i 0 < y.getD i 0 then (-1 : Int) else 1
    | none => if x.length < y.length then -1 else if x.length > y.length then 1 else 0) = if Op.bytesLess x y then -1 else if (x == y) then 0 else 1
  | [], [] => by simp [Op.bytesLess]
  | [], b :: y => by simp [Op.bytesLess]
  | a :: x, [] => by simp [Op.bytesLess]
  | a :: x, b :: y => by
    have ih := cmp_lists x y
    have hm : min (a :: x).length (b :: y).length = min x.length y.length + 1 := by simp only [List.length_cons]; omega
    rw [hm, List.range_succ_eq_map, List.find?_cons]
    by_cases hab : a = b
    · subst hab
      have e : ((a :: x).getD 0 0 != (a :: y).getD 0 0) = false := by simp
      rw [e]
      simp only [List.find?_map]
      have hf : ((fun i => (a :: x).getD i 0 != (a :: y).getD i 0) ∘ Nat.succ) = fun i => x.getD i 0 != y.getD i 0 := by funext i; simp
      rw [hf]
      have hb : Op.bytesLess (a :: x) (a :: y) = Op.bytesLess x y := by simp [Op.bytesLess]
      have hbe : (a :: x == a :: y) = (x == y) := by simp
      rw [hb, hbe, ← ih]
      cases (List.range (min x.length y.length)).find? (fun i => x.getD i 0 != y.getD i 0) with
      | none => simp
      | some i => simp
    · have e : ((a :: x).getD 0 0 != (b :: y).getD 0 0) = true := by simp [hab]
      rw [e]
      have hb : Op.bytesLess (a :: x) (b :: y) = decide (a < b) := by simp [Op.bytesLess, hab]
      have hbe : (a :: x == b :: y) = false := by simp [hab]
      rw [hb, hbe]
      simp
theorem byte_get (s : ByteArray) (i : Nat) : s[i]! = s.toList.getD i 0 := by
 rw [ByteArray.toList_eq]
 by_cases h : i < s.size
 · rw [getElem!_pos s i h]
   have h' : i < s.data.toList.length := h
   rw [List.getD_eq_getElem?_getD, List.getElem?_eq_getElem h']
   rfl
 · rw [getElem!_neg s i h]
   have h' : s.data.toList.length ≤ i := by have : s.data.toList.length = s.size := rfl; omega
   rw [List.getD_eq_getElem?_getD, List.getElem?_eq_none h']
   rfl
theorem size_toList (s : ByteArray) : s.size = s.toList.length := by rw [ByteArray.toList_eq]; rfl
theorem cmp_strC (s t : ByteArray) : Extern.BytealgCompare.cmp s t = strC s t := by
 have h := cmp_lists s.toList t.toList
 unfold Extern.BytealgCompare.cmp strC strLt
 simp only [byte_get, size_toList]
 rw [← h]
 generalize List.find? (fun i => s.toList.getD i 0 != t.toList.getD i 0) (List.range (min s.toList.length t.toList.length)) = o
 cases o <;> rfl
theorem run_cmpstring (s t : ByteArray) (w : World) : (callFunc 158 #[.string s, .string t]).run Tryz.prog w = .ok (.value (.int .i64 (strC s t))) w := by
 rw [run_callFunc_extern (e := Extern.BytealgCompare.compare) Tryz.func158 (by kernel_rfl) (by kernel_rfl) (by kernel_rfl) (by kernel_rfl)]
 rw [← cmp_strC]
 rfl
theorem cmpString_any (s t : ByteArray) (w : World) : Calls Tryz.prog 128 #[.string s, .string t] w fun e w' => e = .returned (.int .i64 (strC s t)) ∧ w' = w := by
  have hd := run_cmpstring s t w
  go_enter Tryz.func128, Tryz.ntmps128
  go_wp2
  go_ret
  exact ⟨rfl, rfl⟩
theorem stringsCompare_any (s t : ByteArray) (w : World) : Calls Tryz.prog 76 #[.string s, .string t] w fun e w' => e = .returned (.int .i64 (strC s t)) ∧ w' = w := by
  have HC := hid (cmpString_any s t w)
  go_enter Tryz.func76, Tryz.ntmps76
  go_wp2_with fail
  refine HC.out.mono ?_
  rintro e w' ⟨rfl, rfl⟩
  go_wp2
  go_ret
  exact ⟨rfl, rfl⟩
def tickC (a b : Tk) : Int := orI [cmpI a.process b.process, cmpI a.n b.n]
theorem two_boxes (w : World) (c1 c2 : Array Value) (t1 t2 : TypeId) {w' : World} (h : Below (w.heap.size + 2) ((w.alloc (.cells c1 t1)).alloc (.cells c2 t2)) w') :
 (∀ (i : Nat) v, c1[i]? = some v → w'.cell? ⟨w.heap.size, i, none⟩ = some v) ∧ (∀ (i : Nat) v, c2[i]? = some v → w'.cell? ⟨w.heap.size + 1, i, none⟩ = some v) := by
 constructor
 · intro i v hv
   rw [h.cell (by simp), World.cell?_alloc_past _ _ _ (by simp), World.cell?_alloc_at _ _ _ _ rfl]
   exact hv
 · intro i v hv
   rw [h.cell (by simp), World.cell?_alloc_at _ _ _ _ (by simp)]
   exact hv
theorem compareTicks_any (a b : Tk) (w : World) :
 Calls Tryz.prog 78 #[.agg #[.int .i64 a.process, .int .i64 a.n], .agg #[.int .i64 b.process, .int .i64 b.n]] w fun e w' => e = .returned (.int .i64 (tickC a b)) ∧ Below w.heap.size w w' := by
 obtain ⟨p, n⟩ := a
 obtain ⟨q, m⟩ := b
 show Calls Tryz.prog 78 #[.agg #[.int .i64 p, .int .i64 n], .agg #[.int .i64 q, .int .i64 m]] w _
 have HT : Hid (tickC ⟨p, n⟩ ⟨q, m⟩ = orI [cmpI p q, cmpI n m]) := hid rfl
 have HOR : Hid (∀ W N, W.heap[N]? = some (.cells #[.int .i64 (cmpI p q), .int .i64 (cmpI n m)] 3) →
  Calls Tryz.prog 41 #[.slice (some ⟨N, 0, none⟩) 2 2] W fun e w' => e = .returned (.int .i64 (tickC ⟨p, n⟩ ⟨q, m⟩)) ∧ w' = W) := hid fun W N h => orInt_any _ _ W (two_ints _ _ h)
 go_enter Tryz.func78, Tryz.ntmps78
 go_wp2_with fail
 have HS : Hid (∀ w', Below (w.heap.size + 2) ((w.alloc (.cells #[.int .i64 p, .int .i64 n] 99)).alloc (.cells #[.int .i64 q, .int .i64 m] 99)) w' → w'.cell? ⟨w.heap.size, 0, none⟩ = some (.int .i64 p) ∧ w'.cell? ⟨w.heap.size + 1, 0, none⟩ = some (.int .i64 q) ∧ w'.cell? ⟨w.heap.size, 1, none⟩ = some (.int .i64 n) ∧ w'.cell? ⟨w.heap.size + 1, 1, none⟩ = some (.int .i64 m)) :=
  hid fun w' h => by
    obtain ⟨e1, e2⟩ := two_boxes w #[.int .i64 p, .int .i64 n] #[.int .i64 q, .int .i64 m] 99 99 h
    exact ⟨e1 0 _ rfl, e2 0 _ rfl, e1 1 _ rfl, e2 1 _ rfl⟩
 have HB : Hid (∀ w', Below (w.heap.size + 2) ((w.alloc (.cells #[.int .i64 p, .int .i64 n] 99)).alloc (.cells #[.int .i64 q, .int .i64 m] 99)) w' → Below w.heap.size w w') := hid fun w' h => (((Below.refl _ _).alloc (Nat.le_refl _) _).alloc (by simp) _).trans (h.mono (by omega))
 have hsz : ((w.alloc (.cells #[.int .i64 p, .int .i64 n] 99)).alloc (.cells #[.int .i64 q, .int .i64 m] 99)).heap.size = w.heap.size + 2 := by simp
 generalize (w.alloc (.cells #[.int .i64 p, .int .i64 n] 99)).alloc (.cells #[.int .i64 q, .int .i64 m] 99) = W2 at HS HB hsz ⊢
 have HSZ := hid hsz
 clear hsz
 go_region_held3 (fun w' => w'.cell? ⟨w.heap.size, 0, none⟩ = some (.int .i64 p) ∧ w'.cell? ⟨w.heap.size + 1, 0, none⟩ = some (.int .i64 q) ∧ w'.cell? ⟨w.heap.size, 1, none⟩ = some (.int .i64 n) ∧ w'.cell? ⟨w.heap.size + 1, 1, none⟩ = some (.int .i64 m))
   (first
     | exact HS.out _ (Below.refl _ _).drew
     | exact HS.out _ ((Below.refl _ _).alloc (Nat.le_of_eq HSZ.out.symm) _).drew
     | exact HS.out _ ((Below.refl _ _).alloc (Nat.le_of_eq HSZ.out.symm) _)
     | skip)
   (first
     | (go_at_call 129
        refine (cmpi_any _ _ _).mono ?_
        rintro e w1 ⟨rfl, rfl⟩)
     | (go_at_call 42
        refine (cmp64_any _ _ _).mono ?_
        rintro e w1 ⟨rfl, rfl⟩)
     | (go_at_call 41
        refine (HOR.out _ _ ?_).mono ?_
        · exact heap_alloc_new W2 _
        rintro e w1 ⟨rfl, rfl⟩))
 go_wp2
 go_ret
 exact ⟨rfl, HB.out _ ((Below.refl _ _).alloc (Nat.le_of_eq HSZ.out.symm) _).drew⟩
theorem shape_kinds (k : Int) (n : Nat) : (kindI k n = some (0, false, false, false) ∧ (k = 1 ∨ k = 9)) ∨ (kindI k n = some (0, false, false, true) ∧ (k = 2 ∨ k = 3)) ∨
 (kindI k n = some (0, true, false, false) ∧ (k = 4 ∨ k = 8)) ∨ (kindI k n = some (1, true, false, false) ∧ k = 5) ∨ (kindI k n = some (2, false, false, false) ∧ k = 7) ∨
 (kindI k n = some (n, true, false, false) ∧ k = 6) ∨ (kindI k n = some (0, true, true, false) ∧ k = 10) ∨ (kindI k n = none ∧ ¬ (1 ≤ k ∧ k ≤ 10)) := by
 by_cases h1 : k = 1
 · subst h1; simp [kindI]
 by_cases h2 : k = 2
 · subst h2; simp [kindI]
 by_cases h3 : k = 3
 · subst h3; simp [kindI]
 by_cases h4 : k = 4
 · subst h4; simp [kindI]
 by_cases h5 : k = 5
 · subst h5; simp [kindI]
 by_cases h6 : k = 6
 · subst h6; simp [kindI]
 by_cases h7 : k = 7
 · subst h7; simp [kindI]
 by_cases h8 : k = 8
 · subst h8; simp [kindI]
 by_cases h9 : k = 9
 · subst h9; simp [kindI]
 by_cases h10 : k = 10
 · subst h10; simp [kindI]
 · simp [kindI, h1, h2, h3, h4, h5, h6, h7, h8, h9, h10]; omega
theorem shape_1 (lo hi' : Int) (ns : List ByteArray) (ps : List Lat) (rs : List Rl) (an ap ar : Option Addr) (cn cp cr : Nat) (w : World) (HB : Hid (∀ O, Below w.heap.size w (w.alloc O)))
 (hmn : ns.length ≤ 9223372036854775807) (hmp : ps.length ≤ 9223372036854775807) (hmr : rs.length ≤ 9223372036854775807) (hln : ns.length ≤ cn) (hlp : ps.length ≤ cp) (hlr : rs.length ≤ cr) :
 Calls Tryz.prog 107 #[.agg #[.int .i64 1, .int .i64 lo, .int .i64 hi', .slice an ns.length cn, .slice ap ps.length cp, .slice ar rs.length cr]] w fun e w' => e = .returned (.int .i64 (whenI (shapeB (.mk 1 lo hi' ns ps rs)) 1)) ∧ Below w.heap.size w w' := by
 by_cases hP : ps.length = 0
 · by_cases hN : ns.length = 0
   · by_cases hR : rs.length = 0
     · by_cases hL : lo = 0
       · by_cases hH : hi' = 0
         · have HC : Hid (shapeB (.mk 1 lo hi' ns ps rs) = false) := hid (by show shapeC 1 lo hi' ns.length ps.length rs.length = false; simp [kindI, shapeC, hP, hN, hR, hL, hH])
           go_enter Tryz.func107, Tryz.ntmps107
           go_wp2_with fail
           refine (when_any _ _ _).mono ?_
           rintro e w' ⟨rfl, rfl⟩
           go_wp2_with fail
           go_ret
           exact ⟨ret_int (by rw [HC.out]), HB.out _⟩
         · have HC : Hid (shapeB (.mk 1 lo hi' ns ps rs) = true) := hid (by show shapeC 1 lo hi' ns.length ps.length rs.length = true; simp [kindI, shapeC, hP, hN, hR, hL, hH])
           go_enter Tryz.func107, Tryz.ntmps107
           go_wp2_with fail
           refine (when_any _ _ _).mono ?_
           rintro e w' ⟨rfl, rfl⟩
           go_wp2_with fail
           go_ret
           exact ⟨ret_int (by rw [HC.out]), HB.out _⟩
       · have HC : Hid (shapeB (.mk 1 lo hi' ns ps rs) = true) := hid (by show shapeC 1 lo hi' ns.length ps.length rs.length = true; simp [kindI, shapeC, hP, hN, hR, hL])
         go_enter Tryz.func107, Tryz.ntmps107
         go_wp2_with fail
         refine (when_any _ _ _).mono ?_
         rintro e w' ⟨rfl, rfl⟩
         go_wp2_with fail
         go_ret
         exact ⟨ret_int (by rw [HC.out]), HB.out _⟩
     · have HC : Hid (shapeB (.mk 1 lo hi' ns ps rs) = true) := hid (by show shapeC 1 lo hi' ns.length ps.length rs.length = true; simp [kindI, shapeC, hP, hN, hR, Nat.pos_of_ne_zero hR])
       go_enter Tryz.func107, Tryz.ntmps107
       go_wp2_with fail
       refine (when_any _ _ _).mono ?_
       rintro e w' ⟨rfl, rfl⟩
       go_wp2_with fail
       go_ret
       exact ⟨ret_int (by rw [HC.out]), HB.out _⟩
   · have HC : Hid (shapeB (.mk 1 lo hi' ns ps rs) = true) := hid (by show shapeC 1 lo hi' ns.length ps.length rs.length = true; simp [kindI, shapeC, hP, hN, Nat.pos_of_ne_zero hN])
     go_enter Tryz.func107, Tryz.ntmps107
     go_wp2_with fail
     refine (when_any _ _ _).mono ?_
     rintro e w' ⟨rfl, rfl⟩
     go_wp2_with fail
     go_ret
     exact ⟨ret_int (by rw [HC.out]), HB.out _⟩
 · have HC : Hid (shapeB (.mk 1 lo hi' ns ps rs) = true) := hid (by show shapeC 1 lo hi' ns.length ps.length rs.length = true; simp [kindI, shapeC, hP])
   go_enter Tryz.func107, Tryz.ntmps107
   go_wp2_with fail
   refine (when_any _ _ _).mono ?_
   rintro e w' ⟨rfl, rfl⟩
   go_wp2_with fail
   go_ret
   exact ⟨ret_int (by rw [HC.out]), HB.out _⟩
theorem shape_9 (lo hi' : Int) (ns : List ByteArray) (ps : List Lat) (rs : List Rl) (an ap ar : Option Addr) (cn cp cr : Nat) (w : World) (HB : Hid (∀ O, Below w.heap.size w (w.alloc O)))
 (hmn : ns.length ≤ 9223372036854775807) (hmp : ps.length ≤ 9223372036854775807) (hmr : rs.length ≤ 9223372036854775807) (hln : ns.length ≤ cn) (hlp : ps.length ≤ cp) (hlr : rs.length ≤ cr) :
 Calls Tryz.prog 107 #[.agg #[.int .i64 9, .int .i64 lo, .int .i64 hi', .slice an ns.length cn, .slice ap ps.length cp, .slice ar rs.length cr]] w fun e w' => e = .returned (.int .i64 (whenI (shapeB (.mk 9 lo hi' ns ps rs)) 1)) ∧ Below w.heap.size w w' := by
 by_cases hP : ps.length = 0
 · by_cases hN : ns.length = 0
   · by_cases hR : rs.length = 0
     · by_cases hL : lo = 0
       · by_cases hH : hi' = 0
         · have HC : Hid (shapeB (.mk 9 lo hi' ns ps rs) = false) := hid (by show shapeC 9 lo hi' ns.length ps.length rs.length = false; simp [kindI, shapeC, hP, hN, hR, hL, hH])
           go_enter Tryz.func107, Tryz.ntmps107
           go_wp2_with fail
           refine (when_any _ _ _).mono ?_
           rintro e w' ⟨rfl, rfl⟩
           go_wp2_with fail
           go_ret
           exact ⟨ret_int (by rw [HC.out]), HB.out _⟩
         · have HC : Hid (shapeB (.mk 9 lo hi' ns ps rs) = true) := hid (by show shapeC 9 lo hi' ns.length ps.length rs.length = true; simp [kindI, shapeC, hP, hN, hR, hL, hH])
           go_enter Tryz.func107, Tryz.ntmps107
           go_wp2_with fail
           refine (when_any _ _ _).mono ?_
           rintro e w' ⟨rfl, rfl⟩
           go_wp2_with fail
           go_ret
           exact ⟨ret_int (by rw [HC.out]), HB.out _⟩
       · have HC : Hid (shapeB (.mk 9 lo hi' ns ps rs) = true) := hid (by show shapeC 9 lo hi' ns.length ps.length rs.length = true; simp [kindI, shapeC, hP, hN, hR, hL])
         go_enter Tryz.func107, Tryz.ntmps107
         go_wp2_with fail
         refine (when_any _ _ _).mono ?_
         rintro e w' ⟨rfl, rfl⟩
         go_wp2_with fail
         go_ret
         exact ⟨ret_int (by rw [HC.out]), HB.out _⟩
     · have HC : Hid (shapeB (.mk 9 lo hi' ns ps rs) = true) := hid (by show shapeC 9 lo hi' ns.length ps.length rs.length = true; simp [kindI, shapeC, hP, hN, hR, Nat.pos_of_ne_zero hR])
       go_enter Tryz.func107, Tryz.ntmps107
       go_wp2_with fail
       refine (when_any _ _ _).mono ?_
       rintro e w' ⟨rfl, rfl⟩
       go_wp2_with fail
       go_ret
       exact ⟨ret_int (by rw [HC.out]), HB.out _⟩
   · have HC : Hid (shapeB (.mk 9 lo hi' ns ps rs) = true) := hid (by show shapeC 9 lo hi' ns.length ps.length rs.length = true; simp [kindI, shapeC, hP, hN, Nat.pos_of_ne_zero hN])
     go_enter Tryz.func107, Tryz.ntmps107
     go_wp2_with fail
     refine (when_any _ _ _).mono ?_
     rintro e w' ⟨rfl, rfl⟩
     go_wp2_with fail
     go_ret
     exact ⟨ret_int (by rw [HC.out]), HB.out _⟩
 · have HC : Hid (shapeB (.mk 9 lo hi' ns ps rs) = true) := hid (by show shapeC 9 lo hi' ns.length ps.length rs.length = true; simp [kindI, shapeC, hP])
   go_enter Tryz.func107, Tryz.ntmps107
   go_wp2_with fail
   refine (when_any _ _ _).mono ?_
   rintro e w' ⟨rfl, rfl⟩
   go_wp2_with fail
   go_ret
   exact ⟨ret_int (by rw [HC.out]), HB.out _⟩
theorem shape_2 (lo hi' : Int) (ns : List ByteArray) (ps : List Lat) (rs : List Rl) (an ap ar : Option Addr) (cn cp cr : Nat) (w : World) (HB : Hid (∀ O, Below w.heap.size w (w.alloc O)))
 (hmn : ns.length ≤ 9223372036854775807) (hmp : ps.length ≤ 9223372036854775807) (hmr : rs.length ≤ 9223372036854775807) (hln : ns.length ≤ cn) (hlp : ps.length ≤ cp) (hlr : rs.length ≤ cr) :
 Calls Tryz.prog 107 #[.agg #[.int .i64 2, .int .i64 lo, .int .i64 hi', .slice an ns.length cn, .slice ap ps.length cp, .slice ar rs.length cr]] w fun e w' => e = .returned (.int .i64 (whenI (shapeB (.mk 2 lo hi' ns ps rs)) 1)) ∧ Below w.heap.size w w' := by
 by_cases hP : ps.length = 0
 · by_cases hN : ns.length = 0
   · by_cases hR : rs.length = 0
     · have HC : Hid (shapeB (.mk 2 lo hi' ns ps rs) = false) := hid (by show shapeC 2 lo hi' ns.length ps.length rs.length = false; simp [kindI, shapeC, hP, hN, hR])
       go_enter Tryz.func107, Tryz.ntmps107
       go_wp2_with fail
       refine (when_any _ _ _).mono ?_
       rintro e w' ⟨rfl, rfl⟩
       go_wp2_with fail
       go_ret
       exact ⟨ret_int (by rw [HC.out]), HB.out _⟩
     · have HC : Hid (shapeB (.mk 2 lo hi' ns ps rs) = true) := hid (by show shapeC 2 lo hi' ns.length ps.length rs.length = true; simp [kindI, shapeC, hP, hN, hR, Nat.pos_of_ne_zero hR])
       go_enter Tryz.func107, Tryz.ntmps107
       go_wp2_with fail
       refine (when_any _ _ _).mono ?_
       rintro e w' ⟨rfl, rfl⟩
       go_wp2_with fail
       go_ret
       exact ⟨ret_int (by rw [HC.out]), HB.out _⟩
   · have HC : Hid (shapeB (.mk 2 lo hi' ns ps rs) = true) := hid (by show shapeC 2 lo hi' ns.length ps.length rs.length = true; simp [kindI, shapeC, hP, hN, Nat.pos_of_ne_zero hN])
     go_enter Tryz.func107, Tryz.ntmps107
     go_wp2_with fail
     refine (when_any _ _ _).mono ?_
     rintro e w' ⟨rfl, rfl⟩
     go_wp2_with fail
     go_ret
     exact ⟨ret_int (by rw [HC.out]), HB.out _⟩
 · have HC : Hid (shapeB (.mk 2 lo hi' ns ps rs) = true) := hid (by show shapeC 2 lo hi' ns.length ps.length rs.length = true; simp [kindI, shapeC, hP])
   go_enter Tryz.func107, Tryz.ntmps107
   go_wp2_with fail
   refine (when_any _ _ _).mono ?_
   rintro e w' ⟨rfl, rfl⟩
   go_wp2_with fail
   go_ret
   exact ⟨ret_int (by rw [HC.out]), HB.out _⟩
theorem shape_3 (lo hi' : Int) (ns : List ByteArray) (ps : List Lat) (rs : List Rl) (an ap ar : Option Addr) (cn cp cr : Nat) (w : World) (HB : Hid (∀ O, Below w.heap.size w (w.alloc O)))
 (hmn : ns.length ≤ 9223372036854775807) (hmp : ps.length ≤ 9223372036854775807) (hmr : rs.length ≤ 9223372036854775807) (hln : ns.length ≤ cn) (hlp : ps.length ≤ cp) (hlr : rs.length ≤ cr) :
 Calls Tryz.prog 107 #[.agg #[.int .i64 3, .int .i64 lo, .int .i64 hi', .slice an ns.length cn, .slice ap ps.length cp, .slice ar rs.length cr]] w fun e w' => e = .returned (.int .i64 (whenI (shapeB (.mk 3 lo hi' ns ps rs)) 1)) ∧ Below w.heap.size w w' := by
 by_cases hP : ps.length = 0
 · by_cases hN : ns.length = 0
   · by_cases hR : rs.length = 0
     · have HC : Hid (shapeB (.mk 3 lo hi' ns ps rs) = false) := hid (by show shapeC 3 lo hi' ns.length ps.length rs.length = false; simp [kindI, shapeC, hP, hN, hR])
       go_enter Tryz.func107, Tryz.ntmps107
       go_wp2_with fail
       refine (when_any _ _ _).mono ?_
       rintro e w' ⟨rfl, rfl⟩
       go_wp2_with fail
       go_ret
       exact ⟨ret_int (by rw [HC.out]), HB.out _⟩
     · have HC : Hid (shapeB (.mk 3 lo hi' ns ps rs) = true) := hid (by show shapeC 3 lo hi' ns.length ps.length rs.length = true; simp [kindI, shapeC, hP, hN, hR, Nat.pos_of_ne_zero hR])
       go_enter Tryz.func107, Tryz.ntmps107
       go_wp2_with fail
       refine (when_any _ _ _).mono ?_
       rintro e w' ⟨rfl, rfl⟩
       go_wp2_with fail
       go_ret
       exact ⟨ret_int (by rw [HC.out]), HB.out _⟩
   · have HC : Hid (shapeB (.mk 3 lo hi' ns ps rs) = true) := hid (by show shapeC 3 lo hi' ns.length ps.length rs.length = true; simp [kindI, shapeC, hP, hN, Nat.pos_of_ne_zero hN])
     go_enter Tryz.func107, Tryz.ntmps107
     go_wp2_with fail
     refine (when_any _ _ _).mono ?_
     rintro e w' ⟨rfl, rfl⟩
     go_wp2_with fail
     go_ret
     exact ⟨ret_int (by rw [HC.out]), HB.out _⟩
 · have HC : Hid (shapeB (.mk 3 lo hi' ns ps rs) = true) := hid (by show shapeC 3 lo hi' ns.length ps.length rs.length = true; simp [kindI, shapeC, hP])
   go_enter Tryz.func107, Tryz.ntmps107
   go_wp2_with fail
   refine (when_any _ _ _).mono ?_
   rintro e w' ⟨rfl, rfl⟩
   go_wp2_with fail
   go_ret
   exact ⟨ret_int (by rw [HC.out]), HB.out _⟩
theorem shape_4 (lo hi' : Int) (ns : List ByteArray) (ps : List Lat) (rs : List Rl) (an ap ar : Option Addr) (cn cp cr : Nat) (w : World) (HB : Hid (∀ O, Below w.heap.size w (w.alloc O)))
 (hmn : ns.length ≤ 9223372036854775807) (hmp : ps.length ≤ 9223372036854775807) (hmr : rs.length ≤ 9223372036854775807) (hln : ns.length ≤ cn) (hlp : ps.length ≤ cp) (hlr : rs.length ≤ cr) :
 Calls Tryz.prog 107 #[.agg #[.int .i64 4, .int .i64 lo, .int .i64 hi', .slice an ns.length cn, .slice ap ps.length cp, .slice ar rs.length cr]] w fun e w' => e = .returned (.int .i64 (whenI (shapeB (.mk 4 lo hi' ns ps rs)) 1)) ∧ Below w.heap.size w w' := by
 by_cases hP : ps.length = 0
 · by_cases hR : rs.length = 0
   · by_cases hL : lo = 0
     · by_cases hH : hi' = 0
       · have HC : Hid (shapeB (.mk 4 lo hi' ns ps rs) = false) := hid (by show shapeC 4 lo hi' ns.length ps.length rs.length = false; simp [kindI, shapeC, hP, hR, hL, hH])
         go_enter Tryz.func107, Tryz.ntmps107
         go_wp2_with fail
         refine (when_any _ _ _).mono ?_
         rintro e w' ⟨rfl, rfl⟩
         go_wp2_with fail
         go_ret
         exact ⟨ret_int (by rw [HC.out]), HB.out _⟩
       · have HC : Hid (shapeB (.mk 4 lo hi' ns ps rs) = true) := hid (by show shapeC 4 lo hi' ns.length ps.length rs.length = true; simp [kindI, shapeC, hP, hR, hL, hH])
         go_enter Tryz.func107, Tryz.ntmps107
         go_wp2_with fail
         refine (when_any _ _ _).mono ?_
         rintro e w' ⟨rfl, rfl⟩
         go_wp2_with fail
         go_ret
         exact ⟨ret_int (by rw [HC.out]), HB.out _⟩
     · have HC : Hid (shapeB (.mk 4 lo hi' ns ps rs) = true) := hid (by show shapeC 4 lo hi' ns.length ps.length rs.length = true; simp [kindI, shapeC, hP, hR, hL])
       go_enter Tryz.func107, Tryz.ntmps107
       go_wp2_with fail
       refine (when_any _ _ _).mono ?_
       rintro e w' ⟨rfl, rfl⟩
       go_wp2_with fail
       go_ret
       exact ⟨ret_int (by rw [HC.out]), HB.out _⟩
   · have HC : Hid (shapeB (.mk 4 lo hi' ns ps rs) = true) := hid (by show shapeC 4 lo hi' ns.length ps.length rs.length = true; simp [kindI, shapeC, hP, hR, Nat.pos_of_ne_zero hR])
     go_enter Tryz.func107, Tryz.ntmps107
     go_wp2_with fail
     refine (when_any _ _ _).mono ?_
     rintro e w' ⟨rfl, rfl⟩
     go_wp2_with fail
     go_ret
     exact ⟨ret_int (by rw [HC.out]), HB.out _⟩
 · have HC : Hid (shapeB (.mk 4 lo hi' ns ps rs) = true) := hid (by show shapeC 4 lo hi' ns.length ps.length rs.length = true; simp [kindI, shapeC, hP])
   go_enter Tryz.func107, Tryz.ntmps107
   go_wp2_with fail
   refine (when_any _ _ _).mono ?_
   rintro e w' ⟨rfl, rfl⟩
   go_wp2_with fail
   go_ret
   exact ⟨ret_int (by rw [HC.out]), HB.out _⟩
theorem shape_8 (lo hi' : Int) (ns : List ByteArray) (ps : List Lat) (rs : List Rl) (an ap ar : Option Addr) (cn cp cr : Nat) (w : World) (HB : Hid (∀ O, Below w.heap.size w (w.alloc O)))
 (hmn : ns.length ≤ 9223372036854775807) (hmp : ps.length ≤ 9223372036854775807) (hmr : rs.length ≤ 9223372036854775807) (hln : ns.length ≤ cn) (hlp : ps.length ≤ cp) (hlr : rs.length ≤ cr) :
 Calls Tryz.prog 107 #[.agg #[.int .i64 8, .int .i64 lo, .int .i64 hi', .slice an ns.length cn, .slice ap ps.length cp, .slice ar rs.length cr]] w fun e w' => e = .returned (.int .i64 (whenI (shapeB (.mk 8 lo hi' ns ps rs)) 1)) ∧ Below w.heap.size w w' := by
 by_cases hP : ps.length = 0
 · by_cases hR : rs.length = 0
   · by_cases hL : lo = 0
     · by_cases hH : hi' = 0
       · have HC : Hid (shapeB (.mk 8 lo hi' ns ps rs) = false) := hid (by show shapeC 8 lo hi' ns.length ps.length rs.length = false; simp [kindI, shapeC, hP, hR, hL, hH])
         go_enter Tryz.func107, Tryz.ntmps107
         go_wp2_with fail
         refine (when_any _ _ _).mono ?_
         rintro e w' ⟨rfl, rfl⟩
         go_wp2_with fail
         go_ret
         exact ⟨ret_int (by rw [HC.out]), HB.out _⟩
       · have HC : Hid (shapeB (.mk 8 lo hi' ns ps rs) = true) := hid (by show shapeC 8 lo hi' ns.length ps.length rs.length = true; simp [kindI, shapeC, hP, hR, hL, hH])
         go_enter Tryz.func107, Tryz.ntmps107
         go_wp2_with fail
         refine (when_any _ _ _).mono ?_
         rintro e w' ⟨rfl, rfl⟩
         go_wp2_with fail
         go_ret
         exact ⟨ret_int (by rw [HC.out]), HB.out _⟩
     · have HC : Hid (shapeB (.mk 8 lo hi' ns ps rs) = true) := hid (by show shapeC 8 lo hi' ns.length ps.length rs.length = true; simp [kindI, shapeC, hP, hR, hL])
       go_enter Tryz.func107, Tryz.ntmps107
       go_wp2_with fail
       refine (when_any _ _ _).mono ?_
       rintro e w' ⟨rfl, rfl⟩
       go_wp2_with fail
       go_ret
       exact ⟨ret_int (by rw [HC.out]), HB.out _⟩
   · have HC : Hid (shapeB (.mk 8 lo hi' ns ps rs) = true) := hid (by show shapeC 8 lo hi' ns.length ps.length rs.length = true; simp [kindI, shapeC, hP, hR, Nat.pos_of_ne_zero hR])
     go_enter Tryz.func107, Tryz.ntmps107
     go_wp2_with fail
     refine (when_any _ _ _).mono ?_
     rintro e w' ⟨rfl, rfl⟩
     go_wp2_with fail
     go_ret
     exact ⟨ret_int (by rw [HC.out]), HB.out _⟩
 · have HC : Hid (shapeB (.mk 8 lo hi' ns ps rs) = true) := hid (by show shapeC 8 lo hi' ns.length ps.length rs.length = true; simp [kindI, shapeC, hP])
   go_enter Tryz.func107, Tryz.ntmps107
   go_wp2_with fail
   refine (when_any _ _ _).mono ?_
   rintro e w' ⟨rfl, rfl⟩
   go_wp2_with fail
   go_ret
   exact ⟨ret_int (by rw [HC.out]), HB.out _⟩
theorem shape_5 (lo hi' : Int) (ns : List ByteArray) (ps : List Lat) (rs : List Rl) (an ap ar : Option Addr) (cn cp cr : Nat) (w : World) (HB : Hid (∀ O, Below w.heap.size w (w.alloc O)))
 (hmn : ns.length ≤ 9223372036854775807) (hmp : ps.length ≤ 9223372036854775807) (hmr : rs.length ≤ 9223372036854775807) (hln : ns.length ≤ cn) (hlp : ps.length ≤ cp) (hlr : rs.length ≤ cr) :
 Calls Tryz.prog 107 #[.agg #[.int .i64 5, .int .i64 lo, .int .i64 hi', .slice an ns.length cn, .slice ap ps.length cp, .slice ar rs.length cr]] w fun e w' => e = .returned (.int .i64 (whenI (shapeB (.mk 5 lo hi' ns ps rs)) 1)) ∧ Below w.heap.size w w' := by
 by_cases hP : ps.length = 1
 · by_cases hR : rs.length = 0
   · by_cases hL : lo = 0
     · by_cases hH : hi' = 0
       · have HC : Hid (shapeB (.mk 5 lo hi' ns ps rs) = false) := hid (by show shapeC 5 lo hi' ns.length ps.length rs.length = false; simp [kindI, shapeC, hP, hR, hL, hH])
         go_enter Tryz.func107, Tryz.ntmps107
         go_wp2_with fail
         refine (when_any _ _ _).mono ?_
         rintro e w' ⟨rfl, rfl⟩
         go_wp2_with fail
         go_ret
         exact ⟨ret_int (by rw [HC.out]), HB.out _⟩
       · have HC : Hid (shapeB (.mk 5 lo hi' ns ps rs) = true) := hid (by show shapeC 5 lo hi' ns.length ps.length rs.length = true; simp [kindI, shapeC, hP, hR, hL, hH])
         go_enter Tryz.func107, Tryz.ntmps107
         go_wp2_with fail
         refine (when_any _ _ _).mono ?_
         rintro e w' ⟨rfl, rfl⟩
         go_wp2_with fail
         go_ret
         exact ⟨ret_int (by rw [HC.out]), HB.out _⟩
     · have HC : Hid (shapeB (.mk 5 lo hi' ns ps rs) = true) := hid (by show shapeC 5 lo hi' ns.length ps.length rs.length = true; simp [kindI, shapeC, hP, hR, hL])
       go_enter Tryz.func107, Tryz.ntmps107
       go_wp2_with fail
       refine (when_any _ _ _).mono ?_
       rintro e w' ⟨rfl, rfl⟩
       go_wp2_with fail
       go_ret
       exact ⟨ret_int (by rw [HC.out]), HB.out _⟩
   · have HC : Hid (shapeB (.mk 5 lo hi' ns ps rs) = true) := hid (by show shapeC 5 lo hi' ns.length ps.length rs.length = true; simp [kindI, shapeC, hP, hR, Nat.pos_of_ne_zero hR])
     go_enter Tryz.func107, Tryz.ntmps107
     go_wp2_with fail
     refine (when_any _ _ _).mono ?_
     rintro e w' ⟨rfl, rfl⟩
     go_wp2_with fail
     go_ret
     exact ⟨ret_int (by rw [HC.out]), HB.out _⟩
 · have HC : Hid (shapeB (.mk 5 lo hi' ns ps rs) = true) := hid (by show shapeC 5 lo hi' ns.length ps.length rs.length = true; simp [kindI, shapeC, hP])
   go_enter Tryz.func107, Tryz.ntmps107
   go_wp2_with fail
   refine (when_any _ _ _).mono ?_
   rintro e w' ⟨rfl, rfl⟩
   go_wp2_with fail
   go_ret
   exact ⟨ret_int (by rw [HC.out]), HB.out _⟩
theorem shape_7 (lo hi' : Int) (ns : List ByteArray) (ps : List Lat) (rs : List Rl) (an ap ar : Option Addr) (cn cp cr : Nat) (w : World) (HB : Hid (∀ O, Below w.heap.size w (w.alloc O)))
 (hmn : ns.length ≤ 9223372036854775807) (hmp : ps.length ≤ 9223372036854775807) (hmr : rs.length ≤ 9223372036854775807) (hln : ns.length ≤ cn) (hlp : ps.length ≤ cp) (hlr : rs.length ≤ cr) :
 Calls Tryz.prog 107 #[.agg #[.int .i64 7, .int .i64 lo, .int .i64 hi', .slice an ns.length cn, .slice ap ps.length cp, .slice ar rs.length cr]] w fun e w' => e = .returned (.int .i64 (whenI (shapeB (.mk 7 lo hi' ns ps rs)) 1)) ∧ Below w.heap.size w w' := by
 by_cases hP : ps.length = 2
 · by_cases hN : ns.length = 0
   · by_cases hR : rs.length = 0
     · by_cases hL : lo = 0
       · by_cases hH : hi' = 0
         · have HC : Hid (shapeB (.mk 7 lo hi' ns ps rs) = false) := hid (by show shapeC 7 lo hi' ns.length ps.length rs.length = false; simp [kindI, shapeC, hP, hN, hR, hL, hH])
           go_enter Tryz.func107, Tryz.ntmps107
           go_wp2_with fail
           refine (when_any _ _ _).mono ?_
           rintro e w' ⟨rfl, rfl⟩
           go_wp2_with fail
           go_ret
           exact ⟨ret_int (by rw [HC.out]), HB.out _⟩
         · have HC : Hid (shapeB (.mk 7 lo hi' ns ps rs) = true) := hid (by show shapeC 7 lo hi' ns.length ps.length rs.length = true; simp [kindI, shapeC, hP, hN, hR, hL, hH])
           go_enter Tryz.func107, Tryz.ntmps107
           go_wp2_with fail
           refine (when_any _ _ _).mono ?_
           rintro e w' ⟨rfl, rfl⟩
           go_wp2_with fail
           go_ret
           exact ⟨ret_int (by rw [HC.out]), HB.out _⟩
       · have HC : Hid (shapeB (.mk 7 lo hi' ns ps rs) = true) := hid (by show shapeC 7 lo hi' ns.length ps.length rs.length = true; simp [kindI, shapeC, hP, hN, hR, hL])
         go_enter Tryz.func107, Tryz.ntmps107
         go_wp2_with fail
         refine (when_any _ _ _).mono ?_
         rintro e w' ⟨rfl, rfl⟩
         go_wp2_with fail
         go_ret
         exact ⟨ret_int (by rw [HC.out]), HB.out _⟩
     · have HC : Hid (shapeB (.mk 7 lo hi' ns ps rs) = true) := hid (by show shapeC 7 lo hi' ns.length ps.length rs.length = true; simp [kindI, shapeC, hP, hN, hR, Nat.pos_of_ne_zero hR])
       go_enter Tryz.func107, Tryz.ntmps107
       go_wp2_with fail
       refine (when_any _ _ _).mono ?_
       rintro e w' ⟨rfl, rfl⟩
       go_wp2_with fail
       go_ret
       exact ⟨ret_int (by rw [HC.out]), HB.out _⟩
   · have HC : Hid (shapeB (.mk 7 lo hi' ns ps rs) = true) := hid (by show shapeC 7 lo hi' ns.length ps.length rs.length = true; simp [kindI, shapeC, hP, hN, Nat.pos_of_ne_zero hN])
     go_enter Tryz.func107, Tryz.ntmps107
     go_wp2_with fail
     refine (when_any _ _ _).mono ?_
     rintro e w' ⟨rfl, rfl⟩
     go_wp2_with fail
     go_ret
     exact ⟨ret_int (by rw [HC.out]), HB.out _⟩
 · have HC : Hid (shapeB (.mk 7 lo hi' ns ps rs) = true) := hid (by show shapeC 7 lo hi' ns.length ps.length rs.length = true; simp [kindI, shapeC, hP])
   go_enter Tryz.func107, Tryz.ntmps107
   go_wp2_with fail
   refine (when_any _ _ _).mono ?_
   rintro e w' ⟨rfl, rfl⟩
   go_wp2_with fail
   go_ret
   exact ⟨ret_int (by rw [HC.out]), HB.out _⟩
theorem shape_6 (lo hi' : Int) (ns : List ByteArray) (ps : List Lat) (rs : List Rl) (an ap ar : Option Addr) (cn cp cr : Nat) (w : World) (HB : Hid (∀ O, Below w.heap.size w (w.alloc O)))
 (hmn : ns.length ≤ 9223372036854775807) (hmp : ps.length ≤ 9223372036854775807) (hmr : rs.length ≤ 9223372036854775807) (hln : ns.length ≤ cn) (hlp : ps.length ≤ cp) (hlr : rs.length ≤ cr) :
 Calls Tryz.prog 107 #[.agg #[.int .i64 6, .int .i64 lo, .int .i64 hi', .slice an ns.length cn, .slice ap ps.length cp, .slice ar rs.length cr]] w fun e w' => e = .returned (.int .i64 (whenI (shapeB (.mk 6 lo hi' ns ps rs)) 1)) ∧ Below w.heap.size w w' := by
 by_cases e0 : ns.length = 0
 · by_cases hP : ps.length = 0
   · by_cases hR : rs.length = 0
     · by_cases hL : lo = 0
       · by_cases hH : hi' = 0
         · have HC : Hid (shapeB (.mk 6 lo hi' ns ps rs) = true) := hid (by show shapeC 6 lo hi' ns.length ps.length rs.length = true; simp [kindI, shapeC, e0, hP, hR, hL, hH])
           go_enter Tryz.func107, Tryz.ntmps107
           go_wp2
           go_quiet (fail)
           go_wp2_with fail
           refine (when_any _ _ _).mono ?_
           rintro e w' ⟨rfl, rfl⟩
           go_wp2_with fail
           go_ret
           exact ⟨ret_int (by rw [HC.out]), below_drewN' (HB.out _) _⟩
         · have HC : Hid (shapeB (.mk 6 lo hi' ns ps rs) = true) := hid (by show shapeC 6 lo hi' ns.length ps.length rs.length = true; simp [kindI, shapeC, e0, hP, hR, hL, hH])
           go_enter Tryz.func107, Tryz.ntmps107
           go_wp2
           go_quiet (fail)
           go_wp2_with fail
           refine (when_any _ _ _).mono ?_
           rintro e w' ⟨rfl, rfl⟩
           go_wp2_with fail
           go_ret
           exact ⟨ret_int (by rw [HC.out]), below_drewN' (HB.out _) _⟩
       · have HC : Hid (shapeB (.mk 6 lo hi' ns ps rs) = true) := hid (by show shapeC 6 lo hi' ns.length ps.length rs.length = true; simp [kindI, shapeC, e0, hP, hR, hL])
         go_enter Tryz.func107, Tryz.ntmps107
         go_wp2
         go_quiet (fail)
         go_wp2_with fail
         refine (when_any _ _ _).mono ?_
         rintro e w' ⟨rfl, rfl⟩
         go_wp2_with fail
         go_ret
         exact ⟨ret_int (by rw [HC.out]), below_drewN' (HB.out _) _⟩
     · have HC : Hid (shapeB (.mk 6 lo hi' ns ps rs) = true) := hid (by show shapeC 6 lo hi' ns.length ps.length rs.length = true; simp [kindI, shapeC, e0, hP, hR, Nat.pos_of_ne_zero hR])
       go_enter Tryz.func107, Tryz.ntmps107
       go_wp2
       go_quiet (fail)
       go_wp2_with fail
       refine (when_any _ _ _).mono ?_
       rintro e w' ⟨rfl, rfl⟩
       go_wp2_with fail
       go_ret
       exact ⟨ret_int (by rw [HC.out]), below_drewN' (HB.out _) _⟩
   · have HC : Hid (shapeB (.mk 6 lo hi' ns ps rs) = true) := hid (by show shapeC 6 lo hi' ns.length ps.length rs.length = true; simp [kindI, shapeC, e0, hP])
     go_enter Tryz.func107, Tryz.ntmps107
     go_wp2
     go_quiet (fail)
     go_wp2_with fail
     refine (when_any _ _ _).mono ?_
     rintro e w' ⟨rfl, rfl⟩
     go_wp2_with fail
     go_ret
     exact ⟨ret_int (by rw [HC.out]), below_drewN' (HB.out _) _⟩
 · have e1 : 0 < ns.length := by omega
   have hn0 : ((ns.length : Int) == 0) = false := by simp; exact List.ne_nil_of_length_pos e1
   by_cases hP : ps.length = ns.length
   · by_cases hR : rs.length = 0
     · by_cases hL : lo = 0
       · by_cases hH : hi' = 0
         · have HC : Hid (shapeB (.mk 6 lo hi' ns ps rs) = false) := hid (by show shapeC 6 lo hi' ns.length ps.length rs.length = false; simp [kindI, shapeC, e1, List.ne_nil_of_length_pos e1, hP, hR, hL, hH])
           go_enter Tryz.func107, Tryz.ntmps107
           go_wp2
           go_quiet (fail)
           go_wp2_with fail
           refine (when_any _ _ _).mono ?_
           rintro e w' ⟨rfl, rfl⟩
           go_wp2_with fail
           go_ret
           exact ⟨ret_int (by rw [HC.out]), below_drewN' (HB.out _) _⟩
         · have HC : Hid (shapeB (.mk 6 lo hi' ns ps rs) = true) := hid (by show shapeC 6 lo hi' ns.length ps.length rs.length = true; simp [kindI, shapeC, e1, List.ne_nil_of_length_pos e1, hP, hR, hL, hH])
           go_enter Tryz.func107, Tryz.ntmps107
           go_wp2
           go_quiet (fail)
           go_wp2_with fail
           refine (when_any _ _ _).mono ?_
           rintro e w' ⟨rfl, rfl⟩
           go_wp2_with fail
           go_ret
           exact ⟨ret_int (by rw [HC.out]), below_drewN' (HB.out _) _⟩
       · have HC : Hid (shapeB (.mk 6 lo hi' ns ps rs) = true) := hid (by show shapeC 6 lo hi' ns.length ps.length rs.length = true; simp [kindI, shapeC, e1, List.ne_nil_of_length_pos e1, hP, hR, hL])
         go_enter Tryz.func107, Tryz.ntmps107
         go_wp2
         go_quiet (fail)
         go_wp2_with fail
         refine (when_any _ _ _).mono ?_
         rintro e w' ⟨rfl, rfl⟩
         go_wp2_with fail
         go_ret
         exact ⟨ret_int (by rw [HC.out]), below_drewN' (HB.out _) _⟩
     · have HC : Hid (shapeB (.mk 6 lo hi' ns ps rs) = true) := hid (by show shapeC 6 lo hi' ns.length ps.length rs.length = true; simp [kindI, shapeC, e1, List.ne_nil_of_length_pos e1, hP, hR, Nat.pos_of_ne_zero hR])
       go_enter Tryz.func107, Tryz.ntmps107
       go_wp2
       go_quiet (fail)
       go_wp2_with fail
       refine (when_any _ _ _).mono ?_
       rintro e w' ⟨rfl, rfl⟩
       go_wp2_with fail
       go_ret
       exact ⟨ret_int (by rw [HC.out]), below_drewN' (HB.out _) _⟩
   · have HC : Hid (shapeB (.mk 6 lo hi' ns ps rs) = true) := hid (by show shapeC 6 lo hi' ns.length ps.length rs.length = true; simp [kindI, shapeC, e1, List.ne_nil_of_length_pos e1, hP])
     go_enter Tryz.func107, Tryz.ntmps107
     go_wp2
     go_quiet (fail)
     go_wp2_with fail
     refine (when_any _ _ _).mono ?_
     rintro e w' ⟨rfl, rfl⟩
     go_wp2_with fail
     go_ret
     exact ⟨ret_int (by rw [HC.out]), below_drewN' (HB.out _) _⟩
theorem shape_10 (lo hi' : Int) (ns : List ByteArray) (ps : List Lat) (rs : List Rl) (an ap ar : Option Addr) (cn cp cr : Nat) (w : World) (HB : Hid (∀ O, Below w.heap.size w (w.alloc O)))
 (hmn : ns.length ≤ 9223372036854775807) (hmp : ps.length ≤ 9223372036854775807) (hmr : rs.length ≤ 9223372036854775807) (hln : ns.length ≤ cn) (hlp : ps.length ≤ cp) (hlr : rs.length ≤ cr) :
 Calls Tryz.prog 107 #[.agg #[.int .i64 10, .int .i64 lo, .int .i64 hi', .slice an ns.length cn, .slice ap ps.length cp, .slice ar rs.length cr]] w fun e w' => e = .returned (.int .i64 (whenI (shapeB (.mk 10 lo hi' ns ps rs)) 1)) ∧ Below w.heap.size w w' := by
 by_cases e0 : ns.length = 0
 · by_cases hP : ps.length = 0
   · by_cases hL : lo = 0
     · by_cases hH : hi' = 0
       · have HC : Hid (shapeB (.mk 10 lo hi' ns ps rs) = true) := hid (by show shapeC 10 lo hi' ns.length ps.length rs.length = true; simp [kindI, shapeC, e0, hP, hL, hH])
         go_enter Tryz.func107, Tryz.ntmps107
         go_wp2_with fail
         refine (when_any _ _ _).mono ?_
         rintro e w' ⟨rfl, rfl⟩
         go_wp2_with fail
         go_ret
         exact ⟨ret_int (by rw [HC.out]), HB.out _⟩
       · have HC : Hid (shapeB (.mk 10 lo hi' ns ps rs) = true) := hid (by show shapeC 10 lo hi' ns.length ps.length rs.length = true; simp [kindI, shapeC, e0, hP, hL, hH])
         go_enter Tryz.func107, Tryz.ntmps107
         go_wp2_with fail
         refine (when_any _ _ _).mono ?_
         rintro e w' ⟨rfl, rfl⟩
         go_wp2_with fail
         go_ret
         exact ⟨ret_int (by rw [HC.out]), HB.out _⟩
     · have HC : Hid (shapeB (.mk 10 lo hi' ns ps rs) = true) := hid (by show shapeC 10 lo hi' ns.length ps.length rs.length = true; simp [kindI, shapeC, e0, hP, hL])
       go_enter Tryz.func107, Tryz.ntmps107
       go_wp2_with fail
       refine (when_any _ _ _).mono ?_
       rintro e w' ⟨rfl, rfl⟩
       go_wp2_with fail
       go_ret
       exact ⟨ret_int (by rw [HC.out]), HB.out _⟩
   · have HC : Hid (shapeB (.mk 10 lo hi' ns ps rs) = true) := hid (by show shapeC 10 lo hi' ns.length ps.length rs.length = true; simp [kindI, shapeC, e0, hP])
     go_enter Tryz.func107, Tryz.ntmps107
     go_wp2_with fail
     refine (when_any _ _ _).mono ?_
     rintro e w' ⟨rfl, rfl⟩
     go_wp2_with fail
     go_ret
     exact ⟨ret_int (by rw [HC.out]), HB.out _⟩
 · have e1 : 0 < ns.length := by omega
   have hn0 : ((ns.length : Int) == 0) = false := by simp; exact List.ne_nil_of_length_pos e1
   by_cases hP : ps.length = 0
   · by_cases hL : lo = 0
     · by_cases hH : hi' = 0
       · have HC : Hid (shapeB (.mk 10 lo hi' ns ps rs) = false) := hid (by show shapeC 10 lo hi' ns.length ps.length rs.length = false; simp [kindI, shapeC, e1, List.ne_nil_of_length_pos e1, hP, hL, hH])
         go_enter Tryz.func107, Tryz.ntmps107
         go_wp2_with fail
         refine (when_any _ _ _).mono ?_
         rintro e w' ⟨rfl, rfl⟩
         go_wp2_with fail
         go_ret
         exact ⟨ret_int (by rw [HC.out]), HB.out _⟩
       · have HC : Hid (shapeB (.mk 10 lo hi' ns ps rs) = true) := hid (by show shapeC 10 lo hi' ns.length ps.length rs.length = true; simp [kindI, shapeC, e1, List.ne_nil_of_length_pos e1, hP, hL, hH])
         go_enter Tryz.func107, Tryz.ntmps107
         go_wp2_with fail
         refine (when_any _ _ _).mono ?_
         rintro e w' ⟨rfl, rfl⟩
         go_wp2_with fail
         go_ret
         exact ⟨ret_int (by rw [HC.out]), HB.out _⟩
     · have HC : Hid (shapeB (.mk 10 lo hi' ns ps rs) = true) := hid (by show shapeC 10 lo hi' ns.length ps.length rs.length = true; simp [kindI, shapeC, e1, List.ne_nil_of_length_pos e1, hP, hL])
       go_enter Tryz.func107, Tryz.ntmps107
       go_wp2_with fail
       refine (when_any _ _ _).mono ?_
       rintro e w' ⟨rfl, rfl⟩
       go_wp2_with fail
       go_ret
       exact ⟨ret_int (by rw [HC.out]), HB.out _⟩
   · have HC : Hid (shapeB (.mk 10 lo hi' ns ps rs) = true) := hid (by show shapeC 10 lo hi' ns.length ps.length rs.length = true; simp [kindI, shapeC, e1, List.ne_nil_of_length_pos e1, hP])
     go_enter Tryz.func107, Tryz.ntmps107
     go_wp2_with fail
     refine (when_any _ _ _).mono ?_
     rintro e w' ⟨rfl, rfl⟩
     go_wp2_with fail
     go_ret
     exact ⟨ret_int (by rw [HC.out]), HB.out _⟩
def nmGo (p : Bool) (full : List ByteArray) : Nat → List ByteArray → Bool
 | _, [] => true
 | k, s :: t => nameB s && !(p && hasS (full.take k) s) && nmGo p full (k + 1) t
def ruleB (ns : List ByteArray) (r : Rl) : Bool := decide (r.cond.length ≠ 0) && sortedB r.cond && subsetS r.cond ns && hasS ns r.concl
def rulesB (ns : List ByteArray) (rs : List Rl) : Bool := rs.all (ruleB ns)
def spellB (l : Lat) : Bool := !(nmGo (l.kind == 6) l.names 0 l.names && (l.kind == 6 || sortedB l.names) && rulesB l.names l.rules)
theorem nmGo_step (p : Bool) (full : List ByteArray) (k : Nat) (h : k < full.length) : nmGo p full k (full.drop k) = (nameB full[k] && !(p && hasS (full.take k) full[k]) && nmGo p full (k + 1) (full.drop (k + 1))) := by
 rw [drop_consS full k h, nmGo]
theorem rulesB_step (ns : List ByteArray) (rs : List Rl) (k : Nat) (h : k < rs.length) : rulesB ns (rs.drop k) = (ruleB ns rs[k] && rulesB ns (rs.drop (k + 1))) := by
 rw [drop_consS rs k h]; unfold rulesB; rw [List.all_cons]
theorem SlRd.at {α : Type} {w : World} {sz : Nat} {R : α → List Value → Prop} {a : Option Addr} {n cap : Nat} {l : List α} (h : SlRd w sz R (.slice a n cap) l) (i : Nat) (hi : i < l.length) :
 ∃ b o cs, a = some ⟨b, o, none⟩ ∧ cs.length = sz ∧ CellsAt w b (o + i * sz) cs ∧ R l[i] cs := by
 obtain ⟨a', cap', hv, hn, hm, hc⟩ := h
 cases hv
 exact hc i hi
theorem Strs.take {w : World} {a : Option Addr} {n cap : Nat} {l : List ByteArray} (h : Strs w (.slice a n cap) l) (k : Nat) (hk : k ≤ l.length) : Strs w (.slice a k cap) (l.take k) := by
 obtain ⟨a', cap', hv, hn, hm, hc⟩ := h
 cases hv
 refine ⟨a, cap, by rw [List.length_take, Nat.min_eq_left hk], ⟨hn.1, by rw [List.length_take]; omega⟩, hm, fun i hi => ?_⟩
 rw [List.length_take] at hi
 obtain ⟨b, o, cs, ha, hl, hcs, hr⟩ := hc i (by omega)
 refine ⟨b, o, cs, ha, hl, hcs, ?_⟩
 rw [List.getElem_take]
 exact hr
theorem spelling_any (l : Lat) (cs : List Value) (w : World) (hl : latRd w l cs) :
 Calls Tryz.prog 110 #[.agg cs.toArray] w fun e w' => e = .returned (.int .i64 (whenI (spellB l) 3)) ∧ Below w.heap.size w w' := by
 obtain ⟨vn, vp, vr, rfl, hi, hns, hps, hrs⟩ := (latRd_iff _ _ _).1 hl
 obtain ⟨k, lo, hi', ns, ps, rs⟩ := l
 simp only [Lat.kind, Lat.lo, Lat.hi, Lat.names, Lat.parts, Lat.rules] at hi hns hps hrs ⊢
 obtain ⟨an, cn, rfl, hln, hmn⟩ := hns.shape
 obtain ⟨ar, cr, rfl, hlr, hmr⟩ := hrs.shape
 have HB : Hid (∀ O, Below w.heap.size w (w.alloc O)) := hid fun O => (Below.refl _ _).alloc (Nat.le_refl _) O
 have HN := hid hns
 have HR := hid hrs
 have hk6 : (k = 6) ∨ ((k == 6) = false) := by by_cases h : k = 6 <;> simp [h]
 have HS : Hid (spellB (.mk k lo hi' ns ps rs) = !(nmGo (k == 6) ns 0 ns && (k == 6 || sortedB ns) && rulesB ns rs)) := hid rfl
 clear hl hi hns hps hrs
 rcases hk6 with rfl | hk6
 · go_enter Tryz.func110, Tryz.ntmps110
   go_wp2
   go_loop [10] (fun i => ∃ (j : Nat), j ≤ ns.length ∧ i = .int .i64 j ∧ Hid (nmGo true ns 0 ns = nmGo true ns j (ns.drop j))) (fun i => ns.length - (intOf i).toNat)
   case atStart => exact ⟨0, Nat.zero_le _, rfl, hid (by simp)⟩
   case round =>
    obtain ⟨j, hj, rfl, He⟩ := hrel
    by_cases hlt : j < ns.length
    · obtain ⟨b, o, rfl, hcell, hsz⟩ := HN.out.cell j hlt
      have hcell := cell_alloc hcell
      have HD : Hid (nmGo true ns 0 ns = (nameB ns[j] && !(hasS (ns.take j) ns[j]) && nmGo true ns (j + 1) (ns.drop (j + 1)))) := hid (by rw [He.out, nmGo_step _ _ _ hlt, Bool.true_and])
      cases hc : nameB ns[j]
      all_goals
       have HC := hid hc
       clear hc
       go_wp2_with fail
       refine (nameValid_any _ _ hsz).mono ?_
       rintro e w' ⟨rfl, rfl⟩
       rw [HC.out]
      · go_wp2
        go_ret
        exact ⟨ret_int (by rw [HS.out, show (6 == (6 : Int)) = true from rfl, HD.out, HC.out]; rfl), HB.out _⟩
      · go_wp2_with fail
        refine (contains_any _ (ns.take j) ns[j] _ ((HN.out.below (HB.out _)).take j (by omega))).mono ?_
        rintro e w' ⟨rfl, rfl⟩
        cases hs : hasS (ns.take j) ns[j]
        · have HD2 : Hid (nmGo true ns 0 ns = nmGo true ns (j + 1) (ns.drop (j + 1))) := hid (by rw [HD.out, HC.out, hs]; rfl)
          clear hs
          go_wp2
          go_round
          case rel => exact ⟨j + 1, by omega, by go_num, HD2⟩
          case measure => simp [intOf]; omega
        · have HD2 : Hid (nmGo true ns 0 ns = false) := hid (by rw [HD.out, HC.out, hs]; rfl)
          clear hs
          go_wp2
          go_ret
          exact ⟨ret_int (by rw [HS.out, show (6 == (6 : Int)) = true from rfl, HD2.out]; rfl), HB.out _⟩
    · have HF : Hid (spellB (.mk 6 lo hi' ns ps rs) = !rulesB ns rs) := hid (by rw [HS.out]; show (!(nmGo true ns 0 ns && (true || sortedB ns) && _)) = _; rw [He.out, List.drop_eq_nil_of_le (by omega)]; rfl)
      clear He
      go_wp2
      go_loopw [44] (fun i wr => ∃ (j : Nat), j ≤ rs.length ∧ i = .int .i64 j ∧ Hid (rulesB ns rs = rulesB ns (rs.drop j)) ∧ Hid (Below (w.heap.size + 1) (w.alloc (.cells #[.int .i64 6, .int .i64 lo, .int .i64 hi', .slice an ns.length cn, vp, .slice ar rs.length cr] 26)) wr)) (fun i _ => rs.length - (intOf i).toNat)
      case atStart => exact ⟨0, Nat.zero_le _, rfl, hid (by simp), hid (Below.refl _ _)⟩
      case round =>
       obtain ⟨j, hj, rfl, He, HW⟩ := hrel
       by_cases hlt : j < rs.length
       · obtain ⟨b, o, cs, ha, hl0, hcs, vc, hcv, hcond, hconcl⟩ := HR.out.at j hlt
         subst ha
         subst hcv
         have hb0 := hid ((HB.out _).trans (HW.out.mono (Nat.le_succ _)))
         have c0 : wr.cell? ⟨b, o + j * 2, none⟩ = some vc := (hcs.below hb0.out) 0 (by simp)
         have c1 : wr.cell? ⟨b, o + j * 2 + 1, none⟩ = some (.string rs[j].concl) := (hcs.below hb0.out) 1 (by simp)
         have hbox : wr.cell? ⟨w.heap.size, 3, none⟩ = some (.slice an ns.length cn) := (HW.out.cell (by simp)).trans (by rw [World.cell?_alloc_at _ _ _ _ rfl]; rfl)
         have HC0 := hid (hcond.below hb0.out)
         obtain ⟨ac, cc, rfl, hlc, hmc⟩ := hcond.shape
         clear hcond hcs
         have HD : Hid (rulesB ns rs = ((decide (rs[j].cond.length ≠ 0) && sortedB rs[j].cond && subsetS rs[j].cond ns && hasS ns rs[j].concl) && rulesB ns (rs.drop (j + 1)))) := hid (by rw [He.out, rulesB_step _ _ _ hlt]; rfl)
         by_cases h0 : rs[j].cond.length = 0
         · have HX : Hid (rulesB ns rs = false) := hid (by rw [HD.out, decide_eq_false (show ¬ (rs[j].cond.length ≠ 0) by omega)]; rfl)
           go_wp2_with fail
           go_ret
           exact ⟨ret_int (by rw [HF.out, HX.out]; rfl), hb0.out.alloc hb0.out.size _⟩
         · have hne : ((rs[j].cond.length : Int) == 0) = false := by simp; exact fun h => h0 (by rw [h]; rfl)
           have HD1 : Hid (rulesB ns rs = ((sortedB rs[j].cond && subsetS rs[j].cond ns && hasS ns rs[j].concl) && rulesB ns (rs.drop (j + 1)))) := hid (by rw [HD.out, decide_eq_true (show (rs[j].cond.length ≠ 0) by omega), Bool.true_and])
           clear h0
           go_wp2_with fail
           refine (sorted_any _ rs[j].cond _ (HC0.out.below ((Below.refl _ _).alloc (Nat.le_refl _) _))).mono ?_
           rintro e w2 ⟨rfl, n2, hw2⟩
           have HB2 : Hid (Below (wr.heap.size + 1) (wr.alloc (.cells #[.slice ac rs[j].cond.length cc, .string rs[j].concl] 131)) w2) := hid (by rw [hw2]; exact below_drewN' (Below.refl _ _) _)
           clear hw2
           have HB02 := hid (((Below.refl wr.heap.size wr).alloc (Nat.le_refl _) _).trans (HB2.out.mono (Nat.le_succ _)))
           have HB03 := hid (hb0.out.trans (HB02.out.mono hb0.out.size))
           have hbox2 : w2.cell? ⟨w.heap.size, 3, none⟩ = some (.slice an ns.length cn) := (HB02.out.cell (World.block_lt_of_cell? wr _ hbox)).trans hbox
           have r0 : w2.cell? ⟨wr.heap.size, 0, none⟩ = some (.slice ac rs[j].cond.length cc) := (HB2.out.cell (by simp)).trans (by rw [World.cell?_alloc_at _ _ _ _ rfl]; rfl)
           have r1 : w2.cell? ⟨wr.heap.size, 1, none⟩ = some (.string rs[j].concl) := (HB2.out.cell (by simp)).trans (by rw [World.cell?_alloc_at _ _ _ _ rfl]; rfl)
           have HC2 := hid (HC0.out.below HB02.out)
           have HN2 := hid (HN.out.below HB03.out)
           have HW2 : Hid (Below (w.heap.size + 1) (w.alloc (.cells #[.int .i64 6, .int .i64 lo, .int .i64 hi', .slice an ns.length cn, vp, .slice (some ⟨b, o, none⟩) rs.length cr] 26)) w2) := hid (HW.out.trans (HB02.out.mono (by have := HW.out.size; simpa using this)))
           clear hbox c0 c1
           cases h1 : sortedB rs[j].cond
           · have HX : Hid (rulesB ns rs = false) := hid (by rw [HD1.out, h1]; rfl)
             clear h1
             go_wp2_with fail
             go_ret
             exact ⟨ret_int (by rw [HF.out, HX.out]; rfl), HB03.out⟩
           · have HD2 : Hid (rulesB ns rs = ((subsetS rs[j].cond ns && hasS ns rs[j].concl) && rulesB ns (rs.drop (j + 1)))) := hid (by rw [HD1.out, h1, Bool.true_and])
             clear h1
             go_wp2_with fail
             refine (subset_any _ _ rs[j].cond ns _ HC2.out HN2.out).mono ?_
             rintro e w3 ⟨rfl, rfl⟩
             cases h2 : subsetS rs[j].cond ns
             · have HX : Hid (rulesB ns rs = false) := hid (by rw [HD2.out, h2]; rfl)
               clear h2
               go_wp2_with fail
               go_ret
               exact ⟨ret_int (by rw [HF.out, HX.out]; rfl), HB03.out⟩
             · have HD3 : Hid (rulesB ns rs = (hasS ns rs[j].concl && rulesB ns (rs.drop (j + 1)))) := hid (by rw [HD2.out, h2, Bool.true_and])
               clear h2
               go_wp2_with fail
               refine (has_any _ ns _ _ HN2.out).mono ?_
               rintro e w3 ⟨rfl, rfl⟩
               cases h3 : hasS ns rs[j].concl
               · have HX : Hid (rulesB ns rs = false) := hid (by rw [HD3.out, h3]; rfl)
                 clear h3
                 go_wp2_with fail
                 go_ret
                 exact ⟨ret_int (by rw [HF.out, HX.out]; rfl), HB03.out⟩
               · have HD4 : Hid (rulesB ns rs = rulesB ns (rs.drop (j + 1))) := hid (by rw [HD3.out, h3, Bool.true_and])
                 clear h3
                 go_wp2_with fail
                 go_roundw
                 case rel => exact ⟨j + 1, by omega, by go_num, HD4, HW2⟩
                 case measure => simp [intOf]; omega
       · have HF2 : Hid (rulesB ns rs = true) := hid (by rw [He.out, List.drop_eq_nil_of_le (by omega)]; rfl)
         go_wp2
         go_ret
         exact ⟨ret_int (by rw [HF.out, HF2.out]; rfl), (HB.out _).trans (HW.out.mono (Nat.le_succ _))⟩
 · have HS' : Hid (spellB (.mk k lo hi' ns ps rs) = !(nmGo false ns 0 ns && sortedB ns && rulesB ns rs)) := hid (by rw [HS.out, hk6]; rfl)
   clear HS
   have hk6' : (k != 6) = true := by rw [bne, hk6]; rfl
   go_enter Tryz.func110, Tryz.ntmps110
   go_wp2
   go_loop [10] (fun i => ∃ (j : Nat), j ≤ ns.length ∧ i = .int .i64 j ∧ Hid (nmGo false ns 0 ns = nmGo false ns j (ns.drop j))) (fun i => ns.length - (intOf i).toNat)
   case atStart => exact ⟨0, Nat.zero_le _, rfl, hid (by simp)⟩
   case round =>
    obtain ⟨j, hj, rfl, He⟩ := hrel
    by_cases hlt : j < ns.length
    · obtain ⟨b, o, rfl, hcell, hsz⟩ := HN.out.cell j hlt
      have hcell := cell_alloc hcell
      have HD : Hid (nmGo false ns 0 ns = (nameB ns[j] && nmGo false ns (j + 1) (ns.drop (j + 1)))) := hid (by rw [He.out, nmGo_step _ _ _ hlt, Bool.false_and, Bool.not_false, Bool.and_true])
      cases hc : nameB ns[j]
      all_goals
       have HC := hid hc
       clear hc
       go_wp2_with fail
       refine (nameValid_any _ _ hsz).mono ?_
       rintro e w' ⟨rfl, rfl⟩
       rw [HC.out]
      · go_wp2
        go_ret
        exact ⟨ret_int (by rw [HS'.out, HD.out, HC.out]; rfl), HB.out _⟩
      · have HD2 : Hid (nmGo false ns 0 ns = nmGo false ns (j + 1) (ns.drop (j + 1))) := hid (by rw [HD.out, HC.out]; rfl)
        go_wp2_with fail
        go_round
        case rel => exact ⟨j + 1, by omega, by go_num, HD2⟩
        case measure => simp [intOf]; omega
    · have HF0 : Hid (nmGo false ns 0 ns = true) := hid (by rw [He.out, List.drop_eq_nil_of_le (by omega)]; rfl)
      clear He
      go_wp2_with fail
      refine (sorted_any _ ns _ (HN.out.below (HB.out _))).mono ?_
      rintro e w1 ⟨rfl, n1, hw1⟩
      have HB1 : Hid (Below (w.heap.size + 1) (w.alloc (.cells #[.int .i64 k, .int .i64 lo, .int .i64 hi', .slice an ns.length cn, vp, .slice ar rs.length cr] 26)) w1) := hid (by rw [hw1]; exact below_drewN' (Below.refl _ _) _)
      clear hw1
      have hbox5 : w1.cell? ⟨w.heap.size, 5, none⟩ = some (.slice ar rs.length cr) := (HB1.out.cell (by simp)).trans (by rw [World.cell?_alloc_at _ _ _ _ rfl]; rfl)
      cases h1 : sortedB ns
      · have HX : Hid (spellB (.mk k lo hi' ns ps rs) = true) := hid (by rw [HS'.out, h1, Bool.and_false, Bool.false_and]; rfl)
        clear h1
        go_wp2_with fail
        go_ret
        exact ⟨ret_int (by rw [HX.out]; rfl), (HB.out _).trans (HB1.out.mono (Nat.le_succ _))⟩
      · have HF : Hid (spellB (.mk k lo hi' ns ps rs) = !rulesB ns rs) := hid (by rw [HS'.out, h1, HF0.out]; rfl)
        clear h1
        go_wp2_with fail
        go_loopw [44] (fun i wr => ∃ (j : Nat), j ≤ rs.length ∧ i = .int .i64 j ∧ Hid (rulesB ns rs = rulesB ns (rs.drop j)) ∧ Hid (Below (w.heap.size + 1) (w.alloc (.cells #[.int .i64 k, .int .i64 lo, .int .i64 hi', .slice an ns.length cn, vp, .slice ar rs.length cr] 26)) wr)) (fun i _ => rs.length - (intOf i).toNat)
        case atStart => exact ⟨0, Nat.zero_le _, rfl, hid (by simp), HB1⟩
        case round =>
         obtain ⟨j, hj, rfl, He, HW⟩ := hrel
         by_cases hlt : j < rs.length
         · obtain ⟨b, o, cs, ha, hl0, hcs, vc, hcv, hcond, hconcl⟩ := HR.out.at j hlt
           subst ha
           subst hcv
           have hb0 := hid ((HB.out _).trans (HW.out.mono (Nat.le_succ _)))
           have c0 : wr.cell? ⟨b, o + j * 2, none⟩ = some vc := (hcs.below hb0.out) 0 (by simp)
           have c1 : wr.cell? ⟨b, o + j * 2 + 1, none⟩ = some (.string rs[j].concl) := (hcs.below hb0.out) 1 (by simp)
           have hbox : wr.cell? ⟨w.heap.size, 3, none⟩ = some (.slice an ns.length cn) := (HW.out.cell (by simp)).trans (by rw [World.cell?_alloc_at _ _ _ _ rfl]; rfl)
           have HC0 := hid (hcond.below hb0.out)
           obtain ⟨ac, cc, rfl, hlc, hmc⟩ := hcond.shape
           clear hcond hcs
           have HD : Hid (rulesB ns rs = ((decide (rs[j].cond.length ≠ 0) && sortedB rs[j].cond && subsetS rs[j].cond ns && hasS ns rs[j].concl) && rulesB ns (rs.drop (j + 1)))) := hid (by rw [He.out, rulesB_step _ _ _ hlt]; rfl)
           by_cases h0 : rs[j].cond.length = 0
           · have HX : Hid (rulesB ns rs = false) := hid (by rw [HD.out, decide_eq_false (show ¬ (rs[j].cond.length ≠ 0) by omega)]; rfl)
             go_wp2_with fail
             go_ret
             exact ⟨ret_int (by rw [HF.out, HX.out]; rfl), hb0.out.alloc hb0.out.size _⟩
           · have hne : ((rs[j].cond.length : Int) == 0) = false := by simp; exact fun h => h0 (by rw [h]; rfl)
             have HD1 : Hid (rulesB ns rs = ((sortedB rs[j].cond && subsetS rs[j].cond ns && hasS ns rs[j].concl) && rulesB ns (rs.drop (j + 1)))) := hid (by rw [HD.out, decide_eq_true (show (rs[j].cond.length ≠ 0) by omega), Bool.true_and])
             clear h0
             go_wp2_with fail
             refine (sorted_any _ rs[j].cond _ (HC0.out.below ((Below.refl _ _).alloc (Nat.le_refl _) _))).mono ?_
             rintro e w2 ⟨rfl, n2, hw2⟩
             have HB2 : Hid (Below (wr.heap.size + 1) (wr.alloc (.cells #[.slice ac rs[j].cond.length cc, .string rs[j].concl] 131)) w2) := hid (by rw [hw2]; exact below_drewN' (Below.refl _ _) _)
             clear hw2
             have HB02 := hid (((Below.refl wr.heap.size wr).alloc (Nat.le_refl _) _).trans (HB2.out.mono (Nat.le_succ _)))
             have HB03 := hid (hb0.out.trans (HB02.out.mono hb0.out.size))
             have hbox2 : w2.cell? ⟨w.heap.size, 3, none⟩ = some (.slice an ns.length cn) := (HB02.out.cell (World.block_lt_of_cell? wr _ hbox)).trans hbox
             have r0 : w2.cell? ⟨wr.heap.size, 0, none⟩ = some (.slice ac rs[j].cond.length cc) := (HB2.out.cell (by simp)).trans (by rw [World.cell?_alloc_at _ _ _ _ rfl]; rfl)
             have r1 : w2.cell? ⟨wr.heap.size, 1, none⟩ = some (.string rs[j].concl) := (HB2.out.cell (by simp)).trans (by rw [World.cell?_alloc_at _ _ _ _ rfl]; rfl)
             have HC2 := hid (HC0.out.below HB02.out)
             have HN2 := hid (HN.out.below HB03.out)
             have HW2 : Hid (Below (w.heap.size + 1) (w.alloc (.cells #[.int .i64 k, .int .i64 lo, .int .i64 hi', .slice an ns.length cn, vp, .slice (some ⟨b, o, none⟩) rs.length cr] 26)) w2) := hid (HW.out.trans (HB02.out.mono (by have := HW.out.size; simpa using this)))
             clear hbox c0 c1
             cases h1 : sortedB rs[j].cond
             · have HX : Hid (rulesB ns rs = false) := hid (by rw [HD1.out, h1]; rfl)
               clear h1
               go_wp2_with fail
               go_ret
               exact ⟨ret_int (by rw [HF.out, HX.out]; rfl), HB03.out⟩
             · have HD2 : Hid (rulesB ns rs = ((subsetS rs[j].cond ns && hasS ns rs[j].concl) && rulesB ns (rs.drop (j + 1)))) := hid (by rw [HD1.out, h1, Bool.true_and])
               clear h1
               go_wp2_with fail
               refine (subset_any _ _ rs[j].cond ns _ HC2.out HN2.out).mono ?_
               rintro e w3 ⟨rfl, rfl⟩
               cases h2 : subsetS rs[j].cond ns
               · have HX : Hid (rulesB ns rs = false) := hid (by rw [HD2.out, h2]; rfl)
                 clear h2
                 go_wp2_with fail
                 go_ret
                 exact ⟨ret_int (by rw [HF.out, HX.out]; rfl), HB03.out⟩
               · have HD3 : Hid (rulesB ns rs = (hasS ns rs[j].concl && rulesB ns (rs.drop (j + 1)))) := hid (by rw [HD2.out, h2, Bool.true_and])
                 clear h2
                 go_wp2_with fail
                 refine (has_any _ ns _ _ HN2.out).mono ?_
                 rintro e w3 ⟨rfl, rfl⟩
                 cases h3 : hasS ns rs[j].concl
                 · have HX : Hid (rulesB ns rs = false) := hid (by rw [HD3.out, h3]; rfl)
                   clear h3
                   go_wp2_with fail
                   go_ret
                   exact ⟨ret_int (by rw [HF.out, HX.out]; rfl), HB03.out⟩
                 · have HD4 : Hid (rulesB ns rs = rulesB ns (rs.drop (j + 1))) := hid (by rw [HD3.out, h3, Bool.true_and])
                   clear h3
                   go_wp2_with fail
                   go_roundw
                   case rel => exact ⟨j + 1, by omega, by go_num, HD4, HW2⟩
                   case measure => simp [intOf]; omega
         · have HF2 : Hid (rulesB ns rs = true) := hid (by rw [He.out, List.drop_eq_nil_of_le (by omega)]; rfl)
           go_wp2
           go_ret
           exact ⟨ret_int (by rw [HF.out, HF2.out]; rfl), (HB.out _).trans (HW.out.mono (Nat.le_succ _))⟩
theorem shape_any (l : Lat) (cs : List Value) (w : World) (hl : latRd w l cs) :
 Calls Tryz.prog 107 #[.agg cs.toArray] w fun e w' => e = .returned (.int .i64 (whenI (shapeB l) 1)) ∧ Below w.heap.size w w' := by
 obtain ⟨vn, vp, vr, rfl, hi, hns, hps, hrs⟩ := (latRd_iff _ _ _).1 hl
 obtain ⟨k, lo, hi', ns, ps, rs⟩ := l
 simp only [Lat.kind, Lat.lo, Lat.hi, Lat.names, Lat.parts, Lat.rules] at hi hns hps hrs ⊢
 obtain ⟨an, cn, rfl, hln, hmn⟩ := hns.shape
 obtain ⟨ap, cp, rfl, hlp, hmp⟩ := hps.shape
 obtain ⟨ar, cr, rfl, hlr, hmr⟩ := hrs.shape
 have HB : Hid (∀ O, Below w.heap.size w (w.alloc O)) := hid fun O => (Below.refl _ _).alloc (Nat.le_refl _) O
 clear hl hi hns hps hrs
 rcases shape_kinds k ns.length with ⟨hk, rfl | rfl⟩ | ⟨hk, rfl | rfl⟩ | ⟨hk, rfl | rfl⟩ | ⟨hk, rfl⟩ | ⟨hk, rfl⟩ | ⟨hk, rfl⟩ | ⟨hk, rfl⟩ | ⟨hk, hx⟩
 case inr.inr.inr.inr.inr.inr.inr =>
  have HC : Hid (shapeB (.mk k lo hi' ns ps rs) = true) := hid (by show shapeC k lo hi' ns.length ps.length rs.length = true; unfold shapeC; rw [hk])
  have e1 : (k == 1) = false := by simp; omega
  have e2 : (k == 2) = false := by simp; omega
  have e3 : (k == 3) = false := by simp; omega
  have e4 : (k == 4) = false := by simp; omega
  have e5 : (k == 5) = false := by simp; omega
  have e6 : (k == 6) = false := by simp; omega
  have e7 : (k == 7) = false := by simp; omega
  have e8 : (k == 8) = false := by simp; omega
  have e9 : (k == 9) = false := by simp; omega
  have e10 : (k == 10) = false := by simp; omega
  clear hk hx
  go_enter Tryz.func107, Tryz.ntmps107
  go_wp2
  go_ret
  exact ⟨ret_int (by rw [HC.out]; rfl), HB.out _⟩
 · exact shape_1 lo hi' ns ps rs an ap ar cn cp cr w HB hmn hmp hmr hln hlp hlr
 · exact shape_9 lo hi' ns ps rs an ap ar cn cp cr w HB hmn hmp hmr hln hlp hlr
 · exact shape_2 lo hi' ns ps rs an ap ar cn cp cr w HB hmn hmp hmr hln hlp hlr
 · exact shape_3 lo hi' ns ps rs an ap ar cn cp cr w HB hmn hmp hmr hln hlp hlr
 · exact shape_4 lo hi' ns ps rs an ap ar cn cp cr w HB hmn hmp hmr hln hlp hlr
 · exact shape_8 lo hi' ns ps rs an ap ar cn cp cr w HB hmn hmp hmr hln hlp hlr
 · exact shape_5 lo hi' ns ps rs an ap ar cn cp cr w HB hmn hmp hmr hln hlp hlr
 · exact shape_7 lo hi' ns ps rs an ap ar cn cp cr w HB hmn hmp hmr hln hlp hlr
 · exact shape_6 lo hi' ns ps rs an ap ar cn cp cr w HB hmn hmp hmr hln hlp hlr
 · exact shape_10 lo hi' ns ps rs an ap ar cn cp cr w HB hmn hmp hmr hln hlp hlr
structure But (K : Nat) (w w' : World) : Prop where
 os : w'.os = w.os
 tape : w'.tape = w.tape
 output : w'.output = w.output
 size : w.heap.size ≤ w'.heap.size
 block : ∀ k, k < w.heap.size → k ≠ K → w'.heap[k]? = w.heap[k]?
theorem But.refl (K : Nat) (w : World) : But K w w := ⟨rfl, rfl, rfl, Nat.le_refl _, fun _ _ _ => rfl⟩
theorem But.trans {K : Nat} {a b c : World} (h : But K a b) (k : But K b c) : But K a c :=
 ⟨k.os.trans h.os, k.tape.trans h.tape, k.output.trans h.output, Nat.le_trans h.size k.size, fun i hi hn => (k.block i (Nat.lt_of_lt_of_le hi h.size) hn).trans (h.block i hi hn)⟩
theorem But.of_below {K : Nat} {w w' : World} (h : Below w.heap.size w w') : But K w w' := ⟨h.os, h.tape, h.output, h.size, fun k hk _ => h.block k hk⟩
theorem But.set {K : Nat} (w : World) (o : Nat) (u : Value) : But K w (w.setCell ⟨K, o, none⟩ u) :=
 ⟨rfl, rfl, rfl, by simp [World.setCell], fun k _ hn => Below.heap_setCell _ _ _ _ hn⟩
theorem But.below {K B : Nat} {w w' : World} (h : But K w w') (hk : B ≤ K) (hw : B ≤ w.heap.size) : Below B w w' :=
 ⟨h.os, h.tape, h.output, h.size, fun k hb => h.block k (by omega) (by omega)⟩
theorem But.cell {K : Nat} {w w' : World} (h : But K w w') {p : Addr} (hp : p.block < w.heap.size) (hn : p.block ≠ K) : w'.cell? p = w.cell? p := World.cell?_of_block (w := w) (h.block p.block hp hn)
def Ctr (K n : Nat) (w : World) : Prop := w.cell? ⟨K, 0, none⟩ = some (.int .i64 n) ∧ w.frozen? ⟨K, 0, none⟩ = false
theorem Ctr.below {K n : Nat} {w w' : World} (h : Ctr K n w) (hb : Below w.heap.size w w') : Ctr K n w' :=
 ⟨(hb.cell (World.block_lt_of_cell? w _ h.1)).trans h.1, (hb.frozen (World.block_lt_of_cell? w _ h.1)).trans h.2⟩
theorem Ctr.set {K n : Nat} {w : World} (h : Ctr K n w) (m : Nat) : Ctr K m (w.setCell ⟨K, 0, none⟩ (.int .i64 m)) :=
 ⟨World.cell?_setCell_same _ _ _ h.1, by rw [World.frozen?_setCell]; exact h.2⟩
def checkE (l : Lat) : Int := orI [whenI (limitsB l) 6, whenI (spellB l) 3, whenI (rangesB l) 5, whenI (chainsB l) 4]
def goL (g : Lat → Nat → Int × Nat) : List Lat → Nat → Int × Nat
 | [], n => (0, n)
 | p :: t, n => if (g p n).1 ≠ 0 then g p n else goL g t (g p n).2
def visitF : Nat → Lat → Nat → Int × Nat
 | 0, _, n => (6, n)
 | f + 1, l, n => if 64 ≤ n then (6, n) else if shapeB l then (1, n + 1) else if checkE l ≠ 0 then (checkE l, n + 1) else goL (visitF f) l.parts (n + 1)
theorem goL_step (g : Lat → Nat → Int × Nat) (ps : List Lat) (k n : Nat) (h : k < ps.length) : goL g (ps.drop k) n = if (g ps[k] n).1 ≠ 0 then g ps[k] n else goL g (ps.drop (k + 1)) (g ps[k] n).2 := by
 rw [drop_consS ps k h, goL]
theorem shapeB_lex (l : Lat) (h : shapeB l = false) (h7 : l.kind = 7) : l.parts.length = 2 := by
 unfold shapeB shapeC at h
 rw [h7] at h
 simp [kindI] at h
 exact h.1.1.1
theorem four_errs {w : World} {n : Nat} (a b c d : Int) (h : w.heap[n]? = some (.cells #[.int .i64 a, .int .i64 b, .int .i64 c, .int .i64 d] 34)) : I64s w (.slice (some ⟨n, 0, none⟩) 4 4) [a, b, c, d] := by
 refine ⟨some ⟨n, 0, none⟩, 4, rfl, ⟨(by intro h; cases h), by simp⟩, by decide, fun i hi => ⟨n, 0, [.int .i64 [a, b, c, d][i]], rfl, rfl, ?_, rfl⟩⟩
 intro j hj
 have hj0 : j = 0 := by simpa using hj
 subst hj0
 simp only [List.length_cons, List.length_nil] at hi
 match i, hi with
 | 0, _ => simp [World.cell?, h]
 | 1, _ => simp [World.cell?, h]
 | 2, _ => simp [World.cell?, h]
 | 3, _ => simp [World.cell?, h]
theorem visit_any (K : Nat) (w0 : World) (hK : w0.heap.size ≤ K) : ∀ (f : Nat) (d : Int) (l : Lat) (cs : List Value) (n : Nat) (w : World), f ≤ 6 → d = 7 - f → n ≤ 64 → latRd w0 l cs → Below w0.heap.size w0 w → Ctr K n w →
 Calls Tryz.prog 63 #[.pointer (some ⟨K, 0, none⟩), .agg cs.toArray, .int .i64 d] w fun e w' => e = .returned (.int .i64 (visitF f l n).1) ∧ Hid ((visitF f l n).2 ≤ 64 ∧ Ctr K (visitF f l n).2 w' ∧ But K w w') := by
 intro f
 induction f with
 | zero =>
   intro d l cs n w _ hd hn hl hb hc
   have hd6 : 6 < d := by omega
   clear hd
   have HC := hid hc
   have HP : Hid (∀ O, But K w (w.alloc O) ∧ Ctr K n (w.alloc O)) := hid fun O => ⟨But.of_below ((Below.refl _ _).alloc (Nat.le_refl _) O), hc.below ((Below.refl _ _).alloc (Nat.le_refl _) O)⟩
   have HN := hid hn
   obtain ⟨vn, vp, vr, rfl, hx⟩ := (latRd_iff _ _ _).1 hl
   obtain ⟨k, lo, hi', ns, ps, rs⟩ := l
   simp only [Lat.kind, Lat.lo, Lat.hi]
   clear hl hb hc hn hx
   show Calls _ _ _ _ fun e w' => e = .returned (.int .i64 6) ∧ Hid (n ≤ 64 ∧ Ctr K n w' ∧ But K w w')
   go_enter Tryz.func63, Tryz.ntmps63
   go_wp2
   go_ret
   exact ⟨rfl, hid ⟨HN.out, (HP.out _).2, (HP.out _).1⟩⟩
 | succ f ih =>
   intro d l cs n w hf hd hn hl hb hc
   have hd6 : d ≤ 6 := by omega
   have hd1 : 1 ≤ d := by omega
   have HD := hid hd
   have HF := hid hf
   have IH := hid ih
   have HL := hid hl
   have HB := hid hb
   have HC := hid hc
   have hKw : K < w.heap.size := World.block_lt_of_cell? w _ hc.1
   have HP : Hid (∀ O, But K w (w.alloc O) ∧ Ctr K n (w.alloc O)) := hid fun O => ⟨But.of_below ((Below.refl _ _).alloc (Nat.le_refl _) O), hc.below ((Below.refl _ _).alloc (Nat.le_refl _) O)⟩
   obtain ⟨c0, z0⟩ := hc
   have HN := hid hn
   obtain ⟨vn, vp, vr, rfl, hx1, hx2, hps, hx3⟩ := (latRd_iff _ _ _).1 hl
   clear hx1 hx2 hx3
   obtain ⟨k, lo, hi', ns, ps, rs⟩ := l
   simp only [Lat.kind, Lat.lo, Lat.hi, Lat.parts] at HL hps ⊢
   obtain ⟨ap, cp, rfl, hlp, hmp⟩ := hps.shape
   have HPS := hid hps
   clear hl hb hps hd hf ih
   have HV : Hid (visitF (f + 1) (.mk k lo hi' ns ps rs) n = if 64 ≤ n then (6, n) else if shapeB (.mk k lo hi' ns ps rs) then (1, n + 1) else if checkE (.mk k lo hi' ns ps rs) ≠ 0 then (checkE (.mk k lo hi' ns ps rs), n + 1) else goL (visitF f) ps (n + 1)) := hid rfl
   generalize hvv : visitF (f + 1) (.mk k lo hi' ns ps rs) n = vv at HV ⊢
   clear hvv
   by_cases h64 : n = 64
   · subst h64
     have HV1 : Hid (vv = (6, 64)) := hid (by rw [HV.out, if_pos (Nat.le_refl _)])
     go_enter Tryz.func63, Tryz.ntmps63
     go_wp2
     go_ret
     exact ⟨ret_int (by rw [HV1.out]), hid (by rw [HV1.out]; exact ⟨HN.out, (HP.out _).2, (HP.out _).1⟩)⟩
   · have hn63 : n < 64 := by omega
     have HV1 : Hid (vv = if shapeB (.mk k lo hi' ns ps rs) then (1, n + 1) else if checkE (.mk k lo hi' ns ps rs) ≠ 0 then (checkE (.mk k lo hi' ns ps rs), n + 1) else goL (visitF f) ps (n + 1)) := hid (by rw [HV.out, if_neg (by omega)])
     clear h64
     have hsw : (w.setCell ⟨K, 0, none⟩ (.int .i64 ((n : Int) + 1))).heap.size = w.heap.size := by simp [World.setCell]
     have HP1 : Hid (∀ O, But K w ((w.setCell ⟨K, 0, none⟩ (.int .i64 ((n : Int) + 1))).alloc O) ∧ Ctr K (n + 1) ((w.setCell ⟨K, 0, none⟩ (.int .i64 ((n : Int) + 1))).alloc O)) := hid fun O =>
      ⟨(But.set _ _ _).trans (But.of_below ((Below.refl _ _).alloc (Nat.le_refl _) O)), (HC.out.set (n + 1)).below ((Below.refl _ _).alloc (Nat.le_refl _) O)⟩
     have HSW := hid hsw
     clear hsw
     go_enter Tryz.func63, Tryz.ntmps63
     go_wp2_with fail
     refine (shape_any (.mk k lo hi' ns ps rs) [.int .i64 k, .int .i64 lo, .int .i64 hi', vn, .slice ap ps.length cp, vr] _ (latRd.below (HB.out.trans ((HP1.out _).1.below hK (by have := HB.out.size; exact this))) _ _ HL.out)).mono ?_
     rintro e w2 ⟨rfl, hb2⟩
     have H2 : Hid (But K w w2 ∧ Ctr K (n + 1) w2) := hid ⟨(HP1.out _).1.trans (But.of_below hb2), (HP1.out _).2.below hb2⟩
     have hsz2 : w.heap.size < w2.heap.size := by have := hb2.size; simp [World.setCell] at this; omega
     have HBX : Hid (∀ (i : Nat) (v : Value), #[Value.int .i64 k, .int .i64 lo, .int .i64 hi', vn, .slice ap ps.length cp, vr][i]? = some v → w2.cell? ⟨w.heap.size, i, none⟩ = some v) := hid fun i v hv =>
      (hb2.cell (by simp [World.setCell])).trans (by rw [World.cell?_alloc_at _ _ _ _ HSW.out.symm]; exact hv)
     clear hb2
     cases hs : shapeB (.mk k lo hi' ns ps rs)
     · have HV2 : Hid (vv = if checkE (.mk k lo hi' ns ps rs) ≠ 0 then (checkE (.mk k lo hi' ns ps rs), n + 1) else goL (visitF f) ps (n + 1)) := hid (by rw [HV1.out, if_neg (by rw [hs]; exact Bool.false_ne_true)])
       have H7 := hid (shapeB_lex (.mk k lo hi' ns ps rs) hs)
       have HBW := hid (HB.out.trans (H2.out.1.below hK (by have := HB.out.size; exact this)))
       have HL2 := hid (latRd.below HBW.out _ _ HL.out)
       have HOR : Hid (∀ W N, W.heap[N]? = some (.cells #[.int .i64 (whenI (limitsB (.mk k lo hi' ns ps rs)) 6), .int .i64 (whenI (spellB (.mk k lo hi' ns ps rs)) 3), .int .i64 (whenI (rangesB (.mk k lo hi' ns ps rs)) 5), .int .i64 (whenI (chainsB (.mk k lo hi' ns ps rs)) 4)] 34) →
        Calls Tryz.prog 108 #[.slice (some ⟨N, 0, none⟩) 4 4] W fun e w' => e = .returned (.int .i64 (checkE (.mk k lo hi' ns ps rs))) ∧ w' = W) := hid fun W N h => orErr_any _ _ W (four_errs _ _ _ _ h)
       have HLI := hid (fun W h => limits_any (.mk k lo hi' ns ps rs) [.int .i64 k, .int .i64 lo, .int .i64 hi', vn, .slice ap ps.length cp, vr] W (latRd.below h _ _ HL2.out))
       have HSP := hid (fun W h => spelling_any (.mk k lo hi' ns ps rs) [.int .i64 k, .int .i64 lo, .int .i64 hi', vn, .slice ap ps.length cp, vr] W (latRd.below h _ _ HL2.out))
       have HRA := hid (fun W h => ranges_any (.mk k lo hi' ns ps rs) [.int .i64 k, .int .i64 lo, .int .i64 hi', vn, .slice ap ps.length cp, vr] W (latRd.below h _ _ HL2.out))
       have HCH := hid (fun W h => chains_any (.mk k lo hi' ns ps rs) [.int .i64 k, .int .i64 lo, .int .i64 hi', vn, .slice ap ps.length cp, vr] W (latRd.below h _ _ HL2.out) H7.out)
       have HS : Hid (∀ w', Below w2.heap.size w2 w' → w'.cell? ⟨w.heap.size, 0, none⟩ = some (.int .i64 k) ∧ w'.cell? ⟨w.heap.size, 1, none⟩ = some (.int .i64 lo) ∧ w'.cell? ⟨w.heap.size, 2, none⟩ = some (.int .i64 hi') ∧ w'.cell? ⟨w.heap.size, 3, none⟩ = some vn ∧ w'.cell? ⟨w.heap.size, 4, none⟩ = some (.slice ap ps.length cp) ∧ w'.cell? ⟨w.heap.size, 5, none⟩ = some vr) :=
        hid fun w' h => ⟨(h.cell hsz2).trans (HBX.out 0 _ rfl), (h.cell hsz2).trans (HBX.out 1 _ rfl), (h.cell hsz2).trans (HBX.out 2 _ rfl), (h.cell hsz2).trans (HBX.out 3 _ rfl), (h.cell hsz2).trans (HBX.out 4 _ rfl), (h.cell hsz2).trans (HBX.out 5 _ rfl)⟩
       clear hs
       go_wp2_with fail
       go_region_held3 (fun w' => w'.cell? ⟨w.heap.size, 0, none⟩ = some (.int .i64 k) ∧ w'.cell? ⟨w.heap.size, 1, none⟩ = some (.int .i64 lo) ∧ w'.cell? ⟨w.heap.size, 2, none⟩ = some (.int .i64 hi') ∧ w'.cell? ⟨w.heap.size, 3, none⟩ = some vn ∧ w'.cell? ⟨w.heap.size, 4, none⟩ = some (.slice ap ps.length cp) ∧ w'.cell? ⟨w.heap.size, 5, none⟩ = some vr)
         (first
           | exact HS.out _ (Below.refl _ _)
           | exact HS.out _ (Below.refl _ _).drew
           | exact HS.out _ HB4.out
           | exact HS.out _ (HB4.out.alloc HB4.out.size _)
           | exact HS.out _ HB3.out
           | exact HS.out _ HB2.out
           | exact HS.out _ HB1.out
           | skip)
         (first
           | (go_at_call 109
              refine (HLI.out _ (Below.refl _ _).drew).mono ?_
              rintro e w3 ⟨rfl, hb⟩
              have HB1 : Hid (Below w2.heap.size w2 w3) := hid ((Below.refl _ _).drew.trans hb)
              clear hb)
           | (go_at_call 110
              refine (HSP.out _ HB1.out).mono ?_
              rintro e w4 ⟨rfl, hb⟩
              have HB2 : Hid (Below w2.heap.size w2 w4) := hid (HB1.out.trans (hb.mono HB1.out.size))
              clear hb)
           | (go_at_call 111
              refine (HRA.out _ HB2.out).mono ?_
              rintro e w5 ⟨rfl, hb⟩
              have HB3 : Hid (Below w2.heap.size w2 w5) := hid (HB2.out.trans (hb.mono HB2.out.size))
              clear hb)
           | (go_at_call 112
              refine (HCH.out _ HB3.out).mono ?_
              rintro e w6 ⟨rfl, hb⟩
              have HB4 : Hid (Below w2.heap.size w2 w6) := hid (HB3.out.trans (hb.mono HB3.out.size))
              clear hb)
           | (go_at_call 108
              refine (HOR.out _ _ (heap_alloc_new _ _)).mono ?_
              rintro e w7 ⟨rfl, rfl⟩))
       have H8 : Hid (∀ O, But K w (w6.alloc O) ∧ Ctr K (n + 1) (w6.alloc O)) := hid fun O =>
        ⟨H2.out.1.trans (But.of_below (HB4.out.alloc HB4.out.size O)), H2.out.2.below (HB4.out.alloc HB4.out.size O)⟩
       have HS8 : Hid (∀ w', But K w2 w' → w'.cell? ⟨w.heap.size, 4, none⟩ = some (.slice ap ps.length cp)) := hid fun w' h => (h.cell hsz2 (by show w.heap.size ≠ K; omega)).trans (HBX.out 4 _ rfl)
       have b4 := fun O => HS8.out _ (But.of_below (HB4.out.alloc HB4.out.size O))
       have hw26 : w2.heap.size ≤ w6.heap.size := HB4.out.size
       by_cases hce : checkE (.mk k lo hi' ns ps rs) = 0
       · have HV3 : Hid (vv = goL (visitF f) ps (n + 1)) := hid (by rw [HV2.out, if_neg (by rw [hce]; exact fun h => h rfl)])
         have hcb : (checkE (.mk k lo hi' ns ps rs) != 0) = false := by rw [hce]; rfl
         clear hce
         go_wp2
         go_loopw [49] (fun i wr => ∃ (j m : Nat), j ≤ ps.length ∧ i = .int .i64 j ∧ m ≤ 64 ∧ Hid (goL (visitF f) ps (n + 1) = goL (visitF f) (ps.drop j) m) ∧ Hid (But K w wr ∧ Ctr K m wr) ∧ w6.heap.size < wr.heap.size) (fun i _ => ps.length - (intOf i).toNat)
         case atStart => exact ⟨0, n + 1, Nat.zero_le _, rfl, hn63, hid (by simp), H8.out _, by simp⟩
         case round =>
          obtain ⟨j, m, hj, rfl, hm, HG, HW, hsr⟩ := hrel
          by_cases hlt : j < ps.length
          · obtain ⟨b, o, cs, ha, hl0, hcs, hlp⟩ := HPS.out.at j hlt
            subst ha
            obtain ⟨an0, cn0, ap0, cp0, ar0, cr0, rfl, hyi, hyn, hyp, hyr, _⟩ := latRd.lay hlp
            have HLP := hid hlp
            have HBR := hid (HB.out.trans (HW.out.1.below hK (by have := HB.out.size; exact this)))
            obtain ⟨f0, f1, f2, f3, f4, f5⟩ := (hcs.below HBR.out).six
            clear hlp hcs hyi hyn hyp hyr
            have hw1 : IntKind.i64.wrap (d + 1) = d + 1 := IntWalk.i64_in _ (by omega)
            go_wp2_with fail
            have HD1 : Hid (d + 1 = 7 - (f : Int)) := hid (by have := HD.out; omega)
            refine (IH.out (d + 1) ps[j] [.int .i64 ps[j].kind, .int .i64 ps[j].lo, .int .i64 ps[j].hi, .slice an0 ps[j].names.length cn0, .slice ap0 ps[j].parts.length cp0, .slice ar0 ps[j].rules.length cr0] m _ (by have := HF.out; omega) HD1.out hm HLP.out (HBR.out.alloc HBR.out.size _) (HW.out.2.below ((Below.refl _ _).alloc (Nat.le_refl _) _))).mono ?_
            rintro e w9 ⟨rfl, h9⟩
            have HGS : Hid (goL (visitF f) ps (n + 1) = if (visitF f ps[j] m).1 ≠ 0 then visitF f ps[j] m else goL (visitF f) (ps.drop (j + 1)) (visitF f ps[j] m).2) := hid (by rw [HG.out, goL_step _ _ _ _ hlt])
            generalize hvp : visitF f ps[j] m = vp at HGS h9 ⊢
            clear hvp
            have h9s : wr.heap.size < w9.heap.size := by have := h9.out.2.2.size; simp at this; omega
            have H9 : Hid (vp.2 ≤ 64 ∧ Ctr K vp.2 w9 ∧ But K w w9) := hid ⟨h9.out.1, h9.out.2.1, (HW.out.1.trans (But.of_below ((Below.refl _ _).alloc (Nat.le_refl _) _))).trans h9.out.2.2⟩
            have hs9 : w6.heap.size < w9.heap.size := by omega
            have hm9 := h9.out.1
            clear h9
            by_cases hz : vp.1 = 0
            · have HG2 : Hid (goL (visitF f) ps (n + 1) = goL (visitF f) (ps.drop (j + 1)) vp.2) := hid (by rw [HGS.out, if_neg (fun h => h hz)])
              have hzb : (vp.1 != 0) = false := by rw [hz]; rfl
              clear hz
              go_wp2_with fail
              go_roundw
              case rel => exact ⟨j + 1, vp.2, by omega, by go_num, hm9, HG2, hid ⟨H9.out.2.2, H9.out.2.1⟩, hs9⟩
              case measure => simp [intOf]; omega
            · have HX : Hid (vv = vp) := hid (by rw [HV3.out, HGS.out, if_pos hz])
              go_wp2_with fail
              go_ret
              exact ⟨ret_int (by rw [HX.out]), hid (by rw [HX.out]; exact H9.out)⟩
          · have HX : Hid (vv = (0, m)) := hid (by rw [HV3.out, HG.out, List.drop_eq_nil_of_le (by omega)]; rfl)
            go_wp2
            go_ret
            exact ⟨ret_int (by rw [HX.out]), hid (by rw [HX.out]; exact ⟨hm, HW.out.2, HW.out.1⟩)⟩
       · have HV3 : Hid (vv = (checkE (.mk k lo hi' ns ps rs), n + 1)) := hid (by rw [HV2.out, if_pos hce])
         go_wp2_with fail
         go_ret
         exact ⟨ret_int (by rw [HV3.out]), hid (by rw [HV3.out]; exact ⟨hn63, (H8.out _).2, (H8.out _).1⟩)⟩
     · have HV2 : Hid (vv = (1, n + 1)) := hid (by rw [HV1.out, if_pos hs])
       clear hs
       go_wp2_with fail
       go_ret
       exact ⟨ret_int (by rw [HV2.out]; rfl), hid (by rw [HV2.out]; exact ⟨hn63, H2.out.2, H2.out.1⟩)⟩
def chkE (l : Lat) : Int := (visitF 6 l 0).1
theorem check_any (l : Lat) (cs : List Value) (w : World) (hl : latRd w l cs) :
 Calls Tryz.prog 36 #[.agg cs.toArray] w fun e w' => e = .returned (.int .i64 (chkE l)) ∧ Below w.heap.size w w' := by
 obtain ⟨an, cn, ap, cp, ar, cr, rfl, hi, hns, hps, hrs, _⟩ := latRd.lay hl
 obtain ⟨k, lo, hi', ns, ps, rs⟩ := l
 simp only [Lat.kind, Lat.lo, Lat.hi, Lat.names, Lat.parts, Lat.rules] at hi hns hps hrs hl ⊢
 have HL := hid hl
 have HB : Hid (∀ O1 O2, Below w.heap.size w ((w.alloc O1).alloc O2)) := hid fun O1 O2 => ((Below.refl _ _).alloc (Nat.le_refl _) O1).alloc (by simp) O2
 have HR : Hid (chkE (.mk k lo hi' ns ps rs) = (visitF 6 (.mk k lo hi' ns ps rs) 0).1) := hid rfl
 generalize hv : visitF 6 (.mk k lo hi' ns ps rs) 0 = vv at HR
 have HV := hid hv
 clear hl hi hns hps hrs hv
 go_enter Tryz.func36, Tryz.ntmps36
 go_wp2_with fail
 refine (visit_any (w.heap.size + 1) w (Nat.le_succ _) 6 1 (.mk k lo hi' ns ps rs) [.int .i64 k, .int .i64 lo, .int .i64 hi', .slice an ns.length cn, .slice ap ps.length cp, .slice ar rs.length cr] 0 _ (Nat.le_refl _) rfl (Nat.zero_le _) HL.out (HB.out _ _) ⟨?_, ?_⟩).mono ?_
 · rw [World.cell?_alloc_at _ _ _ _ (by simp)]; rfl
 · exact World.frozen?_alloc_at _ _ _ _ (by simp)
 · rintro e w1 ⟨rfl, h1⟩
   rw [HV.out] at h1 ⊢
   go_wp2_with fail
   go_ret
   exact ⟨ret_int HR.out.symm, (HB.out _ _).trans (h1.out.2.2.below (Nat.le_succ _) (by simp; omega))⟩
theorem cf_tick (c : Tk → Tk → Int) (v u : Value) (a b : List Tk) (w : World) (hv : SlRd w 2 ((fun (_ : World) => tickRd) w) v a) (hu : SlRd w 2 ((fun (_ : World) => tickRd) w) u b)
    (hcall : ∀ (i j : Nat) (hi : i < a.length) (hj : j < b.length) (cx cy : List Value) (W : World), (fun (_ : World) => tickRd) W a[i] cx → (fun (_ : World) => tickRd) W b[j] cy → Calls Tryz.prog 78 #[.agg cx.toArray, .agg cy.toArray] W fun e w' => e = .returned (.int .i64 (c a[i] b[j])) ∧ Below W.heap.size W w') :
    Calls Tryz.prog 77 #[v, u, .func (.func 78) #[] #[]] w fun e w' => e = .returned (.int .i64 (lexC c a b)) ∧ Below w.heap.size w w' := by
  obtain ⟨ad, cap, rfl, _, hmax⟩ := hv.shape
  obtain ⟨ad', cap', rfl, _, hmax'⟩ := hu.shape
  have HV := hid hv
  have HU := hid hu
  have HCALL := hid hcall
  clear hv hu hcall
  go_enter Tryz.func77, Tryz.ntmps77
  go_wp2
  go_loopw [13] (fun i wr => ∃ (k : Nat), k ≤ a.length ∧ k ≤ b.length ∧ i = .int .i64 k ∧ Hid (lexC c a b = lexC c (a.drop k) (b.drop k)) ∧ Hid (Below w.heap.size w wr)) (fun i _ => a.length - (intOf i).toNat)
  case atStart => exact ⟨0, Nat.zero_le _, Nat.zero_le _, rfl, hid (by simp), hid (Below.refl _ _)⟩
  case round =>
   obtain ⟨k, hk, hk', rfl, He, HW⟩ := hrel
   by_cases hlt : k < a.length
   · obtain ⟨bb, o, cs, rfl, hlx, hcsx, hrx⟩ := HV.out.at k hlt
     have HRx := hid hrx
     obtain ⟨rfl, _, _⟩ := hrx
     by_cases hlt' : k < b.length
     · obtain ⟨bb', o', cs', rfl, hly, hcsy, hry⟩ := HU.out.at k hlt'
       have HRy := hid hry
       obtain ⟨rfl, _, _⟩ := hry
       have x0 : wr.cell? ⟨bb, o + k * 2, none⟩ = some (.int .i64 a[k].process) := (hcsx.below HW.out) 0 (by simp)
       have x1 : wr.cell? ⟨bb, o + k * 2 + 1, none⟩ = some (.int .i64 a[k].n) := (hcsx.below HW.out) 1 (by simp)
       have y0 : wr.cell? ⟨bb', o' + k * 2, none⟩ = some (.int .i64 b[k].process) := (hcsy.below HW.out) 0 (by simp)
       have y1 : wr.cell? ⟨bb', o' + k * 2 + 1, none⟩ = some (.int .i64 b[k].n) := (hcsy.below HW.out) 1 (by simp)
       have z0 := cell_alloc y0
       have z1 := cell_alloc y1
       clear y0 y1
       have HD : Hid (lexC c a b = if c a[k] b[k] ≠ 0 then c a[k] b[k] else lexC c (a.drop (k + 1)) (b.drop (k + 1))) := hid (by rw [He.out, lexC_step _ _ _ _ hlt hlt'])
       clear hcsx hcsy
       go_wp2_with fail
       have HB2 : Hid (∀ O1 O2, Below w.heap.size w ((wr.alloc O1).alloc O2)) := hid fun O1 O2 => (HW.out.alloc HW.out.size _).alloc (Nat.le_trans HW.out.size (by simp)) _
       refine (HCALL.out k k hlt hlt' [.int .i64 a[k].process, .int .i64 a[k].n] [.int .i64 b[k].process, .int .i64 b[k].n] _ (HRx.out) (HRy.out)).mono ?_
       rintro e w9 ⟨rfl, h9⟩
       have HW9 : Hid (Below w.heap.size w w9) := hid ((HB2.out _ _).trans (h9.mono (HB2.out _ _).size))
       clear h9
       generalize hcv : c a[k] b[k] = cv at HD ⊢
       clear hcv
       by_cases hz : cv = 0
       · have HD2 : Hid (lexC c a b = lexC c (a.drop (k + 1)) (b.drop (k + 1))) := hid (by rw [HD.out, if_neg (fun h => h hz)])
         have hzb : (cv != 0) = false := by rw [hz]; rfl
         clear hz
         go_wp2_with fail
         go_roundw
         case rel => exact ⟨k + 1, by omega, by omega, by go_num, HD2, HW9⟩
         case measure => simp [intOf]; omega
       · have HD2 : Hid (lexC c a b = cv) := hid (by rw [HD.out, if_pos hz])
         have hzb : (cv != 0) = true := by simpa using hz
         clear hz
         go_wp2_with fail
         go_ret
         exact ⟨ret_int HD2.out.symm, HW9.out⟩
     · have HF : Hid (lexC c a b = 1) := hid (by rw [He.out, lexC_one _ _ _ _ hlt (by omega)])
       have x0 : wr.cell? ⟨bb, o + k * 2, none⟩ = some (.int .i64 a[k].process) := (hcsx.below HW.out) 0 (by simp)
       have x1 : wr.cell? ⟨bb, o + k * 2 + 1, none⟩ = some (.int .i64 a[k].n) := (hcsx.below HW.out) 1 (by simp)
       go_wp2_with fail
       go_ret
       exact ⟨ret_int HF.out.symm, HW.out.alloc HW.out.size _⟩
   · have HF : Hid (lexC c a b = if k < b.length then -1 else 0) := hid (by rw [He.out, lexC_end _ _ _ _ (by omega)])
     have hka : k = a.length := by omega
     subst hka
     by_cases hl : a.length < b.length
     · have HF2 : Hid (lexC c a b = -1) := hid (by rw [HF.out, if_pos hl])
       go_wp2
       go_ret
       exact ⟨ret_int HF2.out.symm, HW.out⟩
     · have HF2 : Hid (lexC c a b = 0) := hid (by rw [HF.out, if_neg hl])
       go_wp2
       go_ret
       exact ⟨ret_int HF2.out.symm, HW.out⟩
end Go.Proofs.YtmdjnaobllajmaaGreatDoor
