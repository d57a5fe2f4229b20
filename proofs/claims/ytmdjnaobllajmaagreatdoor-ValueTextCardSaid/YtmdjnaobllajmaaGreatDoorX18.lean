/-
  What the statements of the chapter share, part 18: VShelf, VEl.
-/
import Derived.Test.YtmdjnaobllajmaaGreatDoorX08
import Derived.Test.YtmdjnaobllajmaaGreatDoorX10
import Derived.Test.YtmdjnaobllajmaaGreatDoorX12
import Derived.Test.YtmdjnaobllajmaaGreatDoorX13
import Derived.Test.YtmdjnaobllajmaaGreatDoorX17
import Derived.Ground.NamesProg
import Derived.Lib.AppendIntMem
import Derived.Room.Shelf.Join48
import Derived.Shelf.Strconv.Itoa4
set_option linter.unusedVariables false
set_option linter.unusedSimpArgs false
set_option maxRecDepth 100000
set_option maxHeartbeats 8000000
namespace Go.Proofs.YtmdjnaobllajmaaGreatDoor
open Go.RowKit
open Go.Shelf Go.RowKit
def lays173_ren : Go.Shelf.Ren := ⟨fun | 173 => 101 | 246 => 140 | 283 => 160 | 284 => 161 | 285 => 162 | 286 => 163 | 129 => 174 | 317 => 173 | 318 => 175 | 319 => 176 | 320 => 177 | 337 => 181 | 338 => 182 | n => n, fun | 2 => 2 | 3 => 3 | 9 => 9 | 4 => 4 | 171 => 155 | 0 => 0 | 53 => 105 | 37 => 46 | 5 => 5 | 173 => 158 | 212 => 167 | 51 => 168 | 20 => 20 | 213 => 169 | 46 => 135 | 232 => 176 | 233 => 177 | n => n, fun | 17 => 1 | 18 => 2 | 19 => 3 | n => n⟩
theorem lays173 : Go.Proofs.LaysM.n173 Tryz.prog lays173_ren := {
 mixed := by kernel_rfl
 f129 := Tryz.func174.trans (congrArg some (by kernel_rfl))
 f173 := Tryz.func101.trans (congrArg some (by kernel_rfl))
 f246 := Tryz.func140.trans (congrArg some (by kernel_rfl))
 f283 := Tryz.func160.trans (congrArg some (by kernel_rfl))
 f284 := Tryz.func161.trans (congrArg some (by kernel_rfl))
 f285 := Tryz.func162.trans (congrArg some (by kernel_rfl))
 f286 := Tryz.func163.trans (congrArg some (by kernel_rfl))
 f317 := Tryz.func173.trans (congrArg some (by kernel_rfl))
 f318 := Tryz.func175.trans (congrArg some (by kernel_rfl))
 f319 := Tryz.func176.trans (congrArg some (by kernel_rfl))
 f320 := Tryz.func177.trans (congrArg some (by kernel_rfl))
 f337 := Tryz.func181.trans (congrArg some (by kernel_rfl))
 f338 := Tryz.func182.trans (congrArg some (by kernel_rfl))
 t0 := Tryz.underlying0
 a0 := Tryz.isAgg0
 z0 := Tryz.sizeOf0
 v0 := Tryz.zeroValue0
 t2 := Tryz.underlying2
 a2 := Tryz.isAgg2
 z2 := Tryz.sizeOf2
 v2 := Tryz.zeroValue2
 t3 := Tryz.underlying3
 a3 := Tryz.isAgg3
 z3 := Tryz.sizeOf3
 v3 := Tryz.zeroValue3
 t4 := Tryz.underlying4
 a4 := Tryz.isAgg4
 z4 := Tryz.sizeOf4
 v4 := Tryz.zeroValue4
 t5 := Tryz.underlying5
 a5 := Tryz.isAgg5
 z5 := Tryz.sizeOf5
 v5 := Tryz.zeroValue5
 t9 := Tryz.underlying9
 a9 := Tryz.isAgg9
 z9 := Tryz.sizeOf9
 v9 := Tryz.zeroValue9
 t20 := Tryz.underlying20
 a20 := Tryz.isAgg20
 z20 := Tryz.sizeOf20
 v20 := Tryz.zeroValue20
 t37 := Tryz.underlying46
 a37 := Tryz.isAgg46
 z37 := Tryz.sizeOf46
 v37 := Tryz.zeroValue46
 t46 := Tryz.underlying135
 a46 := Tryz.isAgg135
 z46 := Tryz.sizeOf135
 v46 := Tryz.zeroValue135
 t51 := Tryz.underlying168
 a51 := Tryz.isAgg168
 z51 := Tryz.sizeOf168
 v51 := Tryz.zeroValue168
 t53 := Tryz.underlying105
 a53 := Tryz.isAgg105
 z53 := Tryz.sizeOf105
 v53 := Tryz.zeroValue105
 t171 := Tryz.underlying155
 a171 := Tryz.isAgg155
 z171 := Tryz.sizeOf155
 v171 := Tryz.zeroValue155
 t173 := Tryz.underlying158
 a173 := Tryz.isAgg158
 z173 := Tryz.sizeOf158
 v173 := Tryz.zeroValue158
 t212 := Tryz.underlying167
 a212 := Tryz.isAgg167
 z212 := Tryz.sizeOf167
 v212 := Tryz.zeroValue167
 t213 := Tryz.underlying169
 a213 := Tryz.isAgg169
 z213 := Tryz.sizeOf169
 t232 := Tryz.underlying176
 a232 := Tryz.isAgg176
 z232 := Tryz.sizeOf176
 v232 := Tryz.zeroValue176
 t233 := Tryz.underlying177
 a233 := Tryz.isAgg177
 z233 := Tryz.sizeOf177
 v233 := Tryz.zeroValue177
 g17 := by kernel_rfl
 g18 := by kernel_rfl
 g19 := by kernel_rfl
 i0 := by kernel_rfl
 i2 := by kernel_rfl
 i3 := by kernel_rfl
 i4 := by kernel_rfl
 i5 := by kernel_rfl
 i9 := by kernel_rfl
 i20 := by kernel_rfl
 i37 := by kernel_rfl
 i46 := by kernel_rfl
 i51 := by kernel_rfl
 i53 := by kernel_rfl
 i171 := by kernel_rfl
 i173 := by kernel_rfl
 i212 := by kernel_rfl
 i232 := by kernel_rfl
 i233 := by kernel_rfl
 m17 := by kernel_rfl
 m18 := by kernel_rfl
 m19 := by kernel_rfl }
def lays171_ren : Go.Shelf.Ren := ⟨fun | 171 => 105 | 243 => 145 | 246 => 140 | 283 => 160 | 284 => 161 | 285 => 162 | 286 => 163 | 129 => 174 | 317 => 173 | 318 => 175 | 319 => 176 | 320 => 177 | 337 => 181 | 338 => 182 | n => n, fun | 3 => 3 | 9 => 9 | 2 => 2 | 4 => 4 | 171 => 155 | 0 => 0 | 53 => 105 | 37 => 46 | 5 => 5 | 173 => 158 | 212 => 167 | 51 => 168 | 20 => 20 | 213 => 169 | 46 => 135 | 232 => 176 | 233 => 177 | n => n, fun | 17 => 1 | 18 => 2 | 19 => 3 | n => n⟩
theorem lays171 : Go.Proofs.LaysM.n171 Tryz.prog lays171_ren := {
 mixed := by kernel_rfl
 f129 := Tryz.func174.trans (congrArg some (by kernel_rfl))
 f171 := Tryz.func105.trans (congrArg some (by kernel_rfl))
 f243 := Tryz.func145.trans (congrArg some (by kernel_rfl))
 f246 := Tryz.func140.trans (congrArg some (by kernel_rfl))
 f283 := Tryz.func160.trans (congrArg some (by kernel_rfl))
 f284 := Tryz.func161.trans (congrArg some (by kernel_rfl))
 f285 := Tryz.func162.trans (congrArg some (by kernel_rfl))
 f286 := Tryz.func163.trans (congrArg some (by kernel_rfl))
 f317 := Tryz.func173.trans (congrArg some (by kernel_rfl))
 f318 := Tryz.func175.trans (congrArg some (by kernel_rfl))
 f319 := Tryz.func176.trans (congrArg some (by kernel_rfl))
 f320 := Tryz.func177.trans (congrArg some (by kernel_rfl))
 f337 := Tryz.func181.trans (congrArg some (by kernel_rfl))
 f338 := Tryz.func182.trans (congrArg some (by kernel_rfl))
 t0 := Tryz.underlying0
 a0 := Tryz.isAgg0
 z0 := Tryz.sizeOf0
 v0 := Tryz.zeroValue0
 t2 := Tryz.underlying2
 a2 := Tryz.isAgg2
 z2 := Tryz.sizeOf2
 v2 := Tryz.zeroValue2
 t3 := Tryz.underlying3
 a3 := Tryz.isAgg3
 z3 := Tryz.sizeOf3
 v3 := Tryz.zeroValue3
 t4 := Tryz.underlying4
 a4 := Tryz.isAgg4
 z4 := Tryz.sizeOf4
 v4 := Tryz.zeroValue4
 t5 := Tryz.underlying5
 a5 := Tryz.isAgg5
 z5 := Tryz.sizeOf5
 v5 := Tryz.zeroValue5
 t9 := Tryz.underlying9
 a9 := Tryz.isAgg9
 z9 := Tryz.sizeOf9
 v9 := Tryz.zeroValue9
 t20 := Tryz.underlying20
 a20 := Tryz.isAgg20
 z20 := Tryz.sizeOf20
 v20 := Tryz.zeroValue20
 t37 := Tryz.underlying46
 a37 := Tryz.isAgg46
 z37 := Tryz.sizeOf46
 v37 := Tryz.zeroValue46
 t46 := Tryz.underlying135
 a46 := Tryz.isAgg135
 z46 := Tryz.sizeOf135
 v46 := Tryz.zeroValue135
 t51 := Tryz.underlying168
 a51 := Tryz.isAgg168
 z51 := Tryz.sizeOf168
 v51 := Tryz.zeroValue168
 t53 := Tryz.underlying105
 a53 := Tryz.isAgg105
 z53 := Tryz.sizeOf105
 v53 := Tryz.zeroValue105
 t171 := Tryz.underlying155
 a171 := Tryz.isAgg155
 z171 := Tryz.sizeOf155
 v171 := Tryz.zeroValue155
 t173 := Tryz.underlying158
 a173 := Tryz.isAgg158
 z173 := Tryz.sizeOf158
 v173 := Tryz.zeroValue158
 t212 := Tryz.underlying167
 a212 := Tryz.isAgg167
 z212 := Tryz.sizeOf167
 v212 := Tryz.zeroValue167
 t213 := Tryz.underlying169
 a213 := Tryz.isAgg169
 z213 := Tryz.sizeOf169
 t232 := Tryz.underlying176
 a232 := Tryz.isAgg176
 z232 := Tryz.sizeOf176
 v232 := Tryz.zeroValue176
 t233 := Tryz.underlying177
 a233 := Tryz.isAgg177
 z233 := Tryz.sizeOf177
 v233 := Tryz.zeroValue177
 g17 := by kernel_rfl
 g18 := by kernel_rfl
 g19 := by kernel_rfl
 i0 := by kernel_rfl
 i2 := by kernel_rfl
 i3 := by kernel_rfl
 i4 := by kernel_rfl
 i5 := by kernel_rfl
 i9 := by kernel_rfl
 i20 := by kernel_rfl
 i37 := by kernel_rfl
 i46 := by kernel_rfl
 i51 := by kernel_rfl
 i53 := by kernel_rfl
 i171 := by kernel_rfl
 i173 := by kernel_rfl
 i212 := by kernel_rfl
 i232 := by kernel_rfl
 i233 := by kernel_rfl
 m17 := by kernel_rfl
 m18 := by kernel_rfl
 m19 := by kernel_rfl }
def lays156_ren : Go.Shelf.Ren := ⟨fun | 156 => 102 | 165 => 141 | 166 => 142 | 169 => 143 | 240 => 164 | 241 => 165 | 276 => 178 | 277 => 179 | n => n, fun | 31 => 22 | 9 => 9 | 3 => 3 | 4 => 4 | 0 => 0 | 20 => 20 | 72 => 142 | 76 => 146 | 70 => 140 | 37 => 46 | 75 => 145 | 127 => 160 | 164 => 171 | 5 => 5 | 80 => 115 | n => n, fun | n => n⟩
theorem lays156 : Go.Proofs.Lays.n156 Tryz.prog lays156_ren := {
 mixed := by kernel_rfl
 f156 := Tryz.func102.trans (congrArg some (by kernel_rfl))
 f165 := Tryz.func141.trans (congrArg some (by kernel_rfl))
 f166 := Tryz.func142.trans (congrArg some (by kernel_rfl))
 f169 := Tryz.func143.trans (congrArg some (by kernel_rfl))
 f240 := Tryz.func164.trans (congrArg some (by kernel_rfl))
 f241 := Tryz.func165.trans (congrArg some (by kernel_rfl))
 f276 := Tryz.func178.trans (congrArg some (by kernel_rfl))
 f277 := Tryz.func179.trans (congrArg some (by kernel_rfl))
 t0 := Tryz.underlying0
 a0 := Tryz.isAgg0
 z0 := Tryz.sizeOf0
 v0 := Tryz.zeroValue0
 t3 := Tryz.underlying3
 a3 := Tryz.isAgg3
 z3 := Tryz.sizeOf3
 v3 := Tryz.zeroValue3
 t4 := Tryz.underlying4
 a4 := Tryz.isAgg4
 z4 := Tryz.sizeOf4
 v4 := Tryz.zeroValue4
 t9 := Tryz.underlying9
 a9 := Tryz.isAgg9
 z9 := Tryz.sizeOf9
 v9 := Tryz.zeroValue9
 t20 := Tryz.underlying20
 a20 := Tryz.isAgg20
 z20 := Tryz.sizeOf20
 v20 := Tryz.zeroValue20
 t31 := Tryz.underlying22
 a31 := Tryz.isAgg22
 z31 := Tryz.sizeOf22
 v31 := Tryz.zeroValue22
 t37 := Tryz.underlying46
 a37 := Tryz.isAgg46
 z37 := Tryz.sizeOf46
 v37 := Tryz.zeroValue46
 t70 := Tryz.underlying140
 a70 := Tryz.isAgg140
 z70 := Tryz.sizeOf140
 v70 := Tryz.zeroValue140
 t72 := Tryz.underlying142
 a72 := Tryz.isAgg142
 z72 := Tryz.sizeOf142
 v72 := Tryz.zeroValue142
 t75 := Tryz.underlying145
 a75 := Tryz.isAgg145
 z75 := Tryz.sizeOf145
 v75 := Tryz.zeroValue145
 t76 := Tryz.underlying146
 a76 := Tryz.isAgg146
 z76 := Tryz.sizeOf146
 v76 := Tryz.zeroValue146
 t127 := Tryz.underlying160
 a127 := Tryz.isAgg160
 z127 := Tryz.sizeOf160
 v127 := Tryz.zeroValue160
 t164 := Tryz.underlying171
 a164 := Tryz.isAgg171
 z164 := Tryz.sizeOf171
 v164 := Tryz.zeroValue171 }
theorem extra156 : Builder.Extra Tryz.prog lays156_ren where
 sizeBuilder := by kernel_rfl
 liesBuilder := by kernel_rfl
 t5 := Tryz.underlying5
 a5 := Tryz.isAgg5
 z5 := Tryz.sizeOf5
 v5 := Tryz.zeroValue5
 infoByte := by kernel_rfl
 cellsByte := by kernel_rfl
 sizeByte := by kernel_rfl
 neB5 := by decide
def Tab (w : World) : Prop := Lib.TabIs Tryz.prog w "internal/strconv.uint64pow10" .u64 Lib.pow10Tab
theorem Tab.below {w w' : World} (h : Tab w) (hb : Below w.heap.size w w') : Tab w' := by
 unfold Tab Lib.TabIs World.var? at h ⊢
 cases hg : Program.globalNamed Tryz.prog "internal/strconv.uint64pow10" with
 | none => rw [hg] at h; cases h
 | some g =>
   rw [hg] at h
   simp only [Option.bind_some] at h ⊢
   have hlt : g < w.heap.size := by
    rcases Nat.lt_or_ge g w.heap.size with h' | h'
    · exact h'
    · rw [Array.getElem?_eq_none h'] at h; cases h
   rw [hb.block g hlt]
   exact h
theorem fmtInt_any (n : Int) (hn : I64 n) (w : World) (ht : Tab w) : Calls Tryz.prog 101 #[.int .i64 n, .int .i64 10] w fun e w' => e = .returned (.string (strOf (Lib.itoa n))) ∧ Below w.heap.size w w' :=
  (Any.strconv_FormatInt_10 lays173 n hn.1 hn.2 w ht).mono fun e w' ⟨h1, k, os, h2⟩ => ⟨h1, h2 ▸ Lib.below_grow _ w (Nat.le_refl _) k os⟩
theorem itoa_any (n : Int) (hn : I64 n) (w : World) (ht : Tab w) : Calls Tryz.prog 105 #[.int .i64 n] w fun e w' => e = .returned (.string (strOf (Lib.itoa n))) ∧ Below w.heap.size w w' :=
  (Any.strconv_Itoa lays171 n hn.1 hn.2 w ht).mono fun e w' ⟨h1, k, os, h2⟩ => ⟨h1, h2 ▸ Lib.below_grow _ w (Nat.le_refl _) k os⟩
theorem join_any (v : Value) (l : List ByteArray) (sep : ByteArray) (w : World) (hv : Strs w v l) (hn : l.length ≤ 140737488355328) (hlen : (Lib.join (l.map bsOf) (bsOf sep)).length ≤ 140737488355328) :
 Calls Tryz.prog 102 #[v, .string sep] w fun e w' => e = .returned (.string (strOf (Lib.join (l.map bsOf) (bsOf sep)))) ∧ Below w.heap.size w w' := by
 obtain ⟨a, c, rfl, hc, _⟩ := hv.shape
 by_cases h0 : l.length = 0
 · have hl := List.length_eq_zero_iff.1 h0
   subst hl
   exact (Any.strings_Join_none lays156 extra156 a c sep w).mono fun e w' ⟨h1, h2⟩ => ⟨h1, h2 ▸ Below.refl _ _⟩
 · obtain ⟨b, o, rfl, hb, _⟩ := hv.cell 0 (by omega)
   exact Any.strings_Join lays156 extra156 b o c l sep w (fun j x hx => by
     have hj : j < l.length := by
      rcases Nat.lt_or_ge j l.length with h | h
      · exact h
      · rw [List.getElem?_eq_none h] at hx; cases hx
     obtain ⟨b', o', e, h, _⟩ := hv.cell j hj
     cases e
     rw [List.getElem?_eq_getElem hj] at hx
     cases hx
     exact h) (World.block_lt_of_cell? w _ hb) hn hc hlen
theorem fmtBool_any (b : Bool) (w : World) : Calls Tryz.prog 100 #[.bool b] w fun e w' => e = .returned (.string (strOf (flagT b))) ∧ w' = w := by
  have HI : Hid (∀ w, Calls Tryz.prog 139 #[.bool b] w fun e w' => e = .returned (.string (strOf (flagT b))) ∧ w' = w) := hid fun w => by
    cases b
    all_goals
     go_enter Tryz.func139, Tryz.ntmps139
     go_wp2_with fail
     go_ret
     exact ⟨rfl, rfl⟩
  go_enter Tryz.func100, Tryz.ntmps100
  go_wp2_with fail
  refine (HI.out _).mono ?_
  rintro e w' ⟨rfl, rfl⟩
  go_wp2_with fail
  go_ret
  exact ⟨rfl, rfl⟩
theorem strOf_append (a b : List UInt8) : strOf a ++ strOf b = strOf (a ++ b) := by
 unfold strOf
 apply ByteArray.ext
 simp
theorem bsOf_strOf (l : List UInt8) : bsOf (strOf l) = l := rfl
theorem strOf_bsOf (s : ByteArray) : strOf (bsOf s) = s := rfl
theorem joinTail_mem {x : List UInt8} (sep : List UInt8) : ∀ {xs : List (List UInt8)}, x ∈ xs → x.length ≤ (Lib.joinTail sep xs).length
 | y :: ys, h => by
   have e : Lib.joinTail sep (y :: ys) = sep ++ (y ++ Lib.joinTail sep ys) := by simp [Lib.joinTail]
   rw [e, List.length_append, List.length_append]
   rcases List.mem_cons.1 h with rfl | h
   · omega
   · have := joinTail_mem sep h
     omega
theorem join_mem {x : List UInt8} {xs : List (List UInt8)} (sep : List UInt8) (h : x ∈ xs) : x.length ≤ (Lib.join xs sep).length := by
 cases xs with
 | nil => simp at h
 | cons y ys =>
   rw [Lib.join_cons, List.length_append]
   rcases List.mem_cons.1 h with rfl | h
   · omega
   · have := joinTail_mem sep h
     omega
theorem joinTail_len (sep : List UInt8) : ∀ xs : List (List UInt8), (∀ x ∈ xs, 1 ≤ x.length) → xs.length ≤ (Lib.joinTail sep xs).length
 | [], _ => Nat.zero_le _
 | y :: ys, h => by
   have e : Lib.joinTail sep (y :: ys) = sep ++ (y ++ Lib.joinTail sep ys) := by simp [Lib.joinTail]
   rw [e, List.length_append, List.length_append, List.length_cons]
   have := joinTail_len sep ys fun x hx => h x (by simp [hx])
   have := h y (by simp)
   omega
theorem join_len (sep : List UInt8) (xs : List (List UInt8)) (h : ∀ x ∈ xs, 1 ≤ x.length) : xs.length ≤ (Lib.join xs sep).length := by
 cases xs with
 | nil => exact Nat.zero_le _
 | cons y ys =>
   rw [Lib.join_cons, List.length_append, List.length_cons]
   have := joinTail_len sep ys fun x hx => h x (by simp [hx])
   have := h y (by simp)
   omega
theorem drop_at {α : Type} (l : List α) (i : Nat) (hi : i < l.length) : l.drop i = l[i] :: l.drop (i + 1) := List.drop_eq_getElem_cons hi
theorem take_at {α : Type} (l : List α) (i : Nat) (hi : i < l.length) : l.take (i + 1) = l.take i ++ [l[i]] := List.take_succ_eq_append_getElem hi
section
variable {w : World} {a : Option Addr} {n cap : Nat}
theorem latEl {l : List Lat} (h : SlRd w 6 (latRd w) (.slice a n cap) l) (i : Nat) (hi : i < l.length) :
 ∃ p b o an cn ap cp ar cr, l[i]? = some p ∧ p ∈ l ∧ l.drop i = p :: l.drop (i + 1) ∧ l.take (i + 1) = l.take i ++ [p] ∧ a = some ⟨b, o, none⟩ ∧ latRd w p [.int .i64 p.kind, .int .i64 p.lo, .int .i64 p.hi, .slice an p.names.length cn, .slice ap p.parts.length cp, .slice ar p.rules.length cr] ∧ CellsAt w b (o + i * 6) [.int .i64 p.kind, .int .i64 p.lo, .int .i64 p.hi, .slice an p.names.length cn, .slice ap p.parts.length cp, .slice ar p.rules.length cr] := by
 obtain ⟨b, o, an, cn, ap, cp, ar, cr, h1, h2, h3⟩ := latCs_low h i hi
 exact ⟨l[i], b, o, an, cn, ap, cp, ar, cr, List.getElem?_eq_getElem hi, List.getElem_mem hi, drop_at l i hi, take_at l i hi, h1, h2, h3⟩
theorem valEl {l : List Val} (h : SlRd w 4 (valRd w) (.slice a n cap) l) (i : Nat) (hi : i < l.length) :
 ∃ p b o bn dn bp dp be de, l[i]? = some p ∧ p ∈ l ∧ l.drop i = p :: l.drop (i + 1) ∧ l.take (i + 1) = l.take i ++ [p] ∧ a = some ⟨b, o, none⟩ ∧ valRd w p [.int .i64 p.n, .slice bn p.names.length dn, .slice bp p.parts.length dp, .slice be p.entries.length de] ∧ CellsAt w b (o + i * 4) [.int .i64 p.n, .slice bn p.names.length dn, .slice bp p.parts.length dp, .slice be p.entries.length de] := by
 obtain ⟨b, o, an, cn, ap, cp, ar, cr, h1, h2, h3⟩ := valCs_low h i hi
 exact ⟨l[i], b, o, an, cn, ap, cp, ar, cr, List.getElem?_eq_getElem hi, List.getElem_mem hi, drop_at l i hi, take_at l i hi, h1, h2, h3⟩
theorem strEl {l : List ByteArray} (h : Strs w (.slice a n cap) l) (i : Nat) (hi : i < l.length) :
 ∃ s b o, l[i]? = some s ∧ s ∈ l ∧ l.drop i = s :: l.drop (i + 1) ∧ l.take (i + 1) = l.take i ++ [s] ∧ a = some ⟨b, o, none⟩ ∧ w.cell? ⟨b, o + i, none⟩ = some (.string s) ∧ s.size ≤ maxLen := by
 obtain ⟨b, o, h1, h2, h3⟩ := h.cell i hi
 exact ⟨l[i], b, o, List.getElem?_eq_getElem hi, List.getElem_mem hi, drop_at l i hi, take_at l i hi, h1, h2, h3⟩
theorem entEl {l : List En} (h : SlRd w 2 (entryRd w) (.slice a n cap) l) (i : Nat) (hi : i < l.length) :
 ∃ e b o ea ec, l[i]? = some e ∧ e ∈ l ∧ l.drop i = e :: l.drop (i + 1) ∧ l.take (i + 1) = l.take i ++ [e] ∧ a = some ⟨b, o, none⟩ ∧ SlRd w 2 tickRd (.slice ea e.clock.length ec) e.clock ∧ e.name.size ≤ maxLen ∧ CellsAt w b (o + i * 2) [.slice ea e.clock.length ec, .string e.name] := by
 obtain ⟨b, o, cs, h1, _, hc, v, rfl, hk, hn⟩ := h.at i hi
 obtain ⟨ea, ec, rfl, _, _⟩ := hk.shape
 exact ⟨l[i], b, o, ea, ec, List.getElem?_eq_getElem hi, List.getElem_mem hi, drop_at l i hi, take_at l i hi, h1, hk, hn, hc⟩
theorem tickEl {l : List Tk} (h : SlRd w 2 tickRd (.slice a n cap) l) (i : Nat) (hi : i < l.length) :
 ∃ t b o, l[i]? = some t ∧ t ∈ l ∧ l.drop i = t :: l.drop (i + 1) ∧ l.take (i + 1) = l.take i ++ [t] ∧ a = some ⟨b, o, none⟩ ∧ (I64 t.process ∧ I64 t.n) ∧ CellsAt w b (o + i * 2) [.int .i64 t.process, .int .i64 t.n] := by
 obtain ⟨b, o, cs, h1, _, hc, rfl, hk⟩ := h.at i hi
 exact ⟨l[i], b, o, List.getElem?_eq_getElem hi, List.getElem_mem hi, drop_at l i hi, take_at l i hi, h1, hk, hc⟩
theorem CellsAt.two {w : World} {b o : Nat} {x0 x1 : Value} (h : CellsAt w b o [x0, x1]) : w.cell? ⟨b, o, none⟩ = some x0 ∧ w.cell? ⟨b, o + 1, none⟩ = some x1 := ⟨h 0 (by simp), h 1 (by simp)⟩
end
end Go.Proofs.YtmdjnaobllajmaaGreatDoor
