/-
  What the statements of the chapter share, part 19: SS2, SS3, SS4, OB, RS, RM, WW, WV, LW4.
-/
import Derived.Test.YtidpdgdakghfnaaGreatW18
import Derived.Shelf.Slices.In.SortNone
import Derived.Shelf.Sort.Plain
set_option linter.unusedVariables false
set_option linter.unusedSimpArgs false
set_option maxRecDepth 100000
set_option maxHeartbeats 8000000
namespace Go.Proofs.YtidpdgdakghfnaaGreat
open Go.RowKit
section
open Go.Shelf Go.RowKit
def laysSrt_ren : Go.Shelf.Ren := ⟨fun | 190 => 94 | 125 => 76 | 258 => 143 | 128 => 130 | 129 => 131 | 302 => 199 | 303 => 200 | 304 => 201 | 305 => 202 | 306 => 203 | 307 => 204 | 308 => 205 | 309 => 206 | 310 => 207 | 333 => 250 | 329 => 184 | 330 => 185 | 334 => 251 | 335 => 252 | 336 => 253 | 344 => 273 | n => n, fun | 31 => 42 | 9 => 9 | 3 => 3 | 46 => 103 | 0 => 0 | 51 => 146 | 53 => 148 | 4 => 4 | 183 => 140 | 182 => 139 | 131 => 77 | 5 => 5 | 218 => 191 | 222 => 195 | 228 => 229 | 229 => 230 | n => n, fun | n => n⟩
theorem laysSrt : Go.Proofs.Lays.n190 Tryz.prog laysSrt_ren := {
  mixed := by kernel_rfl
  f125 := Tryz.func76.trans (congrArg some (by kernel_rfl))
  f128 := Tryz.func130.trans (congrArg some (by kernel_rfl))
  f129 := Tryz.func131.trans (congrArg some (by kernel_rfl))
  f190 := Tryz.func94.trans (congrArg some (by kernel_rfl))
  f258 := Tryz.func143.trans (congrArg some (by kernel_rfl))
  f302 := Tryz.func199.trans (congrArg some (by kernel_rfl))
  f303 := Tryz.func200.trans (congrArg some (by kernel_rfl))
  f304 := Tryz.func201.trans (congrArg some (by kernel_rfl))
  f305 := Tryz.func202.trans (congrArg some (by kernel_rfl))
  f306 := Tryz.func203.trans (congrArg some (by kernel_rfl))
  f307 := Tryz.func204.trans (congrArg some (by kernel_rfl))
  f308 := Tryz.func205.trans (congrArg some (by kernel_rfl))
  f309 := Tryz.func206.trans (congrArg some (by kernel_rfl))
  f310 := Tryz.func207.trans (congrArg some (by kernel_rfl))
  f329 := Tryz.func184.trans (congrArg some (by kernel_rfl))
  f330 := Tryz.func185.trans (congrArg some (by kernel_rfl))
  f333 := Tryz.func250.trans (congrArg some (by kernel_rfl))
  f334 := Tryz.func251.trans (congrArg some (by kernel_rfl))
  f335 := Tryz.func252.trans (congrArg some (by kernel_rfl))
  f336 := Tryz.func253.trans (congrArg some (by kernel_rfl))
  f344 := Tryz.func273.trans (congrArg some (by kernel_rfl))
  t0 := Tryz.underlying0
  a0 := Tryz.isAgg0
  z0 := Tryz.sizeOf0
  v0 := Tryz.zeroValue0
  t3 := Tryz.underlying3
  a3 := Tryz.isAgg3
  z3 := Tryz.sizeOf3
  v3 := Tryz.zeroValue3
  t4 := Tryz.underlying4
  a4 := Tryz.isAgg4
  z4 := Tryz.sizeOf4
  v4 := Tryz.zeroValue4
  t5 := Tryz.underlying5
  a5 := Tryz.isAgg5
  z5 := Tryz.sizeOf5
  v5 := Tryz.zeroValue5
  t9 := Tryz.underlying9
  a9 := Tryz.isAgg9
  z9 := Tryz.sizeOf9
  v9 := Tryz.zeroValue9
  t31 := Tryz.underlying42
  a31 := Tryz.isAgg42
  z31 := Tryz.sizeOf42
  v31 := Tryz.zeroValue42
  t46 := Tryz.underlying103
  a46 := Tryz.isAgg103
  z46 := Tryz.sizeOf103
  v46 := Tryz.zeroValue103
  t51 := Tryz.underlying146
  a51 := Tryz.isAgg146
  z51 := Tryz.sizeOf146
  v51 := Tryz.zeroValue146
  t53 := Tryz.underlying148
  a53 := Tryz.isAgg148
  z53 := Tryz.sizeOf148
  v53 := Tryz.zeroValue148
  t131 := Tryz.underlying77
  a131 := Tryz.isAgg77
  z131 := Tryz.sizeOf77
  v131 := Tryz.zeroValue77
  t182 := Tryz.underlying139
  a182 := Tryz.isAgg139
  z182 := Tryz.sizeOf139
  v182 := Tryz.zeroValue139
  t183 := Tryz.underlying140
  a183 := Tryz.isAgg140
  z183 := Tryz.sizeOf140
  v183 := Tryz.zeroValue140
  t218 := Tryz.underlying191
  a218 := Tryz.isAgg191
  z218 := Tryz.sizeOf191
  v218 := Tryz.zeroValue191
  t222 := Tryz.underlying195
  a222 := Tryz.isAgg195
  z222 := Tryz.sizeOf195
  v222 := Tryz.zeroValue195
  t228 := Tryz.underlying229
  a228 := Tryz.isAgg229
  z228 := Tryz.sizeOf229
  v228 := Tryz.zeroValue229
  t229 := Tryz.underlying230
  a229 := Tryz.isAgg230
  z229 := Tryz.sizeOf230
  v229 := Tryz.zeroValue230 }
section
variable {w : World} {hd : List Value} {h : List Ob}
def sStr (s : ByteArray) : Value := .string s
theorem flat_sX : ∀ l : List ByteArray, (l.map sX).flatten = l.map fun s => D.v (.string s)
 | [] => rfl
 | x :: t => by rw [List.map_cons, List.flatten_cons, flat_sX t]; rfl
theorem rdL_strs {W : World} : ∀ {l : List ByteArray} {cs : List Value}, rdL hd h W (l.map fun s => D.v (.string s)) cs ↔ cs = l.map sStr
 | [], cs => by rw [List.map_nil, rdL]; rfl
 | x :: t, cs => by
  rw [List.map_cons, rdL]
  constructor
  · rintro ⟨u, v, rfl, h1, h2⟩
    rw [rd] at h1
    rw [rdL_strs.1 h2, h1]; rfl
  · rintro rfl
    exact ⟨_, _, rfl, by rw [rd]; rfl, rdL_strs.2 rfl⟩
def bytesOf (s : ByteArray) : List UInt8 := s.data.toList
theorem enc_bytes (s : ByteArray) : encStr (bytesOf s) = .string s := by
 unfold encStr bytesOf
 congr 1
def strOf (b : List UInt8) : ByteArray := ⟨b.toArray⟩
theorem strOf_bytes (s : ByteArray) : strOf (bytesOf s) = s := by unfold strOf bytesOf; rfl
variable (G : Nat → D)
theorem sortS_d (l : List ByteArray) (hsz : l.length ≤ 1000000) {h : List Ob} {i : Nat} (hi : h[i]? = some (.buf 9 1 (l.map sX))) :
 Does Tryz.prog G 94 h [.buf i l.length] (fun h' r => ∃ l' : List ByteArray, l'.Perm l ∧ l'.Pairwise (fun x y => ¬ ltS y x) ∧ h' = h.set i (.buf 9 1 (l'.map sX)) ∧ r = .tup []) := by
 intro w hd p vs ok ha
 rw [rdL] at ha
 obtain ⟨u, t, rfl, hu, ha⟩ := ha
 rw [rdL] at ha
 subst ha
 rw [rd] at hu
 obtain ⟨_, _, hu⟩ := hu
 have hv := (hu _ 1 _ hi).2 (by simp)
 obtain ⟨cs, hown, hrd, hrows, hp⟩ := ok.ob i _ u hi hv
 rw [List.length_map] at hown
 rw [flat_sX, rdL_strs] at hrd
 subst hrd
 rcases hl : l with _ | ⟨x0, t0⟩
 · subst hl
   obtain ⟨a, c, hua⟩ : ∃ a c, u = .slice a 0 c := by
    rcases hown.2 with ⟨rfl, _⟩ | ⟨gg, cap, cur, rfl, _⟩ <;> exact ⟨_, _, rfl⟩
   subst hua
   refine (Any.slices_Sort_string_none laysSrt a c w).mono ?_
   rintro e w' ⟨rfl, rfl⟩
   exact ⟨_, hd, h, .tup [], p, rfl, ⟨[], .refl _, .nil, by rw [set_same hi], rfl⟩, ok, by rw [rd]; exact ⟨#[], rfl, by rw [rdL]⟩, .refl _ _ _ _⟩
 rw [← hl]
 have hn0 : l.length ≠ 0 := by rw [hl]; simp
 clear hl
 rcases hown.2 with ⟨_, h0⟩ | ⟨B, cap, cur, rfl, _, hB, hcap, hmax, hcur, htake⟩
 · exact absurd h0 hn0
 have hBl := (Array.getElem?_eq_some_iff.1 hB).1
 have hcu : l.length ≤ cur.size := by rw [hcur]; omega
 rw [Nat.mul_one] at htake hcur
 have hH : Go.Sort.Holds encStr w B 0 (l.map bytesOf).toArray := by
  intro j hj
  have hjl : j < l.length := by simpa using hj
  have e1 : cur[j]? = some (.string l[j]) := by
   have : (cur.toList.take l.length)[j]? = (l.map sStr)[j]? := by rw [htake]
   rw [List.getElem?_take, if_pos hjl, Array.getElem?_toList] at this
   rw [this, List.getElem?_map, List.getElem?_eq_getElem hjl]; rfl
  have e2 : (l.map bytesOf).toArray[j]! = bytesOf l[j] := by
   rw [getElem!_pos _ j hj]; simp
  rw [e2, enc_bytes]
  constructor
  · simp [World.cell?, hB, e1]
  · simp [World.frozen?, hB]
 have HS := Any.slices_Sort_string laysSrt B 0 cap (l.map bytesOf) w hH hBl (by simp; omega)
 rw [List.length_map] at HS
 refine HS.mono ?_
 rintro e w' ⟨rfl, m, os, rfl⟩
 generalize hl2 : ((l.map bytesOf).mergeSort fun x y => decide (x ≤ y)) = l2
 have hperm : l2.Perm (l.map bytesOf) := by rw [← hl2]; exact List.mergeSort_perm _ _
 have hsort : l2.Pairwise (fun x y => x ≤ y) := by
  have := List.pairwise_mergeSort (le := fun x y : List UInt8 => decide (x ≤ y)) (fun a b c h1 h2 => by simp only [decide_eq_true_eq] at *; exact List.le_trans h1 h2) (fun a b => by simp only [Bool.or_eq_true, decide_eq_true_eq]; exact List.le_total a b) (l.map bytesOf)
  rw [hl2] at this
  exact this.imp fun h => by simpa using h
 have hlen : l2.length = l.length := by rw [hperm.length_eq, List.length_map]
 have e1 : (Go.Sort.ahead w m).heap = w.heap := rfl
 have hblk : (Go.Sort.grow (Go.Sort.putRow encStr (Go.Sort.ahead w m) B 0 l2.toArray) os).heap[B]? = some (.cells (Go.Sort.putCells encStr 0 l2.toArray cur) 9 (0, 0)) := by
  rw [Go.Sort.heap_grow_old _ _ (by rw [Go.Sort.size_putRow, e1]; exact hBl)]
  unfold Go.Sort.putRow Go.Sort.mapBlock
  simp only [Array.getElem?_modify, if_true, e1, hB, Option.map_some, Go.Sort.onCells]
 have hpc : (Go.Sort.putCells encStr 0 l2.toArray cur).toList.take l.length = (l2.map strOf).map sStr := by
  apply List.ext_getElem?
  intro j
  rw [List.getElem?_take]
  by_cases hj : j < l.length
  · rw [if_pos hj, Array.getElem?_toList]
    have hjc : j < cur.size := by omega
    unfold Go.Sort.putCells
    rw [Array.getElem?_mapIdx, Array.getElem?_eq_getElem hjc]
    have hjs : j < l2.toArray.size := by simp; omega
    simp only [Option.map_some, Nat.zero_add, Nat.zero_le, true_and, Nat.sub_zero]
    rw [if_pos hjs, getElem!_pos _ j hjs, List.getElem?_map, List.getElem?_map, List.getElem?_eq_getElem (by omega)]
    simp only [Option.map_some, List.getElem_toArray]
    rfl
  · rw [if_neg hj, List.getElem?_eq_none (by simp; omega)]
 obtain ⟨o, ev⟩ := Ok.repl (ob' := .buf 9 1 ((l2.map strOf).map sX)) (u' := .slice (some ⟨B, 0, none⟩) l.length cap) (w' := Go.Sort.grow (Go.Sort.putRow encStr (Go.Sort.ahead w m) B 0 l2.toArray) os) ok hi hv rfl rfl rfl rfl (by rw [Go.Sort.size_grow, Go.Sort.size_putRow, e1]; omega)
  (fun b hb hne => by
   have hbB : b ≠ B := fun e => hne (by rw [e]; rfl)
   rw [Go.Sort.heap_grow_old _ _ (by rw [Go.Sort.size_putRow, e1]; exact hb)]
   unfold Go.Sort.putRow Go.Sort.mapBlock
   simp only [Array.getElem?_modify, if_neg (Ne.symm hbB), e1]) (fun b hb => .inl hb) (fun _ _ => rfl)
  (fun e kk xs' he => by cases he; exact ⟨_, _, rfl, by simp [hlen], fun _ => rfl⟩)
  (fun c s => by
   refine ⟨(l2.map strOf).map sStr, ?_, ?_, one_map _, fun gg hg => ?_⟩
   · rw [List.length_map, List.length_map, hlen]
     refine ⟨by simp [hlen], .inr ⟨B, cap, _, rfl, Nat.zero_le _, hblk, hcap, hmax, by rw [← hcur]; simp [Go.Sort.putCells], ?_⟩⟩
     rw [Nat.mul_one]; exact hpc
   · rw [flat_sX]; exact rdL_strs.2 rfl
   · cases hg; simp [hp B rfl])
  (h0 := Nat.le_add_right _ _)
 refine ⟨_, _, _, .tup [], _, rfl, ⟨l2.map strOf, ?_, ?_, rfl, rfl⟩, o, by rw [rd]; exact ⟨#[], rfl, by rw [rdL]⟩, ev⟩
 · have := hperm.map strOf
   rw [List.map_map] at this
   have hid : (strOf ∘ bytesOf) = id := funext fun s => strOf_bytes s
   rwa [hid, List.map_id] at this
 · rw [List.pairwise_map]
   exact hsort.imp fun {a b} hab hlt => List.not_lt.2 hab hlt
end
end
section
set_option maxRecDepth 100000
set_option maxHeartbeats 2000000
attribute [local irreducible] on aOp
attribute [local go_sem] decide_true decide_false Bool.not_true Bool.not_false
attribute [local simp] byD_len
def CpS (l : List ByteArray) (k : Nat) : Prop := ∃ p, l[k - 1]? = some p ∧ compactS l = l.take k ++ cptS p (l.drop k)
theorem CpS.start {l : List ByteArray} (h : 1 ≤ l.length) : CpS l 1 := by
 cases l with
 | nil => simp at h
 | cons x t => exact ⟨x, rfl, by simp [compactS]⟩
theorem CpS.next {l : List ByteArray} {k : Nat} {p y : ByteArray} (h : CpS l k) (hp : l[k - 1]? = some p) (hy : l[k]? = some y) (hne : ¬ y = p) : CpS l (k + 1) := by
 obtain ⟨p', h1, h2⟩ := h
 rw [hp] at h1; cases h1
 refine ⟨y, by simpa using hy, ?_⟩
 rw [h2, drop_get hy, cptS, if_neg hne, List.take_add_one, hy]
 simp
theorem CpS.all {l : List ByteArray} {k : Nat} (h : CpS l k) (hk : l.length ≤ k) : compactS l = l := by
 obtain ⟨p, _, h2⟩ := h
 rw [h2, List.drop_eq_nil_of_le hk, List.take_of_length_le hk, cptS, List.append_nil]
theorem zero_str : zeroD Tryz.prog 9 = some [.v (.string ⟨#[]⟩)] := by kernel_rfl
variable (G : Nat → D) (hG : ∀ g, low 0 (G g))
include hG
omit hG in
theorem compactS_d (l : List ByteArray) (hsz : l.length ≤ 1000000) (T : List Ob) :
 Does Tryz.prog G 95 (sG (l.map sX) T) [.buf 0 l.length] (fun h' r => ∃ rows, h' = sG rows T ∧ rows.length = l.length ∧ rows.take (compactS l).length = (compactS l).map sX ∧ (r = .win 0 l.length 0 (compactS l).length ∨ (r = .buf 0 l.length ∧ compactS l = l))) := by
 refine does_keep Tryz.func95 rfl (Nat.le_of_ble_eq_true rfl) ?_
 simp only [Tryz.ntmps95]
 by_cases h2 : l.length < 2
 · have h2' : (l.length : Int) < 2 := by omega
   repeat' first
    | refine aw_seq' ?_
    | refine aw_region' ?_
    | refine ao_nil ?_
    | (refine ao1 rfl rfl fun K HK => ?_; simp only [go_sem, ↓reduceIte, Nat.reduceEqDiff, Nat.reduceAdd, Nat.reduceLeDiff, Nat.reduceBEq, Nat.reduceMul, Int.reduceEq, Int.reduceLT, Int.reduceLE, h2'] <;> (refine HK _ _ ?_; clear HK K))
    | refine aw_if1 rfl ?_
    | refine aw_ret ?_
    | refine thenS_r ?_
   have hc : compactS l = l := by
    rcases l with _ | ⟨x, _ | ⟨y, t⟩⟩
    · rfl
    · rfl
    · exfalso; simp only [List.length_cons] at h2; omega
   all_goals exact ⟨.inr rfl, [.buf 0 l.length], rfl, l.map sX, rfl, by simp, by rw [hc]; exact List.take_of_length_le (by simp), .inr ⟨rfl, hc⟩⟩
 have h2' : ¬ (l.length : Int) < 2 := by omega
 repeat' first
  | refine aw_seq' ?_
  | refine aw_region' ?_
  | refine aw_block ?_
  | refine ao_nil ?_
  | (refine ao1 rfl rfl fun K HK => ?_; simp only [go_sem, ↓reduceIte, Nat.reduceEqDiff, Nat.reduceAdd, Nat.reduceLeDiff, Nat.reduceBEq, Nat.reduceMul, Int.reduceEq, Int.reduceLT, Int.reduceLE, h2'] <;> (refine HK _ _ ?_; clear HK K))
  | refine aw_if0 rfl ?_
  | refine aw_skip ?_
 refine aw_for (fun m e h' => ∃ k : Nat, 1 ≤ k ∧ k ≤ l.length ∧ m = l.length - k ∧ CpS l k ∧ h' = sG (l.map sX) T ∧ e 0 = .buf 0 l.length ∧ e 3 = .v (.int .i64 k)) (l.length - 1) ⟨1, Nat.le_refl _, by omega, rfl, CpS.start (by omega), rfl, rfl, rfl⟩ ?_
 rintro m e h' ⟨k, hk1, hk, rfl, hC, rfl, e0, e3⟩
 by_cases hlt : k < l.length
 rotate_left
 · skip
   repeat' first
    | refine aw_seq' ?_
    | refine aw_region' ?_
    | refine aw_block ?_
    | refine ao_nil ?_
    | ((first | refine ao1 rfl rfl fun K HK => ?_ | refine aq1 rfl rfl fun K HK => ?_); simp only [go_sem, ↓reduceIte, Nat.reduceEqDiff, Nat.reduceAdd, Nat.reduceLeDiff, Nat.reduceBEq, Nat.reduceMul, Int.reduceEq, Int.reduceLT, Int.reduceLE, e0, e3]; (first | refine splitB (fun hq => ?_) (fun hq => ?_) | skip) <;> ((first | refine HK _ _ ?_ | refine HK _ _ rfl ?_); clear HK K))
    | (refine aw_draw mixd (by kernel_rfl) ?_)
    | refine aw_if1 rfl ?_
    | refine aw_if0 rfl ?_
    | refine aw_skip ?_
    | refine aw_exit ?_
    | refine aw_ret ?_
    | (exfalso; omega)
   have hc := hC.all (by omega)
   exact ⟨.inr rfl, [.buf 0 l.length], rfl, l.map sX, rfl, by simp, by rw [hc]; exact List.take_of_length_le (by simp), .inr ⟨rfl, hc⟩⟩
 have hy : l[k]? = some l[k] := List.getElem?_eq_getElem hlt
 have hp : l[k - 1]? = some l[k - 1] := List.getElem?_eq_getElem (by omega)
 generalize l[k] = y at hy
 generalize l[k - 1] = p at hp
 have hll : (l.map sX).length = l.length := List.length_map _
 have wk : IntKind.i64.wrap ((k : Int) + 1) = (k : Int) + 1 := IntWalk.i64_in _ (by omega)
 have wm : IntKind.i64.wrap ((k : Int) - 1) = ((k - 1 : Nat) : Int) := by rw [show (k : Int) - 1 = ((k - 1 : Nat) : Int) by omega]; exact IntWalk.i64_in _ (by omega)
 have hyr : (l.map sX)[((k : Nat) : Int).toNat]? = some (sX y) := by rw [Int.toNat_natCast, List.getElem?_map, hy]; rfl
 have hpr : (l.map sX)[((k - 1 : Nat) : Int).toNat]? = some (sX p) := by rw [Int.toNat_natCast, List.getElem?_map, hp]; rfl
 by_cases hz : y = p
 rotate_left
 · have hd : decide (y = p) = false := decide_eq_false hz
   repeat' first
    | (refine aS_idxB rfl rfl rfl rfl sG_0 hll (by rw [elT_42]; exact szT_9) (by omega) (by omega) ?_)
    | (refine aS_loadB rfl rfl rfl sG_0 hll hyr (getS _) ?_)
    | (refine aS_loadB rfl rfl rfl sG_0 hll hpr (getS _) ?_)
    | refine aw_seq' ?_
    | refine aw_region' ?_
    | refine aw_block ?_
    | refine ao_nil ?_
    | ((first | refine ao1 rfl rfl fun K HK => ?_ | refine aS1 rfl rfl fun K HK => ?_); simp only [go_sem, ↓reduceIte, Nat.reduceEqDiff, Nat.reduceAdd, Nat.reduceLeDiff, Nat.reduceBEq, Nat.reduceMul, Int.reduceEq, Int.reduceLT, Int.reduceLE, e0, e3, wk, wm, hd]; (first | refine splitB (fun hq => ?_) (fun hq => ?_) | skip) <;> ((first | refine HK _ _ ?_ | refine HK _ _ rfl ?_); clear HK K))
    | (refine aw_drawE mixd (by kernel_rfl) ?_)
    | refine aS_nil (by simp only [List.reverse_cons, List.reverse_nil, List.nil_append, List.cons_append, chkAll, chk1]; repeat' (first | exact trivial | refine And.intro ?_ ?_ | exact .inr compat_pl | exact .inr compat_pr | exact .inr compat_rr)) ?_
    | refine aw_if1 rfl ?_
    | refine aw_if0 rfl ?_
    | refine aw_skip ?_
    | refine aw_exit ?_
    | refine aw_ret ?_
    | refine thenS_n ?_
    | (exfalso; omega)
   exact ⟨rfl, l.length - (k + 1), by omega, k + 1, by omega, by omega, rfl, hC.next hp hy hz, rfl, e0, rfl⟩
 have hd : decide (y = p) = true := decide_eq_true hz
 repeat' first
  | (refine ao_from rfl rfl rfl rfl sG_0 hll (by rw [elT_42]; exact szT_9) (Nat.le_of_lt hlt) ?_)
  | (refine aS_idxB rfl rfl rfl rfl sG_0 hll (by rw [elT_42]; exact szT_9) (by omega) (by omega) ?_)
  | (refine aS_loadB rfl rfl rfl sG_0 hll hyr (getS _) ?_)
  | (refine aS_loadB rfl rfl rfl sG_0 hll hpr (getS _) ?_)
  | refine aw_seq' ?_
  | refine aw_region' ?_
  | refine aw_block ?_
  | refine ao_nil ?_
  | ((first | refine ao1 rfl rfl fun K HK => ?_ | refine aS1 rfl rfl fun K HK => ?_); simp only [go_sem, ↓reduceIte, Nat.reduceEqDiff, Nat.reduceAdd, Nat.reduceLeDiff, Nat.reduceBEq, Nat.reduceMul, Int.reduceEq, Int.reduceLT, Int.reduceLE, e0, e3, wk, wm, hd]; (first | refine splitB (fun hq => ?_) (fun hq => ?_) | skip) <;> ((first | refine HK _ _ ?_ | refine HK _ _ rfl ?_); clear HK K))
  | (refine aw_drawE mixd (by kernel_rfl) ?_)
  | refine aS_nil (by simp only [List.reverse_cons, List.reverse_nil, List.nil_append, List.cons_append, chkAll, chk1]; repeat' (first | exact trivial | refine And.intro ?_ ?_ | exact .inr compat_pl | exact .inr compat_pr | exact .inr compat_rr)) ?_
  | refine aw_if1 rfl ?_
  | refine aw_if0 rfl ?_
  | refine aw_skip ?_
  | refine aw_exit ?_
  | refine aw_ret ?_
  | (exfalso; omega)
 obtain ⟨p', hp1, hC2⟩ := hC
 rw [hp] at hp1; cases hp1
 rw [drop_get hy, cptS, if_pos hz] at hC2
 refine aw_for (fun m e h' => ∃ (k2 K kk : Nat) (rows : List (List D)) (q : ByteArray) (kept : List ByteArray), 1 ≤ k2 ∧ K = k + k2 ∧ K ≤ l.length ∧ m = l.length - K ∧ kk = kept.length ∧ kk < K ∧ l[K - 1]? = some q ∧ compactS l = kept ++ cptS q (l.drop K) ∧ rows.length = l.length ∧ (∀ r ∈ rows, r.length = 1) ∧ rows.take kk = kept.map sX ∧ (∀ j, K - 1 ≤ j → rows[j]? = (l.map sX)[j]?) ∧ h' = sG rows T ∧ e 0 = .buf 0 l.length ∧ e 3 = .v (.int .i64 kk) ∧ e 4 = .win 0 l.length k l.length ∧ e 5 = .v (.int .i64 k2)) (l.length - (k + 1))
  ⟨1, k + 1, k, l.map sX, y, l.take k, Nat.le_refl _, rfl, hlt, rfl, by simp; omega, by omega, by simpa using hy, hC2, by simp, one_map l, by rw [List.map_take], fun _ _ => rfl, rfl, e0, e3, rfl, rfl⟩ ?_
 clear e0 e3 wk wm hyr hpr hC2 hd hz hp hy
 rintro m e h' ⟨k2, K, kk, rows, q, kept, h21, hK, hKl, rfl, hkk, hkK, hq, hC, hrl, hr6, hrt, hrr, rfl, e0, e3, e4, e5⟩
 by_cases hlt2 : K < l.length
 rotate_left
 · skip
   have hc : compactS l = kept := by rw [hC, List.drop_eq_nil_of_le (by omega), cptS, List.append_nil]
   repeat' first
    | (refine ao_lenW rfl rfl rfl (by kernel_rfl) ?_)
    | (refine ao_from rfl rfl rfl rfl sG_0 hrl (by rw [elT_42]; exact szT_9) (by omega) ?_)
    | (refine ao_clrW rfl rfl sG_0 hrl elT_42 zero_str rfl (by decide) rfl (by omega) (Nat.le_refl _) fun ys hyl hyt => ?_)
    | (refine ao_upto rfl rfl rfl rfl rfl hyl (by rw [elT_42]; exact szT_9) (by omega) ?_)
    | refine aw_seq' ?_
    | refine aw_region' ?_
    | refine aw_block ?_
    | refine ao_nil ?_
    | ((first | refine ao1 rfl rfl fun K HK => ?_ | refine aq1 rfl rfl fun K HK => ?_); simp only [go_sem, ↓reduceIte, Nat.reduceEqDiff, Nat.reduceAdd, Nat.reduceLeDiff, Nat.reduceBEq, Nat.reduceMul, Int.reduceEq, Int.reduceLT, Int.reduceLE, e0, e3, e4, e5]; (first | refine splitB (fun hq => ?_) (fun hq => ?_) | skip) <;> ((first | refine HK _ _ ?_ | refine HK _ _ rfl ?_); clear HK K))
    | (refine aw_draw mixd (by kernel_rfl) ?_)
    | refine aw_if1 rfl ?_
    | refine aw_if0 rfl ?_
    | refine aw_skip ?_
    | refine aw_exit ?_
    | refine aw_ret ?_
    | refine thenS_r ?_
    | refine inB_r ?_
    | (exfalso; omega)
   exact ⟨.inr rfl, [.win 0 l.length 0 kk], rfl, ys, rfl, hyl, by rw [hc, ← hkk, hyt, hrt], .inl (by rw [hc, ← hkk]; rfl)⟩
 have hy : l[K]? = some l[K] := List.getElem?_eq_getElem hlt2
 generalize l[K] = z at hy
 have wk : IntKind.i64.wrap ((k2 : Int) + 1) = (k2 : Int) + 1 := IntWalk.i64_in _ (by omega)
 have wkk : IntKind.i64.wrap ((kk : Int) + 1) = ((kk + 1 : Nat) : Int) := IntWalk.i64_in _ (by omega)
 have wm : IntKind.i64.wrap ((k2 : Int) - 1) = ((k2 - 1 : Nat) : Int) := by rw [show (k2 : Int) - 1 = ((k2 - 1 : Nat) : Int) by omega]; exact IntWalk.i64_in _ (by omega)
 have hzr : rows[k + ((k2 : Nat) : Int).toNat]? = some (sX z) := by rw [Int.toNat_natCast, ← hK, hrr K (by omega), List.getElem?_map, hy]; rfl
 have hqr : rows[k + ((k2 - 1 : Nat) : Int).toNat]? = some (sX q) := by rw [Int.toNat_natCast, show k + (k2 - 1) = K - 1 by omega, hrr (K - 1) (by omega), List.getElem?_map, hq]; rfl
 have hcp : cptS q (l.drop K) = if z = q then cptS z (l.drop (K + 1)) else z :: cptS z (l.drop (K + 1)) := by rw [drop_get hy, cptS]
 by_cases hz : z = q
 · have hd : decide (z = q) = true := decide_eq_true hz
   rw [if_pos hz] at hcp
   repeat' first
    | (refine ao_lenW rfl rfl rfl (by kernel_rfl) ?_)
    | (refine aS_idxW rfl rfl rfl rfl sG_0 hrl (by rw [elT_42]; exact szT_9) (by omega) (by omega) ?_)
    | (refine aS_loadB rfl rfl rfl sG_0 hrl hzr (getS _) ?_)
    | (refine aS_loadB rfl rfl rfl sG_0 hrl hqr (getS _) ?_)
    | refine aw_seq' ?_
    | refine aw_region' ?_
    | refine aw_block ?_
    | refine ao_nil ?_
    | ((first | refine ao1 rfl rfl fun K HK => ?_ | refine aS1 rfl rfl fun K HK => ?_); simp only [go_sem, ↓reduceIte, Nat.reduceEqDiff, Nat.reduceAdd, Nat.reduceLeDiff, Nat.reduceBEq, Nat.reduceMul, Int.reduceEq, Int.reduceLT, Int.reduceLE, e0, e3, e4, e5, wk, wm, hd]; (first | refine splitB (fun hq => ?_) (fun hq => ?_) | skip) <;> ((first | refine HK _ _ ?_ | refine HK _ _ rfl ?_); clear HK K))
    | (refine aw_drawE mixd (by kernel_rfl) ?_)
    | refine aS_nil (by simp only [List.reverse_cons, List.reverse_nil, List.nil_append, List.cons_append, chkAll, chk1]; repeat' (first | exact trivial | refine And.intro ?_ ?_ | exact .inr compat_pl | exact .inr compat_pr | exact .inr compat_rr)) ?_
    | refine aw_if1 rfl ?_
    | refine aw_if0 rfl ?_
    | refine aw_skip ?_
    | refine aw_exit ?_
    | refine thenS_n ?_
    | (exfalso; omega)
   exact ⟨rfl, l.length - (K + 1), by omega, k2 + 1, K + 1, kk, rows, z, kept, by omega, by omega, by omega, rfl, hkk, by omega, by simpa using hy, by rw [hC, hcp], hrl, hr6, hrt, fun j hj => hrr j (by omega), rfl, e0, e3, e4, rfl⟩
 · have hd : decide (z = q) = false := decide_eq_false hz
   rw [if_neg hz] at hcp
   obtain ⟨row, hkr⟩ : ∃ row, rows[((kk : Nat) : Int).toNat]? = some row := ⟨_, List.getElem?_eq_getElem (by rw [Int.toNat_natCast]; omega)⟩
   have hrow6 : row.length = 1 := hr6 _ (List.mem_of_getElem? hkr)
   repeat' first
    | (refine ao_lenW rfl rfl rfl (by kernel_rfl) ?_)
    | (refine aS_idxW rfl rfl rfl rfl sG_0 hrl (by rw [elT_42]; exact szT_9) (by omega) (by omega) ?_)
    | (refine aS_loadB rfl rfl rfl sG_0 hrl hzr (getS _) ?_)
    | (refine aS_loadB rfl rfl rfl sG_0 hrl hqr (getS _) ?_)
    | (refine ao_idxW rfl rfl rfl rfl sG_0 hrl (by rw [elT_42]; exact szT_9) (by omega) (by omega) ?_)
    | (refine ao_idxB rfl rfl rfl rfl sG_0 hrl (by rw [elT_42]; exact szT_9) (by omega) (by omega) ?_)
    | (refine ao_loadB rfl rfl rfl sG_0 hrl hzr (getS _) ?_)
    | (refine ao_storeB rfl rfl sG_0 hrl hkr rfl (by rw [szT_9]; rfl) (by rw [hrow6]; exact Nat.le_refl 1) ?_)
    | refine aw_seq' ?_
    | refine aw_region' ?_
    | refine aw_block ?_
    | refine ao_nil ?_
    | ((first | refine ao1 rfl rfl fun K HK => ?_ | refine aS1 rfl rfl fun K HK => ?_); simp only [go_sem, ↓reduceIte, Nat.reduceEqDiff, Nat.reduceAdd, Nat.reduceLeDiff, Nat.reduceBEq, Nat.reduceMul, Int.reduceEq, Int.reduceLT, Int.reduceLE, e0, e3, e4, e5, wk, wkk, wm, hd]; (first | refine splitB (fun hq => ?_) (fun hq => ?_) | skip) <;> ((first | refine HK _ _ ?_ | refine HK _ _ rfl ?_); clear HK K))
    | (refine aw_drawE mixd (by kernel_rfl) ?_)
    | refine aS_nil (by simp only [List.reverse_cons, List.reverse_nil, List.nil_append, List.cons_append, chkAll, chk1]; repeat' (first | exact trivial | refine And.intro ?_ ?_ | exact .inr compat_pl | exact .inr compat_pr | exact .inr compat_rr)) ?_
    | refine aw_if1 rfl ?_
    | refine aw_if0 rfl ?_
    | refine aw_skip ?_
    | refine aw_exit ?_
    | refine thenS_n ?_
    | (exfalso; omega)
   refine ⟨rfl, l.length - (K + 1), by omega, k2 + 1, K + 1, kk + 1, rows.set kk (sX z), z, kept ++ [z], by omega, by omega, by omega, rfl, by simp; omega, by omega, by simpa using hy, by rw [hC, hcp]; simp, by simpa using hrl, fun r hr => ?_, ?_, fun j hj => ?_, by rw [put_s hrow6]; rfl, e0, rfl, e4, rfl⟩
   · rcases List.mem_or_eq_of_mem_set hr with h | rfl
     · exact hr6 _ h
     · rfl
   · rw [List.take_add_one, List.take_set_of_le (Nat.le_refl _), hrt, List.getElem?_set_self (by omega)]; simp
   · rw [List.getElem?_set_ne (by omega)]; exact hrr j (by omega)
end
section
set_option maxRecDepth 100000
set_option maxHeartbeats 2000000
attribute [local irreducible] on aOp
attribute [local go_sem] decide_true decide_false Bool.not_true Bool.not_false
attribute [local simp] byD_len
variable (G : Nat → D) (hG : ∀ g, low 0 (G g))
include hG
theorem names0 (l : List ByteArray) (hsz : l.length ≤ 10000) : Does Tryz.prog G 56 [] [.sl 1 (l.map sX)] (fun h' r => h' = [.buf 9 1 ((ofS l).map sX)] ∧ r = .buf 0 (ofS l).length) := by
 refine Does.only0 hG (low_ss _ _) (Does.reown (K := fun h' r => ∃ rows, h'[0]? = some (.buf 9 1 rows) ∧ rows.length = l.length ∧ rows.take (ofS l).length = (ofS l).map sX ∧ (r = .win 0 l.length 0 (ofS l).length ∨ (r = .buf 0 l.length ∧ (ofS l).length = l.length))) (K' := fun h' r => ∃ i, h'[i]? = some (.buf 9 1 ((ofS l).map sX)) ∧ r = .buf i (ofS l).length) ?_ ?_) (fun _ _ h => h)
 rotate_left
 · rintro h' r ⟨rows, h1, h2, h3, rfl | ⟨rfl, h4⟩⟩
   · have hb := ofS_len l
     refine .inr ⟨0, l.length, (ofS l).length, _, _, rows, h1, h2, hb, rfl, h'.length, ?_, rfl⟩
     rw [List.getElem?_append_right (by simp)]
     simp [h3]
   · exact .inl ⟨0, by rw [← h3, h4, ← h2, List.take_length]; exact h1, by rw [h4]⟩
 refine does_keep Tryz.func56 rfl (Nat.le_of_ble_eq_true rfl) ?_
 simp only [Tryz.ntmps56]
 repeat' first
  | (refine ao_callK rfl rfl rfl (by kernel_rfl) (cloneS0 G hG l (by omega)) ?_; rintro _ _ ⟨rfl, rfl⟩)
  | (refine ao_callK rfl rfl rfl (by kernel_rfl) (sortS_d G l (by omega) (h := [.buf 9 1 (l.map sX)]) (i := 0) rfl) ?_; rintro _ _ ⟨l', hp, hs, rfl, rfl⟩; have hle := hp.length_eq)
  | (refine ao_callK rfl rfl rfl (by kernel_rfl) (hle ▸ compactS_d G l' (by omega) []) ?_; rintro _ r ⟨rows, rfl, h1, h2, h3⟩; rw [compactS_is hp hs] at h2 h3)
  | refine aw_seq' ?_
  | refine aw_region' ?_
  | refine ao_nil ?_
  | (refine ao1 rfl rfl fun K HK => ?_; simp only [go_sem, ↓reduceIte, Nat.reduceEqDiff, Nat.reduceAdd, Nat.reduceLeDiff, Nat.reduceBEq, Nat.reduceMul, Int.reduceEq, Int.reduceLT, Int.reduceLE] <;> (refine HK _ _ ?_; clear HK K))
  | refine aw_ret ?_
 refine ⟨.inr rfl, [r], rfl, rows, rfl, h1, h2, ?_⟩
 rcases h3 with h3 | ⟨h3, h4⟩
 · exact .inl h3
 · exact .inr ⟨h3, by rw [h4, hle]⟩
end
section
set_option maxRecDepth 100000
set_option maxHeartbeats 2000000
attribute [local irreducible] on aOp
attribute [local go_sem] decide_true decide_false Bool.not_true Bool.not_false
attribute [local simp] byD_len
def namesW (l : List (ByteArray × List UInt8)) : List ByteArray := l.map (·.1)
def namesL (s : List Cmd) : List ByteArray := s.flatMap fun c => namesW c.writes
theorem namesL_take {s : List Cmd} {k : Nat} {x : Cmd} (h : s[k]? = some x) : namesL (s.take (k + 1)) = namesL (s.take k) ++ namesW x.writes := by
 unfold namesL; rw [List.take_add_one, h]; simp
theorem namesW_take {l : List (ByteArray × List UInt8)} {k : Nat} {x : ByteArray × List UInt8} (h : l[k]? = some x) : namesW (l.take (k + 1)) = namesW (l.take k) ++ [x.1] := by
 unfold namesW; rw [List.take_add_one, h]; simp
theorem namesL_len : ∀ (s : List Cmd) (m : Nat), (∀ c ∈ s, c.writes.length ≤ m) → (namesL s).length ≤ m * s.length
 | [], m, _ => by simp [namesL]
 | c :: t, m, h => by
  have h1 := h c (by simp)
  have h2 := namesL_len t m fun c hc => h c (by simp [hc])
  have e : namesL (c :: t) = namesW c.writes ++ namesL t := by simp [namesL]
  rw [e, List.length_append, List.length_cons, Nat.mul_succ]
  unfold namesW
  rw [List.length_map]; omega
variable (G : Nat → D) (hG : ∀ g, low 0 (G g))
include hG
theorem names_b (l : List ByteArray) (hsz : l.length ≤ 10000) {h : List Ob} {i E n : Nat} (hi : h[i]? = some (.buf E 1 (l.map sX))) (hn : l.length = n) : Does Tryz.prog G 56 h [.buf i n] (fun h' r => h' = h.set i .dead ++ [.buf 9 1 ((ofS l).map sX)] ∧ r = .buf h.length (ofS l).length) := by
 refine Does.give1 hi (by rw [← hn]; exact List.length_map _) ?_
 have := does_newR hG (low_ss _ _) (by rw [lowL, lowL]; exact ⟨low_ss _ _, trivial⟩) (names0 G hG l hsz) (h.set i .dead)
 rwa [List.length_set] at this
theorem rofS_b (l : List ByteArray) (hsz : l.length ≤ 10000) {h : List Ob} {i E n : Nat} (hi : h[i]? = some (.buf E 1 (l.map sX))) (hn : l.length = n) : Does Tryz.prog G 58 h [.buf i n] (fun h' r => h' = h.set i .dead ++ [.buf 9 1 ((ofS l).map sX)] ∧ r = .buf h.length (ofS l).length) := by
 refine Does.give1 hi (by rw [← hn]; exact List.length_map _) ?_
 have := does_newR hG (low_ss _ _) (by rw [lowL, lowL]; exact ⟨low_ss _ _, trivial⟩) (rofS0 G hG l hsz) (h.set i .dead)
 rwa [List.length_set] at this
theorem robjects0 (s : List Cmd) (hs : s.length ≤ 100) (hw : ∀ c ∈ s, c.writes.length ≤ 100) : Does Tryz.prog G 27 [] [.sl 6 (s.map cmdX)] (fun h' r => h' = [.buf 9 1 ((ofS (namesL s)).map sX)] ∧ r = .buf 0 (ofS (namesL s)).length) := by
 have hnl := namesL_len s 100 hw
 refine Does.only0 hG (low_ss _ _) (K := fun h' r => ∃ i, h'[i]? = some (.buf 9 1 ((ofS (namesL s)).map sX)) ∧ r = .buf i (ofS (namesL s)).length) ?_ (fun _ _ h => h)
 refine does_keep Tryz.func27 rfl (Nat.le_of_ble_eq_true rfl) ?_
 simp only [Tryz.ntmps27]
 repeat' first
  | refine aw_seq' ?_
  | refine aw_region' ?_
  | refine aw_block ?_
  | refine ao_nil ?_
  | (refine ao1 rfl rfl fun K HK => ?_; simp only [go_sem, ↓reduceIte, Nat.reduceEqDiff, Nat.reduceAdd, Nat.reduceLeDiff, Nat.reduceBEq, Nat.reduceMul, Int.reduceEq, Int.reduceLT, Int.reduceLE] <;> (refine HK _ _ ?_; clear HK K))
 refine aw_for (fun m e h' => ∃ (k : Nat) (T : List Ob), k ≤ s.length ∧ m = s.length - k ∧ h' = sG ((namesL (s.take k)).map sX) T ∧ e 0 = .sl 6 (s.map cmdX) ∧ e 3 = .buf 0 (namesL (s.take k)).length ∧ e 4 = .v (.int .i64 k)) s.length ⟨0, [], Nat.zero_le _, rfl, rfl, rfl, rfl, rfl⟩ ?_
 rintro m e h' ⟨k, T, hk, rfl, rfl, e0, e3, e4⟩
 by_cases hlt : k < s.length
 rotate_left
 · rw [List.take_of_length_le (by omega)] at e3 ⊢
   have hlt' : ¬ (k : Int) < (s.length : Int) := by omega
   repeat' first
    | (refine ao_callK rfl rfl rfl (by kernel_rfl) (rofS_b G hG (namesL s) (by omega) sG_0 rfl) ?_; rintro _ _ ⟨rfl, rfl⟩)
    | refine aw_seq' ?_
    | refine aw_region' ?_
    | refine ao_nil ?_
    | (refine ao1 rfl rfl fun K HK => ?_; simp only [go_sem, ↓reduceIte, Nat.reduceEqDiff, Nat.reduceAdd, Nat.reduceLeDiff, Nat.reduceBEq, Nat.reduceMul, Int.reduceEq, Int.reduceLT, Int.reduceLE, hlt', e0, e3, e4, List.length_map] <;> (refine HK _ _ ?_; clear HK K))
    | refine aw_if0 rfl ?_
    | refine aw_exit ?_
    | refine aw_ret ?_
   exact ⟨.inr rfl, [.buf _ (ofS (namesL s)).length], rfl, _, by rw [List.getElem?_append_right (by simp)]; simp, rfl⟩
 have hx : s[k]? = some s[k] := List.getElem?_eq_getElem hlt
 have hxw := hw _ (List.getElem_mem hlt)
 generalize s[k] = x at hx hxw
 have hlt' : (k : Int) < (s.length : Int) := by omega
 have wk : IntKind.i64.wrap ((k : Int) + 1) = (k : Int) + 1 := IntWalk.i64_in _ (by omega)
 have hnt := namesL_take hx
 have hl0 : (namesL (s.take k)).length ≤ 10000 := by have := namesL_len (s.take k) 100 (fun c hc => hw c (List.mem_of_mem_take hc)); rw [List.length_take] at this; omega
 generalize namesL (s.take k) = N at *
 repeat' first
  | refine aw_seq' ?_
  | refine aw_region' ?_
  | refine aw_block ?_
  | refine ao_nil ?_
  | (refine ao1 rfl rfl fun K HK => ?_; simp only [go_sem, ↓reduceIte, Nat.reduceEqDiff, Nat.reduceAdd, Nat.reduceLeDiff, Nat.reduceBEq, Nat.reduceMul, Int.reduceEq, Int.reduceLT, Int.reduceLE, hlt', e0, e3, e4] <;> (refine HK _ _ ?_; clear HK K))
  | refine aw_if1 rfl ?_
  | refine aw_skip ?_
 refine aw_for (fun m e h' => ∃ (j : Nat) (U : List Ob), j ≤ x.writes.length ∧ m = x.writes.length - j ∧ h' = sG ((N ++ namesW (x.writes.take j)).map sX) U ∧ e 0 = .sl 6 (s.map cmdX) ∧ e 3 = .buf 0 (N ++ namesW (x.writes.take j)).length ∧ e 4 = .v (.int .i64 k) ∧ e 5 = .v (.int .i64 j)) x.writes.length ⟨0, T, Nat.zero_le _, rfl, by simp [namesW], e0, by show e 3 = _; simpa [namesW] using e3, e4, rfl⟩ ?_
 clear e0 e3 e4
 rintro m e h' ⟨j, U, hj, rfl, rfl, e0, e3, e4, e5⟩
 by_cases hlt2 : j < x.writes.length
 · have hy : x.writes[j]? = some x.writes[j] := List.getElem?_eq_getElem hlt2
   generalize x.writes[j] = y at hy
   have hlt2' : (j : Int) < (x.writes.length : Int) := by omega
   have wj : IntKind.i64.wrap ((j : Int) + 1) = (j : Int) + 1 := IntWalk.i64_in _ (by omega)
   have hwt := namesW_take hy
   have hlm : (N ++ namesW (x.writes.take j)).length ≤ 20000 := by unfold namesW; rw [List.length_append, List.length_map, List.length_take]; omega
   obtain ⟨M, hM⟩ : ∃ M, M = N ++ namesW (x.writes.take j) := ⟨_, rfl⟩
   rw [← hM] at e3 hlm ⊢
   repeat' first
    | refine aw_seq' ?_
    | refine aw_region' ?_
    | refine aw_block ?_
    | refine ao_nil ?_
    | (refine ao1 rfl rfl fun K HK => ?_; simp only [go_sem, ↓reduceIte, Nat.reduceEqDiff, Nat.reduceAdd, Nat.reduceLeDiff, Nat.reduceBEq, Nat.reduceMul, Int.reduceEq, Int.reduceLT, Int.reduceLE, hlt', hlt2', e0, e3, e4, e5, wj, cmdX_eq, wrX_eq, sG_app, sG_len, sG_last, sG_0, List.length_map, Int.toNat_natCast]; (first | (refine ⟨by omega, ?_⟩; refine row_at (by assumption) ?_) | skip) <;> (refine HK _ _ ?_; clear HK K))
    | refine ao_appB rfl rfl rfl rfl (by (simp only [go_sem, ↓reduceIte, Nat.reduceEqDiff, Nat.reduceAdd, Nat.reduceLeDiff, Nat.reduceBEq, Nat.reduceMul, Int.reduceEq, Int.reduceLT, Int.reduceLE, hlt', hlt2', e0, e3, e4, e5, wj, cmdX_eq, wrX_eq, sG_app, sG_len, sG_last, sG_0, List.length_map, Int.toNat_natCast]; rfl)) (by simp) (by simp only [go_sem]; rfl) (by (simp only [go_sem, ↓reduceIte, Nat.reduceEqDiff, Nat.reduceAdd, Nat.reduceLeDiff, Nat.reduceBEq, Nat.reduceMul, Int.reduceEq, Int.reduceLT, Int.reduceLE, hlt', hlt2', e0, e3, e4, e5, wj, cmdX_eq, wrX_eq, sG_app, sG_len, sG_last, sG_0, List.length_map, Int.toNat_natCast]; rfl)) (by simp) (by (simp [rowsOk, D.one, Value.oneCell']; done)) (by (simp; omega)) ?_
    | refine aw_if1 rfl ?_
    | refine aw_skip ?_
    | refine thenS_n ?_
   exact ⟨rfl, x.writes.length - (j + 1), by omega, j + 1, _, by omega, rfl, by rw [hwt, ← List.append_assoc, ← hM, List.map_append]; rfl, e0, by rw [hwt, ← List.append_assoc, ← hM, List.length_append]; rfl, e4, rfl⟩
 · have hlt2' : ¬ (j : Int) < (x.writes.length : Int) := by omega
   rw [List.take_of_length_le (show x.writes.length ≤ j by omega)] at e3 ⊢
   repeat' first
    | refine aw_seq' ?_
    | refine aw_region' ?_
    | refine ao_nil ?_
    | (refine ao1 rfl rfl fun K HK => ?_; simp only [go_sem, ↓reduceIte, Nat.reduceEqDiff, Nat.reduceAdd, Nat.reduceLeDiff, Nat.reduceBEq, Nat.reduceMul, Int.reduceEq, Int.reduceLT, Int.reduceLE, hlt', hlt2', e0, e3, e4, e5, wk, cmdX_eq, List.length_map, Int.toNat_natCast]; (first | (refine ⟨by omega, ?_⟩; refine row_at (by assumption) ?_) | skip) <;> (refine HK _ _ ?_; clear HK K))
    | refine aw_if0 rfl ?_
    | refine aw_exit ?_
    | refine thenS_n ?_
   exact ⟨rfl, s.length - (k + 1), by omega, k + 1, U, by omega, rfl, by rw [hnt], e0, by rw [hnt]; exact e3, rfl⟩
theorem objects0 (s : List Cmd) (hs : s.length ≤ 100) (hw : ∀ c ∈ s, c.writes.length ≤ 100) : Does Tryz.prog G 23 [] [.sl 6 (s.map cmdX)] (fun h' r => h' = [.buf 9 1 ((ofS (namesL s)).map sX)] ∧ r = .buf 0 (ofS (namesL s)).length) := by
 have hnl := namesL_len s 100 hw
 refine Does.only0 hG (low_ss _ _) (K := fun h' r => ∃ i, h'[i]? = some (.buf 9 1 ((ofS (namesL s)).map sX)) ∧ r = .buf i (ofS (namesL s)).length) ?_ (fun _ _ h => h)
 refine does_keep Tryz.func23 rfl (Nat.le_of_ble_eq_true rfl) ?_
 simp only [Tryz.ntmps23]
 repeat' first
  | refine aw_seq' ?_
  | refine aw_region' ?_
  | refine aw_block ?_
  | refine ao_nil ?_
  | (refine ao1 rfl rfl fun K HK => ?_; simp only [go_sem, ↓reduceIte, Nat.reduceEqDiff, Nat.reduceAdd, Nat.reduceLeDiff, Nat.reduceBEq, Nat.reduceMul, Int.reduceEq, Int.reduceLT, Int.reduceLE, List.length_map] <;> (refine HK _ _ ?_; clear HK K))
 refine aw_niltmp 9 1 3 rfl ?_
 refine aw_for (fun m e h' => ∃ (k : Nat) (T : List Ob), k ≤ s.length ∧ m = s.length - k ∧ h' = sG ((namesL (s.take k)).map sX) T ∧ e 3 = .buf 0 (namesL (s.take k)).length ∧ e 8 = .sl 6 (s.map cmdX) ∧ e 9 = .v (.int .i64 s.length) ∧ e 10 = .v (.int .i64 k)) s.length ⟨0, [], Nat.zero_le _, rfl, rfl, rfl, rfl, rfl, rfl⟩ ?_
 rintro m e h' ⟨k, T, hk, rfl, rfl, e3, e8, e9, e10⟩
 by_cases hlt : k < s.length
 rotate_left
 · rw [List.take_of_length_le (by omega)] at e3 ⊢
   have hlt' : ¬ (k : Int) < (s.length : Int) := by omega
   repeat' first
    | (refine ao_callK rfl rfl rfl (by kernel_rfl) (names_b G hG (namesL s) (by omega) sG_0 rfl) ?_; rintro _ _ ⟨rfl, rfl⟩)
    | refine aw_seq' ?_
    | refine aw_region' ?_
    | refine ao_nil ?_
    | (refine ao1 rfl rfl fun K HK => ?_; simp only [go_sem, ↓reduceIte, Nat.reduceEqDiff, Nat.reduceAdd, Nat.reduceLeDiff, Nat.reduceBEq, Nat.reduceMul, Int.reduceEq, Int.reduceLT, Int.reduceLE, hlt', e3, e8, e9, e10] <;> (refine HK _ _ ?_; clear HK K))
    | refine aw_if0 rfl ?_
    | refine aw_exit ?_
    | refine aw_ret ?_
   exact ⟨.inr rfl, [.buf _ (ofS (namesL s)).length], rfl, _, by rw [List.getElem?_append_right (by simp)]; simp, rfl⟩
 have hx : s[k]? = some s[k] := List.getElem?_eq_getElem hlt
 have hxw := hw _ (List.getElem_mem hlt)
 generalize s[k] = x at hx hxw
 have hlt' : (k : Int) < (s.length : Int) := by omega
 have wk : IntKind.i64.wrap ((k : Int) + 1) = (k : Int) + 1 := IntWalk.i64_in _ (by omega)
 have hnt := namesL_take hx
 have hl0 : (namesL (s.take k)).length ≤ 10000 := by have := namesL_len (s.take k) 100 (fun c hc => hw c (List.mem_of_mem_take hc)); rw [List.length_take] at this; omega
 generalize namesL (s.take k) = N at *
 repeat' first
  | refine aw_seq' ?_
  | refine aw_region' ?_
  | refine aw_block ?_
  | refine ao_nil ?_
  | (refine ao1 rfl rfl fun K HK => ?_; simp only [go_sem, ↓reduceIte, Nat.reduceEqDiff, Nat.reduceAdd, Nat.reduceLeDiff, Nat.reduceBEq, Nat.reduceMul, Int.reduceEq, Int.reduceLT, Int.reduceLE, hlt', e3, e8, e9, e10, cmdX_eq, sG_app, sG_len, sG_last, sG_lset, sG_0, List.length_map, Int.toNat_natCast]; (first | (refine ⟨by omega, ?_⟩; refine row_at (by assumption) ?_) | skip) <;> (refine HK _ _ ?_; clear HK K))
  | (refine ao1' rfl fun K HK => ?_; simp only [go_sem, ↓reduceIte, Nat.reduceEqDiff, Nat.reduceAdd, Nat.reduceLeDiff, Nat.reduceBEq, Nat.reduceMul, Int.reduceEq, Int.reduceLT, Int.reduceLE, hlt', e3, e8, e9, e10, cmdX_eq, sG_app, sG_len, sG_last, sG_lset, sG_0, List.length_map, Int.toNat_natCast]; refine HK _ _ ?_; clear HK K)
  | refine aw_if1 rfl ?_
  | refine aw_skip ?_
 refine aw_for (fun m e h' => ∃ (j : Nat) (U : List Ob), j ≤ x.writes.length ∧ m = x.writes.length - j ∧ h' = sG ((N ++ namesW (x.writes.take j)).map sX) U ∧ e 3 = .buf 0 (N ++ namesW (x.writes.take j)).length ∧ e 8 = .sl 6 (s.map cmdX) ∧ e 9 = .v (.int .i64 s.length) ∧ e 10 = .v (.int .i64 k) ∧ e 15 = .sl 2 (x.writes.map wrX) ∧ e 16 = .v (.int .i64 x.writes.length) ∧ e 17 = .v (.int .i64 j)) x.writes.length ⟨0, _, Nat.zero_le _, rfl, by simp only [List.take_zero, namesW, List.map_nil, List.append_nil]; rfl, by show e 3 = _; simpa [namesW] using e3, e8, e9, e10, rfl, rfl, rfl⟩ ?_
 clear e3 e8 e9 e10
 rintro m e h' ⟨j, U, hj, rfl, rfl, e3, e8, e9, e10, e15, e16, e17⟩
 by_cases hlt2 : j < x.writes.length
 · have hy : x.writes[j]? = some x.writes[j] := List.getElem?_eq_getElem hlt2
   generalize x.writes[j] = y at hy
   have hlt2' : (j : Int) < (x.writes.length : Int) := by omega
   have wj : IntKind.i64.wrap ((j : Int) + 1) = (j : Int) + 1 := IntWalk.i64_in _ (by omega)
   have hwt := namesW_take hy
   have hlm : (N ++ namesW (x.writes.take j)).length ≤ 20000 := by unfold namesW; rw [List.length_append, List.length_map, List.length_take]; omega
   obtain ⟨M, hM⟩ : ∃ M, M = N ++ namesW (x.writes.take j) := ⟨_, rfl⟩
   rw [← hM] at e3 hlm ⊢
   have hmm : (M.map sX).length = M.length := List.length_map _
   have g1 : ∀ (T : List Ob) x y, (sG (M.map sX) (T ++ [x, y]))[T.length + 1 + 1]? = some y := fun T x y => by simp [sG]
   have g2 : ∀ (T : List Ob) x, (T ++ [x]).length = T.length + 1 := fun T x => by simp
   repeat' first
    | (refine ao_appB rfl rfl rfl rfl sG_0 hmm apT_42 (g1 _ _ _) rfl (rowsOk_ss [y.1]) (by simp; omega) ?_)
    | refine aw_seq' ?_
    | refine aw_region' ?_
    | refine aw_block ?_
    | refine ao_nil ?_
    | (refine ao1 rfl rfl fun K HK => ?_; simp only [go_sem, ↓reduceIte, Nat.reduceEqDiff, Nat.reduceAdd, Nat.reduceLeDiff, Nat.reduceBEq, Nat.reduceMul, Int.reduceEq, Int.reduceLT, Int.reduceLE, hlt', hlt2', e3, e8, e9, e10, e15, e16, e17, wj, wrX_eq, sG_app, sG_len, sG_last, sG_lset, sG_0, g1, g2, List.length_map, Int.toNat_natCast]; (first | (refine ⟨by omega, ?_⟩; refine row_at (by assumption) ?_) | skip) <;> (refine HK _ _ ?_; clear HK K))
    | (refine ao1' rfl fun K HK => ?_; simp only [go_sem, ↓reduceIte, Nat.reduceEqDiff, Nat.reduceAdd, Nat.reduceLeDiff, Nat.reduceBEq, Nat.reduceMul, Int.reduceEq, Int.reduceLT, Int.reduceLE, hlt', hlt2', e3, e8, e9, e10, e15, e16, e17, wj, wrX_eq, sG_app, sG_len, sG_last, sG_lset, sG_0, g1, g2, List.length_map, Int.toNat_natCast]; refine HK _ _ ?_; clear HK K)
    | refine aw_if1 rfl ?_
    | refine aw_skip ?_
    | refine thenS_n ?_
   exact ⟨rfl, x.writes.length - (j + 1), by omega, j + 1, _, by omega, rfl, by rw [hwt, ← List.append_assoc, ← hM, List.map_append]; rfl, by rw [hwt, ← List.append_assoc, ← hM, List.length_append]; rfl, e8, e9, e10, e15, e16, rfl⟩
 · have hlt2' : ¬ (j : Int) < (x.writes.length : Int) := by omega
   rw [List.take_of_length_le (show x.writes.length ≤ j by omega)] at e3 ⊢
   repeat' first
    | refine aw_seq' ?_
    | refine aw_region' ?_
    | refine ao_nil ?_
    | (refine ao1 rfl rfl fun K HK => ?_; simp only [go_sem, ↓reduceIte, Nat.reduceEqDiff, Nat.reduceAdd, Nat.reduceLeDiff, Nat.reduceBEq, Nat.reduceMul, Int.reduceEq, Int.reduceLT, Int.reduceLE, hlt', hlt2', e3, e8, e9, e10, e15, e16, e17, wk] <;> (refine HK _ _ ?_; clear HK K))
    | refine aw_if0 rfl ?_
    | refine aw_exit ?_
    | refine thenS_n ?_
   exact ⟨rfl, s.length - (k + 1), by omega, k + 1, U, by omega, rfl, by rw [hnt], by rw [hnt]; exact e3, e8, e9, rfl⟩
end
section
set_option maxRecDepth 100000
set_option maxHeartbeats 2000000
attribute [local irreducible] on aOp
attribute [local go_sem] decide_true decide_false Bool.not_true Bool.not_false
attribute [local simp] byD_len
theorem of_snoc {l : List Cmd} {x : Cmd} (hl : OkL l) (hx : x.Ok) : ofL (l ++ [x]) = insC x (ofL l) := by
 have hl2 : OkL (l ++ [x]) := hl.app fun c hc => by simp at hc; rw [hc]; exact hx
 refine sorted_ext (ofL_sorted _) (insC_sorted _ _ (ofL_sorted _)) fun c => ?_
 rw [mem_ofL hl2, List.mem_append]
 constructor
 · rintro (h | h)
   · exact insC_old _ _ _ ((mem_ofL hl).2 h)
   · simp at h; rw [h]; exact insC_new _ _ hx (ofL_ok hl)
 · intro h
   rcases insC_mem _ _ _ h with rfl | h
   · simp
   · exact .inl ((mem_ofL hl).1 h)
theorem ins_has {s : List Cmd} {x : Cmd} (hs : s.Pairwise LtC) (ho : OkL s) (hx : x.Ok) (h : x ∈ s) : insC x s = s := sorted_ext (insC_sorted _ _ hs) hs fun c => ⟨fun q => (insC_mem _ _ _ q).elim (fun e => e ▸ h) id, insC_old _ _ _⟩
theorem ins_at {a b : List Cmd} {x : Cmd} (hs : (a ++ b).Pairwise LtC) (ho : OkL (a ++ b)) (hx : x.Ok) (h1 : ∀ y ∈ b, LtC x y) (h2 : ∀ y, a.getLast? = some y → LtC y x) : insC x (a ++ b) = a ++ x :: b := by
 obtain ⟨ha, hb, hab⟩ := List.pairwise_append.1 hs
 have h3 : ∀ y ∈ a, LtC y x := fun y hy => by
  rcases List.eq_nil_or_concat a with rfl | ⟨t, z, hz⟩
  · cases hy
  · rw [List.concat_eq_append] at hz; subst hz
    have hz := h2 z (by simp)
    rcases List.mem_append.1 hy with hy | hy
    · exact ((List.pairwise_append.1 ha).2.2 y hy z (by simp)).trans hz
    · simp at hy; rw [hy]; exact hz
 refine sorted_ext (insC_sorted _ _ hs) (List.pairwise_append.2 ⟨ha, List.pairwise_cons.2 ⟨h1, hb⟩, fun y hy z hz => ?_⟩) fun c => ?_
 · rcases List.mem_cons.1 hz with rfl | hz
   · exact h3 y hy
   · exact (h3 y hy).trans (h1 z hz)
 · constructor
   · intro q
     rcases insC_mem _ _ _ q with rfl | q
     · simp
     · rcases List.mem_append.1 q with q | q <;> simp [q]
   · intro q
     rcases List.mem_append.1 q with q | q
     · exact insC_old _ _ _ (List.mem_append_left _ q)
     · rcases List.mem_cons.1 q with rfl | q
       · exact insC_new _ _ hx ho
       · exact insC_old _ _ _ (List.mem_append_right _ q)
theorem swap_rows (t b : List Cmd) (x z : Cmd) : (((t ++ [z] ++ x :: b).map cmdX).set t.length (cmdX x)).set (t ++ [z]).length (cmdX z) = (t ++ x :: z :: b).map cmdX := by
 simp [List.set_append]
variable (G : Nat → D) (hG : ∀ g, low 0 (G g))
include hG
theorem has_b (l : List Cmd) (c : Cmd) (ha : ∀ c ∈ l, c.Ok) (hc : c.Ok) (hl : l.length ≤ 1000000) {h : List Ob} {i n : Nat} (hi : h[i]? = some (.buf 40 6 (l.map cmdX))) (hn : l.length = n) : Does Tryz.prog G 20 h [.buf i n, .agg (cmdX c)] (fun h' r => h' = h ∧ r = .v (.bool (hasL l c))) :=
 Does.borrow hG hi (by rw [← hn]; exact List.length_map _) (by rw [lowL, lowL]; exact ⟨low_agg _ _, trivial⟩) (low_cms _ _) (has_d G hG l c ha hc hl [])
theorem rof0 (l : List Cmd) (hl : OkL l) (hsz : l.length ≤ 1000) : Does Tryz.prog G 57 [] [.sl 6 (l.map cmdX)] (fun h' r => h' = [.buf 40 6 ((ofL l).map cmdX)] ∧ r = .buf 0 (ofL l).length) := by
 refine Does.only0 hG (low_cms _ _) (K := fun h' r => ∃ i, h'[i]? = some (.buf 40 6 ((ofL l).map cmdX)) ∧ r = .buf i (ofL l).length) ?_ (fun _ _ h => h)
 refine does_keep Tryz.func57 rfl (Nat.le_of_ble_eq_true rfl) ?_
 simp only [Tryz.ntmps57]
 repeat' first
  | refine aw_seq' ?_
  | refine aw_region' ?_
  | refine aw_block ?_
  | refine ao_nil ?_
  | (refine ao1 rfl rfl fun K HK => ?_; simp only [go_sem, ↓reduceIte, Nat.reduceEqDiff, Nat.reduceAdd, Nat.reduceLeDiff, Nat.reduceBEq, Nat.reduceMul, Int.reduceEq, Int.reduceLT, Int.reduceLE] <;> (refine HK _ _ ?_; clear HK K))
 refine aw_for (fun m e h' => ∃ (k : Nat) (T : List Ob), k ≤ l.length ∧ m = l.length - k ∧ h' = oG ((ofL (l.take k)).map cmdX) T ∧ e 0 = .sl 6 (l.map cmdX) ∧ e 3 = .buf 0 (ofL (l.take k)).length ∧ e 4 = .v (.int .i64 k)) l.length ⟨0, [], Nat.zero_le _, rfl, rfl, rfl, rfl, rfl⟩ ?_
 rintro m e h' ⟨k, T, hk, rfl, rfl, e0, e3, e4⟩
 by_cases hlt : k < l.length
 rotate_left
 · rw [List.take_of_length_le (by omega)] at e3 ⊢
   repeat' first
    | refine aw_seq' ?_
    | refine aw_region' ?_
    | refine aw_block ?_
    | refine ao_nil ?_
    | (refine ao1 rfl rfl fun K HK => ?_; simp only [go_sem, ↓reduceIte, Nat.reduceEqDiff, Nat.reduceAdd, Nat.reduceLeDiff, Nat.reduceBEq, Nat.reduceMul, Int.reduceEq, Int.reduceLT, Int.reduceLE, e0, e3, e4, List.length_map]; (first | refine splitB (fun hq => ?_) (fun hq => ?_) | (refine ⟨by omega, by omega, ?_⟩; intro row hrow; obtain ⟨x, hx, rfl⟩ := row_inv hrow; clear hrow) | skip) <;> (refine HK _ _ ?_; clear HK K))
    | refine aw_if1 rfl ?_
    | refine aw_if0 rfl ?_
    | refine aw_skip ?_
    | refine aw_exit ?_
    | refine aw_ret ?_
    | (exfalso; omega)
   exact ⟨.inr rfl, [.buf 0 (ofL l).length], rfl, 0, rfl, rfl⟩
 have hx : l[k]? = some l[k] := List.getElem?_eq_getElem hlt
 have hxo := hl _ (List.getElem_mem hlt)
 generalize l[k] = x at hx hxo
 have htk : l.take (k + 1) = l.take k ++ [x] := by rw [List.take_add_one, hx]; rfl
 have hok : OkL (l.take k) := fun c hc => hl c (List.mem_of_mem_take hc)
 have hof := of_snoc hok hxo
 rw [← htk] at hof
 have wk : IntKind.i64.wrap ((k : Int) + 1) = (k : Int) + 1 := IntWalk.i64_in _ (by omega)
 have hso := ofL_sorted (l.take k)
 have hoo := ofL_ok hok
 have hln : (ofL (l.take k)).length ≤ 1000 := by have := ofL_len (l.take k); rw [List.length_take] at this; omega
 generalize ofL (l.take k) = s at *
 have hb : ∀ T, Does Tryz.prog G 20 (oG (s.map cmdX) T) [.buf 0 s.length, .agg (cmdX x)] (fun h' r => h' = oG (s.map cmdX) T ∧ r = .v (.bool (hasL s x))) := fun T => has_b G hG s x hoo hxo (by omega) oG_0 rfl
 cases hh : hasL s x
 rotate_left
 · rw [hh] at hb
   have hin := ins_has hso hoo hxo ((hasL_mem hoo hxo).1 hh)
   repeat' first
    | refine aw_seq' ?_
    | refine aw_region' ?_
    | refine aw_block ?_
    | refine ao_nil ?_
    | (refine ao1 rfl rfl fun K HK => ?_; simp only [go_sem, ↓reduceIte, Nat.reduceEqDiff, Nat.reduceAdd, Nat.reduceLeDiff, Nat.reduceBEq, Nat.reduceMul, Int.reduceEq, Int.reduceLT, Int.reduceLE, e0, e3, e4, wk, cmdX_eq, List.length_map, Int.toNat_natCast]; (first | refine splitB (fun hq => ?_) (fun hq => ?_) | (refine ⟨by omega, by omega, ?_⟩; refine row_at (by assumption) ?_) | skip) <;> (refine HK _ _ ?_; clear HK K))
    | (refine ao2 rfl rfl rfl ent_20 (hb _) ?_; rintro _ _ ⟨rfl, rfl⟩)
    | refine aw_if1 rfl ?_
    | refine aw_if0 rfl ?_
    | refine aw_skip ?_
    | refine aw_exit ?_
    | refine aw_ret ?_
    | refine thenS_n ?_
    | (exfalso; omega)
   exact ⟨rfl, l.length - (k + 1), by omega, k + 1, _, by omega, rfl, by rw [hof, hin], e0, by rw [hof, hin]; exact e3, rfl⟩
 rw [hh] at hb
 have hnot : x ∉ s := fun q => by rw [(hasL_mem hoo hxo).2 q] at hh; cases hh
 repeat' first
  | refine aw_seq' ?_
  | refine aw_region' ?_
  | refine aw_block ?_
  | refine ao_nil ?_
  | (refine ao1 rfl rfl fun K HK => ?_; simp only [go_sem, ↓reduceIte, Nat.reduceEqDiff, Nat.reduceAdd, Nat.reduceLeDiff, Nat.reduceBEq, Nat.reduceMul, Int.reduceEq, Int.reduceLT, Int.reduceLE, e0, e3, e4, wk, cmdX_eq, oG_app, oG_len, oG_last, oG_0, List.length_map, Int.toNat_natCast]; (first | refine splitB (fun hq => ?_) (fun hq => ?_) | (refine ⟨by omega, by omega, ?_⟩; refine row_at (by assumption) ?_) | skip) <;> (refine HK _ _ ?_; clear HK K))
  | refine ao_appB rfl rfl rfl rfl (by (simp only [go_sem, ↓reduceIte, Nat.reduceEqDiff, Nat.reduceAdd, Nat.reduceLeDiff, Nat.reduceBEq, Nat.reduceMul, Int.reduceEq, Int.reduceLT, Int.reduceLE, e0, e3, e4, wk, cmdX_eq, oG_app, oG_len, oG_last, oG_0, List.length_map, Int.toNat_natCast]; rfl)) (by simp) (by simp only [go_sem]; rfl) (by (simp only [go_sem, ↓reduceIte, Nat.reduceEqDiff, Nat.reduceAdd, Nat.reduceLeDiff, Nat.reduceBEq, Nat.reduceMul, Int.reduceEq, Int.reduceLT, Int.reduceLE, e0, e3, e4, wk, cmdX_eq, oG_app, oG_len, oG_last, oG_0, List.length_map, Int.toNat_natCast]; rfl)) (by simp) (by (simp [rowsOk, D.one, Value.oneCell']; done)) (by (simp; omega)) ?_
  | (refine ao2 rfl rfl rfl ent_20 (hb _) ?_; rintro _ _ ⟨rfl, rfl⟩)
  | refine aw_if1 rfl ?_
  | refine aw_if0 rfl ?_
  | refine aw_skip ?_
  | refine aw_exit ?_
  | refine aw_ret ?_
  | (exfalso; omega)
 have w5 : IntKind.i64.wrap (((s.length + 1 : Nat) : Int) - 1) = (s.length : Int) := by rw [show (((s.length + 1 : Nat) : Int) - 1) = (s.length : Int) by omega]; exact IntWalk.i64_in _ (by omega)
 refine aw_for (fun m e h' => ∃ (a b : List Cmd) (U : List Ob), a ++ b = s ∧ m = a.length ∧ (∀ y ∈ b, LtC x y) ∧ h' = oG ((a ++ x :: b).map cmdX) U ∧ e 0 = .sl 6 (l.map cmdX) ∧ e 3 = .buf 0 (s.length + 1) ∧ e 4 = .v (.int .i64 k) ∧ e 5 = .v (.int .i64 a.length)) s.length
  ⟨s, [], _, by simp, rfl, by simp, by rw [List.map_append]; rfl, e0, rfl, e4, by show D.v (.int .i64 (IntKind.i64.wrap (((s.length + 1 : Nat) : Int) - 1))) = _; rw [w5]⟩ ?_
 clear e0 e3 e4 w5
 rintro m e h' ⟨a, b, U, rfl, rfl, hgt, rfl, e0, e3, e4, e5⟩
 have hrl : ((a ++ x :: b).map cmdX).length = (a ++ b).length + 1 := by simp; omega
 have hla : a.length ≤ 1000 := by rw [List.length_append] at hln; omega
 rcases List.eq_nil_or_concat a with rfl | ⟨t, z, hz⟩
 · have hi := ins_at (a := []) hso hoo hxo hgt (by simp)
   repeat' first
    | refine aw_seq' ?_
    | refine aw_region' ?_
    | refine ao_nil ?_
    | ((first | refine ao1 rfl rfl fun K HK => ?_ | refine aq1 rfl rfl fun K HK => ?_); (first | refine aOp_pick rfl ?_ | skip); simp only [go_sem, ↓reduceIte, Nat.reduceEqDiff, Nat.reduceAdd, Nat.reduceLeDiff, Nat.reduceBEq, Nat.reduceMul, Int.reduceEq, Int.reduceLT, Int.reduceLE, e0, e3, e4, e5, wk]; (first | refine splitB (fun hq => ?_) (fun hq => ?_) | skip) <;> ((first | refine HK _ _ ?_ | refine HK _ _ rfl ?_); clear HK K))
    | refine aq0 rfl rfl ?_
    | refine aq_nil ?_
    | (refine aw_draw mixd (by kernel_rfl) ?_)
    | refine aw_if0 rfl ?_
    | refine aw_exit ?_
    | refine thenS_n ?_
    | (exfalso; omega)
   exact ⟨rfl, l.length - (k + 1), by omega, k + 1, U, by omega, rfl, by rw [hof, hi]; rfl, e0, by show e 3 = _; rw [e3, hof, hi]; rfl, rfl⟩
 rw [List.concat_eq_append] at hz; subst hz
 have hzo : z.Ok := hoo z (by simp)
 have w1 : IntKind.i64.wrap (((t ++ [z]).length : Int) - 1) = (t.length : Int) := by rw [show (((t ++ [z]).length : Int) - 1) = (t.length : Int) by simp]; exact IntWalk.i64_in _ (by rw [List.length_append] at hla; omega)
 have hzr : ((t ++ [z] ++ x :: b).map cmdX)[(t.length : Int).toNat]? = some (cmdX z) := by rw [Int.toNat_natCast]; simp
 have hxr : ((t ++ [z] ++ x :: b).map cmdX)[((t ++ [z]).length : Int).toNat]? = some (cmdX x) := by rw [Int.toNat_natCast, List.getElem?_map, List.getElem?_append_right (Nat.le_refl _)]; simp
 have hpos : (0 : Int) < ((t ++ [z]).length : Int) := by rw [List.length_append]; simp only [List.length_cons, List.length_nil]; omega
 have hlt3 : ((t ++ [z]).length : Int) < (((t ++ [z] ++ b).length + 1 : Nat) : Int) := by simp only [List.length_append, List.length_cons, List.length_nil]; omega
 have hlt4 : (t.length : Int) < (((t ++ [z] ++ b).length + 1 : Nat) : Int) := by simp only [List.length_append, List.length_cons, List.length_nil]; omega
 generalize hn1 : (t ++ [z]).length = n1 at *
 generalize hn2 : (t ++ [z] ++ b).length + 1 = n2 at *
 generalize hrw : (t ++ [z] ++ x :: b).map cmdX = rows at *
 have hne : t.length ≠ n1 := by rw [← hn1]; simp
 have hxr2 : ∀ y, (rows.set (t.length : Int).toNat y)[(n1 : Int).toNat]? = some (cmdX x) := fun y => by rw [List.getElem?_set_ne (by rw [Int.toNat_natCast, Int.toNat_natCast]; exact hne)]; exact hxr
 have hls : ∀ y, (rows.set (t.length : Int).toNat y).length = n2 := fun y => by rw [List.length_set]; exact hrl
 repeat' first
  | (refine aS_idxB rfl rfl rfl rfl oG_0 hrl (by rw [elT_22]; exact szT_40) (by omega) (by omega) ?_)
  | (refine aS_idxB rfl rfl rfl rfl rfl (hls _) (by rw [elT_22]; exact szT_40) (by omega) (by omega) ?_)
  | (refine aS_loadB rfl rfl rfl oG_0 hrl hzr (getC _) ?_)
  | (refine aS_loadB rfl rfl rfl oG_0 hrl hxr (getC _) ?_)
  | (refine aS_storeB rfl rfl oG_0 hrl hzr rfl (by rw [one_cmd, szT_40]; rfl) (Nat.le_refl 6) ?_)
  | (refine aS_storeB rfl rfl rfl (hls _) (hxr2 _) rfl (by rw [one_cmd, szT_40]; rfl) (Nat.le_refl 6) ?_)
  | refine aw_seq' ?_
  | refine aw_region' ?_
  | refine aw_block ?_
  | refine ao_nil ?_
  | ((first | refine ao1 rfl rfl fun K HK => ?_ | refine aS1 rfl rfl fun K HK => ?_); (first | refine aOp_pick rfl ?_ | skip); simp only [go_sem, ↓reduceIte, Nat.reduceEqDiff, Nat.reduceAdd, Nat.reduceLeDiff, Nat.reduceBEq, Nat.reduceMul, Int.reduceEq, Int.reduceLT, Int.reduceLE, e0, e3, e4, e5, wk, w1, hpos]; (first | refine splitB (fun hq => ?_) (fun hq => ?_) | skip) <;> ((first | refine HK _ _ ?_ | refine HK _ _ rfl ?_); clear HK K))
  | (refine aw_drawE mixd (by kernel_rfl) ?_)
  | refine aS_nil (by simp only [List.reverse_cons, List.reverse_nil, List.nil_append, List.cons_append, chkAll, chk1]; repeat' (first | exact trivial | refine And.intro ?_ ?_ | exact .inr compat_pl | exact .inr compat_pr | exact .inr compat_rr | exact .inl (by kernel_rfl))) ?_
  | refine aS_call0 rfl rfl rfl ent_40 (fun h2 => rcompare_d G hG z x hzo hxo _) ?_
  | refine aw_if1 rfl ?_
  | refine aw_if0 rfl ?_
  | refine aw_skip ?_
  | refine aw_exit ?_
  | refine thenS_n ?_
 · have hxz : LtC x z := by
    rcases cmpC_cases z x with ⟨_, q⟩ | ⟨_, q⟩ | ⟨q, _⟩
    · exfalso; omega
    · exfalso; omega
    · exact q
   refine ⟨rfl, t.length, by rw [← hn1]; simp, t, z :: b, U, by simp, rfl, fun y hy => ?_, ?_, e0, e3, e4, rfl⟩
   · rcases List.mem_cons.1 hy with rfl | hy
     · exact hxz
     · exact hgt y hy
   · show oG ((rows.set (t.length : Int).toNat (putL (cmdX z) 0 (cmdX x))).set (n1 : Int).toNat (putL (cmdX x) 0 (cmdX z))) U = _
     rw [put_cmd rfl, put_cmd rfl, Int.toNat_natCast, Int.toNat_natCast, ← hrw, ← hn1, swap_rows]
 · have hzx : LtC z x := by
    rcases cmpC_cases z x with ⟨q, _⟩ | ⟨q, _⟩ | ⟨_, q⟩
    · exact q
    · exact absurd (show x ∈ t ++ [z] ++ b by rw [← q.eq hzo hxo]; simp) hnot
    · exfalso; omega
   have hi := ins_at (a := t ++ [z]) hso hoo hxo hgt (fun y hy => by simp at hy; rw [← hy]; exact hzx)
   exact ⟨rfl, l.length - (k + 1), by omega, k + 1, U, by omega, rfl, by rw [hof, hi, hrw], e0, by show e 3 = _; rw [e3, hof, hi, ← hn2]; congr 1; simp only [List.length_append, List.length_cons, List.length_nil]; omega, rfl⟩
end
section
set_option maxRecDepth 100000
set_option maxHeartbeats 2000000
attribute [local irreducible] on aOp
attribute [local go_sem] decide_true decide_false Bool.not_true Bool.not_false
attribute [local simp] byD_len
variable (G : Nat → D) (hG : ∀ g, low 0 (G g))
include hG
theorem rof_s (l : List Cmd) (hl : OkL l) (hsz : l.length ≤ 1000) (h : List Ob) : Does Tryz.prog G 57 h [.sl 6 (l.map cmdX)] (fun h' r => h' = h ∧ r = .sl 6 ((ofL l).map cmdX)) := Does.gave0 hG (low_cms _ _) (by rw [lowL, lowL]; exact ⟨low_cms _ _, trivial⟩) (List.length_map _) (rof0 G hG l hl hsz) h
end
section
set_option maxRecDepth 100000
set_option maxHeartbeats 2000000
attribute [local irreducible] on aOp
attribute [local go_sem] decide_true decide_false Bool.not_true Bool.not_false
attribute [local simp] byD_len
def bX (b : List UInt8) : List D := [.sl 1 (byD b)]
theorem bX_eq (b : List UInt8) : bX b = [.sl 1 (byD b)] := rfl
theorem low_bs (m : Nat) (l : List (List UInt8)) : low m (.sl 1 (l.map bX)) := by
 rw [low, lowR_iff]
 intro row hr
 obtain ⟨s, _, rfl⟩ := List.mem_map.1 hr
 rw [bX, lowL, lowL]; exact ⟨low_by _ _, trivial⟩
theorem rowsOk_bs (l : List (List UInt8)) : rowsOk 1 (l.map bX) := fun row hr => by
 obtain ⟨c, _, rfl⟩ := List.mem_map.1 hr
 exact ⟨rfl, fun d hd => by simp [bX] at hd; subst hd; rfl⟩
def dW (o : ByteArray) : List (ByteArray × List UInt8) → List (List UInt8)
 | [] => []
 | x :: t => if x.1 = o then x.2 :: dW o t else dW o t
theorem dW_app (o : ByteArray) : ∀ a b : List (ByteArray × List UInt8), dW o (a ++ b) = dW o a ++ dW o b
 | [], b => rfl
 | x :: t, b => by
  rw [List.cons_append, dW, dW, dW_app o t b]
  split <;> simp
theorem dW_take {o : ByteArray} {l : List (ByteArray × List UInt8)} {k : Nat} {x : ByteArray × List UInt8} (h : l[k]? = some x) : dW o (l.take (k + 1)) = dW o (l.take k) ++ if x.1 = o then [x.2] else [] := by
 rw [List.take_add_one, h, dW_app]; rfl
theorem dW_len (o : ByteArray) : ∀ l : List (ByteArray × List UInt8), (dW o l).length ≤ l.length
 | [] => Nat.le_refl _
 | x :: t => by
  have := dW_len o t
  rw [dW]; split <;> simp only [List.length_cons] <;> omega
theorem dW_mem {o : ByteArray} : ∀ {l : List (ByteArray × List UInt8)}, o ∈ namesW l ↔ dW o l ≠ []
 | [] => by simp [namesW, dW]
 | x :: t => by
  have ih := dW_mem (o := o) (l := t)
  unfold namesW at *
  rw [List.map_cons, List.mem_cons, ih, dW]
  split
  · rename_i h; simp [h]
  · rename_i h; simp [Ne.symm h]
def dL (o : ByteArray) (s : List Cmd) : List (List UInt8) := s.flatMap fun c => dW o c.writes
theorem dL_take {o : ByteArray} {s : List Cmd} {k : Nat} {x : Cmd} (h : s[k]? = some x) : dL o (s.take (k + 1)) = dL o (s.take k) ++ dW o x.writes := by
 unfold dL; rw [List.take_add_one, h]; simp
theorem dL_len (o : ByteArray) : ∀ (s : List Cmd) (m : Nat), (∀ c ∈ s, c.writes.length ≤ m) → (dL o s).length ≤ m * s.length
 | [], m, _ => by simp [dL]
 | c :: t, m, h => by
  have h1 := h c (by simp)
  have h2 := dL_len o t m fun c hc => h c (by simp [hc])
  have h3 := dW_len o c.writes
  have e : dL o (c :: t) = dW o c.writes ++ dL o t := by simp [dL]
  rw [e, List.length_append, List.length_cons, Nat.mul_succ]; omega
def bG (rows : List (List D)) (T : List Ob) : List Ob := .buf 38 1 rows :: T
section
variable {rows r2 : List (List D)} {T : List Ob} {x y : Ob}
theorem bG_0 : (bG rows T)[0]? = some (.buf 38 1 rows) := rfl
theorem bG_app : bG rows T ++ [x] = bG rows (T ++ [x]) := rfl
theorem bG_len : (bG rows T).length = T.length + 1 := rfl
theorem bG_last : (bG rows (T ++ [x]))[T.length + 1]? = some x := by simp [bG]
theorem bG_lset : (bG rows (T ++ [x])).set (T.length + 1) y = bG rows (T ++ [y]) := by simp [bG]
end
variable (G : Nat → D) (hG : ∀ g, low 0 (G g))
include hG
theorem writes0 (s : List Cmd) (o : ByteArray) (hl : OkL s) (hs : s.length ≤ 100) (hw : ∀ c ∈ s, c.writes.length ≤ 100) : Does Tryz.prog G 24 [] [.sl 6 (s.map cmdX), .v (.string o)] (fun h' r => h' = [.buf 38 1 ((dL o (ofL s)).map bX)] ∧ r = .buf 0 (dL o (ofL s)).length) := by
 have hwo : ∀ c ∈ ofL s, c.writes.length ≤ 100 := fun c hc => hw c (ofL_sub _ _ hc)
 have hlo := ofL_len s
 have hof := of_s G hG s hl (by omega)
 generalize ofL s = z at *
 have hnl := dL_len o z 100 hwo
 refine Does.only0 hG (low_bs _ _) (K := fun h' r => ∃ i, h'[i]? = some (.buf 38 1 ((dL o z).map bX)) ∧ r = .buf i (dL o z).length) ?_ (fun _ _ h => h)
 refine does_keep Tryz.func24 rfl (Nat.le_of_ble_eq_true rfl) ?_
 simp only [Tryz.ntmps24]
 repeat' first
  | (refine ao_callK rfl rfl rfl ent_14 (hof _) ?_; rintro _ _ ⟨rfl, rfl⟩)
  | refine aw_seq' ?_
  | refine aw_region' ?_
  | refine aw_block ?_
  | refine ao_nil ?_
  | (refine ao1 rfl rfl fun K HK => ?_; simp only [go_sem, ↓reduceIte, Nat.reduceEqDiff, Nat.reduceAdd, Nat.reduceLeDiff, Nat.reduceBEq, Nat.reduceMul, Int.reduceEq, Int.reduceLT, Int.reduceLE, List.length_map] <;> (refine HK _ _ ?_; clear HK K))
 refine aw_niltmp 38 1 5 rfl ?_
 refine aw_for (fun m e h' => ∃ (k : Nat) (T : List Ob), k ≤ z.length ∧ m = z.length - k ∧ h' = bG ((dL o (z.take k)).map bX) T ∧ e 1 = .v (.string o) ∧ e 5 = .buf 0 (dL o (z.take k)).length ∧ e 11 = .sl 6 (z.map cmdX) ∧ e 12 = .v (.int .i64 z.length) ∧ e 13 = .v (.int .i64 k)) z.length ⟨0, [], Nat.zero_le _, rfl, rfl, rfl, rfl, rfl, rfl, rfl⟩ ?_
 rintro m e h' ⟨k, T, hk, rfl, rfl, e1, e5, e11, e12, e13⟩
 by_cases hlt : k < z.length
 rotate_left
 · rw [List.take_of_length_le (by omega)] at e5 ⊢
   have hlt' : ¬ (k : Int) < (z.length : Int) := by omega
   repeat' first
    | refine aw_seq' ?_
    | refine aw_region' ?_
    | refine ao_nil ?_
    | (refine ao1 rfl rfl fun K HK => ?_; simp only [go_sem, ↓reduceIte, Nat.reduceEqDiff, Nat.reduceAdd, Nat.reduceLeDiff, Nat.reduceBEq, Nat.reduceMul, Int.reduceEq, Int.reduceLT, Int.reduceLE, hlt', e1, e5, e11, e12, e13] <;> (refine HK _ _ ?_; clear HK K))
    | refine aw_if0 rfl ?_
    | refine aw_exit ?_
    | refine aw_ret ?_
   exact ⟨.inr rfl, [.buf 0 (dL o z).length], rfl, 0, rfl, rfl⟩
 have hx : z[k]? = some z[k] := List.getElem?_eq_getElem hlt
 have hxw := hwo _ (List.getElem_mem hlt)
 generalize z[k] = x at hx hxw
 have hlt' : (k : Int) < (z.length : Int) := by omega
 have wk : IntKind.i64.wrap ((k : Int) + 1) = (k : Int) + 1 := IntWalk.i64_in _ (by omega)
 have hnt := dL_take (o := o) hx
 have hl0 : (dL o (z.take k)).length ≤ 10000 := by have := dL_len o (z.take k) 100 (fun c hc => hwo c (List.mem_of_mem_take hc)); rw [List.length_take] at this; omega
 generalize dL o (z.take k) = N at *
 repeat' first
  | refine aw_seq' ?_
  | refine aw_region' ?_
  | refine aw_block ?_
  | refine ao_nil ?_
  | (refine ao1 rfl rfl fun K HK => ?_; simp only [go_sem, ↓reduceIte, Nat.reduceEqDiff, Nat.reduceAdd, Nat.reduceLeDiff, Nat.reduceBEq, Nat.reduceMul, Int.reduceEq, Int.reduceLT, Int.reduceLE, hlt', e1, e5, e11, e12, e13, cmdX_eq, bG_app, bG_len, bG_last, bG_lset, bG_0, List.length_map, Int.toNat_natCast]; (first | (refine ⟨by omega, ?_⟩; refine row_at (by assumption) ?_) | skip) <;> (refine HK _ _ ?_; clear HK K))
  | (refine ao1' rfl fun K HK => ?_; simp only [go_sem, ↓reduceIte, Nat.reduceEqDiff, Nat.reduceAdd, Nat.reduceLeDiff, Nat.reduceBEq, Nat.reduceMul, Int.reduceEq, Int.reduceLT, Int.reduceLE, hlt', e1, e5, e11, e12, e13, cmdX_eq, bG_app, bG_len, bG_last, bG_lset, bG_0, List.length_map, Int.toNat_natCast]; refine HK _ _ ?_; clear HK K)
  | refine aw_if1 rfl ?_
  | refine aw_skip ?_
 refine aw_for (fun m e h' => ∃ (j : Nat) (U : List Ob), j ≤ x.writes.length ∧ m = x.writes.length - j ∧ h' = bG ((N ++ dW o (x.writes.take j)).map bX) U ∧ e 1 = .v (.string o) ∧ e 5 = .buf 0 (N ++ dW o (x.writes.take j)).length ∧ e 11 = .sl 6 (z.map cmdX) ∧ e 12 = .v (.int .i64 z.length) ∧ e 13 = .v (.int .i64 k) ∧ e 18 = .sl 2 (x.writes.map wrX) ∧ e 19 = .v (.int .i64 x.writes.length) ∧ e 20 = .v (.int .i64 j)) x.writes.length ⟨0, _, Nat.zero_le _, rfl, by simp only [List.take_zero, dW, List.append_nil]; rfl, e1, by show e 5 = _; simpa [dW] using e5, e11, e12, e13, rfl, rfl, rfl⟩ ?_
 clear e1 e5 e11 e12 e13
 rintro m e h' ⟨j, U, hj, rfl, rfl, e1, e5, e11, e12, e13, e18, e19, e20⟩
 by_cases hlt2 : j < x.writes.length
 · have hy : x.writes[j]? = some x.writes[j] := List.getElem?_eq_getElem hlt2
   generalize x.writes[j] = y at hy
   have hlt2' : (j : Int) < (x.writes.length : Int) := by omega
   have wj : IntKind.i64.wrap ((j : Int) + 1) = (j : Int) + 1 := IntWalk.i64_in _ (by omega)
   have hwt := dW_take (o := o) hy
   have hlm : (N ++ dW o (x.writes.take j)).length ≤ 20000 := by have := dW_len o (x.writes.take j); rw [List.length_take] at this; rw [List.length_append]; omega
   obtain ⟨M, hM⟩ : ∃ M, M = N ++ dW o (x.writes.take j) := ⟨_, rfl⟩
   rw [← hM] at e5 hlm ⊢
   have hmm : (M.map bX).length = M.length := List.length_map _
   have g1 : ∀ (T : List Ob) x y, (bG (M.map bX) (T ++ [x, y]))[T.length + 1 + 1]? = some y := fun T x y => by simp [bG]
   have g2 : ∀ (T : List Ob) x, (T ++ [x]).length = T.length + 1 := fun T x => by simp
   by_cases hyo : y.1 = o
   · have hd : decide (y.1 = o) = true := decide_eq_true hyo
     rw [if_pos hyo] at hwt
     repeat' first
      | (refine ao_appB rfl rfl rfl rfl bG_0 hmm apT_44 (g1 _ _ _) rfl (rowsOk_bs [y.2]) (by simp; omega) ?_)
      | refine aw_seq' ?_
      | refine aw_region' ?_
      | refine aw_block ?_
      | refine ao_nil ?_
      | (refine ao1 rfl rfl fun K HK => ?_; simp only [go_sem, ↓reduceIte, Nat.reduceEqDiff, Nat.reduceAdd, Nat.reduceLeDiff, Nat.reduceBEq, Nat.reduceMul, Int.reduceEq, Int.reduceLT, Int.reduceLE, hlt', hlt2', hd, e1, e5, e11, e12, e13, e18, e19, e20, wj, wrX_eq, bG_app, bG_len, bG_last, bG_lset, bG_0, g1, g2, List.length_map, Int.toNat_natCast]; (first | (refine ⟨by omega, ?_⟩; refine row_at (by assumption) ?_) | skip) <;> (refine HK _ _ ?_; clear HK K))
      | (refine ao1' rfl fun K HK => ?_; simp only [go_sem, ↓reduceIte, Nat.reduceEqDiff, Nat.reduceAdd, Nat.reduceLeDiff, Nat.reduceBEq, Nat.reduceMul, Int.reduceEq, Int.reduceLT, Int.reduceLE, hlt', hlt2', hd, e1, e5, e11, e12, e13, e18, e19, e20, wj, wrX_eq, bG_app, bG_len, bG_last, bG_lset, bG_0, g1, g2, List.length_map, Int.toNat_natCast]; refine HK _ _ ?_; clear HK K)
      | refine aw_if1 rfl ?_
      | refine aw_skip ?_
      | refine thenS_n ?_
     exact ⟨rfl, x.writes.length - (j + 1), by omega, j + 1, _, by omega, rfl, by rw [hwt, ← List.append_assoc, ← hM, List.map_append]; rfl, e1, by rw [hwt, ← List.append_assoc, ← hM, List.length_append]; rfl, e11, e12, e13, e18, e19, rfl⟩
   · have hd : decide (y.1 = o) = false := decide_eq_false hyo
     rw [if_neg hyo, List.append_nil] at hwt
     repeat' first
      | refine aw_seq' ?_
      | refine aw_region' ?_
      | refine aw_block ?_
      | refine ao_nil ?_
      | (refine ao1 rfl rfl fun K HK => ?_; simp only [go_sem, ↓reduceIte, Nat.reduceEqDiff, Nat.reduceAdd, Nat.reduceLeDiff, Nat.reduceBEq, Nat.reduceMul, Int.reduceEq, Int.reduceLT, Int.reduceLE, hlt', hlt2', hd, e1, e5, e11, e12, e13, e18, e19, e20, wj, wrX_eq, bG_app, bG_len, bG_last, bG_lset, bG_0, List.length_map, Int.toNat_natCast]; (first | (refine ⟨by omega, ?_⟩; refine row_at (by assumption) ?_) | skip) <;> (refine HK _ _ ?_; clear HK K))
      | (refine ao1' rfl fun K HK => ?_; simp only [go_sem, ↓reduceIte, Nat.reduceEqDiff, Nat.reduceAdd, Nat.reduceLeDiff, Nat.reduceBEq, Nat.reduceMul, Int.reduceEq, Int.reduceLT, Int.reduceLE, hlt', hlt2', hd, e1, e5, e11, e12, e13, e18, e19, e20, wj, wrX_eq, bG_app, bG_len, bG_last, bG_lset, bG_0, List.length_map, Int.toNat_natCast]; refine HK _ _ ?_; clear HK K)
      | refine aw_if1 rfl ?_
      | refine aw_if0 rfl ?_
      | refine aw_skip ?_
      | refine thenS_n ?_
     exact ⟨rfl, x.writes.length - (j + 1), by omega, j + 1, _, by omega, rfl, by rw [hwt, ← hM], e1, by rw [hwt, ← hM]; exact e5, e11, e12, e13, e18, e19, rfl⟩
 · have hlt2' : ¬ (j : Int) < (x.writes.length : Int) := by omega
   rw [List.take_of_length_le (show x.writes.length ≤ j by omega)] at e5 ⊢
   repeat' first
    | refine aw_seq' ?_
    | refine aw_region' ?_
    | refine ao_nil ?_
    | (refine ao1 rfl rfl fun K HK => ?_; simp only [go_sem, ↓reduceIte, Nat.reduceEqDiff, Nat.reduceAdd, Nat.reduceLeDiff, Nat.reduceBEq, Nat.reduceMul, Int.reduceEq, Int.reduceLT, Int.reduceLE, hlt', hlt2', e1, e5, e11, e12, e13, e18, e19, e20, wk] <;> (refine HK _ _ ?_; clear HK K))
    | refine aw_if0 rfl ?_
    | refine aw_exit ?_
    | refine thenS_n ?_
   exact ⟨rfl, z.length - (k + 1), by omega, k + 1, U, by omega, rfl, by rw [hnt], e1, by rw [hnt]; exact e5, e11, e12, rfl⟩
end
section
set_option maxRecDepth 100000
set_option maxHeartbeats 2000000
attribute [local irreducible] on aOp
attribute [local go_sem] decide_true decide_false Bool.not_true Bool.not_false
attribute [local simp] byD_len
section
variable {P : Program} {G : Nat → D} {n : Nat} {e : Nat → D} {h : List Ob} {ops : Array Oper} {rest : List Oper} {Q : S → Prop} {t : Nat} {ty : TypeId} {pos : String} {aft : Array Edge}
theorem ao_litG {u t' j n1 E1 k1 e' k' : Nat} {xs rows : List (List D)} (ht : decide (t < n) = true) (hx : e t' = .buf j n1) (hj : h[j]? = some (.buf E1 k1 xs)) (hn : xs.length = n1) (hl : litD P u 1 [(0, .sl k1 xs)] = some (e', k', rows))
 (q : ao P G ops rest Q ⟨n, upd (upd e t' (.sl k1 xs)) t (.buf h.length 1), h.set j .dead ++ [.buf e' k' rows]⟩) : ao P G ops (⟨some t, .buildSlice u 1 #[(0, .tmp t')], ty, pos, aft, none⟩ :: rest) Q ⟨n, e, h⟩ := by
 refine ao_give j t' ?_
 have e1 : cvD (fun i => i == j) h (e t') = .sl k1 xs := by rw [hx]; simp [cvD, cv1, hj, hn]
 rw [e1]
 refine ao1 rfl ht fun K HK => ?_
 rw [aOp_lit]
 have e2 : (#[(0, Operand.tmp t')].toList.map fun q => (q.1, ev G (upd e t' (.sl k1 xs)) q.2)) = [(0, .sl k1 xs)] := by
  show [(0, upd e t' (.sl k1 xs) t')] = _
  unfold upd; rw [if_pos rfl]
 rw [e2, hl, on_some]
 refine HK _ _ ?_
 rw [List.length_set]
 exact q
end
theorem lit_b (b : List UInt8) : litD Tryz.prog 44 1 [(0, .sl 1 (byD b))] = some (38, 1, [[.sl 1 (byD b)]]) := by
 unfold litD
 rw [apT_44]
 rfl
variable (G : Nat → D) (hG : ∀ g, low 0 (G g))
include hG
theorem rwrites0 (s : List Cmd) (o : ByteArray) (hl : OkL s) (hs : s.length ≤ 100) (hw : ∀ c ∈ s, c.writes.length ≤ 100) (hb : ∀ c ∈ s, ∀ x ∈ c.writes, x.2.length ≤ 10000) : Does Tryz.prog G 25 [] [.sl 6 (s.map cmdX), .v (.string o)] (fun h' r => h' = [.buf 38 1 ((dL o (ofL s)).map bX)] ∧ r = .buf 0 (dL o (ofL s)).length) := by
 have hwo : ∀ c ∈ ofL s, c.writes.length ≤ 100 := fun c hc => hw c (ofL_sub _ _ hc)
 have hbo : ∀ c ∈ ofL s, ∀ x ∈ c.writes, x.2.length ≤ 10000 := fun c hc => hb c (ofL_sub _ _ hc)
 have hlo := ofL_len s
 have hof := rof_s G hG s hl (by omega)
 generalize ofL s = z at *
 have hnl := dL_len o z 100 hwo
 refine Does.only0 hG (low_bs _ _) (K := fun h' r => ∃ i, h'[i]? = some (.buf 38 1 ((dL o z).map bX)) ∧ r = .buf i (dL o z).length) ?_ (fun _ _ h => h)
 refine does_keep Tryz.func25 rfl (Nat.le_of_ble_eq_true rfl) ?_
 simp only [Tryz.ntmps25]
 repeat' first
  | (refine ao_callK rfl rfl rfl (by kernel_rfl) (hof _) ?_; rintro _ _ ⟨rfl, rfl⟩)
  | refine aw_seq' ?_
  | refine aw_region' ?_
  | refine aw_block ?_
  | refine ao_nil ?_
  | (refine ao1 rfl rfl fun K HK => ?_; simp only [go_sem, ↓reduceIte, Nat.reduceEqDiff, Nat.reduceAdd, Nat.reduceLeDiff, Nat.reduceBEq, Nat.reduceMul, Int.reduceEq, Int.reduceLT, Int.reduceLE, List.length_map] <;> (refine HK _ _ ?_; clear HK K))
 refine aw_for (fun m e h' => ∃ (k : Nat) (T : List Ob), k ≤ z.length ∧ m = z.length - k ∧ h' = bG ((dL o (z.take k)).map bX) T ∧ e 0 = .sl 6 (z.map cmdX) ∧ e 1 = .v (.string o) ∧ e 5 = .buf 0 (dL o (z.take k)).length ∧ e 6 = .v (.int .i64 k)) z.length ⟨0, [], Nat.zero_le _, rfl, rfl, rfl, rfl, rfl, rfl⟩ ?_
 rintro m e h' ⟨k, T, hk, rfl, rfl, e0, e1, e5, e6⟩
 by_cases hlt : k < z.length
 rotate_left
 · rw [List.take_of_length_le (by omega)] at e5 ⊢
   have hlt' : ¬ (k : Int) < (z.length : Int) := by omega
   repeat' first
    | refine aw_seq' ?_
    | refine aw_region' ?_
    | refine ao_nil ?_
    | (refine ao1 rfl rfl fun K HK => ?_; simp only [go_sem, ↓reduceIte, Nat.reduceEqDiff, Nat.reduceAdd, Nat.reduceLeDiff, Nat.reduceBEq, Nat.reduceMul, Int.reduceEq, Int.reduceLT, Int.reduceLE, hlt', e0, e1, e5, e6, List.length_map] <;> (refine HK _ _ ?_; clear HK K))
    | refine aw_if0 rfl ?_
    | refine aw_exit ?_
    | refine aw_ret ?_
   exact ⟨.inr rfl, [.buf 0 (dL o z).length], rfl, 0, rfl, rfl⟩
 have hx : z[k]? = some z[k] := List.getElem?_eq_getElem hlt
 have hxw := hwo _ (List.getElem_mem hlt)
 have hxb := hbo _ (List.getElem_mem hlt)
 generalize z[k] = x at hx hxw hxb
 have hlt' : (k : Int) < (z.length : Int) := by omega
 have wk : IntKind.i64.wrap ((k : Int) + 1) = (k : Int) + 1 := IntWalk.i64_in _ (by omega)
 have hnt := dL_take (o := o) hx
 have hl0 : (dL o (z.take k)).length ≤ 10000 := by have := dL_len o (z.take k) 100 (fun c hc => hwo c (List.mem_of_mem_take hc)); rw [List.length_take] at this; omega
 generalize dL o (z.take k) = N at *
 repeat' first
  | refine aw_seq' ?_
  | refine aw_region' ?_
  | refine aw_block ?_
  | refine ao_nil ?_
  | (refine ao1 rfl rfl fun K HK => ?_; simp only [go_sem, ↓reduceIte, Nat.reduceEqDiff, Nat.reduceAdd, Nat.reduceLeDiff, Nat.reduceBEq, Nat.reduceMul, Int.reduceEq, Int.reduceLT, Int.reduceLE, hlt', e0, e1, e5, e6, List.length_map] <;> (refine HK _ _ ?_; clear HK K))
  | refine aw_if1 rfl ?_
  | refine aw_skip ?_
 refine aw_for (fun m e h' => ∃ (j : Nat) (U : List Ob), j ≤ x.writes.length ∧ m = x.writes.length - j ∧ h' = bG ((N ++ dW o (x.writes.take j)).map bX) U ∧ e 0 = .sl 6 (z.map cmdX) ∧ e 1 = .v (.string o) ∧ e 5 = .buf 0 (N ++ dW o (x.writes.take j)).length ∧ e 6 = .v (.int .i64 k) ∧ e 7 = .v (.int .i64 j)) x.writes.length ⟨0, T, Nat.zero_le _, rfl, by simp only [List.take_zero, dW, List.append_nil], e0, e1, by show e 5 = _; simpa [dW] using e5, e6, rfl⟩ ?_
 clear e0 e1 e5 e6
 rintro m e h' ⟨j, U, hj, rfl, rfl, e0, e1, e5, e6, e7⟩
 by_cases hlt2 : j < x.writes.length
 · have hy : x.writes[j]? = some x.writes[j] := List.getElem?_eq_getElem hlt2
   have hyb := hxb _ (List.getElem_mem hlt2)
   generalize x.writes[j] = y at hy hyb
   have hlt2' : (j : Int) < (x.writes.length : Int) := by omega
   have wj : IntKind.i64.wrap ((j : Int) + 1) = (j : Int) + 1 := IntWalk.i64_in _ (by omega)
   have hwt := dW_take (o := o) hy
   have hlm : (N ++ dW o (x.writes.take j)).length ≤ 20000 := by have := dW_len o (x.writes.take j); rw [List.length_take] at this; rw [List.length_append]; omega
   obtain ⟨M, hM⟩ : ∃ M, M = N ++ dW o (x.writes.take j) := ⟨_, rfl⟩
   rw [← hM] at e5 hlm ⊢
   have hmm : (M.map bX).length = M.length := List.length_map _
   have g1 : ∀ (T : List Ob) x y, (bG (M.map bX) (T ++ [x, y]))[T.length + 1 + 1]? = some y := fun T x y => by simp [bG]
   have g2 : ∀ (T : List Ob) x, (T ++ [x]).length = T.length + 1 := fun T x => by simp
   by_cases hyo : y.1 = o
   · have hd : decide (y.1 = o) = true := decide_eq_true hyo
     rw [if_pos hyo] at hwt
     repeat' first
      | (refine ao_appR rfl rfl rfl bG_last rfl apT_38 rfl (rowsOk_by y.2) (by rw [byD_len]; omega) ?_)
      | (refine ao_litG (j := U.length + 1) rfl rfl (by first | exact bG_last | (simp only [bG_lset]; exact bG_last)) (by simp) (lit_b y.2) ?_)
      | refine aw_seq' ?_
      | refine aw_region' ?_
      | refine aw_block ?_
      | refine ao_nil ?_
      | (refine ao1 rfl rfl fun K HK => ?_; simp only [go_sem, ↓reduceIte, Nat.reduceEqDiff, Nat.reduceAdd, Nat.reduceLeDiff, Nat.reduceBEq, Nat.reduceMul, Int.reduceEq, Int.reduceLT, Int.reduceLE, hlt', hlt2', hd, e0, e1, e5, e6, e7, wj, cmdX_eq, wrX_eq, bG_app, bG_len, bG_last, bG_lset, bG_0, g1, g2, List.length_map, Int.toNat_natCast]; (first | (refine ⟨by omega, ?_⟩; refine row_at (by assumption) ?_) | skip) <;> (refine HK _ _ ?_; clear HK K))
      | refine ao_appB rfl rfl rfl rfl (by (simp only [go_sem, ↓reduceIte, Nat.reduceEqDiff, Nat.reduceAdd, Nat.reduceLeDiff, Nat.reduceBEq, Nat.reduceMul, Int.reduceEq, Int.reduceLT, Int.reduceLE, hlt', hlt2', hd, e0, e1, e5, e6, e7, wj, cmdX_eq, wrX_eq, bG_app, bG_len, bG_last, bG_lset, bG_0, g1, g2, List.length_map, Int.toNat_natCast]; rfl)) (by simp) (by simp only [go_sem]; rfl) (by (simp only [go_sem, ↓reduceIte, Nat.reduceEqDiff, Nat.reduceAdd, Nat.reduceLeDiff, Nat.reduceBEq, Nat.reduceMul, Int.reduceEq, Int.reduceLT, Int.reduceLE, hlt', hlt2', hd, e0, e1, e5, e6, e7, wj, cmdX_eq, wrX_eq, bG_app, bG_len, bG_last, bG_lset, bG_0, g1, g2, List.length_map, Int.toNat_natCast]; rfl)) (by simp) (by (simp [rowsOk, D.one, Value.oneCell']; done)) (by (simp; omega)) ?_
      | refine aw_if1 rfl ?_
      | refine aw_skip ?_
      | refine thenS_n ?_
     exact ⟨rfl, x.writes.length - (j + 1), by omega, j + 1, _, by omega, rfl, by rw [hwt, ← List.append_assoc, ← hM, List.map_append]; rfl, e0, e1, by rw [hwt, ← List.append_assoc, ← hM, List.length_append]; rfl, e6, rfl⟩
   · have hd : decide (y.1 = o) = false := decide_eq_false hyo
     rw [if_neg hyo, List.append_nil] at hwt
     repeat' first
      | refine aw_seq' ?_
      | refine aw_region' ?_
      | refine aw_block ?_
      | refine ao_nil ?_
      | (refine ao1 rfl rfl fun K HK => ?_; simp only [go_sem, ↓reduceIte, Nat.reduceEqDiff, Nat.reduceAdd, Nat.reduceLeDiff, Nat.reduceBEq, Nat.reduceMul, Int.reduceEq, Int.reduceLT, Int.reduceLE, hlt', hlt2', hd, e0, e1, e5, e6, e7, wj, cmdX_eq, wrX_eq, List.length_map, Int.toNat_natCast]; (first | (refine ⟨by omega, ?_⟩; refine row_at (by assumption) ?_) | skip) <;> (refine HK _ _ ?_; clear HK K))
      | refine aw_if1 rfl ?_
      | refine aw_if0 rfl ?_
      | refine aw_skip ?_
      | refine thenS_n ?_
     exact ⟨rfl, x.writes.length - (j + 1), by omega, j + 1, U, by omega, rfl, by rw [hwt, ← hM], e0, e1, by rw [hwt, ← hM]; exact e5, e6, rfl⟩
 · have hlt2' : ¬ (j : Int) < (x.writes.length : Int) := by omega
   rw [List.take_of_length_le (show x.writes.length ≤ j by omega)] at e5 ⊢
   repeat' first
    | refine aw_seq' ?_
    | refine aw_region' ?_
    | refine ao_nil ?_
    | (refine ao1 rfl rfl fun K HK => ?_; simp only [go_sem, ↓reduceIte, Nat.reduceEqDiff, Nat.reduceAdd, Nat.reduceLeDiff, Nat.reduceBEq, Nat.reduceMul, Int.reduceEq, Int.reduceLT, Int.reduceLE, hlt', hlt2', e0, e1, e5, e6, e7, wk, cmdX_eq, List.length_map, Int.toNat_natCast]; (first | (refine ⟨by omega, ?_⟩; refine row_at (by assumption) ?_) | skip) <;> (refine HK _ _ ?_; clear HK K))
    | refine aw_if0 rfl ?_
    | refine aw_exit ?_
    | refine thenS_n ?_
   exact ⟨rfl, z.length - (k + 1), by omega, k + 1, U, by omega, rfl, by rw [hnt], e0, e1, by rw [hnt]; exact e5, rfl⟩
end
section
set_option maxRecDepth 100000
set_option maxHeartbeats 2000000
attribute [local irreducible] on aOp
attribute [local go_sem] decide_true decide_false Bool.not_true Bool.not_false
attribute [local simp] byD_len
theorem has_names {s : List Cmd} {o : ByteArray} (hs : OkL s) : hasS (ofS (namesL s)) o = decide (0 < (dL o (ofL s)).length) := by
 rw [Bool.eq_iff_iff, decide_eq_true_eq, hasS_mem, mem_ofS, List.length_pos_iff]
 unfold namesL dL
 rw [List.mem_flatMap]
 constructor
 · rintro ⟨c, h1, h2⟩ hn
   have h3 := List.flatMap_eq_nil_iff.1 hn c ((mem_ofL hs).2 h1)
   exact dW_mem.1 h2 h3
 · intro hn
   refine Classical.byContradiction fun hc => hn (List.flatMap_eq_nil_iff.2 fun c h1 => ?_)
   refine Classical.byContradiction fun h2 => hc ⟨c, (mem_ofL hs).1 h1, dW_mem.2 h2⟩
variable (G : Nat → D) (hG : ∀ g, low 0 (G g))
include hG
theorem lawWrites (aw : Awake G) (s : List Cmd) (o : ByteArray) (na : ∀ x ∈ s, Nums x) (h : List Ob) : Does Tryz.prog G 6 h [.sl 6 (s.map cmdX), .v (.string o)] (fun h' r => h' = h ∧ r = .v (.bool true)) := by
 refine does_any G hG (by rw [lowL, lowL, lowL]; exact ⟨low_cms _ _, by simp [low], trivial⟩) (by rw [low]; trivial) ?_ h
 refine does_of_aw Tryz.func6 rfl (Nat.le_of_ble_eq_true rfl) hG fun hl0 _ => ?_
 simp only [Tryz.ntmps6]
 by_cases sa : SmallL s 12
 rotate_left
 · have q := small_n G hG (by decide) sa
   repeat' first
    | refine aw_seq' ?_
    | refine aw_region' ?_
    | refine ao_nil ?_
    | (refine ao1 rfl rfl fun K HK => ?_; (first | refine aOp_pick rfl ?_ | skip); simp only [go_sem, ↓reduceIte, Nat.reduceEqDiff, Nat.reduceAdd, Nat.reduceLeDiff, Nat.reduceBEq, Nat.reduceMul, Int.reduceEq, Int.reduceLT, Int.reduceLE] <;> (refine HK _ _ ?_; clear HK K))
    | refine ao0 rfl rfl ?_
    | (refine ao2 rfl rfl rfl ent_10 (q _) ?_; rintro _ _ ⟨rfl, rfl⟩)
    | (refine ao2 rfl rfl rfl ent_11 (aw _) ?_; rintro _ _ ⟨rfl, rfl⟩)
    | refine aw_if1 rfl ?_
    | refine aw_ret ?_
    | refine thenS_r ?_
   exact ⟨.inr rfl, endD (r := .v _) hl0 rfl (by simp) (by simp) rfl (by rw [low]; trivial) ⟨rfl, rfl⟩⟩
 have qa := small_y G hG (by decide) sa
 by_cases so : 40 < o.size
 · have so' : (40 : Int) < (o.size : Int) := by omega
   repeat' first
    | refine aw_seq' ?_
    | refine aw_region' ?_
    | refine ao_nil ?_
    | (refine ao1 rfl rfl fun K HK => ?_; (first | refine aOp_pick rfl ?_ | skip); simp only [go_sem, ↓reduceIte, Nat.reduceEqDiff, Nat.reduceAdd, Nat.reduceLeDiff, Nat.reduceBEq, Nat.reduceMul, Int.reduceEq, Int.reduceLT, Int.reduceLE, so'] <;> (refine HK _ _ ?_; clear HK K))
    | (refine ao2 rfl rfl rfl ent_10 (qa _) ?_; rintro _ _ ⟨rfl, rfl⟩)
    | (refine ao2 rfl rfl rfl ent_11 (aw _) ?_; rintro _ _ ⟨rfl, rfl⟩)
    | refine aw_if1 rfl ?_
    | refine aw_ret ?_
    | refine thenS_r ?_
   exact ⟨.inr rfl, endD (r := .v _) hl0 rfl (by simp) (by simp) rfl (by rw [low]; trivial) ⟨rfl, rfl⟩⟩
 have so' : ¬ (40 : Int) < (o.size : Int) := by omega
 have oa := okL_of_small na sa
 have la := sa.1
 have hw : ∀ c ∈ s, c.writes.length ≤ 100 := fun c hc => by have := (sa.2 c hc).1; omega
 have hb : ∀ c ∈ s, ∀ x ∈ c.writes, x.2.length ≤ 10000 := fun c hc x hx => by have := ((sa.2 c hc).2.2 x hx).2; omega
 have lA : lowL 0 [.sl 6 (s.map cmdX)] := by rw [lowL, lowL]; exact ⟨low_cms _ _, trivial⟩
 have lB : lowL 0 [.sl 6 (s.map cmdX), .v (.string o)] := by rw [lowL, lowL, lowL]; exact ⟨low_cms _ _, by simp [low], trivial⟩
 have c1 := Does.gave0 hG (low_ss 0 _) lA (List.length_map _) (objects0 G hG s (by omega) hw)
 have c2 := Does.gave0 hG (low_ss 0 _) lA (List.length_map _) (robjects0 G hG s (by omega) hw)
 have c3 := Does.gave0 hG (low_bs 0 _) lB (List.length_map _) (writes0 G hG s o oa (by omega) hw)
 have c4 := Does.gave0 hG (low_bs 0 _) lB (List.length_map _) (rwrites0 G hG s o oa (by omega) hw hb)
 have hN : (ofS (namesL s)).length ≤ 10000 := by have h1 := ofS_len (namesL s); have h2 := namesL_len s 100 hw; omega
 have c5 := rsame_d G hG (ofS (namesL s)) (ofS (namesL s)) (by omega)
 rw [sameS_refl] at c5
 have c6 := rhas_d G hG (ofS (namesL s)) o (by omega)
 rw [has_names oa] at c6
 have hL : (dL o (ofL s)).length ≤ 10000 := by
  have h1 := dL_len o (ofL s) 100 (fun c hc => hw c (ofL_sub _ _ hc))
  have h2 := ofL_len s
  omega
 generalize dL o (ofL s) = L at *
 generalize ofS (namesL s) = N at *
 have hpos : ∀ (p : Bool), decide (0 < L.length) = p → decide ((0 : Int) < (L.length : Int)) = p := fun p hp => by rw [← hp, decide_eq_decide]; omega
 cases hp : decide (0 < L.length)
 all_goals rw [hp] at c6
 all_goals have hp' := hpos _ hp
 all_goals clear hpos
 repeat' first
  | refine aw_seq' ?_
  | refine aw_region' ?_
  | refine aw_block ?_
  | refine ao_nil ?_
  | (refine ao1 rfl rfl fun K HK => ?_; (first | refine aOp_pick rfl ?_ | skip); simp only [go_sem, ↓reduceIte, Nat.reduceEqDiff, Nat.reduceAdd, Nat.reduceLeDiff, Nat.reduceBEq, Nat.reduceMul, Int.reduceEq, Int.reduceLT, Int.reduceLE, so', hp', List.length_map, Bool.false_eq_true] <;> (refine HK _ _ ?_; clear HK K))
  | (refine ao2 rfl rfl rfl ent_10 (qa _) ?_; rintro _ _ ⟨rfl, rfl⟩)
  | (refine ao2 rfl rfl rfl ent_23 (c1 _) ?_; rintro _ _ ⟨rfl, rfl⟩)
  | (refine ao2 rfl rfl rfl ent_27 (c2 _) ?_; rintro _ _ ⟨rfl, rfl⟩)
  | (refine ao2 rfl rfl rfl ent_24 (c3 _) ?_; rintro _ _ ⟨rfl, rfl⟩)
  | (refine ao2 rfl rfl rfl ent_25 (c4 _) ?_; rintro _ _ ⟨rfl, rfl⟩)
  | (refine ao2 rfl rfl rfl ent_26 (c5 _) ?_; rintro _ _ ⟨rfl, rfl⟩)
  | (refine ao2 rfl rfl rfl ent_28 (c6 _) ?_; rintro _ _ ⟨rfl, rfl⟩)
  | refine aw_if0 rfl ?_
  | refine aw_skip ?_
 all_goals refine aw_for (fun m e h' => ∃ k : Nat, k ≤ L.length ∧ m = L.length - k ∧ h' = [] ∧ e 6 = .sl 1 (L.map bX) ∧ e 7 = .sl 1 (L.map bX) ∧ e 8 = .v (.int .i64 k)) L.length ⟨0, Nat.zero_le _, rfl, rfl, rfl, rfl, rfl⟩ ?_
 all_goals clear hp hp'
 all_goals rintro m e h' ⟨k, hk, rfl, rfl, e6, e7, e8⟩
 all_goals by_cases hlt : k < L.length
 all_goals have wk : IntKind.i64.wrap ((k : Int) + 1) = (k : Int) + 1 := IntWalk.i64_in _ (by omega)
 all_goals try (have hx : L[k]? = some L[k] := List.getElem?_eq_getElem hlt)
 all_goals try generalize L[k] = x at hx
 repeat' first
  | (refine aq1 rfl rfl fun K HK => ?_; simp only [go_sem]; refine bst_by (n := 1) (h := []) byT_38 strT_9 ?_; refine HK _ _ rfl ?_; clear HK K)
  | refine aw_seq' ?_
  | refine aw_region' ?_
  | refine aw_block ?_
  | refine ao_nil ?_
  | ((first | refine ao1 rfl rfl fun K HK => ?_ | refine aq1 rfl rfl fun K HK => ?_); simp only [go_sem, ↓reduceIte, Nat.reduceEqDiff, Nat.reduceAdd, Nat.reduceLeDiff, Nat.reduceBEq, Nat.reduceMul, Int.reduceEq, Int.reduceLT, Int.reduceLE, e6, e7, e8, wk, bX_eq, List.length_map, Int.toNat_natCast]; (first | refine splitB (fun hq => ?_) (fun hq => ?_) | (refine ⟨by omega, by omega, ?_⟩; refine row_at (by assumption) ?_) | (refine ⟨by omega, by omega, ?_⟩; intro row hrow; obtain ⟨x, hx, rfl⟩ := row_inv hrow; clear hrow) | skip) <;> ((first | refine HK _ _ ?_ | refine HK _ _ rfl ?_); clear HK K))
  | refine aq_nil ?_
  | (refine aw_draw mixd (by kernel_rfl) ?_)
  | (refine ao2 rfl rfl rfl ent_11 (aw _) ?_; rintro _ _ ⟨rfl, rfl⟩)
  | refine aw_if1 rfl ?_
  | refine aw_if0 rfl ?_
  | refine aw_skip ?_
  | refine aw_exit ?_
  | refine aw_ret ?_
  | refine thenS_n ?_
  | (exfalso; omega)
 all_goals first
  | exact ⟨rfl, L.length - (k + 1), by omega, k + 1, by omega, rfl, rfl, e6, e7, rfl⟩
  | exact ⟨.inr rfl, endD (r := .v (.bool true)) hl0 rfl (by simp) (by simp) rfl (by rw [low]; trivial) ⟨rfl, rfl⟩⟩
end
end Go.Proofs.YtidpdgdakghfnaaGreat
