/-
  What the statements of the chapter share, part 38: SU2, SU3, QU1, QU2, QU3, QN1, QN2, QN3.
-/
import Derived.Test.YtbhkcbidcfofiaaGreatY14
import Derived.Test.YtbhkcbidcfofiaaGreatY15
import Derived.Test.YtbhkcbidcfofiaaGreatY25
import Derived.Test.YtbhkcbidcfofiaaGreatY27
import Derived.Test.YtbhkcbidcfofiaaGreatY29
import Derived.Test.YtbhkcbidcfofiaaGreatY36
import Derived.Test.YtbhkcbidcfofiaaGreatY37
import Derived.Shelf.Slices.In.SortNone
import Derived.Shelf.Sort.Plain
set_option linter.unusedVariables false
set_option linter.unusedSimpArgs false
set_option maxRecDepth 100000
set_option maxHeartbeats 8000000
namespace Go.Proofs.YtbhkcbidcfofiaaGreat
open _root_.And renaming intro → Zx
open _root_.Bool renaming not_false → Zp, not_true → Zr
open _root_.Int renaming toNat_natCast → Zc, reduceEq → Zi, reduceLE → Zj, reduceLT → Zk
open _root_.List renaming length_append → Z0, length_cons → Z1, length_map → Z2, length_drop → Z3, length_nil → Z4, getElem?_eq_getElem → Z6, cons_append → Z9, nil_append → Za, pairwise_cons → Zb, append_assoc → Zg, map_append → Zh, mem_cons → Zm, getElem?_map → Zn, reverse_cons → Zo, reverse_nil → Zq, mem_append → Zs
open _root_.Nat renaming le_of_ble_eq_true → Z5, reduceEqDiff → Z7, reduceLeDiff → Z8, reduceAdd → Zd, reduceBEq → Ze, reduceMul → Zf, zero_add → Zv, zero_le → Zw
open _root_.Option renaming map_some → Zl, bind_some → Zu
open _root_.Go.Proofs.Tryz renaming prog → Zt
open Go.RowKit
section
open Go.Shelf Go.RowKit
def laysSrt_ren : Go.Shelf.Ren := ⟨fun | 190 => 179 | 125 => 87 | 258 => 226 | 128 => 149 | 129 => 150 | 302 => 247 | 303 => 248 | 304 => 249 | 305 => 250 | 306 => 251 | 307 => 252 | 308 => 165 | 309 => 253 | 310 => 254 | 333 => 267 | 329 => 209 | 330 => 210 | 334 => 268 | 335 => 269 | 336 => 213 | 344 => 273 | n => n, fun | 31 => 22 | 9 => 9 | 3 => 3 | 46 => 87 | 0 => 0 | 51 => 142 | 53 => 144 | 4 => 4 | 183 => 136 | 182 => 135 | 131 => 103 | 5 => 5 | 218 => 182 | 222 => 186 | 228 => 206 | 229 => 207 | n => n, fun | n => n⟩
theorem laysSrt : Go.Proofs.Lays.n190 Zt laysSrt_ren := {
  mixed := by kernel_rfl
  f125 := Tryz.func87.trans (congrArg some (by kernel_rfl))
  f128 := Tryz.func149.trans (congrArg some (by kernel_rfl))
  f129 := Tryz.func150.trans (congrArg some (by kernel_rfl))
  f190 := Tryz.func179.trans (congrArg some (by kernel_rfl))
  f258 := Tryz.func226.trans (congrArg some (by kernel_rfl))
  f302 := Tryz.func247.trans (congrArg some (by kernel_rfl))
  f303 := Tryz.func248.trans (congrArg some (by kernel_rfl))
  f304 := Tryz.func249.trans (congrArg some (by kernel_rfl))
  f305 := Tryz.func250.trans (congrArg some (by kernel_rfl))
  f306 := Tryz.func251.trans (congrArg some (by kernel_rfl))
  f307 := Tryz.func252.trans (congrArg some (by kernel_rfl))
  f308 := Tryz.func165.trans (congrArg some (by kernel_rfl))
  f309 := Tryz.func253.trans (congrArg some (by kernel_rfl))
  f310 := Tryz.func254.trans (congrArg some (by kernel_rfl))
  f329 := Tryz.func209.trans (congrArg some (by kernel_rfl))
  f330 := Tryz.func210.trans (congrArg some (by kernel_rfl))
  f333 := Tryz.func267.trans (congrArg some (by kernel_rfl))
  f334 := Tryz.func268.trans (congrArg some (by kernel_rfl))
  f335 := Tryz.func269.trans (congrArg some (by kernel_rfl))
  f336 := Tryz.func213.trans (congrArg some (by kernel_rfl))
  f344 := Tryz.func273.trans (congrArg some (by kernel_rfl))
  t0 := Tryz.underlying0
  a0 := Tryz.isAgg0
  z0 := Tryz.sizeOf0
  v0 := Tryz.zeroValue0
  t3 := Tryz.underlying3
  a3 := Tryz.isAgg3
  z3 := Tryz.sizeOf3
  v3 := Tryz.zeroValue3
  t4 := Tryz.underlying4
  a4 := Tryz.isAgg4
  z4 := Tryz.sizeOf4
  v4 := Tryz.zeroValue4
  t5 := Tryz.underlying5
  a5 := Tryz.isAgg5
  z5 := Tryz.sizeOf5
  v5 := Tryz.zeroValue5
  t9 := Tryz.underlying9
  a9 := Tryz.isAgg9
  z9 := Tryz.sizeOf9
  v9 := Tryz.zeroValue9
  t31 := Tryz.underlying22
  a31 := Tryz.isAgg22
  z31 := Tryz.sizeOf22
  v31 := Tryz.zeroValue22
  t46 := Tryz.underlying87
  a46 := Tryz.isAgg87
  z46 := Tryz.sizeOf87
  v46 := Tryz.zeroValue87
  t51 := Tryz.underlying142
  a51 := Tryz.isAgg142
  z51 := Tryz.sizeOf142
  v51 := Tryz.zeroValue142
  t53 := Tryz.underlying144
  a53 := Tryz.isAgg144
  z53 := Tryz.sizeOf144
  v53 := Tryz.zeroValue144
  t131 := Tryz.underlying103
  a131 := Tryz.isAgg103
  z131 := Tryz.sizeOf103
  v131 := Tryz.zeroValue103
  t182 := Tryz.underlying135
  a182 := Tryz.isAgg135
  z182 := Tryz.sizeOf135
  v182 := Tryz.zeroValue135
  t183 := Tryz.underlying136
  a183 := Tryz.isAgg136
  z183 := Tryz.sizeOf136
  v183 := Tryz.zeroValue136
  t218 := Tryz.underlying182
  a218 := Tryz.isAgg182
  z218 := Tryz.sizeOf182
  v218 := Tryz.zeroValue182
  t222 := Tryz.underlying186
  a222 := Tryz.isAgg186
  z222 := Tryz.sizeOf186
  v222 := Tryz.zeroValue186
  t228 := Tryz.underlying206
  a228 := Tryz.isAgg206
  z228 := Tryz.sizeOf206
  v228 := Tryz.zeroValue206
  t229 := Tryz.underlying207
  a229 := Tryz.isAgg207
  z229 := Tryz.sizeOf207
  v229 := Tryz.zeroValue207 }
section
variable {w : World} {hd : List Value} {h : List Ob}
def sStr (s : ByteArray) : Value := .string s
theorem one_mapS (l : List ByteArray) : ∀ r ∈ l.map strX, r.length = 1 := fun r hr => by
 obtain ⟨x, _, rfl⟩ := List.mem_map.1 hr; rfl
theorem Yc3 : ∀ l : List ByteArray, (l.map strX).flatten = l.map fun s => D.v (.string s)
 | [] => rfl
 | x :: t => by rw [List.map_cons, List.flatten_cons, Yc3 t]; rfl
theorem Zw2 {W : World} : ∀ {l : List ByteArray} {cs : List Value}, rdL hd h W (l.map fun s => D.v (.string s)) cs ↔ cs = l.map sStr
 | [], cs => by rw [List.map_nil, rdL]; rfl
 | x :: t, cs => by
  rw [List.map_cons, rdL]
  constructor
  · rintro ⟨u, v, rfl, h1, h2⟩
    rw [rd] at h1
    rw [Zw2.1 h2, h1]; rfl
  · rintro rfl
    exact ⟨_, _, rfl, by rw [rd]; rfl, Zw2.2 rfl⟩
def Uu (s : ByteArray) : List UInt8 := s.data.toList
theorem enc_bytes (s : ByteArray) : encStr (Uu s) = .string s := by
 unfold encStr Uu
 congr 1
def Zt9 (b : List UInt8) : ByteArray := ⟨b.toArray⟩
theorem strOf_bytes (s : ByteArray) : Zt9 (Uu s) = s := by unfold Zt9 Uu; rfl
variable (G : Nat → D)
theorem sortS_d (l : List ByteArray) (hsz : l.length ≤ 1000000) {h : List Ob} {i : Nat} (hi : h[i]? = some (.buf 9 1 (l.map strX))) :
 Does Zt G 179 h [.buf i l.length] (fun h' r => ∃ l' : List ByteArray, l'.Perm l ∧ l'.Pairwise (fun x y => ¬ ltS y x) ∧ h' = h.set i (.buf 9 1 (l'.map strX)) ∧ r = .tup []) := by
 intro w hd p vs ok ha
 rw [rdL] at ha
 obtain ⟨u, t, rfl, hu, ha⟩ := ha
 rw [rdL] at ha
 subst ha
 rw [rd] at hu
 obtain ⟨_, _, hu⟩ := hu
 have hv := (hu _ 1 _ hi).2 (by simp)
 obtain ⟨cs, hown, hrd, hrows, hp⟩ := ok.ob i _ u hi hv
 rw [Z2] at hown
 rw [Yc3, Zw2] at hrd
 subst hrd
 rcases hl : l with _ | ⟨x0, t0⟩
 · subst hl
   obtain ⟨a, c, hua⟩ : ∃ a c, u = .slice a 0 c := by
    rcases hown.2 with ⟨rfl, _⟩ | ⟨gg, cap, cur, rfl, _⟩ <;> exact ⟨_, _, rfl⟩
   subst hua
   refine (Any.slices_Sort_string_none laysSrt a c w).mono ?_
   rintro e w' ⟨rfl, rfl⟩
   exact ⟨_, hd, h, .tup [], p, rfl, ⟨[], .refl _, .nil, by rw [Js hi], rfl⟩, ok, by rw [rd]; exact ⟨#[], rfl, by rw [rdL]⟩, .refl _ _ _ _⟩
 rw [← hl]
 have hn0 : l.length ≠ 0 := by rw [hl]; simp
 clear hl
 rcases hown.2 with ⟨_, h0⟩ | ⟨B, cap, cur, rfl, _, hB, hcap, hmax, hcur, htake⟩
 · exact absurd h0 hn0
 have hBl := (Array.getElem?_eq_some_iff.1 hB).1
 have hcu : l.length ≤ cur.size := by rw [hcur]; omega
 rw [Nat.mul_one] at htake hcur
 have hH : Go.Sort.Holds encStr w B 0 (l.map Uu).toArray := by
  intro j hj
  have hjl : j < l.length := by simpa using hj
  have e1 : cur[j]? = some (.string l[j]) := by
   have : (cur.toList.take l.length)[j]? = (l.map sStr)[j]? := by rw [htake]
   rw [List.getElem?_take, if_pos hjl, Array.getElem?_toList] at this
   rw [this, Zn, Z6 hjl]; rfl
  have e2 : (l.map Uu).toArray[j]! = Uu l[j] := by
   rw [getElem!_pos _ j hj]; simp
  rw [e2, enc_bytes]
  constructor
  · simp [World.cell?, hB, e1]
  · simp [World.frozen?, hB]
 have HS := Any.slices_Sort_string laysSrt B 0 cap (l.map Uu) w hH hBl (by simp; omega)
 rw [Z2] at HS
 refine HS.mono ?_
 rintro e w' ⟨rfl, m, os, rfl⟩
 generalize hl2 : ((l.map Uu).mergeSort fun x y => decide (x ≤ y)) = l2
 have hperm : l2.Perm (l.map Uu) := by rw [← hl2]; exact List.mergeSort_perm _ _
 have hsort : l2.Pairwise (fun x y => x ≤ y) := by
  have := List.pairwise_mergeSort (le := fun x y : List UInt8 => decide (x ≤ y)) (fun a b c h1 h2 => by simp only [decide_eq_true_eq] at *; exact List.le_trans h1 h2) (fun a b => by simp only [Bool.or_eq_true, decide_eq_true_eq]; exact List.le_total a b) (l.map Uu)
  rw [hl2] at this
  exact this.imp fun h => by simpa using h
 have hlen : l2.length = l.length := by rw [hperm.length_eq, Z2]
 have e1 : (Go.Sort.ahead w m).heap = w.heap := rfl
 have hblk : (Go.Sort.grow (Go.Sort.putRow encStr (Go.Sort.ahead w m) B 0 l2.toArray) os).heap[B]? = some (.cells (Go.Sort.putCells encStr 0 l2.toArray cur) 9 (0, 0)) := by
  rw [Go.Sort.heap_grow_old _ _ (by rw [Go.Sort.size_putRow, e1]; exact hBl)]
  unfold Go.Sort.putRow Go.Sort.mapBlock
  simp only [Array.getElem?_modify, if_true, e1, hB, Zl, Go.Sort.onCells]
 have hpc : (Go.Sort.putCells encStr 0 l2.toArray cur).toList.take l.length = (l2.map Zt9).map sStr := by
  apply List.ext_getElem?
  intro j
  rw [List.getElem?_take]
  by_cases hj : j < l.length
  · rw [if_pos hj, Array.getElem?_toList]
    have hjc : j < cur.size := by omega
    unfold Go.Sort.putCells
    rw [Array.getElem?_mapIdx, Array.getElem?_eq_getElem hjc]
    have hjs : j < l2.toArray.size := by simp; omega
    simp only [Zl, Zv, Zw, true_and, Nat.sub_zero]
    rw [if_pos hjs, getElem!_pos _ j hjs, Zn, Zn, Z6 (by omega)]
    simp only [Zl, List.getElem_toArray]
    rfl
  · rw [if_neg hj, List.getElem?_eq_none (by simp; omega)]
 obtain ⟨o, ev⟩ := Ok.repl (ob' := .buf 9 1 ((l2.map Zt9).map strX)) (u' := .slice (some ⟨B, 0, none⟩) l.length cap) (w' := Go.Sort.grow (Go.Sort.putRow encStr (Go.Sort.ahead w m) B 0 l2.toArray) os) ok hi hv rfl rfl rfl rfl (by rw [Go.Sort.size_grow, Go.Sort.size_putRow, e1]; omega)
  (fun b hb hne => by
   have hbB : b ≠ B := fun e => hne (by rw [e]; rfl)
   rw [Go.Sort.heap_grow_old _ _ (by rw [Go.Sort.size_putRow, e1]; exact hb)]
   unfold Go.Sort.putRow Go.Sort.mapBlock
   simp only [Array.getElem?_modify, if_neg (Ne.symm hbB), e1]) (fun b hb => .inl hb) (fun _ _ => rfl)
  (fun e kk xs' he => by cases he; exact ⟨_, _, rfl, by simp [hlen], fun _ => rfl⟩)
  (fun c s => by
   refine ⟨(l2.map Zt9).map sStr, ?_, ?_, one_mapS _, fun gg hg => ?_⟩
   · rw [Z2, Z2, hlen]
     refine ⟨by simp [hlen], .inr ⟨B, cap, _, rfl, Zw _, hblk, hcap, hmax, by rw [← hcur]; simp [Go.Sort.putCells], ?_⟩⟩
     rw [Nat.mul_one]; exact hpc
   · rw [Yc3]; exact Zw2.2 rfl
   · cases hg; simp [hp B rfl])
  (h0 := Nat.le_add_right _ _)
 refine ⟨_, _, _, .tup [], _, rfl, ⟨l2.map Zt9, ?_, ?_, rfl, rfl⟩, o, by rw [rd]; exact ⟨#[], rfl, by rw [rdL]⟩, ev⟩
 · have := hperm.map Zt9
   rw [List.map_map] at this
   have hid : (Zt9 ∘ Uu) = id := funext fun s => strOf_bytes s
   rwa [hid, List.map_id] at this
 · rw [List.pairwise_map]
   exact hsort.imp fun {a b} hab hlt => List.not_lt.2 hab hlt
end
end
section
attribute [local irreducible] on aOp
attribute [local go_sem] decide_true decide_false Zr Zp
attribute [local simp] byD_len
def uG (rows : List (List D)) (T : List Ob) : List Ob := .buf 9 1 rows :: T
section
variable {rows r2 : List (List D)} {T l : List Ob} {o o2 : Ob}
theorem uG_0 : (uG rows T)[0]? = some (.buf 9 1 rows) := rfl
theorem uG_s : (uG rows T).set 0 (.buf 9 1 r2) = uG r2 T := rfl
theorem uG_len : (uG rows T).length = T.length + 1 := rfl
theorem uG_app : uG rows T ++ l = uG rows (T ++ l) := rfl
theorem uG_l : (uG rows (T ++ [o]))[T.length + 1]? = some o := by simp [uG]
theorem uG_sl : (uG rows (T ++ [o])).set (T.length + 1) o2 = uG rows (T ++ [o2]) := by simp [uG]
end
theorem getS (s : ByteArray) : getD Zt 9 (strX s) 0 = some (.v (.string s)) := by rw [getD_one aggT_9]; rfl
theorem srt_id {l l' : List ByteArray} (h : l.Pairwise ltS) (hp : l'.Perm l) (hs : l'.Pairwise fun a b => ¬ ltS b a) : l' = l := by
 refine Uc ?_ h fun c => hp.mem_iff
 have hn : l'.Nodup := hp.nodup_iff.2 (h.imp fun {a b} q (e : a = b) => Xq a (by rw [← e] at q; exact q))
 refine (hs.and hn).imp fun {a b} q => ?_
 rcases Yn3 a b with k | k | k
 · exact k
 · exact absurd k q.2
 · exact absurd k q.1
variable (G : Nat → D) (hG : ∀ g, low 0 (G g))
include hG
attribute [local go_sem] Zi Zj Zk Zd Ze Z7 Z8 Zf
attribute [local go_sem ↓] reduceIte
omit hG in
theorem compactU (l : List ByteArray) (h : l.Pairwise ltS) (hsz : l.length ≤ 1000000) (T : List Ob) : Does Zt G 180 (uG (l.map strX) T) [.buf 0 l.length] (fun h' r => h' = uG (l.map strX) T ∧ r = .buf 0 l.length) := by
 refine Vo Tryz.func180 rfl (Z5 rfl) ?_
 simp only [Tryz.ntmps180]
 by_cases h2 : l.length < 2
 · have h2' : (l.length : Int) < 2 := by omega
   have F := h2'
   repeat' first
    | refine g0 ?_
    | fail
   all_goals exact ⟨.inr rfl, [.buf 0 l.length], rfl, rfl, rfl⟩
 have h2' : ¬ (l.length : Int) < 2 := by omega
 have F := h2'
 repeat' first
  | refine g0 ?_
  | fail
 refine Yh (fun m e h' => ∃ k : Nat, 1 ≤ k ∧ k ≤ l.length ∧ m = l.length - k ∧ h' = uG (l.map strX) T ∧ e 0 = .buf 0 l.length ∧ e 3 = .v (.int .i64 k)) (l.length - 1) ⟨1, Nat.le_refl _, by omega, rfl, rfl, rfl, rfl⟩ ?_
 rintro m e h' ⟨k, hk1, hk, rfl, rfl, e0, e3⟩
 by_cases hlt : k < l.length
 rotate_left
 · skip
   have F : _ ∧ _ := ⟨e0, e3⟩
   repeat' first
    | (with_reducible refine Yc ?_; refine Y8 mixd (by kernel_rfl) ?_)
    | refine gg ?_
    | refine Two.mk (fun hq => ?_) fun hq => ?_
    | (exfalso; omega)
   all_goals first | (exfalso; omega) | exact ⟨.inr rfl, [.buf 0 l.length], rfl, rfl, rfl⟩
 have hy : l[k]? = some l[k] := Z6 hlt
 have hp : l[k - 1]? = some l[k - 1] := Z6 (by omega)
 have hz : ¬ l[k] = l[k - 1] := fun e => Xq l[k] (by
  have := List.pairwise_iff_getElem.1 h (k - 1) k (by omega) hlt (by omega)
  rwa [← e] at this)
 generalize l[k] = y at hy hz
 generalize l[k - 1] = p at hp hz
 have hll : (l.map strX).length = l.length := Z2 _
 have wk : IntKind.i64.wrap ((k : Int) + 1) = (k : Int) + 1 := IntWalk.i64_in _ (by omega)
 have wm : IntKind.i64.wrap ((k : Int) - 1) = ((k - 1 : Nat) : Int) := by rw [show (k : Int) - 1 = ((k - 1 : Nat) : Int) by omega]; exact IntWalk.i64_in _ (by omega)
 have hyr : (l.map strX)[((k : Nat) : Int).toNat]? = some (strX y) := by rw [Zc, Zn, hy]; rfl
 have hpr : (l.map strX)[((k - 1 : Nat) : Int).toNat]? = some (strX p) := by rw [Zc, Zn, hp]; rfl
 have hd : decide (y = p) = false := decide_eq_false hz
 have F : _ ∧ _ ∧ _ ∧ _ ∧ _ := ⟨e0, e3, wk, wm, hd⟩
 repeat' first
  | (with_reducible refine Yc ?_; refine Xc mixd (by kernel_rfl) ?_)
  | ((with_reducible refine Up ?_); first | (refine aS_idxB rfl rfl rfl rfl uG_0 hll (by rw [elT_22]; exact szT_9) (by omega) (by omega) ?_) | (refine Zx2 rfl rfl rfl uG_0 hll hyr (getS _) ?_) | (refine Zx2 rfl rfl rfl uG_0 hll hpr (getS _) ?_) | (refine aS1 rfl rfl fun K HK => ?_; simp only [go_sem, F]; (first | refine Ym (fun hq => ?_) (fun hq => ?_) | skip) <;> (refine HK _ _ rfl ?_; clear HK K)) | refine V2 (by simp only [Zo, Zq, Za, Z9, Wd, chk1]; repeat' (first | exact trivial | refine Zx ?_ ?_ | exact .inr Yw | exact .inr X0 | exact .inr X4)) ?_)
  | refine gg ?_
  | refine Two.mk (fun hq => ?_) fun hq => ?_
  | (exfalso; omega)
 all_goals first | (exfalso; omega) | exact ⟨rfl, l.length - (k + 1), by omega, k + 1, by omega, by omega, rfl, rfl, e0, rfl⟩
theorem ofU (l : List ByteArray) (h : l.Pairwise ltS) (hsz : l.length ≤ 10000) (h0 : List Ob) : Does Zt G 228 h0 [.sl 1 (l.map strX)] (fun h' r => h' = h0 ∧ r = .sl 1 (l.map strX)) := by
 refine Does.gave0 (E := 9) hG (V1 l) (by rw [lowL, lowL]; exact ⟨V1 l, trivial⟩) (n := l.length) (Z2 _) ?_ h0
 refine Y6 Tryz.func228 rfl (Z5 rfl) hG fun hl0 _ => ?_
 simp only [Tryz.ntmps228]
 repeat' first
  | (with_reducible refine Y7 ?_; first | (refine Za0 rfl rfl rfl (by kernel_rfl) (cloneS0 G hG l (by omega)) ?_; rintro _ _ ⟨rfl, rfl⟩) | (refine Za0 rfl rfl rfl (by kernel_rfl) (sortS_d G l (by omega) (h := [.buf 9 1 (l.map strX)]) (i := 0) rfl) ?_; rintro _ _ ⟨l', hp, hs, rfl, rfl⟩; obtain rfl := srt_id h hp hs) | (refine Za0 rfl rfl rfl (by kernel_rfl) (compactU G l' h (by omega) []) ?_; rintro _ _ ⟨rfl, rfl⟩))
  | refine g0 ?_
  | fail
 all_goals exact ⟨.inr rfl, endBk (n := l'.length) (rows := l'.map strX) rfl (T := []) rfl (by simp) (by simp) (lowR_strs 1 l') ⟨rfl, rfl⟩⟩
end
section
def mrgS (lf bt rt : Bool) : List ByteArray → List ByteArray → List ByteArray
 | [], [] => []
 | x :: s, [] => (if lf then [x] else []) ++ mrgS lf bt rt s []
 | [], y :: t => (if rt then [y] else []) ++ mrgS lf bt rt [] t
 | x :: s, y :: t => if ltS x y then (if lf then [x] else []) ++ mrgS lf bt rt s (y :: t) else if ltS y x then (if rt then [y] else []) ++ mrgS lf bt rt (x :: s) t else (if bt then [x] else []) ++ mrgS lf bt rt s t
 termination_by x y => x.length + y.length
section
variable {lf bt rt : Bool}
theorem Zz7 {b : Bool} {x c : ByteArray} : c ∈ (if b then [x] else []) ↔ c = x ∧ b = true := by cases b <;> simp
theorem Zm2 : ∀ (x y : List ByteArray), x.Pairwise ltS → y.Pairwise ltS → ∀ c, c ∈ mrgS lf bt rt x y ↔ (c ∈ x ∧ c ∉ y ∧ lf = true) ∨ (c ∈ x ∧ c ∈ y ∧ bt = true) ∨ (c ∉ x ∧ c ∈ y ∧ rt = true)
 | [], [], _, _, c => by simp [mrgS]
 | x :: s, [], hx, hy, c => by
  have ih := Zm2 s [] (Zb.1 hx).2 hy c
  rw [mrgS, Zs, Zz7, ih]
  simp only [List.not_mem_nil, Zm, not_false_eq_true, true_and, false_and, and_false, or_false]
  constructor
  · rintro (⟨h, k⟩ | ⟨h, k⟩)
    · exact ⟨.inl h, k⟩
    · exact ⟨.inr h, k⟩
  · rintro ⟨h | h, k⟩
    · exact .inl ⟨h, k⟩
    · exact .inr ⟨h, k⟩
 | [], y :: t, hx, hy, c => by
  have ih := Zm2 [] t hx (Zb.1 hy).2 c
  rw [mrgS, Zs, Zz7, ih]
  simp only [List.not_mem_nil, Zm, not_false_eq_true, true_and, false_and, false_or]
  constructor
  · rintro (⟨h, k⟩ | ⟨h, k⟩)
    · exact ⟨.inl h, k⟩
    · exact ⟨.inr h, k⟩
  · rintro ⟨h | h, k⟩
    · exact .inl ⟨h, k⟩
    · exact .inr ⟨h, k⟩
 | x :: s, y :: t, hx, hy, c => by
  obtain ⟨x1, x2⟩ := Zb.1 hx
  obtain ⟨y1, y2⟩ := Zb.1 hy
  rw [mrgS]
  by_cases h1 : ltS x y
  · have ih := Zm2 s (y :: t) x2 hy c
    rw [if_pos h1, Zs, Zz7, ih, Zm]
    by_cases hc : c = x
    · subst hc
      have a1 : c ∉ s := fun q => Xq _ (x1 c q)
      have a2 : ¬ c = y := fun q => by rw [q] at h1; exact Xq _ h1
      have a3 : c ∉ t := fun q => Xq _ (Jh h1 (y1 c q))
      simp [a1, a2, a3]
    · simp [hc]
  · rw [if_neg h1]
    by_cases h2 : ltS y x
    · have ih := Zm2 (x :: s) t hx y2 c
      rw [if_pos h2, Zs, Zz7, ih, Zm (a := c) (b := y)]
      by_cases hc : c = y
      · subst hc
        have a1 : c ∉ t := fun q => Xq _ (y1 c q)
        have a2 : ¬ c = x := fun q => by rw [q] at h2; exact Xq _ h2
        have a3 : c ∉ s := fun q => Xq _ (Jh h2 (x1 c q))
        simp [a1, a2, a3]
      · simp [hc]
    · have e : x = y := ((Yn3 x y).resolve_left h1).resolve_right h2
      subst e
      have ih := Zm2 s t x2 y2 c
      rw [if_neg h2, Zs, Zz7, ih, Zm, Zm]
      by_cases hc : c = x
      · subst hc
        have a1 : c ∉ s := fun q => Xq _ (x1 c q)
        have a2 : c ∉ t := fun q => Xq _ (y1 c q)
        simp [a1, a2]
      · simp [hc]
 termination_by x y => x.length + y.length
theorem Ya3 (x y : List ByteArray) (hx : x.Pairwise ltS) (hy : y.Pairwise ltS) {c : ByteArray} (h : c ∈ mrgS lf bt rt x y) : c ∈ x ∨ c ∈ y := by
 rcases (Zm2 x y hx hy c).1 h with h | h | h
 · exact .inl h.1
 · exact .inl h.1
 · exact .inr h.2.1
theorem Ya4 {b : Bool} {x : ByteArray} {l : List ByteArray} (hl : l.Pairwise ltS) (h : ∀ c ∈ l, ltS x c) : ((if b then [x] else []) ++ l).Pairwise ltS := by
 cases b
 · exact hl
 · exact Zb.2 ⟨h, hl⟩
theorem Jc : ∀ (x y : List ByteArray), x.Pairwise ltS → y.Pairwise ltS → (mrgS lf bt rt x y).Pairwise ltS
 | [], [], _, _ => by simp [mrgS]
 | x :: s, [], hx, hy => by
  obtain ⟨x1, x2⟩ := Zb.1 hx
  rw [mrgS]
  exact Ya4 (Jc s [] x2 hy) fun c h => (Ya3 s [] x2 hy h).elim (x1 c) fun h => by cases h
 | [], y :: t, hx, hy => by
  obtain ⟨y1, y2⟩ := Zb.1 hy
  rw [mrgS]
  exact Ya4 (Jc [] t hx y2) fun c h => (Ya3 [] t hx y2 h).elim (fun h => by cases h) (y1 c)
 | x :: s, y :: t, hx, hy => by
  obtain ⟨x1, x2⟩ := Zb.1 hx
  obtain ⟨y1, y2⟩ := Zb.1 hy
  rw [mrgS]
  by_cases h1 : ltS x y
  · rw [if_pos h1]
    exact Ya4 (Jc s (y :: t) x2 hy) fun c h => (Ya3 s (y :: t) x2 hy h).elim (x1 c) fun h => by
     rcases Zm.1 h with rfl | h
     · exact h1
     · exact Jh h1 (y1 c h)
  · rw [if_neg h1]
    by_cases h2 : ltS y x
    · rw [if_pos h2]
      exact Ya4 (Jc (x :: s) t hx y2) fun c h => (Ya3 (x :: s) t hx y2 h).elim (fun h => by
       rcases Zm.1 h with rfl | h
       · exact h2
       · exact Jh h2 (x1 c h)) (y1 c)
    · rw [if_neg h2]
      have e : x = y := ((Yn3 x y).resolve_left h1).resolve_right h2
      subst e
      exact Ya4 (Jc s t x2 y2) fun c h => (Ya3 s t x2 y2 h).elim (x1 c) (y1 c)
 termination_by x y => x.length + y.length
end
theorem mrg_union {x y : List ByteArray} (hx : x.Pairwise ltS) (hy : y.Pairwise ltS) : mrgS true true true x y = Xo x y :=
 Uc (Jc x y hx hy) (Ze4 x y) fun c => by
  rw [Zm2 x y hx hy, W1]
  by_cases h1 : c ∈ x <;> by_cases h2 : c ∈ y <;> simp [h1, h2]
end
section
attribute [local irreducible] on aOp
attribute [local go_sem] decide_true decide_false Zr Zp
attribute [local simp] byD_len
theorem nil_or {α : Type} (l : List α) : l = [] ∨ ∃ x t, l = x :: t := by cases l <;> simp
theorem cut1 (k : Nat) (l : List ByteArray) (h : l.length = k) : ((l.map strX).take k).drop 1 = (l.drop 1).map strX := by
 rw [List.take_of_length_le (by rw [Z2]; omega), List.map_drop]
variable (G : Nat → D) (hG : ∀ g, low 0 (G g))
include hG
attribute [local go_sem] Zi Zj Zk Zc Zg Z9 Z0 Z1 Z2 Z4 List.map_nil Za Zd Ze Z7 Z8 Zf Wi uG_0 uG_app uG_l uG_len uG_s uG_sl
attribute [local go_sem ↓] reduceIte
theorem merge_u (lf bt rt : Bool) (a b : List ByteArray) (ha : a.Pairwise ltS) (hb : b.Pairwise ltS) (hal : a.length ≤ 10000) (hbl : b.length ≤ 10000) (h : List Ob) : Does Zt G 187 h [.sl 1 (a.map strX), .sl 1 (b.map strX), .v (.bool lf), .v (.bool bt), .v (.bool rt)] (fun h' r => h' = h ∧ r = .sl 1 ((mrgS lf bt rt a b).map strX)) := by
 refine Y9 G hG (by simp only [lowL, low]; exact ⟨V1 a, V1 b, trivial, trivial, trivial, trivial⟩) (V1 _) ?_ h
 clear h
 have h1 := ofU G hG a ha hal
 have h2 := ofU G hG b hb hbl
 generalize hM : mrgS lf bt rt a b = M
 refine Y6 Tryz.func187 rfl (Z5 rfl) hG fun hl0 _ => ?_
 simp only [Tryz.ntmps187]
 repeat' first
  | (with_reducible refine Yc ?_; (refine Zh8 9 1 13 (by with_unfolding_all rfl) ?_))
  | refine g0 ?_
  | (with_reducible refine Y7 ?_; first | refine gc rfl rfl rfl ent_228 (h1 _) ?_ | refine gc rfl rfl rfl ent_228 (h2 _) ?_)
 all_goals first | (exfalso; omega) | skip
 refine Yh (fun m e h' => ∃ (x y o : List ByteArray) (T : List Ob), m = x.length + y.length ∧ o.length + x.length + y.length ≤ 20000 ∧ o ++ mrgS lf bt rt x y = M ∧ h' = uG (o.map strX) T ∧ e 2 = .v (.bool lf) ∧ e 3 = .v (.bool bt) ∧ e 4 = .v (.bool rt) ∧ e 11 = .sl 1 (x.map strX) ∧ e 12 = .sl 1 (y.map strX) ∧ e 13 = .buf 0 o.length) (a.length + b.length) ⟨a, b, [], [], rfl, by simp; omega, by simpa using hM, rfl, rfl, rfl, rfl, rfl, rfl, rfl⟩ ?_
 rintro m e h' ⟨x, y, o, T, rfl, hsz, hm, rfl, e2, e3, e4, e11, e12, e13⟩
 have hlr : (o.map strX).length = o.length := Z2 _
 rcases nil_or x with hx | ⟨x0, s, hx⟩ <;> rcases nil_or y with hy | ⟨y0, t, hy⟩
 · subst hx hy
   rw [mrgS, List.append_nil] at hm
   subst hm
   have hlo := V1 o
   have F : _ ∧ _ ∧ _ ∧ _ ∧ _ ∧ _ := ⟨e2, e3, e4, e11, e12, e13⟩
   repeat' first
    | (with_reducible refine Yc ?_; refine Y8 mixd (by kernel_rfl) ?_)
    | refine gg ?_
    | refine Two.mk (fun hq => ?_) fun hq => ?_
    | (exfalso; omega)
   all_goals first | (exfalso; omega) | exact ⟨.inr rfl, endD (ds := [.buf 0 o.length]) (r := .sl 1 (o.map strX)) hl0 rfl (by simp) (by simp) (by simp [outD, cvD, cv1, uG]) hlo ⟨rfl, rfl⟩⟩
 · skip
   have hxl : x.length = 0 := by rw [hx]; rfl
   have hyl : y.length = t.length + 1 := by rw [hy]; rfl
   have hy0 : y[0]? = some y0 := by rw [hy]; rfl
   have hry : (y.map strX)[(0 : Int).toNat]? = some (strX y0) := by rw [hy]; rfl
   have hpy : (0 : Int) < ((y.map strX).length : Int) := by rw [Z2]; omega
   have hroy := Je [y0]
   have hdy : y.drop 1 = t := by rw [hy]; rfl
   have hpx := hpy
   have hrx := hry
   rw [hx, hy, mrgS, ← hdy] at hm
   cases rt
   · skip
     have F : _ ∧ _ ∧ _ ∧ _ ∧ _ ∧ _ ∧ _ ∧ _ := ⟨e2, e3, e4, e11, e12, e13, hyl, hxl⟩
     repeat' first
      | (with_reducible refine Yc ?_; refine Y8 mixd (by kernel_rfl) ?_)
      | refine gg ?_
      | refine Two.mk (fun hq => ?_) fun hq => ?_
      | (exfalso; omega)
     all_goals first | (exfalso; omega) | exact ⟨rfl, (x).length + (y.drop 1).length, by simp only [Z3]; omega, x, y.drop 1, o, _, rfl, by simp only [Z3, Z0, Z1, Z4]; omega, by simpa [hx] using hm, rfl, e2, e3, e4, e11, (by rw [← cut1 _ y hyl]; rfl), e13⟩
   · skip
     have F : _ ∧ _ ∧ _ ∧ _ ∧ _ ∧ _ ∧ _ ∧ _ := ⟨e2, e3, e4, e11, e12, e13, hyl, hxl⟩
     repeat' first
      | (with_reducible refine Yc ?_; refine Y8 mixd (by kernel_rfl) ?_)
      | (with_reducible refine Y7 ?_; (refine Xy rfl rfl rfl rfl (by (simp only [go_sem, F]; rfl)) hlr (by simp only [go_sem, F]; rfl) (by (simp only [go_sem, F]; rfl)) (by simp) hroy (by first | omega | (simp; omega)) ?_))
      | ((with_reducible refine Y7 ?_); first | (refine ao1 rfl rfl fun K HK => ?_; (first | refine Yi rfl ?_ | skip); simp only [go_sem, F]; (first | refine Ym (fun hq => ?_) (fun hq => ?_) | (refine Vt (by simp only [go_sem, F]) rfl rfl (by first | omega | simp) (by first | omega | simp) (by simp only [go_sem, F]; omega) ?_) | (refine ⟨by omega, ?_⟩; refine Yo (by assumption) ?_) | skip) <;> (refine HK _ _ ?_; clear HK K)))
      | refine gg ?_
      | refine Two.mk (fun hq => ?_) fun hq => ?_
      | (exfalso; omega)
     all_goals first | (exfalso; omega) | exact ⟨rfl, (x).length + (y.drop 1).length, by simp only [Z3]; omega, x, y.drop 1, (o ++ [y0]), _, rfl, by simp only [Z3, Z0, Z1, Z4]; omega, by simpa [hx] using hm, (by rw [Zh]; rfl), e2, e3, e4, e11, (by rw [← cut1 _ y hyl]; rfl), (by rw [Z0]; rfl)⟩
 · skip
   have hxl : x.length = s.length + 1 := by rw [hx]; rfl
   have hx0 : x[0]? = some x0 := by rw [hx]; rfl
   have hrx : (x.map strX)[(0 : Int).toNat]? = some (strX x0) := by rw [hx]; rfl
   have hpx : (0 : Int) < ((x.map strX).length : Int) := by rw [Z2]; omega
   have hrox := Je [x0]
   have hdx : x.drop 1 = s := by rw [hx]; rfl
   have hyl : y.length = 0 := by rw [hy]; rfl
   have hpy := hpx
   have hry := hrx
   rw [hx, hy, mrgS, ← hdx] at hm
   cases lf
   · skip
     have F : _ ∧ _ ∧ _ ∧ _ ∧ _ ∧ _ ∧ _ ∧ _ := ⟨e2, e3, e4, e11, e12, e13, hyl, hxl⟩
     repeat' first
      | (with_reducible refine Yc ?_; refine Y8 mixd (by kernel_rfl) ?_)
      | refine gg ?_
      | refine Two.mk (fun hq => ?_) fun hq => ?_
      | (exfalso; omega)
     all_goals first | (exfalso; omega) | exact ⟨rfl, (x.drop 1).length + (y).length, by simp only [Z3]; omega, x.drop 1, y, o, _, rfl, by simp only [Z3, Z0, Z1, Z4]; omega, by simpa [hy] using hm, rfl, e2, e3, e4, (by rw [← cut1 _ x hxl]; rfl), e12, e13⟩
   · skip
     have F : _ ∧ _ ∧ _ ∧ _ ∧ _ ∧ _ ∧ _ ∧ _ := ⟨e2, e3, e4, e11, e12, e13, hyl, hxl⟩
     repeat' first
      | (with_reducible refine Yc ?_; refine Y8 mixd (by kernel_rfl) ?_)
      | (with_reducible refine Y7 ?_; (refine Xy rfl rfl rfl rfl (by (simp only [go_sem, F]; rfl)) hlr (by simp only [go_sem, F]; rfl) (by (simp only [go_sem, F]; rfl)) (by simp) hrox (by first | omega | (simp; omega)) ?_))
      | ((with_reducible refine Y7 ?_); first | (refine ao1 rfl rfl fun K HK => ?_; (first | refine Yi rfl ?_ | skip); simp only [go_sem, F]; (first | refine Ym (fun hq => ?_) (fun hq => ?_) | (refine Vt (by simp only [go_sem, F]) rfl rfl (by first | omega | simp) (by first | omega | simp) (by simp only [go_sem, F]; omega) ?_) | (refine ⟨by omega, ?_⟩; refine Yo (by assumption) ?_) | skip) <;> (refine HK _ _ ?_; clear HK K)))
      | refine gg ?_
      | refine Two.mk (fun hq => ?_) fun hq => ?_
      | (exfalso; omega)
     all_goals first | (exfalso; omega) | exact ⟨rfl, (x.drop 1).length + (y).length, by simp only [Z3]; omega, x.drop 1, y, (o ++ [x0]), _, rfl, by simp only [Z3, Z0, Z1, Z4]; omega, by simpa [hy] using hm, (by rw [Zh]; rfl), e2, e3, e4, (by rw [← cut1 _ x hxl]; rfl), e12, (by rw [Z0]; rfl)⟩
 · skip
   have hxl : x.length = s.length + 1 := by rw [hx]; rfl
   have hx0 : x[0]? = some x0 := by rw [hx]; rfl
   have hrx : (x.map strX)[(0 : Int).toNat]? = some (strX x0) := by rw [hx]; rfl
   have hpx : (0 : Int) < ((x.map strX).length : Int) := by rw [Z2]; omega
   have hrox := Je [x0]
   have hdx : x.drop 1 = s := by rw [hx]; rfl
   have hyl : y.length = t.length + 1 := by rw [hy]; rfl
   have hy0 : y[0]? = some y0 := by rw [hy]; rfl
   have hry : (y.map strX)[(0 : Int).toNat]? = some (strX y0) := by rw [hy]; rfl
   have hpy : (0 : Int) < ((y.map strX).length : Int) := by rw [Z2]; omega
   have hroy := Je [y0]
   have hdy : y.drop 1 = t := by rw [hy]; rfl
   rw [hx, hy, mrgS] at hm
   by_cases h1 : ltS x0 y0
   · have b1 : Op.bytesLess x0.toList y0.toList = true := by rw [bl_ltS, decide_eq_true h1]
     rw [if_pos h1, ← hdx, ← hy] at hm
     cases lf
     · skip
       have F : _ ∧ _ ∧ _ ∧ _ ∧ _ ∧ _ ∧ _ ∧ _ ∧ _ := ⟨e2, e3, e4, e11, e12, e13, hyl, hxl, b1⟩
       repeat' first
        | (with_reducible refine Yc ?_; refine Y8 mixd (by kernel_rfl) ?_)
        | ((with_reducible refine X6 ?_); first | (refine aq1 rfl rfl fun K HK => ?_; (first | refine Yi rfl ?_ | skip); simp only [go_sem, F]; (first | refine Ym (fun hq => ?_) (fun hq => ?_) | (refine Vt (by simp only [go_sem, F]) rfl rfl (by first | omega | simp) (by first | omega | simp) (by simp only [go_sem, F]; omega) ?_) | (refine ⟨by omega, ?_⟩; refine Yo (by assumption) ?_) | skip) <;> (refine HK _ _ rfl ?_; clear HK K)))
        | refine gg ?_
        | refine Two.mk (fun hq => ?_) fun hq => ?_
        | (exfalso; omega)
       all_goals first | (exfalso; omega) | exact ⟨rfl, (x.drop 1).length + (y).length, by simp only [Z3]; omega, x.drop 1, y, o, _, rfl, by simp only [Z3, Z0, Z1, Z4]; omega, by simpa [] using hm, rfl, e2, e3, e4, (by rw [← cut1 _ x hxl]; rfl), e12, e13⟩
     · skip
       have F : _ ∧ _ ∧ _ ∧ _ ∧ _ ∧ _ ∧ _ ∧ _ ∧ _ := ⟨e2, e3, e4, e11, e12, e13, hyl, hxl, b1⟩
       repeat' first
        | (with_reducible refine Yc ?_; refine Y8 mixd (by kernel_rfl) ?_)
        | (with_reducible refine Y7 ?_; (refine Xy rfl rfl rfl rfl (by (simp only [go_sem, F]; rfl)) hlr (by simp only [go_sem, F]; rfl) (by (simp only [go_sem, F]; rfl)) (by simp) hrox (by first | omega | (simp; omega)) ?_))
        | ((with_reducible refine Y7 ?_); first | (refine ao1 rfl rfl fun K HK => ?_; (first | refine Yi rfl ?_ | skip); simp only [go_sem, F]; (first | refine Ym (fun hq => ?_) (fun hq => ?_) | (refine Vt (by simp only [go_sem, F]) rfl rfl (by first | omega | simp) (by first | omega | simp) (by simp only [go_sem, F]; omega) ?_) | (refine ⟨by omega, ?_⟩; refine Yo (by assumption) ?_) | skip) <;> (refine HK _ _ ?_; clear HK K)))
        | ((with_reducible refine X6 ?_); first | (refine aq1 rfl rfl fun K HK => ?_; (first | refine Yi rfl ?_ | skip); simp only [go_sem, F]; (first | refine Ym (fun hq => ?_) (fun hq => ?_) | (refine Vt (by simp only [go_sem, F]) rfl rfl (by first | omega | simp) (by first | omega | simp) (by simp only [go_sem, F]; omega) ?_) | (refine ⟨by omega, ?_⟩; refine Yo (by assumption) ?_) | skip) <;> (refine HK _ _ rfl ?_; clear HK K)))
        | refine gg ?_
        | refine Two.mk (fun hq => ?_) fun hq => ?_
        | (exfalso; omega)
       all_goals first | (exfalso; omega) | exact ⟨rfl, (x.drop 1).length + (y).length, by simp only [Z3]; omega, x.drop 1, y, (o ++ [x0]), _, rfl, by simp only [Z3, Z0, Z1, Z4]; omega, by simpa [] using hm, (by rw [Zh]; rfl), e2, e3, e4, (by rw [← cut1 _ x hxl]; rfl), e12, (by rw [Z0]; rfl)⟩
   have b1 : Op.bytesLess x0.toList y0.toList = false := by rw [bl_ltS, decide_eq_false h1]
   rw [if_neg h1] at hm
   by_cases h2 : ltS y0 x0
   · have b2 : Op.bytesLess y0.toList x0.toList = true := by rw [bl_ltS, decide_eq_true h2]
     rw [if_pos h2, ← hdy, ← hx] at hm
     cases rt
     · skip
       have F : _ ∧ _ ∧ _ ∧ _ ∧ _ ∧ _ ∧ _ ∧ _ ∧ _ ∧ _ := ⟨e2, e3, e4, e11, e12, e13, hyl, hxl, b1, b2⟩
       repeat' first
        | (with_reducible refine Yc ?_; refine Y8 mixd (by kernel_rfl) ?_)
        | ((with_reducible refine X6 ?_); first | (refine aq1 rfl rfl fun K HK => ?_; (first | refine Yi rfl ?_ | skip); simp only [go_sem, F]; (first | refine Ym (fun hq => ?_) (fun hq => ?_) | (refine Vt (by simp only [go_sem, F]) rfl rfl (by first | omega | simp) (by first | omega | simp) (by simp only [go_sem, F]; omega) ?_) | (refine ⟨by omega, ?_⟩; refine Yo (by assumption) ?_) | skip) <;> (refine HK _ _ rfl ?_; clear HK K)))
        | refine gg ?_
        | refine Two.mk (fun hq => ?_) fun hq => ?_
        | (exfalso; omega)
       all_goals first | (exfalso; omega) | exact ⟨rfl, (x).length + (y.drop 1).length, by simp only [Z3]; omega, x, y.drop 1, o, _, rfl, by simp only [Z3, Z0, Z1, Z4]; omega, by simpa [] using hm, rfl, e2, e3, e4, e11, (by rw [← cut1 _ y hyl]; rfl), e13⟩
     · skip
       have F : _ ∧ _ ∧ _ ∧ _ ∧ _ ∧ _ ∧ _ ∧ _ ∧ _ ∧ _ := ⟨e2, e3, e4, e11, e12, e13, hyl, hxl, b1, b2⟩
       repeat' first
        | (with_reducible refine Yc ?_; refine Y8 mixd (by kernel_rfl) ?_)
        | (with_reducible refine Y7 ?_; (refine Xy rfl rfl rfl rfl (by (simp only [go_sem, F]; rfl)) hlr (by simp only [go_sem, F]; rfl) (by (simp only [go_sem, F]; rfl)) (by simp) hroy (by first | omega | (simp; omega)) ?_))
        | ((with_reducible refine Y7 ?_); first | (refine ao1 rfl rfl fun K HK => ?_; (first | refine Yi rfl ?_ | skip); simp only [go_sem, F]; (first | refine Ym (fun hq => ?_) (fun hq => ?_) | (refine Vt (by simp only [go_sem, F]) rfl rfl (by first | omega | simp) (by first | omega | simp) (by simp only [go_sem, F]; omega) ?_) | (refine ⟨by omega, ?_⟩; refine Yo (by assumption) ?_) | skip) <;> (refine HK _ _ ?_; clear HK K)))
        | ((with_reducible refine X6 ?_); first | (refine aq1 rfl rfl fun K HK => ?_; (first | refine Yi rfl ?_ | skip); simp only [go_sem, F]; (first | refine Ym (fun hq => ?_) (fun hq => ?_) | (refine Vt (by simp only [go_sem, F]) rfl rfl (by first | omega | simp) (by first | omega | simp) (by simp only [go_sem, F]; omega) ?_) | (refine ⟨by omega, ?_⟩; refine Yo (by assumption) ?_) | skip) <;> (refine HK _ _ rfl ?_; clear HK K)))
        | refine gg ?_
        | refine Two.mk (fun hq => ?_) fun hq => ?_
        | (exfalso; omega)
       all_goals first | (exfalso; omega) | exact ⟨rfl, (x).length + (y.drop 1).length, by simp only [Z3]; omega, x, y.drop 1, (o ++ [y0]), _, rfl, by simp only [Z3, Z0, Z1, Z4]; omega, by simpa [] using hm, (by rw [Zh]; rfl), e2, e3, e4, e11, (by rw [← cut1 _ y hyl]; rfl), (by rw [Z0]; rfl)⟩
   have b2 : Op.bytesLess y0.toList x0.toList = false := by rw [bl_ltS, decide_eq_false h2]
   rw [if_neg h2, ← hdx, ← hdy] at hm
   cases bt
   · skip
     have F : _ ∧ _ ∧ _ ∧ _ ∧ _ ∧ _ ∧ _ ∧ _ ∧ _ ∧ _ := ⟨e2, e3, e4, e11, e12, e13, hyl, hxl, b1, b2⟩
     repeat' first
      | (with_reducible refine Yc ?_; refine Y8 mixd (by kernel_rfl) ?_)
      | ((with_reducible refine X6 ?_); first | (refine aq1 rfl rfl fun K HK => ?_; (first | refine Yi rfl ?_ | skip); simp only [go_sem, F]; (first | refine Ym (fun hq => ?_) (fun hq => ?_) | (refine Vt (by simp only [go_sem, F]) rfl rfl (by first | omega | simp) (by first | omega | simp) (by simp only [go_sem, F]; omega) ?_) | (refine ⟨by omega, ?_⟩; refine Yo (by assumption) ?_) | skip) <;> (refine HK _ _ rfl ?_; clear HK K)))
      | refine gg ?_
      | refine Two.mk (fun hq => ?_) fun hq => ?_
      | (exfalso; omega)
     all_goals first | (exfalso; omega) | exact ⟨rfl, (x.drop 1).length + (y.drop 1).length, by simp only [Z3]; omega, x.drop 1, y.drop 1, o, _, rfl, by simp only [Z3, Z0, Z1, Z4]; omega, by simpa [] using hm, rfl, e2, e3, e4, (by rw [← cut1 _ x hxl]; rfl), (by rw [← cut1 _ y hyl]; rfl), e13⟩
   · skip
     have F : _ ∧ _ ∧ _ ∧ _ ∧ _ ∧ _ ∧ _ ∧ _ ∧ _ ∧ _ := ⟨e2, e3, e4, e11, e12, e13, hyl, hxl, b1, b2⟩
     repeat' first
      | (with_reducible refine Yc ?_; refine Y8 mixd (by kernel_rfl) ?_)
      | (with_reducible refine Y7 ?_; (refine Xy rfl rfl rfl rfl (by (simp only [go_sem, F]; rfl)) hlr (by simp only [go_sem, F]; rfl) (by (simp only [go_sem, F]; rfl)) (by simp) hrox (by first | omega | (simp; omega)) ?_))
      | ((with_reducible refine Y7 ?_); first | (refine ao1 rfl rfl fun K HK => ?_; (first | refine Yi rfl ?_ | skip); simp only [go_sem, F]; (first | refine Ym (fun hq => ?_) (fun hq => ?_) | (refine Vt (by simp only [go_sem, F]) rfl rfl (by first | omega | simp) (by first | omega | simp) (by simp only [go_sem, F]; omega) ?_) | (refine ⟨by omega, ?_⟩; refine Yo (by assumption) ?_) | skip) <;> (refine HK _ _ ?_; clear HK K)))
      | ((with_reducible refine X6 ?_); first | (refine aq1 rfl rfl fun K HK => ?_; (first | refine Yi rfl ?_ | skip); simp only [go_sem, F]; (first | refine Ym (fun hq => ?_) (fun hq => ?_) | (refine Vt (by simp only [go_sem, F]) rfl rfl (by first | omega | simp) (by first | omega | simp) (by simp only [go_sem, F]; omega) ?_) | (refine ⟨by omega, ?_⟩; refine Yo (by assumption) ?_) | skip) <;> (refine HK _ _ rfl ?_; clear HK K)))
      | refine gg ?_
      | refine Two.mk (fun hq => ?_) fun hq => ?_
      | (exfalso; omega)
     all_goals first | (exfalso; omega) | exact ⟨rfl, (x.drop 1).length + (y.drop 1).length, by simp only [Z3]; omega, x.drop 1, y.drop 1, (o ++ [x0]), _, rfl, by simp only [Z3, Z0, Z1, Z4]; omega, by simpa [] using hm, (by rw [Zh]; rfl), e2, e3, e4, (by rw [← cut1 _ x hxl]; rfl), (by rw [← cut1 _ y hyl]; rfl), (by rw [Z0]; rfl)⟩
end
section
attribute [local irreducible] on aOp
attribute [local go_sem] decide_true decide_false Zr Zp
attribute [local simp] byD_len
variable (G : Nat → D) (hG : ∀ g, low 0 (G g))
include hG
attribute [local go_sem] Zi Zj Zk Zd Ze Z7 Z8 Zf
attribute [local go_sem ↓] reduceIte
theorem union_d (a b : List ByteArray) (ha : a.Pairwise ltS) (hb : b.Pairwise ltS) (hal : a.length ≤ 10000) (hbl : b.length ≤ 10000) (h : List Ob) : Does Zt G 131 h [.sl 1 (a.map strX), .sl 1 (b.map strX)] (fun h' r => h' = h ∧ r = .sl 1 ((Xo a b).map strX)) := by
 refine Y9 G hG (by simp only [lowL]; exact ⟨V1 a, V1 b, trivial⟩) (V1 _) ?_ h
 clear h
 have hm := merge_u G hG true true true a b ha hb hal hbl
 rw [mrg_union ha hb] at hm
 have hlo := V1 (Xo a b)
 generalize Xo a b = M at *
 refine Y6 Tryz.func131 rfl (Z5 rfl) hG fun hl0 _ => ?_
 simp only [Tryz.ntmps131]
 repeat' first
  | refine g0 ?_
  | (with_reducible refine Y7 ?_; refine gc rfl rfl rfl ent_187 (hm _) ?_)
 all_goals first | (exfalso; omega) | exact ⟨.inr rfl, endD (r := .sl 1 (M.map strX)) hl0 rfl (by simp) (by simp) rfl hlo ⟨rfl, rfl⟩⟩
end
section
attribute [local irreducible] on aOp
attribute [local go_sem] decide_true decide_false Zr Zp
attribute [local simp] byD_len
def JnOk (G : Nat → D) (l : Lat) (a b : Val) : Prop := ∀ h : List Ob, Does Zt G 75 h [.agg (latX l), .agg (vaX a), .agg (vaX b)] (fun h' r => h' = h ∧ r = .agg (vaX (Xa l a b)))
def Yr1 (G : Nat → D) : Prop := ∀ (l : Lat) (s : List ByteArray), l.kind = 10 → Sm l → WfL l → Yf l.names s = true → ∀ h : List Ob, Does Zt G 132 h [.sl 1 (l.names.map strX), .sl 2 (l.rules.map Zo3), .sl 1 (s.map strX)] (fun h' r => h' = h ∧ r = .tup [.sl 1 ((Ua l.names l.rules s).map strX), .v (.int .i64 0)])
theorem va_names (s : List ByteArray) : vaX (.mk 0 s [] []) = [.v (.int .i64 0), .sl 1 (s.map strX), .sl 4 [], .sl 2 []] := by rw [Y5]; rfl
theorem va_ents (s : List En) : vaX (.mk 0 [] [] s) = [.v (.int .i64 0), .sl 1 [], .sl 4 [], .sl 2 (s.map enX)] := by rw [Y5]; rfl
theorem va_parts (s : List Val) : vaX (.mk 0 [] s []) = [.v (.int .i64 0), .sl 1 [], .sl 4 (s.map vaX), .sl 2 []] := by rw [Y5]; rfl
theorem va_n (z : Int) : vaX (.mk z [] [] []) = [.v (.int .i64 z), .sl 1 [], .sl 4 [], .sl 2 []] := by rw [Y5]; rfl
theorem joinV_9' (l : Lat) (a b : Val) (h : l.kind = 9) : Xa l a b = .mk 0 [] [] (Uw a.entries b.entries) := by cases l; cases h; exact Yn6
theorem joinV_4' (l : Lat) (a b : Val) (h : l.kind = 4) : Xa l a b = .mk 0 (Xo a.names b.names) [] [] := by cases l; cases h; exact Yn9
theorem joinV_10' (l : Lat) (a b : Val) (h : l.kind = 10) : Xa l a b = .mk 0 (Ua l.names l.rules (Xo a.names b.names)) [] [] := by cases l; cases h; exact joinV_10
theorem joinV_e' (l : Lat) (a b : Val) (h1 : l.kind = 1 ∨ l.kind = 2 ∨ l.kind = 3 ∨ l.kind = 8 ∨ l.kind = 7 ∧ Zq4 a.parts b.parts = false) : Xa l a b = if leqV l a b then b else if leqV l b a then a else .mk 2 [] [] [] := by cases l; exact Zj2 h1
variable (G : Nat → D) (hG : ∀ g, low 0 (G g))
include hG
attribute [local go_sem] Bool.false_eq_true Zi Zj Zk Zd Ze Z7 Z8 Zf
attribute [local go_sem ↓] reduceIte
theorem jn_set (l : Lat) (a b : Val) (h4 : l.kind = 4) (ha : a.names.Pairwise ltS) (hb : b.names.Pairwise ltS) (la : a.names.length ≤ 10000) (lb : b.names.length ≤ 10000) : JnOk G l a b := fun h => by
 rw [joinV_4' l a b h4]
 refine Y9 G hG (by simp only [lowL, low]; exact ⟨Yp _ l, Yb _ a, Yb _ b, trivial⟩) (by rw [low]; exact Yb _ _) ?_ h
 clear h
 have hu := union_d G hG a.names b.names ha hb la lb
 have hlo := Yb 0 (.mk 0 (Xo a.names b.names) [] [])
 rw [va_names] at hlo ⊢
 generalize Xo a.names b.names = U at *
 refine Y6 Tryz.func75 rfl (Z5 rfl) hG fun hl0 _ => ?_
 simp only [Tryz.ntmps75]
 have F : _ ∧ _ ∧ _ ∧ _ := ⟨Y4 l, Y5 a, Y5 b, h4⟩
 repeat' first
  | (with_reducible refine Y7 ?_; (refine Ze1 26 (.agg [.v (.int .i64 0), .sl 1 (U.map strX), .v (.slice none 0 0), .v (.slice none 0 0)]) (.agg [.v (.int .i64 0), .sl 1 (U.map strX), .sl 4 [], .sl 2 []]) (by with_unfolding_all rfl) (Zj7 (W7 _) X7 X7) ?_))
  | refine g0 ?_
  | (with_reducible refine Y7 ?_; refine gc rfl rfl rfl ent_131 (hu _) ?_)
 all_goals first | (exfalso; omega) | exact ⟨.inr rfl, endD (r := .agg [.v (.int .i64 0), .sl 1 (U.map strX), .sl 4 [], .sl 2 []]) hl0 rfl (by simp) (by simp) rfl (by rw [low]; exact hlo) ⟨rfl, rfl⟩⟩
theorem jn_reg (l : Lat) (a b : Val) (h9 : l.kind = 9) (ha : regB a.entries = true) (hb : regB b.entries = true) (sa : VSm a) (sb : VSm b) (la : a.entries.length ≤ 10000) (lb : b.entries.length ≤ 10000) : JnOk G l a b := fun h => by
 rw [joinV_9' l a b h9]
 refine Y9 G hG (by simp only [lowL, low]; exact ⟨Yp _ l, Yb _ a, Yb _ b, trivial⟩) (by rw [low]; exact Yb _ _) ?_ h
 clear h
 have hu := merged_d G hG a.entries b.entries ha hb sa.ents sb.ents (fun e he => ((Wo.1 ha).1 e he).2.1) (fun e he => ((Wo.1 hb).1 e he).2.1) (by omega) (by omega)
 have hlo := Yb 0 (.mk 0 [] [] (Uw a.entries b.entries))
 rw [va_ents] at hlo ⊢
 generalize Uw a.entries b.entries = U at *
 refine Y6 Tryz.func75 rfl (Z5 rfl) hG fun hl0 _ => ?_
 simp only [Tryz.ntmps75]
 have F : _ ∧ _ ∧ _ ∧ _ := ⟨Y4 l, Y5 a, Y5 b, h9⟩
 repeat' first
  | (with_reducible refine Y7 ?_; (refine Ze1 51 (.agg [.v (.int .i64 0), .v (.slice none 0 0), .v (.slice none 0 0), .sl 2 (U.map enX)]) (.agg [.v (.int .i64 0), .sl 1 [], .sl 4 [], .sl 2 (U.map enX)]) (by with_unfolding_all rfl) (Zj7 X7 X7 (W7 _)) ?_))
  | refine g0 ?_
  | (with_reducible refine Y7 ?_; refine gc rfl rfl rfl ent_133 (hu _) ?_)
 all_goals first | (exfalso; omega) | exact ⟨.inr rfl, endD (r := .agg [.v (.int .i64 0), .sl 1 [], .sl 4 [], .sl 2 (U.map enX)]) hl0 rfl (by simp) (by simp) rfl (by rw [low]; exact hlo) ⟨rfl, rfl⟩⟩
theorem jn_clo (l : Lat) (a b : Val) (h10 : l.kind = 10) (hsm : Sm l) (hwf : WfL l) (hx : Yr1 G) (ha : Yf l.names a.names = true) (hb : Yf l.names b.names = true) (la : a.names.length ≤ 10000) (lb : b.names.length ≤ 10000) : JnOk G l a b := fun h => by
 rw [joinV_10' l a b h10]
 refine Y9 G hG (by simp only [lowL, low]; exact ⟨Yp _ l, Yb _ a, Yb _ b, trivial⟩) (by rw [low]; exact Yb _ _) ?_ h
 clear h
 have hu := union_d G hG a.names b.names (Yv.1 ha).1 (Yv.1 hb).1 la lb
 have hc := hx l (Xo a.names b.names) h10 hsm hwf (Zd3 ha hb)
 have hlo := Yb 0 (.mk 0 (Ua l.names l.rules (Xo a.names b.names)) [] [])
 rw [va_names] at hlo ⊢
 generalize Ua l.names l.rules (Xo a.names b.names) = U at *
 generalize Xo a.names b.names = M at *
 refine Y6 Tryz.func75 rfl (Z5 rfl) hG fun hl0 _ => ?_
 simp only [Tryz.ntmps75]
 have F : _ ∧ _ ∧ _ ∧ _ := ⟨Y4 l, Y5 a, Y5 b, h10⟩
 repeat' first
  | (with_reducible refine Yc ?_; refine Y8 mixd (by kernel_rfl) ?_)
  | (with_reducible refine Y7 ?_; (refine Ze1 43 (.agg [.v (.int .i64 0), .sl 1 (U.map strX), .v (.slice none 0 0), .v (.slice none 0 0)]) (.agg [.v (.int .i64 0), .sl 1 (U.map strX), .sl 4 [], .sl 2 []]) (by with_unfolding_all rfl) (Zj7 (W7 _) X7 X7) ?_))
  | refine g0 ?_
  | (with_reducible refine X6 ?_; first | refine aq2 rfl rfl rfl ent_131 (hu _) ?_ | refine aq2 rfl rfl rfl ent_132 (hc _) ?_)
 all_goals first | (exfalso; omega) | exact ⟨.inr rfl, endD (r := .agg [.v (.int .i64 0), .sl 1 (U.map strX), .sl 4 [], .sl 2 []]) hl0 rfl (by simp) (by simp) rfl (by rw [low]; exact hlo) ⟨rfl, rfl⟩⟩
theorem jn_num (l : Lat) (a b : Val) (h1 : l.kind = 1 ∨ l.kind = 2 ∨ l.kind = 3 ∨ l.kind = 8) (hwf : WfL l) (sa : VSm a) (sb : VSm b) (ea : Ya l a = true) (eb : Ya l b = true) : JnOk G l a b := fun h => by
 rw [joinV_e' l a b (by omega)]
 refine Y9 G hG (by simp only [lowL, low]; exact ⟨Yp _ l, Yb _ a, Yb _ b, trivial⟩) (by rw [low]; exact Yb _ _) ?_ h
 clear h
 have q1 := leq_d G hG _ l a b (Nat.le_refl _) hwf sa sb ea eb
 have q2 := leq_d G hG _ l b a (Nat.le_refl _) hwf sb sa eb ea
 have hla := Yb 0 a
 have hlb := Yb 0 b
 simp only [Y5 a, Y5 b] at hla hlb
 simp only [Y4 l, Y5 a, Y5 b] at q1 q2
 refine Y6 Tryz.func75 rfl (Z5 rfl) hG fun hl0 _ => ?_
 simp only [Tryz.ntmps75]
 rcases h1 with e | e | e | e
 all_goals
  simp only [e] at q1 q2
  cases c1 : leqV l a b
  · rw [c1] at q1
    rw [if_neg (by decide)]
    cases c2 : leqV l b a
    · rw [c2] at q2
      rw [if_neg (by decide), va_n]
      have F : _ ∧ _ ∧ _ ∧ _ := ⟨Y4 l, Y5 a, Y5 b, e⟩
      repeat' first
       | (with_reducible refine Y7 ?_; (refine Ze1 194 (.agg [.v (.int .i64 2), .v (.slice none 0 0), .v (.slice none 0 0), .v (.slice none 0 0)]) (.agg [.v (.int .i64 2), .sl 1 [], .sl 4 [], .sl 2 []]) (by with_unfolding_all rfl) (Zj7 X7 X7 X7) ?_))
       | refine g0 ?_
       | (with_reducible refine Y7 ?_; first | refine gc rfl rfl rfl Uz (q1 _) ?_ | refine gc rfl rfl rfl Uz (q2 _) ?_)
      all_goals first | (exfalso; omega) | exact ⟨.inr rfl, endD (r := .agg [.v (.int .i64 2), .sl 1 [], .sl 4 [], .sl 2 []]) hl0 rfl (by simp) (by simp) rfl (by simp [low, lowL, lowR]) ⟨rfl, rfl⟩⟩
    · rw [c2] at q2
      rw [if_pos rfl, Y5 a]
      have F : _ ∧ _ ∧ _ ∧ _ := ⟨Y4 l, Y5 a, Y5 b, e⟩
      repeat' first
       | refine g0 ?_
       | (with_reducible refine Y7 ?_; first | refine gc rfl rfl rfl Uz (q1 _) ?_ | refine gc rfl rfl rfl Uz (q2 _) ?_)
      all_goals first | (exfalso; omega) | exact ⟨.inr rfl, endD (r := .agg _) hl0 rfl (by simp) (by simp) rfl (by rw [low]; exact hla) ⟨rfl, rfl⟩⟩
  · rw [c1] at q1
    rw [if_pos rfl, Y5 b]
    have F : _ ∧ _ ∧ _ ∧ _ := ⟨Y4 l, Y5 a, Y5 b, e⟩
    repeat' first
     | refine g0 ?_
     | (with_reducible refine Y7 ?_; refine gc rfl rfl rfl Uz (q1 _) ?_)
    all_goals first | (exfalso; omega) | exact ⟨.inr rfl, endD (r := .agg _) hl0 rfl (by simp) (by simp) rfl (by rw [low]; exact hlb) ⟨rfl, rfl⟩⟩
end
section
attribute [local irreducible] on aOp
attribute [local go_sem] decide_true decide_false Zr Zp
attribute [local simp] byD_len
def jM (A B C Z V W : Ob) (T : List Ob) : List Ob := A :: B :: C :: Z :: V :: W :: T
section
variable {A B C Z V W x y z : Ob} {T l : List Ob}
theorem jM_0 : (jM A B C Z V W T)[0]? = some A := rfl
theorem jM_1 : (jM A B C Z V W T)[1]? = some B := rfl
theorem jM_2 : (jM A B C Z V W T)[2]? = some C := rfl
theorem jM_3 : (jM A B C Z V W T)[3]? = some Z := rfl
theorem jM_4 : (jM A B C Z V W T)[4]? = some V := rfl
theorem jM_5 : (jM A B C Z V W T)[5]? = some W := rfl
theorem jM_s3 : (jM A B C Z V W T).set 3 x = jM A B C x V W T := rfl
theorem jM_s4 : (jM A B C Z V W T).set 4 x = jM A B C Z x W T := rfl
theorem jM_s5 : (jM A B C Z V W T).set 5 x = jM A B C Z V x T := rfl
theorem Zk6 : (jM A B C Z V W T).length = T.length + 6 := rfl
theorem Yh6 : jM A B C Z V W T ++ l = jM A B C Z V W (T ++ l) := rfl
theorem jM_l : (jM A B C Z V W (T ++ [x]))[T.length + 6]? = some x := by simp [jM]
theorem jM_sl : (jM A B C Z V W (T ++ [x])).set (T.length + 6) y = jM A B C Z V W (T ++ [y]) := by simp [jM]
theorem jM_l1 : (jM A B C Z V W (T ++ [x, y]))[T.length + 6]? = some x := by simp [jM]
theorem jM_l2 : (jM A B C Z V W (T ++ [x, y]))[T.length + 1 + 6]? = some y := by simp [jM]
theorem jM_s2 : (jM A B C Z V W (T ++ [x, y])).set (T.length + 1 + 6) z = jM A B C Z V W (T ++ [x, z]) := by simp [jM]
end
theorem joins_at : ∀ {ps : List Lat} {s t : List Val} {k : Nat} {p : Lat} {x y : Val}, ps[k]? = some p → s[k]? = some x → t[k]? = some y → (U9 ps s t)[k]? = some (Xa p x y)
 | q :: ps, a :: s, b :: t, 0, p, x, y, hp, hx, hy => by cases hp; cases hx; cases hy; rw [U9]; rfl
 | q :: ps, a :: s, b :: t, k + 1, p, x, y, hp, hx, hy => by rw [U9]; exact joins_at (ps := ps) (s := s) (t := t) (k := k) hp hx hy
 | [], _, _, _, _, _, _, hp, _, _ => by simp at hp
 | _ :: _, [], _, _, _, _, _, _, hx, _ => by simp at hx
 | _ :: _, _ :: _, [], _, _, _, _, _, _, hy => by simp at hy
theorem joins_len : ∀ {ps : List Lat} {s t : List Val}, s.length = ps.length → t.length = ps.length → (U9 ps s t).length = ps.length
 | [], s, t, _, _ => by rw [U9]; rfl
 | q :: ps, a :: s, b :: t, h1, h2 => by rw [U9, Z1, joins_len (by simpa using h1) (by simpa using h2)]; rfl
 | q :: ps, [], _, h1, _ => by simp at h1
 | q :: ps, a :: s, [], _, h2 => by simp at h2
theorem joinV_6' (l : Lat) (a b : Val) (h : l.kind = 6) : Xa l a b = .mk 0 [] (U9 l.parts a.parts b.parts) [] := by cases l; cases h; exact Yn7
variable (G : Nat → D) (hG : ∀ g, low 0 (G g))
include hG
attribute [local go_sem] Zi Zj Zk Zc Zg Z9 Z0 Z1 Z2 Z4 Za Zd Ze Z7 Z8 Zf jM_0 jM_1 jM_2 jM_3 jM_4 jM_5 Yh6 jM_l jM_l1 jM_l2 Zk6 jM_s2 jM_s3 jM_s4 jM_s5 jM_sl
attribute [local go_sem ↓] reduceIte
theorem jn_prd (l : Lat) (a b : Val) (h6 : l.kind = 6) (hpl : l.parts.length ≤ 1000) (hla : a.parts.length = l.parts.length) (hlb : b.parts.length = l.parts.length) (hpp : ∀ (k : Nat) (p : Lat) (x y : Val), l.parts[k]? = some p → a.parts[k]? = some x → b.parts[k]? = some y → JnOk G p x y) : JnOk G l a b := fun h => by
 rw [joinV_6' l a b h6]
 refine Y9 G hG (by simp only [lowL, low]; exact ⟨Yp _ l, Yb _ a, Yb _ b, trivial⟩) (by rw [low]; exact Yb _ _) ?_ h
 clear h
 have hlen : (U9 l.parts a.parts b.parts).length = l.parts.length := joins_len hla hlb
 have hat := fun {k p x y} => @joins_at l.parts a.parts b.parts k p x y
 have hlo := Yb 0 (.mk 0 [] (U9 l.parts a.parts b.parts) [])
 rw [va_parts] at hlo ⊢
 generalize U9 l.parts a.parts b.parts = J at *
 apply Does.weak
 refine Y6 Tryz.func75 rfl (Z5 rfl) hG fun hl0 _ => ?_
 simp only [Tryz.ntmps75]
 have F : _ ∧ _ ∧ _ ∧ _ := ⟨Y4 l, Y5 a, Y5 b, h6⟩
 repeat' first
  | refine g0 ?_
  | fail
 all_goals first | (exfalso; omega) | skip
 refine Uf 30 4 4 [.v (.int .i64 0), .v (.slice none 0 0)] [.v (.slice none 0 0)] rfl ?_
 refine Yh (fun m e h' => ∃ (k : Nat) (T : List Ob), k ≤ l.parts.length ∧ m = l.parts.length - k ∧ h' = jM (.cells (latX l)) (.cells (vaX a)) (.cells (vaX b)) (.cells [.v (.int .i64 0), .v (.slice none 0 0), .v (.slice none 0 0), .v (.slice none 0 0)]) (.cells [.v (.int .i64 0), .v (.slice none 0 0), .buf 5 k, .v (.slice none 0 0)]) (.buf 30 4 ((J.take k).map vaX)) T ∧ e 3 = .ptr 0 0 ∧ e 4 = .ptr 1 0 ∧ e 5 = .ptr 2 0 ∧ e 6 = .ptr 3 0 ∧ e 14 = .ptr 4 0 ∧ e 126 = .sl 6 (l.parts.map latX) ∧ e 127 = .v (.int .i64 l.parts.length) ∧ e 128 = .v (.int .i64 k)) l.parts.length ⟨0, [], Zw _, rfl, by rw [Y4 l, Y5 a, Y5 b, h6]; rfl, rfl, rfl, rfl, rfl, rfl, rfl, rfl, rfl⟩ ?_
 rintro m e h' ⟨k, T, hk, rfl, rfl, e3, e4, e5, e6, e14, e126, e127, e128⟩
 by_cases hlt : k < l.parts.length
 rotate_left
 · obtain rfl : k = l.parts.length := by omega
   rw [List.take_of_length_le (by omega)]
   have F : _ ∧ _ ∧ _ ∧ _ ∧ _ ∧ _ ∧ _ ∧ _ ∧ _ ∧ _ ∧ _ := ⟨Y4 l, Y5 a, Y5 b, e3, e4, e5, e6, e14, e126, e127, e128⟩
   repeat' first
    | refine gg ?_
    | refine Two.mk (fun hq => ?_) fun hq => ?_
    | refine Evry.mk fun x hx => ?_
    | (exfalso; omega)
   all_goals first | (exfalso; omega) | exact ⟨.inr rfl, endD (ds := [.agg [.v (.int .i64 0), .v (.slice none 0 0), .buf 5 l.parts.length, .v (.slice none 0 0)]]) (r := .agg [.v (.int .i64 0), .v (.slice none 0 0), .sl 4 (J.map vaX), .v (.slice none 0 0)]) hl0 (by simp only [resD, Tryz.results75, go_sem, ↓reduceIte, Z7, Zd, Z8, e6, jM_3]; try rfl) (by simp) (by simp) (by simp [outD, cvD, cv1, jM, hlen]) (by simp only [low, lowL] at hlo ⊢; exact ⟨trivial, trivial, hlo.2.2.1, trivial, trivial⟩) ⟨_, ⟨rfl, rfl⟩, Zj7 X7 (W7 _) X7⟩⟩
 have hs : l.parts[k]? = some l.parts[k] := Z6 hlt
 have hx : a.parts[k]? = some a.parts[k] := Z6 (by omega)
 have hy : b.parts[k]? = some b.parts[k] := Z6 (by omega)
 have hj := hat hs hx hy
 have hjn := hpp k _ _ _ hs hx hy
 unfold JnOk at hjn
 generalize l.parts[k] = p at *
 generalize a.parts[k] = x at *
 generalize b.parts[k] = y at *
 generalize Xa p x y = z at *
 have wk : IntKind.i64.wrap ((k : Int) + 1) = ((k + 1 : Nat) : Int) := IntWalk.i64_in _ (by omega)
 have htk : (J.take (k + 1)).map vaX = (J.take k).map vaX ++ [vaX z] := by rw [List.take_add_one, hj, Zh]; rfl
 have hlr : ((J.take k).map vaX).length = k := by rw [Z2, List.length_take, hlen]; omega
 have hro := ro_va z
 simp only [Y4 p, Y5 x, Y5 y, Y5 z] at hjn hro htk
 have F : _ ∧ _ ∧ _ ∧ _ ∧ _ ∧ _ ∧ _ ∧ _ ∧ _ ∧ _ ∧ _ ∧ _ ∧ _ ∧ _ ∧ _ := ⟨Y4 l, Y4 p, Y5 a, Y5 b, Y5 x, Y5 y, e3, e4, e5, e6, e14, e126, e127, e128, wk⟩
 repeat' first
  | (with_reducible refine Yc ?_; refine Xc mixd (by kernel_rfl) ?_)
  | ((with_reducible refine Up ?_); first | (refine Zd7 rfl rfl rfl rfl (by (simp only [go_sem, F]; rfl)) hlr (by simp only [go_sem, F]; rfl) (by (simp only [go_sem, F]; rfl)) (by simp) hro (by first | omega | (simp; omega)) ?_) | (refine Xs rfl rfl (by first | rfl | (simp only [go_sem, F]; rfl)) (by (simp only [go_sem, F]; rfl)) (by rw [getD_agg' aggT_26, szT_26]; rfl) ?_) | (refine aS1 rfl rfl fun K HK => ?_; simp only [go_sem, F]; (first | refine Ym (fun hq => ?_) (fun hq => ?_) | (refine ⟨by omega, by omega, ?_⟩; refine Yo (by assumption) ?_) | skip) <;> (refine HK _ _ rfl ?_; clear HK K)) | refine Xs rfl rfl rfl (by (simp only [go_sem, F]; rfl)) (by rw [getD_one (by simp only [go_sem, F])]; rfl) ?_ | refine Ui rfl rfl (by (simp only [go_sem, F]; rfl)) rfl (by simp only [go_sem, F]) (by simp) ?_ | refine Jp rfl rfl (by simp only [litD, Wb, go_sem, Z1, Z4, Zl, Zu, and_self, ↓reduceIte, Z7, Zd, Z8, Ze, Zf, Zi, Zk, Zj, Y4 l, Y4 p, Y5 a, Y5 b, Y5 x, Y5 y, e3, e4, e5, e6, e14, e126, e127, e128, Z2, Zc, wk, jM_0, jM_1, jM_2, jM_3, jM_4, jM_5, jM_s3, jM_s4, jM_s5, Zk6, Yh6, jM_l, jM_sl, jM_l1, jM_l2, jM_s2, Zg, Z9, Za, Z0, Z1, Z4]; rfl) ?_ | refine V2 (by simp only [Zo, Zq, Za, Z9, Wd, chk1]; repeat' (first | exact trivial | refine Zx ?_ ?_ | exact .inr Yw | exact .inr X0 | exact .inr X4 | exact .inr (Wt (by omega)) | (refine .inr ?_; simp [compat, Wl, V8, Vs, nop, Zk6] <;> omega) | exact .inl (by kernel_rfl))) ?_ | refine Ys rfl rfl rfl ent_75 (fun h2 => hjn _) ?_)
  | refine gg ?_
  | refine Two.mk (fun hq => ?_) fun hq => ?_
  | (exfalso; omega)
 all_goals first | (exfalso; omega) | exact ⟨rfl, l.parts.length - (k + 1), by omega, k + 1, _, hlt, rfl, (by rw [Y4 l, Y5 a, Y5 b, htk]), e3, e4, e5, e6, e14, e126, e127, rfl⟩
end
section
attribute [local irreducible] on aOp
attribute [local go_sem] decide_true decide_false Zr Zp
attribute [local simp] byD_len
theorem joinV_5' (l p : Lat) (a b : Val) (h : l.kind = 5) (hp : l.parts = [p]) : Xa l a b = J4 (Xa p) a b := by obtain ⟨k, lo, hi, ns, ps, rs⟩ := l; cases h; cases hp; exact Yn8
theorem va_np (ns : List ByteArray) (s : List Val) : vaX (.mk 0 ns s []) = [.v (.int .i64 0), .sl 1 (ns.map strX), .sl 4 (s.map vaX), .sl 2 []] := by rw [Y5]; rfl
variable (G : Nat → D) (hG : ∀ g, low 0 (G g))
include hG
attribute [local go_sem] Zi Zj Zk Zc Zg Z9 Z0 Z1 Z2 Z4 Za Zd Ze Z7 Z8 Zf jM_0 jM_1 jM_2 jM_3 jM_4 jM_5 Yh6 jM_l jM_l1 jM_l2 Zk6 jM_s2 jM_s3 jM_s4 jM_s5 jM_sl Wi
attribute [local go_sem ↓] reduceIte
theorem jn_map (l p : Lat) (a b : Val) (h5 : l.kind = 5) (hp : l.parts = [p]) (ha : a.names.Pairwise ltS) (hb : b.names.Pairwise ltS) (hca : a.parts.length = a.names.length) (hcb : b.parts.length = b.names.length) (la : a.names.length ≤ 10000) (lb : b.names.length ≤ 10000) (hpp : ∀ x ∈ a.parts, ∀ y ∈ b.parts, JnOk G p x y) : JnOk G l a b := fun h => by
 rw [joinV_5' l p a b h5 hp]
 refine Y9 G hG (by simp only [lowL, low]; exact ⟨Yp _ l, Yb _ a, Yb _ b, trivial⟩) (by rw [low]; exact Yb _ _) ?_ h
 clear h
 have hx0 : l.parts[0]? = some p := by rw [hp]; rfl
 have hl1 : l.parts.length = 1 := by rw [hp]; rfl
 have hu := union_d G hG a.names b.names ha hb la lb
 have hul := Yk0 a.names b.names
 have hum := fun s => @W1 a.names b.names s
 unfold J4
 generalize hF : (fun s => (cmbM (Xa p) (getM a s) (getM b s)).getD Ub) = F
 have hFa := fun s => congrFun hF s
 have hlo := Yb 0 (.mk 0 (Xo a.names b.names) ((Xo a.names b.names).map F) [])
 rw [va_np] at hlo ⊢
 generalize Xo a.names b.names = U at *
 apply Does.weak
 clear hp
 refine Y6 Tryz.func75 rfl (Z5 rfl) hG fun hl0 _ => ?_
 simp only [Tryz.ntmps75]
 repeat' first
  | (with_reducible first | refine sA rfl ?_ | refine sI rfl rfl ?_ | refine sT rfl ?_)
  | (with_reducible refine Y7 ?_; first | refine Yn ?_ | (refine ao1 rfl rfl fun K HK => ?_; simp only [go_sem, Y4 l, Y5 a, Y5 b, h5] <;> (refine HK _ _ ?_; clear HK K)) | (refine ao2 rfl rfl rfl ent_131 (hu _) ?_; rintro _ _ ⟨rfl, rfl⟩) | (refine ao1' rfl fun K HK => ?_; simp only [go_sem, Y4 l, Y5 a, Y5 b, h5]; refine HK _ _ ?_; clear HK K))
 all_goals first | (exfalso; omega) | skip
 refine Uf 30 4 4 [.v (.int .i64 0), .sl 1 (U.map strX)] [.v (.slice none 0 0)] rfl ?_
 refine Yh (fun m e h' => ∃ (k : Nat) (T : List Ob), k ≤ U.length ∧ m = U.length - k ∧ h' = jM (.cells (latX l)) (.cells (vaX a)) (.cells (vaX b)) (.cells [.v (.int .i64 0), .v (.slice none 0 0), .v (.slice none 0 0), .v (.slice none 0 0)]) (.cells [.v (.int .i64 0), .sl 1 (U.map strX), .buf 5 k, .v (.slice none 0 0)]) (.buf 30 4 (((U.take k).map F).map vaX)) T ∧ e 3 = .ptr 0 0 ∧ e 4 = .ptr 1 0 ∧ e 5 = .ptr 2 0 ∧ e 6 = .ptr 3 0 ∧ e 9 = .ptr 4 0 ∧ e 61 = .sl 1 (U.map strX) ∧ e 62 = .v (.int .i64 U.length) ∧ e 63 = .v (.int .i64 k)) U.length ⟨0, [], Zw _, rfl, by rw [Y4 l, Y5 a, Y5 b, h5]; rfl, rfl, rfl, rfl, rfl, rfl, rfl, rfl, rfl⟩ ?_
 rintro m e h' ⟨k, T, hk, rfl, rfl, e3, e4, e5, e6, e9, e61, e62, e63⟩
 by_cases hlt : k < U.length
 rotate_left
 · obtain rfl : k = U.length := by omega
   rw [List.take_length]
   repeat' first
    | (with_reducible first | refine sA rfl ?_ | refine sI rfl rfl ?_ | refine sT rfl ?_ | refine sB rfl ?_)
    | (with_reducible refine Y7 ?_; first | refine Yn ?_ | (refine ao1 rfl rfl fun K HK => ?_; simp only [go_sem, Y4 l, Y5 a, Y5 b, e3, e4, e5, e6, e9, e61, e62, e63]; (first | refine Ym (fun hq => ?_) (fun hq => ?_) | (refine ⟨by omega, by omega, ?_⟩; intro row hrow; obtain ⟨x, hx, rfl⟩ := Vr hrow; clear hrow) | skip) <;> (refine HK _ _ ?_; clear HK K)) | (refine ao1' rfl fun K HK => ?_; simp only [go_sem, Y4 l, Y5 a, Y5 b, e3, e4, e5, e6, e9, e61, e62, e63]; refine HK _ _ ?_; clear HK K))
    | (exfalso; omega)
   all_goals first | (exfalso; omega) | exact ⟨.inr rfl, endD (ds := [.agg [.v (.int .i64 0), .sl 1 (U.map strX), .buf 5 U.length, .v (.slice none 0 0)]]) (r := .agg [.v (.int .i64 0), .sl 1 (U.map strX), .sl 4 ((U.map F).map vaX), .v (.slice none 0 0)]) hl0 (by simp only [resD, Tryz.results75, go_sem, ↓reduceIte, Z7, Zd, Z8, e6, jM_3]; try rfl) (by simp) (by simp) (by simp [outD, cvD, cv1, jM]) (by simp only [low, lowL] at hlo ⊢; exact ⟨trivial, hlo.2.1, hlo.2.2.1, trivial, trivial⟩) ⟨_, ⟨rfl, rfl⟩, Zj7 (W7 _) (W7 _) X7⟩⟩
 have hs : U[k]? = some U[k] := Z6 hlt
 have hsu := (hum _).1 (List.getElem_mem hlt)
 generalize U[k] = s at hs hsu
 have wk : IntKind.i64.wrap ((k : Int) + 1) = ((k + 1 : Nat) : Int) := IntWalk.i64_in _ (by omega)
 have hFs := hFa s
 have htk : ((U.take (k + 1)).map F).map vaX = ((U.take k).map F).map vaX ++ [vaX (F s)] := by rw [List.take_add_one, hs, Zh, Zh]; rfl
 generalize F s = z at *
 have hlr : (((U.take k).map F).map vaX).length = k := by rw [Z2, Z2, List.length_take]; omega
 have hro := ro_va z
 have hia := idxS_d G hG a.names s (by omega)
 have hib := idxS_d G hG b.names s (by omega)
 simp only [Y5 z] at hro htk
 unfold getM at hFs
 rcases Zq6 s a.names a.parts 0 hca with ⟨i1, g1⟩ | ⟨i, v, hi, i1, hv, g1⟩
 · rcases Zq6 s b.names b.parts 0 hcb with ⟨i2, g2⟩ | ⟨j, w, hj, i2, hw, g2⟩
   · exfalso
     rcases hsu with h | h
     · exact (Jm hca.symm).1 g1 h
     · exact (Jm hcb.symm).1 g2 h
   · rw [i1] at hia
     rw [Zv] at i2
     rw [i2] at hib
     rw [g1, g2] at hFs
     obtain rfl : w = z := hFs
     have hjn : ¬ ((j : Int) < 0) := by omega
     repeat' first
      | (with_reducible first | refine sA rfl ?_ | refine sI rfl rfl ?_ | refine sT rfl ?_ | refine sB rfl ?_)
      | (with_reducible refine Yc ?_; first | refine Xc mixd (by kernel_rfl) ?_)
      | (with_reducible refine Y7 ?_; first | refine Yn ?_ | (refine ao1 rfl rfl fun K HK => ?_; simp only [go_sem, Y4 l, Y5 a, Y5 b, Y5 w, h5, hjn, e3, e4, e5, e6, e9, e61, e62, e63, wk]; (first | refine Ym (fun hq => ?_) (fun hq => ?_) | (refine ⟨by omega, by omega, ?_⟩; refine Yo (by assumption) ?_) | skip) <;> (refine HK _ _ ?_; clear HK K)) | (refine ao1' rfl fun K HK => ?_; simp only [go_sem, Y4 l, Y5 a, Y5 b, Y5 w, h5, hjn, e3, e4, e5, e6, e9, e61, e62, e63, wk]; refine HK _ _ ?_; clear HK K))
      | ((with_reducible refine Up ?_); first | (refine Zd7 rfl rfl rfl rfl (by (simp only [go_sem, Y4 l, Y5 a, Y5 b, Y5 w, h5, hjn, e3, e4, e5, e6, e9, e61, e62, e63, wk]; rfl)) hlr (by simp only [go_sem]; rfl) (by (simp only [go_sem, Y4 l, Y5 a, Y5 b, Y5 w, h5, hjn, e3, e4, e5, e6, e9, e61, e62, e63, wk]; rfl)) (by simp) hro (by first | omega | (simp; omega)) ?_) | (refine aS1 rfl rfl fun K HK => ?_; simp only [go_sem, Y4 l, Y5 a, Y5 b, Y5 w, h5, hjn, e3, e4, e5, e6, e9, e61, e62, e63, wk]; (first | refine Ym (fun hq => ?_) (fun hq => ?_) | (refine ⟨by omega, by omega, ?_⟩; refine Yo (by assumption) ?_) | skip) <;> (refine HK _ _ rfl ?_; clear HK K)) | refine Xs rfl rfl rfl (by (simp only [go_sem, Y4 l, Y5 a, Y5 b, Y5 w, h5, hjn, e3, e4, e5, e6, e9, e61, e62, e63, wk]; rfl)) (by rw [getD_one (by simp only [go_sem, Y4 l, Y5 a, Y5 b, Y5 w, h5, hjn, e3, e4, e5, e6, e9, e61, e62, e63, wk])]; rfl) ?_ | refine Ui rfl rfl (by (simp only [go_sem, Y4 l, Y5 a, Y5 b, Y5 w, h5, hjn, e3, e4, e5, e6, e9, e61, e62, e63, wk]; rfl)) rfl (by simp only [go_sem, Y4 l, Y5 a, Y5 b, Y5 w, h5, hjn, e3, e4, e5, e6, e9, e61, e62, e63, wk]) (by simp) ?_ | refine Jp rfl rfl (by simp only [litD, Wb, go_sem, Z1, Z4, Zl, Zu, and_self, ↓reduceIte, Z7, Zd, Z8, Ze, Zf, Zi, Zk, Zj, Y4 l, Y5 a, Y5 b, Y5 w, Wi, h5, hjn, e3, e4, e5, e6, e9, e61, e62, e63, Z2, Zc, wk, jM_0, jM_1, jM_2, jM_3, jM_4, jM_5, jM_s3, jM_s4, jM_s5, Zk6, Yh6, jM_l, jM_sl, jM_l1, jM_l2, jM_s2, Zg, Z9, Za, Z0, Z1, Z4]; rfl) ?_ | refine V2 (by simp only [Zo, Zq, Za, Z9, Wd, chk1]; repeat' (first | exact trivial | refine Zx ?_ ?_ | exact .inr Yw | exact .inr X0 | exact .inr X4 | exact .inr (Wt (by omega)) | (refine .inr ?_; simp [compat, Wl, V8, Vs, nop, Zk6] <;> omega) | exact .inl (by kernel_rfl))) ?_ | refine Ys rfl rfl rfl Za3 (fun h2 => hia _) ?_ | refine Ys rfl rfl rfl Za3 (fun h2 => hib _) ?_)
      | (exfalso; omega)
     all_goals first | (exfalso; omega) | exact ⟨rfl, U.length - (k + 1), by omega, k + 1, _, hlt, rfl, (by rw [Y4 l, Y5 a, Y5 b, htk, h5]), e3, e4, e5, e6, e9, e61, e62, rfl⟩
 · rw [Zv] at i1
   rw [i1] at hia
   have hin : ¬ ((i : Int) < 0) := by omega
   rcases Zq6 s b.names b.parts 0 hcb with ⟨i2, g2⟩ | ⟨j, w, hj, i2, hw, g2⟩
   · rw [i2] at hib
     rw [g1, g2] at hFs
     obtain rfl : v = z := hFs
     repeat' first
      | (with_reducible first | refine sA rfl ?_ | refine sI rfl rfl ?_ | refine sT rfl ?_ | refine sB rfl ?_)
      | (with_reducible refine Yc ?_; first | refine Xc mixd (by kernel_rfl) ?_)
      | (with_reducible refine Y7 ?_; first | refine Yn ?_ | (refine ao1 rfl rfl fun K HK => ?_; simp only [go_sem, Y4 l, Y5 a, Y5 b, Y5 v, h5, hin, e3, e4, e5, e6, e9, e61, e62, e63, wk]; (first | refine Ym (fun hq => ?_) (fun hq => ?_) | (refine ⟨by omega, by omega, ?_⟩; refine Yo (by assumption) ?_) | skip) <;> (refine HK _ _ ?_; clear HK K)) | (refine ao1' rfl fun K HK => ?_; simp only [go_sem, Y4 l, Y5 a, Y5 b, Y5 v, h5, hin, e3, e4, e5, e6, e9, e61, e62, e63, wk]; refine HK _ _ ?_; clear HK K))
      | ((with_reducible refine Up ?_); first | (refine Zd7 rfl rfl rfl rfl (by (simp only [go_sem, Y4 l, Y5 a, Y5 b, Y5 v, h5, hin, e3, e4, e5, e6, e9, e61, e62, e63, wk]; rfl)) hlr (by simp only [go_sem]; rfl) (by (simp only [go_sem, Y4 l, Y5 a, Y5 b, Y5 v, h5, hin, e3, e4, e5, e6, e9, e61, e62, e63, wk]; rfl)) (by simp) hro (by first | omega | (simp; omega)) ?_) | (refine aS1 rfl rfl fun K HK => ?_; simp only [go_sem, Y4 l, Y5 a, Y5 b, Y5 v, h5, hin, e3, e4, e5, e6, e9, e61, e62, e63, wk]; (first | refine Ym (fun hq => ?_) (fun hq => ?_) | (refine ⟨by omega, by omega, ?_⟩; refine Yo (by assumption) ?_) | skip) <;> (refine HK _ _ rfl ?_; clear HK K)) | refine Xs rfl rfl rfl (by (simp only [go_sem, Y4 l, Y5 a, Y5 b, Y5 v, h5, hin, e3, e4, e5, e6, e9, e61, e62, e63, wk]; rfl)) (by rw [getD_one (by simp only [go_sem, Y4 l, Y5 a, Y5 b, Y5 v, h5, hin, e3, e4, e5, e6, e9, e61, e62, e63, wk])]; rfl) ?_ | refine Ui rfl rfl (by (simp only [go_sem, Y4 l, Y5 a, Y5 b, Y5 v, h5, hin, e3, e4, e5, e6, e9, e61, e62, e63, wk]; rfl)) rfl (by simp only [go_sem, Y4 l, Y5 a, Y5 b, Y5 v, h5, hin, e3, e4, e5, e6, e9, e61, e62, e63, wk]) (by simp) ?_ | refine Jp rfl rfl (by simp only [litD, Wb, go_sem, Z1, Z4, Zl, Zu, and_self, ↓reduceIte, Z7, Zd, Z8, Ze, Zf, Zi, Zk, Zj, Y4 l, Y5 a, Y5 b, Y5 v, Wi, h5, hin, e3, e4, e5, e6, e9, e61, e62, e63, Z2, Zc, wk, jM_0, jM_1, jM_2, jM_3, jM_4, jM_5, jM_s3, jM_s4, jM_s5, Zk6, Yh6, jM_l, jM_sl, jM_l1, jM_l2, jM_s2, Zg, Z9, Za, Z0, Z1, Z4]; rfl) ?_ | refine V2 (by simp only [Zo, Zq, Za, Z9, Wd, chk1]; repeat' (first | exact trivial | refine Zx ?_ ?_ | exact .inr Yw | exact .inr X0 | exact .inr X4 | exact .inr (Wt (by omega)) | (refine .inr ?_; simp [compat, Wl, V8, Vs, nop, Zk6] <;> omega) | exact .inl (by kernel_rfl))) ?_ | refine Ys rfl rfl rfl Za3 (fun h2 => hia _) ?_ | refine Ys rfl rfl rfl Za3 (fun h2 => hib _) ?_)
      | (exfalso; omega)
     all_goals first | (exfalso; omega) | exact ⟨rfl, U.length - (k + 1), by omega, k + 1, _, hlt, rfl, (by rw [Y4 l, Y5 a, Y5 b, htk, h5]), e3, e4, e5, e6, e9, e61, e62, rfl⟩
   · rw [Zv] at i2
     rw [i2] at hib
     rw [g1, g2] at hFs
     obtain rfl : Xa p v w = z := hFs
     have hjv := hpp v (List.mem_of_getElem? hv) w (List.mem_of_getElem? hw)
     unfold JnOk at hjv
     generalize Xa p v w = z at *
     have hjn : ¬ ((j : Int) < 0) := by omega
     simp only [Y4 p, Y5 v, Y5 w, Y5 z] at hjv
     repeat' first
      | (with_reducible first | refine sA rfl ?_ | refine sI rfl rfl ?_ | refine sT rfl ?_ | refine sB rfl ?_)
      | (with_reducible refine Yc ?_; first | refine Xc mixd (by kernel_rfl) ?_)
      | (with_reducible refine Y7 ?_; first | refine Yn ?_ | (refine ao1 rfl rfl fun K HK => ?_; simp only [go_sem, Y4 l, Y4 p, Y5 a, Y5 b, Y5 v, Y5 w, h5, hl1, hin, hjn, e3, e4, e5, e6, e9, e61, e62, e63, wk]; (first | refine Ym (fun hq => ?_) (fun hq => ?_) | (refine ⟨by omega, by omega, ?_⟩; refine Yo (by assumption) ?_) | (refine ⟨by omega, ?_⟩; refine Yo (by assumption) ?_) | skip) <;> (refine HK _ _ ?_; clear HK K)) | (refine ao1' rfl fun K HK => ?_; simp only [go_sem, Y4 l, Y4 p, Y5 a, Y5 b, Y5 v, Y5 w, h5, hl1, hin, hjn, e3, e4, e5, e6, e9, e61, e62, e63, wk]; refine HK _ _ ?_; clear HK K))
      | ((with_reducible refine Up ?_); first | (refine Zd7 rfl rfl rfl rfl (by (simp only [go_sem, Y4 l, Y4 p, Y5 a, Y5 b, Y5 v, Y5 w, h5, hl1, hin, hjn, e3, e4, e5, e6, e9, e61, e62, e63, wk]; rfl)) hlr (by simp only [go_sem]; rfl) (by (simp only [go_sem, Y4 l, Y4 p, Y5 a, Y5 b, Y5 v, Y5 w, h5, hl1, hin, hjn, e3, e4, e5, e6, e9, e61, e62, e63, wk]; rfl)) (by simp) hro (by first | omega | (simp; omega)) ?_) | (refine aS1 rfl rfl fun K HK => ?_; simp only [go_sem, Y4 l, Y4 p, Y5 a, Y5 b, Y5 v, Y5 w, h5, hl1, hin, hjn, e3, e4, e5, e6, e9, e61, e62, e63, wk]; (first | refine Ym (fun hq => ?_) (fun hq => ?_) | (refine ⟨by omega, by omega, ?_⟩; refine Yo (by assumption) ?_) | (refine ⟨by omega, ?_⟩; refine Yo (by assumption) ?_) | skip) <;> (refine HK _ _ rfl ?_; clear HK K)) | refine Xs rfl rfl rfl (by (simp only [go_sem, Y4 l, Y4 p, Y5 a, Y5 b, Y5 v, Y5 w, h5, hl1, hin, hjn, e3, e4, e5, e6, e9, e61, e62, e63, wk]; rfl)) (by rw [getD_one (by simp only [go_sem, Y4 l, Y4 p, Y5 a, Y5 b, Y5 v, Y5 w, h5, hl1, hin, hjn, e3, e4, e5, e6, e9, e61, e62, e63, wk])]; rfl) ?_ | refine Ui rfl rfl (by (simp only [go_sem, Y4 l, Y4 p, Y5 a, Y5 b, Y5 v, Y5 w, h5, hl1, hin, hjn, e3, e4, e5, e6, e9, e61, e62, e63, wk]; rfl)) rfl (by simp only [go_sem, Y4 l, Y4 p, Y5 a, Y5 b, Y5 v, Y5 w, h5, hl1, hin, hjn, e3, e4, e5, e6, e9, e61, e62, e63, wk]) (by simp) ?_ | refine Jp rfl rfl (by simp only [litD, Wb, go_sem, Z1, Z4, Zl, Zu, and_self, ↓reduceIte, Z7, Zd, Z8, Ze, Zf, Zi, Zk, Zj, Y4 l, Y4 p, Y5 a, Y5 b, Y5 v, Y5 w, Wi, h5, hl1, hin, hjn, e3, e4, e5, e6, e9, e61, e62, e63, Z2, Zc, wk, jM_0, jM_1, jM_2, jM_3, jM_4, jM_5, jM_s3, jM_s4, jM_s5, Zk6, Yh6, jM_l, jM_sl, jM_l1, jM_l2, jM_s2, Zg, Z9, Za, Z0, Z1, Z4]; rfl) ?_ | refine V2 (by simp only [Zo, Zq, Za, Z9, Wd, chk1]; repeat' (first | exact trivial | refine Zx ?_ ?_ | exact .inr Yw | exact .inr X0 | exact .inr X4 | exact .inr (Wt (by omega)) | (refine .inr ?_; simp [compat, Wl, V8, Vs, nop, Zk6] <;> omega) | exact .inl (by kernel_rfl))) ?_ | refine Ys rfl rfl rfl Za3 (fun h2 => hia _) ?_ | refine Ys rfl rfl rfl Za3 (fun h2 => hib _) ?_ | refine Ys rfl rfl rfl ent_75 (fun h2 => hjv _) ?_)
      | (exfalso; omega)
     all_goals first | (exfalso; omega) | exact ⟨rfl, U.length - (k + 1), by omega, k + 1, _, hlt, rfl, (by rw [Y4 l, Y5 a, Y5 b, htk, h5]), e3, e4, e5, e6, e9, e61, e62, rfl⟩
end
end Go.Proofs.YtbhkcbidcfofiaaGreat
