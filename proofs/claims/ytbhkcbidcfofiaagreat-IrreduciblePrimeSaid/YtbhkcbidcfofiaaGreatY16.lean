/-
  What the statements of the chapter share, part 16: RR0, AL, AR, AL2, AL3, RV2, LA3, VA2, RV3, PReg, RV4, RV5.
-/
import Derived.Test.YtbhkcbidcfofiaaGreatY07
import Derived.Test.YtbhkcbidcfofiaaGreatY10
import Derived.Test.YtbhkcbidcfofiaaGreatY14
import Derived.Test.YtbhkcbidcfofiaaGreatY15
import Derived.Laws.CopyRow
set_option linter.unusedVariables false
set_option linter.unusedSimpArgs false
set_option maxRecDepth 100000
set_option maxHeartbeats 8000000
namespace Go.Proofs.YtbhkcbidcfofiaaGreat
open _root_.Bool renaming and_eq_true → Z6, false_eq_true → Za, not_false → Zh, not_true → Zj, eq_iff_iff → Zp
open _root_.Int renaming toNat_natCast → Z7, le_refl → Zq, reduceEq → Zs, reduceLE → Zt, reduceLT → Zu
open _root_.List renaming getElem?_eq_getElem → Z1, drop_eq_getElem_cons → Z2, drop_eq_nil_of_le → Z4, length_map → Z5, take_of_length_le → Z8, getElem?_eq_some_iff → Zb, length_take → Ze, getElem_mem → Zf, length_eq_zero_iff → Zg, all_eq_true → Zi, getElem?_take_of_lt → Zk, all_cons → Zl, getElem?_map → Zr, getElem_of_mem → Zv, pairwise_iff_getElem → Zw, take_add_one → Zx, range → Zy
open _root_.Nat renaming le_of_ble_eq_true → Z0, zero_le → Z9, reduceEqDiff → Zc, reduceLeDiff → Zd, reduceAdd → Zm, reduceBEq → Zn, reduceMul → Zo, le_refl → Zz
open _root_.Go.Proofs.Tryz renaming prog → Z3
open Go.RowKit
section
theorem Zn7 {h : List Ob} {i : Nat} {ob : Ob} : (h.set i ob).take h.length = h.set i ob := Z8 (by simp)
theorem take_set_app {h l : List Ob} {i : Nat} {ob : Ob} : (h.set i ob ++ l).take h.length = h.set i ob := by rw [List.take_append_of_le_length (by simp)]; exact Zn7
theorem endS {res : Array ResultVar} {h0 : List Ob} {K : List Ob → D → Prop} {s : S} {ds : List D} {r : D} {i : Nat} {ob : Ob} (hl : lowH h0.length h0) (ho : Yf1 h0.length ob) (h1 : resD Z3 s res.toList = some ds) (h2 : s.h.take h0.length = h0.set i ob) (h4 : h0.length ≤ s.h.length)
 (h3 : cvD (fun i => decide (h0.length ≤ i)) s.h (outD ds) = r) (h5 : low h0.length r) (hK : K (h0.set i ob) r) : EndD Z3 res h0.length K s := ⟨ds, h0.length, h1, Zz _, h4, by rw [h2]; exact lowH_set hl ho, by rw [h3]; exact h5, by rw [h2, h3]; exact hK⟩
def X3 (s : RS) : Ob := .cells [.sl 1 (byD s.data), .v (.int .i64 s.pos), .v (.int .i64 s.item), .v (.int .i64 s.err)]
theorem Ju (s : RS) : X3 s = .cells [.sl 1 (byD s.data), .v (.int .i64 s.pos), .v (.int .i64 s.item), .v (.int .i64 s.err)] := rfl
theorem U6 (m : Nat) (s : RS) : Yf1 m (X3 s) := ⟨Ze0 m _, by simp [lowL, low]⟩
def rawJ (p i acc : Nat) : List UInt8 → D
 | [] => .tup [.v (.int .u64 (0 : Int)), .v (.int .i64 (0 : Int)), .v (.bool false)]
 | b :: t => if 10 ≤ i then .tup [.v (.int .u64 (0 : Int)), .v (.int .i64 (0 : Int)), .v (.bool false)]
   else if i = 9 ∧ 1 < b.toNat then .tup [.v (.int .u64 (0 : Int)), .v (.int .i64 (0 : Int)), .v (.bool false)]
   else if b.toNat < 128 then .tup [.v (.int .u64 ((acc + b.toNat % 128 * 2 ^ (7 * i) : Nat) : Int)), .v (.int .i64 ((p + i + 1 : Nat) : Int)), .v (.bool (decide (b.toNat ≠ 0 ∨ i = 0)))]
   else rawJ p (i + 1) (acc + b.toNat % 128 * 2 ^ (7 * i)) t
def RS.rawN (s : RS) : D := rawJ s.pos 0 0 (s.data.drop s.pos)
theorem Zz5 (p : Nat) : ∀ (l : List UInt8) (i acc : Nat), (match numF i l with
 | none => ∃ a b : Int, rawJ p i acc l = .tup [.v (.int .u64 a), .v (.int .i64 b), .v (.bool false)]
 | some (m, c) => rawJ p i acc l = .tup [.v (.int .u64 ((acc + m * 2 ^ (7 * i) : Nat) : Int)), .v (.int .i64 ((p + i + c : Nat) : Int)), .v (.bool true)])
 | [], i, acc => by rw [Ym9]; exact ⟨_, _, rfl⟩
 | b :: t, i, acc => by
  by_cases hi : 10 ≤ i
  · rw [numF_ge _ hi]; exact ⟨0, 0, by rw [rawJ, if_pos hi]⟩
  by_cases h9 : i = 9 ∧ 1 < b.toNat
  · rw [numF_big _ h9]; exact ⟨0, 0, by rw [rawJ, if_neg hi, if_pos h9]⟩
  by_cases hb : b.toNat < 128
  · rw [numF_last t (by omega) h9 hb, rawJ, if_neg hi, if_neg h9, if_pos hb]
    by_cases hz : b.toNat = 0 ∧ i ≠ 0
    · rw [if_pos hz, decide_eq_false (by omega)]; exact ⟨_, _, rfl⟩
    · rw [if_neg hz, decide_eq_true (by omega), Nat.mod_eq_of_lt hb]
  · rw [numF_more t (by omega) h9 hb, rawJ, if_neg hi, if_neg h9, if_neg hb]
    have ih := Zz5 p t (i + 1) (acc + b.toNat % 128 * 2 ^ (7 * i))
    rcases hr : numF (i + 1) t with _ | ⟨m, c⟩
    · rw [hr] at ih; exact ih
    · rw [hr] at ih
      simp only at ih ⊢
      rw [ih]
      have e1 : acc + b.toNat % 128 * 2 ^ (7 * i) + m * 2 ^ (7 * (i + 1)) = acc + (b.toNat % 128 + 128 * m) * 2 ^ (7 * i) := by
       rw [show 7 * (i + 1) = 7 + 7 * i by omega, Nat.pow_add, Nat.add_mul, Nat.add_assoc, show m * (2 ^ 7 * 2 ^ (7 * i)) = 128 * m * 2 ^ (7 * i) by rw [← Nat.mul_assoc, Nat.mul_comm m]]
      rw [e1, show p + (i + 1) + c = p + i + (c + 1) by omega]
theorem rawN_none {s : RS} (q : s.num = none) : ∃ a b : Int, s.rawN = .tup [.v (.int .u64 a), .v (.int .i64 b), .v (.bool false)] := by
 have h := Zz5 s.pos (s.data.drop s.pos) 0 0
 have q : numF 0 (s.data.drop s.pos) = none := q
 rw [q] at h; exact h
theorem rawN_some {s : RS} {n c : Nat} (q : s.num = some (n, c)) : s.rawN = .tup [.v (.int .u64 n), .v (.int .i64 ((s.pos : Int) + (c : Int))), .v (.bool true)] := by
 have h := Zz5 s.pos (s.data.drop s.pos) 0 0
 have q : numF 0 (s.data.drop s.pos) = some (n, c) := q
 rw [q] at h
 simpa [RS.rawN] using h
theorem and_byte : ∀ m : Fin 256, IntKind.u8.wrap ((BitVec.ofInt 8 (m.val : Int) &&& BitVec.ofInt 8 127).toNat : Int) = ((m.val % 128 : Nat) : Int) := by decide +kernel
theorem and_byte' (b : UInt8) : IntKind.u8.wrap ((BitVec.ofInt 8 (b.toNat : Int) &&& BitVec.ofInt 8 127).toNat : Int) = ((b.toNat % 128 : Nat) : Int) := and_byte ⟨b.toNat, b.toNat_lt⟩
theorem shl_step {acc b i : Nat} (ha : acc < 2 ^ (7 * i)) (hi : i < 10) (h9 : ¬ (i = 9 ∧ 1 < b)) (hb : b < 256) :
 b % 128 * 2 ^ (7 * i) < 18446744073709551616 ∧ acc < 18446744073709551616 ∧ acc + b % 128 * 2 ^ (7 * i) < 2 ^ (7 * (i + 1)) := by
 have e : 2 ^ (7 * (i + 1)) = 128 * 2 ^ (7 * i) := by rw [show 7 * (i + 1) = 7 + 7 * i by omega, Nat.pow_add]
 have h3 : b % 128 * 2 ^ (7 * i) ≤ 127 * 2 ^ (7 * i) := Nat.mul_le_mul_right _ (by omega)
 refine ⟨?_, ?_, by omega⟩
 · rcases Nat.lt_or_ge i 9 with h | h
   · have h1 : 2 ^ (7 * i) ≤ 2 ^ 56 := Nat.pow_le_pow_right (by omega) (by omega)
     omega
   · have : i = 9 := by omega
     subst this
     have h2 : b % 128 * 2 ^ (7 * 9) ≤ 1 * 2 ^ 63 := Nat.mul_le_mul (by omega) (Zz _)
     omega
 · have h1 : 2 ^ (7 * i) ≤ 2 ^ 63 := Nat.pow_le_pow_right (by omega) (by omega)
   omega
theorem shl_val {b i : Nat} (h : b % 128 * 2 ^ (7 * i) < 18446744073709551616) (hi : i < 10) : IntKind.u64.wrap (((b % 128 : Nat) : Int) * 2 ^ min (7 * i) 64) = ((b % 128 * 2 ^ (7 * i) : Nat) : Int) := by
 have e : ((b % 128 : Nat) : Int) * 2 ^ min (7 * i) 64 = ((b % 128 * 2 ^ (7 * i) : Nat) : Int) := by
  rw [Nat.min_eq_left (by omega), Int.natCast_mul, Int.natCast_pow]; rfl
 rw [e, IntKind.wrap_u64]; omega
theorem or_val {acc b i : Nat} (ha : acc < 2 ^ (7 * i)) (h1 : acc < 18446744073709551616) (h2 : b % 128 * 2 ^ (7 * i) < 18446744073709551616) : IntKind.u64.wrap ((BitVec.ofInt 64 (acc : Int) ||| BitVec.ofInt 64 ((b % 128 * 2 ^ (7 * i) : Nat) : Int)).toNat : Int) = ((acc + b % 128 * 2 ^ (7 * i) : Nat) : Int) := by
 have h := u64_or_nat acc (b % 128 * 2 ^ (7 * i)) h1 h2
 refine h.trans ?_
 rw [Nat.or_comm, Nat.mul_comm, ← Nat.two_pow_add_eq_or_of_lt ha, Nat.add_comm]
theorem num_val {acc i : Nat} {x : UInt8} (ha : acc < 2 ^ (7 * i)) (hi : i < 10) (h9 : ¬ (i = 9 ∧ 1 < x.toNat)) : IntKind.u64.wrap ((BitVec.ofInt 64 (acc : Int) ||| BitVec.ofInt 64 (IntKind.u64.wrap (IntKind.u64.wrap (IntKind.u8.wrap ((BitVec.ofInt 8 (x.toNat : Int) &&& BitVec.ofInt 8 127).toNat : Int)) * 2 ^ min (7 * i) 64))).toNat : Int) = ((acc + x.toNat % 128 * 2 ^ (7 * i) : Nat) : Int) := by
 obtain ⟨s1, s2, _⟩ := shl_step ha hi h9 x.toNat_lt
 have w8 : IntKind.u64.wrap ((x.toNat % 128 : Nat) : Int) = ((x.toNat % 128 : Nat) : Int) := by rw [IntKind.wrap_u64]; omega
 rw [and_byte', w8, shl_val s1 hi, or_val ha s2 s1]
end
section
def addJ (V : List Int) : Nat → List Int → List Int
 | 0, U => U
 | n + 1, U => addJ V n (U.set (7 - n) (Zd6 (U.getD (7 - n) 0) (V.getD (7 - n) 0)))
end
section
section
variable {P : Program} {G : Nat → D} {e : Nat → D} {h : List Ob}
theorem cvL {hd : List Value} {w w' : World} {p p' : Nat → Bool} {h h' : List Ob} {g : D → D} (c : ∀ d u, rd hd h (only p w) d u → rd hd h' (only p' w') (g d) u) {ds : List D} {us : List Value} (q : rdL hd h (only p w) ds us) : rdL hd h' (only p' w') (ds.map g) us := by
 obtain ⟨h1, h2⟩ := (Xg _ _).1 q
 refine (Xg _ _).2 ⟨by simpa using h1, fun j d hd' => ?_⟩
 rw [Zr, Option.map_eq_some_iff] at hd'
 obtain ⟨d0, hd0, rfl⟩ := hd'
 obtain ⟨u, hu, hr⟩ := h2 j d0 hd0
 exact ⟨u, hu, c _ _ hr⟩
end
end
section
def stL (v : W8) (r : D) (n : Nat) : List D := v.ls.map zD ++ [r, .v (.int .i64 n)]
section
variable {P : Program} {G : Nat → D} {e : Nat → D} {h : List Ob} {K : List Ob → D → Prop} {u : TypeId} {x y : Operand} {i n m : Nat} {v v' : W8} {r r' : D}
end
section
variable {P : Program} {G : Nat → D} {n : Nat} {e : Nat → D} {h : List Ob} {ops : Array Oper} {rest : List Oper} {Q : S → Prop} {t : Nat} {ty : TypeId} {pos : String} {aft : Array Edge} {gd : Option (Nat × Bool)}
end
theorem endX {P : Program} {res : Array ResultVar} {m0 : Nat} {K : List Ob → D → Prop} {s : S} (ds : List D) (M T : List Ob) (r : D) (h1 : resD P s res.toList = some ds) (h2 : s.h = M ++ T) (h0 : m0 ≤ M.length) (lM : lowH M.length M) (lr : low M.length r) (hr : cvD (fun i => decide (M.length ≤ i)) (M ++ T) (outD ds) = r) (hK : K M r) : EndD P res m0 K s := by
 have e : s.h.take M.length = M := by rw [h2]; simp
 refine ⟨ds, M.length, h1, h0, by rw [h2]; simp, by rw [e]; exact lM, by rw [h2, hr]; exact lr, by rw [e, h2, hr]; exact hK⟩
def sM (A B x : Ob) (T : List Ob) : List Ob := A :: B :: x :: T
section
variable {A B x y : Ob} {T l : List Ob}
end
end
section
def kC (l : List UInt8) : List D := l.map fun b => .v (.int .u8 b.toNat)
section
variable {P : Program} {G : Nat → D} {e : Nat → D} {h : List Ob} {K : List Ob → D → Prop} {u : TypeId} {x y : Operand} {i n m k : Nat}
end
section
variable {P : Program} {G : Nat → D} {n : Nat} {e : Nat → D} {h : List Ob} {ops : Array Oper} {rest : List Oper} {Q : S → Prop} {t : Nat} {ty : TypeId} {pos : String} {aft : Array Edge} {gd : Option (Nat × Bool)}
end
theorem Does.give1c {P : Program} {G : Nat → D} {f : FuncId} {h : List Ob} {i E k n : Nat} {rows : List (List D)} {K : List Ob → D → Prop} (hi : h[i]? = some (.buf E k rows)) (hn : rows.length = n) (q : Does P G f (h.set i .dead) [.sl k rows] K) : Does P G f h [.buf i n] K := fun w hd p vs ok ha => by
 rw [rdL] at ha
 obtain ⟨u, t, rfl, hu, ht⟩ := ha
 rw [rdL] at ht; subst ht
 obtain ⟨p', o', ev, cv⟩ := ok.give (fun j => j == i)
 have hr := cv _ _ hu
 have e : cvD (fun j => j == i) h (.buf i n) = .sl k rows := by simp [cvD, cv1, hi, hn]
 rw [e] at hr
 rw [Yb4] at o' ev hr
 refine (q w hd p' [u] o' (by rw [rdL]; exact ⟨u, [], rfl, hr, by rw [rdL]⟩)).mono ?_
 rintro e w' ⟨v, hd', h', r, p2, rfl, hK, ok2, hr2, ev2⟩
 exact ⟨v, hd', h', r, p2, rfl, hK, ok2, hr2, ev.trans ev2⟩
end
section
attribute [local irreducible] on aOp
attribute [local go_sem] decide_true decide_false Zj Zh
attribute [local simp] byD_len
def nG (rows : List (List D)) (T : List Ob) : List Ob := .buf 9 1 rows :: T
section
variable {rows r2 : List (List D)} {T : List Ob} {x y : Ob}
theorem nG_0 : (nG rows T)[0]? = some (.buf 9 1 rows) := rfl
theorem nG_s0 : (nG rows T).set 0 (.buf 9 1 r2) = nG r2 T := rfl
theorem nG_app : nG rows T ++ [x] = nG rows (T ++ [x]) := rfl
theorem nG_len : (nG rows T).length = T.length + 1 := rfl
theorem nG_last : (nG rows (T ++ [x]))[T.length + 1]? = some x := by simp [nG]
end
theorem bl_eqV : ∀ (x y : List UInt8), Op.bytesLess x y = decide (x < y)
 | [], [] => by simp [Op.bytesLess]
 | _ :: _, [] => by simp [Op.bytesLess]
 | [], _ :: _ => by simp [Op.bytesLess]
 | a :: x, b :: y => by
  rw [Op.bytesLess, bl_eqV x y]
  by_cases h : a < b <;> by_cases h2 : a = b <;> simp [List.cons_lt_cons_iff, h, h2]
def Ris (l : List ByteArray) : Prop := l.Pairwise fun a b => J2 a b = true
theorem Zo0 {a b : ByteArray} : J2 a b = true ↔ a.toList < b.toList := by rw [J2, bl_eqV, decide_eq_true_eq]
theorem Yk8 : ∀ (l : List ByteArray) (p : ByteArray), Xj p l = true → (∀ x ∈ l, J2 p x = true) ∧ Ris l
 | [], _, _ => ⟨fun x hx => by simp at hx, List.Pairwise.nil⟩
 | y :: t, p, h => by
  rw [Xj, Z6] at h
  have ih := Yk8 t y h.2
  refine ⟨fun x hx => ?_, List.Pairwise.cons ih.1 ih.2⟩
  rcases List.mem_cons.1 hx with rfl | hx
  · exact h.1
  · exact Zo0.2 (List.lt_trans (Zo0.1 h.1) (Zo0.1 (ih.1 x hx)))
theorem ris_of {l : List ByteArray} (h : Wa l = true) : Ris l := by
 cases l with
 | nil => exact List.Pairwise.nil
 | cons x t => exact List.Pairwise.cons (Yk8 t x h).1 (Yk8 t x h).2
theorem Ris.at {l : List ByteArray} (h : Ris l) {i j : Nat} {x y : ByteArray} (hx : l[i]? = some x) (hy : l[j]? = some y) (hij : i < j) : (Op.bytesLess x.toList y.toList || decide (x = y)) = true := by
 obtain ⟨hi, rfl⟩ := Zb.1 hx
 obtain ⟨hj, rfl⟩ := Zb.1 hy
 have := Zw.1 h i j hi hj hij
 rw [J2] at this
 rw [this]; rfl
theorem Ris.new {l : List ByteArray} (h : Ris l) {k : Nat} {x : ByteArray} (hx : l[k]? = some x) : hasS (l.take k) x = false := by
 cases e : hasS (l.take k) x
 · rfl
 obtain ⟨i, hi, hix⟩ := Zv ((Xn _ _).1 e)
 have hik : i < k := by simp at hi; omega
 have hy : l[i]? = some x := by rw [← Zk hik, Z1 hi, hix]
 obtain ⟨h1, h2⟩ := Zb.1 hy
 obtain ⟨h3, h4⟩ := Zb.1 hx
 have := Zo0.1 (Zw.1 h i k h1 h3 hik)
 rw [h2, h4] at this
 exact absurd this (List.lt_irrefl _)
def U4 (a b : List ByteArray) : List ByteArray := a.filter fun s => !hasS b s
theorem minusS_ris {a : List ByteArray} (b : List ByteArray) (h : Ris a) : Ris (U4 a b) := List.Pairwise.filter _ h
theorem Yh1 (a b : List ByteArray) : decide ((U4 a b).length = 0) = Xm a b := by
 unfold U4 Xm
 induction a with
 | nil => rfl
 | cons x t ih =>
  rw [List.filter_cons, Zl, ← ih]
  cases hasS b x <;> simp
theorem getS1 (s : ByteArray) : getD Z3 9 (strX s) 0 = some (.v (.string s)) := by rw [getD_one aggT_9]; rfl
variable (G : Nat → D) (hG : ∀ g, low 0 (G g))
include hG
attribute [local go_sem] Za Zs Zt Zu Z7 Z5 Zm Zn Zc Zd Zo nG_0 nG_app nG_last nG_len nG_s0 Wi
attribute [local go_sem ↓] reduceIte
theorem sSorted_d (l : List ByteArray) (hl : l.length ≤ 9223372036854775807) (h : List Ob) : Does Z3 G 200 h [.sl 1 (l.map strX)] (fun h' r => h' = h ∧ r = .v (.bool (Wa l))) := by
 by_cases hsh : l.length ≤ 1
 · rw [Zu0 l hsh]
   refine Y6 Tryz.func200 rfl (Z0 rfl) hG fun hl0 _ => ?_
   simp only [Tryz.ntmps200]
   repeat' first
    | refine g0 ?_
    | fail
   refine Yh (fun m e h' => h' = h ∧ e 0 = .sl 1 (l.map strX) ∧ e 3 = .v (.int .i64 1)) l.length ⟨rfl, rfl, rfl⟩ ?_
   rintro m e h' ⟨rfl, e0, e3⟩
   have F : _ ∧ _ := ⟨e0, e3⟩
   repeat' first
    | (with_reducible refine Yc ?_; refine Y8 mixd (by kernel_rfl) ?_)
    | refine gg ?_
    | refine Two.mk (fun hq => ?_) fun hq => ?_
    | refine Evry.mk fun x hx => ?_
    | (exfalso; omega)
   all_goals first | (exfalso; omega) | exact ⟨.inr rfl, endV hl0 rfl rfl ⟨rfl, rfl⟩⟩
 obtain ⟨x0, t, rfl⟩ : ∃ x t, l = x :: t := by
  cases l with
  | nil => simp at hsh
  | cons x t => exact ⟨x, t, rfl⟩
 generalize hll : x0 :: t = l at *
 have h0 : Wa l = Xj (l[0]'(by omega)) (l.drop 1) := by subst hll; rfl
 refine Y6 Tryz.func200 rfl (Z0 rfl) hG fun hl0 _ => ?_
 simp only [Tryz.ntmps200]
 repeat' first
  | refine g0 ?_
  | fail
 refine Yh (fun m e h' => ∃ (k : Nat) (hk : k < l.length), m = l.length - k ∧ Wa l = Xj l[k] (l.drop (k + 1)) ∧ h' = h ∧ e 0 = .sl 1 (l.map strX) ∧ e 3 = .v (.int .i64 ((k : Int) + 1))) l.length ⟨0, by omega, rfl, h0, rfl, rfl, rfl⟩ ?_
 rintro m e h' ⟨k, hk, rfl, ho, rfl, e0, e3⟩
 by_cases hlt : k + 1 < l.length
 · have hx : l[k]? = some l[k] := Z1 (by omega)
   have hy : l[k + 1]? = some l[k + 1] := Z1 hlt
   rw [Zy2 l k hlt] at ho
   have wk : IntKind.i64.wrap ((k : Int) + 1 + 1) = (k : Int) + 1 + 1 := IntWalk.i64_in _ (by omega)
   have wm : IntKind.i64.wrap ((k : Int) + 1 - 1) = (k : Int) := by rw [show (k : Int) + 1 - 1 = (k : Int) by omega]; exact IntWalk.i64_in _ (by omega)
   have tk : ((k : Int) + 1).toNat = k + 1 := by omega
   unfold J2 at ho
   cases hlt2 : Op.bytesLess l[k].toList l[k + 1].toList
   · generalize l[k] = x at *
     generalize l[k + 1] = y at *
     have F : _ ∧ _ ∧ _ ∧ _ ∧ _ ∧ _ := ⟨e0, e3, wk, wm, tk, hlt2⟩
     repeat' first
      | (with_reducible refine Yc ?_; refine Y8 mixd (by kernel_rfl) ?_)
      | refine gg ?_
      | refine Two.mk (fun hq => ?_) fun hq => ?_
      | (exfalso; omega)
     exact ⟨by simp, endV hl0 rfl rfl ⟨rfl, by rw [ho, hlt2]; rfl⟩⟩
   · rw [hlt2, Bool.true_and] at ho
     generalize l[k] = x at *
     have hy' := hy
     generalize hyl : l[k + 1] = y at hy hlt2
     have F : _ ∧ _ ∧ _ ∧ _ ∧ _ ∧ _ := ⟨e0, e3, wk, wm, tk, hlt2⟩
     repeat' first
      | (with_reducible refine Yc ?_; refine Y8 mixd (by kernel_rfl) ?_)
      | refine gg ?_
      | refine Two.mk (fun hq => ?_) fun hq => ?_
      | (exfalso; omega)
     exact ⟨rfl, l.length - (k + 1), by omega, k + 1, hlt, rfl, ho, rfl, e0, rfl⟩
 · skip
   have F : _ ∧ _ := ⟨e0, e3⟩
   repeat' first
    | (with_reducible refine Yc ?_; refine Y8 mixd (by kernel_rfl) ?_)
    | refine gg ?_
    | refine Two.mk (fun hq => ?_) fun hq => ?_
    | refine Evry.mk fun x hx => ?_
    | (exfalso; omega)
   exact ⟨by simp, endV hl0 rfl rfl ⟨rfl, by rw [ho, Z4 (by omega)]; rfl⟩⟩
theorem sHas_b (l : List ByteArray) (c : ByteArray) (hl : l.length ≤ 1000000) {h : List Ob} {i n : Nat} (hi : h[i]? = some (.buf 9 1 (l.map strX))) (hn : l.length = n) : Does Z3 G 110 h [.buf i n, .v (.string c)] (fun h' r => h' = h ∧ r = .v (.bool (hasS l c))) :=
 Does.borrow hG hi (by rw [Z5]; exact hn) (by simp [lowL, low]) (Xw _ _) (sHas_d G hG l c (by omega) [])
theorem sOf0 (l : List ByteArray) (hr : Ris l) (hsz : l.length ≤ 1000000) : Does Z3 G 111 [] [.sl 1 (l.map strX)] (fun h' r => h' = [.buf 9 1 (l.map strX)] ∧ r = .buf 0 l.length) := by
 refine Does.only0 hG (Xw _ _) (K := fun h' r => ∃ i, h'[i]? = some (.buf 9 1 (l.map strX)) ∧ r = .buf i l.length) ?_ (fun _ _ h => h)
 refine Vo Tryz.func111 rfl (Z0 rfl) ?_
 simp only [Tryz.ntmps111]
 repeat' first
  | refine g0 ?_
  | fail
 refine Yh (fun m e h' => ∃ (k : Nat) (T : List Ob), k ≤ l.length ∧ m = l.length - k ∧ h' = nG ((l.take k).map strX) T ∧ e 0 = .sl 1 (l.map strX) ∧ e 3 = .buf 0 (l.take k).length ∧ e 4 = .v (.int .i64 k)) l.length ⟨0, [], Z9 _, rfl, rfl, rfl, rfl, rfl⟩ ?_
 rintro m e h' ⟨k, T, hk, rfl, rfl, e0, e3, e4⟩
 by_cases hlt : k < l.length
 rotate_left
 · obtain rfl : k = l.length := by omega
   rw [Z8 (Zz _)] at e3 ⊢
   have F : _ ∧ _ ∧ _ := ⟨e0, e3, e4⟩
   repeat' first
    | refine gg ?_
    | refine Two.mk (fun hq => ?_) fun hq => ?_
    | refine Evry.mk fun x hx => ?_
    | (exfalso; omega)
   exact ⟨.inr rfl, [.buf 0 l.length], rfl, 0, rfl, rfl⟩
 have hx : l[k]? = some l[k] := Z1 hlt
 generalize l[k] = x at hx
 have htk : (l.take (k + 1)).map strX = (l.take k).map strX ++ [strX x] := by rw [Zx, hx]; simp
 have hno := hr.new hx
 have hkl : (l.take k).length = k := by rw [Ze]; omega
 have wk : IntKind.i64.wrap ((k : Int) + 1) = (k : Int) + 1 := IntWalk.i64_in _ (by omega)
 have w5 : IntKind.i64.wrap (((k + 1 : Nat) : Int) - 1) = (k : Int) := by rw [show (((k + 1 : Nat) : Int) - 1) = (k : Int) by omega]; exact IntWalk.i64_in _ (by omega)
 have hb : ∀ T, Does Z3 G 110 (nG ((l.take k).map strX) T) [.buf 0 (l.take k).length, .v (.string x)] (fun h' r => h' = nG ((l.take k).map strX) T ∧ r = .v (.bool false)) := fun T => hno ▸ sHas_b G hG (l.take k) x (by omega) nG_0 rfl
 generalize hP : l.take k = P at *
 have F : _ ∧ _ ∧ _ ∧ _ := ⟨e0, e3, e4, wk⟩
 repeat' first
  | (with_reducible refine Y7 ?_; refine Xy rfl rfl rfl rfl (by (simp only [go_sem, F]; rfl)) (by simp) (by simp only [go_sem, F]; rfl) (by (simp only [go_sem, F]; rfl)) (by simp) (by (simp [Yz, D.one, Value.oneCell']; done)) (by (simp; omega)) ?_)
  | refine gg ?_
  | refine Two.mk (fun hq => ?_) fun hq => ?_
  | (with_reducible refine Y7 ?_; refine gc rfl rfl rfl Zn0 (hb _) ?_)
  | (exfalso; omega)
 refine Yh (fun m e h' => ∃ U : List Ob, h' = nG ((l.take (k + 1)).map strX) U ∧ e 0 = .sl 1 (l.map strX) ∧ e 3 = .buf 0 (k + 1) ∧ e 4 = .v (.int .i64 k) ∧ e 5 = .v (.int .i64 k)) 0 ⟨_, by rw [htk]; rfl, e0, by show D.buf 0 (P.length + 1) = _; rw [hkl], e4, by show D.v (.int .i64 (IntKind.i64.wrap (((P.length + 1 : Nat) : Int) - 1))) = _; rw [hkl, w5]⟩ ?_
 clear e0 e3 e4 w5
 rintro m e h' ⟨U, rfl, e0, e3, e4, e5⟩
 have hrl : ((l.take (k + 1)).map strX).length = k + 1 := by rw [Z5, Ze]; omega
 rcases Nat.eq_zero_or_pos k with h0 | h0
 · subst h0
   have F : _ ∧ _ ∧ _ ∧ _ := ⟨e0, e3, e4, e5⟩
   repeat' first
    | (with_reducible refine Yc ?_; refine Y8 mixd (by kernel_rfl) ?_)
    | refine gg ?_
    | refine Two.mk (fun hq => ?_) fun hq => ?_
    | (exfalso; omega)
   all_goals first | (exfalso; omega) | exact ⟨rfl, l.length - 1, by omega, 1, U, by omega, rfl, rfl, e0, by show e 3 = _; rw [e3, ← hrl, Z5], rfl⟩
 obtain ⟨j, rfl⟩ : ∃ j, k = j + 1 := ⟨k - 1, by omega⟩
 have hy : l[j]? = some l[j] := Z1 (by omega)
 generalize l[j] = y at hy
 have hless := hr.at hy hx (Nat.lt_succ_self j)
 have gp : decide ((0 : Int) < ((j + 1 : Nat) : Int)) = true := decide_eq_true (by omega)
 have wm : IntKind.i64.wrap (((j + 1 : Nat) : Int) - 1) = (j : Int) := by rw [show ((j + 1 : Nat) : Int) - 1 = (j : Int) by omega]; exact IntWalk.i64_in _ (by omega)
 have hyr : ((l.take (j + 1 + 1)).map strX)[((j : Nat) : Int).toNat]? = some (strX y) := by rw [Z7, Zr, Zk (by omega), hy]; rfl
 have hxr : ((l.take (j + 1 + 1)).map strX)[((j + 1 : Nat) : Int).toNat]? = some (strX x) := by rw [Z7, Zr, Zk (by omega), hx]; rfl
 have hlq : (l.take (j + 1 + 1)).length = j + 1 + 1 := by rw [Z5] at hrl; exact hrl
 generalize hrw : (l.take (j + 1 + 1)).map strX = rows at *
 have F : _ ∧ _ ∧ _ ∧ _ ∧ _ ∧ _ ∧ _ ∧ _ := ⟨e0, e3, e4, e5, wk, wm, gp, hless⟩
 repeat' first
  | (with_reducible refine Yc ?_; refine Xc mixd (by kernel_rfl) ?_)
  | ((with_reducible refine Up ?_); first | (refine aS_idxB rfl rfl rfl rfl nG_0 hrl (by rw [elT_22]; exact szT_9) (by omega) (by omega) ?_) | (refine Zx2 rfl rfl rfl nG_0 hrl hyr (getS1 _) ?_) | (refine Zx2 rfl rfl rfl nG_0 hrl hxr (getS1 _) ?_) | (refine aS1 rfl rfl fun K HK => ?_; (first | refine Yi rfl ?_ | skip); simp only [go_sem, F] <;> (refine HK _ _ rfl ?_; clear HK K)) | refine V2 (by simp only [List.reverse_cons, List.reverse_nil, List.nil_append, List.cons_append, Wd, chk1]; repeat' (first | exact trivial | refine And.intro ?_ ?_ | exact .inr Yw | exact .inr X0 | exact .inr X4)) ?_)
  | refine g0 ?_
  | fail
 exact ⟨rfl, l.length - (j + 1 + 1), by omega, j + 1 + 1, U, by omega, rfl, hrw.symm ▸ rfl, e0, by show e 3 = _; rw [e3, hlq], rfl⟩
end
section
attribute [local irreducible] on aOp
attribute [local go_sem] decide_true decide_false Zj Zh
attribute [local simp] byD_len
theorem Zi3 (r : Rl) : Zo3 r = [.sl 1 (r.cond.map strX), .v (.string r.concl)] := rfl
def gM (A : Ob) (T : List Ob) : List Ob := A :: T
section
variable {A y y' : Ob} {T l : List Ob}
theorem gM_0 : (gM A T)[0]? = some A := rfl
theorem gM_len : (gM A T).length = T.length + 1 := rfl
theorem gM_app : gM A T ++ l = gM A (T ++ l) := rfl
theorem gM_l : (gM A (T ++ [y]))[T.length + 1]? = some y := by simp [gM]
theorem gM_sl : (gM A (T ++ [y])).set (T.length + 1) y' = gM A (T ++ [y']) := by simp [gM]
end
variable (G : Nat → D) (hG : ∀ g, low 0 (G g))
include hG
theorem rShape_d (l : Lat) (hsm : Sm l) (h : List Ob) : Does Z3 G 196 h [.agg (latX l)] (fun h' r => h' = h ∧ r = .v (.bool (!Wx l))) := by
 refine Y9 G hG (Wu _ l) (by rw [low]; trivial) ?_ h
 clear h
 unfold Wx
 have hpl := hsm.parts
 have hnl := hsm.names
 have hrl := hsm.rules
 generalize hkk : l.kind = k
 generalize hlo : l.lo = lo
 generalize hhi : l.hi = hi
 generalize hnn : l.names.length = nn at *
 generalize hnp : l.parts.length = np at *
 generalize hnr : l.rules.length = nr at *
 refine Y6 Tryz.func196 rfl (Z0 rfl) hG fun hl0 _ => ?_
 simp only [Tryz.ntmps196]
 repeat' first
  | (with_reducible first | refine sA rfl ?_ | refine sI rfl rfl ?_ | refine sT rfl ?_ | refine sB rfl ?_)
  | (with_reducible refine Y7 ?_; first | refine Yn ?_ | (refine ao1 rfl rfl fun K HK => ?_; (first | refine Yi rfl ?_ | skip); simp only [go_sem, ↓reduceIte, Zc, Zm, Zd, Zn, Zo, Zs, Zu, Zt, Y4, Z5, hkk, hlo, hhi, hnn, hnp, hnr, Za]; (first | refine Ym (fun hq => ?_) (fun hq => ?_) | refine Ze5 (fun hq => ?_) (fun hq => ?_) | skip) <;> (refine HK _ _ ?_; clear HK K)) | refine ao0 rfl rfl ?_)
  | (exfalso; omega)
 all_goals first | (exfalso; omega) | refine ⟨.inr rfl, endV hl0 rfl rfl ⟨rfl, congrArg (fun b => D.v (.bool b)) ?_⟩⟩
 all_goals
  clear hl0
  rw [Zp]
  first
  | (rw [Zo1 (by omega) (by omega) (by omega)]; simp; done)
  | (rw [Ze8 (by omega) (by omega)]; simp; done)
  | (rw [Zy7 (by omega)]; simp; done)
  | (simp_all [Za5, Vk]; done)
  | (simp_all [Za5, Vk]; omega)
end
section
attribute [local irreducible] on aOp
attribute [local go_sem] decide_true decide_false Zj Zh
attribute [local simp] byD_len
def bM (A : Ob) (T : List Ob) : List Ob := A :: T
section
variable {A B y y' : Ob} {T l : List Ob}
theorem bM_0 : (bM A T)[0]? = some A := rfl
theorem bM_s0 : (bM A T).set 0 B = bM B T := rfl
theorem bM_len : (bM A T).length = T.length + 1 := rfl
theorem bM_app : bM A T ++ l = bM A (T ++ l) := rfl
theorem bM_l : (bM A (T ++ [y]))[T.length + 1]? = some y := by simp [bM]
theorem bM_sl : (bM A (T ++ [y])).set (T.length + 1) y' = bM A (T ++ [y']) := by simp [bM]
end
theorem Jj (m : Nat) (l : List Tk) : low m (.sl 2 (l.map tkX)) := Vj m l fun x _ => low_tk m x
theorem low_ens2 (m : Nat) (l : List En) : low m (.sl 2 (l.map enX)) := Vj m l fun x _ => Zu5 m x
theorem clock_go {c : List Tk} {k : Nat} {x : Tk} {p : Int} (h : c.drop k = x :: c.drop (k + 1)) : Yx p (c.drop k) = (Ye7 p x && Yx x.process (c.drop (k + 1))) := by rw [h, Yx]
variable (G : Nat → D) (hG : ∀ g, low 0 (G g))
include hG
attribute [local go_sem] Za Zs Zt Zu Z7 Z5 Zm Zn Zc Zd Zo Zi3 Wi tM_app tM_l tM_len tM_sl Zx9
attribute [local go_sem ↓] reduceIte
theorem Zn5 (v : Val) (hv : VSm v) (n li pa en : Bool) (h : List Ob) : Does Z3 G 157 h [.agg (vaX v), .v (.bool n), .v (.bool li), .v (.bool pa), .v (.bool en)] (fun h' r => h' = h ∧ r = .v (.bool (Vi v n li pa en))) := by
 refine Y9 G hG (by simp only [lowL, low]; exact ⟨Yb _ v, trivial, trivial, trivial, trivial, trivial⟩) (by rw [low]; trivial) ?_ h
 clear h
 have h1 := hv.names
 have h2 := hv.parts
 have h3 := hv.entries
 unfold Vi
 generalize hn : v.n = m
 generalize hx : v.names.length = a at *
 generalize hy : v.parts.length = b at *
 generalize hz : v.entries.length = c at *
 refine Y6 Tryz.func157 rfl (Z0 rfl) hG fun hl0 _ => ?_
 simp only [Tryz.ntmps157]
 cases n <;> cases li <;> cases pa <;> cases en
 all_goals
  skip
  have F : _ ∧ _ ∧ _ ∧ _ ∧ _ := ⟨Y5, hn, hx, hy, hz⟩
  repeat' first
   | refine gg ?_
   | refine Two.mk (fun hq => ?_) fun hq => ?_
  all_goals first | (exfalso; omega) | refine ⟨.inr rfl, endV hl0 rfl rfl ⟨rfl, congrArg (fun b => D.v (.bool b)) ?_⟩⟩
  all_goals
   clear hl0
   rw [Zp]
   simp
   try omega
theorem allowed_d (only list : List ByteArray) (ho : only.length ≤ 9223372036854775807) (hl : list.length ≤ 9223372036854775807) (hs : ∀ s ∈ list, s.size ≤ 9223372036854775807) (h : List Ob) : Does Z3 G 158 h [.sl 1 (only.map strX), .sl 1 (list.map strX)] (fun h' r => h' = h ∧ r = .v (.bool (Yf only list))) := by
 refine Y9 G hG (by simp only [lowL]; exact ⟨Xw _ only, Xw _ list, trivial⟩) (by rw [low]; trivial) ?_ h
 clear h
 unfold Yf
 have hso := Zy5 G hG list hl
 refine Y6 Tryz.func158 rfl (Z0 rfl) hG fun hl0 _ => ?_
 simp only [Tryz.ntmps158]
 cases hsb : Wa list <;> rw [hsb] at hso
 · skip
   repeat' first
    | refine g0 ?_
    | (with_reducible refine Y7 ?_; refine gc rfl rfl rfl Zh0 (hso _) ?_)
   exact ⟨.inr rfl, endV hl0 rfl rfl ⟨rfl, rfl⟩⟩
 rw [Bool.true_and]
 repeat' first
  | refine g0 ?_
  | (with_reducible refine Y7 ?_; refine gc rfl rfl rfl Zh0 (hso _) ?_)
 refine Yh (fun m e h' => ∃ k : Nat, k ≤ list.length ∧ m = list.length - k ∧ list.all (memB only) = (list.drop k).all (memB only) ∧ h' = [] ∧ e 0 = .sl 1 (only.map strX) ∧ e 10 = .sl 1 (list.map strX) ∧ e 11 = .v (.int .i64 list.length) ∧ e 12 = .v (.int .i64 k)) list.length ⟨0, Z9 _, rfl, rfl, rfl, rfl, rfl, rfl, rfl⟩ ?_
 rintro m e h' ⟨k, hk, rfl, hh, rfl, e0, e10, e11, e12⟩
 by_cases hlt : k < list.length
 · have hx : list[k]? = some list[k] := Z1 hlt
   have wk : IntKind.i64.wrap ((k : Int) + 1) = ((k + 1 : Nat) : Int) := IntWalk.i64_in _ (by omega)
   rw [Z2 hlt, Zl] at hh
   have hn := Zm1 G hG list[k] (hs _ (Zf hlt))
   generalize list[k] = x at hx hn hh
   have hha := hasS_d G hG only x ho
   have em : memB only x = (Wm x && (decide (only.length = 0) || hasS only x)) := rfl
   cases hnb : Wm x <;> rw [hnb] at hn em
   · rw [em] at hh
     rw [hh]
     have F : _ ∧ _ ∧ _ ∧ _ ∧ _ := ⟨e0, e10, e11, e12, wk⟩
     repeat' first
      | refine gg ?_
      | refine Two.mk (fun hq => ?_) fun hq => ?_
      | (with_reducible refine Y7 ?_; refine gc rfl rfl rfl Ur (hn _) ?_)
      | (exfalso; omega)
     exact ⟨.inr rfl, endV hl0 rfl rfl ⟨rfl, rfl⟩⟩
   by_cases hz : only.length = 0
   · rw [em, decide_eq_true hz] at hh
     have F : _ ∧ _ ∧ _ ∧ _ ∧ _ := ⟨e0, e10, e11, e12, wk⟩
     repeat' first
      | refine gg ?_
      | refine Two.mk (fun hq => ?_) fun hq => ?_
      | (with_reducible refine Y7 ?_; refine gc rfl rfl rfl Ur (hn _) ?_)
      | (exfalso; omega)
     all_goals first | (exfalso; omega) | exact ⟨rfl, list.length - (k + 1), by omega, k + 1, hlt, rfl, hh, rfl, e0, e10, e11, rfl⟩
   · rw [em, decide_eq_false hz] at hh
     cases hhb : hasS only x <;> rw [hhb] at hha hh
     · rw [hh]
       have F : _ ∧ _ ∧ _ ∧ _ ∧ _ := ⟨e0, e10, e11, e12, wk⟩
       repeat' first
        | refine gg ?_
        | refine Two.mk (fun hq => ?_) fun hq => ?_
        | (with_reducible refine Y7 ?_; first | refine gc rfl rfl rfl Ur (hn _) ?_ | refine gc rfl rfl rfl Zh2 (hha _) ?_)
        | (exfalso; omega)
       all_goals first | (exfalso; omega) | exact ⟨.inr rfl, endV hl0 rfl rfl ⟨rfl, rfl⟩⟩
     · skip
       have F : _ ∧ _ ∧ _ ∧ _ ∧ _ := ⟨e0, e10, e11, e12, wk⟩
       repeat' first
        | refine gg ?_
        | refine Two.mk (fun hq => ?_) fun hq => ?_
        | (with_reducible refine Y7 ?_; first | refine gc rfl rfl rfl Ur (hn _) ?_ | refine gc rfl rfl rfl Zh2 (hha _) ?_)
        | (exfalso; omega)
       all_goals first | (exfalso; omega) | exact ⟨rfl, list.length - (k + 1), by omega, k + 1, hlt, rfl, hh, rfl, e0, e10, e11, rfl⟩
 · rw [Z4 (by omega)] at hh
   rw [hh]
   have F : _ ∧ _ ∧ _ ∧ _ := ⟨e0, e10, e11, e12⟩
   repeat' first
    | refine gg ?_
    | refine Two.mk (fun hq => ?_) fun hq => ?_
    | refine Evry.mk fun x hx => ?_
    | (exfalso; omega)
   exact ⟨.inr rfl, endV hl0 rfl rfl ⟨rfl, rfl⟩⟩
theorem closed_d (rs : List Rl) (list : List ByteArray) (hr : rs.length ≤ 9223372036854775807) (hc : ∀ r ∈ rs, r.cond.length ≤ 9223372036854775807) (hl : list.length ≤ 9223372036854775807) (h : List Ob) : Does Z3 G 159 h [.sl 2 (rs.map Zo3), .sl 1 (list.map strX)] (fun h' r => h' = h ∧ r = .v (.bool (V4 rs list))) := by
 refine Y9 G hG (by simp only [lowL]; exact ⟨Ya7 _ rs, Xw _ list, trivial⟩) (by rw [low]; trivial) ?_ h
 clear h
 unfold V4
 refine Y6 Tryz.func159 rfl (Z0 rfl) hG fun hl0 _ => ?_
 simp only [Tryz.ntmps159]
 repeat' first
  | refine g0 ?_
  | fail
 refine Yh (fun m e h' => ∃ (k : Nat) (T : List Ob), k ≤ rs.length ∧ m = rs.length - k ∧ (rs.all fun r => !Xm r.cond list || hasS list r.concl) = ((rs.drop k).all fun r => !Xm r.cond list || hasS list r.concl) ∧ h' = tM T ∧ e 1 = .sl 1 (list.map strX) ∧ e 7 = .sl 2 (rs.map Zo3) ∧ e 8 = .v (.int .i64 rs.length) ∧ e 9 = .v (.int .i64 k)) rs.length ⟨0, [], Z9 _, rfl, rfl, rfl, rfl, rfl, rfl, rfl⟩ ?_
 rintro m e h' ⟨k, T, hk, rfl, hh, rfl, e1, e7, e8, e9⟩
 by_cases hlt : k < rs.length
 · have hx : rs[k]? = some rs[k] := Z1 hlt
   have wk : IntKind.i64.wrap ((k : Int) + 1) = ((k + 1 : Nat) : Int) := IntWalk.i64_in _ (by omega)
   rw [Z2 hlt, Zl] at hh
   have hc := hc _ (Zf hlt)
   generalize rs[k] = x at hx hh hc
   have hsu := Zn8 G hG x.cond list hc hl
   have hha := hasS_d G hG list x.concl hl
   cases hb1 : Xm x.cond list <;> rw [hb1] at hsu hh
   · skip
     have F : _ ∧ _ ∧ _ ∧ _ ∧ _ := ⟨e1, e7, e8, e9, wk⟩
     repeat' first
      | refine gg ?_
      | refine Two.mk (fun hq => ?_) fun hq => ?_
      | (with_reducible refine Y7 ?_; refine gc rfl rfl rfl Zh3 (hsu _) ?_)
      | (exfalso; omega)
     exact ⟨rfl, rs.length - (k + 1), by omega, k + 1, _, hlt, rfl, hh, rfl, e1, e7, e8, rfl⟩
   · cases hb2 : hasS list x.concl <;> rw [hb2] at hha hh
     · rw [hh]
       have F : _ ∧ _ ∧ _ ∧ _ ∧ _ := ⟨e1, e7, e8, e9, wk⟩
       repeat' first
        | refine gg ?_
        | refine Two.mk (fun hq => ?_) fun hq => ?_
        | (with_reducible refine Y7 ?_; first | refine gc rfl rfl rfl Zh3 (hsu _) ?_ | refine gc rfl rfl rfl Zh2 (hha _) ?_)
        | (exfalso; omega)
       exact ⟨.inr rfl, endV hl0 rfl rfl ⟨rfl, rfl⟩⟩
     · skip
       have F : _ ∧ _ ∧ _ ∧ _ ∧ _ := ⟨e1, e7, e8, e9, wk⟩
       repeat' first
        | refine gg ?_
        | refine Two.mk (fun hq => ?_) fun hq => ?_
        | (with_reducible refine Y7 ?_; first | refine gc rfl rfl rfl Zh3 (hsu _) ?_ | refine gc rfl rfl rfl Zh2 (hha _) ?_)
        | (exfalso; omega)
       exact ⟨rfl, rs.length - (k + 1), by omega, k + 1, _, hlt, rfl, hh, rfl, e1, e7, e8, rfl⟩
 · rw [Z4 (by omega)] at hh
   rw [hh]
   have F : _ ∧ _ ∧ _ ∧ _ := ⟨e1, e7, e8, e9⟩
   repeat' first
    | refine gg ?_
    | refine Two.mk (fun hq => ?_) fun hq => ?_
    | refine Evry.mk fun x hx => ?_
    | (exfalso; omega)
   exact ⟨.inr rfl, endV hl0 rfl rfl ⟨rfl, rfl⟩⟩
theorem Ul (c : List Tk) (hc : c.length ≤ 9223372036854775807) (h : List Ob) : Does Z3 G 218 h [.sl 2 (c.map tkX)] (fun h' r => h' = h ∧ r = .v (.bool (X2 c))) := by
 refine Y9 G hG (by simp only [lowL]; exact ⟨Jj _ c, trivial⟩) (by rw [low]; trivial) ?_ h
 clear h
 unfold X2
 refine Y6 Tryz.func218 rfl (Z0 rfl) hG fun hl0 _ => ?_
 simp only [Tryz.ntmps218]
 repeat' first
  | refine g0 ?_
  | fail
 refine Yh (fun m e h' => ∃ (k : Nat) (p : Int) (T : List Ob), k ≤ c.length ∧ m = c.length - k ∧ Yx (-1) c = Yx p (c.drop k) ∧ h' = tM T ∧ e 3 = .v (.int .i64 p) ∧ e 6 = .sl 2 (c.map tkX) ∧ e 7 = .v (.int .i64 c.length) ∧ e 8 = .v (.int .i64 k)) c.length ⟨0, -1, [], Z9 _, rfl, rfl, rfl, rfl, rfl, rfl, rfl⟩ ?_
 rintro m e h' ⟨k, p, T, hk, rfl, hh, rfl, e3, e6, e7, e8⟩
 by_cases hlt : k < c.length
 · have hx : c[k]? = some c[k] := Z1 hlt
   have wk : IntKind.i64.wrap ((k : Int) + 1) = ((k + 1 : Nat) : Int) := IntWalk.i64_in _ (by omega)
   rw [clock_go (Z2 hlt)] at hh
   generalize c[k] = x at hx hh
   have F : _ ∧ _ ∧ _ ∧ _ ∧ _ := ⟨e3, e6, e7, e8, wk⟩
   repeat' first
    | refine gg ?_
    | refine Two.mk (fun hq => ?_) fun hq => ?_
    | (exfalso; omega)
   all_goals first
   | (exfalso; omega)
   | exact ⟨rfl, c.length - (k + 1), by omega, k + 1, x.process, _, hlt, rfl, by rw [hh, Ye7, decide_eq_true (by omega)]; rfl, rfl, rfl, e6, e7, rfl⟩
   | exact ⟨.inr rfl, endD (r := .v (.bool false)) hl0 rfl (by simp) (by simp) rfl (by rw [low]; trivial) ⟨rfl, by rw [hh, Ye7, decide_eq_false (by omega)]; rfl⟩⟩
 · rw [Z4 (by omega)] at hh
   rw [hh]
   have F : _ ∧ _ ∧ _ ∧ _ := ⟨e3, e6, e7, e8⟩
   repeat' first
    | refine gg ?_
    | refine Two.mk (fun hq => ?_) fun hq => ?_
    | refine Evry.mk fun x hx => ?_
    | (exfalso; omega)
   exact ⟨.inr rfl, endV hl0 rfl rfl ⟨rfl, rfl⟩⟩
theorem minusCh_d (m n : Int) (h : List Ob) : Does Z3 G 257 h [.v (.int .i64 m), .v (.int .i64 n)] (fun h' r => h' = h ∧ r = .v (.int .i64 (Zm3 m n))) := by
 unfold Zm3
 refine Y6 Tryz.func257 rfl (Z0 rfl) hG fun hl0 _ => ?_
 simp only [Tryz.ntmps257]
 repeat' first
  | refine gg ?_
  | refine Two.mk (fun hq => ?_) fun hq => ?_
 all_goals exact ⟨.inr rfl, endV hl0 rfl rfl ⟨rfl, by first | rw [if_pos (by omega)] | rw [if_neg (by omega)]⟩⟩
end
section
attribute [local irreducible] on aOp
attribute [local go_sem] decide_true decide_false Zj Zh
attribute [local simp] byD_len
theorem minusS_step {a b : List ByteArray} {k : Nat} {x : ByteArray} (hx : a[k]? = some x) : U4 (a.take (k + 1)) b = U4 (a.take k) b ++ (if hasS b x then [] else [x]) := by
 unfold U4
 rw [Zx, hx, Option.toList_some, List.filter_append]
 cases h : hasS b x <;> simp [h]
theorem Yh2 (a b : List ByteArray) : (U4 a b).length ≤ a.length := List.length_filter_le _ _
variable (G : Nat → D) (hG : ∀ g, low 0 (G g))
include hG
theorem sOf_b (l : List ByteArray) (hr : Ris l) (hsz : l.length ≤ 1000000) {h : List Ob} {i n : Nat} (hi : h[i]? = some (.buf 9 1 (l.map strX))) (hn : l.length = n) : Does Z3 G 111 h [.buf i n] (fun h' r => h' = h.set i .dead ++ [.buf 9 1 (l.map strX)] ∧ r = .buf (h.set i .dead).length l.length) :=
 Does.give1c hi (by rw [Z5]; exact hn) (does_newR hG (Xw _ _) (by rw [lowL, lowL]; exact ⟨Xw _ _, trivial⟩) (sOf0 G hG l hr hsz) _)
attribute [local go_sem] Za Zs Zt Zu Z7 Z5 Zm Zn Zc Zd Zo nG_0 nG_app nG_last nG_len nG_s0 Zi3 Wi
attribute [local go_sem ↓] reduceIte
theorem sMinus0 (a b : List ByteArray) (hr : Ris a) (ha : a.length ≤ 1000000) (hb : b.length ≤ 1000000) : Does Z3 G 52 [] [.sl 1 (a.map strX), .sl 1 (b.map strX)] (fun h' r => h' = [.buf 9 1 ((U4 a b).map strX)] ∧ r = .buf 0 (U4 a b).length) := by
 refine Does.only0 hG (Xw _ _) (K := fun h' r => ∃ i, h'[i]? = some (.buf 9 1 ((U4 a b).map strX)) ∧ r = .buf i (U4 a b).length) ?_ (fun _ _ h => h)
 refine Vo Tryz.func52 rfl (Z0 rfl) ?_
 simp only [Tryz.ntmps52]
 repeat' first
  | refine g0 ?_
  | fail
 refine Yh (fun m e h' => ∃ (k : Nat) (T : List Ob), k ≤ a.length ∧ m = a.length - k ∧ h' = nG ((U4 (a.take k) b).map strX) T ∧ e 0 = .sl 1 (a.map strX) ∧ e 1 = .sl 1 (b.map strX) ∧ e 5 = .buf 0 (U4 (a.take k) b).length ∧ e 6 = .v (.int .i64 k)) a.length ⟨0, [], Z9 _, rfl, rfl, rfl, rfl, rfl, rfl⟩ ?_
 rintro m e h' ⟨k, T, hk, rfl, rfl, e0, e1, e5, e6⟩
 by_cases hlt : k < a.length
 rotate_left
 · have hml := Yh2 a b
   rw [Z8 (by omega)] at e5 ⊢
   have hof := fun T => sOf_b G hG (U4 a b) (minusS_ris b hr) (by omega) (h := nG ((U4 a b).map strX) T) nG_0 rfl
   have F : _ ∧ _ ∧ _ ∧ _ := ⟨e0, e1, e5, e6⟩
   repeat' first
    | refine gg ?_
    | refine Two.mk (fun hq => ?_) fun hq => ?_
    | refine Evry.mk fun x hx => ?_
    | (with_reducible refine Y7 ?_; refine gc rfl rfl rfl ent_111 (hof _) ?_)
    | (exfalso; omega)
   exact ⟨.inr rfl, [.buf ((nG ((U4 a b).map strX) T).set 0 .dead).length (U4 a b).length], rfl, ((nG ((U4 a b).map strX) T).set 0 .dead).length, by simp, rfl⟩
 have hx : a[k]? = some a[k] := Z1 hlt
 generalize a[k] = x at hx
 have hst := minusS_step (b := b) hx
 have hh := sHas_d G hG b x (by omega)
 have wk : IntKind.i64.wrap ((k : Int) + 1) = (k : Int) + 1 := IntWalk.i64_in _ (by omega)
 have hpl := Yh2 (a.take k) b
 rw [Ze] at hpl
 generalize U4 (a.take k) b = p at *
 cases hxb : hasS b x <;> rw [hxb] at hh hst
 · skip
   have F : _ ∧ _ ∧ _ ∧ _ ∧ _ := ⟨e0, e1, e5, e6, wk⟩
   repeat' first
    | (with_reducible refine Y7 ?_; refine Xy rfl rfl rfl rfl (by (simp only [go_sem, F]; rfl)) (by simp) (by simp only [go_sem, F]; rfl) (by (simp only [go_sem, F]; rfl)) (by simp) (by (simp [Yz, D.one, Value.oneCell']; done)) (by (simp; omega)) ?_)
    | refine gg ?_
    | refine Two.mk (fun hq => ?_) fun hq => ?_
    | (with_reducible refine Y7 ?_; refine gc rfl rfl rfl Zn0 (hh _) ?_)
    | (exfalso; omega)
   exact ⟨rfl, a.length - (k + 1), by omega, k + 1, _, hlt, rfl, by rw [hst, if_neg (by simp), List.map_append]; rfl, e0, e1, by rw [hst, if_neg (by simp)]; simp [upd], rfl⟩
 · skip
   have F : _ ∧ _ ∧ _ ∧ _ ∧ _ := ⟨e0, e1, e5, e6, wk⟩
   repeat' first
    | refine gg ?_
    | refine Two.mk (fun hq => ?_) fun hq => ?_
    | (with_reducible refine Y7 ?_; refine gc rfl rfl rfl Zn0 (hh _) ?_)
    | (exfalso; omega)
   exact ⟨rfl, a.length - (k + 1), by omega, k + 1, _, hlt, rfl, by rw [hst, if_pos rfl, List.append_nil], e0, e1, by rw [hst, if_pos rfl, List.append_nil]; exact e5, rfl⟩
theorem sSubset_d (a b : List ByteArray) (hr : Ris a) (ha : a.length ≤ 1000000) (hb : b.length ≤ 1000000) (h : List Ob) : Does Z3 G 108 h [.sl 1 (a.map strX), .sl 1 (b.map strX)] (fun h' r => h' = h ∧ r = .v (.bool (Xm a b))) := by
 have hm := Does.gave0 hG (Xw _ _) (by rw [lowL, lowL, lowL]; exact ⟨Xw _ _, Xw _ _, trivial⟩) (by rw [Z5]) (sMinus0 G hG a b hr ha hb)
 refine Y6 Tryz.func108 rfl (Z0 rfl) hG fun hl0 _ => ?_
 simp only [Tryz.ntmps108]
 repeat' first
  | refine gg ?_
  | refine Two.mk (fun hq => ?_) fun hq => ?_
  | (with_reducible refine Y7 ?_; refine gc rfl rfl rfl ent_52 (hm _) ?_)
 · exact ⟨.inr rfl, endV hl0 rfl rfl ⟨rfl, by rw [← Yh1, decide_eq_true (by omega)]⟩⟩
 · exact ⟨.inr rfl, endV hl0 rfl rfl ⟨rfl, by rw [← Yh1, decide_eq_false (by omega)]⟩⟩
theorem rmembers_d (only list : List ByteArray) (ho : only.length ≤ 9223372036854775807) (hl : list.length ≤ 9223372036854775807) (hs : ∀ s ∈ list, s.size ≤ 9223372036854775807) (h : List Ob) : Does Z3 G 135 h [.sl 1 (only.map strX), .sl 1 (list.map strX)] (fun h' r => h' = h ∧ r = .v (.bool (Yf only list))) := by
 refine Y9 G hG (by simp only [lowL]; exact ⟨Xw _ only, Xw _ list, trivial⟩) (by rw [low]; trivial) ?_ h
 clear h
 unfold Yf
 have hso := sSorted_d G hG list hl
 refine Y6 Tryz.func135 rfl (Z0 rfl) hG fun hl0 _ => ?_
 simp only [Tryz.ntmps135]
 repeat' first
  | refine g0 ?_
  | fail
 refine Yh (fun m e h' => ∃ k : Nat, k ≤ list.length ∧ m = list.length - k ∧ list.all (memB only) = (list.drop k).all (memB only) ∧ h' = [] ∧ e 0 = .sl 1 (only.map strX) ∧ e 1 = .sl 1 (list.map strX) ∧ e 5 = .v (.int .i64 k)) list.length ⟨0, Z9 _, rfl, rfl, rfl, rfl, rfl, rfl⟩ ?_
 rintro m e h' ⟨k, hk, rfl, hh, rfl, e0, e1, e5⟩
 by_cases hlt : k < list.length
 · have hx : list[k]? = some list[k] := Z1 hlt
   have wk : IntKind.i64.wrap ((k : Int) + 1) = ((k + 1 : Nat) : Int) := IntWalk.i64_in _ (by omega)
   rw [Z2 hlt, Zl] at hh
   have hn := sValid_d G hG list[k] (hs _ (Zf hlt))
   generalize list[k] = x at hx hn hh
   have hha := sHas_d G hG only x ho
   have em : memB only x = (Wm x && (decide (only.length = 0) || hasS only x)) := rfl
   cases hnb : Wm x <;> rw [hnb] at hn em
   · rw [em] at hh
     rw [hh]
     have F : _ ∧ _ ∧ _ ∧ _ := ⟨e0, e1, e5, wk⟩
     repeat' first
      | refine gg ?_
      | refine Two.mk (fun hq => ?_) fun hq => ?_
      | (with_reducible refine Y7 ?_; refine gc rfl rfl rfl Zh1 (hn _) ?_)
      | (exfalso; omega)
     exact ⟨.inr rfl, endV hl0 rfl rfl ⟨rfl, by simp⟩⟩
   by_cases hz : only.length = 0
   · rw [em, decide_eq_true hz] at hh
     have F : _ ∧ _ ∧ _ ∧ _ := ⟨e0, e1, e5, wk⟩
     repeat' first
      | refine gg ?_
      | refine Two.mk (fun hq => ?_) fun hq => ?_
      | (with_reducible refine Y7 ?_; refine gc rfl rfl rfl Zh1 (hn _) ?_)
      | (exfalso; omega)
     all_goals first | (exfalso; omega) | exact ⟨rfl, list.length - (k + 1), by omega, k + 1, hlt, rfl, hh, rfl, e0, e1, rfl⟩
   · rw [em, decide_eq_false hz] at hh
     cases hhb : hasS only x <;> rw [hhb] at hha hh
     · rw [hh]
       have F : _ ∧ _ ∧ _ ∧ _ := ⟨e0, e1, e5, wk⟩
       repeat' first
        | refine gg ?_
        | refine Two.mk (fun hq => ?_) fun hq => ?_
        | (with_reducible refine Y7 ?_; first | refine gc rfl rfl rfl Zh1 (hn _) ?_ | refine gc rfl rfl rfl Zn0 (hha _) ?_)
        | (exfalso; omega)
       all_goals first | (exfalso; omega) | exact ⟨.inr rfl, endV hl0 rfl rfl ⟨rfl, by simp⟩⟩
     · skip
       have F : _ ∧ _ ∧ _ ∧ _ := ⟨e0, e1, e5, wk⟩
       repeat' first
        | refine gg ?_
        | refine Two.mk (fun hq => ?_) fun hq => ?_
        | (with_reducible refine Y7 ?_; first | refine gc rfl rfl rfl Zh1 (hn _) ?_ | refine gc rfl rfl rfl Zn0 (hha _) ?_)
        | (exfalso; omega)
       all_goals first | (exfalso; omega) | exact ⟨rfl, list.length - (k + 1), by omega, k + 1, hlt, rfl, hh, rfl, e0, e1, rfl⟩
 · rw [Z4 (by omega)] at hh
   rw [hh]
   have F : _ ∧ _ ∧ _ := ⟨e0, e1, e5⟩
   repeat' first
    | refine gg ?_
    | refine Two.mk (fun hq => ?_) fun hq => ?_
    | refine Evry.mk fun x hx => ?_
    | (with_reducible refine Y7 ?_; refine gc rfl rfl rfl ent_200 (hso _) ?_)
    | (exfalso; omega)
   exact ⟨.inr rfl, endV hl0 rfl rfl ⟨rfl, by simp⟩⟩
theorem rclosed_d (rs : List Rl) (list : List ByteArray) (hr : rs.length ≤ 9223372036854775807) (hc : ∀ r ∈ rs, Ris r.cond ∧ r.cond.length ≤ 1000000) (hl : list.length ≤ 1000000) (h : List Ob) : Does Z3 G 137 h [.sl 2 (rs.map Zo3), .sl 1 (list.map strX)] (fun h' r => h' = h ∧ r = .v (.bool (V4 rs list))) := by
 refine Y9 G hG (by simp only [lowL]; exact ⟨Ya7 _ rs, Xw _ list, trivial⟩) (by rw [low]; trivial) ?_ h
 clear h
 unfold V4
 refine Y6 Tryz.func137 rfl (Z0 rfl) hG fun hl0 _ => ?_
 simp only [Tryz.ntmps137]
 repeat' first
  | refine g0 ?_
  | fail
 refine Yh (fun m e h' => ∃ (k : Nat), k ≤ rs.length ∧ m = rs.length - k ∧ (rs.all fun r => !Xm r.cond list || hasS list r.concl) = ((rs.drop k).all fun r => !Xm r.cond list || hasS list r.concl) ∧ h' = [] ∧ e 0 = .sl 2 (rs.map Zo3) ∧ e 1 = .sl 1 (list.map strX) ∧ e 5 = .v (.int .i64 k)) rs.length ⟨0, Z9 _, rfl, rfl, rfl, rfl, rfl, rfl⟩ ?_
 rintro m e h' ⟨k, hk, rfl, hh, rfl, e0, e1, e5⟩
 by_cases hlt : k < rs.length
 · have hx : rs[k]? = some rs[k] := Z1 hlt
   have wk : IntKind.i64.wrap ((k : Int) + 1) = ((k + 1 : Nat) : Int) := IntWalk.i64_in _ (by omega)
   rw [Z2 hlt, Zl] at hh
   have hc := hc _ (Zf hlt)
   generalize rs[k] = x at hx hh hc
   have hsu := sSubset_d G hG x.cond list hc.1 hc.2 hl
   have hha := sHas_d G hG list x.concl (by omega)
   cases hb1 : Xm x.cond list <;> rw [hb1] at hsu hh
   · skip
     have F : _ ∧ _ ∧ _ ∧ _ := ⟨e0, e1, e5, wk⟩
     repeat' first
      | refine gg ?_
      | refine Two.mk (fun hq => ?_) fun hq => ?_
      | (with_reducible refine Y7 ?_; refine gc rfl rfl rfl ent_108 (hsu _) ?_)
      | (exfalso; omega)
     exact ⟨rfl, rs.length - (k + 1), by omega, k + 1, hlt, rfl, hh, rfl, e0, e1, rfl⟩
   · cases hb2 : hasS list x.concl <;> rw [hb2] at hha hh
     · rw [hh]
       have F : _ ∧ _ ∧ _ ∧ _ := ⟨e0, e1, e5, wk⟩
       repeat' first
        | refine gg ?_
        | refine Two.mk (fun hq => ?_) fun hq => ?_
        | (with_reducible refine Y7 ?_; first | refine gc rfl rfl rfl ent_108 (hsu _) ?_ | refine gc rfl rfl rfl Zn0 (hha _) ?_)
        | (exfalso; omega)
       exact ⟨.inr rfl, endV hl0 rfl rfl ⟨rfl, rfl⟩⟩
     · skip
       have F : _ ∧ _ ∧ _ ∧ _ := ⟨e0, e1, e5, wk⟩
       repeat' first
        | refine gg ?_
        | refine Two.mk (fun hq => ?_) fun hq => ?_
        | (with_reducible refine Y7 ?_; first | refine gc rfl rfl rfl ent_108 (hsu _) ?_ | refine gc rfl rfl rfl Zn0 (hha _) ?_)
        | (exfalso; omega)
       exact ⟨rfl, rs.length - (k + 1), by omega, k + 1, hlt, rfl, hh, rfl, e0, e1, rfl⟩
 · rw [Z4 (by omega)] at hh
   rw [hh]
   have F : _ ∧ _ ∧ _ := ⟨e0, e1, e5⟩
   repeat' first
    | refine gg ?_
    | refine Two.mk (fun hq => ?_) fun hq => ?_
    | refine Evry.mk fun x hx => ?_
    | (exfalso; omega)
   exact ⟨.inr rfl, endV hl0 rfl rfl ⟨rfl, rfl⟩⟩
end
section
def getT : List Tk → Int → Int
 | [], _ => 0
 | t :: r, p => if t.process = p then t.n else getT r p
theorem Xh (t : Tk) (r : List Tk) (p : Int) : getT (t :: r) p = if t.process = p then t.n else getT r p := rfl
def Zj8 (c : List Tk) (p : Int) : Int := if X2 c then getT c p else 0
def allT (c : List Tk) : List Int := (Zy 64).map fun p : Nat => Zj8 c p
def leqT (a b : List Tk) : Bool := (Zy 64).all fun p : Nat => decide (Zj8 a p ≤ Zj8 b p)
def V6 (a b : List Tk) : Bool := X2 a && (X2 b && (leqT a b && !leqT b a))
theorem tickB_iff {last : Int} {t : Tk} : Ye7 last t = true ↔ last < t.process ∧ t.process ≤ 63 ∧ 1 ≤ t.n ∧ t.n ≤ 1000000000000000 := by unfold Ye7; rw [decide_eq_true_eq]
theorem Xb {last : Int} {t : Tk} {r : List Tk} : Yx last (t :: r) = true ↔ (last < t.process ∧ t.process ≤ 63 ∧ 1 ≤ t.n ∧ t.n ≤ 1000000000000000) ∧ Yx t.process r = true := by
 rw [Yx, Z6, tickB_iff]
theorem Vq : ∀ {c : List Tk} {last p : Int}, Yx last c = true → p ≤ last → getT c p = 0
 | [], _, _, _, _ => rfl
 | t :: r, last, p, h, hp => by
   rw [Xb] at h
   rw [getT, if_neg (by omega)]
   exact Vq h.2 (by omega)
theorem Zc4 : ∀ {c : List Tk} {last : Int} (p : Int), Yx last c = true → 0 ≤ getT c p
 | [], _, _, _ => Zq _
 | t :: r, last, p, h => by
   rw [Xb] at h
   rw [getT]
   split
   · omega
   · exact Zc4 p h.2
theorem Zh4 {p k : Int} {r : List Tk} : Vy p k r = [] ↔ k ≤ 0 ∧ r = [] := by
 unfold Vy
 by_cases h : 0 < k
 · rw [if_pos h]
   exact ⟨fun h' => absurd h' (by simp), fun h' => absurd h'.1 (by omega)⟩
 · rw [if_neg h]
   exact ⟨fun h' => ⟨by omega, h'⟩, fun h' => h'.2⟩
theorem Zb0 {m n : Int} (hn : 0 ≤ n) : Zm3 m n ≤ 0 ↔ m ≤ n := by
 unfold Zm3
 split <;> omega
theorem walk_le (k : Nat) : ∀ (a b : List Tk) (lo : Int), a.length + b.length ≤ k → Yx lo a = true → Yx lo b = true → (Xu Zm3 a b = [] ↔ ∀ p, getT a p ≤ getT b p) := by
 induction k with
 | zero =>
   intro a b lo hk ha hb
   obtain rfl : a = [] := Zg.1 (by omega)
   obtain rfl : b = [] := Zg.1 (by omega)
   rw [Xu]
   exact ⟨fun _ _ => Zq _, fun _ => rfl⟩
 | succ k ih =>
   intro a b lo hk ha hb
   match a, b, ha, hb with
   | [], [], _, _ =>
     rw [Xu]
     exact ⟨fun _ _ => Zq _, fun _ => rfl⟩
   | x :: a, [], ha, hb =>
     rw [Xb] at ha
     rw [Xu, Zh4, Zb0 (Zq _)]
     constructor
     · intro h; omega
     · intro h
       have := h x.process
       rw [Xh, if_pos rfl] at this
       have h0 : getT [] x.process = 0 := rfl
       omega
   | [], y :: b, ha, hb =>
     have hb' := hb
     rw [Xb] at hb
     rw [Xu, Zh4, Zb0 (by omega)]
     constructor
     · intro _ p
       exact Zc4 p hb'
     · intro _
       refine ⟨by omega, (ih [] b y.process (by simp at hk ⊢; omega) rfl hb.2).2 fun p => Zc4 p hb.2⟩
   | x :: a, y :: b, ha, hb =>
     have ha' := ha
     have hb' := hb
     rw [Xb] at ha hb
     rw [Xu]
     by_cases h1 : x.process < y.process
     · rw [if_pos h1, Zh4, Zb0 (Zq _)]
       constructor
       · intro h; omega
       · intro h
         have := h x.process
         have hg : getT (y :: b) x.process = 0 := Vq (last := x.process) (by rw [Xb]; exact ⟨⟨h1, hb.1.2⟩, hb.2⟩) (Zq _)
         rw [Xh, if_pos rfl, hg] at this
         omega
     · rw [if_neg h1]
       by_cases h2 : y.process < x.process
       · rw [if_pos h2, Zh4, Zb0 (by omega)]
         have hx : Yx y.process (x :: a) = true := by rw [Xb]; exact ⟨⟨h2, ha.1.2⟩, ha.2⟩
         rw [ih (x :: a) b y.process (by simp at hk ⊢; omega) hx hb.2]
         constructor
         · rintro ⟨_, h⟩ p
           rw [Xh y b]
           by_cases hp : y.process = p
           · rw [if_pos hp, Vq hx (by omega)]; omega
           · rw [if_neg hp]; exact h p
         · intro h
           refine ⟨by omega, fun p => ?_⟩
           have := h p
           rw [Xh y b] at this
           by_cases hp : y.process = p
           · rw [Vq hx (by omega)]; exact Zc4 p hb.2
           · rw [if_neg hp] at this; exact this
       · rw [if_neg h2, Zh4, Zb0 (by omega)]
         have hxy : x.process = y.process := by omega
         rw [ih a b y.process (by simp at hk ⊢; omega) (by rw [← hxy]; exact ha.2) hb.2]
         constructor
         · rintro ⟨h0, h⟩ p
           rw [Xh y b, Xh x a, hxy]
           by_cases hp : y.process = p
           · rw [if_pos hp, if_pos hp]; exact h0
           · rw [if_neg hp, if_neg hp]; exact h p
         · intro h
           have h3 := h y.process
           rw [Xh y b, Xh x a, hxy, if_pos rfl, if_pos rfl] at h3
           refine ⟨h3, fun p => ?_⟩
           by_cases hp : p ≤ y.process
           · rw [Vq (by rw [← hxy]; exact ha.2) hp]
             exact Zc4 p hb.2
           · have := h p
             rw [Xh y b, Xh x a, hxy, if_neg (by omega), if_neg (by omega)] at this
             exact this
theorem Zw7 : ∀ {c : List Tk} {last p : Int}, Yx last c = true → 63 < p → getT c p = 0
 | [], _, _, _, _ => rfl
 | t :: r, last, p, h, hp => by
   rw [Xb] at h
   rw [getT, if_neg (by omega)]
   exact Zw7 h.2 hp
theorem Zp9 {a b : List Tk} (ha : X2 a = true) (hb : X2 b = true) : leqT a b = true ↔ Vw a b = [] := by
 unfold Vw
 rw [walk_le _ a b (-1) (Zz _) ha hb]
 unfold leqT Zj8
 rw [Zi]
 constructor
 · intro h p
   by_cases h1 : p ≤ -1
   · rw [Vq ha h1]; exact Zc4 p hb
   · by_cases h2 : 63 < p
     · rw [Zw7 ha h2]; exact Zc4 p hb
     · have := h p.toNat (by rw [List.mem_range]; omega)
       rw [decide_eq_true_eq, if_pos ha, if_pos hb, show ((p.toNat : Nat) : Int) = p by omega] at this
       exact this
 · intro h p _
   rw [decide_eq_true_eq, if_pos ha, if_pos hb]
   exact h p
theorem Um {a b : List Tk} (ha : X2 a = true) (hb : X2 b = true) : (Xx a b == 1) = V6 a b ∧ (Xx a b == 2) = V6 b a := by
 unfold Xx V6
 rw [ha, hb, if_neg (by simp)]
 have e1 : leqT a b = decide ((Vw a b).length = 0) := by
  rw [Zp, Zp9 ha hb, decide_eq_true_eq, Zg]
 have e2 : leqT b a = decide ((Vw b a).length = 0) := by
  rw [Zp, Zp9 hb ha, decide_eq_true_eq, Zg]
 rw [e1, e2]
 by_cases h1 : (Vw a b).length = 0 <;> by_cases h2 : (Vw b a).length = 0 <;> simp [h1, h2]
def Za1 (list : List En) (i : Nat) (e : En) : Bool :=
 (decide (e.clock.length ≠ 0) && (X2 e.clock && Wm e.name)) && ((match i with
  | 0 => true
  | j + 1 => match list[j]? with
    | some p => decide (entC p e < 0)
    | none => true) && list.all fun f => !V6 e.clock f.clock)
def Zo4 (list : List En) : Nat → List En → Bool
 | _, [] => true
 | i, e :: t => Za1 list i e && Zo4 list (i + 1) t
def rentsB (list : List En) : Bool := Zo4 list 0 list
theorem Zs1 (list : List En) : ∀ (k : Nat) (t : List En), Zo4 list k t = true ↔ ∀ i (h : i < t.length), Za1 list (k + i) t[i] = true
 | _, [] => ⟨fun _ i h => by simp at h, fun _ => rfl⟩
 | k, e :: t => by
   rw [Zo4, Z6, Zs1 list (k + 1) t]
   constructor
   · rintro ⟨h1, h2⟩ i hi
     cases i with
     | zero => exact h1
     | succ i =>
       have := h2 i (by simp at hi; omega)
       rw [show k + 1 + i = k + (i + 1) by omega] at this
       exact this
   · intro h
     refine ⟨h 0 (by simp), fun i hi => ?_⟩
     have := h (i + 1) (by simp; omega)
     rw [show k + 1 + i = k + (i + 1) by omega]
     exact this
theorem regGo_iff (list : List En) : ∀ (k : Nat) (t : List En), Zy9 list k t = true ↔ ∀ i (h : i < t.length), Zk8 list (k + i) t[i] = true
 | _, [] => ⟨fun _ i h => by simp at h, fun _ => rfl⟩
 | k, e :: t => by
   rw [Zy9, Z6, regGo_iff list (k + 1) t]
   constructor
   · rintro ⟨h1, h2⟩ i hi
     cases i with
     | zero => exact h1
     | succ i =>
       have := h2 i (by simp at hi; omega)
       rw [show k + 1 + i = k + (i + 1) by omega] at this
       exact this
   · intro h
     refine ⟨h 0 (by simp), fun i hi => ?_⟩
     have := h (i + 1) (by simp; omega)
     rw [show k + 1 + i = k + (i + 1) by omega]
     exact this
theorem belowT_self (a : List Tk) : V6 a a = false := by
 unfold V6
 cases leqT a a <;> cases X2 a <;> rfl
theorem rents_reg (list : List En) : rentsB list = regB list := by
 rw [Zp]
 unfold rentsB regB
 rw [Zs1, regGo_iff]
 simp only [Nat.zero_add]
 constructor
 · intro h i hi
   have hc : ∀ k (hk : k < list.length), X2 list[k].clock = true := fun k hk => by
     have := h k hk
     unfold Za1 at this
     simp only [Z6] at this
     exact this.1.2.1
   have h1 := h i hi
   unfold Za1 at h1
   unfold Zk8
   simp only [Z6] at h1 ⊢
   obtain ⟨⟨a, b, c⟩, d, e⟩ := h1
   refine ⟨⟨⟨⟨a, b⟩, c⟩, ?_⟩, ?_⟩
   · cases i with
     | zero =>
       cases list[0 - 1]? <;> simp
     | succ j =>
       rw [show j + 1 - 1 = j by omega]
       simp only at d
       revert d
       cases hq : list[j]? <;> simp [hq]
   · rw [Zi] at e ⊢
     intro f hf
     obtain ⟨k, hk, rfl⟩ := Zv hf
     rw [Ze] at hk
     rw [List.getElem_take]
     obtain ⟨q1, q2⟩ := Um (hc i hi) (hc k (by omega))
     have w1 := e _ (Zf (show k < list.length by omega))
     have h2 := h k (by omega)
     unfold Za1 at h2
     simp only [Z6] at h2
     have w2 := Zi.1 h2.2.2 _ (Zf hi)
     rw [q1, q2]
     revert w1 w2
     cases V6 list[i].clock list[k].clock <;> cases V6 list[k].clock list[i].clock <;> simp
 · intro h i hi
   have hc : ∀ k (hk : k < list.length), X2 list[k].clock = true := fun k hk => by
     have := h k hk
     unfold Zk8 at this
     simp only [Z6] at this
     exact this.1.1.1.2
   have h1 := h i hi
   unfold Zk8 at h1
   unfold Za1
   simp only [Z6] at h1 ⊢
   obtain ⟨⟨⟨⟨a, b⟩, c⟩, d⟩, e⟩ := h1
   refine ⟨⟨a, b, c⟩, ?_, ?_⟩
   · cases i with
     | zero => rfl
     | succ j =>
       rw [show j + 1 - 1 = j by omega] at d
       revert d
       cases hq : list[j]? <;> simp [hq]
   · rw [Zi]
     intro f hf
     obtain ⟨k, hk, rfl⟩ := Zv hf
     have key : ∀ i k (hi : i < list.length) (hk : k < list.length), k < i → (Xx list[i].clock list[k].clock == 1) = false ∧ (Xx list[i].clock list[k].clock == 2) = false := fun i k hi hk hlt => by
       have h2 := h i hi
       unfold Zk8 at h2
       simp only [Z6] at h2
       have := Zi.1 h2.2 list[k] (by
        rw [List.mem_iff_getElem]
        exact ⟨k, by rw [Ze]; omega, by rw [List.getElem_take]⟩)
       revert this
       cases (Xx list[i].clock list[k].clock == 1) <;> cases (Xx list[i].clock list[k].clock == 2) <;> simp
     rcases Nat.lt_trichotomy k i with hlt | rfl | hlt
     · rw [← (Um (hc i hi) (hc k hk)).1, (key i k hi hk hlt).1]; rfl
     · rw [belowT_self]; rfl
     · rw [← (Um (hc k hk) (hc i hi)).2, (key k i hk hi hlt).2]; rfl
end
section
attribute [local irreducible] on aOp
attribute [local go_sem] decide_true decide_false Zj Zh
attribute [local simp] byD_len
def iG (rows : List (List D)) (T : List Ob) : List Ob := .buf 2 1 rows :: T
section
variable {rows r2 : List (List D)} {T : List Ob} {x y : Ob}
theorem iG_0 : (iG rows T)[0]? = some (.buf 2 1 rows) := rfl
theorem iG_s0 : (iG rows T).set 0 (.buf 2 1 r2) = iG r2 T := rfl
theorem iG_app : iG rows T ++ [x] = iG rows (T ++ [x]) := rfl
theorem iG_len : (iG rows T).length = T.length + 1 := rfl
theorem iG_last : (iG rows (T ++ [x]))[T.length + 1]? = some x := by simp [iG]
end
theorem low_ints2 (m : Nat) (l : List Int) : low m (.sl 1 (l.map intX)) := Vj m l fun x _ => by simp [intX, lowL, low]
theorem Ug (m : Nat) (l : List Tk) : low m (.sl 2 (l.map tkX)) := Vj m l fun t _ => by simp [tkX, lowL, low]
theorem intX_eq2 (z : Int) : intX z = [.v (.int .i64 z)] := rfl
theorem Zx1 (c : List Tk) : (allT c).length = 64 := by unfold allT; simp
theorem allT_at (c : List Tk) {k : Nat} (h : k < 64) : (allT c)[k]? = some (Zj8 c k) := by unfold allT; rw [Zr, List.getElem?_range h]; rfl
theorem range_drop {k : Nat} (h : k < 64) : (Zy 64).drop k = k :: (Zy 64).drop (k + 1) := by
 rw [Z2 (by simpa using h), List.getElem_range]
variable (G : Nat → D) (hG : ∀ g, low 0 (G g))
include hG
attribute [local go_sem] Za Zs Zt Zu Z7 Z5 Zm Zn Zc Zd Zo iG_0 iG_app iG_last iG_len iG_s0 intX_eq2 Zx9
attribute [local go_sem ↓] reduceIte
theorem Zx0 (c : List Tk) (hl : c.length ≤ 9223372036854775807) (h : List Ob) : Does Z3 G 201 h [.sl 2 (c.map tkX)] (fun h' r => h' = h ∧ r = .v (.bool (X2 c))) := by
 unfold X2
 refine Y6 Tryz.func201 rfl (Z0 rfl) hG fun hl0 _ => ?_
 simp only [Tryz.ntmps201]
 repeat' first
  | refine g0 ?_
  | fail
 refine Yh (fun m e h' => ∃ (k : Nat) (p : Int), k ≤ c.length ∧ m = c.length - k ∧ -1 ≤ p ∧ Yx (-1) c = Yx p (c.drop k) ∧ (k = 0 → p = -1) ∧ (∀ j y, k = j + 1 → c[j]? = some y → p = y.process) ∧ h' = h ∧ e 0 = .sl 2 (c.map tkX) ∧ e 3 = .v (.int .i64 k)) c.length ⟨0, -1, Z9 _, rfl, Zq _, rfl, fun _ => rfl, fun j y hj => by omega, rfl, rfl, rfl⟩ ?_
 rintro m e h' ⟨k, p, hk, rfl, hp, ho, hp0, hp1, rfl, e0, e3⟩
 by_cases hlt : k < c.length
 · have hx : c[k]? = some c[k] := Z1 hlt
   rw [clock_go (Z2 hlt)] at ho
   generalize c[k] = x at hx ho
   have wk : IntKind.i64.wrap ((k : Int) + 1) = ((k + 1 : Nat) : Int) := IntWalk.i64_in _ (by omega)
   have hnx : ∀ j y, k + 1 = j + 1 → c[j]? = some y → x.process = y.process := fun j y hj hy => by
    obtain rfl : j = k := by omega
    rw [hx] at hy; cases hy; rfl
   rcases Nat.eq_zero_or_pos k with h0 | h0
   · subst h0
     obtain rfl := hp0 rfl
     have F : _ ∧ _ ∧ _ := ⟨e0, e3, wk⟩
     repeat' first
      | (with_reducible refine Yc ?_; refine Y8 mixd (by kernel_rfl) ?_)
      | refine gg ?_
      | refine Two.mk (fun hq => ?_) fun hq => ?_
      | refine Evry.mk fun x hx => ?_
      | (exfalso; omega)
     all_goals first
     | exact ⟨.inr rfl, endD (r := .v (.bool false)) hl0 rfl (by simp) (by simp) rfl (by rw [low]; trivial) ⟨rfl, by rw [ho, show Ye7 (-1) x = false from decide_eq_false (by omega)]; rfl⟩⟩
     | exact ⟨rfl, c.length - 1, by omega, 1, x.process, hlt, rfl, by omega, by rw [ho, show Ye7 (-1) x = true from decide_eq_true (by omega)]; rfl, fun h => by omega, hnx, rfl, e0, rfl⟩
   · obtain ⟨j, rfl⟩ : ∃ j, k = j + 1 := ⟨k - 1, by omega⟩
     have hy : c[j]? = some c[j] := Z1 (by omega)
     have hpy := hp1 j _ rfl hy
     generalize c[j] = y at hy hpy
     subst hpy
     have wm : IntKind.i64.wrap (((j + 1 : Nat) : Int) - 1) = (j : Int) := by rw [show ((j + 1 : Nat) : Int) - 1 = (j : Int) by omega]; exact IntWalk.i64_in _ (by omega)
     have gp : decide ((0 : Int) < ((j + 1 : Nat) : Int)) = true := decide_eq_true (by omega)
     have F : _ ∧ _ ∧ _ ∧ _ ∧ _ := ⟨e0, e3, wk, wm, gp⟩
     repeat' first
      | (with_reducible refine Yc ?_; refine Y8 mixd (by kernel_rfl) ?_)
      | refine gg ?_
      | refine Two.mk (fun hq => ?_) fun hq => ?_
      | (exfalso; omega)
     all_goals first
     | exact ⟨.inr rfl, endD (r := .v (.bool false)) hl0 rfl (by simp) (by simp) rfl (by rw [low]; trivial) ⟨rfl, by rw [ho, show Ye7 y.process x = false from decide_eq_false (by omega)]; rfl⟩⟩
     | exact ⟨rfl, c.length - (j + 1 + 1), by omega, j + 1 + 1, x.process, hlt, rfl, by omega, by rw [ho, show Ye7 y.process x = true from decide_eq_true (by omega)]; rfl, fun h => by omega, hnx, rfl, e0, rfl⟩
 · skip
   have F : _ ∧ _ := ⟨e0, e3⟩
   repeat' first
    | refine gg ?_
    | refine Two.mk (fun hq => ?_) fun hq => ?_
    | refine Evry.mk fun x hx => ?_
    | (exfalso; omega)
   exact ⟨.inr rfl, endD (r := .v (.bool true)) hl0 rfl (by simp) (by simp) rfl (by rw [low]; trivial) ⟨rfl, by rw [ho, Z4 (by omega)]; rfl⟩⟩
theorem cGet_d (c : List Tk) (p : Int) (hl : c.length ≤ 9223372036854775807) (h : List Ob) : Does Z3 G 266 h [.sl 2 (c.map tkX), .v (.int .i64 p)] (fun h' r => h' = h ∧ r = .v (.int .i64 (Zj8 c p))) := by
 refine Y9 G hG (by rw [lowL, lowL, lowL]; exact ⟨Ug _ _, by rw [low]; trivial, trivial⟩) (by rw [low]; trivial) ?_ h
 clear h
 have hv := Zx0 G hG c hl
 refine Y6 Tryz.func266 rfl (Z0 rfl) hG fun hl0 _ => ?_
 simp only [Tryz.ntmps266]
 unfold Zj8
 cases hcb : X2 c <;> rw [hcb] at hv
 · skip
   repeat' first
    | refine g0 ?_
    | (with_reducible refine Y7 ?_; refine gc rfl rfl rfl Zc6 (hv _) ?_)
   exact ⟨.inr rfl, endD (r := .v (.int .i64 0)) hl0 rfl (by simp) (by simp) rfl (by rw [low]; trivial) ⟨rfl, rfl⟩⟩
 repeat' first
  | refine g0 ?_
  | (with_reducible refine Y7 ?_; refine gc rfl rfl rfl Zc6 (hv _) ?_)
 refine Yh (fun m e h' => ∃ k : Nat, k ≤ c.length ∧ m = c.length - k ∧ getT c p = getT (c.drop k) p ∧ h' = [] ∧ e 0 = .sl 2 (c.map tkX) ∧ e 1 = .v (.int .i64 p) ∧ e 5 = .v (.int .i64 k)) c.length ⟨0, Z9 _, rfl, rfl, rfl, rfl, rfl, rfl⟩ ?_
 rintro m e h' ⟨k, hk, rfl, ho, rfl, e0, e1, e5⟩
 by_cases hlt : k < c.length
 · have hx : c[k]? = some c[k] := Z1 hlt
   rw [Z2 hlt, Xh] at ho
   generalize c[k] = x at hx ho
   have wk : IntKind.i64.wrap ((k : Int) + 1) = ((k + 1 : Nat) : Int) := IntWalk.i64_in _ (by omega)
   have F : _ ∧ _ ∧ _ ∧ _ := ⟨e0, e1, e5, wk⟩
   repeat' first
    | refine gg ?_
    | refine Two.mk (fun hq => ?_) fun hq => ?_
    | (exfalso; omega)
   all_goals first
   | exact ⟨.inr rfl, endD (r := .v (.int .i64 _)) hl0 rfl (by simp) (by simp) rfl (by rw [low]; trivial) ⟨rfl, by rw [if_pos rfl, ho, if_pos (by omega)]⟩⟩
   | exact ⟨rfl, c.length - (k + 1), by omega, k + 1, hlt, rfl, by rw [ho, if_neg (by omega)], rfl, e0, e1, rfl⟩
 · skip
   have F : _ ∧ _ ∧ _ := ⟨e0, e1, e5⟩
   repeat' first
    | refine gg ?_
    | refine Two.mk (fun hq => ?_) fun hq => ?_
    | refine Evry.mk fun x hx => ?_
    | (exfalso; omega)
   exact ⟨.inr rfl, endD (r := .v (.int .i64 0)) hl0 rfl (by simp) (by simp) rfl (by rw [low]; trivial) ⟨rfl, by rw [if_pos rfl, ho, Z4 (by omega)]; rfl⟩⟩
theorem cAll0 (c : List Tk) (hl : c.length ≤ 9223372036854775807) : Does Z3 G 245 [] [.sl 2 (c.map tkX)] (fun h' r => h' = [.buf 2 1 ((allT c).map intX)] ∧ r = .buf 0 64) := by
 refine Does.only0 hG (low_ints2 _ _) (K := fun h' r => ∃ i, h'[i]? = some (.buf 2 1 ((allT c).map intX)) ∧ r = .buf i 64) ?_ (fun _ _ h => h)
 have hal := Zx1 c
 refine Vo Tryz.func245 rfl (Z0 rfl) ?_
 simp only [Tryz.ntmps245]
 repeat' first
  | refine g0 ?_
  | fail
 refine Zh8 2 1 3 rfl ?_
 refine Yh (fun m e h' => ∃ (k : Nat) (T : List Ob), k ≤ 64 ∧ m = 64 - k ∧ h' = iG (((allT c).take k).map intX) T ∧ e 0 = .sl 2 (c.map tkX) ∧ e 3 = .buf 0 ((allT c).take k).length ∧ e 4 = .v (.int .i64 k)) 64 ⟨0, [], by omega, rfl, rfl, rfl, rfl, rfl⟩ ?_
 rintro m e h' ⟨k, T, hk, rfl, rfl, e0, e3, e4⟩
 by_cases hlt : k < 64
 rotate_left
 · obtain rfl : k = 64 := by omega
   rw [Z8 (by omega), hal] at e3
   rw [Z8 (by omega)]
   have F : _ ∧ _ ∧ _ := ⟨e0, e3, e4⟩
   repeat' first
    | refine gg ?_
    | refine Two.mk (fun hq => ?_) fun hq => ?_
    | (exfalso; omega)
   all_goals first | (exfalso; omega) | exact ⟨.inr rfl, [.buf 0 64], rfl, 0, rfl, rfl⟩
 have hx := allT_at c hlt
 have hg := cGet_d G hG c k hl
 have htk : (allT c).take (k + 1) = (allT c).take k ++ [Zj8 c k] := by rw [Zx, hx]; rfl
 have wk : IntKind.i64.wrap ((k : Int) + 1) = ((k + 1 : Nat) : Int) := IntWalk.i64_in _ (by omega)
 generalize Zj8 c k = z at hg htk
 have hpl : ((allT c).take k).length ≤ 64 := by rw [Ze]; omega
 generalize (allT c).take k = p at *
 have F : _ ∧ _ ∧ _ ∧ _ := ⟨e0, e3, e4, wk⟩
 repeat' first
  | (with_reducible refine Y7 ?_; refine Xy rfl rfl rfl rfl (by (simp only [go_sem, F]; rfl)) (by simp) (by simp only [go_sem, F]; rfl) (by (simp only [go_sem, F]; rfl)) (by simp) (by (simp [Yz, D.one, Value.oneCell']; done)) (by (simp; omega)) ?_)
  | refine gg ?_
  | refine Two.mk (fun hq => ?_) fun hq => ?_
  | (with_reducible refine Y7 ?_; refine gc rfl rfl rfl ent_266 (hg _) ?_)
  | (exfalso; omega)
 all_goals first | (exfalso; omega) | exact ⟨rfl, 64 - (k + 1), by omega, k + 1, _, hlt, rfl, by rw [htk, List.map_append]; rfl, e0, by rw [htk]; simp [upd], rfl⟩
theorem cAll_d (c : List Tk) (hl : c.length ≤ 9223372036854775807) (h : List Ob) : Does Z3 G 245 h [.sl 2 (c.map tkX)] (fun h' r => h' = h ∧ r = .sl 1 ((allT c).map intX)) :=
 Does.gave0 hG (low_ints2 _ _) (by rw [lowL, lowL]; exact ⟨Ug _ _, trivial⟩) (by rw [Z5, Zx1]) (cAll0 G hG c hl) h
theorem cLeq_d (a b : List Tk) (ha : a.length ≤ 9223372036854775807) (hb : b.length ≤ 9223372036854775807) (h : List Ob) : Does Z3 G 224 h [.sl 2 (a.map tkX), .sl 2 (b.map tkX)] (fun h' r => h' = h ∧ r = .v (.bool (leqT a b))) := by
 refine Y9 G hG (by rw [lowL, lowL, lowL]; exact ⟨Ug _ _, Ug _ _, trivial⟩) (by rw [low]; trivial) ?_ h
 clear h
 have h1 := cAll_d G hG a ha
 have h2 := cAll_d G hG b hb
 have hal := Zx1 a
 refine Y6 Tryz.func224 rfl (Z0 rfl) hG fun hl0 _ => ?_
 simp only [Tryz.ntmps224]
 repeat' first
  | refine g0 ?_
  | (with_reducible refine Y7 ?_; first | refine gc rfl rfl rfl ent_245 (h1 _) ?_ | refine gc rfl rfl rfl ent_245 (h2 _) ?_)
 refine Yh (fun m e h' => ∃ k : Nat, k ≤ 64 ∧ m = 64 - k ∧ leqT a b = ((Zy 64).drop k).all (fun p : Nat => decide (Zj8 a p ≤ Zj8 b p)) ∧ h' = [] ∧ e 5 = .sl 1 ((allT a).map intX) ∧ e 6 = .sl 1 ((allT b).map intX) ∧ e 7 = .v (.int .i64 k)) 64 ⟨0, by omega, rfl, rfl, rfl, rfl, rfl, rfl⟩ ?_
 rintro m e h' ⟨k, hk, rfl, ho, rfl, e5, e6, e7⟩
 by_cases hlt : k < 64
 · have hx := allT_at a hlt
   have hy := allT_at b hlt
   rw [range_drop hlt, Zl] at ho
   have wk : IntKind.i64.wrap ((k : Int) + 1) = ((k + 1 : Nat) : Int) := IntWalk.i64_in _ (by omega)
   generalize Zj8 a k = x at hx ho
   generalize Zj8 b k = y at hy ho
   have hbl : (allT b).length = 64 := Zx1 b
   have F : _ ∧ _ ∧ _ ∧ _ ∧ _ ∧ _ := ⟨e5, e6, e7, hal, hbl, wk⟩
   repeat' first
    | (with_reducible refine Yc ?_; refine Y8 mixd (by kernel_rfl) ?_)
    | refine gg ?_
    | refine Two.mk (fun hq => ?_) fun hq => ?_
    | (exfalso; omega)
   all_goals first
   | (exfalso; omega)
   | exact ⟨.inr rfl, endD (r := .v (.bool false)) hl0 rfl (by simp) (by simp) rfl (by rw [low]; trivial) ⟨rfl, by rw [ho, decide_eq_false (by omega)]; rfl⟩⟩
   | exact ⟨rfl, 64 - (k + 1), by omega, k + 1, hlt, rfl, by rw [ho, decide_eq_true (by omega)]; rfl, rfl, e5, e6, rfl⟩
 · skip
   have F : _ ∧ _ ∧ _ ∧ _ := ⟨e5, e6, e7, hal⟩
   repeat' first
    | (with_reducible refine Yc ?_; refine Y8 mixd (by kernel_rfl) ?_)
    | refine gg ?_
    | refine Two.mk (fun hq => ?_) fun hq => ?_
    | refine Evry.mk fun x hx => ?_
    | (exfalso; omega)
   all_goals first | (exfalso; omega) | exact ⟨.inr rfl, endD (r := .v (.bool true)) hl0 rfl (by simp) (by simp) rfl (by rw [low]; trivial) ⟨rfl, by rw [ho, Z4 (by simp; omega)]; rfl⟩⟩
theorem cBelow_d (a b : List Tk) (ha : a.length ≤ 9223372036854775807) (hb : b.length ≤ 9223372036854775807) (h : List Ob) : Does Z3 G 174 h [.sl 2 (a.map tkX), .sl 2 (b.map tkX)] (fun h' r => h' = h ∧ r = .v (.bool (V6 a b))) := by
 have h1 := Zx0 G hG a ha
 have h2 := Zx0 G hG b hb
 have h3 := cLeq_d G hG a b ha hb
 have h4 := cLeq_d G hG b a hb ha
 unfold V6
 generalize X2 a = x1 at *
 generalize X2 b = x2 at *
 generalize leqT a b = x3 at *
 generalize leqT b a = x4 at *
 refine Y6 Tryz.func174 rfl (Z0 rfl) hG fun hl0 _ => ?_
 simp only [Tryz.ntmps174]
 cases x1
 rotate_left
 cases x2
 rotate_left
 cases x3
 rotate_left
 cases x4
 all_goals
  repeat' first
   | refine g0 ?_
   | (with_reducible refine Y7 ?_; first | refine gc rfl rfl rfl Zc6 (h1 _) ?_ | refine gc rfl rfl rfl Zc6 (h2 _) ?_ | refine gc rfl rfl rfl ent_224 (h3 _) ?_ | refine gc rfl rfl rfl ent_224 (h4 _) ?_)
  all_goals exact ⟨.inr rfl, endD (r := .v (.bool _)) hl0 rfl (by simp) (by simp) rfl (by rw [low]; trivial) ⟨rfl, rfl⟩⟩
end
section
attribute [local irreducible] on aOp
attribute [local go_sem] decide_true decide_false Zj Zh
attribute [local simp] byD_len
def lenI (m n : Nat) : Int := if m = n then 0 else if m < n then -1 else 1
theorem Yn4 {α : Type} (c : α → α → Int) {A B : List α} {k : Nat} (h1 : k ≤ A.length) (h2 : k ≤ B.length) (h : A.length ≤ k ∨ B.length ≤ k) : lexC c (A.drop k) (B.drop k) = lenI A.length B.length := by
 unfold lenI
 by_cases ha : A.length ≤ k
 · rw [Zp8 c A B k ha]
   by_cases hb : k < B.length
   · rw [if_pos hb, if_neg (by omega), if_pos (by omega)]
   · rw [if_neg hb, if_pos (by omega)]
 · rw [Zp7 c A B k (by omega) (by omega), if_neg (by omega), if_neg (by omega)]
theorem cmpI_ne {a b : Int} (h : ¬ a = b) : cmpI a b = if a < b then -1 else 1 := by
 unfold cmpI
 by_cases hl : a < b
 · rw [if_pos hl, if_pos hl]
 · rw [if_neg hl, if_neg hl, if_pos (by omega)]
theorem Yq2 {a b : Int} (h : a = b) : cmpI a b = 0 := by unfold cmpI; rw [if_neg (by omega), if_neg (by omega)]
theorem tick_1 {x y : Tk} (h : ¬ x.process = y.process) : U1 x y = if x.process < y.process then -1 else 1 := by
 unfold U1; simp only [orI, cmpI_ne h]; by_cases hl : x.process < y.process <;> simp [hl]
theorem tick_2 {x y : Tk} (h : x.process = y.process) (h2 : ¬ x.n = y.n) : U1 x y = if x.n < y.n then -1 else 1 := by
 unfold U1; simp only [orI, Yq2 h, cmpI_ne h2]; by_cases hl : x.n < y.n <;> simp [hl]
theorem tick_3 {x y : Tk} (h : x.process = y.process) (h2 : x.n = y.n) : U1 x y = 0 := by
 unfold U1; simp only [orI, Yq2 h, Yq2 h2]; rfl
theorem ite_ne {P : Prop} [Decidable P] (z : Int) : (if (if P then (-1 : Int) else 1) ≠ 0 then (if P then (-1 : Int) else 1) else z) = if P then -1 else 1 := by by_cases h : P <;> simp [h]
theorem strC_ne {a b : ByteArray} (h : ¬ a = b) : strC a b = if J2 a b then -1 else 1 := by unfold strC; rw [if_neg h]
theorem strC_self (a : ByteArray) : strC a a = 0 := by
 unfold strC
 have : J2 a a = false := by rw [J2, bl_eqV, decide_eq_false_iff_not]; exact List.lt_irrefl _
 rw [this]; simp
theorem ent_1 {a b : En} (h : ¬ a.name = b.name) : entC a b = if J2 a.name b.name then -1 else 1 := by
 unfold entC; simp only [orI, strC_ne h]; cases J2 a.name b.name <;> rfl
theorem ent_2 {a b : En} (h : a.name = b.name) : entC a b = lexC U1 a.clock b.clock := by
 unfold entC; simp only [orI, h, strC_self]; split <;> simp_all
variable (G : Nat → D) (hG : ∀ g, low 0 (G g))
include hG
attribute [local go_sem] Za Zs Zt Zu Z7 Z5 Zm Zn Zc Zd Zo X1 Zx9
attribute [local go_sem ↓] reduceIte
theorem Yf8 (b : Bool) (h : List Ob) : Does Z3 G 95 h [.v (.bool b)] (fun h' r => h' = h ∧ r = .v (.int .i64 (if b then -1 else 1))) := by
 refine Y6 Tryz.func95 rfl (Z0 rfl) hG fun hl0 _ => ?_
 simp only [Tryz.ntmps95]
 cases b
 all_goals
  repeat' first
   | refine g0 ?_
   | fail
  exact ⟨.inr rfl, endD (r := .v (.int .i64 _)) hl0 rfl (by simp) (by simp) rfl (by rw [low]; trivial) ⟨rfl, rfl⟩⟩
theorem lens_d (m n : Nat) (h : List Ob) : Does Z3 G 96 h [.v (.int .i64 m), .v (.int .i64 n)] (fun h' r => h' = h ∧ r = .v (.int .i64 (lenI m n))) := by
 refine Y6 Tryz.func96 rfl (Z0 rfl) hG fun hl0 _ => ?_
 simp only [Tryz.ntmps96]
 unfold lenI
 repeat' first
  | refine gg ?_
  | refine Two.mk (fun hq => ?_) fun hq => ?_
  | (with_reducible refine Y7 ?_; refine gc rfl rfl rfl Yi2 (Yf8 G hG _ _) ?_)
 all_goals first
 | (exfalso; omega)
 | exact ⟨.inr rfl, endD (r := .v (.int .i64 0)) hl0 rfl (by simp) (by simp) rfl (by rw [low]; trivial) ⟨rfl, by rw [if_pos (by omega)]⟩⟩
 | exact ⟨.inr rfl, endD (r := .v (.int .i64 (-1))) hl0 rfl (by simp) (by simp) rfl (by rw [low]; trivial) ⟨rfl, by rw [if_neg (by omega), if_pos (by omega)]⟩⟩
 | exact ⟨.inr rfl, endD (r := .v (.int .i64 1)) hl0 rfl (by simp) (by simp) rfl (by rw [low]; trivial) ⟨rfl, by rw [if_neg (by omega), if_neg (by omega)]⟩⟩
theorem ticks_d (a b : List Tk) (ha : a.length ≤ 9223372036854775807) (hb : b.length ≤ 9223372036854775807) (h : List Ob) : Does Z3 G 156 h [.sl 2 (a.map tkX), .sl 2 (b.map tkX)] (fun h' r => h' = h ∧ r = .v (.int .i64 (lexC U1 a b))) := by
 refine Y9 G hG (by rw [lowL, lowL, lowL]; exact ⟨Ug _ _, Ug _ _, trivial⟩) (by rw [low]; trivial) ?_ h
 clear h
 refine Y6 Tryz.func156 rfl (Z0 rfl) hG fun hl0 _ => ?_
 simp only [Tryz.ntmps156]
 repeat' first
  | refine g0 ?_
  | fail
 refine Yh (fun m e h' => ∃ k : Nat, k ≤ a.length ∧ k ≤ b.length ∧ m = a.length - k ∧ lexC U1 a b = lexC U1 (a.drop k) (b.drop k) ∧ h' = [] ∧ e 0 = .sl 2 (a.map tkX) ∧ e 1 = .sl 2 (b.map tkX) ∧ e 5 = .v (.int .i64 k)) a.length ⟨0, Z9 _, Z9 _, rfl, rfl, rfl, rfl, rfl, rfl⟩ ?_
 rintro m e h' ⟨k, hka, hkb, rfl, ho, rfl, e0, e1, e5⟩
 by_cases hlt : k < a.length ∧ k < b.length
 · have hx : a[k]? = some (a[k]'hlt.1) := Z1 hlt.1
   have hy : b[k]? = some (b[k]'hlt.2) := Z1 hlt.2
   rw [Zu7 (Z2 hlt.1) (Z2 hlt.2)] at ho
   generalize (a[k]'hlt.1) = x at hx ho
   generalize (b[k]'hlt.2) = y at hy ho
   have wk : IntKind.i64.wrap ((k : Int) + 1) = ((k + 1 : Nat) : Int) := IntWalk.i64_in _ (by omega)
   by_cases hp : x.process = y.process
   · by_cases hn : x.n = y.n
     · rw [tick_3 hp hn] at ho
       have F : _ ∧ _ ∧ _ ∧ _ ∧ _ ∧ _ := ⟨e0, e1, e5, wk, hp, hn⟩
       repeat' first
        | (with_reducible refine Yc ?_; refine Y8 mixd (by kernel_rfl) ?_)
        | refine gg ?_
        | refine Two.mk (fun hq => ?_) fun hq => ?_
        | (exfalso; omega)
       all_goals first | (exfalso; omega) | exact ⟨rfl, a.length - (k + 1), by omega, k + 1, by omega, by omega, rfl, ho, rfl, e0, e1, rfl⟩
     · rw [tick_2 hp hn, ite_ne] at ho
       have F : _ ∧ _ ∧ _ ∧ _ ∧ _ ∧ _ := ⟨e0, e1, e5, wk, hp, hn⟩
       repeat' first
        | (with_reducible refine Yc ?_; refine Y8 mixd (by kernel_rfl) ?_)
        | refine gg ?_
        | refine Two.mk (fun hq => ?_) fun hq => ?_
        | (with_reducible refine X6 ?_; refine aq2 rfl rfl rfl Yi2 (Yf8 G hG _ _) ?_)
        | (exfalso; omega)
       all_goals first | (exfalso; omega) | (rw [if_pos (by omega)] at ho; exact ⟨.inr rfl, endD (r := .v (.int .i64 (-1))) hl0 rfl (by simp) (by simp) rfl (by rw [low]; trivial) ⟨rfl, by rw [ho]⟩⟩) | (rw [if_neg (by omega)] at ho; exact ⟨.inr rfl, endD (r := .v (.int .i64 1)) hl0 rfl (by simp) (by simp) rfl (by rw [low]; trivial) ⟨rfl, by rw [ho]⟩⟩)
   · rw [tick_1 hp, ite_ne] at ho
     have F : _ ∧ _ ∧ _ ∧ _ ∧ _ := ⟨e0, e1, e5, wk, hp⟩
     repeat' first
      | (with_reducible refine Yc ?_; refine Y8 mixd (by kernel_rfl) ?_)
      | refine gg ?_
      | refine Two.mk (fun hq => ?_) fun hq => ?_
      | (with_reducible refine X6 ?_; refine aq2 rfl rfl rfl Yi2 (Yf8 G hG _ _) ?_)
      | (exfalso; omega)
     all_goals first | (exfalso; omega) | (rw [if_pos (by omega)] at ho; exact ⟨.inr rfl, endD (r := .v (.int .i64 (-1))) hl0 rfl (by simp) (by simp) rfl (by rw [low]; trivial) ⟨rfl, by rw [ho]⟩⟩) | (rw [if_neg (by omega)] at ho; exact ⟨.inr rfl, endD (r := .v (.int .i64 1)) hl0 rfl (by simp) (by simp) rfl (by rw [low]; trivial) ⟨rfl, by rw [ho]⟩⟩)
 · rw [Yn4 U1 hka hkb (by omega)] at ho
   have F : _ ∧ _ ∧ _ := ⟨e0, e1, e5⟩
   repeat' first
    | (with_reducible refine Yc ?_; refine Y8 mixd (by kernel_rfl) ?_)
    | refine gg ?_
    | refine Two.mk (fun hq => ?_) fun hq => ?_
    | refine Evry.mk fun x hx => ?_
    | (with_reducible refine Y7 ?_; refine gc rfl rfl rfl ent_96 (lens_d G hG a.length b.length _) ?_)
    | (exfalso; omega)
   all_goals first | (exfalso; omega) | exact ⟨.inr rfl, endD (r := .v (.int .i64 (lenI a.length b.length))) hl0 rfl (by simp) (by simp) rfl (by rw [low]; trivial) ⟨rfl, by rw [ho]⟩⟩
theorem ents_d (a b : En) (ha : a.clock.length ≤ 9223372036854775807) (hb : b.clock.length ≤ 9223372036854775807) (h : List Ob) : Does Z3 G 97 h [.agg (enX a), .agg (enX b)] (fun h' r => h' = h ∧ r = .v (.int .i64 (entC a b))) := by
 have hl1 : ∀ e : En, lowL 0 (enX e) := fun e => by rw [enX, lowL, lowL, lowL]; exact ⟨Ug _ _, by rw [low]; trivial, trivial⟩
 refine Y9 G hG (by rw [lowL, lowL, lowL, low, low]; exact ⟨hl1 a, hl1 b, trivial⟩) (by rw [low]; trivial) ?_ h
 clear h hl1
 have ht := ticks_d G hG a.clock b.clock ha hb
 refine Y6 Tryz.func97 rfl (Z0 rfl) hG fun hl0 _ => ?_
 simp only [Tryz.ntmps97]
 by_cases hn : a.name = b.name
 · rw [ent_2 hn]
   have F := hn
   repeat' first
    | refine g0 ?_
    | (with_reducible refine Y7 ?_; refine gc rfl rfl rfl ent_156 (ht _) ?_)
   exact ⟨.inr rfl, endD (r := .v (.int .i64 _)) hl0 rfl (by simp) (by simp) rfl (by rw [low]; trivial) ⟨rfl, rfl⟩⟩
 · rw [ent_1 hn]
   unfold J2
   cases hlt : Op.bytesLess a.name.toList b.name.toList
   all_goals
    have F : _ ∧ _ := ⟨hn, hlt⟩
    repeat' first
     | refine g0 ?_
     | (with_reducible refine Y7 ?_; refine gc rfl rfl rfl Yi2 (Yf8 G hG _ _) ?_)
    exact ⟨.inr rfl, endD (r := .v (.int .i64 _)) hl0 rfl (by simp) (by simp) rfl (by rw [low]; trivial) ⟨rfl, rfl⟩⟩
end
end Go.Proofs.YtbhkcbidcfofiaaGreat
