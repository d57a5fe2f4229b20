/-
  What the statements of the chapter share, part 17: PReg, RV4, RV5, RV6.
-/
import Derived.Test.YtbhkcbidcfofiaaGreatY14
import Derived.Test.YtbhkcbidcfofiaaGreatY15
import Derived.Test.YtbhkcbidcfofiaaGreatY16
set_option linter.unusedVariables false
set_option linter.unusedSimpArgs false
set_option maxRecDepth 100000
set_option maxHeartbeats 8000000
namespace Go.Proofs.YtbhkcbidcfofiaaGreat
open _root_.Bool renaming and_eq_true → Z3, false_eq_true → Zc, eq_iff_iff → Zi, not_false → Zj, not_true → Zk
open _root_.Int renaming le_refl → Z9, toNat_natCast → Zd
open _root_.List renaming drop_eq_getElem_cons → Z0, getElem?_eq_getElem → Z1, getElem_mem → Z4, length_eq_zero_iff → Z7, all_eq_true → Z8, drop_eq_nil_of_le → Za, length_map → Zb, length_take → Ze, range → Zh
open _root_.Nat renaming le_of_ble_eq_true → Z2, zero_le → Z6, reduceEqDiff → Zf, reduceLeDiff → Zg
open _root_.Go.Proofs.Tryz renaming prog → Z5
open Go.RowKit
section
def getT : List Tk → Int → Int
 | [], _ => 0
 | t :: r, p => if t.process = p then t.n else getT r p
theorem Vb (t : Tk) (r : List Tk) (p : Int) : getT (t :: r) p = if t.process = p then t.n else getT r p := rfl
def Zm1 (c : List Tk) (p : Int) : Int := if Xm c then getT c p else 0
def allT (c : List Tk) : List Int := (Zh 64).map fun p : Nat => Zm1 c p
def leqT (a b : List Tk) : Bool := (Zh 64).all fun p : Nat => decide (Zm1 a p ≤ Zm1 b p)
def V6 (a b : List Tk) : Bool := Xm a && (Xm b && (leqT a b && !leqT b a))
theorem tickB_iff {last : Int} {t : Tk} : Yg3 last t = true ↔ last < t.process ∧ t.process ≤ 63 ∧ 1 ≤ t.n ∧ t.n ≤ 1000000000000000 := by unfold Yg3; rw [decide_eq_true_eq]
theorem Wb {last : Int} {t : Tk} {r : List Tk} : Xa last (t :: r) = true ↔ (last < t.process ∧ t.process ≤ 63 ∧ 1 ≤ t.n ∧ t.n ≤ 1000000000000000) ∧ Xa t.process r = true := by
 rw [Xa, Z3, tickB_iff]
theorem Zk1 : ∀ {c : List Tk} {last p : Int}, Xa last c = true → p ≤ last → getT c p = 0
 | [], _, _, _, _ => rfl
 | t :: r, last, p, h, hp => by
   rw [Wb] at h
   rw [getT, if_neg (by omega)]
   exact Zk1 h.2 (by omega)
theorem Zc9 : ∀ {c : List Tk} {last : Int} (p : Int), Xa last c = true → 0 ≤ getT c p
 | [], _, _, _ => Z9 _
 | t :: r, last, p, h => by
   rw [Wb] at h
   rw [getT]
   split
   · omega
   · exact Zc9 p h.2
theorem Zi0 {p k : Int} {r : List Tk} : Vw p k r = [] ↔ k ≤ 0 ∧ r = [] := by
 unfold Vw
 by_cases h : 0 < k
 · rw [if_pos h]
   exact ⟨fun h' => absurd h' (by simp), fun h' => absurd h'.1 (by omega)⟩
 · rw [if_neg h]
   exact ⟨fun h' => ⟨by omega, h'⟩, fun h' => h'.2⟩
theorem Za5 {m n : Int} (hn : 0 ≤ n) : Zm9 m n ≤ 0 ↔ m ≤ n := by
 unfold Zm9
 split <;> omega
theorem walk_le (k : Nat) : ∀ (a b : List Tk) (lo : Int), a.length + b.length ≤ k → Xa lo a = true → Xa lo b = true → (Xz Zm9 a b = [] ↔ ∀ p, getT a p ≤ getT b p) := by
 induction k with
 | zero =>
   intro a b lo hk ha hb
   obtain rfl : a = [] := Z7.1 (by omega)
   obtain rfl : b = [] := Z7.1 (by omega)
   rw [Xz]
   exact ⟨fun _ _ => Z9 _, fun _ => rfl⟩
 | succ k ih =>
   intro a b lo hk ha hb
   match a, b, ha, hb with
   | [], [], _, _ =>
     rw [Xz]
     exact ⟨fun _ _ => Z9 _, fun _ => rfl⟩
   | x :: a, [], ha, hb =>
     rw [Wb] at ha
     rw [Xz, Zi0, Za5 (Z9 _)]
     constructor
     · intro h; omega
     · intro h
       have := h x.process
       rw [Vb, if_pos rfl] at this
       have h0 : getT [] x.process = 0 := rfl
       omega
   | [], y :: b, ha, hb =>
     have hb' := hb
     rw [Wb] at hb
     rw [Xz, Zi0, Za5 (by omega)]
     constructor
     · intro _ p
       exact Zc9 p hb'
     · intro _
       refine ⟨by omega, (ih [] b y.process (by simp at hk ⊢; omega) rfl hb.2).2 fun p => Zc9 p hb.2⟩
   | x :: a, y :: b, ha, hb =>
     have ha' := ha
     have hb' := hb
     rw [Wb] at ha hb
     rw [Xz]
     by_cases h1 : x.process < y.process
     · rw [if_pos h1, Zi0, Za5 (Z9 _)]
       constructor
       · intro h; omega
       · intro h
         have := h x.process
         have hg : getT (y :: b) x.process = 0 := Zk1 (last := x.process) (by rw [Wb]; exact ⟨⟨h1, hb.1.2⟩, hb.2⟩) (Z9 _)
         rw [Vb, if_pos rfl, hg] at this
         omega
     · rw [if_neg h1]
       by_cases h2 : y.process < x.process
       · rw [if_pos h2, Zi0, Za5 (by omega)]
         have hx : Xa y.process (x :: a) = true := by rw [Wb]; exact ⟨⟨h2, ha.1.2⟩, ha.2⟩
         rw [ih (x :: a) b y.process (by simp at hk ⊢; omega) hx hb.2]
         constructor
         · rintro ⟨_, h⟩ p
           rw [Vb y b]
           by_cases hp : y.process = p
           · rw [if_pos hp, Zk1 hx (by omega)]; omega
           · rw [if_neg hp]; exact h p
         · intro h
           refine ⟨by omega, fun p => ?_⟩
           have := h p
           rw [Vb y b] at this
           by_cases hp : y.process = p
           · rw [Zk1 hx (by omega)]; exact Zc9 p hb.2
           · rw [if_neg hp] at this; exact this
       · rw [if_neg h2, Zi0, Za5 (by omega)]
         have hxy : x.process = y.process := by omega
         rw [ih a b y.process (by simp at hk ⊢; omega) (by rw [← hxy]; exact ha.2) hb.2]
         constructor
         · rintro ⟨h0, h⟩ p
           rw [Vb y b, Vb x a, hxy]
           by_cases hp : y.process = p
           · rw [if_pos hp, if_pos hp]; exact h0
           · rw [if_neg hp, if_neg hp]; exact h p
         · intro h
           have h3 := h y.process
           rw [Vb y b, Vb x a, hxy, if_pos rfl, if_pos rfl] at h3
           refine ⟨h3, fun p => ?_⟩
           by_cases hp : p ≤ y.process
           · rw [Zk1 (by rw [← hxy]; exact ha.2) hp]
             exact Zc9 p hb.2
           · have := h p
             rw [Vb y b, Vb x a, hxy, if_neg (by omega), if_neg (by omega)] at this
             exact this
theorem getT_far : ∀ {c : List Tk} {last p : Int}, Xa last c = true → 63 < p → getT c p = 0
 | [], _, _, _, _ => rfl
 | t :: r, last, p, h, hp => by
   rw [Wb] at h
   rw [getT, if_neg (by omega)]
   exact getT_far h.2 hp
theorem leq_minus {a b : List Tk} (ha : Xm a = true) (hb : Xm b = true) : leqT a b = true ↔ Jr a b = [] := by
 unfold Jr
 rw [walk_le _ a b (-1) (Nat.le_refl _) ha hb]
 unfold leqT Zm1
 rw [Z8]
 constructor
 · intro h p
   by_cases h1 : p ≤ -1
   · rw [Zk1 ha h1]; exact Zc9 p hb
   · by_cases h2 : 63 < p
     · rw [getT_far ha h2]; exact Zc9 p hb
     · have := h p.toNat (by rw [List.mem_range]; omega)
       rw [decide_eq_true_eq, if_pos ha, if_pos hb, show ((p.toNat : Nat) : Int) = p by omega] at this
       exact this
 · intro h p _
   rw [decide_eq_true_eq, if_pos ha, if_pos hb]
   exact h p
theorem Zi3 {a b : List Tk} (ha : Xm a = true) (hb : Xm b = true) : (Ub a b == 1) = V6 a b ∧ (Ub a b == 2) = V6 b a := by
 unfold Ub V6
 rw [ha, hb, if_neg (by simp)]
 have e1 : leqT a b = decide ((Jr a b).length = 0) := by
  rw [Zi, leq_minus ha hb, decide_eq_true_eq, Z7]
 have e2 : leqT b a = decide ((Jr b a).length = 0) := by
  rw [Zi, leq_minus hb ha, decide_eq_true_eq, Z7]
 rw [e1, e2]
 by_cases h1 : (Jr a b).length = 0 <;> by_cases h2 : (Jr b a).length = 0 <;> simp [h1, h2]
def Jv (list : List En) (i : Nat) (e : En) : Bool :=
 (decide (e.clock.length ≠ 0) && (Xm e.clock && Wo e.name)) && ((match i with
  | 0 => true
  | j + 1 => match list[j]? with
    | some p => decide (entC p e < 0)
    | none => true) && list.all fun f => !V6 e.clock f.clock)
def Zp1 (list : List En) : Nat → List En → Bool
 | _, [] => true
 | i, e :: t => Jv list i e && Zp1 list (i + 1) t
def rentsB (list : List En) : Bool := Zp1 list 0 list
theorem Zs5 (list : List En) : ∀ (k : Nat) (t : List En), Zp1 list k t = true ↔ ∀ i (h : i < t.length), Jv list (k + i) t[i] = true
 | _, [] => ⟨fun _ i h => by simp at h, fun _ => rfl⟩
 | k, e :: t => by
   rw [Zp1, Z3, Zs5 list (k + 1) t]
   constructor
   · rintro ⟨h1, h2⟩ i hi
     cases i with
     | zero => exact h1
     | succ i =>
       have := h2 i (by simp at hi; omega)
       rw [show k + 1 + i = k + (i + 1) by omega] at this
       exact this
   · intro h
     refine ⟨h 0 (by simp), fun i hi => ?_⟩
     have := h (i + 1) (by simp; omega)
     rw [show k + 1 + i = k + (i + 1) by omega]
     exact this
theorem regGo_iff (list : List En) : ∀ (k : Nat) (t : List En), Zs6 list k t = true ↔ ∀ i (h : i < t.length), Zh3 list (k + i) t[i] = true
 | _, [] => ⟨fun _ i h => by simp at h, fun _ => rfl⟩
 | k, e :: t => by
   rw [Zs6, Z3, regGo_iff list (k + 1) t]
   constructor
   · rintro ⟨h1, h2⟩ i hi
     cases i with
     | zero => exact h1
     | succ i =>
       have := h2 i (by simp at hi; omega)
       rw [show k + 1 + i = k + (i + 1) by omega] at this
       exact this
   · intro h
     refine ⟨h 0 (by simp), fun i hi => ?_⟩
     have := h (i + 1) (by simp; omega)
     rw [show k + 1 + i = k + (i + 1) by omega]
     exact this
theorem belowT_self (a : List Tk) : V6 a a = false := by
 unfold V6
 cases leqT a a <;> cases Xm a <;> rfl
theorem rents_reg (list : List En) : rentsB list = regB list := by
 rw [Zi]
 unfold rentsB regB
 rw [Zs5, regGo_iff]
 simp only [Nat.zero_add]
 constructor
 · intro h i hi
   have hc : ∀ k (hk : k < list.length), Xm list[k].clock = true := fun k hk => by
     have := h k hk
     unfold Jv at this
     simp only [Z3] at this
     exact this.1.2.1
   have h1 := h i hi
   unfold Jv at h1
   unfold Zh3
   simp only [Z3] at h1 ⊢
   obtain ⟨⟨a, b, c⟩, d, e⟩ := h1
   refine ⟨⟨⟨⟨a, b⟩, c⟩, ?_⟩, ?_⟩
   · cases i with
     | zero =>
       cases list[0 - 1]? <;> simp
     | succ j =>
       rw [show j + 1 - 1 = j by omega]
       simp only at d
       revert d
       cases hq : list[j]? <;> simp [hq]
   · rw [Z8] at e ⊢
     intro f hf
     obtain ⟨k, hk, rfl⟩ := List.getElem_of_mem hf
     rw [Ze] at hk
     rw [List.getElem_take]
     obtain ⟨q1, q2⟩ := Zi3 (hc i hi) (hc k (by omega))
     have w1 := e _ (Z4 (show k < list.length by omega))
     have h2 := h k (by omega)
     unfold Jv at h2
     simp only [Z3] at h2
     have w2 := Z8.1 h2.2.2 _ (Z4 hi)
     rw [q1, q2]
     revert w1 w2
     cases V6 list[i].clock list[k].clock <;> cases V6 list[k].clock list[i].clock <;> simp
 · intro h i hi
   have hc : ∀ k (hk : k < list.length), Xm list[k].clock = true := fun k hk => by
     have := h k hk
     unfold Zh3 at this
     simp only [Z3] at this
     exact this.1.1.1.2
   have h1 := h i hi
   unfold Zh3 at h1
   unfold Jv
   simp only [Z3] at h1 ⊢
   obtain ⟨⟨⟨⟨a, b⟩, c⟩, d⟩, e⟩ := h1
   refine ⟨⟨a, b, c⟩, ?_, ?_⟩
   · cases i with
     | zero => rfl
     | succ j =>
       rw [show j + 1 - 1 = j by omega] at d
       revert d
       cases hq : list[j]? <;> simp [hq]
   · rw [Z8]
     intro f hf
     obtain ⟨k, hk, rfl⟩ := List.getElem_of_mem hf
     have key : ∀ i k (hi : i < list.length) (hk : k < list.length), k < i → (Ub list[i].clock list[k].clock == 1) = false ∧ (Ub list[i].clock list[k].clock == 2) = false := fun i k hi hk hlt => by
       have h2 := h i hi
       unfold Zh3 at h2
       simp only [Z3] at h2
       have := Z8.1 h2.2 list[k] (by
        rw [List.mem_iff_getElem]
        exact ⟨k, by rw [Ze]; omega, by rw [List.getElem_take]⟩)
       revert this
       cases (Ub list[i].clock list[k].clock == 1) <;> cases (Ub list[i].clock list[k].clock == 2) <;> simp
     rcases Nat.lt_trichotomy k i with hlt | rfl | hlt
     · rw [← (Zi3 (hc i hi) (hc k hk)).1, (key i k hi hk hlt).1]; rfl
     · rw [belowT_self]; rfl
     · rw [← (Zi3 (hc k hk) (hc i hi)).2, (key k i hk hi hlt).2]; rfl
end
section
attribute [local irreducible] on aOp
attribute [local go_sem] decide_true decide_false Zk Zj
attribute [local simp] byD_len
def iG (rows : List (List D)) (T : List Ob) : List Ob := .buf 2 1 rows :: T
section
variable {rows r2 : List (List D)} {T : List Ob} {x y : Ob}
theorem iG_0 : (iG rows T)[0]? = some (.buf 2 1 rows) := rfl
theorem iG_s0 : (iG rows T).set 0 (.buf 2 1 r2) = iG r2 T := rfl
theorem iG_app : iG rows T ++ [x] = iG rows (T ++ [x]) := rfl
theorem iG_len : (iG rows T).length = T.length + 1 := rfl
theorem iG_last : (iG rows (T ++ [x]))[T.length + 1]? = some x := by simp [iG]
end
theorem low_ints2 (m : Nat) (l : List Int) : low m (.sl 1 (l.map intX)) := Xp m l fun x _ => by simp [intX, lowL, low]
theorem Uk (m : Nat) (l : List Tk) : low m (.sl 2 (l.map tkX)) := Xp m l fun t _ => by simp [tkX, lowL, low]
theorem intX_eq2 (z : Int) : intX z = [.v (.int .i64 z)] := rfl
theorem Zz0 (c : List Tk) : (allT c).length = 64 := by unfold allT; simp
theorem allT_at (c : List Tk) {k : Nat} (h : k < 64) : (allT c)[k]? = some (Zm1 c k) := by unfold allT; rw [List.getElem?_map, List.getElem?_range h]; rfl
theorem range_drop {k : Nat} (h : k < 64) : (Zh 64).drop k = k :: (Zh 64).drop (k + 1) := by
 rw [Z0 (by simpa using h), List.getElem_range]
variable (G : Nat → D) (hG : ∀ g, low 0 (G g))
include hG
attribute [local go_sem] Zc Int.reduceEq Int.reduceLE Int.reduceLT Zd Zb Nat.reduceAdd Nat.reduceBEq Zf Zg Nat.reduceMul iG_0 iG_app iG_last iG_len iG_s0 intX_eq2 Zo4
attribute [local go_sem ↓] reduceIte
theorem Zy8 (c : List Tk) (hl : c.length ≤ 9223372036854775807) (h : List Ob) : Does Z5 G 201 h [.sl 2 (c.map tkX)] (fun h' r => h' = h ∧ r = .v (.bool (Xm c))) := by
 unfold Xm
 refine Y6 Tryz.func201 rfl (Z2 rfl) hG fun hl0 _ => ?_
 simp only [Tryz.ntmps201]
 repeat' first
  | refine g0 ?_
  | fail
 refine Yf (fun m e h' => ∃ (k : Nat) (p : Int), k ≤ c.length ∧ m = c.length - k ∧ -1 ≤ p ∧ Xa (-1) c = Xa p (c.drop k) ∧ (k = 0 → p = -1) ∧ (∀ j y, k = j + 1 → c[j]? = some y → p = y.process) ∧ h' = h ∧ e 0 = .sl 2 (c.map tkX) ∧ e 3 = .v (.int .i64 k)) c.length ⟨0, -1, Z6 _, rfl, Z9 _, rfl, fun _ => rfl, fun j y hj => by omega, rfl, rfl, rfl⟩ ?_
 rintro m e h' ⟨k, p, hk, rfl, hp, ho, hp0, hp1, rfl, e0, e3⟩
 by_cases hlt : k < c.length
 · have hx : c[k]? = some c[k] := Z1 hlt
   rw [clock_go (Z0 hlt)] at ho
   generalize c[k] = x at hx ho
   have wk : IntKind.i64.wrap ((k : Int) + 1) = ((k + 1 : Nat) : Int) := IntWalk.i64_in _ (by omega)
   have hnx : ∀ j y, k + 1 = j + 1 → c[j]? = some y → x.process = y.process := fun j y hj hy => by
    obtain rfl : j = k := by omega
    rw [hx] at hy; cases hy; rfl
   rcases Nat.eq_zero_or_pos k with h0 | h0
   · subst h0
     obtain rfl := hp0 rfl
     have F : _ ∧ _ ∧ _ := ⟨e0, e3, wk⟩
     repeat' first
      | (with_reducible refine Ya ?_; refine Y8 mixd (by kernel_rfl) ?_)
      | refine gg ?_
      | refine Two.mk (fun hq => ?_) fun hq => ?_
      | refine Evry.mk fun x hx => ?_
      | (exfalso; omega)
     all_goals first
     | exact ⟨.inr rfl, endD (r := .v (.bool false)) hl0 rfl (by simp) (by simp) rfl (by rw [low]; trivial) ⟨rfl, by rw [ho, show Yg3 (-1) x = false from decide_eq_false (by omega)]; rfl⟩⟩
     | exact ⟨rfl, c.length - 1, by omega, 1, x.process, hlt, rfl, by omega, by rw [ho, show Yg3 (-1) x = true from decide_eq_true (by omega)]; rfl, fun h => by omega, hnx, rfl, e0, rfl⟩
   · obtain ⟨j, rfl⟩ : ∃ j, k = j + 1 := ⟨k - 1, by omega⟩
     have hy : c[j]? = some c[j] := Z1 (by omega)
     have hpy := hp1 j _ rfl hy
     generalize c[j] = y at hy hpy
     subst hpy
     have wm : IntKind.i64.wrap (((j + 1 : Nat) : Int) - 1) = (j : Int) := by rw [show ((j + 1 : Nat) : Int) - 1 = (j : Int) by omega]; exact IntWalk.i64_in _ (by omega)
     have gp : decide ((0 : Int) < ((j + 1 : Nat) : Int)) = true := decide_eq_true (by omega)
     have F : _ ∧ _ ∧ _ ∧ _ ∧ _ := ⟨e0, e3, wk, wm, gp⟩
     repeat' first
      | (with_reducible refine Ya ?_; refine Y8 mixd (by kernel_rfl) ?_)
      | refine gg ?_
      | refine Two.mk (fun hq => ?_) fun hq => ?_
      | (exfalso; omega)
     all_goals first
     | exact ⟨.inr rfl, endD (r := .v (.bool false)) hl0 rfl (by simp) (by simp) rfl (by rw [low]; trivial) ⟨rfl, by rw [ho, show Yg3 y.process x = false from decide_eq_false (by omega)]; rfl⟩⟩
     | exact ⟨rfl, c.length - (j + 1 + 1), by omega, j + 1 + 1, x.process, hlt, rfl, by omega, by rw [ho, show Yg3 y.process x = true from decide_eq_true (by omega)]; rfl, fun h => by omega, hnx, rfl, e0, rfl⟩
 · skip
   have F : _ ∧ _ := ⟨e0, e3⟩
   repeat' first
    | refine gg ?_
    | refine Two.mk (fun hq => ?_) fun hq => ?_
    | refine Evry.mk fun x hx => ?_
    | (exfalso; omega)
   exact ⟨.inr rfl, endD (r := .v (.bool true)) hl0 rfl (by simp) (by simp) rfl (by rw [low]; trivial) ⟨rfl, by rw [ho, Za (by omega)]; rfl⟩⟩
theorem cGet_d (c : List Tk) (p : Int) (hl : c.length ≤ 9223372036854775807) (h : List Ob) : Does Z5 G 266 h [.sl 2 (c.map tkX), .v (.int .i64 p)] (fun h' r => h' = h ∧ r = .v (.int .i64 (Zm1 c p))) := by
 refine Y9 G hG (by rw [lowL, lowL, lowL]; exact ⟨Uk _ _, by rw [low]; trivial, trivial⟩) (by rw [low]; trivial) ?_ h
 clear h
 have hv := Zy8 G hG c hl
 refine Y6 Tryz.func266 rfl (Z2 rfl) hG fun hl0 _ => ?_
 simp only [Tryz.ntmps266]
 unfold Zm1
 cases hcb : Xm c <;> rw [hcb] at hv
 · skip
   repeat' first
    | refine g0 ?_
    | (with_reducible refine Y7 ?_; refine gc rfl rfl rfl Zd0 (hv _) ?_)
   exact ⟨.inr rfl, endD (r := .v (.int .i64 0)) hl0 rfl (by simp) (by simp) rfl (by rw [low]; trivial) ⟨rfl, rfl⟩⟩
 repeat' first
  | refine g0 ?_
  | (with_reducible refine Y7 ?_; refine gc rfl rfl rfl Zd0 (hv _) ?_)
 refine Yf (fun m e h' => ∃ k : Nat, k ≤ c.length ∧ m = c.length - k ∧ getT c p = getT (c.drop k) p ∧ h' = [] ∧ e 0 = .sl 2 (c.map tkX) ∧ e 1 = .v (.int .i64 p) ∧ e 5 = .v (.int .i64 k)) c.length ⟨0, Z6 _, rfl, rfl, rfl, rfl, rfl, rfl⟩ ?_
 rintro m e h' ⟨k, hk, rfl, ho, rfl, e0, e1, e5⟩
 by_cases hlt : k < c.length
 · have hx : c[k]? = some c[k] := Z1 hlt
   rw [Z0 hlt, Vb] at ho
   generalize c[k] = x at hx ho
   have wk : IntKind.i64.wrap ((k : Int) + 1) = ((k + 1 : Nat) : Int) := IntWalk.i64_in _ (by omega)
   have F : _ ∧ _ ∧ _ ∧ _ := ⟨e0, e1, e5, wk⟩
   repeat' first
    | refine gg ?_
    | refine Two.mk (fun hq => ?_) fun hq => ?_
    | (exfalso; omega)
   all_goals first
   | exact ⟨.inr rfl, endD (r := .v (.int .i64 _)) hl0 rfl (by simp) (by simp) rfl (by rw [low]; trivial) ⟨rfl, by rw [if_pos rfl, ho, if_pos (by omega)]⟩⟩
   | exact ⟨rfl, c.length - (k + 1), by omega, k + 1, hlt, rfl, by rw [ho, if_neg (by omega)], rfl, e0, e1, rfl⟩
 · skip
   have F : _ ∧ _ ∧ _ := ⟨e0, e1, e5⟩
   repeat' first
    | refine gg ?_
    | refine Two.mk (fun hq => ?_) fun hq => ?_
    | refine Evry.mk fun x hx => ?_
    | (exfalso; omega)
   exact ⟨.inr rfl, endD (r := .v (.int .i64 0)) hl0 rfl (by simp) (by simp) rfl (by rw [low]; trivial) ⟨rfl, by rw [if_pos rfl, ho, Za (by omega)]; rfl⟩⟩
theorem cAll0 (c : List Tk) (hl : c.length ≤ 9223372036854775807) : Does Z5 G 245 [] [.sl 2 (c.map tkX)] (fun h' r => h' = [.buf 2 1 ((allT c).map intX)] ∧ r = .buf 0 64) := by
 refine Does.only0 hG (low_ints2 _ _) (K := fun h' r => ∃ i, h'[i]? = some (.buf 2 1 ((allT c).map intX)) ∧ r = .buf i 64) ?_ (fun _ _ h => h)
 have hal := Zz0 c
 refine Ji Tryz.func245 rfl (Z2 rfl) ?_
 simp only [Tryz.ntmps245]
 repeat' first
  | refine g0 ?_
  | fail
 refine Vf 2 1 3 rfl ?_
 refine Yf (fun m e h' => ∃ (k : Nat) (T : List Ob), k ≤ 64 ∧ m = 64 - k ∧ h' = iG (((allT c).take k).map intX) T ∧ e 0 = .sl 2 (c.map tkX) ∧ e 3 = .buf 0 ((allT c).take k).length ∧ e 4 = .v (.int .i64 k)) 64 ⟨0, [], by omega, rfl, rfl, rfl, rfl, rfl⟩ ?_
 rintro m e h' ⟨k, T, hk, rfl, rfl, e0, e3, e4⟩
 by_cases hlt : k < 64
 rotate_left
 · obtain rfl : k = 64 := by omega
   rw [List.take_of_length_le (by omega), hal] at e3
   rw [List.take_of_length_le (by omega)]
   have F : _ ∧ _ ∧ _ := ⟨e0, e3, e4⟩
   repeat' first
    | refine gg ?_
    | refine Two.mk (fun hq => ?_) fun hq => ?_
    | (exfalso; omega)
   all_goals first | (exfalso; omega) | exact ⟨.inr rfl, [.buf 0 64], rfl, 0, rfl, rfl⟩
 have hx := allT_at c hlt
 have hg := cGet_d G hG c k hl
 have htk : (allT c).take (k + 1) = (allT c).take k ++ [Zm1 c k] := by rw [List.take_add_one, hx]; rfl
 have wk : IntKind.i64.wrap ((k : Int) + 1) = ((k + 1 : Nat) : Int) := IntWalk.i64_in _ (by omega)
 generalize Zm1 c k = z at hg htk
 have hpl : ((allT c).take k).length ≤ 64 := by rw [Ze]; omega
 generalize (allT c).take k = p at *
 have F : _ ∧ _ ∧ _ ∧ _ := ⟨e0, e3, e4, wk⟩
 repeat' first
  | (with_reducible refine Y7 ?_; refine W1 rfl rfl rfl rfl (by (simp only [go_sem, F]; rfl)) (by simp) (by simp only [go_sem, F]; rfl) (by (simp only [go_sem, F]; rfl)) (by simp) (by (simp [X3, D.one, Value.oneCell']; done)) (by (simp; omega)) ?_)
  | refine gg ?_
  | refine Two.mk (fun hq => ?_) fun hq => ?_
  | (with_reducible refine Y7 ?_; refine gc rfl rfl rfl ent_266 (hg _) ?_)
  | (exfalso; omega)
 all_goals first | (exfalso; omega) | exact ⟨rfl, 64 - (k + 1), by omega, k + 1, _, hlt, rfl, by rw [htk, List.map_append]; rfl, e0, by rw [htk]; simp [upd], rfl⟩
theorem cAll_d (c : List Tk) (hl : c.length ≤ 9223372036854775807) (h : List Ob) : Does Z5 G 245 h [.sl 2 (c.map tkX)] (fun h' r => h' = h ∧ r = .sl 1 ((allT c).map intX)) :=
 Does.gave0 hG (low_ints2 _ _) (by rw [lowL, lowL]; exact ⟨Uk _ _, trivial⟩) (by rw [Zb, Zz0]) (cAll0 G hG c hl) h
theorem cLeq_d (a b : List Tk) (ha : a.length ≤ 9223372036854775807) (hb : b.length ≤ 9223372036854775807) (h : List Ob) : Does Z5 G 224 h [.sl 2 (a.map tkX), .sl 2 (b.map tkX)] (fun h' r => h' = h ∧ r = .v (.bool (leqT a b))) := by
 refine Y9 G hG (by rw [lowL, lowL, lowL]; exact ⟨Uk _ _, Uk _ _, trivial⟩) (by rw [low]; trivial) ?_ h
 clear h
 have h1 := cAll_d G hG a ha
 have h2 := cAll_d G hG b hb
 have hal := Zz0 a
 refine Y6 Tryz.func224 rfl (Z2 rfl) hG fun hl0 _ => ?_
 simp only [Tryz.ntmps224]
 repeat' first
  | refine g0 ?_
  | (with_reducible refine Y7 ?_; first | refine gc rfl rfl rfl ent_245 (h1 _) ?_ | refine gc rfl rfl rfl ent_245 (h2 _) ?_)
 refine Yf (fun m e h' => ∃ k : Nat, k ≤ 64 ∧ m = 64 - k ∧ leqT a b = ((Zh 64).drop k).all (fun p : Nat => decide (Zm1 a p ≤ Zm1 b p)) ∧ h' = [] ∧ e 5 = .sl 1 ((allT a).map intX) ∧ e 6 = .sl 1 ((allT b).map intX) ∧ e 7 = .v (.int .i64 k)) 64 ⟨0, by omega, rfl, rfl, rfl, rfl, rfl, rfl⟩ ?_
 rintro m e h' ⟨k, hk, rfl, ho, rfl, e5, e6, e7⟩
 by_cases hlt : k < 64
 · have hx := allT_at a hlt
   have hy := allT_at b hlt
   rw [range_drop hlt, List.all_cons] at ho
   have wk : IntKind.i64.wrap ((k : Int) + 1) = ((k + 1 : Nat) : Int) := IntWalk.i64_in _ (by omega)
   generalize Zm1 a k = x at hx ho
   generalize Zm1 b k = y at hy ho
   have hbl : (allT b).length = 64 := Zz0 b
   have F : _ ∧ _ ∧ _ ∧ _ ∧ _ ∧ _ := ⟨e5, e6, e7, hal, hbl, wk⟩
   repeat' first
    | (with_reducible refine Ya ?_; refine Y8 mixd (by kernel_rfl) ?_)
    | refine gg ?_
    | refine Two.mk (fun hq => ?_) fun hq => ?_
    | (exfalso; omega)
   all_goals first
   | (exfalso; omega)
   | exact ⟨.inr rfl, endD (r := .v (.bool false)) hl0 rfl (by simp) (by simp) rfl (by rw [low]; trivial) ⟨rfl, by rw [ho, decide_eq_false (by omega)]; rfl⟩⟩
   | exact ⟨rfl, 64 - (k + 1), by omega, k + 1, hlt, rfl, by rw [ho, decide_eq_true (by omega)]; rfl, rfl, e5, e6, rfl⟩
 · skip
   have F : _ ∧ _ ∧ _ ∧ _ := ⟨e5, e6, e7, hal⟩
   repeat' first
    | (with_reducible refine Ya ?_; refine Y8 mixd (by kernel_rfl) ?_)
    | refine gg ?_
    | refine Two.mk (fun hq => ?_) fun hq => ?_
    | refine Evry.mk fun x hx => ?_
    | (exfalso; omega)
   all_goals first | (exfalso; omega) | exact ⟨.inr rfl, endD (r := .v (.bool true)) hl0 rfl (by simp) (by simp) rfl (by rw [low]; trivial) ⟨rfl, by rw [ho, Za (by simp; omega)]; rfl⟩⟩
theorem cBelow_d (a b : List Tk) (ha : a.length ≤ 9223372036854775807) (hb : b.length ≤ 9223372036854775807) (h : List Ob) : Does Z5 G 174 h [.sl 2 (a.map tkX), .sl 2 (b.map tkX)] (fun h' r => h' = h ∧ r = .v (.bool (V6 a b))) := by
 have h1 := Zy8 G hG a ha
 have h2 := Zy8 G hG b hb
 have h3 := cLeq_d G hG a b ha hb
 have h4 := cLeq_d G hG b a hb ha
 unfold V6
 generalize Xm a = x1 at *
 generalize Xm b = x2 at *
 generalize leqT a b = x3 at *
 generalize leqT b a = x4 at *
 refine Y6 Tryz.func174 rfl (Z2 rfl) hG fun hl0 _ => ?_
 simp only [Tryz.ntmps174]
 cases x1
 rotate_left
 cases x2
 rotate_left
 cases x3
 rotate_left
 cases x4
 all_goals
  repeat' first
   | refine g0 ?_
   | (with_reducible refine Y7 ?_; first | refine gc rfl rfl rfl Zd0 (h1 _) ?_ | refine gc rfl rfl rfl Zd0 (h2 _) ?_ | refine gc rfl rfl rfl ent_224 (h3 _) ?_ | refine gc rfl rfl rfl ent_224 (h4 _) ?_)
  all_goals exact ⟨.inr rfl, endD (r := .v (.bool _)) hl0 rfl (by simp) (by simp) rfl (by rw [low]; trivial) ⟨rfl, rfl⟩⟩
end
section
attribute [local irreducible] on aOp
attribute [local go_sem] decide_true decide_false Zk Zj
attribute [local simp] byD_len
def lenI (m n : Nat) : Int := if m = n then 0 else if m < n then -1 else 1
theorem Yp3 {α : Type} (c : α → α → Int) {A B : List α} {k : Nat} (h1 : k ≤ A.length) (h2 : k ≤ B.length) (h : A.length ≤ k ∨ B.length ≤ k) : lexC c (A.drop k) (B.drop k) = lenI A.length B.length := by
 unfold lenI
 by_cases ha : A.length ≤ k
 · rw [Zq2 c A B k ha]
   by_cases hb : k < B.length
   · rw [if_pos hb, if_neg (by omega), if_pos (by omega)]
   · rw [if_neg hb, if_pos (by omega)]
 · rw [Zq1 c A B k (by omega) (by omega), if_neg (by omega), if_neg (by omega)]
theorem cmpI_ne {a b : Int} (h : ¬ a = b) : cmpI a b = if a < b then -1 else 1 := by
 unfold cmpI
 by_cases hl : a < b
 · rw [if_pos hl, if_pos hl]
 · rw [if_neg hl, if_neg hl, if_pos (by omega)]
theorem Yr4 {a b : Int} (h : a = b) : cmpI a b = 0 := by unfold cmpI; rw [if_neg (by omega), if_neg (by omega)]
theorem tick_1 {x y : Tk} (h : ¬ x.process = y.process) : Vz x y = if x.process < y.process then -1 else 1 := by
 unfold Vz; simp only [orI, cmpI_ne h]; by_cases hl : x.process < y.process <;> simp [hl]
theorem tick_2 {x y : Tk} (h : x.process = y.process) (h2 : ¬ x.n = y.n) : Vz x y = if x.n < y.n then -1 else 1 := by
 unfold Vz; simp only [orI, Yr4 h, cmpI_ne h2]; by_cases hl : x.n < y.n <;> simp [hl]
theorem tick_3 {x y : Tk} (h : x.process = y.process) (h2 : x.n = y.n) : Vz x y = 0 := by
 unfold Vz; simp only [orI, Yr4 h, Yr4 h2]; rfl
theorem ite_ne {P : Prop} [Decidable P] (z : Int) : (if (if P then (-1 : Int) else 1) ≠ 0 then (if P then (-1 : Int) else 1) else z) = if P then -1 else 1 := by by_cases h : P <;> simp [h]
theorem strC_ne {a b : ByteArray} (h : ¬ a = b) : strC a b = if J0 a b then -1 else 1 := by unfold strC; rw [if_neg h]
theorem strC_self (a : ByteArray) : strC a a = 0 := by
 unfold strC
 have : J0 a a = false := by rw [J0, bl_eqV, decide_eq_false_iff_not]; exact List.lt_irrefl _
 rw [this]; simp
theorem ent_1 {a b : En} (h : ¬ a.name = b.name) : entC a b = if J0 a.name b.name then -1 else 1 := by
 unfold entC; simp only [orI, strC_ne h]; cases J0 a.name b.name <;> rfl
theorem ent_2 {a b : En} (h : a.name = b.name) : entC a b = lexC Vz a.clock b.clock := by
 unfold entC; simp only [orI, h, strC_self]; split <;> simp_all
variable (G : Nat → D) (hG : ∀ g, low 0 (G g))
include hG
attribute [local go_sem] Zc Int.reduceEq Int.reduceLE Int.reduceLT Zd Zb Nat.reduceAdd Nat.reduceBEq Zf Zg Nat.reduceMul Vc Zo4
attribute [local go_sem ↓] reduceIte
theorem Yh8 (b : Bool) (h : List Ob) : Does Z5 G 95 h [.v (.bool b)] (fun h' r => h' = h ∧ r = .v (.int .i64 (if b then -1 else 1))) := by
 refine Y6 Tryz.func95 rfl (Z2 rfl) hG fun hl0 _ => ?_
 simp only [Tryz.ntmps95]
 cases b
 all_goals
  repeat' first
   | refine g0 ?_
   | fail
  exact ⟨.inr rfl, endD (r := .v (.int .i64 _)) hl0 rfl (by simp) (by simp) rfl (by rw [low]; trivial) ⟨rfl, rfl⟩⟩
theorem lens_d (m n : Nat) (h : List Ob) : Does Z5 G 96 h [.v (.int .i64 m), .v (.int .i64 n)] (fun h' r => h' = h ∧ r = .v (.int .i64 (lenI m n))) := by
 refine Y6 Tryz.func96 rfl (Z2 rfl) hG fun hl0 _ => ?_
 simp only [Tryz.ntmps96]
 unfold lenI
 repeat' first
  | refine gg ?_
  | refine Two.mk (fun hq => ?_) fun hq => ?_
  | (with_reducible refine Y7 ?_; refine gc rfl rfl rfl Yk0 (Yh8 G hG _ _) ?_)
 all_goals first
 | (exfalso; omega)
 | exact ⟨.inr rfl, endD (r := .v (.int .i64 0)) hl0 rfl (by simp) (by simp) rfl (by rw [low]; trivial) ⟨rfl, by rw [if_pos (by omega)]⟩⟩
 | exact ⟨.inr rfl, endD (r := .v (.int .i64 (-1))) hl0 rfl (by simp) (by simp) rfl (by rw [low]; trivial) ⟨rfl, by rw [if_neg (by omega), if_pos (by omega)]⟩⟩
 | exact ⟨.inr rfl, endD (r := .v (.int .i64 1)) hl0 rfl (by simp) (by simp) rfl (by rw [low]; trivial) ⟨rfl, by rw [if_neg (by omega), if_neg (by omega)]⟩⟩
theorem ticks_d (a b : List Tk) (ha : a.length ≤ 9223372036854775807) (hb : b.length ≤ 9223372036854775807) (h : List Ob) : Does Z5 G 156 h [.sl 2 (a.map tkX), .sl 2 (b.map tkX)] (fun h' r => h' = h ∧ r = .v (.int .i64 (lexC Vz a b))) := by
 refine Y9 G hG (by rw [lowL, lowL, lowL]; exact ⟨Uk _ _, Uk _ _, trivial⟩) (by rw [low]; trivial) ?_ h
 clear h
 refine Y6 Tryz.func156 rfl (Z2 rfl) hG fun hl0 _ => ?_
 simp only [Tryz.ntmps156]
 repeat' first
  | refine g0 ?_
  | fail
 refine Yf (fun m e h' => ∃ k : Nat, k ≤ a.length ∧ k ≤ b.length ∧ m = a.length - k ∧ lexC Vz a b = lexC Vz (a.drop k) (b.drop k) ∧ h' = [] ∧ e 0 = .sl 2 (a.map tkX) ∧ e 1 = .sl 2 (b.map tkX) ∧ e 5 = .v (.int .i64 k)) a.length ⟨0, Z6 _, Z6 _, rfl, rfl, rfl, rfl, rfl, rfl⟩ ?_
 rintro m e h' ⟨k, hka, hkb, rfl, ho, rfl, e0, e1, e5⟩
 by_cases hlt : k < a.length ∧ k < b.length
 · have hx : a[k]? = some (a[k]'hlt.1) := Z1 hlt.1
   have hy : b[k]? = some (b[k]'hlt.2) := Z1 hlt.2
   rw [Zv7 (Z0 hlt.1) (Z0 hlt.2)] at ho
   generalize (a[k]'hlt.1) = x at hx ho
   generalize (b[k]'hlt.2) = y at hy ho
   have wk : IntKind.i64.wrap ((k : Int) + 1) = ((k + 1 : Nat) : Int) := IntWalk.i64_in _ (by omega)
   by_cases hp : x.process = y.process
   · by_cases hn : x.n = y.n
     · rw [tick_3 hp hn] at ho
       have F : _ ∧ _ ∧ _ ∧ _ ∧ _ ∧ _ := ⟨e0, e1, e5, wk, hp, hn⟩
       repeat' first
        | (with_reducible refine Ya ?_; refine Y8 mixd (by kernel_rfl) ?_)
        | refine gg ?_
        | refine Two.mk (fun hq => ?_) fun hq => ?_
        | (exfalso; omega)
       all_goals first | (exfalso; omega) | exact ⟨rfl, a.length - (k + 1), by omega, k + 1, by omega, by omega, rfl, ho, rfl, e0, e1, rfl⟩
     · rw [tick_2 hp hn, ite_ne] at ho
       have F : _ ∧ _ ∧ _ ∧ _ ∧ _ ∧ _ := ⟨e0, e1, e5, wk, hp, hn⟩
       repeat' first
        | (with_reducible refine Ya ?_; refine Y8 mixd (by kernel_rfl) ?_)
        | refine gg ?_
        | refine Two.mk (fun hq => ?_) fun hq => ?_
        | (with_reducible refine Xv ?_; refine aq2 rfl rfl rfl Yk0 (Yh8 G hG _ _) ?_)
        | (exfalso; omega)
       all_goals first | (exfalso; omega) | (rw [if_pos (by omega)] at ho; exact ⟨.inr rfl, endD (r := .v (.int .i64 (-1))) hl0 rfl (by simp) (by simp) rfl (by rw [low]; trivial) ⟨rfl, by rw [ho]⟩⟩) | (rw [if_neg (by omega)] at ho; exact ⟨.inr rfl, endD (r := .v (.int .i64 1)) hl0 rfl (by simp) (by simp) rfl (by rw [low]; trivial) ⟨rfl, by rw [ho]⟩⟩)
   · rw [tick_1 hp, ite_ne] at ho
     have F : _ ∧ _ ∧ _ ∧ _ ∧ _ := ⟨e0, e1, e5, wk, hp⟩
     repeat' first
      | (with_reducible refine Ya ?_; refine Y8 mixd (by kernel_rfl) ?_)
      | refine gg ?_
      | refine Two.mk (fun hq => ?_) fun hq => ?_
      | (with_reducible refine Xv ?_; refine aq2 rfl rfl rfl Yk0 (Yh8 G hG _ _) ?_)
      | (exfalso; omega)
     all_goals first | (exfalso; omega) | (rw [if_pos (by omega)] at ho; exact ⟨.inr rfl, endD (r := .v (.int .i64 (-1))) hl0 rfl (by simp) (by simp) rfl (by rw [low]; trivial) ⟨rfl, by rw [ho]⟩⟩) | (rw [if_neg (by omega)] at ho; exact ⟨.inr rfl, endD (r := .v (.int .i64 1)) hl0 rfl (by simp) (by simp) rfl (by rw [low]; trivial) ⟨rfl, by rw [ho]⟩⟩)
 · rw [Yp3 Vz hka hkb (by omega)] at ho
   have F : _ ∧ _ ∧ _ := ⟨e0, e1, e5⟩
   repeat' first
    | (with_reducible refine Ya ?_; refine Y8 mixd (by kernel_rfl) ?_)
    | refine gg ?_
    | refine Two.mk (fun hq => ?_) fun hq => ?_
    | refine Evry.mk fun x hx => ?_
    | (with_reducible refine Y7 ?_; refine gc rfl rfl rfl ent_96 (lens_d G hG a.length b.length _) ?_)
    | (exfalso; omega)
   all_goals first | (exfalso; omega) | exact ⟨.inr rfl, endD (r := .v (.int .i64 (lenI a.length b.length))) hl0 rfl (by simp) (by simp) rfl (by rw [low]; trivial) ⟨rfl, by rw [ho]⟩⟩
theorem ents_d (a b : En) (ha : a.clock.length ≤ 9223372036854775807) (hb : b.clock.length ≤ 9223372036854775807) (h : List Ob) : Does Z5 G 97 h [.agg (enX a), .agg (enX b)] (fun h' r => h' = h ∧ r = .v (.int .i64 (entC a b))) := by
 have hl1 : ∀ e : En, lowL 0 (enX e) := fun e => by rw [enX, lowL, lowL, lowL]; exact ⟨Uk _ _, by rw [low]; trivial, trivial⟩
 refine Y9 G hG (by rw [lowL, lowL, lowL, low, low]; exact ⟨hl1 a, hl1 b, trivial⟩) (by rw [low]; trivial) ?_ h
 clear h hl1
 have ht := ticks_d G hG a.clock b.clock ha hb
 refine Y6 Tryz.func97 rfl (Z2 rfl) hG fun hl0 _ => ?_
 simp only [Tryz.ntmps97]
 by_cases hn : a.name = b.name
 · rw [ent_2 hn]
   have F := hn
   repeat' first
    | refine g0 ?_
    | (with_reducible refine Y7 ?_; refine gc rfl rfl rfl ent_156 (ht _) ?_)
   exact ⟨.inr rfl, endD (r := .v (.int .i64 _)) hl0 rfl (by simp) (by simp) rfl (by rw [low]; trivial) ⟨rfl, rfl⟩⟩
 · rw [ent_1 hn]
   unfold J0
   cases hlt : Op.bytesLess a.name.toList b.name.toList
   all_goals
    have F : _ ∧ _ := ⟨hn, hlt⟩
    repeat' first
     | refine g0 ?_
     | (with_reducible refine Y7 ?_; refine gc rfl rfl rfl Yk0 (Yh8 G hG _ _) ?_)
    exact ⟨.inr rfl, endD (r := .v (.int .i64 _)) hl0 rfl (by simp) (by simp) rfl (by rw [low]; trivial) ⟨rfl, rfl⟩⟩
end
section
set_option maxHeartbeats 16000000
attribute [local irreducible] on aOp
attribute [local go_sem] decide_true decide_false Zk Zj
attribute [local simp] byD_len
theorem lenI_ne {m n : Nat} (h : ¬ m = n) : lenI m n ≠ 0 := by unfold lenI; rw [if_neg h]; split <;> decide
variable (G : Nat → D) (hG : ∀ g, low 0 (G g))
include hG
attribute [local go_sem] Zc Int.reduceEq Int.reduceLE Int.reduceLT Zd Zb Nat.reduceAdd Nat.reduceBEq Zf Zg Nat.reduceMul Vc Xt
attribute [local go_sem ↓] reduceIte
theorem rcmp_va (n : Nat) : ∀ (a b : Val), SizeOf.sizeOf a ≤ n → VSm a → VSm b → ∀ (h : List Ob), Does Z5 G 46 h [.agg (vaX a), .agg (vaX b)] (fun h' r => h' = h ∧ r = .v (.int .i64 (valC a b))) := by
 induction n with
 | zero => intro a b hn; cases a; simp at hn
 | succ n ih =>
 intro a b hsz sa sb h
 refine Y9 G hG (by rw [lowL, lowL, lowL, low, low]; exact ⟨Yd _ a, Yd _ b, trivial⟩) (by rw [low]; trivial) ?_ h
 clear h
 have hpp : ∀ x ∈ a.parts, ∀ y ∈ b.parts, ∀ h, Does Z5 G 46 h [.agg (vaX x), .agg (vaX y)] (fun h' r => h' = h ∧ r = .v (.int .i64 (valC x y))) := fun x hx y hy => ih x y (by
   have := List.sizeOf_lt_of_mem hx
   cases a with
   | mk m ns ps es => simp only [Val.parts] at this; simp only [Val.mk.sizeOf_spec] at hsz; omega) (sa.part x hx) (sb.part y hy)
 have hee : ∀ x ∈ a.entries, ∀ y ∈ b.entries, ∀ h, Does Z5 G 97 h [.agg (enX x), .agg (enX y)] (fun h' r => h' = h ∧ r = .v (.int .i64 (entC x y))) := fun x hx y hy => ents_d G hG x y (sa.ents x hx).1 (sb.ents y hy).1
 have sn1 := sa.names
 have sn2 := sb.names
 have sp1 := sa.parts
 have sp2 := sb.parts
 have se1 := sa.entries
 have se2 := sb.entries
 rw [Y5 a, Y5 b, Ze4 a b]
 generalize a.n = p
 generalize b.n = q
 refine Y6 Tryz.func46 rfl (Z2 rfl) hG fun hl0 _ => ?_
 simp only [Tryz.ntmps46]
 by_cases hn : p = q
 rotate_left
 · rw [cmpI_ne hn, ite_ne]
   have F := hn
   repeat' first
    | refine gg ?_
    | refine Two.mk (fun hq => ?_) fun hq => ?_
    | (with_reducible refine Y7 ?_; refine gc rfl rfl rfl Yk0 (Yh8 G hG _ _) ?_)
   all_goals first | (exfalso; omega) | exact ⟨.inr rfl, endD (r := .v (.int .i64 (-1))) hl0 rfl (by simp) (by simp) rfl (by rw [low]; trivial) ⟨rfl, by rw [if_pos (by omega)]⟩⟩ | exact ⟨.inr rfl, endD (r := .v (.int .i64 1)) hl0 rfl (by simp) (by simp) rfl (by rw [low]; trivial) ⟨rfl, by rw [if_neg (by omega)]⟩⟩
 subst hn
 have hnz : ¬ cmpI p p ≠ 0 := fun q => q (Yr4 rfl)
 rw [if_neg hnz]
 repeat' first
  | refine g0 ?_
  | fail
 refine Yf (fun m e h' => ∃ k : Nat, k ≤ a.names.length ∧ k ≤ b.names.length ∧ m = a.names.length - k ∧ lexC strC a.names b.names = lexC strC (a.names.drop k) (b.names.drop k) ∧ h' = [.cells [.v (.int .i64 p), .sl 1 (a.names.map strX), .sl 4 (a.parts.map vaX), .sl 2 (a.entries.map enX)], .cells [.v (.int .i64 p), .sl 1 (b.names.map strX), .sl 4 (b.parts.map vaX), .sl 2 (b.entries.map enX)]] ∧ e 2 = .ptr 0 0 ∧ e 3 = .ptr 1 0 ∧ e 5 = .v (.int .i64 k)) a.names.length ⟨0, Z6 _, Z6 _, rfl, rfl, rfl, rfl, rfl, rfl⟩ ?_
 clear hnz
 rintro m e h' ⟨k, hka, hkb, rfl, ho, rfl, e2, e3, e5⟩
 by_cases hlt : k < a.names.length ∧ k < b.names.length
 · have hx : a.names[k]? = some (a.names[k]'hlt.1) := Z1 hlt.1
   have hy : b.names[k]? = some (b.names[k]'hlt.2) := Z1 hlt.2
   have hxm : (a.names[k]'hlt.1) ∈ a.names := Z4 _
   have hym : (b.names[k]'hlt.2) ∈ b.names := Z4 _
   rw [Zv7 (Z0 hlt.1) (Z0 hlt.2)] at ho
   generalize (a.names[k]'hlt.1) = x at hx hxm ho
   generalize (b.names[k]'hlt.2) = y at hy hym ho
   have wk : IntKind.i64.wrap ((k : Int) + 1) = ((k + 1 : Nat) : Int) := IntWalk.i64_in _ (by omega)
   by_cases hq1 : x = y
   · subst hq1
     rw [strC_self, if_neg (by simp)] at ho
     have F : _ ∧ _ ∧ _ ∧ _ := ⟨e2, e3, e5, wk⟩
     repeat' first
      | (with_reducible refine Ya ?_; refine Y8 mixd (by kernel_rfl) ?_)
      | refine gg ?_
      | refine Two.mk (fun hq => ?_) fun hq => ?_
      | (exfalso; omega)
     all_goals first | (exfalso; omega) | exact ⟨rfl, a.names.length - (k + 1), by omega, k + 1, by omega, by omega, rfl, ho, rfl, e2, e3, rfl⟩
   · rw [strC_ne hq1] at ho
     unfold J0 at ho
     cases hlq : Op.bytesLess x.toList y.toList <;> rw [hlq] at ho
     all_goals
      have F : _ ∧ _ ∧ _ ∧ _ ∧ _ ∧ _ := ⟨e2, e3, e5, wk, hq1, hlq⟩
      repeat' first
       | (with_reducible refine Ya ?_; refine Y8 mixd (by kernel_rfl) ?_)
       | refine gg ?_
       | refine Two.mk (fun hq => ?_) fun hq => ?_
       | (with_reducible refine Xv ?_; refine aq2 rfl rfl rfl Yk0 (Yh8 G hG _ _) ?_)
       | (exfalso; omega)
      all_goals first | (exfalso; omega) | exact ⟨.inr rfl, endD (r := .v (.int .i64 _)) hl0 rfl (by simp) (by simp) rfl (by rw [low]; trivial) ⟨rfl, by rw [ho]; rfl⟩⟩
 rw [Yp3 strC hka hkb (by omega)] at ho
 by_cases hl : a.names.length = b.names.length
 rotate_left
 · have hne := lenI_ne hl
   have hli : ¬ (a.names.length : Int) = (b.names.length : Int) := by omega
   rw [ho, if_pos hne]
   have F : _ ∧ _ ∧ _ ∧ _ := ⟨e2, e3, e5, hli⟩
   repeat' first
    | (with_reducible refine Ya ?_; refine Y8 mixd (by kernel_rfl) ?_)
    | refine gg ?_
    | refine Two.mk (fun hq => ?_) fun hq => ?_
    | refine Evry.mk fun x hx => ?_
    | (with_reducible refine Y7 ?_; refine gc rfl rfl rfl ent_96 (lens_d G hG a.names.length b.names.length _) ?_)
    | (exfalso; omega)
   all_goals first | (exfalso; omega) | exact ⟨.inr rfl, endD (r := .v (.int .i64 (lenI a.names.length b.names.length))) hl0 rfl (by simp) (by simp) rfl (by rw [low]; trivial) ⟨rfl, rfl⟩⟩
 have hli : (a.names.length : Int) = (b.names.length : Int) := by omega
 have hz : lenI a.names.length b.names.length = 0 := by unfold lenI; rw [if_pos hl]
 rw [ho, hz, if_neg (by simp)]
 have F : _ ∧ _ ∧ _ ∧ _ := ⟨e2, e3, e5, hli⟩
 repeat' first
  | (with_reducible refine Ya ?_; refine Y8 mixd (by kernel_rfl) ?_)
  | refine gg ?_
  | refine Two.mk (fun hq => ?_) fun hq => ?_
  | refine Evry.mk fun x hx => ?_
  | (exfalso; omega)
 all_goals try (exfalso; omega)
 refine Yf (fun m e h' => ∃ k : Nat, k ≤ a.parts.length ∧ k ≤ b.parts.length ∧ m = a.parts.length - k ∧ lexC valC a.parts b.parts = lexC valC (a.parts.drop k) (b.parts.drop k) ∧ h' = [.cells [.v (.int .i64 p), .sl 1 (a.names.map strX), .sl 4 (a.parts.map vaX), .sl 2 (a.entries.map enX)], .cells [.v (.int .i64 p), .sl 1 (b.names.map strX), .sl 4 (b.parts.map vaX), .sl 2 (b.entries.map enX)]] ∧ e 2 = .ptr 0 0 ∧ e 3 = .ptr 1 0 ∧ e 6 = .v (.int .i64 k)) a.parts.length ⟨0, Z6 _, Z6 _, rfl, rfl, rfl, e2, e3, rfl⟩ ?_
 (try clear F); clear hlt ho hka hkb hl hli hz e2 e3 e5 e
 rintro m e h' ⟨k, hka, hkb, rfl, ho, rfl, e2, e3, e6⟩
 by_cases hlt : k < a.parts.length ∧ k < b.parts.length
 · have hx : a.parts[k]? = some (a.parts[k]'hlt.1) := Z1 hlt.1
   have hy : b.parts[k]? = some (b.parts[k]'hlt.2) := Z1 hlt.2
   have hxm : (a.parts[k]'hlt.1) ∈ a.parts := Z4 _
   have hym : (b.parts[k]'hlt.2) ∈ b.parts := Z4 _
   rw [Zv7 (Z0 hlt.1) (Z0 hlt.2)] at ho
   generalize (a.parts[k]'hlt.1) = x at hx hxm ho
   generalize (b.parts[k]'hlt.2) = y at hy hym ho
   have wk : IntKind.i64.wrap ((k : Int) + 1) = ((k + 1 : Nat) : Int) := IntWalk.i64_in _ (by omega)
   have hpc := hpp x hxm y hym
   generalize valC x y = c at hpc ho
   simp only [Y5 x, Y5 y] at hpc
   by_cases hq1 : c = 0
   · rw [if_neg (by simp [hq1])] at ho
     have F : _ ∧ _ ∧ _ ∧ _ ∧ _ ∧ _ ∧ _ := ⟨e2, e3, e6, Y5 x, Y5 y, wk, hq1⟩
     repeat' first
      | (with_reducible refine Ya ?_; refine Y8 mixd (by kernel_rfl) ?_)
      | refine gg ?_
      | refine Two.mk (fun hq => ?_) fun hq => ?_
      | (with_reducible refine Xv ?_; refine aq2 rfl rfl rfl ent_46 (hpc _) ?_)
      | (exfalso; omega)
     all_goals first | (exfalso; omega) | exact ⟨rfl, a.parts.length - (k + 1), by omega, k + 1, by omega, by omega, rfl, ho, rfl, e2, e3, rfl⟩
   · rw [if_pos hq1] at ho
     have F : _ ∧ _ ∧ _ ∧ _ ∧ _ ∧ _ ∧ _ := ⟨e2, e3, e6, Y5 x, Y5 y, wk, hq1⟩
     repeat' first
      | (with_reducible refine Ya ?_; refine Y8 mixd (by kernel_rfl) ?_)
      | refine gg ?_
      | refine Two.mk (fun hq => ?_) fun hq => ?_
      | (with_reducible refine Xv ?_; refine aq2 rfl rfl rfl ent_46 (hpc _) ?_)
      | (exfalso; omega)
     all_goals first | (exfalso; omega) | exact ⟨.inr rfl, endD (r := .v (.int .i64 c)) hl0 rfl (by simp) (by simp) rfl (by rw [low]; trivial) ⟨rfl, by rw [ho, if_pos hq1]⟩⟩
 rw [Yp3 valC hka hkb (by omega)] at ho
 by_cases hl : a.parts.length = b.parts.length
 rotate_left
 · have hne := lenI_ne hl
   have hli : ¬ (a.parts.length : Int) = (b.parts.length : Int) := by omega
   rw [ho, if_pos hne]
   have F : _ ∧ _ ∧ _ ∧ _ := ⟨e2, e3, e6, hli⟩
   repeat' first
    | (with_reducible refine Ya ?_; refine Y8 mixd (by kernel_rfl) ?_)
    | refine gg ?_
    | refine Two.mk (fun hq => ?_) fun hq => ?_
    | refine Evry.mk fun x hx => ?_
    | (with_reducible refine Y7 ?_; refine gc rfl rfl rfl ent_96 (lens_d G hG a.parts.length b.parts.length _) ?_)
    | (exfalso; omega)
   all_goals first | (exfalso; omega) | exact ⟨.inr rfl, endD (r := .v (.int .i64 (lenI a.parts.length b.parts.length))) hl0 rfl (by simp) (by simp) rfl (by rw [low]; trivial) ⟨rfl, rfl⟩⟩
 have hli : (a.parts.length : Int) = (b.parts.length : Int) := by omega
 have hz : lenI a.parts.length b.parts.length = 0 := by unfold lenI; rw [if_pos hl]
 rw [ho, hz, if_neg (by simp)]
 have F : _ ∧ _ ∧ _ ∧ _ := ⟨e2, e3, e6, hli⟩
 repeat' first
  | (with_reducible refine Ya ?_; refine Y8 mixd (by kernel_rfl) ?_)
  | refine gg ?_
  | refine Two.mk (fun hq => ?_) fun hq => ?_
  | refine Evry.mk fun x hx => ?_
  | (exfalso; omega)
 all_goals try (exfalso; omega)
 refine Yf (fun m e h' => ∃ k : Nat, k ≤ a.entries.length ∧ k ≤ b.entries.length ∧ m = a.entries.length - k ∧ lexC entC a.entries b.entries = lexC entC (a.entries.drop k) (b.entries.drop k) ∧ h' = [.cells [.v (.int .i64 p), .sl 1 (a.names.map strX), .sl 4 (a.parts.map vaX), .sl 2 (a.entries.map enX)], .cells [.v (.int .i64 p), .sl 1 (b.names.map strX), .sl 4 (b.parts.map vaX), .sl 2 (b.entries.map enX)]] ∧ e 2 = .ptr 0 0 ∧ e 3 = .ptr 1 0 ∧ e 8 = .v (.int .i64 k)) a.entries.length ⟨0, Z6 _, Z6 _, rfl, rfl, rfl, e2, e3, rfl⟩ ?_
 (try clear F); clear hlt ho hka hkb hl hli hz e2 e3 e6 e
 rintro m e h' ⟨k, hka, hkb, rfl, ho, rfl, e2, e3, e8⟩
 by_cases hlt : k < a.entries.length ∧ k < b.entries.length
 · have hx : a.entries[k]? = some (a.entries[k]'hlt.1) := Z1 hlt.1
   have hy : b.entries[k]? = some (b.entries[k]'hlt.2) := Z1 hlt.2
   have hxm : (a.entries[k]'hlt.1) ∈ a.entries := Z4 _
   have hym : (b.entries[k]'hlt.2) ∈ b.entries := Z4 _
   rw [Zv7 (Z0 hlt.1) (Z0 hlt.2)] at ho
   generalize (a.entries[k]'hlt.1) = x at hx hxm ho
   generalize (b.entries[k]'hlt.2) = y at hy hym ho
   have wk : IntKind.i64.wrap ((k : Int) + 1) = ((k + 1 : Nat) : Int) := IntWalk.i64_in _ (by omega)
   have hpc := hee x hxm y hym
   generalize entC x y = c at hpc ho
   simp only [Vc] at hpc
   by_cases hq1 : c = 0
   · rw [if_neg (by simp [hq1])] at ho
     have F : _ ∧ _ ∧ _ ∧ _ ∧ _ := ⟨e2, e3, e8, wk, hq1⟩
     repeat' first
      | (with_reducible refine Ya ?_; refine Y8 mixd (by kernel_rfl) ?_)
      | refine gg ?_
      | refine Two.mk (fun hq => ?_) fun hq => ?_
      | (with_reducible refine Xv ?_; refine aq2 rfl rfl rfl ent_97 (hpc _) ?_)
      | (exfalso; omega)
     all_goals first | (exfalso; omega) | exact ⟨rfl, a.entries.length - (k + 1), by omega, k + 1, by omega, by omega, rfl, ho, rfl, e2, e3, rfl⟩
   · rw [if_pos hq1] at ho
     have F : _ ∧ _ ∧ _ ∧ _ ∧ _ := ⟨e2, e3, e8, wk, hq1⟩
     repeat' first
      | (with_reducible refine Ya ?_; refine Y8 mixd (by kernel_rfl) ?_)
      | refine gg ?_
      | refine Two.mk (fun hq => ?_) fun hq => ?_
      | (with_reducible refine Xv ?_; refine aq2 rfl rfl rfl ent_97 (hpc _) ?_)
      | (exfalso; omega)
     all_goals first | (exfalso; omega) | exact ⟨.inr rfl, endD (r := .v (.int .i64 c)) hl0 rfl (by simp) (by simp) rfl (by rw [low]; trivial) ⟨rfl, by rw [ho]⟩⟩
 rw [Yp3 entC hka hkb (by omega)] at ho
 rw [ho]
 have F : _ ∧ _ ∧ _ := ⟨e2, e3, e8⟩
 repeat' first
  | (with_reducible refine Ya ?_; refine Y8 mixd (by kernel_rfl) ?_)
  | refine gg ?_
  | refine Two.mk (fun hq => ?_) fun hq => ?_
  | refine Evry.mk fun x hx => ?_
  | (with_reducible refine Y7 ?_; refine gc rfl rfl rfl ent_96 (lens_d G hG a.entries.length b.entries.length _) ?_)
  | (exfalso; omega)
 all_goals first | (exfalso; omega) | exact ⟨.inr rfl, endD (r := .v (.int .i64 (lenI a.entries.length b.entries.length))) hl0 rfl (by simp) (by simp) rfl (by rw [low]; trivial) ⟨rfl, rfl⟩⟩
theorem Zp0 (a b : Val) (sa : VSm a) (sb : VSm b) (h : List Ob) : Does Z5 G 23 h [.agg (vaX a), .agg (vaX b)] (fun h' r => h' = h ∧ r = .v (.bool (decide (valC a b = 0)))) := by
 refine Y9 G hG (by rw [lowL, lowL, lowL, low, low]; exact ⟨Yd _ a, Yd _ b, trivial⟩) (by rw [low]; trivial) ?_ h
 clear h
 have hc := rcmp_va G hG _ a b (Nat.le_refl _) sa sb
 generalize valC a b = c at *
 simp only [Y5] at hc
 refine Y6 Tryz.func23 rfl (Z2 rfl) hG fun hl0 _ => ?_
 simp only [Tryz.ntmps23]
 have F := Y5
 repeat' first
  | refine gg ?_
  | refine Two.mk (fun hq => ?_) fun hq => ?_
  | (with_reducible refine Y7 ?_; refine gc rfl rfl rfl ent_46 (hc _) ?_)
 all_goals exact ⟨.inr rfl, endV hl0 rfl rfl ⟨rfl, by first | rw [decide_eq_true hq] | rw [decide_eq_false hq] | rfl⟩⟩
end
end Go.Proofs.YtbhkcbidcfofiaaGreat
