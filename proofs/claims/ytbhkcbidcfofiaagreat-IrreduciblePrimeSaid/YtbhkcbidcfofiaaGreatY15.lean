/-
  What the statements of the chapter share, part 15: VA1, VN1, NT, RV1, LA2, LB1, CL0, CL2, OF0, OF2, BO, SHS.
-/
import Derived.Test.YtbhkcbidcfofiaaGreatY08
import Derived.Test.YtbhkcbidcfofiaaGreatY10
import Derived.Test.YtbhkcbidcfofiaaGreatY11
import Derived.Test.YtbhkcbidcfofiaaGreatY14
set_option linter.unusedVariables false
set_option linter.unusedSimpArgs false
set_option maxRecDepth 100000
set_option maxHeartbeats 8000000
namespace Go.Proofs.YtbhkcbidcfofiaaGreat
open _root_.Array renaming getElem?_eq_getElem → Ze
open _root_.Bool renaming false_eq_true → Zj, not_false → Zp, not_true → Zt
open _root_.Int renaming reduceEq → Zf, reduceLE → Zg, reduceLT → Zh, toNat_natCast → Zq
open _root_.List renaming getElem?_eq_getElem → Z1, drop_eq_getElem_cons → Z2, length_append → Z4, drop_eq_nil_of_le → Z8, length_cons → Zc, getElem_mem → Zd, cons_append → Zi, length_nil → Zk, nil_append → Zl, append_assoc → Zm, length_map → Zo, reverse_cons → Zr, reverse_nil → Zs, replicate → Zw, map_cons → Zx
open _root_.Nat renaming le_of_ble_eq_true → Z0, zero_le → Z5, reduceEqDiff → Z6, reduceLeDiff → Z7, reduceAdd → Z9, reduceBEq → Za, reduceMul → Zb, le_refl → Zv
open _root_.Option renaming bind_some → Zn, map_some → Zu
open _root_.Go.Proofs.Tryz renaming prog → Z3
open Go.RowKit
section
attribute [local irreducible] on aOp
attribute [local go_sem] decide_true decide_false Zt Zp
attribute [local simp] byD_len
theorem strXe (s : ByteArray) : strX s = [.v (.string s)] := rfl
theorem Zx9 (t : Tk) : tkX t = [.v (.int .i64 t.process), .v (.int .i64 t.n)] := rfl
theorem X1 (e : En) : enX e = [.sl 2 (e.clock.map tkX), .v (.string e.name)] := rfl
theorem low_tk (m : Nat) (t : Tk) : lowL m (tkX t) := by simp [tkX, lowL, low]
theorem Zu5 (m : Nat) (e : En) : lowL m (enX e) := by
 rw [enX, lowL, lowL, lowL, low]
 exact ⟨Vj m _ fun t _ => low_tk m t, trivial, trivial⟩
theorem Ji (m : Nat) (l : List Val) : low m (.sl 4 (l.map vaX)) := Vj m l fun v _ => Yb m v
def tM (T : List Ob) : List Ob := T
section
variable {y z z' : Ob} {T l : List Ob}
theorem tM_len : (tM T).length = T.length := rfl
theorem tM_app : tM T ++ l = tM (T ++ l) := rfl
theorem tM_l : (tM (T ++ [y]))[T.length]? = some y := by simp [tM]
theorem tM_sl : (tM (T ++ [y])).set T.length z = tM (T ++ [z]) := by simp [tM]
theorem tM_a : (tM (T ++ [y, z]))[T.length]? = some y := by simp [tM]
theorem tM_b : (tM (T ++ [y, z]))[T.length + 1]? = some z := by simp [tM]
theorem tM_sb : (tM (T ++ [y, z])).set (T.length + 1) z' = tM (T ++ [y, z']) := by simp [tM]
end
inductive VSm : Val → Prop
 | mk (v : Val) (h1 : v.names.length ≤ 9223372036854775807) (h2 : v.parts.length ≤ 9223372036854775807) (h3 : v.entries.length ≤ 9223372036854775807) (h4 : ∀ s ∈ v.names, s.size ≤ 9223372036854775807) (h5 : ∀ e ∈ v.entries, e.clock.length ≤ 9223372036854775807 ∧ e.name.size ≤ 9223372036854775807) (h6 : ∀ p ∈ v.parts, VSm p) : VSm v
theorem VSm.names {v : Val} (h : VSm v) : v.names.length ≤ 9223372036854775807 := by cases h; assumption
theorem VSm.parts {v : Val} (h : VSm v) : v.parts.length ≤ 9223372036854775807 := by cases h; assumption
theorem VSm.entries {v : Val} (h : VSm v) : v.entries.length ≤ 9223372036854775807 := by cases h; assumption
theorem VSm.texts {v : Val} (h : VSm v) : ∀ s ∈ v.names, s.size ≤ 9223372036854775807 := by cases h; assumption
theorem VSm.ents {v : Val} (h : VSm v) : ∀ e ∈ v.entries, e.clock.length ≤ 9223372036854775807 ∧ e.name.size ≤ 9223372036854775807 := by cases h; assumption
theorem VSm.part {v : Val} (h : VSm v) : ∀ p ∈ v.parts, VSm p := by cases h; assumption
theorem Zu7 {α : Type} {c : α → α → Int} {a b : List α} {k : Nat} {x y : α} (ha : a.drop k = x :: a.drop (k + 1)) (hb : b.drop k = y :: b.drop (k + 1)) : lexC c (a.drop k) (b.drop k) = if c x y ≠ 0 then c x y else lexC c (a.drop (k + 1)) (b.drop (k + 1)) := by rw [ha, hb, lexC]
theorem strC_cb (a b : ByteArray) : Lib.compareBytes a.data.toList b.data.toList = strC a b := by
 have key : ∀ l m : List UInt8, Lib.compareBytes l m = if Op.bytesLess l m then -1 else if l = m then 0 else 1 := by
  intro l
  induction l with
  | nil => intro m; cases m <;> simp [Lib.compareBytes, Op.bytesLess]
  | cons x t ih =>
   intro m
   cases m with
   | nil => simp [Lib.compareBytes, Op.bytesLess]
   | cons y s =>
    rw [Lib.compareBytes, Op.bytesLess, ih]
    by_cases h1 : x < y
    · simp [h1]
    · by_cases h2 : y < x
      · have hne : x ≠ y := fun q => by subst q; exact h1 h2
        simp [h1, h2, hne]
      · have hxy : x = y := UInt8.le_antisymm (UInt8.not_lt.1 h2) (UInt8.not_lt.1 h1)
        subst hxy
        simp [h1]
 rw [key]
 unfold strC J2
 rw [Lib.toList_data, Lib.toList_data]
 have : (a.data.toList = b.data.toList) = (a = b) := propext ⟨fun h => ByteArray.ext (Array.toList_inj.1 h), fun h => by rw [h]⟩
 simp only [this]
variable (G : Nat → D) (hG : ∀ g, low 0 (G g))
include hG
attribute [local go_sem] Zj Bool.false_or Bool.or_false Bool.or_true Zf Zg Zh Zq Zm Zi Z4 Zc Zo Zk Zl Z9 Za Z6 Z7 Zb X1 strXe tM_a tM_app tM_b tM_l tM_len tM_sb tM_sl Zx9 Y5
attribute [local go_sem ↓] reduceIte
theorem isNaN64_d (a : Int) (h : List Ob) : Does Z3 G 151 h [.v (.int .i64 a)] (fun h' r => h' = h ∧ r = .v (.bool false)) := by
 refine Y6 Tryz.func151 rfl (Z0 rfl) hG fun hl0 _ => ?_
 simp only [Tryz.ntmps151]
 repeat' first
  | refine g0 ?_
  | fail
 all_goals first
 | exact ⟨by simp, endV hl0 rfl rfl ⟨rfl, rfl⟩⟩
 | (exfalso; simp at *; done)
theorem Yo1 (a : ByteArray) (h : List Ob) : Does Z3 G 213 h [.v (.string a)] (fun h' r => h' = h ∧ r = .v (.bool false)) := by
 refine Y6 Tryz.func213 rfl (Z0 rfl) hG fun hl0 _ => ?_
 simp only [Tryz.ntmps213]
 repeat' first
  | refine g0 ?_
  | fail
 all_goals first
 | exact ⟨by simp, endV hl0 rfl rfl ⟨rfl, rfl⟩⟩
 | (exfalso; simp at *; done)
theorem cmp64_d (a b : Int) (h : List Ob) : Does Z3 G 89 h [.v (.int .i64 a), .v (.int .i64 b)] (fun h' r => h' = h ∧ r = .v (.int .i64 (cmpI a b))) := by
 refine Y6 Tryz.func89 rfl (Z0 rfl) hG fun hl0 _ => ?_
 simp only [Tryz.ntmps89]
 repeat' first
  | refine gg ?_
  | refine Two.mk (fun hq => ?_) fun hq => ?_
  | (with_reducible refine Y7 ?_; refine gc rfl rfl rfl ent_151 (isNaN64_d G hG _ _) ?_)
 all_goals
  refine ⟨by simp, endV hl0 rfl rfl ⟨rfl, ?_⟩⟩
  unfold cmpI
  simp [*]
theorem cmps_d (a b : ByteArray) (h : List Ob) : Does Z3 G 152 h [.v (.string a), .v (.string b)] (fun h' r => h' = h ∧ r = .v (.int .i64 (strC a b))) := by
 unfold strC J2
 refine Y6 Tryz.func152 rfl (Z0 rfl) hG fun hl0 _ => ?_
 simp only [Tryz.ntmps152]
 cases h1 : Op.bytesLess a.toList b.toList
 · by_cases h2 : a = b
   · subst h2
     have h2 : decide (a = a) = true := decide_eq_true rfl
     have F : _ ∧ _ := ⟨h1, h2⟩
     repeat' first
      | refine g0 ?_
      | (with_reducible refine Y7 ?_; refine gc rfl rfl rfl ent_213 (Yo1 G hG _ _) ?_)
     all_goals exact ⟨by simp, endV hl0 rfl rfl ⟨rfl, by simp [h1]⟩⟩
   · skip
     have F : _ ∧ _ := ⟨h1, h2⟩
     repeat' first
      | refine g0 ?_
      | (with_reducible refine Y7 ?_; refine gc rfl rfl rfl ent_213 (Yo1 G hG _ _) ?_)
     all_goals exact ⟨by simp, endV hl0 rfl rfl ⟨rfl, by simp [h1, h2]⟩⟩
 · skip
   repeat' first
    | (with_reducible first | refine sA rfl ?_ | refine sI rfl rfl ?_ | refine sT rfl ?_)
    | (with_reducible refine Y7 ?_; first | refine Yn ?_ | (refine ao1 rfl rfl fun K HK => ?_; simp only [go_sem, h1, Bool.true_or] <;> (refine HK _ _ ?_; clear HK K)) | (refine ao2 rfl rfl rfl ent_213 (Yo1 G hG _ _) ?_; rintro _ _ ⟨rfl, rfl⟩))
   all_goals exact ⟨by simp, endV hl0 rfl rfl ⟨rfl, by simp [h1]⟩⟩
theorem slicesCmp_d (a b : List ByteArray) (ha : a.length ≤ 9223372036854775807) (hb : b.length ≤ 9223372036854775807) (h : List Ob) : Does Z3 G 90 h [.sl 1 (a.map strX), .sl 1 (b.map strX)] (fun h' r => h' = h ∧ r = .v (.int .i64 (lexC strC a b))) := by
 refine Y6 Tryz.func90 rfl (Z0 rfl) hG fun hl0 _ => ?_
 simp only [Tryz.ntmps90]
 repeat' first
  | refine g0 ?_
  | fail
 refine Yh (fun m e h' => ∃ k : Nat, k ≤ a.length ∧ k ≤ b.length ∧ m = a.length - k ∧ lexC strC a b = lexC strC (a.drop k) (b.drop k) ∧ h' = h ∧ e 0 = .sl 1 (a.map strX) ∧ e 1 = .sl 1 (b.map strX) ∧ e 9 = .sl 1 (a.map strX) ∧ e 10 = .v (.int .i64 a.length) ∧ e 11 = .v (.int .i64 k)) a.length ⟨0, Z5 _, Z5 _, rfl, rfl, rfl, rfl, rfl, rfl, rfl, rfl⟩ ?_
 rintro m e h' ⟨k, hk, hkb, rfl, ho, rfl, e0, e1, e9, e10, e11⟩
 by_cases hlt : k < a.length
 · have hx : a[k]? = some a[k] := Z1 hlt
   have wk : IntKind.i64.wrap ((k : Int) + 1) = ((k + 1 : Nat) : Int) := IntWalk.i64_in _ (by omega)
   by_cases hlb : k < b.length
   · have hy : b[k]? = some b[k] := Z1 hlb
     rw [Zu7 (Z2 hlt) (Z2 hlb)] at ho
     generalize a[k] = x at hx ho
     generalize b[k] = y at hy ho
     have hc := cmps_d G hG x y
     generalize strC x y = c at hc ho
     by_cases hz : c = 0
     · rw [if_neg (fun q => q hz)] at ho
       have F : _ ∧ _ ∧ _ ∧ _ ∧ _ ∧ _ ∧ _ := ⟨e0, e1, e9, e10, e11, hz, wk⟩
       repeat' first
        | refine gg ?_
        | refine Two.mk (fun hq => ?_) fun hq => ?_
        | (with_reducible refine Y7 ?_; refine gc rfl rfl rfl ent_152 (hc _) ?_)
        | (exfalso; omega)
       all_goals first | (exfalso; omega) | exact ⟨rfl, a.length - (k + 1), by omega, k + 1, hlt, hlb, rfl, ho, rfl, e0, e1, e9, e10, rfl⟩
     · rw [if_pos hz] at ho
       have F : _ ∧ _ ∧ _ ∧ _ ∧ _ ∧ _ ∧ _ := ⟨e0, e1, e9, e10, e11, hz, wk⟩
       repeat' first
        | refine gg ?_
        | refine Two.mk (fun hq => ?_) fun hq => ?_
        | (with_reducible refine Y7 ?_; refine gc rfl rfl rfl ent_152 (hc _) ?_)
        | (exfalso; omega)
       all_goals first | (exfalso; omega) | exact ⟨.inr rfl, endV hl0 rfl rfl ⟨rfl, by rw [ho]⟩⟩
   · rw [Zp7 _ _ _ _ hlt (by omega)] at ho
     have F : _ ∧ _ ∧ _ ∧ _ ∧ _ ∧ _ := ⟨e0, e1, e9, e10, e11, wk⟩
     repeat' first
      | refine gg ?_
      | refine Two.mk (fun hq => ?_) fun hq => ?_
      | refine Evry.mk fun x hx => ?_
      | (exfalso; omega)
     all_goals first | (exfalso; omega) | exact ⟨.inr rfl, endV hl0 rfl rfl ⟨rfl, by rw [ho]⟩⟩
 · rw [Zp8 _ _ _ _ (by omega)] at ho
   have F : _ ∧ _ ∧ _ ∧ _ ∧ _ := ⟨e0, e1, e9, e10, e11⟩
   repeat' first
    | refine gg ?_
    | refine Two.mk (fun hq => ?_) fun hq => ?_
    | refine Evry.mk fun x hx => ?_
    | (exfalso; omega)
   all_goals first | (exfalso; omega) | exact ⟨.inr rfl, endV hl0 rfl rfl ⟨rfl, by rw [ho]; first | rw [if_pos (by omega)] | rw [if_neg (by omega)]⟩⟩
theorem or_s2 (a b o : Int) (ho : orI [a, b] = o) (h : List Ob) (i : Nat) (hi : h[i]? = some (.buf 3 1 [[.v (.int .i64 a)], [.v (.int .i64 b)]])) : Does Z3 G 88 h [.buf i 2] (fun h' r => h' = h.set i (.buf 3 1 [[.v (.int .i64 a)], [.v (.int .i64 b)]]) ∧ r = .v (.int .i64 o)) := by
 rw [Js hi, ← ho]; exact or_b G hG [a, b] (by simp) h i hi
theorem cmpTicks_d (a b : Tk) (h : List Ob) : Does Z3 G 155 h [.agg (tkX a), .agg (tkX b)] (fun h' r => h' = h ∧ r = .v (.int .i64 (U1 a b))) := by
 refine Y9 G hG (by rw [lowL, lowL, lowL, low, low]; exact ⟨low_tk _ a, low_tk _ b, trivial⟩) (by rw [low]; trivial) ?_ h
 clear h
 have hor := or_s2 G hG (cmpI a.process b.process) (cmpI a.n b.n) (U1 a b) rfl
 refine Y6 Tryz.func155 rfl (Z0 rfl) hG fun hl0 _ => ?_
 simp only [Tryz.ntmps155]
 repeat' first
  | (with_reducible refine Yc ?_; refine Xc mixd (by kernel_rfl) ?_)
  | ((with_reducible refine Up ?_); first | (refine aS1 rfl rfl fun K HK => ?_; simp only [go_sem] <;> (refine HK _ _ rfl ?_; clear HK K)) | refine Xs rfl rfl rfl (by (first | (simp only [go_sem]; rfl) | (simp only [go_sem]; done))) (by rw [getD_one (by simp only [go_sem])]; rfl) ?_ | refine Jp rfl rfl (by simp only [litD, Wb, go_sem, Zc, Zk, Zu, Zn, and_self, ↓reduceIte, Z6, Z9, Z7, Za, Zb, Zf, Zh, Zg, Zx9]; rfl) ?_ | refine V2 (by simp only [Zr, Zs, Zl, Zi, Wd, chk1]; repeat' (first | exact trivial | refine And.intro ?_ ?_ | exact .inr Yw | exact .inr X0 | exact .inr X4 | exact .inr (Wt (by omega)) | (refine .inr ?_; simp [compat, Wl, V8, Vs, nop] <;> omega) | exact .inl (by kernel_rfl))) ?_ | refine Ys rfl rfl rfl ent_215 (fun h2 => cmpInt_d G hG _ _ _) ?_ | refine Ys rfl rfl rfl ent_89 (fun h2 => cmp64_d G hG _ _ _) ?_ | refine Zj6 rfl rfl rfl ent_88 (by (first | (simp only [go_sem]; rfl) | (simp only [go_sem]; done))) (fun h2 k2 => hor h2 2 k2) ?_)
  | refine g0 ?_
  | fail
 exact ⟨.inr rfl, endV hl0 rfl rfl ⟨rfl, rfl⟩⟩
theorem cfTicks_d (a b : List Tk) (ha : a.length ≤ 9223372036854775807) (hb : b.length ≤ 9223372036854775807)
 (hc : ∀ x ∈ a, ∀ y ∈ b, ∀ h, Does Z3 G 155 h [.agg (tkX x), .agg (tkX y)] (fun h' r => h' = h ∧ r = .v (.int .i64 (U1 x y)))) (h : List Ob) :
 Does Z3 G 154 h [.sl 2 (a.map tkX), .sl 2 (b.map tkX), .fn 155 []] (fun h' r => h' = h ∧ r = .v (.int .i64 (lexC U1 a b))) := by
 have lo : ∀ l : List Tk, low 0 (.sl 2 (l.map tkX)) := fun l => Vj 0 l fun x _ => low_tk 0 x
 refine Y9 G hG (by rw [lowL, lowL, lowL, lowL]; exact ⟨lo a, lo b, by simp [low, lowL], trivial⟩) (by rw [low]; trivial) ?_ h
 clear h
 refine Y6 Tryz.func154 rfl (Z0 rfl) hG fun hl0 _ => ?_
 simp only [Tryz.ntmps154]
 repeat' first
  | refine g0 ?_
  | fail
 refine Yh (fun m e h' => ∃ (k : Nat) (T : List Ob), k ≤ a.length ∧ k ≤ b.length ∧ m = a.length - k ∧ lexC U1 a b = lexC U1 (a.drop k) (b.drop k) ∧ h' = tM T ∧ e 0 = .sl 2 (a.map tkX) ∧ e 1 = .sl 2 (b.map tkX) ∧ e 2 = .fn 155 [] ∧ e 11 = .sl 2 (a.map tkX) ∧ e 12 = .v (.int .i64 a.length) ∧ e 13 = .v (.int .i64 k)) a.length ⟨0, [], Z5 _, Z5 _, rfl, rfl, rfl, rfl, rfl, rfl, rfl, rfl, rfl⟩ ?_
 rintro m e h' ⟨k, T, hk, hkb, rfl, ho, rfl, e0, e1, e2, e11, e12, e13⟩
 by_cases hlt : k < a.length
 · have hx : a[k]? = some a[k] := Z1 hlt
   have wk : IntKind.i64.wrap ((k : Int) + 1) = ((k + 1 : Nat) : Int) := IntWalk.i64_in _ (by omega)
   by_cases hlb : k < b.length
   · have hy : b[k]? = some b[k] := Z1 hlb
     have hc := hc a[k] (Zd hlt) b[k] (Zd hlb)
     rw [Zu7 (Z2 hlt) (Z2 hlb)] at ho
     generalize a[k] = x at hx ho hc
     generalize b[k] = y at hy ho hc
     generalize U1 x y = c at hc ho
     simp only [Zx9] at hc
     by_cases hz : c = 0
     · rw [if_neg (fun q => q hz)] at ho
       have F : _ ∧ _ ∧ _ ∧ _ ∧ _ ∧ _ ∧ _ ∧ _ := ⟨e0, e1, e2, e11, e12, e13, hz, wk⟩
       repeat' first
        | refine gg ?_
        | refine Two.mk (fun hq => ?_) fun hq => ?_
        | (with_reducible refine Y7 ?_; refine gc rfl rfl rfl ent_155 (hc _) ?_)
        | (exfalso; omega)
       all_goals first | (exfalso; omega) | exact ⟨rfl, a.length - (k + 1), by omega, k + 1, _, hlt, hlb, rfl, ho, rfl, e0, e1, e2, e11, e12, rfl⟩
     · rw [if_pos hz] at ho
       have F : _ ∧ _ ∧ _ ∧ _ ∧ _ ∧ _ ∧ _ ∧ _ := ⟨e0, e1, e2, e11, e12, e13, hz, wk⟩
       repeat' first
        | refine gg ?_
        | refine Two.mk (fun hq => ?_) fun hq => ?_
        | (with_reducible refine Y7 ?_; refine gc rfl rfl rfl ent_155 (hc _) ?_)
        | (exfalso; omega)
       all_goals first | (exfalso; omega) | exact ⟨.inr rfl, endV hl0 rfl rfl ⟨rfl, by rw [ho]⟩⟩
   · rw [Zp7 _ _ _ _ hlt (by omega)] at ho
     have F : _ ∧ _ ∧ _ ∧ _ ∧ _ ∧ _ ∧ _ := ⟨e0, e1, e2, e11, e12, e13, wk⟩
     repeat' first
      | refine gg ?_
      | refine Two.mk (fun hq => ?_) fun hq => ?_
      | refine Evry.mk fun x hx => ?_
      | (exfalso; omega)
     all_goals first | (exfalso; omega) | exact ⟨.inr rfl, endV hl0 rfl rfl ⟨rfl, by rw [ho]⟩⟩
 · rw [Zp8 _ _ _ _ (by omega)] at ho
   have F : _ ∧ _ ∧ _ ∧ _ ∧ _ ∧ _ := ⟨e0, e1, e2, e11, e12, e13⟩
   repeat' first
    | refine gg ?_
    | refine Two.mk (fun hq => ?_) fun hq => ?_
    | refine Evry.mk fun x hx => ?_
    | (exfalso; omega)
   all_goals first | (exfalso; omega) | exact ⟨.inr rfl, endV hl0 rfl rfl ⟨rfl, by rw [ho]; first | rw [if_pos (by omega)] | rw [if_neg (by omega)]⟩⟩
theorem cmpEnts_d (a b : En) (ha : a.clock.length ≤ 9223372036854775807) (hb : b.clock.length ≤ 9223372036854775807) (h : List Ob) : Does Z3 G 93 h [.agg (enX a), .agg (enX b)] (fun h' r => h' = h ∧ r = .v (.int .i64 (entC a b))) := by
 refine Y9 G hG (by rw [lowL, lowL, lowL, low, low]; exact ⟨Zu5 _ a, Zu5 _ b, trivial⟩) (by rw [low]; trivial) ?_ h
 clear h
 have hor := or_s2 G hG (strC a.name b.name) (lexC U1 a.clock b.clock) (entC a b) rfl
 have hsc := scmp_d G hG a.name b.name
 simp only [strC_cb] at hsc
 have hcf := cfTicks_d G hG a.clock b.clock ha hb (fun x _ y _ h => cmpTicks_d G hG x y h)
 refine Y6 Tryz.func93 rfl (Z0 rfl) hG fun hl0 _ => ?_
 simp only [Tryz.ntmps93]
 repeat' first
  | (with_reducible refine Yc ?_; refine Xc mixd (by kernel_rfl) ?_)
  | ((with_reducible refine Up ?_); first | (refine aS1 rfl rfl fun K HK => ?_; simp only [go_sem] <;> (refine HK _ _ rfl ?_; clear HK K)) | refine Xs rfl rfl rfl (by (first | (simp only [go_sem]; rfl) | (simp only [go_sem]; done))) (by rw [getD_one (by simp only [go_sem])]; rfl) ?_ | refine Jp rfl rfl (by simp only [litD, Wb, go_sem, Zc, Zk, Zu, Zn, and_self, ↓reduceIte, Z6, Z9, Z7, Za, Zb, Zf, Zh, Zg, X1]; rfl) ?_ | refine V2 (by simp only [Zr, Zs, Zl, Zi, Wd, chk1]; repeat' (first | exact trivial | refine And.intro ?_ ?_ | exact .inr Yw | exact .inr X0 | exact .inr X4 | exact .inr (Wt (by omega)) | (refine .inr ?_; simp [compat, Wl, V8, Vs, nop] <;> omega) | exact .inl (by kernel_rfl))) ?_ | refine Ys rfl rfl rfl ent_153 (fun h2 => hsc _) ?_ | refine Ys rfl rfl rfl ent_154 (fun h2 => hcf _) ?_ | refine Zj6 rfl rfl rfl ent_88 (by (first | (simp only [go_sem]; rfl) | (simp only [go_sem]; done))) (fun h2 k2 => hor h2 2 k2) ?_)
  | refine g0 ?_
  | fail
 exact ⟨.inr rfl, endV hl0 rfl rfl ⟨rfl, rfl⟩⟩
theorem cfEnts_d (a b : List En) (ha : a.length ≤ 9223372036854775807) (hb : b.length ≤ 9223372036854775807)
 (hc : ∀ x ∈ a, ∀ y ∈ b, ∀ h, Does Z3 G 93 h [.agg (enX x), .agg (enX y)] (fun h' r => h' = h ∧ r = .v (.int .i64 (entC x y)))) (h : List Ob) :
 Does Z3 G 92 h [.sl 2 (a.map enX), .sl 2 (b.map enX), .fn 93 []] (fun h' r => h' = h ∧ r = .v (.int .i64 (lexC entC a b))) := by
 have lo : ∀ l : List En, low 0 (.sl 2 (l.map enX)) := fun l => Vj 0 l fun x _ => Zu5 0 x
 refine Y9 G hG (by rw [lowL, lowL, lowL, lowL]; exact ⟨lo a, lo b, by simp [low, lowL], trivial⟩) (by rw [low]; trivial) ?_ h
 clear h
 refine Y6 Tryz.func92 rfl (Z0 rfl) hG fun hl0 _ => ?_
 simp only [Tryz.ntmps92]
 repeat' first
  | refine g0 ?_
  | fail
 refine Yh (fun m e h' => ∃ (k : Nat) (T : List Ob), k ≤ a.length ∧ k ≤ b.length ∧ m = a.length - k ∧ lexC entC a b = lexC entC (a.drop k) (b.drop k) ∧ h' = tM T ∧ e 0 = .sl 2 (a.map enX) ∧ e 1 = .sl 2 (b.map enX) ∧ e 2 = .fn 93 [] ∧ e 11 = .sl 2 (a.map enX) ∧ e 12 = .v (.int .i64 a.length) ∧ e 13 = .v (.int .i64 k)) a.length ⟨0, [], Z5 _, Z5 _, rfl, rfl, rfl, rfl, rfl, rfl, rfl, rfl, rfl⟩ ?_
 rintro m e h' ⟨k, T, hk, hkb, rfl, ho, rfl, e0, e1, e2, e11, e12, e13⟩
 by_cases hlt : k < a.length
 · have hx : a[k]? = some a[k] := Z1 hlt
   have wk : IntKind.i64.wrap ((k : Int) + 1) = ((k + 1 : Nat) : Int) := IntWalk.i64_in _ (by omega)
   by_cases hlb : k < b.length
   · have hy : b[k]? = some b[k] := Z1 hlb
     have hc := hc a[k] (Zd hlt) b[k] (Zd hlb)
     rw [Zu7 (Z2 hlt) (Z2 hlb)] at ho
     generalize a[k] = x at hx ho hc
     generalize b[k] = y at hy ho hc
     generalize entC x y = c at hc ho
     simp only [X1] at hc
     by_cases hz : c = 0
     · rw [if_neg (fun q => q hz)] at ho
       have F : _ ∧ _ ∧ _ ∧ _ ∧ _ ∧ _ ∧ _ ∧ _ := ⟨e0, e1, e2, e11, e12, e13, hz, wk⟩
       repeat' first
        | refine gg ?_
        | refine Two.mk (fun hq => ?_) fun hq => ?_
        | (with_reducible refine Y7 ?_; refine gc rfl rfl rfl ent_93 (hc _) ?_)
        | (exfalso; omega)
       all_goals first | (exfalso; omega) | exact ⟨rfl, a.length - (k + 1), by omega, k + 1, _, hlt, hlb, rfl, ho, rfl, e0, e1, e2, e11, e12, rfl⟩
     · rw [if_pos hz] at ho
       have F : _ ∧ _ ∧ _ ∧ _ ∧ _ ∧ _ ∧ _ ∧ _ := ⟨e0, e1, e2, e11, e12, e13, hz, wk⟩
       repeat' first
        | refine gg ?_
        | refine Two.mk (fun hq => ?_) fun hq => ?_
        | (with_reducible refine Y7 ?_; refine gc rfl rfl rfl ent_93 (hc _) ?_)
        | (exfalso; omega)
       all_goals first | (exfalso; omega) | exact ⟨.inr rfl, endV hl0 rfl rfl ⟨rfl, by rw [ho]⟩⟩
   · rw [Zp7 _ _ _ _ hlt (by omega)] at ho
     have F : _ ∧ _ ∧ _ ∧ _ ∧ _ ∧ _ ∧ _ := ⟨e0, e1, e2, e11, e12, e13, wk⟩
     repeat' first
      | refine gg ?_
      | refine Two.mk (fun hq => ?_) fun hq => ?_
      | refine Evry.mk fun x hx => ?_
      | (exfalso; omega)
     all_goals first | (exfalso; omega) | exact ⟨.inr rfl, endV hl0 rfl rfl ⟨rfl, by rw [ho]⟩⟩
 · rw [Zp8 _ _ _ _ (by omega)] at ho
   have F : _ ∧ _ ∧ _ ∧ _ ∧ _ ∧ _ := ⟨e0, e1, e2, e11, e12, e13⟩
   repeat' first
    | refine gg ?_
    | refine Two.mk (fun hq => ?_) fun hq => ?_
    | refine Evry.mk fun x hx => ?_
    | (exfalso; omega)
   all_goals first | (exfalso; omega) | exact ⟨.inr rfl, endV hl0 rfl rfl ⟨rfl, by rw [ho]; first | rw [if_pos (by omega)] | rw [if_neg (by omega)]⟩⟩
theorem cfVals_d (a b : List Val) (ha : a.length ≤ 9223372036854775807) (hb : b.length ≤ 9223372036854775807)
 (hc : ∀ x ∈ a, ∀ y ∈ b, ∀ h, Does Z3 G 44 h [.agg (vaX x), .agg (vaX y)] (fun h' r => h' = h ∧ r = .v (.int .i64 (valC x y)))) (h : List Ob) :
 Does Z3 G 91 h [.sl 4 (a.map vaX), .sl 4 (b.map vaX), .fn 44 []] (fun h' r => h' = h ∧ r = .v (.int .i64 (lexC valC a b))) := by
 have lo : ∀ l : List Val, low 0 (.sl 4 (l.map vaX)) := fun l => Vj 0 l fun x _ => Yb 0 x
 refine Y9 G hG (by rw [lowL, lowL, lowL, lowL]; exact ⟨lo a, lo b, by simp [low, lowL], trivial⟩) (by rw [low]; trivial) ?_ h
 clear h
 refine Y6 Tryz.func91 rfl (Z0 rfl) hG fun hl0 _ => ?_
 simp only [Tryz.ntmps91]
 repeat' first
  | refine g0 ?_
  | fail
 refine Yh (fun m e h' => ∃ (k : Nat) (T : List Ob), k ≤ a.length ∧ k ≤ b.length ∧ m = a.length - k ∧ lexC valC a b = lexC valC (a.drop k) (b.drop k) ∧ h' = tM T ∧ e 0 = .sl 4 (a.map vaX) ∧ e 1 = .sl 4 (b.map vaX) ∧ e 2 = .fn 44 [] ∧ e 11 = .sl 4 (a.map vaX) ∧ e 12 = .v (.int .i64 a.length) ∧ e 13 = .v (.int .i64 k)) a.length ⟨0, [], Z5 _, Z5 _, rfl, rfl, rfl, rfl, rfl, rfl, rfl, rfl, rfl⟩ ?_
 rintro m e h' ⟨k, T, hk, hkb, rfl, ho, rfl, e0, e1, e2, e11, e12, e13⟩
 by_cases hlt : k < a.length
 · have hx : a[k]? = some a[k] := Z1 hlt
   have wk : IntKind.i64.wrap ((k : Int) + 1) = ((k + 1 : Nat) : Int) := IntWalk.i64_in _ (by omega)
   by_cases hlb : k < b.length
   · have hy : b[k]? = some b[k] := Z1 hlb
     have hc := hc a[k] (Zd hlt) b[k] (Zd hlb)
     rw [Zu7 (Z2 hlt) (Z2 hlb)] at ho
     generalize a[k] = x at hx ho hc
     generalize b[k] = y at hy ho hc
     generalize valC x y = c at hc ho
     simp only [Y5] at hc
     by_cases hz : c = 0
     · rw [if_neg (fun q => q hz)] at ho
       have F : _ ∧ _ ∧ _ ∧ _ ∧ _ ∧ _ ∧ _ ∧ _ := ⟨e0, e1, e2, e11, e12, e13, hz, wk⟩
       repeat' first
        | refine gg ?_
        | refine Two.mk (fun hq => ?_) fun hq => ?_
        | (with_reducible refine Y7 ?_; refine gc rfl rfl rfl ent_44 (hc _) ?_)
        | (exfalso; omega)
       all_goals first | (exfalso; omega) | exact ⟨rfl, a.length - (k + 1), by omega, k + 1, _, hlt, hlb, rfl, ho, rfl, e0, e1, e2, e11, e12, rfl⟩
     · rw [if_pos hz] at ho
       have F : _ ∧ _ ∧ _ ∧ _ ∧ _ ∧ _ ∧ _ ∧ _ := ⟨e0, e1, e2, e11, e12, e13, hz, wk⟩
       repeat' first
        | refine gg ?_
        | refine Two.mk (fun hq => ?_) fun hq => ?_
        | (with_reducible refine Y7 ?_; refine gc rfl rfl rfl ent_44 (hc _) ?_)
        | (exfalso; omega)
       all_goals first | (exfalso; omega) | exact ⟨.inr rfl, endV hl0 rfl rfl ⟨rfl, by rw [ho]⟩⟩
   · rw [Zp7 _ _ _ _ hlt (by omega)] at ho
     have F : _ ∧ _ ∧ _ ∧ _ ∧ _ ∧ _ ∧ _ := ⟨e0, e1, e2, e11, e12, e13, wk⟩
     repeat' first
      | refine gg ?_
      | refine Two.mk (fun hq => ?_) fun hq => ?_
      | refine Evry.mk fun x hx => ?_
      | (exfalso; omega)
     all_goals first | (exfalso; omega) | exact ⟨.inr rfl, endV hl0 rfl rfl ⟨rfl, by rw [ho]⟩⟩
 · rw [Zp8 _ _ _ _ (by omega)] at ho
   have F : _ ∧ _ ∧ _ ∧ _ ∧ _ ∧ _ := ⟨e0, e1, e2, e11, e12, e13⟩
   repeat' first
    | refine gg ?_
    | refine Two.mk (fun hq => ?_) fun hq => ?_
    | refine Evry.mk fun x hx => ?_
    | (exfalso; omega)
   all_goals first | (exfalso; omega) | exact ⟨.inr rfl, endV hl0 rfl rfl ⟨rfl, by rw [ho]; first | rw [if_pos (by omega)] | rw [if_neg (by omega)]⟩⟩
theorem Zt4 (n : Nat) : ∀ (a b : Val), SizeOf.sizeOf a ≤ n → VSm a → VSm b → ∀ (h : List Ob), Does Z3 G 44 h [.agg (vaX a), .agg (vaX b)] (fun h' r => h' = h ∧ r = .v (.int .i64 (valC a b))) := by
 induction n with
 | zero => intro a b hn; cases a; simp at hn
 | succ n ih =>
 intro a b hn sa sb h
 refine Y9 G hG (by rw [lowL, lowL, lowL, low, low]; exact ⟨Yb _ a, Yb _ b, trivial⟩) (by rw [low]; trivial) ?_ h
 clear h
 have hor := or_s2 G hG (cmpI a.n b.n) (lexC strC a.names b.names) _ rfl
 have hna := slicesCmp_d G hG a.names b.names sa.names sb.names
 have hpa := cfVals_d G hG a.parts b.parts sa.parts sb.parts (fun x hx y hy h => ih x y (by
   have := List.sizeOf_lt_of_mem hx
   cases a with
   | mk m ns ps es => simp only [Val.parts] at this; simp only [Val.mk.sizeOf_spec] at hn; omega) (sa.part x hx) (sb.part y hy) h)
 have hen := cfEnts_d G hG a.entries b.entries sa.entries sb.entries (fun x hx y hy h => cmpEnts_d G hG x y (sa.ents x hx).1 (sb.ents y hy).1 h)
 have hv : valC a b = if orI [cmpI a.n b.n, lexC strC a.names b.names] ≠ 0 then orI [cmpI a.n b.n, lexC strC a.names b.names] else if lexC valC a.parts b.parts ≠ 0 then lexC valC a.parts b.parts else lexC entC a.entries b.entries := by
  rw [Ze3]
  by_cases h1 : cmpI a.n b.n = 0
  · by_cases h2 : lexC strC a.names b.names = 0 <;> simp [orI, h1, h2]
  · simp [orI, h1]
 generalize orI [cmpI a.n b.n, lexC strC a.names b.names] = o1 at *
 generalize lexC valC a.parts b.parts = o2 at *
 generalize lexC entC a.entries b.entries = o3 at *
 generalize valC a b = vc at *
 have hc1 := cmp64_d G hG a.n b.n
 generalize cmpI a.n b.n = c1 at *
 generalize lexC strC a.names b.names = c2 at *
 refine Y6 Tryz.func44 rfl (Z0 rfl) hG fun hl0 _ => ?_
 simp only [Tryz.ntmps44]
 by_cases h1 : o1 = 0
 · by_cases h2 : o2 = 0
   all_goals
    skip
    have F : _ ∧ _ := ⟨h1, h2⟩
    repeat' first
     | (with_reducible refine Yc ?_; refine Xc mixd (by kernel_rfl) ?_)
     | ((with_reducible refine Up ?_); first | (refine aS1 rfl rfl fun K HK => ?_; simp only [go_sem, F] <;> (refine HK _ _ rfl ?_; clear HK K)) | refine Xs rfl rfl rfl (by (first | (simp only [go_sem, F]; rfl) | (simp only [go_sem, F]; done))) (by rw [getD_one (by simp only [go_sem, F])]; rfl) ?_ | refine Jp rfl rfl (by simp only [litD, Wb, go_sem, Zc, Zk, Zu, Zn, and_self, ↓reduceIte, Z6, Z9, Z7, Za, Zb, Zf, Zh, Zg, Y5, h1, h2]; rfl) ?_ | refine V2 (by simp only [Zr, Zs, Zl, Zi, Wd, chk1]; repeat' (first | exact trivial | refine And.intro ?_ ?_ | exact .inr Yw | exact .inr X0 | exact .inr X4 | exact .inr (Wt (by omega)) | (refine .inr ?_; simp [compat, Wl, V8, Vs, nop] <;> omega) | exact .inl (by kernel_rfl))) ?_ | refine Ys rfl rfl rfl ent_89 (fun h2 => hc1 _) ?_ | refine Ys rfl rfl rfl ent_90 (fun h2 => hna _) ?_ | refine Zj6 rfl rfl rfl ent_88 (by (first | (simp only [go_sem, F]; rfl) | (simp only [go_sem, F]; done))) (fun h2 k2 => hor h2 2 k2) ?_)
     | refine g0 ?_
     | (with_reducible refine Y7 ?_; first | refine gc rfl rfl rfl ent_91 (hpa _) ?_ | refine gc rfl rfl rfl ent_92 (hen _) ?_)
    exact ⟨.inr rfl, endV hl0 rfl rfl ⟨rfl, by rw [hv]; simp [h1, h2]⟩⟩
 · skip
   have F := h1
   repeat' first
    | (with_reducible refine Yc ?_; refine Xc mixd (by kernel_rfl) ?_)
    | ((with_reducible refine Up ?_); first | (refine aS1 rfl rfl fun K HK => ?_; simp only [go_sem, F] <;> (refine HK _ _ rfl ?_; clear HK K)) | refine Xs rfl rfl rfl (by (first | (simp only [go_sem, F]; rfl) | (simp only [go_sem, F]; done))) (by rw [getD_one (by simp only [go_sem, F])]; rfl) ?_ | refine Jp rfl rfl (by simp only [litD, Wb, go_sem, Zc, Zk, Zu, Zn, and_self, ↓reduceIte, Z6, Z9, Z7, Za, Zb, Zf, Zh, Zg, Y5, h1]; rfl) ?_ | refine V2 (by simp only [Zr, Zs, Zl, Zi, Wd, chk1]; repeat' (first | exact trivial | refine And.intro ?_ ?_ | exact .inr Yw | exact .inr X0 | exact .inr X4 | exact .inr (Wt (by omega)) | (refine .inr ?_; simp [compat, Wl, V8, Vs, nop] <;> omega) | exact .inl (by kernel_rfl))) ?_ | refine Ys rfl rfl rfl ent_89 (fun h2 => hc1 _) ?_ | refine Ys rfl rfl rfl ent_90 (fun h2 => hna _) ?_ | refine Zj6 rfl rfl rfl ent_88 (by (first | (simp only [go_sem, F]; rfl) | (simp only [go_sem, F]; done))) (fun h2 k2 => hor h2 2 k2) ?_)
    | refine g0 ?_
    | fail
   exact ⟨.inr rfl, endV hl0 rfl rfl ⟨rfl, by rw [hv]; simp [h1]⟩⟩
theorem Zq8 (a b : Val) (sa : VSm a) (sb : VSm b) (h : List Ob) : Does Z3 G 104 h [.agg (vaX a), .agg (vaX b)] (fun h' r => h' = h ∧ r = .v (.bool (decide (valC a b = 0)))) := by
 refine Y9 G hG (by rw [lowL, lowL, lowL, low, low]; exact ⟨Yb _ a, Yb _ b, trivial⟩) (by rw [low]; trivial) ?_ h
 clear h
 have hc := Zt4 G hG _ a b (Zv _) sa sb
 generalize valC a b = c at *
 simp only [Y5] at hc
 refine Y6 Tryz.func104 rfl (Z0 rfl) hG fun hl0 _ => ?_
 simp only [Tryz.ntmps104]
 repeat' first
  | refine gg ?_
  | refine Two.mk (fun hq => ?_) fun hq => ?_
  | (with_reducible refine Y7 ?_; refine gc rfl rfl rfl ent_44 (hc _) ?_)
 all_goals exact ⟨.inr rfl, endV hl0 rfl rfl ⟨rfl, by first | rw [decide_eq_true hq] | rw [decide_eq_false hq] | rfl⟩⟩
end
section
attribute [local irreducible] on aOp
attribute [local go_sem] decide_true decide_false Zt Zp
attribute [local simp] byD_len
def wC (n : Nat) (rows : List (List D)) (A B : Ob) (T : List Ob) : List Ob := wB n rows A (B :: T)
section
variable {n m : Nat} {rows r2 : List (List D)} {T l : List Ob} {A B x y : Ob}
theorem wB_box : wB n rows A [] ++ [x] = wC n rows A x [] := rfl
theorem wC_2 : (wC n rows A B T)[2]? = some A := rfl
theorem wC_3 : (wC n rows A B T)[3]? = some B := rfl
theorem wC_len : (wC n rows A B T).length = T.length + 4 := rfl
theorem wC_app : wC n rows A B T ++ l = wC n rows A B (T ++ l) := rfl
theorem wC_l : (wC n rows A B (T ++ [x]))[T.length + 4]? = some x := by simp [wC, wB, wG]
theorem wC_sl : (wC n rows A B (T ++ [x])).set (T.length + 4) y = wC n rows A B (T ++ [y]) := by simp [wC, wB, wG]
end
theorem fm_take {α : Type} (g : α → List UInt8) (l : List α) (k : Nat) : ((l.take k).flatMap g).length ≤ (l.flatMap g).length := by
 conv => rhs; rw [← List.take_append_drop k l]
 rw [List.flatMap_append, Z4]; omega
theorem fm_step {α : Type} (g : α → List UInt8) {l : List α} {k : Nat} {x : α} (h : l[k]? = some x) : (l.take (k + 1)).flatMap g = (l.take k).flatMap g ++ g x := by
 rw [List.take_add_one, h, List.flatMap_append]; simp
@[simp] def writE2 (i j : Nat) (ob ob' oc oc' : Ob) (d : D) : Eff := ⟨[(i, ob), (j, oc)], [(i, ob'), (j, oc')], [], fun _ => d⟩
theorem aS_call2 {P : Program} {G : Nat → D} {n m0 : Nat} {ops : Array Oper} {done : List Eff} {rest : List Oper} {Q : (Nat → D) → List Ob → Prop} {e : Nat → D} {h : List Ob} {t : Nat} {ty : TypeId} {pos : String} {aft : Array Edge} {gd : Option (Nat × Bool)} {x : Operand} {args : Array Operand} {tys : Array TypeId} {f : FuncId} {cap : List D} {d : D} {i j : Nat} {ob ob' oc oc' : Ob} (hw : Yg ops gd e = some true) (ht : decide (t < n) = true) (hx : ev G e x = .fn f cap) (he : entB P f = true) (hi : h[i]? = some ob) (hj : h[j]? = some oc)
 (hc : ∀ h2, h2[i]? = some ob → h2[j]? = some oc → Does P G f h2 (args.toList.map (ev G e) ++ cap) (fun h' r => h' = (h2.set i ob').set j oc' ∧ r = d))
 (k : aeS P G n m0 ops Q (writE2 i j ob ob' oc oc' d :: done) rest (upd e t d) ((h.set i ob').set j oc')) : aeS P G n m0 ops Q done (⟨some t, .call ⟨.value x, args, tys⟩, ty, pos, aft, gd⟩ :: rest) e h := by
 have hh : ∀ h, (writE2 i j ob ob' oc oc' d).heap h = (h.set i ob').set j oc' := fun h => by simp [Eff.heap, Xt]
 exact aS_call (E := writE2 i j ob ob' oc oc' d) hw ht hx he ⟨by simp, fun _ _ _ => rfl⟩ (by simp [Eff.ok, hi, hj]) (fun h2 k2 => by rw [hh]; exact hc h2 (k2 (i, ob) (by simp)) (k2 (j, oc) (by simp))) (by rw [hh]; exact k)
theorem wC_s {n n2 : Nat} {rows r2 : List (List D)} {A B : Ob} {T : List Ob} : ((wC n rows A B T).set 0 (.cells [.buf 1 n2])).set 1 (.buf 5 1 r2) = wC n2 r2 A B T := rfl
theorem wC_m {n : Nat} {rows : List (List D)} {A B x : Ob} {T U : List Ob} : (wC n rows A B (T ++ x :: U))[T.length + 4]? = some x := by simp [wC, wB, wG]
theorem wC_n {n : Nat} {rows : List (List D)} {A B x y : Ob} {T U : List Ob} : (wC n rows A B (T ++ x :: (U ++ [y])))[T.length + (U.length + 1) + 4]? = some y := by
 have : (T ++ x :: (U ++ [y])) = (T ++ x :: U) ++ [y] := by simp
 rw [this, show T.length + (U.length + 1) + 4 = (T ++ x :: U).length + 4 by simp]; exact wC_l
theorem wC_ns {n : Nat} {rows : List (List D)} {A B x y z : Ob} {T U : List Ob} : (wC n rows A B (T ++ x :: (U ++ [y]))).set (T.length + (U.length + 1) + 4) z = wC n rows A B (T ++ x :: (U ++ [z])) := by
 have h1 : ∀ w, (T ++ x :: (U ++ [w])) = (T ++ x :: U) ++ [w] := fun w => by simp
 rw [h1, h1, show T.length + (U.length + 1) + 4 = (T ++ x :: U).length + 4 by simp]; exact wC_sl
variable (G : Nat → D) (hG : ∀ g, low 0 (G g))
include hG
attribute [local go_sem] Zj Zf Zg Zh Zq Int.toNat_zero Zm Zi Z4 Zc Zo Zk Zl Z9 Za Z6 Z7 Zb wB_box wB_len wC_2 wC_3 wC_app wC_l wC_len wC_m wC_n wC_ns wC_s wC_sl wG_0 wG_1 wG_a0 wG_a1 wG_b0 wG_b1 wG_s0 wG_s1 wH_box wH_len
attribute [local go_sem ↓] reduceIte
theorem w_c {l l2 : List UInt8} {f : FuncId} {xs : List D} {r0 : D} (lx : lowL 0 xs) (lr : low 0 r0) (q : Does Z3 G f (wH l) (.ptr 0 0 :: xs) (fun h' r => h' = wH l2 ∧ r = r0)) {n : Nat} {A B : Ob} {T : List Ob} (hn : n = l.length) :
 Does Z3 G f (wC n (byD l) A B T) (.ptr 0 0 :: xs) (fun h' r => h' = wC l2.length (byD l2) A B T ∧ r = r0) := w_b G hG lx lr q hn
theorem cUint (l : List UInt8) {n : Nat} (hn : n < 18446744073709551616) (hl : l.length ≤ 100000000) {A B : Ob} {T : List Ob} {n0 : Nat} (e0 : n0 = l.length) {z : Int} (hz : z = (n : Int)) : Does Z3 G 163 (wC n0 (byD l) A B T) [.ptr 0 0, .v (.int .u64 z)] (fun h' r => h' = wC (l ++ W9 n).length (byD (l ++ W9 n)) A B T ∧ r = .tup []) := by
 subst hz
 exact w_c G hG (by simp [lowL, low]) (by simp [low, lowL]) (wUint_d G hG l n hn hl) e0
theorem cText (l : List UInt8) {s : ByteArray} (hs : s.size ≤ 10000000) (hl : l.length ≤ 80000000) {A B : Ob} {T : List Ob} {n0 : Nat} (e0 : n0 = l.length) : Does Z3 G 164 (wC n0 (byD l) A B T) [.ptr 0 0, .v (.string s)] (fun h' r => h' = wC (l ++ U8 s).length (byD (l ++ U8 s)) A B T ∧ r = .tup []) :=
 w_c G hG (by simp [lowL, low]) (by simp [low, lowL]) (wText_d G hG l s hs hl) e0
def WriteD (l : Lat) (v : Val) : Prop := ∀ acc : List UInt8, acc.length + (putV l v).length ≤ 1000000 → Does Z3 G 99 (wH acc) [.ptr 0 0, .agg (latX l), .agg (vaX v)] (fun h' r => h' = wH (acc ++ putV l v) ∧ r = .tup [])
theorem write_names (l : Lat) (v : Val) (h1 : l.kind = 4 ∨ l.kind = 10) (hs : ∀ s ∈ v.names, s.size ≤ 16) : WriteD G l v := fun acc hb => by
 have hp : putV l v = W9 v.names.length ++ v.names.flatMap U8 := by cases l; exact putV_410 h1 v
 rw [hp] at hb ⊢
 rw [Z4] at hb
 have hnl : v.names.length ≤ 1000000 := by
  have : v.names.length ≤ (v.names.flatMap U8).length := by
   clear hb hp
   induction v.names with
   | nil => simp
   | cons a t ih => rw [List.flatMap_cons, Z4, Zc]; have : 1 ≤ (U8 a).length := by { unfold U8; rw [Z4]; have := uintE_pos a.size; omega }; omega
  omega
 have hw : IntKind.u64.wrap (v.names.length : Int) = ((v.names.length : Nat) : Int) := by rw [IntKind.wrap_u64]; omega
 refine Y6 Tryz.func99 rfl (Z0 rfl) hG fun hl0 _ => ?_
 simp only [Tryz.ntmps99]
 rcases h1 with h1 | h1
 all_goals
  have F : _ ∧ _ ∧ _ ∧ _ := ⟨Y4 l, Y5 v, h1, hw⟩
  repeat' first
   | refine g0 ?_
   | (with_reducible refine Y7 ?_; refine gc rfl rfl rfl ent_163 (cUint G hG acc (n := v.names.length) (by omega) (by omega) rfl rfl) ?_)
  generalize hP : acc ++ W9 v.names.length = P
  have hPl : P.length + (v.names.flatMap U8).length ≤ 1000000 := by rw [← hP, Z4]; omega
  refine Yh (fun m e h' => ∃ k : Nat, k ≤ v.names.length ∧ m = v.names.length - k ∧ h' = wC (P ++ (v.names.take k).flatMap U8).length (byD (P ++ (v.names.take k).flatMap U8)) (.cells (latX l)) (.cells (vaX v)) [] ∧ e 0 = .ptr 0 0 ∧ e 4 = .ptr 2 0 ∧ e 5 = .ptr 3 0 ∧ e 58 = .sl 1 (v.names.map strX) ∧ e 59 = .v (.int .i64 v.names.length) ∧ e 60 = .v (.int .i64 k)) v.names.length ⟨0, Z5 _, rfl, by rw [Y4 l, Y5 v, h1, List.take_zero, List.flatMap_nil, List.append_nil, ← hP, Z4], rfl, rfl, rfl, rfl, rfl, rfl⟩ ?_
  rintro m e h' ⟨k, hk, rfl, rfl, e0, e4, e5, e58, e59, e60⟩
  have hle := fm_take U8 v.names k
  by_cases hlt : k < v.names.length
  · have hx : v.names[k]? = some v.names[k] := Z1 hlt
    have hxs := hs _ (Zd hlt)
    generalize v.names[k] = x at hx hxs
    have hst := fm_step U8 hx
    have wk : IntKind.i64.wrap ((k : Int) + 1) = ((k + 1 : Nat) : Int) := IntWalk.i64_in _ (by omega)
    generalize hcur : P ++ (v.names.take k).flatMap U8 = cur
    have hcl : cur.length ≤ 1000000 := by rw [← hcur, Z4]; omega
    have F : _ ∧ _ ∧ _ ∧ _ ∧ _ ∧ _ ∧ _ ∧ _ ∧ _ ∧ _ ∧ _ := ⟨Y4 l, Y5 v, e0, e4, e5, e58, e59, e60, wk, h1, Wi⟩
    repeat' first
     | refine gg ?_
     | refine Two.mk (fun hq => ?_) fun hq => ?_
     | (with_reducible refine Y7 ?_; refine gc rfl rfl rfl ent_164 (cText G hG cur (s := x) (by omega) (by omega) rfl) ?_)
     | (exfalso; omega)
    exact ⟨rfl, v.names.length - (k + 1), by omega, k + 1, hlt, rfl, by rw [hst, ← Zm, hcur, Z4, Y4 l, Y5 v, h1], e0, e4, e5, e58, e59, rfl⟩
  · obtain rfl : k = v.names.length := by omega
    rw [List.take_length]
    have F : _ ∧ _ ∧ _ ∧ _ ∧ _ ∧ _ ∧ _ ∧ _ := ⟨Y4 l, Y5 v, e0, e4, e5, e58, e59, e60⟩
    repeat' first
     | refine gg ?_
     | refine Two.mk (fun hq => ?_) fun hq => ?_
     | refine Evry.mk fun x hx => ?_
     | (exfalso; omega)
    exact ⟨by simp, endW (l2 := acc ++ (W9 v.names.length ++ v.names.flatMap U8)) rfl rfl (by rw [← Zm, hP, Z4]) (by rw [← Zm, hP]) ⟨rfl, rfl⟩⟩
def tkE (t : Tk) : List UInt8 := W9 t.process.toNat ++ W9 t.n.toNat
omit hG in
end
section
section
variable {P : Program} {G : Nat → D} {n : Nat} {e : Nat → D} {h : List Ob}
theorem Sit_niltmp {B : Base} {a : Act} {w : World} (E k t : Nat) (ht : e t = .v (.slice none 0 0)) (r : Sit G B ⟨n, e, h⟩ a w) : Sit G B ⟨n, upd e t (.buf h.length 0), h ++ [.buf E k []]⟩ a w := by
 obtain ⟨hd, p, r⟩ := r
 obtain ⟨o, ev⟩ := Ok.grow (ob := .buf E k []) (u := .slice none 0 0) (w' := w) r.ok rfl rfl rfl (Zv _) (fun _ _ => rfl) (fun b hb => by cases hb) (fun c s => ⟨[], World.ownsRow_nil _ _ _ _, by simp [rdL], fun row h => by simp at h, fun g h => by cases h⟩)
 refine ⟨_, _, o, r.evo.trans ev, fun t' => ?_, r.size, r.defers⟩
 have q := ev.rd r.ok (r.tmp t')
 show rd _ _ _ (upd e t (.buf h.length 0) t') _
 unfold upd
 by_cases hh : t' = t
 · subst hh
   rw [if_pos rfl]
   have ht : (⟨n, e, h⟩ : S).env t' = .v (.slice none 0 0) := ht
   rw [ht] at q
   exact Zz1 (E := E) (k := k) (by simp) (by rw [← r.ok.len]; simp) q
 · rw [if_neg hh]; exact q
theorem Zh8 {c : Code} {Q : Exit → S → Prop} (E k t : Nat) (ht : e t = .v (.slice none 0 0)) (q : aw P G c Q ⟨n, upd e t (.buf h.length 0), h ++ [.buf E k []]⟩) : aw P G c Q ⟨n, e, h⟩ := fun B a w r => q B a w (Sit_niltmp E k t ht r)
end
end
section
attribute [local irreducible] on aOp
attribute [local go_sem] decide_true decide_false Zt Zp
attribute [local simp] byD_len
variable (G : Nat → D) (hG : ∀ g, low 0 (G g))
include hG
attribute [local go_sem] Zj Zf Zg Zh Zq Zo Z9 Za Z6 Z7 Zb
attribute [local go_sem ↓] reduceIte
theorem letter_d (c : Nat) (h : List Ob) : Does Z3 G 238 h [.v (.int .u8 c)] (fun h' r => h' = h ∧ r = .v (.bool (Zn3 c))) := by
 refine Y6 Tryz.func238 rfl (Z0 rfl) hG fun hl0 _ => ?_
 simp only [Tryz.ntmps238]
 repeat' first
  | refine gg ?_
  | refine Two.mk (fun hq => ?_) fun hq => ?_
  | (exfalso; omega)
 all_goals first
 | (exfalso; omega)
 | exact ⟨.inr rfl, endD (r := .v (.bool true)) hl0 rfl (by simp) (by simp) rfl (by rw [low]; trivial) ⟨rfl, by rw [show Zn3 c = true from decide_eq_true (by omega)]⟩⟩
 | exact ⟨.inr rfl, endD (r := .v (.bool false)) hl0 rfl (by simp) (by simp) rfl (by rw [low]; trivial) ⟨rfl, by rw [show Zn3 c = false from decide_eq_false (by omega)]⟩⟩
theorem sValid_d (s : ByteArray) (hs : s.size ≤ 9223372036854775807) (h : List Ob) : Does Z3 G 199 h [.v (.string s)] (fun h' r => h' = h ∧ r = .v (.bool (Wm s))) := by
 refine Y6 Tryz.func199 rfl (Z0 rfl) hG fun hl0 _ => ?_
 simp only [Tryz.ntmps199]
 by_cases hsz : 1 ≤ s.size ∧ s.size ≤ 16
 rotate_left
 · have e1 := Zi9 (s := s) (fun h => hsz h.1)
   repeat' first
    | refine gg ?_
    | refine Two.mk (fun hq => ?_) fun hq => ?_
    | (exfalso; omega)
   all_goals exact ⟨.inr rfl, endD (r := .v (.bool false)) hl0 rfl (by simp) (by simp) rfl (by rw [low]; trivial) ⟨rfl, by rw [e1]⟩⟩
 obtain ⟨b0, hb0⟩ : ∃ b, s.data[0]? = some b := ⟨s.data[0]'(by show 0 < s.size; omega), Ze _⟩
 have g0 := Yc2 hb0
 by_cases hb : 97 ≤ b0.toNat ∧ b0.toNat ≤ 122
 rotate_left
 · have e1 := Zi9 (s := s) (fun h => hb (by rw [← g0]; exact h.2))
   repeat' first
    | (with_reducible refine Y7 ?_; (refine ao1 rfl rfl fun K HK => ?_; simp only [go_sem]; refine Uh (by simp only [go_sem]) hb0 (by first | rfl | omega) ?_; refine HK _ _ ?_; clear HK K))
    | refine gg ?_
    | refine Two.mk (fun hq => ?_) fun hq => ?_
    | (exfalso; omega)
   all_goals first | (exfalso; omega) | exact ⟨.inr rfl, endD (r := .v (.bool false)) hl0 rfl (by simp) (by simp) rfl (by rw [low]; trivial) ⟨rfl, by rw [e1]⟩⟩
 have e1 := Ya2 (s := s) ⟨hsz, by rw [g0]; exact hb⟩
 repeat' first
  | (with_reducible refine Y7 ?_; (refine ao1 rfl rfl fun K HK => ?_; simp only [go_sem]; refine Uh (by simp only [go_sem]) hb0 (by first | rfl | omega) ?_; refine HK _ _ ?_; clear HK K))
  | refine gg ?_
  | refine Two.mk (fun hq => ?_) fun hq => ?_
  | (exfalso; omega)
 all_goals try (exfalso; omega)
 refine Yh (fun m e h' => ∃ k : Nat, k ≤ s.size ∧ m = s.size - k ∧ Wm s = (s.data.toList.drop k).all (fun c => Zn3 c.toNat) ∧ h' = h ∧ e 0 = .v (.string s) ∧ e 3 = .v (.int .i64 k)) s.size ⟨0, Z5 _, rfl, e1, rfl, rfl, rfl⟩ ?_
 rintro m e h' ⟨k, hk, rfl, ho, rfl, e0, e3⟩
 by_cases hlt : k < s.size
 · obtain ⟨c, hc⟩ : ∃ b, s.data[k]? = some b := ⟨s.data[k]'hlt, Ze _⟩
   have wk : IntKind.i64.wrap ((k : Int) + 1) = (k : Int) + 1 := IntWalk.i64_in _ (by omega)
   have hlet := letter_d G hG c.toNat
   rw [Yo7 hc, List.all_cons] at ho
   generalize Zn3 c.toNat = wb at hlet ho
   cases wb
   all_goals
    have F : _ ∧ _ ∧ _ := ⟨e0, e3, wk⟩
    repeat' first
     | (with_reducible refine Y7 ?_; (refine ao1 rfl rfl fun K HK => ?_; simp only [go_sem, F]; refine Uh (by simp only [go_sem, F]) hc (by first | rfl | omega) ?_; refine HK _ _ ?_; clear HK K))
     | refine gg ?_
     | refine Two.mk (fun hq => ?_) fun hq => ?_
     | (with_reducible refine Y7 ?_; refine gc rfl rfl rfl ent_238 (hlet _) ?_)
     | (exfalso; omega)
    first
    | exact ⟨rfl, s.size - (k + 1), by omega, k + 1, hlt, rfl, by rw [ho]; rfl, rfl, e0, rfl⟩
    | exact ⟨.inr rfl, endD (r := .v (.bool false)) hl0 rfl (by simp) (by simp) rfl (by rw [low]; trivial) ⟨rfl, by rw [ho]; rfl⟩⟩
 · skip
   have F : _ ∧ _ := ⟨e0, e3⟩
   repeat' first
    | refine gg ?_
    | refine Two.mk (fun hq => ?_) fun hq => ?_
    | (exfalso; omega)
   exact ⟨.inr rfl, endD (r := .v (.bool true)) hl0 rfl (by simp) (by simp) rfl (by rw [low]; trivial) ⟨rfl, by rw [ho, Z8 (by show s.data.toList.length ≤ k; rw [Array.length_toList]; show s.size ≤ k; omega)]; rfl⟩⟩
theorem sHas_d (l : List ByteArray) (a : ByteArray) (hl : l.length ≤ 9223372036854775807) (h : List Ob) : Does Z3 G 110 h [.sl 1 (l.map strX), .v (.string a)] (fun h' r => h' = h ∧ r = .v (.bool (hasS l a))) := by
 refine Y6 Tryz.func110 rfl (Z0 rfl) hG fun hl0 _ => ?_
 simp only [Tryz.ntmps110]
 repeat' first
  | refine g0 ?_
  | fail
 refine Yh (fun m e h' => ∃ k : Nat, k ≤ l.length ∧ m = l.length - k ∧ hasS l a = hasS (l.drop k) a ∧ h' = h ∧ e 0 = .sl 1 (l.map strX) ∧ e 1 = .v (.string a) ∧ e 5 = .v (.int .i64 k)) l.length ⟨0, Z5 _, rfl, rfl, rfl, rfl, rfl, rfl⟩ ?_
 rintro m e h' ⟨k, hk, rfl, ho, rfl, e0, e1, e5⟩
 by_cases hlt : k < l.length
 · have hx : l[k]? = some l[k] := Z1 hlt
   have hd : l.drop k = l[k] :: l.drop (k + 1) := Z2 hlt
   generalize l[k] = x at hx hd
   have wk : IntKind.i64.wrap ((k : Int) + 1) = (k : Int) + 1 := IntWalk.i64_in _ (by omega)
   rw [hd, hasS] at ho
   have F : _ ∧ _ ∧ _ ∧ _ ∧ _ := ⟨e0, e1, e5, Wi, wk⟩
   repeat' first
    | refine gg ?_
    | refine Two.mk (fun hq => ?_) fun hq => ?_
    | (exfalso; omega)
   · exact ⟨.inr rfl, endV hl0 rfl rfl ⟨rfl, by rw [ho, decide_eq_true hq]; rfl⟩⟩
   · exact ⟨rfl, l.length - (k + 1), by omega, k + 1, hlt, rfl, by rw [ho, decide_eq_false hq]; rfl, rfl, e0, e1, rfl⟩
 · skip
   have F : _ ∧ _ ∧ _ := ⟨e0, e1, e5⟩
   repeat' first
    | refine gg ?_
    | refine Two.mk (fun hq => ?_) fun hq => ?_
    | refine Evry.mk fun x hx => ?_
    | (exfalso; omega)
   exact ⟨by simp, endV hl0 rfl rfl ⟨rfl, by rw [ho, Z8 (by omega)]; rfl⟩⟩
end
section
attribute [local irreducible] on aOp
attribute [local go_sem] decide_true decide_false Zt Zp
attribute [local simp] byD_len
inductive Sm : Lat → Prop
 | mk (l : Lat) (h1 : l.names.length ≤ 9223372036854775807) (h2 : l.parts.length ≤ 9223372036854775807) (h3 : l.rules.length ≤ 9223372036854775807) (h4 : ∀ s ∈ l.names, s.size ≤ 9223372036854775807) (h5 : ∀ r ∈ l.rules, r.cond.length ≤ 9223372036854775807 ∧ ∀ s ∈ r.cond, s.size ≤ 9223372036854775807) (h6 : ∀ p ∈ l.parts, Sm p) : Sm l
theorem Sm.names {l : Lat} (h : Sm l) : l.names.length ≤ 9223372036854775807 := by cases h; assumption
theorem Sm.parts {l : Lat} (h : Sm l) : l.parts.length ≤ 9223372036854775807 := by cases h; assumption
theorem Sm.rules {l : Lat} (h : Sm l) : l.rules.length ≤ 9223372036854775807 := by cases h; assumption
theorem Sm.texts {l : Lat} (h : Sm l) : ∀ s ∈ l.names, s.size ≤ 9223372036854775807 := by cases h; assumption
theorem Sm.conds {l : Lat} (h : Sm l) : ∀ r ∈ l.rules, r.cond.length ≤ 9223372036854775807 ∧ ∀ s ∈ r.cond, s.size ≤ 9223372036854775807 := by cases h; assumption
theorem Sm.part {l : Lat} (h : Sm l) : ∀ p ∈ l.parts, Sm p := by cases h; assumption
theorem Wu (m : Nat) (l : Lat) : lowL m [.agg (latX l)] := by rw [lowL, lowL, low]; exact ⟨Yp m l, trivial⟩
theorem chain_no {l : Lat} (h : ¬ (l.kind = 1 ∨ l.kind = 2 ∨ l.kind = 3)) (h7 : l.kind ≠ 7 ∨ l.parts.length ≠ 2) : Wc l = false := by
 rw [Zh7, decide_eq_false h]
 rcases h7 with h7 | h7
 · rw [decide_eq_false h7]; rfl
 · rw [decide_eq_false h7, Bool.and_false]; rfl
theorem chain_two {l a b : Lat} (h : ¬ (l.kind = 1 ∨ l.kind = 2 ∨ l.kind = 3)) (h7 : l.kind = 7) (hp : l.parts = [a, b]) : Wc l = (Wc a && Wc b) := by
 rw [Zh7, decide_eq_false h, decide_eq_true h7, hp]; simp
variable (G : Nat → D) (hG : ∀ g, low 0 (G g))
include hG
attribute [local go_sem] Zj Zf Zg Zh Int.toNat_one Int.toNat_zero Zo Z9 Za Z6 Z7 Zb Zq0 Yb3
attribute [local go_sem ↓] reduceIte
theorem rChain_d (n : Nat) : ∀ (l : Lat), SizeOf.sizeOf l ≤ n → Sm l → ∀ (h : List Ob), Does Z3 G 198 h [.agg (latX l)] (fun h' r => h' = h ∧ r = .v (.bool (Wc l))) := by
 induction n with
 | zero => intro l hn; cases l; simp at hn
 | succ n ih =>
 intro l hn hsm h
 refine Y9 G hG (Wu _ l) (by rw [low]; trivial) ?_ h
 clear h
 have hpl := hsm.parts
 have hpp : ∀ p ∈ l.parts, ∀ (b : Bool), Wc p = b → ∀ (h : List Ob), Does Z3 G 198 h [.agg (latX p)] (fun h' r => h' = h ∧ r = .v (.bool b)) := fun p hp b hb h => hb ▸ ih p (by have := Yu hp; omega) (hsm.part p hp) h
 generalize hkk : l.kind = k
 by_cases h123 : k = 1 ∨ k = 2 ∨ k = 3
 · have e1 : Wc l = true := by rw [Zh7, hkk, decide_eq_true h123]; rfl
   rw [e1]
   refine Y6 Tryz.func198 rfl (Z0 rfl) hG fun hl0 _ => ?_
   simp only [Tryz.ntmps198]
   have F : _ ∧ _ := ⟨Y4, hkk⟩
   repeat' first
    | refine gg ?_
    | refine Two.mk (fun hq => ?_) fun hq => ?_
    | (exfalso; omega)
   all_goals first | (exfalso; omega) | exact ⟨.inr rfl, endD (r := .v (.bool true)) hl0 rfl (by simp) (by simp) rfl (by rw [low]; trivial) ⟨rfl, rfl⟩⟩
 by_cases h7 : k = 7 ∧ l.parts.length = 2
 rotate_left
 · have e1 : Wc l = false := chain_no (by rw [hkk]; exact h123) (by rw [hkk]; omega)
   rw [e1]
   refine Y6 Tryz.func198 rfl (Z0 rfl) hG fun hl0 _ => ?_
   simp only [Tryz.ntmps198]
   have F : _ ∧ _ := ⟨Y4, hkk⟩
   repeat' first
    | refine gg ?_
    | refine Two.mk (fun hq => ?_) fun hq => ?_
    | (exfalso; omega)
   all_goals first | (exfalso; omega) | exact ⟨.inr rfl, endD (r := .v (.bool false)) hl0 rfl (by simp) (by simp) rfl (by rw [low]; trivial) ⟨rfl, rfl⟩⟩
 obtain ⟨rfl, h2⟩ := h7
 obtain ⟨a, b, hab⟩ : ∃ a b, l.parts = [a, b] := by
  match hm : l.parts, h2 with
  | [a, b], _ => exact ⟨a, b, rfl⟩
 rw [chain_two (by rw [hkk]; exact h123) hkk hab]
 have ha := hpp a (by rw [hab]; simp)
 have hb := hpp b (by rw [hab]; simp)
 have hx0 : l.parts[0]? = some a := by rw [hab]; rfl
 have hx1 : l.parts[1]? = some b := by rw [hab]; rfl
 clear hab
 refine Y6 Tryz.func198 rfl (Z0 rfl) hG fun hl0 _ => ?_
 simp only [Tryz.ntmps198]
 cases hca : Wc a
 · skip
   have F : _ ∧ _ ∧ _ := ⟨Y4 l, hkk, h2⟩
   repeat' first
    | refine gg ?_
    | refine Two.mk (fun hq => ?_) fun hq => ?_
    | (with_reducible refine Y7 ?_; refine gc rfl rfl rfl Yp1 (ha _ hca _) ?_)
    | (exfalso; omega)
   all_goals first | (exfalso; omega) | exact ⟨.inr rfl, endD (r := .v (.bool false)) hl0 rfl (by simp) (by simp) rfl (by rw [low]; trivial) ⟨rfl, by rfl⟩⟩
 · cases hcb : Wc b
   all_goals
    skip
    have F : _ ∧ _ ∧ _ := ⟨Y4 l, hkk, h2⟩
    repeat' first
     | refine gg ?_
     | refine Two.mk (fun hq => ?_) fun hq => ?_
     | (with_reducible refine Y7 ?_; first | refine gc rfl rfl rfl Yp1 (ha _ hca _) ?_ | refine gc rfl rfl rfl Yp1 (hb _ hcb _) ?_)
     | (exfalso; omega)
   all_goals first | (exfalso; omega) | exact ⟨.inr rfl, endV hl0 rfl rfl ⟨rfl, by rfl⟩⟩
end
section
attribute [local irreducible] on aOp
attribute [local go_sem] decide_true decide_false Zt Zp
attribute [local simp] byD_len
def idxS (a : ByteArray) : List ByteArray → Nat → Int
 | [], _ => -1
 | x :: t, k => if a = x then k else idxS a t (k + 1)
theorem idxS_ge (a : ByteArray) : ∀ (l : List ByteArray) (k : Nat), decide (0 ≤ idxS a l k) = hasS l a
 | [], k => by simp [idxS, hasS]
 | x :: t, k => by
  have ih := idxS_ge a t (k + 1)
  by_cases h : a = x
  · simp [idxS, hasS, h]
  · rw [idxS, if_neg h, ih, hasS, decide_eq_false (fun q => h q.symm), Bool.false_or]
theorem Zu0 : ∀ l : List ByteArray, l.length ≤ 1 → Wa l = true
 | [], _ => rfl
 | [_], _ => rfl
 | _ :: _ :: _, h => by simp at h
variable (G : Nat → D) (hG : ∀ g, low 0 (G g))
include hG
attribute [local go_sem] Zj Zf Zg Zh Zq Zo Z9 Za Z6 Z7 Zb Wi
attribute [local go_sem ↓] reduceIte
theorem wordByte_d (c : Int) (h : List Ob) : Does Z3 G 244 h [.v (.int .u8 c)] (fun h' r => h' = h ∧ r = .v (.bool (Zn3 c))) := by
 unfold Zn3
 refine Y6 Tryz.func244 rfl (Z0 rfl) hG fun hl0 _ => ?_
 simp only [Tryz.ntmps244]
 repeat' first
  | refine gg ?_
  | refine Two.mk (fun hq => ?_) fun hq => ?_
  | (exfalso; omega)
 all_goals first | (exfalso; omega) | refine ⟨.inr rfl, endV hl0 rfl rfl ⟨rfl, congrArg (fun b => D.v (.bool b)) ?_⟩⟩
 all_goals (clear hl0; rw [Bool.eq_iff_iff]; simp; omega)
theorem Zm1 (s : ByteArray) (hs : s.size ≤ 9223372036854775807) (h : List Ob) : Does Z3 G 217 h [.v (.string s)] (fun h' r => h' = h ∧ r = .v (.bool (Wm s))) := by
 refine Y6 Tryz.func217 rfl (Z0 rfl) hG fun hl0 _ => ?_
 simp only [Tryz.ntmps217]
 by_cases hsz : 1 ≤ s.size ∧ s.size ≤ 16
 rotate_left
 · have e1 := Zi9 (s := s) (fun h => hsz h.1)
   repeat' first
    | refine gg ?_
    | refine Two.mk (fun hq => ?_) fun hq => ?_
    | (exfalso; omega)
   all_goals first | (exfalso; omega) | exact ⟨.inr rfl, endD (r := .v (.bool false)) hl0 rfl (by simp) (by simp) rfl (by rw [low]; trivial) ⟨rfl, by rw [e1]⟩⟩
 obtain ⟨b0, hb0⟩ : ∃ b, s.data[0]? = some b := ⟨s.data[0]'(by show 0 < s.size; omega), Ze _⟩
 have g0 := Yc2 hb0
 by_cases hb : 97 ≤ b0.toNat ∧ b0.toNat ≤ 122
 rotate_left
 · have e1 := Zi9 (s := s) (fun h => hb (by rw [← g0]; exact h.2))
   repeat' first
    | (with_reducible refine Y7 ?_; (refine ao1 rfl rfl fun K HK => ?_; simp only [go_sem]; refine Uh (by simp only [go_sem]) hb0 (by first | rfl | omega) ?_; refine HK _ _ ?_; clear HK K))
    | refine gg ?_
    | refine Two.mk (fun hq => ?_) fun hq => ?_
    | (exfalso; omega)
   all_goals first | (exfalso; omega) | exact ⟨.inr rfl, endD (r := .v (.bool false)) hl0 rfl (by simp) (by simp) rfl (by rw [low]; trivial) ⟨rfl, by rw [e1]⟩⟩
 have e1 := Ya2 (s := s) ⟨hsz, by rw [g0]; exact hb⟩
 repeat' first
  | (with_reducible refine Y7 ?_; (refine ao1 rfl rfl fun K HK => ?_; simp only [go_sem]; refine Uh (by simp only [go_sem]) hb0 (by first | rfl | omega) ?_; refine HK _ _ ?_; clear HK K))
  | refine gg ?_
  | refine Two.mk (fun hq => ?_) fun hq => ?_
  | (exfalso; omega)
 all_goals try (exfalso; omega)
 refine Yh (fun m e h' => ∃ k : Nat, k ≤ s.size ∧ m = s.size - k ∧ Wm s = (s.data.toList.drop k).all (fun c => Zn3 c.toNat) ∧ h' = h ∧ e 0 = .v (.string s) ∧ e 23 = .v (.int .i64 s.size) ∧ e 24 = .v (.int .i64 k)) s.size ⟨0, Z5 _, rfl, e1, rfl, rfl, rfl, rfl⟩ ?_
 rintro m e h' ⟨k, hk, rfl, ho, rfl, e0, e23, e24⟩
 by_cases hlt : k < s.size
 · obtain ⟨c, hc⟩ : ∃ b, s.data[k]? = some b := ⟨s.data[k]'hlt, Ze _⟩
   have wk : IntKind.i64.wrap ((k : Int) + 1) = (k : Int) + 1 := IntWalk.i64_in _ (by omega)
   rw [Yo7 hc, List.all_cons] at ho
   have hw := wordByte_d G hG (c.toNat : Int)
   cases hwb : Zn3 c.toNat <;> rw [hwb] at hw ho
   · skip
     have F : _ ∧ _ ∧ _ ∧ _ := ⟨e0, e23, e24, wk⟩
     repeat' first
      | (with_reducible refine Y7 ?_; (refine ao1 rfl rfl fun K HK => ?_; simp only [go_sem, F]; refine Uh (by simp only [go_sem, F]) hc (by first | rfl | omega) ?_; refine HK _ _ ?_; clear HK K))
      | refine gg ?_
      | refine Two.mk (fun hq => ?_) fun hq => ?_
      | (with_reducible refine Y7 ?_; refine gc rfl rfl rfl ent_244 (hw _) ?_)
      | (exfalso; omega)
     exact ⟨.inr rfl, endD (r := .v (.bool false)) hl0 rfl (by simp) (by simp) rfl (by rw [low]; trivial) ⟨rfl, by rw [ho]; rfl⟩⟩
   · skip
     have F : _ ∧ _ ∧ _ ∧ _ := ⟨e0, e23, e24, wk⟩
     repeat' first
      | (with_reducible refine Y7 ?_; (refine ao1 rfl rfl fun K HK => ?_; simp only [go_sem, F]; refine Uh (by simp only [go_sem, F]) hc (by first | rfl | omega) ?_; refine HK _ _ ?_; clear HK K))
      | refine gg ?_
      | refine Two.mk (fun hq => ?_) fun hq => ?_
      | (with_reducible refine Y7 ?_; refine gc rfl rfl rfl ent_244 (hw _) ?_)
      | (exfalso; omega)
     exact ⟨rfl, s.size - (k + 1), by omega, k + 1, hlt, rfl, by rw [ho]; rfl, rfl, e0, e23, rfl⟩
 · skip
   have F : _ ∧ _ ∧ _ := ⟨e0, e23, e24⟩
   repeat' first
    | refine gg ?_
    | refine Two.mk (fun hq => ?_) fun hq => ?_
    | (exfalso; omega)
   exact ⟨.inr rfl, endD (r := .v (.bool true)) hl0 rfl (by simp) (by simp) rfl (by rw [low]; trivial) ⟨rfl, by rw [ho, Z8 (by show s.data.toList.length ≤ k; rw [Array.length_toList]; show s.size ≤ k; omega)]; rfl⟩⟩
theorem idxS_d (l : List ByteArray) (a : ByteArray) (hl : l.length ≤ 9223372036854775807) (h : List Ob) : Does Z3 G 124 h [.sl 1 (l.map strX), .v (.string a)] (fun h' r => h' = h ∧ r = .v (.int .i64 (idxS a l 0))) := by
 refine Y6 Tryz.func124 rfl (Z0 rfl) hG fun hl0 _ => ?_
 simp only [Tryz.ntmps124]
 repeat' first
  | refine g0 ?_
  | fail
 refine Yh (fun m e h' => ∃ k : Nat, k ≤ l.length ∧ m = l.length - k ∧ idxS a l 0 = idxS a (l.drop k) k ∧ h' = h ∧ e 0 = .sl 1 (l.map strX) ∧ e 1 = .v (.string a) ∧ e 7 = .v (.int .i64 l.length) ∧ e 8 = .v (.int .i64 k)) l.length ⟨0, Z5 _, rfl, rfl, rfl, rfl, rfl, rfl, rfl⟩ ?_
 rintro m e h' ⟨k, hk, rfl, ho, rfl, e0, e1, e7, e8⟩
 by_cases hlt : k < l.length
 · have hx : l[k]? = some l[k] := Z1 hlt
   have hd : l.drop k = l[k] :: l.drop (k + 1) := Z2 hlt
   generalize l[k] = x at hx hd
   have wk : IntKind.i64.wrap ((k : Int) + 1) = (k : Int) + 1 := IntWalk.i64_in _ (by omega)
   rw [hd, idxS] at ho
   have F : _ ∧ _ ∧ _ ∧ _ ∧ _ := ⟨e0, e1, e7, e8, wk⟩
   repeat' first
    | refine gg ?_
    | refine Two.mk (fun hq => ?_) fun hq => ?_
    | (exfalso; omega)
   · exact ⟨.inr rfl, endV hl0 rfl rfl ⟨rfl, by rw [ho, if_pos hq]⟩⟩
   · exact ⟨rfl, l.length - (k + 1), by omega, k + 1, hlt, rfl, by rw [ho, if_neg hq], rfl, e0, e1, e7, rfl⟩
 · skip
   have F : _ ∧ _ ∧ _ ∧ _ := ⟨e0, e1, e7, e8⟩
   repeat' first
    | refine gg ?_
    | refine Two.mk (fun hq => ?_) fun hq => ?_
    | refine Evry.mk fun x hx => ?_
    | (exfalso; omega)
   exact ⟨by simp, endV hl0 rfl rfl ⟨rfl, by rw [ho, Z8 (by omega)]; rfl⟩⟩
theorem Yq0 (l : List ByteArray) (a : ByteArray) (hl : l.length ≤ 9223372036854775807) (h : List Ob) : Does Z3 G 101 h [.sl 1 (l.map strX), .v (.string a)] (fun h' r => h' = h ∧ r = .v (.bool (hasS l a))) := by
 rw [← idxS_ge a l 0]
 have hi := idxS_d G hG l a hl
 generalize idxS a l 0 = i at *
 refine Y6 Tryz.func101 rfl (Z0 rfl) hG fun hl0 _ => ?_
 simp only [Tryz.ntmps101]
 repeat' first
  | refine gg ?_
  | refine Two.mk (fun hq => ?_) fun hq => ?_
  | (with_reducible refine Y7 ?_; refine gc rfl rfl rfl Za3 (hi _) ?_)
 all_goals exact ⟨.inr rfl, endV hl0 rfl rfl ⟨rfl, by first | rw [decide_eq_true hq] | rw [decide_eq_false hq]⟩⟩
theorem hasS_d (l : List ByteArray) (a : ByteArray) (hl : l.length ≤ 9223372036854775807) (h : List Ob) : Does Z3 G 183 h [.sl 1 (l.map strX), .v (.string a)] (fun h' r => h' = h ∧ r = .v (.bool (hasS l a))) := by
 refine Y6 Tryz.func183 rfl (Z0 rfl) hG fun hl0 _ => ?_
 simp only [Tryz.ntmps183]
 repeat' first
  | refine g0 ?_
  | (with_reducible refine Y7 ?_; refine gc rfl rfl rfl Yd3 (Yq0 G hG l a hl _) ?_)
 exact ⟨.inr rfl, endV hl0 rfl rfl ⟨rfl, rfl⟩⟩
theorem Zy5 (l : List ByteArray) (hl : l.length ≤ 9223372036854775807) (h : List Ob) : Does Z3 G 216 h [.sl 1 (l.map strX)] (fun h' r => h' = h ∧ r = .v (.bool (Wa l))) := by
 by_cases hsh : l.length ≤ 1
 · rw [Zu0 l hsh]
   refine Y6 Tryz.func216 rfl (Z0 rfl) hG fun hl0 _ => ?_
   simp only [Tryz.ntmps216]
   repeat' first
    | refine g0 ?_
    | fail
   refine Yh (fun m e h' => h' = h ∧ e 0 = .sl 1 (l.map strX) ∧ e 3 = .v (.int .i64 1)) l.length ⟨rfl, rfl, rfl⟩ ?_
   rintro m e h' ⟨rfl, e0, e3⟩
   have F : _ ∧ _ := ⟨e0, e3⟩
   repeat' first
    | (with_reducible refine Yc ?_; refine Y8 mixd (by kernel_rfl) ?_)
    | refine gg ?_
    | refine Two.mk (fun hq => ?_) fun hq => ?_
    | refine Evry.mk fun x hx => ?_
    | (exfalso; omega)
   all_goals first | (exfalso; omega) | exact ⟨.inr rfl, endV hl0 rfl rfl ⟨rfl, rfl⟩⟩
 obtain ⟨x0, t, rfl⟩ : ∃ x t, l = x :: t := by
  cases l with
  | nil => simp at hsh
  | cons x t => exact ⟨x, t, rfl⟩
 generalize hll : x0 :: t = l at *
 have h0 : Wa l = Xj (l[0]'(by omega)) (l.drop 1) := by subst hll; rfl
 refine Y6 Tryz.func216 rfl (Z0 rfl) hG fun hl0 _ => ?_
 simp only [Tryz.ntmps216]
 repeat' first
  | refine g0 ?_
  | fail
 refine Yh (fun m e h' => ∃ (k : Nat) (hk : k < l.length), m = l.length - k ∧ Wa l = Xj l[k] (l.drop (k + 1)) ∧ h' = h ∧ e 0 = .sl 1 (l.map strX) ∧ e 3 = .v (.int .i64 ((k : Int) + 1))) l.length ⟨0, by omega, rfl, h0, rfl, rfl, rfl⟩ ?_
 rintro m e h' ⟨k, hk, rfl, ho, rfl, e0, e3⟩
 by_cases hlt : k + 1 < l.length
 · have hx : l[k]? = some l[k] := Z1 (by omega)
   have hy : l[k + 1]? = some l[k + 1] := Z1 hlt
   rw [Zy2 l k hlt] at ho
   have wk : IntKind.i64.wrap ((k : Int) + 1 + 1) = (k : Int) + 1 + 1 := IntWalk.i64_in _ (by omega)
   have wm : IntKind.i64.wrap ((k : Int) + 1 - 1) = (k : Int) := by rw [show (k : Int) + 1 - 1 = (k : Int) by omega]; exact IntWalk.i64_in _ (by omega)
   have tk : ((k : Int) + 1).toNat = k + 1 := by omega
   unfold J2 at ho
   cases hlt2 : Op.bytesLess l[k].toList l[k + 1].toList
   · generalize l[k] = x at *
     generalize l[k + 1] = y at *
     have F : _ ∧ _ ∧ _ ∧ _ ∧ _ ∧ _ := ⟨e0, e3, wk, wm, tk, hlt2⟩
     repeat' first
      | (with_reducible refine Yc ?_; refine Y8 mixd (by kernel_rfl) ?_)
      | refine gg ?_
      | refine Two.mk (fun hq => ?_) fun hq => ?_
      | (exfalso; omega)
     exact ⟨by simp, endV hl0 rfl rfl ⟨rfl, by rw [ho, hlt2]; rfl⟩⟩
   · rw [hlt2, Bool.true_and] at ho
     generalize l[k] = x at *
     have hy' := hy
     generalize hyl : l[k + 1] = y at hy hlt2
     have F : _ ∧ _ ∧ _ ∧ _ ∧ _ ∧ _ := ⟨e0, e3, wk, wm, tk, hlt2⟩
     repeat' first
      | (with_reducible refine Yc ?_; refine Y8 mixd (by kernel_rfl) ?_)
      | refine gg ?_
      | refine Two.mk (fun hq => ?_) fun hq => ?_
      | (exfalso; omega)
     exact ⟨rfl, l.length - (k + 1), by omega, k + 1, hlt, rfl, ho, rfl, e0, rfl⟩
 · skip
   have F : _ ∧ _ := ⟨e0, e3⟩
   repeat' first
    | (with_reducible refine Yc ?_; refine Y8 mixd (by kernel_rfl) ?_)
    | refine gg ?_
    | refine Two.mk (fun hq => ?_) fun hq => ?_
    | refine Evry.mk fun x hx => ?_
    | (exfalso; omega)
   exact ⟨by simp, endV hl0 rfl rfl ⟨rfl, by rw [ho, Z8 (by omega)]; rfl⟩⟩
theorem Zn8 (a b : List ByteArray) (ha : a.length ≤ 9223372036854775807) (hb : b.length ≤ 9223372036854775807) (h : List Ob) : Does Z3 G 123 h [.sl 1 (a.map strX), .sl 1 (b.map strX)] (fun h' r => h' = h ∧ r = .v (.bool (Xm a b))) := by
 refine Y6 Tryz.func123 rfl (Z0 rfl) hG fun hl0 _ => ?_
 simp only [Tryz.ntmps123]
 repeat' first
  | refine g0 ?_
  | fail
 refine Yh (fun m e h' => ∃ k : Nat, k ≤ a.length ∧ m = a.length - k ∧ Xm a b = Xm (a.drop k) b ∧ h' = h ∧ e 1 = .sl 1 (b.map strX) ∧ e 7 = .sl 1 (a.map strX) ∧ e 8 = .v (.int .i64 a.length) ∧ e 9 = .v (.int .i64 k)) a.length ⟨0, Z5 _, rfl, rfl, rfl, rfl, rfl, rfl, rfl⟩ ?_
 rintro m e h' ⟨k, hk, rfl, ho, rfl, e1, e7, e8, e9⟩
 by_cases hlt : k < a.length
 · have hx : a[k]? = some a[k] := Z1 hlt
   have hd : a.drop k = a[k] :: a.drop (k + 1) := Z2 hlt
   generalize a[k] = x at hx hd
   have wk : IntKind.i64.wrap ((k : Int) + 1) = (k : Int) + 1 := IntWalk.i64_in _ (by omega)
   have hh := hasS_d G hG b x hb
   have ho : Xm a b = (hasS b x && Xm (a.drop (k + 1)) b) := by rw [ho, hd]; rfl
   cases hxb : hasS b x <;> rw [hxb] at hh ho
   · skip
     have F : _ ∧ _ ∧ _ ∧ _ ∧ _ := ⟨e1, e7, e8, e9, wk⟩
     repeat' first
      | refine gg ?_
      | refine Two.mk (fun hq => ?_) fun hq => ?_
      | (with_reducible refine Y7 ?_; refine gc rfl rfl rfl Zh2 (hh _) ?_)
      | (exfalso; omega)
     exact ⟨.inr rfl, endV hl0 rfl rfl ⟨rfl, by rw [ho]; rfl⟩⟩
   · skip
     have F : _ ∧ _ ∧ _ ∧ _ ∧ _ := ⟨e1, e7, e8, e9, wk⟩
     repeat' first
      | refine gg ?_
      | refine Two.mk (fun hq => ?_) fun hq => ?_
      | (with_reducible refine Y7 ?_; refine gc rfl rfl rfl Zh2 (hh _) ?_)
      | (exfalso; omega)
     exact ⟨rfl, a.length - (k + 1), by omega, k + 1, hlt, rfl, by rw [ho]; rfl, rfl, e1, e7, e8, rfl⟩
 · skip
   have F : _ ∧ _ ∧ _ ∧ _ := ⟨e1, e7, e8, e9⟩
   repeat' first
    | refine gg ?_
    | refine Two.mk (fun hq => ?_) fun hq => ?_
    | refine Evry.mk fun x hx => ?_
    | (exfalso; omega)
   exact ⟨by simp, endV hl0 rfl rfl ⟨rfl, by rw [ho, Z8 (by omega)]; rfl⟩⟩
end
section
variable {P : Program} {G : Nat → D} {n : Nat} {e : Nat → D} {h : List Ob} {ops : Array Oper} {rest : List Oper} {Q : S → Prop}
theorem tri_soundE {B : Base} {a : Act} {w : World} {o : Oper} {K : Act → World → Prop} {KD : List Ob → D → Prop} {R : Exit → Act → World → Prop} (q : OpTri P G o ((opds o.op).map (ev G e)) h KD) (r : Sit G B ⟨n, e, h⟩ a w) (k : ∀ h' d, KD h' d → ∀ a' w', Sit G B ⟨n, putE n e o.dst d, h'⟩ a' w' → K a' w') : o.wp P a w K R := by
 obtain ⟨hd, p, r⟩ := r
 refine Oper.wp_mono ?_ (q a w hd p R r.defers r.ok (Zs2 r _))
 rintro a' w' ⟨v, rfl, hd', h'', d', p', hk, o', q', ev'⟩
 have := r.put o' ev' q' o.dst
 rw [Zc1] at this
 exact k _ _ hk _ _ ⟨hd', p', this⟩
theorem ao_ex {o : Oper} {KD : List Ob → D → Prop} (hw : Yg ops o.guard e = some true) (q : OpTri P G o ((opds o.op).map (ev G e)) h KD) (k : ∀ h' d, KD h' d → ao P G ops rest Q ⟨n, putE n e o.dst d, h'⟩) : ao P G ops (o :: rest) Q ⟨n, e, h⟩ := by
 rintro B a w r R hR
 obtain ⟨hd, p, r'⟩ := id r
 unfold wpList
 rw [if_pos (Xf (o := o) r' hw)]
 exact .inl (tri_soundE q r fun h' d hk a' w' r2 => k h' d hk B a' w' r2 R hR)
theorem tri_nil {dst : Option Nat} {t yt ty : TypeId} {x y : Operand} {pos : String} {aft : Array Edge} {gd : Option (Nat × Bool)} {k : Nat} {xs : List (List D)} (ht : slT P t = true) :
 OpTri P G ⟨dst, .binOp .eql t x y yt, ty, pos, aft, gd⟩ [.sl k xs, .v (.slice none 0 0)] h (fun h' d => h' = h ∧ ((d = .v (.bool true) ∧ xs = []) ∨ d = .v (.bool false))) := fun a w hd p R hdf ok ha => by
 have ho : opds (.binOp .eql t x y yt) = [x, y] := by simp [opds, Op.operands]
 rw [ho, Zx, Zx, List.map_nil, rdL] at ha
 obtain ⟨u, t1, e1, h1, ha⟩ := ha
 rw [rdL] at ha
 obtain ⟨u2, t2, e2, h2, ha⟩ := ha
 rw [rd] at h1
 rw [rd] at h2
 obtain ⟨ad, cap, hu, hc, _, hr⟩ := h1
 subst h2
 cases e1
 injection e2 with e2 e3
 obtain ⟨el, hun⟩ := slT_spec ht
 have en : ∀ w, (Op.equal t (.slice ad xs.length cap) (.slice none 0 0)).run P w = .ok (ad.isNone) w := fun w => by
  unfold Op.equal Op.maxDepth Op.equalIn
  cases ad <;> simp [Go.underlying, hun]
 have hrun : (execOp a.eval ⟨dst, .binOp .eql t x y yt, ty, pos, aft, gd⟩).run P w = .ok (.value (.bool ad.isNone)) w := by
  simp [execOp, hu, e2, eqGuard, binOp, en]
 unfold Oper.wp
 rw [hrun]
 refine ⟨_, rfl, .same ok ⟨rfl, ?_⟩ (d := .v (.bool ad.isNone)) (by rw [rd])⟩
 cases ad with
 | none =>
  refine .inl ⟨rfl, ?_⟩
  have := hc.1 rfl
  exact List.eq_nil_of_length_eq_zero (by omega)
 | some a => exact .inr rfl
theorem Does.nilbuf {f : FuncId} {args : List D} {K K' : List Ob → D → Prop} (E k : Nat) (q : Does P G f h args K) (c : ∀ h' r, K h' r → K' h' r ∨ (r = .v (.slice none 0 0) ∧ K' (h' ++ [.buf E k []]) (.buf h'.length 0))) : Does P G f h args K' := fun w hd p vs o ha => by
 refine (q w hd p vs o ha).mono ?_
 rintro e w' ⟨v, hd', h', r, p', rfl, hK, ok, hr, ev⟩
 rcases c _ _ hK with hk | ⟨rfl, hk⟩
 · exact ⟨v, hd', h', r, p', rfl, hk, ok, hr, ev⟩
 · obtain ⟨o2, ev2⟩ := Ok.grow (ob := .buf E k []) (u := .slice none 0 0) (w' := w') ok rfl rfl rfl (Zv _) (fun _ _ => rfl) (fun b hb => by cases hb) (fun c s => ⟨[], World.ownsRow_nil _ _ _ _, by simp [rdL], fun row h => by simp at h, fun g h => by cases h⟩)
   exact ⟨v, _, _, _, _, rfl, hk, o2, Zz1 (E := E) (k := k) (by simp) (by rw [← ok.len]; simp) (ev2.rd ok hr), ev.trans ev2⟩
end
section
section
variable {P : Program} {G : Nat → D} {n m0 : Nat} {e : Nat → D} {h : List Ob} {ops : Array Oper} {rest : List Oper} {Q : (Nat → D) → List Ob → Prop} {done : List Eff} {t : Nat} {ty : TypeId} {pos : String} {aft : Array Edge} {gd : Option (Nat × Bool)}
theorem aS_idxB {u : TypeId} {x y : Operand} {i m E k : Nat} {κ : IntKind} {z : Int} {xs : List (List D)} (hw : Yg ops gd e = some true) (ht : decide (t < n) = true) (hx : ev G e x = .buf i m) (hy : ev G e y = .v (.int κ z)) (hi : h[i]? = some (.buf E k xs)) (hm : xs.length = m) (he : (elT P u).bind (szT P) = some k) (h0 : 0 ≤ z) (h1 : z < (m : Int))
 (q : aeS P G n m0 ops Q (Wl i (.buf E k xs) (.bp i m z.toNat 0) :: done) rest (upd e t (.bp i m z.toNat 0)) h) : aeS P G n m0 ops Q done (⟨some t, .indexAddr u x y, ty, pos, aft, gd⟩ :: rest) e h := by
 have hh : ∀ h, (Wl i (.buf E k xs) (.bp i m z.toNat 0)).heap h = h := fun h => by simp [Wl, Eff.heap, Xt]
 refine ⟨Wl i (.buf E k xs) (.bp i m z.toNat 0), .inl ⟨hw, ⟨by simp [Wl], fun _ _ _ => rfl⟩, fun h2 k2 => .inl ?_⟩, by simpa [Wl, Eff.ok] using hi, ?_⟩
 · rw [hh]
   have hi2 : h2[i]? = some (.buf E k xs) := k2 (i, .buf E k xs) (by simp [Wl])
   rw [aOp_iaddr, hx, hy, idxA_buf]
   exact ⟨E, k, xs, hi2, hm, he, h0, h1, rfl, rfl⟩
 · rw [hh]; unfold putE; simp only [if_pos (of_decide_eq_true ht)]; exact q
theorem Zx2 {u : TypeId} {x : Operand} {i m r j E k : Nat} {xs : List (List D)} {row : List D} {d : D} (hw : Yg ops gd e = some true) (ht : decide (t < n) = true) (hx : ev G e x = .bp i m r j) (hi : h[i]? = some (.buf E k xs)) (hm : xs.length = m) (hr : xs[r]? = some row) (hg : getD P u row j = some d)
 (q : aeS P G n m0 ops Q (Wl i (.buf E k xs) d :: done) rest (upd e t d) h) : aeS P G n m0 ops Q done (⟨some t, .load u x, ty, pos, aft, gd⟩ :: rest) e h := by
 have hh : ∀ h, (Wl i (.buf E k xs) d).heap h = h := fun h => by simp [Wl, Eff.heap, Xt]
 refine ⟨Wl i (.buf E k xs) d, .inl ⟨hw, ⟨by simp [Wl], fun _ _ _ => rfl⟩, fun h2 k2 => .inl ?_⟩, by simpa [Wl, Eff.ok] using hi, ?_⟩
 · rw [hh]
   have hi2 : h2[i]? = some (.buf E k xs) := k2 (i, .buf E k xs) (by simp [Wl])
   show on (Zb1 P h2 u (ev G e x)) _
   rw [hx]
   simp only [Zb1, hi2, hr, if_pos hm, Zn, hg, on]
   exact ⟨trivial, rfl⟩
 · rw [hh]; unfold putE; simp only [if_pos (of_decide_eq_true ht)]; exact q
end
theorem does_newR {P : Program} {G : Nat → D} {f : FuncId} {args : List D} (hG : ∀ g, low 0 (G g)) {e k n : Nat} {rows : List (List D)} (lr : low 0 (.sl k rows)) (la : lowL 0 args) (q : Does P G f [] args (fun h' r => h' = [.buf e k rows] ∧ r = .buf 0 n)) (h : List Ob) : Does P G f h args (fun h' r => h' = h ++ [.buf e k rows] ∧ r = .buf h.length n) := by
 refine Does.holes 1 ?_
 have L : Lies (fun _ => h.length) [] (h ++ holes 1) := ⟨fun i ob q => by simp at q, fun i j q => by simp at q, fun ob q => by simp at q⟩
 have F := Does.frame hG L (args := args) la (K1 := fun h' r => h' = [.buf e k rows] ∧ r = .buf 0 n) (by
  rintro _ _ ⟨rfl, _⟩
  refine ⟨fun i j hi hj _ => by simp at hi hj; omega, fun j _ hj => ?_⟩
  simp [holes]) q
 rw [W0 _ _ la] at F
 refine F.mono ?_
 rintro _ _ ⟨_, _, ⟨rfl, rfl⟩, rfl, rfl⟩
 have e1 : renR (fun _ => h.length) rows = rows := by
  have := J3 (fun _ => h.length) _ lr
  rw [ren] at this
  exact (D.sl.inj this).2
 simp [plc, Ve, ren, holes, e1]
end
section
section
variable {P : Program} {G : Nat → D} {n : Nat} {e : Nat → D} {h : List Ob} {ops : Array Oper} {rest : List Oper} {Q : S → Prop} {t : Nat} {ty : TypeId} {pos : String} {aft : Array Edge} {gd : Option (Nat × Bool)}
theorem Za0 {x : Operand} {args : Array Operand} {tys : Array TypeId} {f : FuncId} {cap : List D} {K : List Ob → D → Prop} (hw : Yg ops gd e = some true) (ht : decide (t < n) = true) (hx : ev G e x = .fn f cap) (he : entB P f = true) (hc : Does P G f h (args.toList.map (ev G e) ++ cap) K)
 (q : ∀ h' r, K h' r → ao P G ops rest Q ⟨n, upd e t r, h'⟩) : ao P G ops (⟨some t, .call ⟨.value x, args, tys⟩, ty, pos, aft, gd⟩ :: rest) Q ⟨n, e, h⟩ := by
 have ho : opds (.call ⟨.value x, args, tys⟩) = x :: args.toList := by simp [opds, Op.operands, Call.operands]
 refine ao_ex (KD := K) hw ?_ fun h' d hk => ?_
 · show OpTri P G _ ((opds (.call ⟨.value x, args, tys⟩)).map (ev G e)) h K
   rw [ho, Zx, hx]
   exact Zx6 he hc
 · unfold putE
   simp only [if_pos (of_decide_eq_true ht)]
   exact q h' d hk
end
end
section
variable {P : Program} {G : Nat → D} {f : FuncId} {h : List Ob} {args : List D}
mutual
theorem rnO_low0 (R : List Nat) : ∀ d, low 0 d → rnO R d = some d
 | .any, _ => by rw [rnO]
 | .v _, _ => by rw [rnO]
 | .e0, _ => by rw [rnO]
 | .sl k xs, l => by rw [low] at l; rw [rnO, Zw0 R xs l]
 | .agg ds, l => by rw [low] at l; rw [rnO, Zi4 R ds l]
 | .tup ds, l => by rw [low] at l; rw [rnO, Zi4 R ds l]
 | .rp ds, l => by rw [low] at l; rw [rnO, Zi4 R ds l]
 | .fn f ds, l => by rw [low] at l; rw [rnO, Zi4 R ds l]
 | .ptr i o, l => by rw [low] at l; omega
 | .buf i n, l => by rw [low] at l; omega
 | .bp i n r c, l => by rw [low] at l; omega
 | .win i n a b, l => by rw [low] at l; omega
 | .arr i o n c k, l => by rw [low] at l; omega
 | .mp i, l => by rw [low] at l; omega
theorem Zi4 (R : List Nat) : ∀ d, lowL 0 d → rnL R d = some d
 | [], _ => by rw [rnL]
 | d :: t, l => by rw [lowL] at l; rw [rnL, rnO_low0 R d l.1, Zi4 R t l.2]
theorem Zw0 (R : List Nat) : ∀ d, lowR 0 d → rnR R d = some d
 | [], _ => by rw [rnR]
 | d :: t, l => by rw [lowR] at l; rw [rnR, Zi4 R d l.1, Zw0 R t l.2]
end
theorem Does.only0 {K : List Ob → D → Prop} (hG : ∀ g, low 0 (G g)) {E k n : Nat} {rows : List (List D)} (lr : low 0 (.sl k rows)) (q : Does P G f [] args K) (c : ∀ h' r, K h' r → ∃ i, h'[i]? = some (.buf E k rows) ∧ r = .buf i n) : Does P G f [] args (fun h' r => h' = [.buf E k rows] ∧ r = .buf 0 n) := by
 refine q.shrink hG fun h' r hK => ?_
 obtain ⟨i, hi, rfl⟩ := c _ _ hK
 rw [low] at lr
 refine ⟨[.buf E k rows], .buf 0 n, ⟨[i], ?_, rfl, ?_, Z5 _, fun k hk => by simp at hk⟩, rfl, rfl⟩
 · simp [rnH, hi, rnOb, Zw0 _ _ lr]
 · simp [rnO, pos]
theorem Does.gave0 (hG : ∀ g, low 0 (G g)) {E k n : Nat} {rows : List (List D)} (lr : low 0 (.sl k rows)) (la : lowL 0 args) (hn : rows.length = n) (q : Does P G f [] args (fun h' r => h' = [.buf E k rows] ∧ r = .buf 0 n)) (h : List Ob) : Does P G f h args (fun h' r => h' = h ∧ r = .sl k rows) := by
 refine Y9 G hG la lr (q.drop hG ?_) h
 rintro _ _ ⟨rfl, rfl⟩
 refine ⟨0, Zv _, Z5 _, fun x hx => by simp at hx, ?_, ?_⟩
 · simpa [cvD, cv1, hn] using lr
 · simp [cvD, cv1, hn]
end
section
variable {P : Program} {G : Nat → D} {w w' : World} {hd : List Value} {h : List Ob} {p : Nat → Bool}
theorem Ok.kept (o : Ok G w hd h p) (h1 : w'.os = w.os ∧ w.drawn ≤ w'.drawn) (h2 : w'.tape = w.tape) (h3 : w'.output = w.output) (h4 : w.heap.size ≤ w'.heap.size) (h5 : ∀ b, b < w.heap.size → w'.heap[b]? = w.heap[b]?) : Ok G w' hd h p ∧ Evo w hd h p w' hd h p := by
 have e : Evo w hd h p w' hd h p := ⟨h1, h2, h3, h4, fun k hk _ => h5 k hk, fun _ _ q => q, fun _ _ q => .inl q, fun _ _ q => q, .refl _ _⟩
 exact ⟨⟨o.len, fun i ob u h1 h2 => obOk.move e o (o.ob i ob u h1 h2) (fun hl k hk => h5 k (o.lt ⟨i, ob, u, h1, hl, h2, hk⟩)) (fun _ _ _ q => q), o.inj, Zg6 e o, Zg8 e o⟩, e⟩
theorem Does.borrow (hG : ∀ g, low 0 (G g)) {f : FuncId} {args : List D} {i E k n : Nat} {rows : List (List D)} {x : Value} (hi : h[i]? = some (.buf E k rows)) (hn : rows.length = n) (la : lowL 0 args) (lr : low 0 (.sl k rows)) (q : Does P G f [] (.sl k rows :: args) (fun h' r => h' = [] ∧ r = .v x)) : Does P G f h (.buf i n :: args) (fun h' r => h' = h ∧ r = .v x) := fun w hd p vs ok ha => by
 rw [rdL] at ha
 obtain ⟨u, t, rfl, hu, ht⟩ := ha
 obtain ⟨p', o', ev, cv⟩ := ok.give (fun j => j == i)
 have hr := cv _ _ hu
 have e : cvD (fun j => j == i) h (.buf i n) = .sl k rows := by simp [cvD, cv1, hi, hn]
 rw [e] at hr
 have ht2 := ev.rdL ok ht
 have o2 := o'.take (m := 0) (fun x hx => by simp at hx) hG
 have r1 := Zf1 (m := 0) o'.len _ _ lr hr
 have r2 := Vb (m := 0) o'.len _ _ la ht2
 simp only [List.take_zero] at o2 r1 r2
 refine (q w [] p' (u :: t) o2 (by rw [rdL]; exact ⟨u, t, rfl, r1, r2⟩)).mono ?_
 rintro e w' ⟨v, hd', h', r, p2, rfl, ⟨rfl, rfl⟩, ok2, hr2, ev2⟩
 rw [rd] at hr2; subst hr2
 obtain ⟨o3, ev3⟩ := ok.kept ev2.os ev2.tape ev2.output ev2.size fun b hb => ev2.keep b hb fun ⟨j, ob, u, q, _⟩ => by simp at q
 exact ⟨_, hd, h, .v _, p, rfl, ⟨rfl, rfl⟩, o3, by rw [rd], ev3⟩
end
section
def w32 (z : Int) : Int := IntKind.u32.wrap z
def Zd6 (a b : Int) : Int := IntKind.u32.wrap (a + b)
def Zx3 (a b : Int) : Int := IntKind.u32.wrap ((BitVec.ofInt 32 a ^^^ BitVec.ofInt 32 b).toNat : Int)
def and32 (a b : Int) : Int := IntKind.u32.wrap ((BitVec.ofInt 32 a &&& BitVec.ofInt 32 b).toNat : Int)
def or32 (a b : Int) : Int := IntKind.u32.wrap ((BitVec.ofInt 32 a ||| BitVec.ofInt 32 b).toNat : Int)
def not32 (a : Int) : Int := IntKind.u32.wrap ((BitVec.ofInt 32 4294967295 ^^^ BitVec.ofInt 32 a).toNat : Int)
def shr32 (a : Int) (n : Nat) : Int := a.fdiv (2 ^ n)
def shl32 (a : Int) (n : Nat) : Int := IntKind.u32.wrap (a * 2 ^ n)
def Yf0 (x : Int) (n : Nat) : Int := or32 (x.fdiv (2 ^ min n 32)) (IntKind.u32.wrap (x * 2 ^ min (32 - n) 32))
def zD (z : Int) : D := .v (.int .u32 z)
def be4 (a b c d : UInt8) : Int := or32 (or32 (or32 (shl32 (w32 a.toNat) 24) (shl32 (w32 b.toNat) 16)) (shl32 (w32 c.toNat) 8)) (w32 d.toNat)
def sgZ (x15 x2 x7 x16 : Int) : Int :=
 Zd6 (Zd6 (Zd6 (Zx3 (Zx3 (Yf0 x2 17) (Yf0 x2 19)) (shr32 x2 10)) x7) (Zx3 (Zx3 (Yf0 x15 7) (Yf0 x15 18)) (shr32 x15 3))) x16
structure W8 where
 a : Int
 b : Int
 c : Int
 d : Int
 e : Int
 f : Int
 g : Int
 h : Int
def W8.ls (x : W8) : List Int := [x.a, x.b, x.c, x.d, x.e, x.f, x.g, x.h]
def W8.add (x y : W8) : W8 := ⟨Zd6 x.a y.a, Zd6 x.b y.b, Zd6 x.c y.c, Zd6 x.d y.d, Zd6 x.e y.e, Zd6 x.f y.f, Zd6 x.g y.g, Zd6 x.h y.h⟩
def t1Z (u : W8) (k w : Int) : Int := Zd6 (Zd6 (Zd6 (Zd6 u.h (Zx3 (Zx3 (Yf0 u.e 6) (Yf0 u.e 11)) (Yf0 u.e 25))) (Zx3 (and32 u.e u.f) (and32 (not32 u.e) u.g))) k) w
def s0Z (u : W8) : Int := Zx3 (Zx3 (Yf0 u.a 2) (Yf0 u.a 13)) (Yf0 u.a 22)
def majZ (u : W8) : Int := Zx3 (Zx3 (and32 u.a u.b) (and32 u.a u.c)) (and32 u.b u.c)
def rndZ (k w : Int) (u : W8) : W8 := ⟨Zd6 (t1Z u k w) (Zd6 (s0Z u) (majZ u)), u.a, u.b, u.c, Zd6 u.d (t1Z u k w), u.e, u.f, u.g⟩
def sch1 (b : List UInt8) : Nat → List Int → List Int
 | 0, W => W
 | n + 1, W => sch1 b n (W.set (15 - n) (be4 (b.getD (4 * (15 - n)) 0) (b.getD (4 * (15 - n) + 1) 0) (b.getD (4 * (15 - n) + 2) 0) (b.getD (4 * (15 - n) + 3) 0)))
def sch2 : Nat → List Int → List Int
 | 0, W => W
 | n + 1, W => sch2 n (W.set (63 - n) (sgZ (W.getD (63 - n - 15) 0) (W.getD (63 - n - 2) 0) (W.getD (63 - n - 7) 0) (W.getD (63 - n - 16) 0)))
def rndsZ (K W : List Int) : Nat → W8 → W8
 | 0, u => u
 | n + 1, u => rndsZ K W n (rndZ (K.getD (63 - n) 0) (W.getD (63 - n) 0) u)
def shaK : List Int := [0x428a2f98, 0x71374491, 0xb5c0fbcf, 0xe9b5dba5, 0x3956c25b, 0x59f111f1, 0x923f82a4, 0xab1c5ed5,
 0xd807aa98, 0x12835b01, 0x243185be, 0x550c7dc3, 0x72be5d74, 0x80deb1fe, 0x9bdc06a7, 0xc19bf174,
 0xe49b69c1, 0xefbe4786, 0x0fc19dc6, 0x240ca1cc, 0x2de92c6f, 0x4a7484aa, 0x5cb0a9dc, 0x76f988da,
 0x983e5152, 0xa831c66d, 0xb00327c8, 0xbf597fc7, 0xc6e00bf3, 0xd5a79147, 0x06ca6351, 0x14292967,
 0x27b70a85, 0x2e1b2138, 0x4d2c6dfc, 0x53380d13, 0x650a7354, 0x766a0abb, 0x81c2c92e, 0x92722c85,
 0xa2bfe8a1, 0xa81a664b, 0xc24b8b70, 0xc76c51a3, 0xd192e819, 0xd6990624, 0xf40e3585, 0x106aa070,
 0x19a4c116, 0x1e376c08, 0x2748774c, 0x34b0bcb5, 0x391c0cb3, 0x4ed8aa4a, 0x5b9cca4f, 0x682e6ff3,
 0x748f82ee, 0x78a5636f, 0x84c87814, 0x8cc70208, 0x90befffa, 0xa4506ceb, 0xbef9a3f7, 0xc67178f2]
def shaIV : W8 := ⟨0x6a09e667, 0xbb67ae85, 0x3c6ef372, 0xa54ff53a, 0x510e527f, 0x9b05688c, 0x1f83d9ab, 0x5be0cd19⟩
def schZ (b : List UInt8) : List Int := sch2 48 (sch1 b 16 (Zw 64 0))
def blkZ (v : W8) (b : List UInt8) : W8 := (rndsZ shaK (schZ b) 64 v).add v
def blksZ (v : W8) (l : List UInt8) : W8 := if l.length < 64 then v else blksZ (blkZ v (l.take 64)) (l.drop 64)
termination_by l.length
decreasing_by simp; omega
def zc (m : Nat) : Nat := (119 - m % 64) % 64
def be8 (n : Nat) : List UInt8 := (List.range 8).map fun j => UInt8.ofNat (n / 2 ^ (56 - 8 * j))
def padZ (b : List UInt8) (n : Nat) : List UInt8 := b ++ [128] ++ Zw (zc b.length) 0 ++ be8 (8 * n)
def byZ (z : Int) : UInt8 := UInt8.ofNat (IntKind.u8.wrap z).toNat
def outW (z : Int) : List UInt8 := [byZ (z.fdiv (2 ^ 24)), byZ (z.fdiv (2 ^ 16)), byZ (z.fdiv (2 ^ 8)), byZ z]
def outZ (v : W8) : List UInt8 := (v.ls.map outW).flatten
def sumZ (b : List UInt8) : List UInt8 := outZ (blksZ shaIV (padZ b b.length))
def restZ (b : List UInt8) : List UInt8 := b.drop (64 * (b.length / 64))
/-! Keyed digests. -/
def keyZ (k : List UInt8) : List UInt8 := let k' := if 64 < k.length then sumZ k else k
 k' ++ Zw (64 - k'.length) 0
def xorB (x : UInt8) (k : List UInt8) : List UInt8 := k.map (· ^^^ x)
def tagZ (k m : List UInt8) : List UInt8 := sumZ (xorB 0x5c (keyZ k) ++ sumZ (xorB 0x36 (keyZ k) ++ m))
attribute [irreducible] schZ rndsZ blkZ sumZ tagZ
end
end Go.Proofs.YtbhkcbidcfofiaaGreat
