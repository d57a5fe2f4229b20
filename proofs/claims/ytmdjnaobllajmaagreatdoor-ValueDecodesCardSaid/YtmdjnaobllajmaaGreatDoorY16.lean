/-
  What the statements of the chapter share, part 16: VA1.
-/
import Derived.Test.YtmdjnaobllajmaaGreatDoorY14
import Derived.Test.YtmdjnaobllajmaaGreatDoorY15
set_option linter.unusedVariables false
set_option linter.unusedSimpArgs false
set_option maxRecDepth 100000
set_option maxHeartbeats 8000000
namespace Go.Proofs.YtmdjnaobllajmaaGreatDoor
open _root_.Int renaming reduceEq → Zj, reduceLE → Zk, reduceLT → Zl
open _root_.List renaming drop_eq_getElem_cons → Z1, getElem?_eq_getElem → Z2, getElem_mem → Z4, cons_append → Z6, length_cons → Z7, length_nil → Za, nil_append → Zb, reverse_cons → Zc, reverse_nil → Ze
open _root_.Nat renaming le_of_ble_eq_true → Z0, zero_le → Z5, reduceEqDiff → Z8, reduceLeDiff → Z9, reduceAdd → Zf, reduceBEq → Zg, reduceMul → Zh
open _root_.Option renaming bind_some → Zd, map_some → Zi
open _root_.Go.Proofs.Tryz renaming prog → Z3
open Go.RowKit
section
attribute [local irreducible] on aOp
attribute [local go_sem] decide_true decide_false Bool.not_true Bool.not_false
attribute [local simp] byD_len
theorem strXe (s : ByteArray) : strX s = [.v (.string s)] := rfl
theorem Zj4 (t : Tk) : tkX t = [.v (.int .i64 t.process), .v (.int .i64 t.n)] := rfl
theorem Jc (e : En) : enX e = [.sl 2 (e.clock.map tkX), .v (.string e.name)] := rfl
theorem low_tk (m : Nat) (t : Tk) : lowL m (tkX t) := by simp [tkX, lowL, low]
theorem low_en (m : Nat) (e : En) : lowL m (enX e) := by
 rw [enX, lowL, lowL, lowL, low]
 exact ⟨U3 m _ fun t _ => low_tk m t, trivial, trivial⟩
theorem Zl6 (m : Nat) (l : List Val) : low m (.sl 4 (l.map vaX)) := U3 m l fun v _ => Xu m v
def tM (T : List Ob) : List Ob := T
section
variable {y z z' : Ob} {T l : List Ob}
theorem tM_len : (tM T).length = T.length := rfl
theorem tM_app : tM T ++ l = tM (T ++ l) := rfl
theorem tM_l : (tM (T ++ [y]))[T.length]? = some y := by simp [tM]
theorem tM_sl : (tM (T ++ [y])).set T.length z = tM (T ++ [z]) := by simp [tM]
theorem tM_a : (tM (T ++ [y, z]))[T.length]? = some y := by simp [tM]
theorem tM_b : (tM (T ++ [y, z]))[T.length + 1]? = some z := by simp [tM]
theorem tM_sb : (tM (T ++ [y, z])).set (T.length + 1) z' = tM (T ++ [y, z']) := by simp [tM]
end
inductive VSm : Val → Prop
 | mk (v : Val) (h1 : v.names.length ≤ 9223372036854775807) (h2 : v.parts.length ≤ 9223372036854775807) (h3 : v.entries.length ≤ 9223372036854775807) (h4 : ∀ s ∈ v.names, s.size ≤ 9223372036854775807) (h5 : ∀ e ∈ v.entries, e.clock.length ≤ 9223372036854775807 ∧ e.name.size ≤ 9223372036854775807) (h6 : ∀ p ∈ v.parts, VSm p) : VSm v
theorem VSm.names {v : Val} (h : VSm v) : v.names.length ≤ 9223372036854775807 := by cases h; assumption
theorem VSm.parts {v : Val} (h : VSm v) : v.parts.length ≤ 9223372036854775807 := by cases h; assumption
theorem VSm.entries {v : Val} (h : VSm v) : v.entries.length ≤ 9223372036854775807 := by cases h; assumption
theorem VSm.texts {v : Val} (h : VSm v) : ∀ s ∈ v.names, s.size ≤ 9223372036854775807 := by cases h; assumption
theorem VSm.ents {v : Val} (h : VSm v) : ∀ e ∈ v.entries, e.clock.length ≤ 9223372036854775807 ∧ e.name.size ≤ 9223372036854775807 := by cases h; assumption
theorem VSm.part {v : Val} (h : VSm v) : ∀ p ∈ v.parts, VSm p := by cases h; assumption
theorem Zq1 {α : Type} {c : α → α → Int} {a b : List α} {k : Nat} {x y : α} (ha : a.drop k = x :: a.drop (k + 1)) (hb : b.drop k = y :: b.drop (k + 1)) : lexC c (a.drop k) (b.drop k) = if c x y ≠ 0 then c x y else lexC c (a.drop (k + 1)) (b.drop (k + 1)) := by rw [ha, hb, lexC]
theorem strC_cb (a b : ByteArray) : Lib.compareBytes a.data.toList b.data.toList = strC a b := by
 have key : ∀ l m : List UInt8, Lib.compareBytes l m = if Op.bytesLess l m then -1 else if l = m then 0 else 1 := by
  intro l
  induction l with
  | nil => intro m; cases m <;> simp [Lib.compareBytes, Op.bytesLess]
  | cons x t ih =>
   intro m
   cases m with
   | nil => simp [Lib.compareBytes, Op.bytesLess]
   | cons y s =>
    rw [Lib.compareBytes, Op.bytesLess, ih]
    by_cases h1 : x < y
    · simp [h1]
    · by_cases h2 : y < x
      · have hne : x ≠ y := fun q => by subst q; exact h1 h2
        simp [h1, h2, hne]
      · have hxy : x = y := UInt8.le_antisymm (UInt8.not_lt.1 h2) (UInt8.not_lt.1 h1)
        subst hxy
        simp [h1]
 rw [key]
 unfold strC Jf
 rw [Lib.toList_data, Lib.toList_data]
 have : (a.data.toList = b.data.toList) = (a = b) := propext ⟨fun h => ByteArray.ext (Array.toList_inj.1 h), fun h => by rw [h]⟩
 simp only [this]
variable (G : Nat → D) (hG : ∀ g, low 0 (G g))
include hG
attribute [local go_sem] Bool.false_eq_true Bool.false_or Bool.or_false Bool.or_true Zj Zk Zl Int.toNat_natCast List.append_assoc Z6 List.length_append Z7 List.length_map Za Zb Zf Zg Z8 Z9 Zh Jc strXe tM_a tM_app tM_b tM_l tM_len tM_sb tM_sl Zj4 Ya
attribute [local go_sem ↓] reduceIte
theorem isNaN64_d (a : Int) (h : List Ob) : Does Z3 G 74 h [.v (.int .i64 a)] (fun h' r => h' = h ∧ r = .v (.bool false)) := by
 refine Y5 Tryz.func74 rfl (Z0 rfl) hG fun hl0 _ => ?_
 simp only [Tryz.ntmps74]
 repeat' first
  | refine g0 ?_
  | fail
 all_goals first
 | exact ⟨by simp, endV hl0 rfl rfl ⟨rfl, rfl⟩⟩
 | (exfalso; simp at *; done)
theorem Yi7 (a : ByteArray) (h : List Ob) : Does Z3 G 127 h [.v (.string a)] (fun h' r => h' = h ∧ r = .v (.bool false)) := by
 refine Y5 Tryz.func127 rfl (Z0 rfl) hG fun hl0 _ => ?_
 simp only [Tryz.ntmps127]
 repeat' first
  | refine g0 ?_
  | fail
 all_goals first
 | exact ⟨by simp, endV hl0 rfl rfl ⟨rfl, rfl⟩⟩
 | (exfalso; simp at *; done)
theorem cmp64_d (a b : Int) (h : List Ob) : Does Z3 G 42 h [.v (.int .i64 a), .v (.int .i64 b)] (fun h' r => h' = h ∧ r = .v (.int .i64 (cmpI a b))) := by
 refine Y5 Tryz.func42 rfl (Z0 rfl) hG fun hl0 _ => ?_
 simp only [Tryz.ntmps42]
 repeat' first
  | refine g ?_
  | refine Two.mk (fun hq => ?_) fun hq => ?_
  | (with_reducible refine Y7 ?_; refine gc rfl rfl rfl ent_74 (isNaN64_d G hG _ _) ?_)
 all_goals
  refine ⟨by simp, endV hl0 rfl rfl ⟨rfl, ?_⟩⟩
  unfold cmpI
  simp [*]
theorem cmps_d (a b : ByteArray) (h : List Ob) : Does Z3 G 75 h [.v (.string a), .v (.string b)] (fun h' r => h' = h ∧ r = .v (.int .i64 (strC a b))) := by
 unfold strC Jf
 refine Y5 Tryz.func75 rfl (Z0 rfl) hG fun hl0 _ => ?_
 simp only [Tryz.ntmps75]
 cases h1 : Op.bytesLess a.toList b.toList
 · by_cases h2 : a = b
   · subst h2
     have h2 : decide (a = a) = true := decide_eq_true rfl
     have F : _ ∧ _ := ⟨h1, h2⟩
     repeat' first
      | refine g0 ?_
      | (with_reducible refine Y7 ?_; refine gc rfl rfl rfl ent_127 (Yi7 G hG _ _) ?_)
     all_goals exact ⟨by simp, endV hl0 rfl rfl ⟨rfl, by simp [h1]⟩⟩
   · skip
     have F : _ ∧ _ := ⟨h1, h2⟩
     repeat' first
      | refine g0 ?_
      | (with_reducible refine Y7 ?_; refine gc rfl rfl rfl ent_127 (Yi7 G hG _ _) ?_)
     all_goals exact ⟨by simp, endV hl0 rfl rfl ⟨rfl, by simp [h1, h2]⟩⟩
 · skip
   repeat' first
    | (with_reducible first | refine sA rfl ?_ | refine sI rfl rfl ?_ | refine sT rfl ?_)
    | (with_reducible refine Y7 ?_; first | refine Yr ?_ | (refine ao1 rfl rfl fun K HK => ?_; simp only [go_sem, h1, Bool.true_or] <;> (refine HK _ _ ?_; clear HK K)) | (refine ao2 rfl rfl rfl ent_127 (Yi7 G hG _ _) ?_; rintro _ _ ⟨rfl, rfl⟩))
   all_goals exact ⟨by simp, endV hl0 rfl rfl ⟨rfl, by simp [h1]⟩⟩
theorem slicesCmp_d (a b : List ByteArray) (ha : a.length ≤ 9223372036854775807) (hb : b.length ≤ 9223372036854775807) (h : List Ob) : Does Z3 G 43 h [.sl 1 (a.map strX), .sl 1 (b.map strX)] (fun h' r => h' = h ∧ r = .v (.int .i64 (lexC strC a b))) := by
 refine Y5 Tryz.func43 rfl (Z0 rfl) hG fun hl0 _ => ?_
 simp only [Tryz.ntmps43]
 repeat' first
  | refine g0 ?_
  | fail
 refine Yn (fun m e h' => ∃ k : Nat, k ≤ a.length ∧ k ≤ b.length ∧ m = a.length - k ∧ lexC strC a b = lexC strC (a.drop k) (b.drop k) ∧ h' = h ∧ e 0 = .sl 1 (a.map strX) ∧ e 1 = .sl 1 (b.map strX) ∧ e 9 = .sl 1 (a.map strX) ∧ e 10 = .v (.int .i64 a.length) ∧ e 11 = .v (.int .i64 k)) a.length ⟨0, Z5 _, Z5 _, rfl, rfl, rfl, rfl, rfl, rfl, rfl, rfl⟩ ?_
 rintro m e h' ⟨k, hk, hkb, rfl, ho, rfl, e0, e1, e9, e10, e11⟩
 by_cases hlt : k < a.length
 · have hx : a[k]? = some a[k] := Z2 hlt
   have wk : IntKind.i64.wrap ((k : Int) + 1) = ((k + 1 : Nat) : Int) := IntWalk.i64_in _ (by omega)
   by_cases hlb : k < b.length
   · have hy : b[k]? = some b[k] := Z2 hlb
     rw [Zq1 (Z1 hlt) (Z1 hlb)] at ho
     generalize a[k] = x at hx ho
     generalize b[k] = y at hy ho
     have hc := cmps_d G hG x y
     generalize strC x y = c at hc ho
     by_cases hz : c = 0
     · rw [if_neg (fun q => q hz)] at ho
       have F : _ ∧ _ ∧ _ ∧ _ ∧ _ ∧ _ ∧ _ := ⟨e0, e1, e9, e10, e11, hz, wk⟩
       repeat' first
        | refine g ?_
        | refine Two.mk (fun hq => ?_) fun hq => ?_
        | (with_reducible refine Y7 ?_; refine gc rfl rfl rfl ent_75 (hc _) ?_)
        | (exfalso; omega)
       all_goals first | (exfalso; omega) | exact ⟨rfl, a.length - (k + 1), by omega, k + 1, hlt, hlb, rfl, ho, rfl, e0, e1, e9, e10, rfl⟩
     · rw [if_pos hz] at ho
       have F : _ ∧ _ ∧ _ ∧ _ ∧ _ ∧ _ ∧ _ := ⟨e0, e1, e9, e10, e11, hz, wk⟩
       repeat' first
        | refine g ?_
        | refine Two.mk (fun hq => ?_) fun hq => ?_
        | (with_reducible refine Y7 ?_; refine gc rfl rfl rfl ent_75 (hc _) ?_)
        | (exfalso; omega)
       all_goals first | (exfalso; omega) | exact ⟨.inr rfl, endV hl0 rfl rfl ⟨rfl, by rw [ho]⟩⟩
   · rw [Zl9 _ _ _ _ hlt (by omega)] at ho
     have F : _ ∧ _ ∧ _ ∧ _ ∧ _ ∧ _ := ⟨e0, e1, e9, e10, e11, wk⟩
     repeat' first
      | refine g ?_
      | refine Two.mk (fun hq => ?_) fun hq => ?_
      | refine Evry.mk fun x hx => ?_
      | (exfalso; omega)
     all_goals first | (exfalso; omega) | exact ⟨.inr rfl, endV hl0 rfl rfl ⟨rfl, by rw [ho]⟩⟩
 · rw [Zm0 _ _ _ _ (by omega)] at ho
   have F : _ ∧ _ ∧ _ ∧ _ ∧ _ := ⟨e0, e1, e9, e10, e11⟩
   repeat' first
    | refine g ?_
    | refine Two.mk (fun hq => ?_) fun hq => ?_
    | refine Evry.mk fun x hx => ?_
    | (exfalso; omega)
   all_goals first | (exfalso; omega) | exact ⟨.inr rfl, endV hl0 rfl rfl ⟨rfl, by rw [ho]; first | rw [if_pos (by omega)] | rw [if_neg (by omega)]⟩⟩
theorem or_s2 (a b o : Int) (ho : orI [a, b] = o) (h : List Ob) (i : Nat) (hi : h[i]? = some (.buf 3 1 [[.v (.int .i64 a)], [.v (.int .i64 b)]])) : Does Z3 G 41 h [.buf i 2] (fun h' r => h' = h.set i (.buf 3 1 [[.v (.int .i64 a)], [.v (.int .i64 b)]]) ∧ r = .v (.int .i64 o)) := by
 rw [Wc hi, ← ho]; exact or_b G hG [a, b] (by simp) h i hi
theorem cmpTicks_d (a b : Tk) (h : List Ob) : Does Z3 G 78 h [.agg (tkX a), .agg (tkX b)] (fun h' r => h' = h ∧ r = .v (.int .i64 (Je a b))) := by
 refine Yk G hG (by rw [lowL, lowL, lowL, low, low]; exact ⟨low_tk _ a, low_tk _ b, trivial⟩) (by rw [low]; trivial) ?_ h
 clear h
 have hor := or_s2 G hG (cmpI a.process b.process) (cmpI a.n b.n) (Je a b) rfl
 refine Y5 Tryz.func78 rfl (Z0 rfl) hG fun hl0 _ => ?_
 simp only [Tryz.ntmps78]
 repeat' first
  | (with_reducible refine Yj ?_; refine X7 mixd (by kernel_rfl) ?_)
  | ((with_reducible refine Uc ?_); first | (refine aS1 rfl rfl fun K HK => ?_; simp only [go_sem] <;> (refine HK _ _ rfl ?_; clear HK K)) | refine Xg rfl rfl rfl (by (first | (simp only [go_sem]; rfl) | (simp only [go_sem]; done))) (by rw [getD_one (by simp only [go_sem])]; rfl) ?_ | refine Vn rfl rfl (by simp only [litD, Xf, go_sem, Z7, Za, Zi, Zd, and_self, ↓reduceIte, Z8, Zf, Z9, Zg, Zh, Zj, Zl, Zk, Zj4]; rfl) ?_ | refine V4 (by simp only [Zc, Ze, Zb, Z6, W5, chk1]; repeat' (first | exact trivial | refine And.intro ?_ ?_ | exact .inr X2 | exact .inr X4 | exact .inr Xj | exact .inr (Xi (by omega)) | (refine .inr ?_; simp [compat, Xw, Wa, Ws, nop] <;> omega) | exact .inl (by kernel_rfl))) ?_ | refine Wr rfl rfl rfl ent_129 (fun h2 => cmpInt_d G hG _ _ _) ?_ | refine Wr rfl rfl rfl ent_42 (fun h2 => cmp64_d G hG _ _ _) ?_ | refine Xt rfl rfl rfl ent_41 (by (first | (simp only [go_sem]; rfl) | (simp only [go_sem]; done))) (fun h2 k2 => hor h2 2 k2) ?_)
  | refine g0 ?_
  | fail
 exact ⟨.inr rfl, endV hl0 rfl rfl ⟨rfl, rfl⟩⟩
theorem cfTicks_d (a b : List Tk) (ha : a.length ≤ 9223372036854775807) (hb : b.length ≤ 9223372036854775807)
 (hc : ∀ x ∈ a, ∀ y ∈ b, ∀ h, Does Z3 G 78 h [.agg (tkX x), .agg (tkX y)] (fun h' r => h' = h ∧ r = .v (.int .i64 (Je x y)))) (h : List Ob) :
 Does Z3 G 77 h [.sl 2 (a.map tkX), .sl 2 (b.map tkX), .fn 78 []] (fun h' r => h' = h ∧ r = .v (.int .i64 (lexC Je a b))) := by
 have lo : ∀ l : List Tk, low 0 (.sl 2 (l.map tkX)) := fun l => U3 0 l fun x _ => low_tk 0 x
 refine Yk G hG (by rw [lowL, lowL, lowL, lowL]; exact ⟨lo a, lo b, by simp [low, lowL], trivial⟩) (by rw [low]; trivial) ?_ h
 clear h
 refine Y5 Tryz.func77 rfl (Z0 rfl) hG fun hl0 _ => ?_
 simp only [Tryz.ntmps77]
 repeat' first
  | refine g0 ?_
  | fail
 refine Yn (fun m e h' => ∃ (k : Nat) (T : List Ob), k ≤ a.length ∧ k ≤ b.length ∧ m = a.length - k ∧ lexC Je a b = lexC Je (a.drop k) (b.drop k) ∧ h' = tM T ∧ e 0 = .sl 2 (a.map tkX) ∧ e 1 = .sl 2 (b.map tkX) ∧ e 2 = .fn 78 [] ∧ e 11 = .sl 2 (a.map tkX) ∧ e 12 = .v (.int .i64 a.length) ∧ e 13 = .v (.int .i64 k)) a.length ⟨0, [], Z5 _, Z5 _, rfl, rfl, rfl, rfl, rfl, rfl, rfl, rfl, rfl⟩ ?_
 rintro m e h' ⟨k, T, hk, hkb, rfl, ho, rfl, e0, e1, e2, e11, e12, e13⟩
 by_cases hlt : k < a.length
 · have hx : a[k]? = some a[k] := Z2 hlt
   have wk : IntKind.i64.wrap ((k : Int) + 1) = ((k + 1 : Nat) : Int) := IntWalk.i64_in _ (by omega)
   by_cases hlb : k < b.length
   · have hy : b[k]? = some b[k] := Z2 hlb
     have hc := hc a[k] (Z4 hlt) b[k] (Z4 hlb)
     rw [Zq1 (Z1 hlt) (Z1 hlb)] at ho
     generalize a[k] = x at hx ho hc
     generalize b[k] = y at hy ho hc
     generalize Je x y = c at hc ho
     simp only [Zj4] at hc
     by_cases hz : c = 0
     · rw [if_neg (fun q => q hz)] at ho
       have F : _ ∧ _ ∧ _ ∧ _ ∧ _ ∧ _ ∧ _ ∧ _ := ⟨e0, e1, e2, e11, e12, e13, hz, wk⟩
       repeat' first
        | refine g ?_
        | refine Two.mk (fun hq => ?_) fun hq => ?_
        | (with_reducible refine Y7 ?_; refine gc rfl rfl rfl ent_78 (hc _) ?_)
        | (exfalso; omega)
       all_goals first | (exfalso; omega) | exact ⟨rfl, a.length - (k + 1), by omega, k + 1, _, hlt, hlb, rfl, ho, rfl, e0, e1, e2, e11, e12, rfl⟩
     · rw [if_pos hz] at ho
       have F : _ ∧ _ ∧ _ ∧ _ ∧ _ ∧ _ ∧ _ ∧ _ := ⟨e0, e1, e2, e11, e12, e13, hz, wk⟩
       repeat' first
        | refine g ?_
        | refine Two.mk (fun hq => ?_) fun hq => ?_
        | (with_reducible refine Y7 ?_; refine gc rfl rfl rfl ent_78 (hc _) ?_)
        | (exfalso; omega)
       all_goals first | (exfalso; omega) | exact ⟨.inr rfl, endV hl0 rfl rfl ⟨rfl, by rw [ho]⟩⟩
   · rw [Zl9 _ _ _ _ hlt (by omega)] at ho
     have F : _ ∧ _ ∧ _ ∧ _ ∧ _ ∧ _ ∧ _ := ⟨e0, e1, e2, e11, e12, e13, wk⟩
     repeat' first
      | refine g ?_
      | refine Two.mk (fun hq => ?_) fun hq => ?_
      | refine Evry.mk fun x hx => ?_
      | (exfalso; omega)
     all_goals first | (exfalso; omega) | exact ⟨.inr rfl, endV hl0 rfl rfl ⟨rfl, by rw [ho]⟩⟩
 · rw [Zm0 _ _ _ _ (by omega)] at ho
   have F : _ ∧ _ ∧ _ ∧ _ ∧ _ ∧ _ := ⟨e0, e1, e2, e11, e12, e13⟩
   repeat' first
    | refine g ?_
    | refine Two.mk (fun hq => ?_) fun hq => ?_
    | refine Evry.mk fun x hx => ?_
    | (exfalso; omega)
   all_goals first | (exfalso; omega) | exact ⟨.inr rfl, endV hl0 rfl rfl ⟨rfl, by rw [ho]; first | rw [if_pos (by omega)] | rw [if_neg (by omega)]⟩⟩
theorem cmpEnts_d (a b : En) (ha : a.clock.length ≤ 9223372036854775807) (hb : b.clock.length ≤ 9223372036854775807) (h : List Ob) : Does Z3 G 46 h [.agg (enX a), .agg (enX b)] (fun h' r => h' = h ∧ r = .v (.int .i64 (entC a b))) := by
 refine Yk G hG (by rw [lowL, lowL, lowL, low, low]; exact ⟨low_en _ a, low_en _ b, trivial⟩) (by rw [low]; trivial) ?_ h
 clear h
 have hor := or_s2 G hG (strC a.name b.name) (lexC Je a.clock b.clock) (entC a b) rfl
 have hsc := scmp_d G hG a.name b.name
 simp only [strC_cb] at hsc
 have hcf := cfTicks_d G hG a.clock b.clock ha hb (fun x _ y _ h => cmpTicks_d G hG x y h)
 refine Y5 Tryz.func46 rfl (Z0 rfl) hG fun hl0 _ => ?_
 simp only [Tryz.ntmps46]
 repeat' first
  | (with_reducible refine Yj ?_; refine X7 mixd (by kernel_rfl) ?_)
  | ((with_reducible refine Uc ?_); first | (refine aS1 rfl rfl fun K HK => ?_; simp only [go_sem] <;> (refine HK _ _ rfl ?_; clear HK K)) | refine Xg rfl rfl rfl (by (first | (simp only [go_sem]; rfl) | (simp only [go_sem]; done))) (by rw [getD_one (by simp only [go_sem])]; rfl) ?_ | refine Vn rfl rfl (by simp only [litD, Xf, go_sem, Z7, Za, Zi, Zd, and_self, ↓reduceIte, Z8, Zf, Z9, Zg, Zh, Zj, Zl, Zk, Jc]; rfl) ?_ | refine V4 (by simp only [Zc, Ze, Zb, Z6, W5, chk1]; repeat' (first | exact trivial | refine And.intro ?_ ?_ | exact .inr X2 | exact .inr X4 | exact .inr Xj | exact .inr (Xi (by omega)) | (refine .inr ?_; simp [compat, Xw, Wa, Ws, nop] <;> omega) | exact .inl (by kernel_rfl))) ?_ | refine Wr rfl rfl rfl ent_76 (fun h2 => hsc _) ?_ | refine Wr rfl rfl rfl ent_77 (fun h2 => hcf _) ?_ | refine Xt rfl rfl rfl ent_41 (by (first | (simp only [go_sem]; rfl) | (simp only [go_sem]; done))) (fun h2 k2 => hor h2 2 k2) ?_)
  | refine g0 ?_
  | fail
 exact ⟨.inr rfl, endV hl0 rfl rfl ⟨rfl, rfl⟩⟩
theorem cfEnts_d (a b : List En) (ha : a.length ≤ 9223372036854775807) (hb : b.length ≤ 9223372036854775807)
 (hc : ∀ x ∈ a, ∀ y ∈ b, ∀ h, Does Z3 G 46 h [.agg (enX x), .agg (enX y)] (fun h' r => h' = h ∧ r = .v (.int .i64 (entC x y)))) (h : List Ob) :
 Does Z3 G 45 h [.sl 2 (a.map enX), .sl 2 (b.map enX), .fn 46 []] (fun h' r => h' = h ∧ r = .v (.int .i64 (lexC entC a b))) := by
 have lo : ∀ l : List En, low 0 (.sl 2 (l.map enX)) := fun l => U3 0 l fun x _ => low_en 0 x
 refine Yk G hG (by rw [lowL, lowL, lowL, lowL]; exact ⟨lo a, lo b, by simp [low, lowL], trivial⟩) (by rw [low]; trivial) ?_ h
 clear h
 refine Y5 Tryz.func45 rfl (Z0 rfl) hG fun hl0 _ => ?_
 simp only [Tryz.ntmps45]
 repeat' first
  | refine g0 ?_
  | fail
 refine Yn (fun m e h' => ∃ (k : Nat) (T : List Ob), k ≤ a.length ∧ k ≤ b.length ∧ m = a.length - k ∧ lexC entC a b = lexC entC (a.drop k) (b.drop k) ∧ h' = tM T ∧ e 0 = .sl 2 (a.map enX) ∧ e 1 = .sl 2 (b.map enX) ∧ e 2 = .fn 46 [] ∧ e 11 = .sl 2 (a.map enX) ∧ e 12 = .v (.int .i64 a.length) ∧ e 13 = .v (.int .i64 k)) a.length ⟨0, [], Z5 _, Z5 _, rfl, rfl, rfl, rfl, rfl, rfl, rfl, rfl, rfl⟩ ?_
 rintro m e h' ⟨k, T, hk, hkb, rfl, ho, rfl, e0, e1, e2, e11, e12, e13⟩
 by_cases hlt : k < a.length
 · have hx : a[k]? = some a[k] := Z2 hlt
   have wk : IntKind.i64.wrap ((k : Int) + 1) = ((k + 1 : Nat) : Int) := IntWalk.i64_in _ (by omega)
   by_cases hlb : k < b.length
   · have hy : b[k]? = some b[k] := Z2 hlb
     have hc := hc a[k] (Z4 hlt) b[k] (Z4 hlb)
     rw [Zq1 (Z1 hlt) (Z1 hlb)] at ho
     generalize a[k] = x at hx ho hc
     generalize b[k] = y at hy ho hc
     generalize entC x y = c at hc ho
     simp only [Jc] at hc
     by_cases hz : c = 0
     · rw [if_neg (fun q => q hz)] at ho
       have F : _ ∧ _ ∧ _ ∧ _ ∧ _ ∧ _ ∧ _ ∧ _ := ⟨e0, e1, e2, e11, e12, e13, hz, wk⟩
       repeat' first
        | refine g ?_
        | refine Two.mk (fun hq => ?_) fun hq => ?_
        | (with_reducible refine Y7 ?_; refine gc rfl rfl rfl ent_46 (hc _) ?_)
        | (exfalso; omega)
       all_goals first | (exfalso; omega) | exact ⟨rfl, a.length - (k + 1), by omega, k + 1, _, hlt, hlb, rfl, ho, rfl, e0, e1, e2, e11, e12, rfl⟩
     · rw [if_pos hz] at ho
       have F : _ ∧ _ ∧ _ ∧ _ ∧ _ ∧ _ ∧ _ ∧ _ := ⟨e0, e1, e2, e11, e12, e13, hz, wk⟩
       repeat' first
        | refine g ?_
        | refine Two.mk (fun hq => ?_) fun hq => ?_
        | (with_reducible refine Y7 ?_; refine gc rfl rfl rfl ent_46 (hc _) ?_)
        | (exfalso; omega)
       all_goals first | (exfalso; omega) | exact ⟨.inr rfl, endV hl0 rfl rfl ⟨rfl, by rw [ho]⟩⟩
   · rw [Zl9 _ _ _ _ hlt (by omega)] at ho
     have F : _ ∧ _ ∧ _ ∧ _ ∧ _ ∧ _ ∧ _ := ⟨e0, e1, e2, e11, e12, e13, wk⟩
     repeat' first
      | refine g ?_
      | refine Two.mk (fun hq => ?_) fun hq => ?_
      | refine Evry.mk fun x hx => ?_
      | (exfalso; omega)
     all_goals first | (exfalso; omega) | exact ⟨.inr rfl, endV hl0 rfl rfl ⟨rfl, by rw [ho]⟩⟩
 · rw [Zm0 _ _ _ _ (by omega)] at ho
   have F : _ ∧ _ ∧ _ ∧ _ ∧ _ ∧ _ := ⟨e0, e1, e2, e11, e12, e13⟩
   repeat' first
    | refine g ?_
    | refine Two.mk (fun hq => ?_) fun hq => ?_
    | refine Evry.mk fun x hx => ?_
    | (exfalso; omega)
   all_goals first | (exfalso; omega) | exact ⟨.inr rfl, endV hl0 rfl rfl ⟨rfl, by rw [ho]; first | rw [if_pos (by omega)] | rw [if_neg (by omega)]⟩⟩
theorem cfVals_d (a b : List Val) (ha : a.length ≤ 9223372036854775807) (hb : b.length ≤ 9223372036854775807)
 (hc : ∀ x ∈ a, ∀ y ∈ b, ∀ h, Does Z3 G 20 h [.agg (vaX x), .agg (vaX y)] (fun h' r => h' = h ∧ r = .v (.int .i64 (valC x y)))) (h : List Ob) :
 Does Z3 G 44 h [.sl 4 (a.map vaX), .sl 4 (b.map vaX), .fn 20 []] (fun h' r => h' = h ∧ r = .v (.int .i64 (lexC valC a b))) := by
 have lo : ∀ l : List Val, low 0 (.sl 4 (l.map vaX)) := fun l => U3 0 l fun x _ => Xu 0 x
 refine Yk G hG (by rw [lowL, lowL, lowL, lowL]; exact ⟨lo a, lo b, by simp [low, lowL], trivial⟩) (by rw [low]; trivial) ?_ h
 clear h
 refine Y5 Tryz.func44 rfl (Z0 rfl) hG fun hl0 _ => ?_
 simp only [Tryz.ntmps44]
 repeat' first
  | refine g0 ?_
  | fail
 refine Yn (fun m e h' => ∃ (k : Nat) (T : List Ob), k ≤ a.length ∧ k ≤ b.length ∧ m = a.length - k ∧ lexC valC a b = lexC valC (a.drop k) (b.drop k) ∧ h' = tM T ∧ e 0 = .sl 4 (a.map vaX) ∧ e 1 = .sl 4 (b.map vaX) ∧ e 2 = .fn 20 [] ∧ e 11 = .sl 4 (a.map vaX) ∧ e 12 = .v (.int .i64 a.length) ∧ e 13 = .v (.int .i64 k)) a.length ⟨0, [], Z5 _, Z5 _, rfl, rfl, rfl, rfl, rfl, rfl, rfl, rfl, rfl⟩ ?_
 rintro m e h' ⟨k, T, hk, hkb, rfl, ho, rfl, e0, e1, e2, e11, e12, e13⟩
 by_cases hlt : k < a.length
 · have hx : a[k]? = some a[k] := Z2 hlt
   have wk : IntKind.i64.wrap ((k : Int) + 1) = ((k + 1 : Nat) : Int) := IntWalk.i64_in _ (by omega)
   by_cases hlb : k < b.length
   · have hy : b[k]? = some b[k] := Z2 hlb
     have hc := hc a[k] (Z4 hlt) b[k] (Z4 hlb)
     rw [Zq1 (Z1 hlt) (Z1 hlb)] at ho
     generalize a[k] = x at hx ho hc
     generalize b[k] = y at hy ho hc
     generalize valC x y = c at hc ho
     simp only [Ya] at hc
     by_cases hz : c = 0
     · rw [if_neg (fun q => q hz)] at ho
       have F : _ ∧ _ ∧ _ ∧ _ ∧ _ ∧ _ ∧ _ ∧ _ := ⟨e0, e1, e2, e11, e12, e13, hz, wk⟩
       repeat' first
        | refine g ?_
        | refine Two.mk (fun hq => ?_) fun hq => ?_
        | (with_reducible refine Y7 ?_; refine gc rfl rfl rfl ent_20 (hc _) ?_)
        | (exfalso; omega)
       all_goals first | (exfalso; omega) | exact ⟨rfl, a.length - (k + 1), by omega, k + 1, _, hlt, hlb, rfl, ho, rfl, e0, e1, e2, e11, e12, rfl⟩
     · rw [if_pos hz] at ho
       have F : _ ∧ _ ∧ _ ∧ _ ∧ _ ∧ _ ∧ _ ∧ _ := ⟨e0, e1, e2, e11, e12, e13, hz, wk⟩
       repeat' first
        | refine g ?_
        | refine Two.mk (fun hq => ?_) fun hq => ?_
        | (with_reducible refine Y7 ?_; refine gc rfl rfl rfl ent_20 (hc _) ?_)
        | (exfalso; omega)
       all_goals first | (exfalso; omega) | exact ⟨.inr rfl, endV hl0 rfl rfl ⟨rfl, by rw [ho]⟩⟩
   · rw [Zl9 _ _ _ _ hlt (by omega)] at ho
     have F : _ ∧ _ ∧ _ ∧ _ ∧ _ ∧ _ ∧ _ := ⟨e0, e1, e2, e11, e12, e13, wk⟩
     repeat' first
      | refine g ?_
      | refine Two.mk (fun hq => ?_) fun hq => ?_
      | refine Evry.mk fun x hx => ?_
      | (exfalso; omega)
     all_goals first | (exfalso; omega) | exact ⟨.inr rfl, endV hl0 rfl rfl ⟨rfl, by rw [ho]⟩⟩
 · rw [Zm0 _ _ _ _ (by omega)] at ho
   have F : _ ∧ _ ∧ _ ∧ _ ∧ _ ∧ _ := ⟨e0, e1, e2, e11, e12, e13⟩
   repeat' first
    | refine g ?_
    | refine Two.mk (fun hq => ?_) fun hq => ?_
    | refine Evry.mk fun x hx => ?_
    | (exfalso; omega)
   all_goals first | (exfalso; omega) | exact ⟨.inr rfl, endV hl0 rfl rfl ⟨rfl, by rw [ho]; first | rw [if_pos (by omega)] | rw [if_neg (by omega)]⟩⟩
theorem compare_va (n : Nat) : ∀ (a b : Val), SizeOf.sizeOf a ≤ n → VSm a → VSm b → ∀ (h : List Ob), Does Z3 G 20 h [.agg (vaX a), .agg (vaX b)] (fun h' r => h' = h ∧ r = .v (.int .i64 (valC a b))) := by
 induction n with
 | zero => intro a b hn; cases a; simp at hn
 | succ n ih =>
 intro a b hn sa sb h
 refine Yk G hG (by rw [lowL, lowL, lowL, low, low]; exact ⟨Xu _ a, Xu _ b, trivial⟩) (by rw [low]; trivial) ?_ h
 clear h
 have hor := or_s2 G hG (cmpI a.n b.n) (lexC strC a.names b.names) _ rfl
 have hna := slicesCmp_d G hG a.names b.names sa.names sb.names
 have hpa := cfVals_d G hG a.parts b.parts sa.parts sb.parts (fun x hx y hy h => ih x y (by
   have := List.sizeOf_lt_of_mem hx
   cases a with
   | mk m ns ps es => simp only [Val.parts] at this; simp only [Val.mk.sizeOf_spec] at hn; omega) (sa.part x hx) (sb.part y hy) h)
 have hen := cfEnts_d G hG a.entries b.entries sa.entries sb.entries (fun x hx y hy h => cmpEnts_d G hG x y (sa.ents x hx).1 (sb.ents y hy).1 h)
 have hv : valC a b = if orI [cmpI a.n b.n, lexC strC a.names b.names] ≠ 0 then orI [cmpI a.n b.n, lexC strC a.names b.names] else if lexC valC a.parts b.parts ≠ 0 then lexC valC a.parts b.parts else lexC entC a.entries b.entries := by
  rw [valC_eq]
  by_cases h1 : cmpI a.n b.n = 0
  · by_cases h2 : lexC strC a.names b.names = 0 <;> simp [orI, h1, h2]
  · simp [orI, h1]
 generalize orI [cmpI a.n b.n, lexC strC a.names b.names] = o1 at *
 generalize lexC valC a.parts b.parts = o2 at *
 generalize lexC entC a.entries b.entries = o3 at *
 generalize valC a b = vc at *
 have hc1 := cmp64_d G hG a.n b.n
 generalize cmpI a.n b.n = c1 at *
 generalize lexC strC a.names b.names = c2 at *
 refine Y5 Tryz.func20 rfl (Z0 rfl) hG fun hl0 _ => ?_
 simp only [Tryz.ntmps20]
 by_cases h1 : o1 = 0
 · by_cases h2 : o2 = 0
   all_goals
    skip
    have F : _ ∧ _ := ⟨h1, h2⟩
    repeat' first
     | (with_reducible refine Yj ?_; refine X7 mixd (by kernel_rfl) ?_)
     | ((with_reducible refine Uc ?_); first | (refine aS1 rfl rfl fun K HK => ?_; simp only [go_sem, F] <;> (refine HK _ _ rfl ?_; clear HK K)) | refine Xg rfl rfl rfl (by (first | (simp only [go_sem, F]; rfl) | (simp only [go_sem, F]; done))) (by rw [getD_one (by simp only [go_sem, F])]; rfl) ?_ | refine Vn rfl rfl (by simp only [litD, Xf, go_sem, Z7, Za, Zi, Zd, and_self, ↓reduceIte, Z8, Zf, Z9, Zg, Zh, Zj, Zl, Zk, Ya, h1, h2]; rfl) ?_ | refine V4 (by simp only [Zc, Ze, Zb, Z6, W5, chk1]; repeat' (first | exact trivial | refine And.intro ?_ ?_ | exact .inr X2 | exact .inr X4 | exact .inr Xj | exact .inr (Xi (by omega)) | (refine .inr ?_; simp [compat, Xw, Wa, Ws, nop] <;> omega) | exact .inl (by kernel_rfl))) ?_ | refine Wr rfl rfl rfl ent_42 (fun h2 => hc1 _) ?_ | refine Wr rfl rfl rfl ent_43 (fun h2 => hna _) ?_ | refine Xt rfl rfl rfl ent_41 (by (first | (simp only [go_sem, F]; rfl) | (simp only [go_sem, F]; done))) (fun h2 k2 => hor h2 2 k2) ?_)
     | refine g0 ?_
     | (with_reducible refine Y7 ?_; first | refine gc rfl rfl rfl ent_44 (hpa _) ?_ | refine gc rfl rfl rfl ent_45 (hen _) ?_)
    exact ⟨.inr rfl, endV hl0 rfl rfl ⟨rfl, by rw [hv]; simp [h1, h2]⟩⟩
 · skip
   have F := h1
   repeat' first
    | (with_reducible refine Yj ?_; refine X7 mixd (by kernel_rfl) ?_)
    | ((with_reducible refine Uc ?_); first | (refine aS1 rfl rfl fun K HK => ?_; simp only [go_sem, F] <;> (refine HK _ _ rfl ?_; clear HK K)) | refine Xg rfl rfl rfl (by (first | (simp only [go_sem, F]; rfl) | (simp only [go_sem, F]; done))) (by rw [getD_one (by simp only [go_sem, F])]; rfl) ?_ | refine Vn rfl rfl (by simp only [litD, Xf, go_sem, Z7, Za, Zi, Zd, and_self, ↓reduceIte, Z8, Zf, Z9, Zg, Zh, Zj, Zl, Zk, Ya, h1]; rfl) ?_ | refine V4 (by simp only [Zc, Ze, Zb, Z6, W5, chk1]; repeat' (first | exact trivial | refine And.intro ?_ ?_ | exact .inr X2 | exact .inr X4 | exact .inr Xj | exact .inr (Xi (by omega)) | (refine .inr ?_; simp [compat, Xw, Wa, Ws, nop] <;> omega) | exact .inl (by kernel_rfl))) ?_ | refine Wr rfl rfl rfl ent_42 (fun h2 => hc1 _) ?_ | refine Wr rfl rfl rfl ent_43 (fun h2 => hna _) ?_ | refine Xt rfl rfl rfl ent_41 (by (first | (simp only [go_sem, F]; rfl) | (simp only [go_sem, F]; done))) (fun h2 k2 => hor h2 2 k2) ?_)
    | refine g0 ?_
    | fail
   exact ⟨.inr rfl, endV hl0 rfl rfl ⟨rfl, by rw [hv]; simp [h1]⟩⟩
theorem equal_va (a b : Val) (sa : VSm a) (sb : VSm b) (h : List Ob) : Does Z3 G 22 h [.agg (vaX a), .agg (vaX b)] (fun h' r => h' = h ∧ r = .v (.bool (decide (valC a b = 0)))) := by
 refine Yk G hG (by rw [lowL, lowL, lowL, low, low]; exact ⟨Xu _ a, Xu _ b, trivial⟩) (by rw [low]; trivial) ?_ h
 clear h
 have hc := compare_va G hG _ a b (Nat.le_refl _) sa sb
 generalize valC a b = c at *
 simp only [Ya] at hc
 refine Y5 Tryz.func22 rfl (Z0 rfl) hG fun hl0 _ => ?_
 simp only [Tryz.ntmps22]
 repeat' first
  | refine g ?_
  | refine Two.mk (fun hq => ?_) fun hq => ?_
  | (with_reducible refine Y7 ?_; refine gc rfl rfl rfl ent_20 (hc _) ?_)
 all_goals exact ⟨.inr rfl, endV hl0 rfl rfl ⟨rfl, by first | rw [decide_eq_true hq] | rw [decide_eq_false hq] | rfl⟩⟩
end
end Go.Proofs.YtmdjnaobllajmaaGreatDoor
