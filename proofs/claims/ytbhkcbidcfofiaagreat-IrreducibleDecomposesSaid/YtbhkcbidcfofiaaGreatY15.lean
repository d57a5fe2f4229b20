/-
  What the statements of the chapter share, part 15: VA1, VN1, NT, RV1, LA2.
-/
import Derived.Test.YtbhkcbidcfofiaaGreatY08
import Derived.Test.YtbhkcbidcfofiaaGreatY10
import Derived.Test.YtbhkcbidcfofiaaGreatY14
set_option linter.unusedVariables false
set_option linter.unusedSimpArgs false
set_option maxRecDepth 100000
set_option maxHeartbeats 8000000
namespace Go.Proofs.YtbhkcbidcfofiaaGreat
open _root_.And renaming intro → Zz
open _root_.Array renaming getElem?_eq_getElem → Zw
open _root_.Bool renaming false_eq_true → Zo, not_false → Zu, not_true → Zy
open _root_.Int renaming reduceEq → Zj, reduceLE → Zk, reduceLT → Zl, toNat_natCast → Zx
open _root_.List renaming length_append → Z0, getElem?_eq_getElem → Z2, append_assoc → Z3, drop_eq_getElem_cons → Z4, getElem_mem → Z6, length_cons → Z8, cons_append → Z9, nil_append → Zc, append_nil → Zd, reverse_cons → Ze, reverse_nil → Zi, length_nil → Zm, flatMap_nil → Zn, flatMap_cons → Zp, take_zero → Zq, length_map → Zs, getElem?_zip_eq_some → Zv, take_length → Y0
open _root_.Nat renaming le_of_ble_eq_true → Z1, zero_le → Z7, reduceEqDiff → Za, reduceLeDiff → Zb, reduceAdd → Zf, reduceBEq → Zg, reduceMul → Zh
open _root_.Option renaming bind_some → Zr, map_some → Zt
open _root_.Go.Proofs.Tryz renaming prog → Z5
open Go.RowKit
section
attribute [local irreducible] on aOp
attribute [local go_sem] decide_true decide_false Zy Zu
attribute [local simp] byD_len
theorem strXe (s : ByteArray) : strX s = [.v (.string s)] := rfl
theorem Zo4 (t : Tk) : tkX t = [.v (.int .i64 t.process), .v (.int .i64 t.n)] := rfl
theorem Vc (e : En) : enX e = [.sl 2 (e.clock.map tkX), .v (.string e.name)] := rfl
theorem low_tk (m : Nat) (t : Tk) : lowL m (tkX t) := by simp [tkX, lowL, low]
theorem Yj4 (m : Nat) (e : En) : lowL m (enX e) := by
 rw [enX, lowL, lowL, lowL, low]
 exact ⟨Xp m _ fun t _ => low_tk m t, trivial, trivial⟩
theorem Wf (m : Nat) (l : List Val) : low m (.sl 4 (l.map vaX)) := Xp m l fun v _ => Yd m v
def tM (T : List Ob) : List Ob := T
section
variable {y z z' : Ob} {T l : List Ob}
theorem tM_len : (tM T).length = T.length := rfl
theorem tM_app : tM T ++ l = tM (T ++ l) := rfl
theorem tM_l : (tM (T ++ [y]))[T.length]? = some y := by simp [tM]
theorem tM_sl : (tM (T ++ [y])).set T.length z = tM (T ++ [z]) := by simp [tM]
theorem tM_a : (tM (T ++ [y, z]))[T.length]? = some y := by simp [tM]
theorem tM_b : (tM (T ++ [y, z]))[T.length + 1]? = some z := by simp [tM]
theorem tM_sb : (tM (T ++ [y, z])).set (T.length + 1) z' = tM (T ++ [y, z']) := by simp [tM]
end
inductive VSm : Val → Prop
 | mk (v : Val) (h1 : v.names.length ≤ 9223372036854775807) (h2 : v.parts.length ≤ 9223372036854775807) (h3 : v.entries.length ≤ 9223372036854775807) (h4 : ∀ s ∈ v.names, s.size ≤ 9223372036854775807) (h5 : ∀ e ∈ v.entries, e.clock.length ≤ 9223372036854775807 ∧ e.name.size ≤ 9223372036854775807) (h6 : ∀ p ∈ v.parts, VSm p) : VSm v
theorem VSm.names {v : Val} (h : VSm v) : v.names.length ≤ 9223372036854775807 := by cases h; assumption
theorem VSm.parts {v : Val} (h : VSm v) : v.parts.length ≤ 9223372036854775807 := by cases h; assumption
theorem VSm.entries {v : Val} (h : VSm v) : v.entries.length ≤ 9223372036854775807 := by cases h; assumption
theorem VSm.texts {v : Val} (h : VSm v) : ∀ s ∈ v.names, s.size ≤ 9223372036854775807 := by cases h; assumption
theorem VSm.ents {v : Val} (h : VSm v) : ∀ e ∈ v.entries, e.clock.length ≤ 9223372036854775807 ∧ e.name.size ≤ 9223372036854775807 := by cases h; assumption
theorem VSm.part {v : Val} (h : VSm v) : ∀ p ∈ v.parts, VSm p := by cases h; assumption
theorem Zv7 {α : Type} {c : α → α → Int} {a b : List α} {k : Nat} {x y : α} (ha : a.drop k = x :: a.drop (k + 1)) (hb : b.drop k = y :: b.drop (k + 1)) : lexC c (a.drop k) (b.drop k) = if c x y ≠ 0 then c x y else lexC c (a.drop (k + 1)) (b.drop (k + 1)) := by rw [ha, hb, lexC]
theorem strC_cb (a b : ByteArray) : Lib.compareBytes a.data.toList b.data.toList = strC a b := by
 have key : ∀ l m : List UInt8, Lib.compareBytes l m = if Op.bytesLess l m then -1 else if l = m then 0 else 1 := by
  intro l
  induction l with
  | nil => intro m; cases m <;> simp [Lib.compareBytes, Op.bytesLess]
  | cons x t ih =>
   intro m
   cases m with
   | nil => simp [Lib.compareBytes, Op.bytesLess]
   | cons y s =>
    rw [Lib.compareBytes, Op.bytesLess, ih]
    by_cases h1 : x < y
    · simp [h1]
    · by_cases h2 : y < x
      · have hne : x ≠ y := fun q => by subst q; exact h1 h2
        simp [h1, h2, hne]
      · have hxy : x = y := UInt8.le_antisymm (UInt8.not_lt.1 h2) (UInt8.not_lt.1 h1)
        subst hxy
        simp [h1]
 rw [key]
 unfold strC J0
 rw [Lib.toList_data, Lib.toList_data]
 have : (a.data.toList = b.data.toList) = (a = b) := propext ⟨fun h => ByteArray.ext (Array.toList_inj.1 h), fun h => by rw [h]⟩
 simp only [this]
variable (G : Nat → D) (hG : ∀ g, low 0 (G g))
include hG
attribute [local go_sem] Zo Bool.false_or Bool.or_false Bool.or_true Zj Zk Zl Zx Z3 Z9 Z0 Z8 Zs Zm Zc Zf Zg Za Zb Zh Vc strXe tM_a tM_app tM_b tM_l tM_len tM_sb tM_sl Zo4 Y5
attribute [local go_sem ↓] reduceIte
theorem isNaN64_d (a : Int) (h : List Ob) : Does Z5 G 151 h [.v (.int .i64 a)] (fun h' r => h' = h ∧ r = .v (.bool false)) := by
 refine Y6 Tryz.func151 rfl (Z1 rfl) hG fun hl0 _ => ?_
 simp only [Tryz.ntmps151]
 repeat' first
  | refine g0 ?_
  | fail
 all_goals first
 | exact ⟨by simp, endV hl0 rfl rfl ⟨rfl, rfl⟩⟩
 | (exfalso; simp at *; done)
theorem Yp5 (a : ByteArray) (h : List Ob) : Does Z5 G 213 h [.v (.string a)] (fun h' r => h' = h ∧ r = .v (.bool false)) := by
 refine Y6 Tryz.func213 rfl (Z1 rfl) hG fun hl0 _ => ?_
 simp only [Tryz.ntmps213]
 repeat' first
  | refine g0 ?_
  | fail
 all_goals first
 | exact ⟨by simp, endV hl0 rfl rfl ⟨rfl, rfl⟩⟩
 | (exfalso; simp at *; done)
theorem cmp64_d (a b : Int) (h : List Ob) : Does Z5 G 89 h [.v (.int .i64 a), .v (.int .i64 b)] (fun h' r => h' = h ∧ r = .v (.int .i64 (cmpI a b))) := by
 refine Y6 Tryz.func89 rfl (Z1 rfl) hG fun hl0 _ => ?_
 simp only [Tryz.ntmps89]
 repeat' first
  | refine gg ?_
  | refine Two.mk (fun hq => ?_) fun hq => ?_
  | (with_reducible refine Y7 ?_; refine gc rfl rfl rfl ent_151 (isNaN64_d G hG _ _) ?_)
 all_goals
  refine ⟨by simp, endV hl0 rfl rfl ⟨rfl, ?_⟩⟩
  unfold cmpI
  simp [*]
theorem cmps_d (a b : ByteArray) (h : List Ob) : Does Z5 G 152 h [.v (.string a), .v (.string b)] (fun h' r => h' = h ∧ r = .v (.int .i64 (strC a b))) := by
 unfold strC J0
 refine Y6 Tryz.func152 rfl (Z1 rfl) hG fun hl0 _ => ?_
 simp only [Tryz.ntmps152]
 cases h1 : Op.bytesLess a.toList b.toList
 · by_cases h2 : a = b
   · subst h2
     have h2 : decide (a = a) = true := decide_eq_true rfl
     have F : _ ∧ _ := ⟨h1, h2⟩
     repeat' first
      | refine g0 ?_
      | (with_reducible refine Y7 ?_; refine gc rfl rfl rfl ent_213 (Yp5 G hG _ _) ?_)
     all_goals exact ⟨by simp, endV hl0 rfl rfl ⟨rfl, by simp [h1]⟩⟩
   · skip
     have F : _ ∧ _ := ⟨h1, h2⟩
     repeat' first
      | refine g0 ?_
      | (with_reducible refine Y7 ?_; refine gc rfl rfl rfl ent_213 (Yp5 G hG _ _) ?_)
     all_goals exact ⟨by simp, endV hl0 rfl rfl ⟨rfl, by simp [h1, h2]⟩⟩
 · skip
   repeat' first
    | (with_reducible first | refine sA rfl ?_ | refine sI rfl rfl ?_ | refine sT rfl ?_)
    | (with_reducible refine Y7 ?_; first | refine Yp ?_ | (refine ao1 rfl rfl fun K HK => ?_; simp only [go_sem, h1, Bool.true_or] <;> (refine HK _ _ ?_; clear HK K)) | (refine ao2 rfl rfl rfl ent_213 (Yp5 G hG _ _) ?_; rintro _ _ ⟨rfl, rfl⟩))
   all_goals exact ⟨by simp, endV hl0 rfl rfl ⟨rfl, by simp [h1]⟩⟩
theorem slicesCmp_d (a b : List ByteArray) (ha : a.length ≤ 9223372036854775807) (hb : b.length ≤ 9223372036854775807) (h : List Ob) : Does Z5 G 90 h [.sl 1 (a.map strX), .sl 1 (b.map strX)] (fun h' r => h' = h ∧ r = .v (.int .i64 (lexC strC a b))) := by
 refine Y6 Tryz.func90 rfl (Z1 rfl) hG fun hl0 _ => ?_
 simp only [Tryz.ntmps90]
 repeat' first
  | refine g0 ?_
  | fail
 refine Yf (fun m e h' => ∃ k : Nat, k ≤ a.length ∧ k ≤ b.length ∧ m = a.length - k ∧ lexC strC a b = lexC strC (a.drop k) (b.drop k) ∧ h' = h ∧ e 0 = .sl 1 (a.map strX) ∧ e 1 = .sl 1 (b.map strX) ∧ e 9 = .sl 1 (a.map strX) ∧ e 10 = .v (.int .i64 a.length) ∧ e 11 = .v (.int .i64 k)) a.length ⟨0, Z7 _, Z7 _, rfl, rfl, rfl, rfl, rfl, rfl, rfl, rfl⟩ ?_
 rintro m e h' ⟨k, hk, hkb, rfl, ho, rfl, e0, e1, e9, e10, e11⟩
 by_cases hlt : k < a.length
 · have hx : a[k]? = some a[k] := Z2 hlt
   have wk : IntKind.i64.wrap ((k : Int) + 1) = ((k + 1 : Nat) : Int) := IntWalk.i64_in _ (by omega)
   by_cases hlb : k < b.length
   · have hy : b[k]? = some b[k] := Z2 hlb
     rw [Zv7 (Z4 hlt) (Z4 hlb)] at ho
     generalize a[k] = x at hx ho
     generalize b[k] = y at hy ho
     have hc := cmps_d G hG x y
     generalize strC x y = c at hc ho
     by_cases hz : c = 0
     · rw [if_neg (fun q => q hz)] at ho
       have F : _ ∧ _ ∧ _ ∧ _ ∧ _ ∧ _ ∧ _ := ⟨e0, e1, e9, e10, e11, hz, wk⟩
       repeat' first
        | refine gg ?_
        | refine Two.mk (fun hq => ?_) fun hq => ?_
        | (with_reducible refine Y7 ?_; refine gc rfl rfl rfl ent_152 (hc _) ?_)
        | (exfalso; omega)
       all_goals first | (exfalso; omega) | exact ⟨rfl, a.length - (k + 1), by omega, k + 1, hlt, hlb, rfl, ho, rfl, e0, e1, e9, e10, rfl⟩
     · rw [if_pos hz] at ho
       have F : _ ∧ _ ∧ _ ∧ _ ∧ _ ∧ _ ∧ _ := ⟨e0, e1, e9, e10, e11, hz, wk⟩
       repeat' first
        | refine gg ?_
        | refine Two.mk (fun hq => ?_) fun hq => ?_
        | (with_reducible refine Y7 ?_; refine gc rfl rfl rfl ent_152 (hc _) ?_)
        | (exfalso; omega)
       all_goals first | (exfalso; omega) | exact ⟨.inr rfl, endV hl0 rfl rfl ⟨rfl, by rw [ho]⟩⟩
   · rw [Zq1 _ _ _ _ hlt (by omega)] at ho
     have F : _ ∧ _ ∧ _ ∧ _ ∧ _ ∧ _ := ⟨e0, e1, e9, e10, e11, wk⟩
     repeat' first
      | refine gg ?_
      | refine Two.mk (fun hq => ?_) fun hq => ?_
      | refine Evry.mk fun x hx => ?_
      | (exfalso; omega)
     all_goals first | (exfalso; omega) | exact ⟨.inr rfl, endV hl0 rfl rfl ⟨rfl, by rw [ho]⟩⟩
 · rw [Zq2 _ _ _ _ (by omega)] at ho
   have F : _ ∧ _ ∧ _ ∧ _ ∧ _ := ⟨e0, e1, e9, e10, e11⟩
   repeat' first
    | refine gg ?_
    | refine Two.mk (fun hq => ?_) fun hq => ?_
    | refine Evry.mk fun x hx => ?_
    | (exfalso; omega)
   all_goals first | (exfalso; omega) | exact ⟨.inr rfl, endV hl0 rfl rfl ⟨rfl, by rw [ho]; first | rw [if_pos (by omega)] | rw [if_neg (by omega)]⟩⟩
theorem or_s2 (a b o : Int) (ho : orI [a, b] = o) (h : List Ob) (i : Nat) (hi : h[i]? = some (.buf 3 1 [[.v (.int .i64 a)], [.v (.int .i64 b)]])) : Does Z5 G 88 h [.buf i 2] (fun h' r => h' = h.set i (.buf 3 1 [[.v (.int .i64 a)], [.v (.int .i64 b)]]) ∧ r = .v (.int .i64 o)) := by
 rw [Ui hi, ← ho]; exact or_b G hG [a, b] (by simp) h i hi
theorem cmpTicks_d (a b : Tk) (h : List Ob) : Does Z5 G 155 h [.agg (tkX a), .agg (tkX b)] (fun h' r => h' = h ∧ r = .v (.int .i64 (Vz a b))) := by
 refine Y9 G hG (by rw [lowL, lowL, lowL, low, low]; exact ⟨low_tk _ a, low_tk _ b, trivial⟩) (by rw [low]; trivial) ?_ h
 clear h
 have hor := or_s2 G hG (cmpI a.process b.process) (cmpI a.n b.n) (Vz a b) rfl
 refine Y6 Tryz.func155 rfl (Z1 rfl) hG fun hl0 _ => ?_
 simp only [Tryz.ntmps155]
 repeat' first
  | (with_reducible refine Ya ?_; refine X7 mixd (by kernel_rfl) ?_)
  | ((with_reducible refine Uf ?_); first | (refine aS1 rfl rfl fun K HK => ?_; simp only [go_sem] <;> (refine HK _ _ rfl ?_; clear HK K)) | refine Xq rfl rfl rfl (by (first | (simp only [go_sem]; rfl) | (simp only [go_sem]; done))) (by rw [getD_one (by simp only [go_sem])]; rfl) ?_ | refine Jj rfl rfl (by simp only [litD, X1, go_sem, Z8, Zm, Zt, Zr, and_self, ↓reduceIte, Za, Zf, Zb, Zg, Zh, Zj, Zl, Zk, Zo4]; rfl) ?_ | refine Wv (by simp only [Ze, Zi, Zc, Z9, Wc, chk1]; repeat' (first | exact trivial | refine Zz ?_ ?_ | exact .inr Yq | exact .inr Yx | exact .inr X9 | exact .inr (Vd (by omega)) | (refine .inr ?_; simp [compat, We, Wg, Va, nop] <;> omega) | exact .inl (by kernel_rfl))) ?_ | refine Xd rfl rfl rfl ent_215 (fun h2 => cmpInt_d G hG _ _ _) ?_ | refine Xd rfl rfl rfl ent_89 (fun h2 => cmp64_d G hG _ _ _) ?_ | refine Um rfl rfl rfl ent_88 (by (first | (simp only [go_sem]; rfl) | (simp only [go_sem]; done))) (fun h2 k2 => hor h2 2 k2) ?_)
  | refine g0 ?_
  | fail
 exact ⟨.inr rfl, endV hl0 rfl rfl ⟨rfl, rfl⟩⟩
theorem cfTicks_d (a b : List Tk) (ha : a.length ≤ 9223372036854775807) (hb : b.length ≤ 9223372036854775807)
 (hc : ∀ x ∈ a, ∀ y ∈ b, ∀ h, Does Z5 G 155 h [.agg (tkX x), .agg (tkX y)] (fun h' r => h' = h ∧ r = .v (.int .i64 (Vz x y)))) (h : List Ob) :
 Does Z5 G 154 h [.sl 2 (a.map tkX), .sl 2 (b.map tkX), .fn 155 []] (fun h' r => h' = h ∧ r = .v (.int .i64 (lexC Vz a b))) := by
 have lo : ∀ l : List Tk, low 0 (.sl 2 (l.map tkX)) := fun l => Xp 0 l fun x _ => low_tk 0 x
 refine Y9 G hG (by rw [lowL, lowL, lowL, lowL]; exact ⟨lo a, lo b, by simp [low, lowL], trivial⟩) (by rw [low]; trivial) ?_ h
 clear h
 refine Y6 Tryz.func154 rfl (Z1 rfl) hG fun hl0 _ => ?_
 simp only [Tryz.ntmps154]
 repeat' first
  | refine g0 ?_
  | fail
 refine Yf (fun m e h' => ∃ (k : Nat) (T : List Ob), k ≤ a.length ∧ k ≤ b.length ∧ m = a.length - k ∧ lexC Vz a b = lexC Vz (a.drop k) (b.drop k) ∧ h' = tM T ∧ e 0 = .sl 2 (a.map tkX) ∧ e 1 = .sl 2 (b.map tkX) ∧ e 2 = .fn 155 [] ∧ e 11 = .sl 2 (a.map tkX) ∧ e 12 = .v (.int .i64 a.length) ∧ e 13 = .v (.int .i64 k)) a.length ⟨0, [], Z7 _, Z7 _, rfl, rfl, rfl, rfl, rfl, rfl, rfl, rfl, rfl⟩ ?_
 rintro m e h' ⟨k, T, hk, hkb, rfl, ho, rfl, e0, e1, e2, e11, e12, e13⟩
 by_cases hlt : k < a.length
 · have hx : a[k]? = some a[k] := Z2 hlt
   have wk : IntKind.i64.wrap ((k : Int) + 1) = ((k + 1 : Nat) : Int) := IntWalk.i64_in _ (by omega)
   by_cases hlb : k < b.length
   · have hy : b[k]? = some b[k] := Z2 hlb
     have hc := hc a[k] (Z6 hlt) b[k] (Z6 hlb)
     rw [Zv7 (Z4 hlt) (Z4 hlb)] at ho
     generalize a[k] = x at hx ho hc
     generalize b[k] = y at hy ho hc
     generalize Vz x y = c at hc ho
     simp only [Zo4] at hc
     by_cases hz : c = 0
     · rw [if_neg (fun q => q hz)] at ho
       have F : _ ∧ _ ∧ _ ∧ _ ∧ _ ∧ _ ∧ _ ∧ _ := ⟨e0, e1, e2, e11, e12, e13, hz, wk⟩
       repeat' first
        | refine gg ?_
        | refine Two.mk (fun hq => ?_) fun hq => ?_
        | (with_reducible refine Y7 ?_; refine gc rfl rfl rfl ent_155 (hc _) ?_)
        | (exfalso; omega)
       all_goals first | (exfalso; omega) | exact ⟨rfl, a.length - (k + 1), by omega, k + 1, _, hlt, hlb, rfl, ho, rfl, e0, e1, e2, e11, e12, rfl⟩
     · rw [if_pos hz] at ho
       have F : _ ∧ _ ∧ _ ∧ _ ∧ _ ∧ _ ∧ _ ∧ _ := ⟨e0, e1, e2, e11, e12, e13, hz, wk⟩
       repeat' first
        | refine gg ?_
        | refine Two.mk (fun hq => ?_) fun hq => ?_
        | (with_reducible refine Y7 ?_; refine gc rfl rfl rfl ent_155 (hc _) ?_)
        | (exfalso; omega)
       all_goals first | (exfalso; omega) | exact ⟨.inr rfl, endV hl0 rfl rfl ⟨rfl, by rw [ho]⟩⟩
   · rw [Zq1 _ _ _ _ hlt (by omega)] at ho
     have F : _ ∧ _ ∧ _ ∧ _ ∧ _ ∧ _ ∧ _ := ⟨e0, e1, e2, e11, e12, e13, wk⟩
     repeat' first
      | refine gg ?_
      | refine Two.mk (fun hq => ?_) fun hq => ?_
      | refine Evry.mk fun x hx => ?_
      | (exfalso; omega)
     all_goals first | (exfalso; omega) | exact ⟨.inr rfl, endV hl0 rfl rfl ⟨rfl, by rw [ho]⟩⟩
 · rw [Zq2 _ _ _ _ (by omega)] at ho
   have F : _ ∧ _ ∧ _ ∧ _ ∧ _ ∧ _ := ⟨e0, e1, e2, e11, e12, e13⟩
   repeat' first
    | refine gg ?_
    | refine Two.mk (fun hq => ?_) fun hq => ?_
    | refine Evry.mk fun x hx => ?_
    | (exfalso; omega)
   all_goals first | (exfalso; omega) | exact ⟨.inr rfl, endV hl0 rfl rfl ⟨rfl, by rw [ho]; first | rw [if_pos (by omega)] | rw [if_neg (by omega)]⟩⟩
theorem cmpEnts_d (a b : En) (ha : a.clock.length ≤ 9223372036854775807) (hb : b.clock.length ≤ 9223372036854775807) (h : List Ob) : Does Z5 G 93 h [.agg (enX a), .agg (enX b)] (fun h' r => h' = h ∧ r = .v (.int .i64 (entC a b))) := by
 refine Y9 G hG (by rw [lowL, lowL, lowL, low, low]; exact ⟨Yj4 _ a, Yj4 _ b, trivial⟩) (by rw [low]; trivial) ?_ h
 clear h
 have hor := or_s2 G hG (strC a.name b.name) (lexC Vz a.clock b.clock) (entC a b) rfl
 have hsc := scmp_d G hG a.name b.name
 simp only [strC_cb] at hsc
 have hcf := cfTicks_d G hG a.clock b.clock ha hb (fun x _ y _ h => cmpTicks_d G hG x y h)
 refine Y6 Tryz.func93 rfl (Z1 rfl) hG fun hl0 _ => ?_
 simp only [Tryz.ntmps93]
 repeat' first
  | (with_reducible refine Ya ?_; refine X7 mixd (by kernel_rfl) ?_)
  | ((with_reducible refine Uf ?_); first | (refine aS1 rfl rfl fun K HK => ?_; simp only [go_sem] <;> (refine HK _ _ rfl ?_; clear HK K)) | refine Xq rfl rfl rfl (by (first | (simp only [go_sem]; rfl) | (simp only [go_sem]; done))) (by rw [getD_one (by simp only [go_sem])]; rfl) ?_ | refine Jj rfl rfl (by simp only [litD, X1, go_sem, Z8, Zm, Zt, Zr, and_self, ↓reduceIte, Za, Zf, Zb, Zg, Zh, Zj, Zl, Zk, Vc]; rfl) ?_ | refine Wv (by simp only [Ze, Zi, Zc, Z9, Wc, chk1]; repeat' (first | exact trivial | refine Zz ?_ ?_ | exact .inr Yq | exact .inr Yx | exact .inr X9 | exact .inr (Vd (by omega)) | (refine .inr ?_; simp [compat, We, Wg, Va, nop] <;> omega) | exact .inl (by kernel_rfl))) ?_ | refine Xd rfl rfl rfl ent_153 (fun h2 => hsc _) ?_ | refine Xd rfl rfl rfl ent_154 (fun h2 => hcf _) ?_ | refine Um rfl rfl rfl ent_88 (by (first | (simp only [go_sem]; rfl) | (simp only [go_sem]; done))) (fun h2 k2 => hor h2 2 k2) ?_)
  | refine g0 ?_
  | fail
 exact ⟨.inr rfl, endV hl0 rfl rfl ⟨rfl, rfl⟩⟩
theorem cfEnts_d (a b : List En) (ha : a.length ≤ 9223372036854775807) (hb : b.length ≤ 9223372036854775807)
 (hc : ∀ x ∈ a, ∀ y ∈ b, ∀ h, Does Z5 G 93 h [.agg (enX x), .agg (enX y)] (fun h' r => h' = h ∧ r = .v (.int .i64 (entC x y)))) (h : List Ob) :
 Does Z5 G 92 h [.sl 2 (a.map enX), .sl 2 (b.map enX), .fn 93 []] (fun h' r => h' = h ∧ r = .v (.int .i64 (lexC entC a b))) := by
 have lo : ∀ l : List En, low 0 (.sl 2 (l.map enX)) := fun l => Xp 0 l fun x _ => Yj4 0 x
 refine Y9 G hG (by rw [lowL, lowL, lowL, lowL]; exact ⟨lo a, lo b, by simp [low, lowL], trivial⟩) (by rw [low]; trivial) ?_ h
 clear h
 refine Y6 Tryz.func92 rfl (Z1 rfl) hG fun hl0 _ => ?_
 simp only [Tryz.ntmps92]
 repeat' first
  | refine g0 ?_
  | fail
 refine Yf (fun m e h' => ∃ (k : Nat) (T : List Ob), k ≤ a.length ∧ k ≤ b.length ∧ m = a.length - k ∧ lexC entC a b = lexC entC (a.drop k) (b.drop k) ∧ h' = tM T ∧ e 0 = .sl 2 (a.map enX) ∧ e 1 = .sl 2 (b.map enX) ∧ e 2 = .fn 93 [] ∧ e 11 = .sl 2 (a.map enX) ∧ e 12 = .v (.int .i64 a.length) ∧ e 13 = .v (.int .i64 k)) a.length ⟨0, [], Z7 _, Z7 _, rfl, rfl, rfl, rfl, rfl, rfl, rfl, rfl, rfl⟩ ?_
 rintro m e h' ⟨k, T, hk, hkb, rfl, ho, rfl, e0, e1, e2, e11, e12, e13⟩
 by_cases hlt : k < a.length
 · have hx : a[k]? = some a[k] := Z2 hlt
   have wk : IntKind.i64.wrap ((k : Int) + 1) = ((k + 1 : Nat) : Int) := IntWalk.i64_in _ (by omega)
   by_cases hlb : k < b.length
   · have hy : b[k]? = some b[k] := Z2 hlb
     have hc := hc a[k] (Z6 hlt) b[k] (Z6 hlb)
     rw [Zv7 (Z4 hlt) (Z4 hlb)] at ho
     generalize a[k] = x at hx ho hc
     generalize b[k] = y at hy ho hc
     generalize entC x y = c at hc ho
     simp only [Vc] at hc
     by_cases hz : c = 0
     · rw [if_neg (fun q => q hz)] at ho
       have F : _ ∧ _ ∧ _ ∧ _ ∧ _ ∧ _ ∧ _ ∧ _ := ⟨e0, e1, e2, e11, e12, e13, hz, wk⟩
       repeat' first
        | refine gg ?_
        | refine Two.mk (fun hq => ?_) fun hq => ?_
        | (with_reducible refine Y7 ?_; refine gc rfl rfl rfl ent_93 (hc _) ?_)
        | (exfalso; omega)
       all_goals first | (exfalso; omega) | exact ⟨rfl, a.length - (k + 1), by omega, k + 1, _, hlt, hlb, rfl, ho, rfl, e0, e1, e2, e11, e12, rfl⟩
     · rw [if_pos hz] at ho
       have F : _ ∧ _ ∧ _ ∧ _ ∧ _ ∧ _ ∧ _ ∧ _ := ⟨e0, e1, e2, e11, e12, e13, hz, wk⟩
       repeat' first
        | refine gg ?_
        | refine Two.mk (fun hq => ?_) fun hq => ?_
        | (with_reducible refine Y7 ?_; refine gc rfl rfl rfl ent_93 (hc _) ?_)
        | (exfalso; omega)
       all_goals first | (exfalso; omega) | exact ⟨.inr rfl, endV hl0 rfl rfl ⟨rfl, by rw [ho]⟩⟩
   · rw [Zq1 _ _ _ _ hlt (by omega)] at ho
     have F : _ ∧ _ ∧ _ ∧ _ ∧ _ ∧ _ ∧ _ := ⟨e0, e1, e2, e11, e12, e13, wk⟩
     repeat' first
      | refine gg ?_
      | refine Two.mk (fun hq => ?_) fun hq => ?_
      | refine Evry.mk fun x hx => ?_
      | (exfalso; omega)
     all_goals first | (exfalso; omega) | exact ⟨.inr rfl, endV hl0 rfl rfl ⟨rfl, by rw [ho]⟩⟩
 · rw [Zq2 _ _ _ _ (by omega)] at ho
   have F : _ ∧ _ ∧ _ ∧ _ ∧ _ ∧ _ := ⟨e0, e1, e2, e11, e12, e13⟩
   repeat' first
    | refine gg ?_
    | refine Two.mk (fun hq => ?_) fun hq => ?_
    | refine Evry.mk fun x hx => ?_
    | (exfalso; omega)
   all_goals first | (exfalso; omega) | exact ⟨.inr rfl, endV hl0 rfl rfl ⟨rfl, by rw [ho]; first | rw [if_pos (by omega)] | rw [if_neg (by omega)]⟩⟩
theorem cfVals_d (a b : List Val) (ha : a.length ≤ 9223372036854775807) (hb : b.length ≤ 9223372036854775807)
 (hc : ∀ x ∈ a, ∀ y ∈ b, ∀ h, Does Z5 G 44 h [.agg (vaX x), .agg (vaX y)] (fun h' r => h' = h ∧ r = .v (.int .i64 (valC x y)))) (h : List Ob) :
 Does Z5 G 91 h [.sl 4 (a.map vaX), .sl 4 (b.map vaX), .fn 44 []] (fun h' r => h' = h ∧ r = .v (.int .i64 (lexC valC a b))) := by
 have lo : ∀ l : List Val, low 0 (.sl 4 (l.map vaX)) := fun l => Xp 0 l fun x _ => Yd 0 x
 refine Y9 G hG (by rw [lowL, lowL, lowL, lowL]; exact ⟨lo a, lo b, by simp [low, lowL], trivial⟩) (by rw [low]; trivial) ?_ h
 clear h
 refine Y6 Tryz.func91 rfl (Z1 rfl) hG fun hl0 _ => ?_
 simp only [Tryz.ntmps91]
 repeat' first
  | refine g0 ?_
  | fail
 refine Yf (fun m e h' => ∃ (k : Nat) (T : List Ob), k ≤ a.length ∧ k ≤ b.length ∧ m = a.length - k ∧ lexC valC a b = lexC valC (a.drop k) (b.drop k) ∧ h' = tM T ∧ e 0 = .sl 4 (a.map vaX) ∧ e 1 = .sl 4 (b.map vaX) ∧ e 2 = .fn 44 [] ∧ e 11 = .sl 4 (a.map vaX) ∧ e 12 = .v (.int .i64 a.length) ∧ e 13 = .v (.int .i64 k)) a.length ⟨0, [], Z7 _, Z7 _, rfl, rfl, rfl, rfl, rfl, rfl, rfl, rfl, rfl⟩ ?_
 rintro m e h' ⟨k, T, hk, hkb, rfl, ho, rfl, e0, e1, e2, e11, e12, e13⟩
 by_cases hlt : k < a.length
 · have hx : a[k]? = some a[k] := Z2 hlt
   have wk : IntKind.i64.wrap ((k : Int) + 1) = ((k + 1 : Nat) : Int) := IntWalk.i64_in _ (by omega)
   by_cases hlb : k < b.length
   · have hy : b[k]? = some b[k] := Z2 hlb
     have hc := hc a[k] (Z6 hlt) b[k] (Z6 hlb)
     rw [Zv7 (Z4 hlt) (Z4 hlb)] at ho
     generalize a[k] = x at hx ho hc
     generalize b[k] = y at hy ho hc
     generalize valC x y = c at hc ho
     simp only [Y5] at hc
     by_cases hz : c = 0
     · rw [if_neg (fun q => q hz)] at ho
       have F : _ ∧ _ ∧ _ ∧ _ ∧ _ ∧ _ ∧ _ ∧ _ := ⟨e0, e1, e2, e11, e12, e13, hz, wk⟩
       repeat' first
        | refine gg ?_
        | refine Two.mk (fun hq => ?_) fun hq => ?_
        | (with_reducible refine Y7 ?_; refine gc rfl rfl rfl ent_44 (hc _) ?_)
        | (exfalso; omega)
       all_goals first | (exfalso; omega) | exact ⟨rfl, a.length - (k + 1), by omega, k + 1, _, hlt, hlb, rfl, ho, rfl, e0, e1, e2, e11, e12, rfl⟩
     · rw [if_pos hz] at ho
       have F : _ ∧ _ ∧ _ ∧ _ ∧ _ ∧ _ ∧ _ ∧ _ := ⟨e0, e1, e2, e11, e12, e13, hz, wk⟩
       repeat' first
        | refine gg ?_
        | refine Two.mk (fun hq => ?_) fun hq => ?_
        | (with_reducible refine Y7 ?_; refine gc rfl rfl rfl ent_44 (hc _) ?_)
        | (exfalso; omega)
       all_goals first | (exfalso; omega) | exact ⟨.inr rfl, endV hl0 rfl rfl ⟨rfl, by rw [ho]⟩⟩
   · rw [Zq1 _ _ _ _ hlt (by omega)] at ho
     have F : _ ∧ _ ∧ _ ∧ _ ∧ _ ∧ _ ∧ _ := ⟨e0, e1, e2, e11, e12, e13, wk⟩
     repeat' first
      | refine gg ?_
      | refine Two.mk (fun hq => ?_) fun hq => ?_
      | refine Evry.mk fun x hx => ?_
      | (exfalso; omega)
     all_goals first | (exfalso; omega) | exact ⟨.inr rfl, endV hl0 rfl rfl ⟨rfl, by rw [ho]⟩⟩
 · rw [Zq2 _ _ _ _ (by omega)] at ho
   have F : _ ∧ _ ∧ _ ∧ _ ∧ _ ∧ _ := ⟨e0, e1, e2, e11, e12, e13⟩
   repeat' first
    | refine gg ?_
    | refine Two.mk (fun hq => ?_) fun hq => ?_
    | refine Evry.mk fun x hx => ?_
    | (exfalso; omega)
   all_goals first | (exfalso; omega) | exact ⟨.inr rfl, endV hl0 rfl rfl ⟨rfl, by rw [ho]; first | rw [if_pos (by omega)] | rw [if_neg (by omega)]⟩⟩
theorem Yk7 (n : Nat) : ∀ (a b : Val), SizeOf.sizeOf a ≤ n → VSm a → VSm b → ∀ (h : List Ob), Does Z5 G 44 h [.agg (vaX a), .agg (vaX b)] (fun h' r => h' = h ∧ r = .v (.int .i64 (valC a b))) := by
 induction n with
 | zero => intro a b hn; cases a; simp at hn
 | succ n ih =>
 intro a b hn sa sb h
 refine Y9 G hG (by rw [lowL, lowL, lowL, low, low]; exact ⟨Yd _ a, Yd _ b, trivial⟩) (by rw [low]; trivial) ?_ h
 clear h
 have hor := or_s2 G hG (cmpI a.n b.n) (lexC strC a.names b.names) _ rfl
 have hna := slicesCmp_d G hG a.names b.names sa.names sb.names
 have hpa := cfVals_d G hG a.parts b.parts sa.parts sb.parts (fun x hx y hy h => ih x y (by
   have := List.sizeOf_lt_of_mem hx
   cases a with
   | mk m ns ps es => simp only [Val.parts] at this; simp only [Val.mk.sizeOf_spec] at hn; omega) (sa.part x hx) (sb.part y hy) h)
 have hen := cfEnts_d G hG a.entries b.entries sa.entries sb.entries (fun x hx y hy h => cmpEnts_d G hG x y (sa.ents x hx).1 (sb.ents y hy).1 h)
 have hv : valC a b = if orI [cmpI a.n b.n, lexC strC a.names b.names] ≠ 0 then orI [cmpI a.n b.n, lexC strC a.names b.names] else if lexC valC a.parts b.parts ≠ 0 then lexC valC a.parts b.parts else lexC entC a.entries b.entries := by
  rw [Ze4]
  by_cases h1 : cmpI a.n b.n = 0
  · by_cases h2 : lexC strC a.names b.names = 0 <;> simp [orI, h1, h2]
  · simp [orI, h1]
 generalize orI [cmpI a.n b.n, lexC strC a.names b.names] = o1 at *
 generalize lexC valC a.parts b.parts = o2 at *
 generalize lexC entC a.entries b.entries = o3 at *
 generalize valC a b = vc at *
 have hc1 := cmp64_d G hG a.n b.n
 generalize cmpI a.n b.n = c1 at *
 generalize lexC strC a.names b.names = c2 at *
 refine Y6 Tryz.func44 rfl (Z1 rfl) hG fun hl0 _ => ?_
 simp only [Tryz.ntmps44]
 by_cases h1 : o1 = 0
 · by_cases h2 : o2 = 0
   all_goals
    skip
    have F : _ ∧ _ := ⟨h1, h2⟩
    repeat' first
     | (with_reducible refine Ya ?_; refine X7 mixd (by kernel_rfl) ?_)
     | ((with_reducible refine Uf ?_); first | (refine aS1 rfl rfl fun K HK => ?_; simp only [go_sem, F] <;> (refine HK _ _ rfl ?_; clear HK K)) | refine Xq rfl rfl rfl (by (first | (simp only [go_sem, F]; rfl) | (simp only [go_sem, F]; done))) (by rw [getD_one (by simp only [go_sem, F])]; rfl) ?_ | refine Jj rfl rfl (by simp only [litD, X1, go_sem, Z8, Zm, Zt, Zr, and_self, ↓reduceIte, Za, Zf, Zb, Zg, Zh, Zj, Zl, Zk, Y5, h1, h2]; rfl) ?_ | refine Wv (by simp only [Ze, Zi, Zc, Z9, Wc, chk1]; repeat' (first | exact trivial | refine Zz ?_ ?_ | exact .inr Yq | exact .inr Yx | exact .inr X9 | exact .inr (Vd (by omega)) | (refine .inr ?_; simp [compat, We, Wg, Va, nop] <;> omega) | exact .inl (by kernel_rfl))) ?_ | refine Xd rfl rfl rfl ent_89 (fun h2 => hc1 _) ?_ | refine Xd rfl rfl rfl ent_90 (fun h2 => hna _) ?_ | refine Um rfl rfl rfl ent_88 (by (first | (simp only [go_sem, F]; rfl) | (simp only [go_sem, F]; done))) (fun h2 k2 => hor h2 2 k2) ?_)
     | refine g0 ?_
     | (with_reducible refine Y7 ?_; first | refine gc rfl rfl rfl ent_91 (hpa _) ?_ | refine gc rfl rfl rfl ent_92 (hen _) ?_)
    exact ⟨.inr rfl, endV hl0 rfl rfl ⟨rfl, by rw [hv]; simp [h1, h2]⟩⟩
 · skip
   have F := h1
   repeat' first
    | (with_reducible refine Ya ?_; refine X7 mixd (by kernel_rfl) ?_)
    | ((with_reducible refine Uf ?_); first | (refine aS1 rfl rfl fun K HK => ?_; simp only [go_sem, F] <;> (refine HK _ _ rfl ?_; clear HK K)) | refine Xq rfl rfl rfl (by (first | (simp only [go_sem, F]; rfl) | (simp only [go_sem, F]; done))) (by rw [getD_one (by simp only [go_sem, F])]; rfl) ?_ | refine Jj rfl rfl (by simp only [litD, X1, go_sem, Z8, Zm, Zt, Zr, and_self, ↓reduceIte, Za, Zf, Zb, Zg, Zh, Zj, Zl, Zk, Y5, h1]; rfl) ?_ | refine Wv (by simp only [Ze, Zi, Zc, Z9, Wc, chk1]; repeat' (first | exact trivial | refine Zz ?_ ?_ | exact .inr Yq | exact .inr Yx | exact .inr X9 | exact .inr (Vd (by omega)) | (refine .inr ?_; simp [compat, We, Wg, Va, nop] <;> omega) | exact .inl (by kernel_rfl))) ?_ | refine Xd rfl rfl rfl ent_89 (fun h2 => hc1 _) ?_ | refine Xd rfl rfl rfl ent_90 (fun h2 => hna _) ?_ | refine Um rfl rfl rfl ent_88 (by (first | (simp only [go_sem, F]; rfl) | (simp only [go_sem, F]; done))) (fun h2 k2 => hor h2 2 k2) ?_)
    | refine g0 ?_
    | fail
   exact ⟨.inr rfl, endV hl0 rfl rfl ⟨rfl, by rw [hv]; simp [h1]⟩⟩
theorem equal_va (a b : Val) (sa : VSm a) (sb : VSm b) (h : List Ob) : Does Z5 G 104 h [.agg (vaX a), .agg (vaX b)] (fun h' r => h' = h ∧ r = .v (.bool (decide (valC a b = 0)))) := by
 refine Y9 G hG (by rw [lowL, lowL, lowL, low, low]; exact ⟨Yd _ a, Yd _ b, trivial⟩) (by rw [low]; trivial) ?_ h
 clear h
 have hc := Yk7 G hG _ a b (Nat.le_refl _) sa sb
 generalize valC a b = c at *
 simp only [Y5] at hc
 refine Y6 Tryz.func104 rfl (Z1 rfl) hG fun hl0 _ => ?_
 simp only [Tryz.ntmps104]
 repeat' first
  | refine gg ?_
  | refine Two.mk (fun hq => ?_) fun hq => ?_
  | (with_reducible refine Y7 ?_; refine gc rfl rfl rfl ent_44 (hc _) ?_)
 all_goals exact ⟨.inr rfl, endV hl0 rfl rfl ⟨rfl, by first | rw [decide_eq_true hq] | rw [decide_eq_false hq] | rfl⟩⟩
end
section
attribute [local irreducible] on aOp
attribute [local go_sem] decide_true decide_false Zy Zu
attribute [local simp] byD_len
def wC (n : Nat) (rows : List (List D)) (A B : Ob) (T : List Ob) : List Ob := wB n rows A (B :: T)
section
variable {n m : Nat} {rows r2 : List (List D)} {T l : List Ob} {A B x y : Ob}
theorem wB_box : wB n rows A [] ++ [x] = wC n rows A x [] := rfl
theorem wC_2 : (wC n rows A B T)[2]? = some A := rfl
theorem wC_3 : (wC n rows A B T)[3]? = some B := rfl
theorem wC_len : (wC n rows A B T).length = T.length + 4 := rfl
theorem wC_app : wC n rows A B T ++ l = wC n rows A B (T ++ l) := rfl
theorem wC_l : (wC n rows A B (T ++ [x]))[T.length + 4]? = some x := by simp [wC, wB, wG]
theorem wC_sl : (wC n rows A B (T ++ [x])).set (T.length + 4) y = wC n rows A B (T ++ [y]) := by simp [wC, wB, wG]
end
theorem Yd7 {α : Type} (g : α → List UInt8) (l : List α) (k : Nat) : ((l.take k).flatMap g).length ≤ (l.flatMap g).length := by
 conv => rhs; rw [← List.take_append_drop k l]
 rw [List.flatMap_append, Z0]; omega
theorem Yd8 {α : Type} (g : α → List UInt8) {l : List α} {k : Nat} {x : α} (h : l[k]? = some x) : (l.take (k + 1)).flatMap g = (l.take k).flatMap g ++ g x := by
 rw [List.take_add_one, h, List.flatMap_append]; simp
@[simp] def writE2 (i j : Nat) (ob ob' oc oc' : Ob) (d : D) : Eff := ⟨[(i, ob), (j, oc)], [(i, ob'), (j, oc')], [], fun _ => d⟩
theorem aS_call2 {P : Program} {G : Nat → D} {n m0 : Nat} {ops : Array Oper} {done : List Eff} {rest : List Oper} {Q : (Nat → D) → List Ob → Prop} {e : Nat → D} {h : List Ob} {t : Nat} {ty : TypeId} {pos : String} {aft : Array Edge} {gd : Option (Nat × Bool)} {x : Operand} {args : Array Operand} {tys : Array TypeId} {f : FuncId} {cap : List D} {d : D} {i j : Nat} {ob ob' oc oc' : Ob} (hw : Yg ops gd e = some true) (ht : decide (t < n) = true) (hx : ev G e x = .fn f cap) (he : entB P f = true) (hi : h[i]? = some ob) (hj : h[j]? = some oc)
 (hc : ∀ h2, h2[i]? = some ob → h2[j]? = some oc → Does P G f h2 (args.toList.map (ev G e) ++ cap) (fun h' r => h' = (h2.set i ob').set j oc' ∧ r = d))
 (k : aeS P G n m0 ops Q (writE2 i j ob ob' oc oc' d :: done) rest (upd e t d) ((h.set i ob').set j oc')) : aeS P G n m0 ops Q done (⟨some t, .call ⟨.value x, args, tys⟩, ty, pos, aft, gd⟩ :: rest) e h := by
 have hh : ∀ h, (writE2 i j ob ob' oc oc' d).heap h = (h.set i ob').set j oc' := fun h => by simp [Eff.heap, X2]
 exact Zu6 (E := writE2 i j ob ob' oc oc' d) hw ht hx he ⟨by simp, fun _ _ _ => rfl⟩ (by simp [Eff.ok, hi, hj]) (fun h2 k2 => by rw [hh]; exact hc h2 (k2 (i, ob) (by simp)) (k2 (j, oc) (by simp))) (by rw [hh]; exact k)
theorem wC_s {n n2 : Nat} {rows r2 : List (List D)} {A B : Ob} {T : List Ob} : ((wC n rows A B T).set 0 (.cells [.buf 1 n2])).set 1 (.buf 5 1 r2) = wC n2 r2 A B T := rfl
theorem wC_m {n : Nat} {rows : List (List D)} {A B x : Ob} {T U : List Ob} : (wC n rows A B (T ++ x :: U))[T.length + 4]? = some x := by simp [wC, wB, wG]
theorem wC_n {n : Nat} {rows : List (List D)} {A B x y : Ob} {T U : List Ob} : (wC n rows A B (T ++ x :: (U ++ [y])))[T.length + (U.length + 1) + 4]? = some y := by
 have : (T ++ x :: (U ++ [y])) = (T ++ x :: U) ++ [y] := by simp
 rw [this, show T.length + (U.length + 1) + 4 = (T ++ x :: U).length + 4 by simp]; exact wC_l
theorem wC_ns {n : Nat} {rows : List (List D)} {A B x y z : Ob} {T U : List Ob} : (wC n rows A B (T ++ x :: (U ++ [y]))).set (T.length + (U.length + 1) + 4) z = wC n rows A B (T ++ x :: (U ++ [z])) := by
 have h1 : ∀ w, (T ++ x :: (U ++ [w])) = (T ++ x :: U) ++ [w] := fun w => by simp
 rw [h1, h1, show T.length + (U.length + 1) + 4 = (T ++ x :: U).length + 4 by simp]; exact wC_sl
theorem putVs_zip : ∀ (ps : List Lat) (vs : List Val), Yg8 ps vs = (ps.zip vs).flatMap fun x => putV x.1 x.2
 | [], vs => by rw [Yg8]; rfl
 | _ :: _, [] => by rw [Yg8]; rfl
 | p :: ps, v :: vs => by rw [Yg8, putVs_zip ps vs]; rfl
variable (G : Nat → D) (hG : ∀ g, low 0 (G g))
include hG
attribute [local go_sem] Zo Zj Zk Zl Zx Int.toNat_zero Z3 Z9 Z0 Z8 Zs Zm Zc Zf Zg Za Zb Zh wB_box wB_len wC_2 wC_3 wC_app wC_l wC_len wC_m wC_n wC_ns wC_s wC_sl wG_0 wG_1 wG_a0 wG_a1 wG_b0 wG_b1 wG_s0 wG_s1 wH_box wH_len
attribute [local go_sem ↓] reduceIte
theorem wBool_d (l : List UInt8) (b : Bool) (hl : l.length ≤ 100000000) : Does Z5 G 161 (wH l) [.ptr 0 0, .v (.bool b)] (fun h' r => h' = wH (l ++ Zu5 b) ∧ r = .tup []) := by
 refine Y6 Tryz.func161 rfl (Z1 rfl) hG fun hl0 _ => ?_
 simp only [Tryz.ntmps161]
 cases b
 all_goals
  have F := wH_eq
  repeat' first
   | (with_reducible refine Y7 ?_; refine W1 rfl rfl rfl rfl (by (simp only [go_sem, F]; rfl)) (by simp) (by simp only [go_sem, F]; rfl) (by (simp only [go_sem, F]; rfl)) (by simp) (by (simp [X3, D.one, Value.oneCell']; done)) (by (simp; omega)) ?_)
   | refine g0 ?_
   | fail
  exact ⟨by simp, endW (l2 := l ++ Zu5 _) rfl rfl (by simp [Zu5]; try omega) (by simp [byD, Zu5]) ⟨rfl, rfl⟩⟩
theorem w_c {l l2 : List UInt8} {f : FuncId} {xs : List D} {r0 : D} (lx : lowL 0 xs) (lr : low 0 r0) (q : Does Z5 G f (wH l) (.ptr 0 0 :: xs) (fun h' r => h' = wH l2 ∧ r = r0)) {n : Nat} {A B : Ob} {T : List Ob} (hn : n = l.length) :
 Does Z5 G f (wC n (byD l) A B T) (.ptr 0 0 :: xs) (fun h' r => h' = wC l2.length (byD l2) A B T ∧ r = r0) := w_b G hG lx lr q hn
theorem Yr7 (l : List UInt8) {n : Nat} (hn : n < 18446744073709551616) (hl : l.length ≤ 100000000) {A B : Ob} {T : List Ob} {n0 : Nat} (e0 : n0 = l.length) {z : Int} (hz : z = (n : Int)) : Does Z5 G 163 (wC n0 (byD l) A B T) [.ptr 0 0, .v (.int .u64 z)] (fun h' r => h' = wC (l ++ Xe n).length (byD (l ++ Xe n)) A B T ∧ r = .tup []) := by
 subst hz
 exact w_c G hG (by simp [lowL, low]) (by simp [low, lowL]) (wUint_d G hG l n hn hl) e0
theorem cInt (l : List UInt8) {n : Int} (hn : I64 n) (hl : l.length ≤ 100000000) {A B : Ob} {T : List Ob} {n0 : Nat} (e0 : n0 = l.length) : Does Z5 G 162 (wC n0 (byD l) A B T) [.ptr 0 0, .v (.int .i64 n)] (fun h' r => h' = wC (l ++ intE n).length (byD (l ++ intE n)) A B T ∧ r = .tup []) :=
 w_c G hG (by simp [lowL, low]) (by simp [low, lowL]) (wInt_d G hG l n hn hl) e0
theorem cText (l : List UInt8) {s : ByteArray} (hs : s.size ≤ 10000000) (hl : l.length ≤ 80000000) {A B : Ob} {T : List Ob} {n0 : Nat} (e0 : n0 = l.length) : Does Z5 G 164 (wC n0 (byD l) A B T) [.ptr 0 0, .v (.string s)] (fun h' r => h' = wC (l ++ Wm s).length (byD (l ++ Wm s)) A B T ∧ r = .tup []) :=
 w_c G hG (by simp [lowL, low]) (by simp [low, lowL]) (wText_d G hG l s hs hl) e0
theorem cBool (l : List UInt8) (b : Bool) (hl : l.length ≤ 80000000) {A B : Ob} {T : List Ob} {n0 : Nat} (e0 : n0 = l.length) : Does Z5 G 161 (wC n0 (byD l) A B T) [.ptr 0 0, .v (.bool b)] (fun h' r => h' = wC (l ++ Zu5 b).length (byD (l ++ Zu5 b)) A B T ∧ r = .tup []) :=
 w_c G hG (by simp [lowL, low]) (by simp [low, lowL]) (wBool_d G hG l b (by omega)) e0
def Zi7 (l : Lat) (v : Val) : Prop := ∀ acc : List UInt8, acc.length + (putV l v).length ≤ 1000000 → Does Z5 G 99 (wH acc) [.ptr 0 0, .agg (latX l), .agg (vaX v)] (fun h' r => h' = wH (acc ++ putV l v) ∧ r = .tup [])
theorem write_1 (l : Lat) (v : Val) (h1 : l.kind = 1) : Zi7 G l v := fun acc hb => by
 have hp : putV l v = Zu5 (decide (v.n = 1)) := by cases l; simp only [Lat.kind] at h1; subst h1; exact putV_1 v
 rw [hp] at hb ⊢
 refine Y6 Tryz.func99 rfl (Z1 rfl) hG fun hl0 _ => ?_
 simp only [Tryz.ntmps99]
 have F : _ ∧ _ ∧ _ := ⟨Y4 l, Y5 v, h1⟩
 repeat' first
  | refine gg ?_
  | refine Two.mk (fun hq => ?_) fun hq => ?_
  | (with_reducible refine Y7 ?_; refine gc rfl rfl rfl ent_161 (cBool G hG acc _ (by omega) rfl) ?_)
 all_goals first | (rw [decide_eq_true hq]; exact ⟨by simp, endW (l2 := acc ++ Zu5 true) rfl rfl (by first | rfl | (simp; done) | (simp; omega)) rfl ⟨rfl, rfl⟩⟩) | (rw [decide_eq_false hq]; exact ⟨by simp, endW (l2 := acc ++ Zu5 false) rfl rfl (by first | rfl | (simp; done) | (simp; omega)) rfl ⟨rfl, rfl⟩⟩)
theorem write_23 (l : Lat) (v : Val) (h1 : l.kind = 2 ∨ l.kind = 3) (hn : I64 v.n) : Zi7 G l v := fun acc hb => by
 have hp : putV l v = intE v.n := by cases l; exact putV_23 h1 v
 rw [hp] at hb ⊢
 refine Y6 Tryz.func99 rfl (Z1 rfl) hG fun hl0 _ => ?_
 simp only [Tryz.ntmps99]
 rcases h1 with h1 | h1
 all_goals
  have F : _ ∧ _ ∧ _ := ⟨Y4 l, Y5 v, h1⟩
  repeat' first
   | refine g0 ?_
   | (with_reducible refine Y7 ?_; refine gc rfl rfl rfl ent_162 (cInt G hG acc hn (by omega) rfl) ?_)
  exact ⟨by simp, endW (l2 := acc ++ intE v.n) rfl rfl (by first | rfl | (simp; done) | (simp; omega)) rfl ⟨rfl, rfl⟩⟩
theorem write_8 (l : Lat) (v : Val) (h1 : l.kind = 8) (hn : (v.n = 0 ∧ v.names = []) ∨ (v.n = 2 ∧ v.names = []) ∨ (v.n = 1 ∧ ∃ s, v.names = [s] ∧ s.size ≤ 16)) : Zi7 G l v := fun acc hb => by
 have hp : putV l v = Xe v.n.toNat ++ (if v.n = 1 then Wm (v.names.headD ByteArray.empty) else []) := by cases l; simp only [Lat.kind] at h1; subst h1; exact putV_8 v
 rw [hp] at hb ⊢
 rw [Z0] at hb
 refine Y6 Tryz.func99 rfl (Z1 rfl) hG fun hl0 _ => ?_
 simp only [Tryz.ntmps99]
 rcases hn with ⟨hn, hnm⟩ | ⟨hn, hnm⟩ | ⟨hn, s, hnm, hs⟩
 · have hi : ¬ v.n = 1 := by omega
   rw [if_neg hi, Zd]
   have hw : IntKind.u64.wrap v.n = ((v.n.toNat : Nat) : Int) := by rw [IntKind.wrap_u64]; omega
   have F : _ ∧ _ ∧ _ ∧ _ := ⟨Y4 l, Y5 v, h1, hi⟩
   repeat' first
    | refine g0 ?_
    | (with_reducible refine Y7 ?_; refine gc rfl rfl rfl Je (Yr7 G hG acc (n := v.n.toNat) (by omega) (by omega) rfl hw) ?_)
   exact ⟨by simp, endW (l2 := acc ++ Xe v.n.toNat) rfl rfl (by first | rfl | (simp; done) | (simp; omega)) rfl ⟨rfl, rfl⟩⟩
 · have hi : ¬ v.n = 1 := by omega
   rw [if_neg hi, Zd]
   have hw : IntKind.u64.wrap v.n = ((v.n.toNat : Nat) : Int) := by rw [IntKind.wrap_u64]; omega
   have F : _ ∧ _ ∧ _ ∧ _ := ⟨Y4 l, Y5 v, h1, hi⟩
   repeat' first
    | refine g0 ?_
    | (with_reducible refine Y7 ?_; refine gc rfl rfl rfl Je (Yr7 G hG acc (n := v.n.toNat) (by omega) (by omega) rfl hw) ?_)
   exact ⟨by simp, endW (l2 := acc ++ Xe v.n.toNat) rfl rfl (by first | rfl | (simp; done) | (simp; omega)) rfl ⟨rfl, rfl⟩⟩
 · have hw : IntKind.u64.wrap v.n = ((v.n.toNat : Nat) : Int) := by rw [IntKind.wrap_u64]; omega
   have hx : v.names[0]? = some s := by rw [hnm]; rfl
   have hxl : (v.names.length : Int) = 1 := by rw [hnm]; rfl
   rw [if_pos hn, hnm, List.headD_cons, ← Z3]
   have hdn : decide (v.n = 1) = true := decide_eq_true hn
   have F : _ ∧ _ ∧ _ ∧ _ ∧ _ := ⟨Y4 l, Y5 v, h1, hdn, Xt⟩
   repeat' first
    | refine g0 ?_
    | (with_reducible refine Y7 ?_; first | refine gc rfl rfl rfl Je (Yr7 G hG acc (n := v.n.toNat) (by omega) (by omega) rfl hw) ?_ | refine gc rfl rfl rfl Yq8 (cText G hG (acc ++ Xe v.n.toNat) (s := s) (by omega) (by rw [Z0]; omega) (by simp)) ?_)
   exact ⟨by simp, endW (l2 := acc ++ Xe v.n.toNat ++ Wm s) rfl rfl (by first | rfl | (simp; done) | (simp; omega)) rfl ⟨rfl, rfl⟩⟩
theorem write_names (l : Lat) (v : Val) (h1 : l.kind = 4 ∨ l.kind = 10) (hs : ∀ s ∈ v.names, s.size ≤ 16) : Zi7 G l v := fun acc hb => by
 have hp : putV l v = Xe v.names.length ++ v.names.flatMap Wm := by cases l; exact putV_410 h1 v
 rw [hp] at hb ⊢
 rw [Z0] at hb
 have hnl : v.names.length ≤ 1000000 := by
  have : v.names.length ≤ (v.names.flatMap Wm).length := by
   clear hb hp
   induction v.names with
   | nil => simp
   | cons a t ih => rw [Zp, Z0, Z8]; have : 1 ≤ (Wm a).length := by { unfold Wm; rw [Z0]; have := Zz7 a.size; omega }; omega
  omega
 have hw : IntKind.u64.wrap (v.names.length : Int) = ((v.names.length : Nat) : Int) := by rw [IntKind.wrap_u64]; omega
 refine Y6 Tryz.func99 rfl (Z1 rfl) hG fun hl0 _ => ?_
 simp only [Tryz.ntmps99]
 rcases h1 with h1 | h1
 all_goals
  have F : _ ∧ _ ∧ _ ∧ _ := ⟨Y4 l, Y5 v, h1, hw⟩
  repeat' first
   | refine g0 ?_
   | (with_reducible refine Y7 ?_; refine gc rfl rfl rfl Je (Yr7 G hG acc (n := v.names.length) (by omega) (by omega) rfl rfl) ?_)
  generalize hP : acc ++ Xe v.names.length = P
  have hPl : P.length + (v.names.flatMap Wm).length ≤ 1000000 := by rw [← hP, Z0]; omega
  refine Yf (fun m e h' => ∃ k : Nat, k ≤ v.names.length ∧ m = v.names.length - k ∧ h' = wC (P ++ (v.names.take k).flatMap Wm).length (byD (P ++ (v.names.take k).flatMap Wm)) (.cells (latX l)) (.cells (vaX v)) [] ∧ e 0 = .ptr 0 0 ∧ e 4 = .ptr 2 0 ∧ e 5 = .ptr 3 0 ∧ e 58 = .sl 1 (v.names.map strX) ∧ e 59 = .v (.int .i64 v.names.length) ∧ e 60 = .v (.int .i64 k)) v.names.length ⟨0, Z7 _, rfl, by rw [Y4 l, Y5 v, h1, Zq, Zn, Zd, ← hP, Z0], rfl, rfl, rfl, rfl, rfl, rfl⟩ ?_
  rintro m e h' ⟨k, hk, rfl, rfl, e0, e4, e5, e58, e59, e60⟩
  have hle := Yd7 Wm v.names k
  by_cases hlt : k < v.names.length
  · have hx : v.names[k]? = some v.names[k] := Z2 hlt
    have hxs := hs _ (Z6 hlt)
    generalize v.names[k] = x at hx hxs
    have hst := Yd8 Wm hx
    have wk : IntKind.i64.wrap ((k : Int) + 1) = ((k + 1 : Nat) : Int) := IntWalk.i64_in _ (by omega)
    generalize hcur : P ++ (v.names.take k).flatMap Wm = cur
    have hcl : cur.length ≤ 1000000 := by rw [← hcur, Z0]; omega
    have F : _ ∧ _ ∧ _ ∧ _ ∧ _ ∧ _ ∧ _ ∧ _ ∧ _ ∧ _ ∧ _ := ⟨Y4 l, Y5 v, e0, e4, e5, e58, e59, e60, wk, h1, Xt⟩
    repeat' first
     | refine gg ?_
     | refine Two.mk (fun hq => ?_) fun hq => ?_
     | (with_reducible refine Y7 ?_; refine gc rfl rfl rfl Yq8 (cText G hG cur (s := x) (by omega) (by omega) rfl) ?_)
     | (exfalso; omega)
    exact ⟨rfl, v.names.length - (k + 1), by omega, k + 1, hlt, rfl, by rw [hst, ← Z3, hcur, Z0, Y4 l, Y5 v, h1], e0, e4, e5, e58, e59, rfl⟩
  · obtain rfl : k = v.names.length := by omega
    rw [Y0]
    have F : _ ∧ _ ∧ _ ∧ _ ∧ _ ∧ _ ∧ _ ∧ _ := ⟨Y4 l, Y5 v, e0, e4, e5, e58, e59, e60⟩
    repeat' first
     | refine gg ?_
     | refine Two.mk (fun hq => ?_) fun hq => ?_
     | refine Evry.mk fun x hx => ?_
     | (exfalso; omega)
    exact ⟨by simp, endW (l2 := acc ++ (Xe v.names.length ++ v.names.flatMap Wm)) rfl rfl (by rw [← Z3, hP, Z0]) (by rw [← Z3, hP]) ⟨rfl, rfl⟩⟩
theorem write_5 (l : Lat) (v : Val) (p : Lat) (h1 : l.kind = 5) (hps : l.parts = [p]) (hs : ∀ s ∈ v.names, s.size ≤ 16) (hlen : v.names.length = v.parts.length) (hrec : ∀ x ∈ v.parts, Zi7 G p x) : Zi7 G l v := fun acc hb => by
 have hp : putV l v = Xe v.names.length ++ (v.names.zip v.parts).flatMap fun x => Wm x.1 ++ putV p x.2 := by cases l; simp only [Lat.kind, Lat.parts] at h1 hps; subst h1 hps; exact putV_5 v
 rw [hp] at hb ⊢
 rw [Z0] at hb
 have hp0 : l.parts[0]? = some p := by rw [hps]; rfl
 have hpl : (l.parts.length : Int) = 1 := by rw [hps]; rfl
 have hzl : (v.names.zip v.parts).length = v.names.length := by rw [List.length_zip]; omega
 have hnl : v.names.length ≤ 1000000 := by
  have : (v.names.zip v.parts).length ≤ ((v.names.zip v.parts).flatMap fun x => Wm x.1 ++ putV p x.2).length := by
   clear hb hp hzl
   induction v.names.zip v.parts with
   | nil => simp
   | cons a t ih => rw [Zp, Z0, Z8, Z0]; have : 1 ≤ (Wm a.1).length := by { unfold Wm; rw [Z0]; have := Zz7 a.1.size; omega }; omega
  omega
 have hw : IntKind.u64.wrap (v.names.length : Int) = ((v.names.length : Nat) : Int) := by rw [IntKind.wrap_u64]; omega
 refine Y6 Tryz.func99 rfl (Z1 rfl) hG fun hl0 _ => ?_
 simp only [Tryz.ntmps99]
 have F : _ ∧ _ ∧ _ ∧ _ := ⟨Y4 l, Y5 v, h1, hw⟩
 repeat' first
  | refine g0 ?_
  | (with_reducible refine Y7 ?_; refine gc rfl rfl rfl Je (Yr7 G hG acc (n := v.names.length) (by omega) (by omega) rfl rfl) ?_)
 generalize hP : acc ++ Xe v.names.length = P
 have hPl : P.length + ((v.names.zip v.parts).flatMap fun x => Wm x.1 ++ putV p x.2).length ≤ 1000000 := by rw [← hP, Z0]; omega
 generalize hF : (fun x : ByteArray × Val => Wm x.1 ++ putV p x.2) = Fu at *
 refine Yf (fun m e h' => ∃ k : Nat, k ≤ v.names.length ∧ m = v.names.length - k ∧ h' = wC (P ++ ((v.names.zip v.parts).take k).flatMap Fu).length (byD (P ++ ((v.names.zip v.parts).take k).flatMap Fu)) (.cells (latX l)) (.cells (vaX v)) [] ∧ e 0 = .ptr 0 0 ∧ e 4 = .ptr 2 0 ∧ e 5 = .ptr 3 0 ∧ e 58 = .sl 1 (v.names.map strX) ∧ e 59 = .v (.int .i64 v.names.length) ∧ e 60 = .v (.int .i64 k)) v.names.length ⟨0, Z7 _, rfl, by rw [Y4 l, Y5 v, h1, Zq, Zn, Zd, ← hP, Z0], rfl, rfl, rfl, rfl, rfl, rfl⟩ ?_
 rintro m e h' ⟨k, hk, rfl, rfl, e0, e4, e5, e58, e59, e60⟩
 by_cases hlt : k < v.names.length
 · have hx : v.names[k]? = some v.names[k] := Z2 hlt
   have hy : v.parts[k]? = some (v.parts[k]'(by omega)) := Z2 (by omega)
   have hxs := hs _ (Z6 hlt)
   have hrx := hrec _ (Z6 (show k < v.parts.length by omega))
   have hz : (v.names.zip v.parts)[k]? = some (v.names[k], v.parts[k]'(by omega)) := by rw [Zv]; exact ⟨hx, hy⟩
   generalize v.names[k] = x at hx hxs hz
   generalize (v.parts[k]'(by omega)) = y at hy hrx hz
   have hst := Yd8 Fu hz
   have hle := Yd7 Fu (v.names.zip v.parts) (k + 1)
   have hFx : Fu (x, y) = Wm x ++ putV p y := by rw [← hF]
   rw [hst, Z0, hFx, Z0] at hle
   have wk : IntKind.i64.wrap ((k : Int) + 1) = ((k + 1 : Nat) : Int) := IntWalk.i64_in _ (by omega)
   generalize hcur : P ++ ((v.names.zip v.parts).take k).flatMap Fu = cur
   have hcl : cur.length + ((Wm x).length + (putV p y).length) ≤ 1000000 := by rw [← hcur, Z0]; omega
   have hfin : P ++ ((v.names.zip v.parts).take (k + 1)).flatMap Fu = cur ++ (Wm x ++ putV p y) := by rw [hst, hFx, ← hcur]; simp only [Z3]
   have hw2 := hrx (cur ++ Wm x) (by rw [Z0]; omega)
   have hlp : low 0 (.agg (latX p)) := by rw [low]; exact Yy _ p
   have hlx : low 0 (.agg (vaX y)) := by rw [low]; exact Yd _ y
   simp only [Y4 p, Y5 y] at hw2 hlp hlx
   have F : _ ∧ _ ∧ _ ∧ _ ∧ _ ∧ _ ∧ _ ∧ _ ∧ _ ∧ _ ∧ _ ∧ _ ∧ _ := ⟨Y4 l, Y5 v, Y4 p, Y5 y, e0, e4, e5, e58, e59, e60, wk, h1, Xt⟩
   repeat' first
    | (with_reducible refine Ya ?_; refine X7 mixd (by kernel_rfl) ?_)
    | ((with_reducible refine Uf ?_); first | (refine aS_call2 (i := 0) (j := 1) rfl rfl rfl ent_99 rfl rfl (fun h2 k1 k2 => w_at G hG (by rw [lowL, lowL, lowL]; exact ⟨hlp, hlx, trivial⟩) (by simp [low, lowL]) hw2 (by rw [Z0]; exact k1) k2) ?_) | (refine aS1 rfl rfl fun K HK => ?_; simp only [go_sem, F]; (first | refine Yt (fun hq => ?_) (fun hq => ?_) | (refine ⟨by omega, by omega, ?_⟩; refine Xf (by assumption) ?_) | (refine ⟨by omega, ?_⟩; refine Xf (by assumption) ?_) | skip) <;> (refine HK _ _ rfl ?_; clear HK K)) | refine Xq rfl rfl rfl (by (simp only [go_sem, F]; rfl)) (by rw [getD_one (by simp only [go_sem, F])]; rfl) ?_ | refine Wv (by simp only [Ze, Zi, Zc, Z9, Wc, chk1]; repeat' (first | exact trivial | refine Zz ?_ ?_ | exact .inr Yq | exact .inr Yx | exact .inr X9 | (refine .inr ?_; simp [compat, We, Wg, Va, nop, wH_len, wB_len, wC_len] <;> omega))) ?_)
    | refine gg ?_
    | refine Two.mk (fun hq => ?_) fun hq => ?_
    | (with_reducible refine Y7 ?_; refine gc rfl rfl rfl Yq8 (cText G hG cur (s := x) (by omega) (by omega) rfl) ?_)
    | (exfalso; omega)
   all_goals first | (exfalso; omega) | exact ⟨rfl, v.names.length - (k + 1), by omega, k + 1, hlt, rfl, by rw [hfin, Z0, Z0, Y4 l, Y5 v, h1], e0, e4, e5, e58, e59, rfl⟩
 · obtain rfl : k = v.names.length := by omega
   rw [List.take_of_length_le (by omega)]
   have F : _ ∧ _ ∧ _ ∧ _ ∧ _ ∧ _ ∧ _ ∧ _ := ⟨Y4 l, Y5 v, e0, e4, e5, e58, e59, e60⟩
   repeat' first
    | refine gg ?_
    | refine Two.mk (fun hq => ?_) fun hq => ?_
    | refine Evry.mk fun x hx => ?_
    | (exfalso; omega)
   exact ⟨by simp, endW (l2 := acc ++ (Xe v.names.length ++ (v.names.zip v.parts).flatMap Fu)) rfl rfl (by rw [← Z3, hP, Z0]) (by rw [← Z3, hP]) ⟨rfl, rfl⟩⟩
theorem write_67 (l : Lat) (v : Val) (h1 : l.kind = 6 ∨ l.kind = 7) (hlen : v.parts.length = l.parts.length) (hpl : l.parts.length ≤ 1000) (hrec : ∀ p ∈ l.parts, ∀ x ∈ v.parts, (p, x) ∈ l.parts.zip v.parts → Zi7 G p x) : Zi7 G l v := fun acc hb => by
 have hp : putV l v = (l.parts.zip v.parts).flatMap fun x => putV x.1 x.2 := by cases l; exact (putV_67 h1 v).trans (putVs_zip _ _)
 rw [hp] at hb ⊢
 have hzl : (l.parts.zip v.parts).length = v.parts.length := by rw [List.length_zip]; omega
 generalize hF : (fun x : Lat × Val => putV x.1 x.2) = Fu at *
 refine Y6 Tryz.func99 rfl (Z1 rfl) hG fun hl0 _ => ?_
 simp only [Tryz.ntmps99]
 rcases h1 with h1 | h1
 all_goals
  have F : _ ∧ _ ∧ _ := ⟨Y4 l, Y5 v, h1⟩
  repeat' first
   | refine g0 ?_
   | fail
  refine Yf (fun m e h' => ∃ (k : Nat) (T : List Ob), k ≤ v.parts.length ∧ m = v.parts.length - k ∧ h' = wC (acc ++ ((l.parts.zip v.parts).take k).flatMap Fu).length (byD (acc ++ ((l.parts.zip v.parts).take k).flatMap Fu)) (.cells (latX l)) (.cells (vaX v)) T ∧ e 0 = .ptr 0 0 ∧ e 4 = .ptr 2 0 ∧ e 5 = .ptr 3 0 ∧ e 17 = .sl 4 (v.parts.map vaX) ∧ e 18 = .v (.int .i64 v.parts.length) ∧ e 19 = .v (.int .i64 k)) v.parts.length ⟨0, [], Z7 _, rfl, by rw [Y4 l, Y5 v, h1, Zq, Zn, Zd], rfl, rfl, rfl, rfl, rfl, rfl⟩ ?_
  rintro m e h' ⟨k, T, hk, rfl, rfl, e0, e4, e5, e17, e18, e19⟩
  by_cases hlt : k < v.parts.length
  · have hx : l.parts[k]? = some (l.parts[k]'(by omega)) := Z2 (by omega)
    have hy : v.parts[k]? = some v.parts[k] := Z2 hlt
    have hz : (l.parts.zip v.parts)[k]? = some (l.parts[k]'(by omega), v.parts[k]) := by rw [Zv]; exact ⟨hx, hy⟩
    have hrx := hrec _ (Z6 (show k < l.parts.length by omega)) _ (Z6 hlt) (List.mem_of_getElem? hz)
    generalize (l.parts[k]'(by omega)) = p at hx hrx hz
    generalize v.parts[k] = y at hy hrx hz
    have hst := Yd8 Fu hz
    have hle := Yd7 Fu (l.parts.zip v.parts) (k + 1)
    have hFx : Fu (p, y) = putV p y := by rw [← hF]
    rw [hst, Z0, hFx] at hle
    have wk : IntKind.i64.wrap ((k : Int) + 1) = ((k + 1 : Nat) : Int) := IntWalk.i64_in _ (by omega)
    generalize hcur : acc ++ ((l.parts.zip v.parts).take k).flatMap Fu = cur
    have hcl : cur.length + (putV p y).length ≤ 1000000 := by rw [← hcur, Z0]; omega
    have hw2 := hrx cur hcl
    have hlp : low 0 (.agg (latX p)) := by rw [low]; exact Yy _ p
    have hlx : low 0 (.agg (vaX y)) := by rw [low]; exact Yd _ y
    simp only [Y4 p, Y5 y] at hw2 hlp hlx
    have F : _ ∧ _ ∧ _ ∧ _ ∧ _ ∧ _ ∧ _ ∧ _ ∧ _ ∧ _ ∧ _ ∧ _ := ⟨Y4 l, Y5 v, Y4 p, Y5 y, e0, e4, e5, e17, e18, e19, wk, h1⟩
    repeat' first
     | (with_reducible refine Ya ?_; refine X7 mixd (by kernel_rfl) ?_)
     | ((with_reducible refine Uf ?_); first | (refine Xq rfl rfl rfl (by (simp only [go_sem, F]; rfl)) (by rw [getD_agg' aggT_30, szT_30]; rfl) ?_) | (refine aS_call2 (i := 0) (j := 1) rfl rfl rfl ent_99 rfl rfl (fun h2 k1 k2 => w_at G hG (by rw [lowL, lowL, lowL]; exact ⟨hlp, hlx, trivial⟩) (by simp [low, lowL]) hw2 k1 k2) ?_) | (refine aS1 rfl rfl fun K HK => ?_; simp only [go_sem, F]; (first | refine Yt (fun hq => ?_) (fun hq => ?_) | (refine ⟨by omega, by omega, ?_⟩; refine Xf (by assumption) ?_) | skip) <;> (refine HK _ _ rfl ?_; clear HK K)) | refine Xq rfl rfl rfl (by (simp only [go_sem, F]; rfl)) (by rw [getD_one (by simp only [go_sem, F])]; rfl) ?_ | refine Wv (by simp only [Ze, Zi, Zc, Z9, Wc, chk1]; repeat' (first | exact trivial | refine Zz ?_ ?_ | exact .inr Yq | exact .inr Yx | exact .inr X9 | (refine .inr ?_; simp [compat, We, Wg, Va, nop, wH_len, wB_len, wC_len] <;> omega))) ?_)
     | refine gg ?_
     | refine Two.mk (fun hq => ?_) fun hq => ?_
     | (exfalso; omega)
    all_goals first | (exfalso; omega) | exact ⟨rfl, v.parts.length - (k + 1), by omega, k + 1, T ++ [.cells (vaX y)], hlt, rfl, by rw [hst, hFx, ← Z3, hcur, Z0, Y4 l, Y5 v, Y5 y, h1], e0, e4, e5, e17, e18, rfl⟩
  · obtain rfl : k = v.parts.length := by omega
    rw [List.take_of_length_le (by omega)]
    have F : _ ∧ _ ∧ _ ∧ _ ∧ _ ∧ _ ∧ _ ∧ _ := ⟨Y4 l, Y5 v, e0, e4, e5, e17, e18, e19⟩
    repeat' first
     | refine gg ?_
     | refine Two.mk (fun hq => ?_) fun hq => ?_
     | refine Evry.mk fun x hx => ?_
     | (exfalso; omega)
    exact ⟨by simp, endW (l2 := acc ++ (l.parts.zip v.parts).flatMap Fu) rfl rfl (by rw [Z0]) rfl ⟨rfl, rfl⟩⟩
def tkE (t : Tk) : List UInt8 := Xe t.process.toNat ++ Xe t.n.toNat
omit hG in
theorem ticks_fm : ∀ c : List Tk, Yh6 c = c.flatMap tkE
 | [] => rfl
 | t :: r => by rw [Yh6, ticks_fm r, Zp, tkE, Z3]
theorem write_9 (l : Lat) (v : Val) (h1 : l.kind = 9) (hok : ∀ e ∈ v.entries, Xm e.clock = true ∧ e.name.size ≤ 16) : Zi7 G l v := fun acc hb => by
 have hp : putV l v = Xe v.entries.length ++ v.entries.flatMap U8 := by cases l; simp only [Lat.kind] at h1; subst h1; exact putV_9 v
 rw [hp] at hb ⊢
 rw [Z0] at hb
 have hnl : v.entries.length ≤ 1000000 := by
  have : v.entries.length ≤ (v.entries.flatMap U8).length := by
   clear hb hp hok
   induction v.entries with
   | nil => simp
   | cons a t ih => rw [Zp, Z0, Z8]; have := entryE_pos a; omega
  omega
 have hw : IntKind.u64.wrap (v.entries.length : Int) = ((v.entries.length : Nat) : Int) := by rw [IntKind.wrap_u64]; omega
 refine Y6 Tryz.func99 rfl (Z1 rfl) hG fun hl0 _ => ?_
 simp only [Tryz.ntmps99]
 have F : _ ∧ _ ∧ _ ∧ _ := ⟨Y4 l, Y5 v, h1, hw⟩
 repeat' first
  | refine g0 ?_
  | (with_reducible refine Y7 ?_; refine gc rfl rfl rfl Je (Yr7 G hG acc (n := v.entries.length) (by omega) (by omega) rfl rfl) ?_)
 generalize hP : acc ++ Xe v.entries.length = P
 have hPl : P.length + (v.entries.flatMap U8).length ≤ 1000000 := by rw [← hP, Z0]; omega
 refine Yf (fun m e h' => ∃ (k : Nat) (T : List Ob), k ≤ v.entries.length ∧ m = v.entries.length - k ∧ h' = wC (P ++ (v.entries.take k).flatMap U8).length (byD (P ++ (v.entries.take k).flatMap U8)) (.cells (latX l)) (.cells (vaX v)) T ∧ e 0 = .ptr 0 0 ∧ e 4 = .ptr 2 0 ∧ e 5 = .ptr 3 0 ∧ e 108 = .sl 2 (v.entries.map enX) ∧ e 109 = .v (.int .i64 v.entries.length) ∧ e 110 = .v (.int .i64 k)) v.entries.length ⟨0, [], Z7 _, rfl, by rw [Y4 l, Y5 v, h1, Zq, Zn, Zd, ← hP, Z0], rfl, rfl, rfl, rfl, rfl, rfl⟩ ?_
 rintro m e h' ⟨k, T, hk, rfl, rfl, e0, e4, e5, e108, e109, e110⟩
 by_cases hlt : k < v.entries.length
 rotate_left
 · obtain rfl : k = v.entries.length := by omega
   rw [Y0]
   have F : _ ∧ _ ∧ _ ∧ _ ∧ _ ∧ _ ∧ _ ∧ _ := ⟨Y4 l, Y5 v, e0, e4, e5, e108, e109, e110⟩
   repeat' first
    | refine gg ?_
    | refine Two.mk (fun hq => ?_) fun hq => ?_
    | refine Evry.mk fun x hx => ?_
    | (exfalso; omega)
   exact ⟨by simp, endW (l2 := acc ++ (Xe v.entries.length ++ v.entries.flatMap U8)) rfl rfl (by rw [← Z3, hP, Z0]) (by rw [← Z3, hP]) ⟨rfl, rfl⟩⟩
 have hx : v.entries[k]? = some v.entries[k] := Z2 hlt
 obtain ⟨hcb, hns⟩ := hok _ (Z6 hlt)
 generalize v.entries[k] = x at hx hcb hns
 have hst := Yd8 U8 hx
 have hle := Yd7 U8 v.entries (k + 1)
 rw [hst, Z0] at hle
 have hcl64 := Zu4 hcb
 have hmem := fun t ht => Zr3 (-1) x.clock (by omega) hcb t ht
 have hEx : U8 x = Xe x.clock.length ++ (x.clock.flatMap tkE ++ Wm x.name) := by rw [← ticks_fm]; rfl
 generalize hcur : P ++ (v.entries.take k).flatMap U8 = cur
 have hcl : cur.length + (U8 x).length ≤ 1000000 := by rw [← hcur, Z0]; omega
 rw [hEx, Z0, Z0] at hcl
 have hwc : IntKind.u64.wrap (x.clock.length : Int) = ((x.clock.length : Nat) : Int) := by rw [IntKind.wrap_u64]; omega
 have wk : IntKind.i64.wrap ((k : Int) + 1) = ((k + 1 : Nat) : Int) := IntWalk.i64_in _ (by omega)
 have F : _ ∧ _ ∧ _ ∧ _ ∧ _ ∧ _ ∧ _ ∧ _ ∧ _ ∧ _ ∧ _ := ⟨Y4 l, Y5 v, e0, e4, e5, e108, e109, e110, h1, hwc, Vc⟩
 repeat' first
  | refine gg ?_
  | refine Two.mk (fun hq => ?_) fun hq => ?_
  | (with_reducible refine Y7 ?_; refine gc rfl rfl rfl Je (Yr7 G hG cur (n := x.clock.length) (by omega) (by omega) rfl rfl) ?_)
  | (exfalso; omega)
 generalize hQ : cur ++ Xe x.clock.length = Q
 have hQl : Q.length + ((x.clock.flatMap tkE).length + (Wm x.name).length) ≤ 1000000 := by rw [← hQ, Z0]; omega
 refine Yf (fun m e h' => ∃ (j : Nat) (U : List Ob), j ≤ x.clock.length ∧ m = x.clock.length - j ∧ h' = wC (Q ++ (x.clock.take j).flatMap tkE).length (byD (Q ++ (x.clock.take j).flatMap tkE)) (.cells (latX l)) (.cells (vaX v)) (T ++ .cells (enX x) :: U) ∧ e 0 = .ptr 0 0 ∧ e 4 = .ptr 2 0 ∧ e 5 = .ptr 3 0 ∧ e 9 = .ptr (T.length + 4) 0 ∧ e 108 = .sl 2 (v.entries.map enX) ∧ e 109 = .v (.int .i64 v.entries.length) ∧ e 110 = .v (.int .i64 k) ∧ e 121 = .sl 2 (x.clock.map tkX) ∧ e 122 = .v (.int .i64 x.clock.length) ∧ e 123 = .v (.int .i64 j)) x.clock.length ⟨0, [], Z7 _, rfl, by rw [Y4 l, Y5 v, Vc, h1, Zq, Zn, Zd, ← hQ, Z0], e0, e4, e5, rfl, e108, e109, e110, rfl, rfl, rfl⟩ ?_
 (try clear F); clear e0 e4 e5 e108 e109 e110 e
 rintro m e h' ⟨j, U, hj, rfl, rfl, e0, e4, e5, e9, e108, e109, e110, e121, e122, e123⟩
 have hlq := Yd7 tkE x.clock j
 by_cases hlj : j < x.clock.length
 rotate_left
 · obtain rfl : j = x.clock.length := by omega
   rw [Y0]
   generalize hR : Q ++ x.clock.flatMap tkE = R
   have hRl : R.length ≤ 1000000 := by rw [← hR, Z0]; omega
   have hfin : P ++ (v.entries.take (k + 1)).flatMap U8 = R ++ Wm x.name := by rw [hst, hEx, ← hR, ← hQ, ← hcur]; simp only [Z3]
   have F : _ ∧ _ ∧ _ ∧ _ ∧ _ ∧ _ ∧ _ ∧ _ ∧ _ ∧ _ ∧ _ ∧ _ ∧ _ ∧ _ ∧ _ := ⟨Y4 l, Y5 v, e0, e4, e5, e9, e108, e109, e110, e121, e122, e123, h1, wk, Vc⟩
   repeat' first
    | refine gg ?_
    | refine Two.mk (fun hq => ?_) fun hq => ?_
    | refine Evry.mk fun x hx => ?_
    | (with_reducible refine Y7 ?_; refine gc rfl rfl rfl Yq8 (cText G hG R (s := x.name) (by omega) (by omega) rfl) ?_)
    | (exfalso; omega)
   exact ⟨rfl, v.entries.length - (k + 1), by omega, k + 1, T ++ .cells (enX x) :: U, hlt, rfl, by rw [hfin, Z0, Y4 l, Y5 v, Vc, h1], e0, e4, e5, e108, e109, rfl⟩
 have hy : x.clock[j]? = some x.clock[j] := Z2 hlj
 obtain ⟨hy1, hy2⟩ := hmem _ (Z6 hlj)
 generalize x.clock[j] = t at hy hy1 hy2
 have hst2 := Yd8 tkE hy
 have wj : IntKind.i64.wrap ((j : Int) + 1) = ((j + 1 : Nat) : Int) := IntWalk.i64_in _ (by omega)
 have wp : IntKind.u64.wrap t.process = ((t.process.toNat : Nat) : Int) := by rw [IntKind.wrap_u64]; omega
 have wn : IntKind.u64.wrap t.n = ((t.n.toNat : Nat) : Int) := by rw [IntKind.wrap_u64]; omega
 generalize hR : Q ++ (x.clock.take j).flatMap tkE = R
 have hRl : R.length ≤ 1000000 := by rw [← hR, Z0]; omega
 have hfin : Q ++ (x.clock.take (j + 1)).flatMap tkE = R ++ (Xe t.process.toNat ++ Xe t.n.toNat) := by rw [hst2, ← hR, tkE]; simp only [Z3]
 have hu := (Zl7 t.process.toNat (by omega)).1
 have F : _ ∧ _ ∧ _ ∧ _ ∧ _ ∧ _ ∧ _ ∧ _ ∧ _ ∧ _ ∧ _ ∧ _ ∧ _ ∧ _ ∧ _ ∧ _ ∧ _ := ⟨Y4 l, Y5 v, e0, e4, e5, e9, e108, e109, e110, e121, e122, e123, h1, wj, wp, wn, Zo4⟩
 repeat' first
  | refine gg ?_
  | refine Two.mk (fun hq => ?_) fun hq => ?_
  | (with_reducible refine Y7 ?_; first | refine gc rfl rfl rfl Je (Yr7 G hG R (n := t.process.toNat) (by omega) (by omega) rfl rfl) ?_ | refine gc rfl rfl rfl Je (Yr7 G hG (R ++ Xe t.process.toNat) (n := t.n.toNat) (by omega) (by rw [Z0]; omega) (by simp) rfl) ?_)
  | (exfalso; omega)
 exact ⟨rfl, x.clock.length - (j + 1), by omega, j + 1, U ++ [.cells (tkX t)], hlj, rfl, by rw [hfin, Z0, Z0, Y4 l, Y5 v, Zo4, h1], e0, e4, e5, e9, e108, e109, e110, e121, e122, rfl⟩
end
section
section
variable {P : Program} {G : Nat → D} {n : Nat} {e : Nat → D} {h : List Ob}
theorem Sit_niltmp {B : Base} {a : Act} {w : World} (E k t : Nat) (ht : e t = .v (.slice none 0 0)) (r : Sit G B ⟨n, e, h⟩ a w) : Sit G B ⟨n, upd e t (.buf h.length 0), h ++ [.buf E k []]⟩ a w := by
 obtain ⟨hd, p, r⟩ := r
 obtain ⟨o, ev⟩ := Ok.grow (ob := .buf E k []) (u := .slice none 0 0) (w' := w) r.ok rfl rfl rfl (Nat.le_refl _) (fun _ _ => rfl) (fun b hb => by cases hb) (fun c s => ⟨[], World.ownsRow_nil _ _ _ _, by simp [rdL], fun row h => by simp at h, fun g h => by cases h⟩)
 refine ⟨_, _, o, r.evo.trans ev, fun t' => ?_, r.size, r.defers⟩
 have q := ev.rd r.ok (r.tmp t')
 show rd _ _ _ (upd e t (.buf h.length 0) t') _
 unfold upd
 by_cases hh : t' = t
 · subst hh
   rw [if_pos rfl]
   have ht : (⟨n, e, h⟩ : S).env t' = .v (.slice none 0 0) := ht
   rw [ht] at q
   exact Yb1 (E := E) (k := k) (by simp) (by rw [← r.ok.len]; simp) q
 · rw [if_neg hh]; exact q
theorem Vf {c : Code} {Q : Exit → S → Prop} (E k t : Nat) (ht : e t = .v (.slice none 0 0)) (q : aw P G c Q ⟨n, upd e t (.buf h.length 0), h ++ [.buf E k []]⟩) : aw P G c Q ⟨n, e, h⟩ := fun B a w r => q B a w (Sit_niltmp E k t ht r)
end
end
section
attribute [local irreducible] on aOp
attribute [local go_sem] decide_true decide_false Zy Zu
attribute [local simp] byD_len
variable (G : Nat → D) (hG : ∀ g, low 0 (G g))
include hG
attribute [local go_sem] Zo Zj Zk Zl Zx Zs Zf Zg Za Zb Zh
attribute [local go_sem ↓] reduceIte
theorem letter_d (c : Nat) (h : List Ob) : Does Z5 G 238 h [.v (.int .u8 c)] (fun h' r => h' = h ∧ r = .v (.bool (Zo0 c))) := by
 refine Y6 Tryz.func238 rfl (Z1 rfl) hG fun hl0 _ => ?_
 simp only [Tryz.ntmps238]
 repeat' first
  | refine gg ?_
  | refine Two.mk (fun hq => ?_) fun hq => ?_
  | (exfalso; omega)
 all_goals first
 | (exfalso; omega)
 | exact ⟨.inr rfl, endD (r := .v (.bool true)) hl0 rfl (by simp) (by simp) rfl (by rw [low]; trivial) ⟨rfl, by rw [show Zo0 c = true from decide_eq_true (by omega)]⟩⟩
 | exact ⟨.inr rfl, endD (r := .v (.bool false)) hl0 rfl (by simp) (by simp) rfl (by rw [low]; trivial) ⟨rfl, by rw [show Zo0 c = false from decide_eq_false (by omega)]⟩⟩
theorem sValid_d (s : ByteArray) (hs : s.size ≤ 9223372036854775807) (h : List Ob) : Does Z5 G 199 h [.v (.string s)] (fun h' r => h' = h ∧ r = .v (.bool (Wo s))) := by
 refine Y6 Tryz.func199 rfl (Z1 rfl) hG fun hl0 _ => ?_
 simp only [Tryz.ntmps199]
 by_cases hsz : 1 ≤ s.size ∧ s.size ≤ 16
 rotate_left
 · have e1 := Zj7 (s := s) (fun h => hsz h.1)
   repeat' first
    | refine gg ?_
    | refine Two.mk (fun hq => ?_) fun hq => ?_
    | (exfalso; omega)
   all_goals exact ⟨.inr rfl, endD (r := .v (.bool false)) hl0 rfl (by simp) (by simp) rfl (by rw [low]; trivial) ⟨rfl, by rw [e1]⟩⟩
 obtain ⟨b0, hb0⟩ : ∃ b, s.data[0]? = some b := ⟨s.data[0]'(by show 0 < s.size; omega), Zw _⟩
 have g0 := Yd6 hb0
 by_cases hb : 97 ≤ b0.toNat ∧ b0.toNat ≤ 122
 rotate_left
 · have e1 := Zj7 (s := s) (fun h => hb (by rw [← g0]; exact h.2))
   repeat' first
    | (with_reducible refine Y7 ?_; (refine ao1 rfl rfl fun K HK => ?_; simp only [go_sem]; refine Ul (by simp only [go_sem]) hb0 (by first | rfl | omega) ?_; refine HK _ _ ?_; clear HK K))
    | refine gg ?_
    | refine Two.mk (fun hq => ?_) fun hq => ?_
    | (exfalso; omega)
   all_goals first | (exfalso; omega) | exact ⟨.inr rfl, endD (r := .v (.bool false)) hl0 rfl (by simp) (by simp) rfl (by rw [low]; trivial) ⟨rfl, by rw [e1]⟩⟩
 have e1 := Yc4 (s := s) ⟨hsz, by rw [g0]; exact hb⟩
 repeat' first
  | (with_reducible refine Y7 ?_; (refine ao1 rfl rfl fun K HK => ?_; simp only [go_sem]; refine Ul (by simp only [go_sem]) hb0 (by first | rfl | omega) ?_; refine HK _ _ ?_; clear HK K))
  | refine gg ?_
  | refine Two.mk (fun hq => ?_) fun hq => ?_
  | (exfalso; omega)
 all_goals try (exfalso; omega)
 refine Yf (fun m e h' => ∃ k : Nat, k ≤ s.size ∧ m = s.size - k ∧ Wo s = (s.data.toList.drop k).all (fun c => Zo0 c.toNat) ∧ h' = h ∧ e 0 = .v (.string s) ∧ e 3 = .v (.int .i64 k)) s.size ⟨0, Z7 _, rfl, e1, rfl, rfl, rfl⟩ ?_
 rintro m e h' ⟨k, hk, rfl, ho, rfl, e0, e3⟩
 by_cases hlt : k < s.size
 · obtain ⟨c, hc⟩ : ∃ b, s.data[k]? = some b := ⟨s.data[k]'hlt, Zw _⟩
   have wk : IntKind.i64.wrap ((k : Int) + 1) = (k : Int) + 1 := IntWalk.i64_in _ (by omega)
   have hlet := letter_d G hG c.toNat
   rw [Yp9 hc, List.all_cons] at ho
   generalize Zo0 c.toNat = wb at hlet ho
   cases wb
   all_goals
    have F : _ ∧ _ ∧ _ := ⟨e0, e3, wk⟩
    repeat' first
     | (with_reducible refine Y7 ?_; (refine ao1 rfl rfl fun K HK => ?_; simp only [go_sem, F]; refine Ul (by simp only [go_sem, F]) hc (by first | rfl | omega) ?_; refine HK _ _ ?_; clear HK K))
     | refine gg ?_
     | refine Two.mk (fun hq => ?_) fun hq => ?_
     | (with_reducible refine Y7 ?_; refine gc rfl rfl rfl ent_238 (hlet _) ?_)
     | (exfalso; omega)
    first
    | exact ⟨rfl, s.size - (k + 1), by omega, k + 1, hlt, rfl, by rw [ho]; rfl, rfl, e0, rfl⟩
    | exact ⟨.inr rfl, endD (r := .v (.bool false)) hl0 rfl (by simp) (by simp) rfl (by rw [low]; trivial) ⟨rfl, by rw [ho]; rfl⟩⟩
 · skip
   have F : _ ∧ _ := ⟨e0, e3⟩
   repeat' first
    | refine gg ?_
    | refine Two.mk (fun hq => ?_) fun hq => ?_
    | (exfalso; omega)
   exact ⟨.inr rfl, endD (r := .v (.bool true)) hl0 rfl (by simp) (by simp) rfl (by rw [low]; trivial) ⟨rfl, by rw [ho, List.drop_eq_nil_of_le (by show s.data.toList.length ≤ k; rw [Array.length_toList]; show s.size ≤ k; omega)]; rfl⟩⟩
theorem sHas_d (l : List ByteArray) (a : ByteArray) (hl : l.length ≤ 9223372036854775807) (h : List Ob) : Does Z5 G 110 h [.sl 1 (l.map strX), .v (.string a)] (fun h' r => h' = h ∧ r = .v (.bool (hasS l a))) := by
 refine Y6 Tryz.func110 rfl (Z1 rfl) hG fun hl0 _ => ?_
 simp only [Tryz.ntmps110]
 repeat' first
  | refine g0 ?_
  | fail
 refine Yf (fun m e h' => ∃ k : Nat, k ≤ l.length ∧ m = l.length - k ∧ hasS l a = hasS (l.drop k) a ∧ h' = h ∧ e 0 = .sl 1 (l.map strX) ∧ e 1 = .v (.string a) ∧ e 5 = .v (.int .i64 k)) l.length ⟨0, Z7 _, rfl, rfl, rfl, rfl, rfl, rfl⟩ ?_
 rintro m e h' ⟨k, hk, rfl, ho, rfl, e0, e1, e5⟩
 by_cases hlt : k < l.length
 · have hx : l[k]? = some l[k] := Z2 hlt
   have hd : l.drop k = l[k] :: l.drop (k + 1) := Z4 hlt
   generalize l[k] = x at hx hd
   have wk : IntKind.i64.wrap ((k : Int) + 1) = (k : Int) + 1 := IntWalk.i64_in _ (by omega)
   rw [hd, hasS] at ho
   have F : _ ∧ _ ∧ _ ∧ _ ∧ _ := ⟨e0, e1, e5, Xt, wk⟩
   repeat' first
    | refine gg ?_
    | refine Two.mk (fun hq => ?_) fun hq => ?_
    | (exfalso; omega)
   · exact ⟨.inr rfl, endV hl0 rfl rfl ⟨rfl, by rw [ho, decide_eq_true hq]; rfl⟩⟩
   · exact ⟨rfl, l.length - (k + 1), by omega, k + 1, hlt, rfl, by rw [ho, decide_eq_false hq]; rfl, rfl, e0, e1, rfl⟩
 · skip
   have F : _ ∧ _ ∧ _ := ⟨e0, e1, e5⟩
   repeat' first
    | refine gg ?_
    | refine Two.mk (fun hq => ?_) fun hq => ?_
    | refine Evry.mk fun x hx => ?_
    | (exfalso; omega)
   exact ⟨by simp, endV hl0 rfl rfl ⟨rfl, by rw [ho, List.drop_eq_nil_of_le (by omega)]; rfl⟩⟩
end
section
attribute [local irreducible] on aOp
attribute [local go_sem] decide_true decide_false Zy Zu
attribute [local simp] byD_len
inductive Sm : Lat → Prop
 | mk (l : Lat) (h1 : l.names.length ≤ 9223372036854775807) (h2 : l.parts.length ≤ 9223372036854775807) (h3 : l.rules.length ≤ 9223372036854775807) (h4 : ∀ s ∈ l.names, s.size ≤ 9223372036854775807) (h5 : ∀ r ∈ l.rules, r.cond.length ≤ 9223372036854775807 ∧ ∀ s ∈ r.cond, s.size ≤ 9223372036854775807) (h6 : ∀ p ∈ l.parts, Sm p) : Sm l
theorem Sm.names {l : Lat} (h : Sm l) : l.names.length ≤ 9223372036854775807 := by cases h; assumption
theorem Sm.parts {l : Lat} (h : Sm l) : l.parts.length ≤ 9223372036854775807 := by cases h; assumption
theorem Sm.rules {l : Lat} (h : Sm l) : l.rules.length ≤ 9223372036854775807 := by cases h; assumption
theorem Sm.texts {l : Lat} (h : Sm l) : ∀ s ∈ l.names, s.size ≤ 9223372036854775807 := by cases h; assumption
theorem Sm.conds {l : Lat} (h : Sm l) : ∀ r ∈ l.rules, r.cond.length ≤ 9223372036854775807 ∧ ∀ s ∈ r.cond, s.size ≤ 9223372036854775807 := by cases h; assumption
theorem Sm.part {l : Lat} (h : Sm l) : ∀ p ∈ l.parts, Sm p := by cases h; assumption
theorem Xy (m : Nat) (l : Lat) : lowL m [.agg (latX l)] := by rw [lowL, lowL, low]; exact ⟨Yy m l, trivial⟩
theorem chain_no {l : Lat} (h : ¬ (l.kind = 1 ∨ l.kind = 2 ∨ l.kind = 3)) (h7 : l.kind ≠ 7 ∨ l.parts.length ≠ 2) : Wh l = false := by
 rw [Zi6, decide_eq_false h]
 rcases h7 with h7 | h7
 · rw [decide_eq_false h7]; rfl
 · rw [decide_eq_false h7, Bool.and_false]; rfl
theorem chain_two {l a b : Lat} (h : ¬ (l.kind = 1 ∨ l.kind = 2 ∨ l.kind = 3)) (h7 : l.kind = 7) (hp : l.parts = [a, b]) : Wh l = (Wh a && Wh b) := by
 rw [Zi6, decide_eq_false h, decide_eq_true h7, hp]; simp
variable (G : Nat → D) (hG : ∀ g, low 0 (G g))
include hG
attribute [local go_sem] Zo Zj Zk Zl Int.toNat_one Int.toNat_zero Zs Zf Zg Za Zb Zh Zq3 Yd0
attribute [local go_sem ↓] reduceIte
theorem rChain_d (n : Nat) : ∀ (l : Lat), SizeOf.sizeOf l ≤ n → Sm l → ∀ (h : List Ob), Does Z5 G 198 h [.agg (latX l)] (fun h' r => h' = h ∧ r = .v (.bool (Wh l))) := by
 induction n with
 | zero => intro l hn; cases l; simp at hn
 | succ n ih =>
 intro l hn hsm h
 refine Y9 G hG (Xy _ l) (by rw [low]; trivial) ?_ h
 clear h
 have hpl := hsm.parts
 have hpp : ∀ p ∈ l.parts, ∀ (b : Bool), Wh p = b → ∀ (h : List Ob), Does Z5 G 198 h [.agg (latX p)] (fun h' r => h' = h ∧ r = .v (.bool b)) := fun p hp b hb h => hb ▸ ih p (by have := Yz hp; omega) (hsm.part p hp) h
 generalize hkk : l.kind = k
 by_cases h123 : k = 1 ∨ k = 2 ∨ k = 3
 · have e1 : Wh l = true := by rw [Zi6, hkk, decide_eq_true h123]; rfl
   rw [e1]
   refine Y6 Tryz.func198 rfl (Z1 rfl) hG fun hl0 _ => ?_
   simp only [Tryz.ntmps198]
   have F : _ ∧ _ := ⟨Y4, hkk⟩
   repeat' first
    | refine gg ?_
    | refine Two.mk (fun hq => ?_) fun hq => ?_
    | (exfalso; omega)
   all_goals first | (exfalso; omega) | exact ⟨.inr rfl, endD (r := .v (.bool true)) hl0 rfl (by simp) (by simp) rfl (by rw [low]; trivial) ⟨rfl, rfl⟩⟩
 by_cases h7 : k = 7 ∧ l.parts.length = 2
 rotate_left
 · have e1 : Wh l = false := chain_no (by rw [hkk]; exact h123) (by rw [hkk]; omega)
   rw [e1]
   refine Y6 Tryz.func198 rfl (Z1 rfl) hG fun hl0 _ => ?_
   simp only [Tryz.ntmps198]
   have F : _ ∧ _ := ⟨Y4, hkk⟩
   repeat' first
    | refine gg ?_
    | refine Two.mk (fun hq => ?_) fun hq => ?_
    | (exfalso; omega)
   all_goals first | (exfalso; omega) | exact ⟨.inr rfl, endD (r := .v (.bool false)) hl0 rfl (by simp) (by simp) rfl (by rw [low]; trivial) ⟨rfl, rfl⟩⟩
 obtain ⟨rfl, h2⟩ := h7
 obtain ⟨a, b, hab⟩ : ∃ a b, l.parts = [a, b] := by
  match hm : l.parts, h2 with
  | [a, b], _ => exact ⟨a, b, rfl⟩
 rw [chain_two (by rw [hkk]; exact h123) hkk hab]
 have ha := hpp a (by rw [hab]; simp)
 have hb := hpp b (by rw [hab]; simp)
 have hx0 : l.parts[0]? = some a := by rw [hab]; rfl
 have hx1 : l.parts[1]? = some b := by rw [hab]; rfl
 clear hab
 refine Y6 Tryz.func198 rfl (Z1 rfl) hG fun hl0 _ => ?_
 simp only [Tryz.ntmps198]
 cases hca : Wh a
 · skip
   have F : _ ∧ _ ∧ _ := ⟨Y4 l, hkk, h2⟩
   repeat' first
    | refine gg ?_
    | refine Two.mk (fun hq => ?_) fun hq => ?_
    | (with_reducible refine Y7 ?_; refine gc rfl rfl rfl Yq3 (ha _ hca _) ?_)
    | (exfalso; omega)
   all_goals first | (exfalso; omega) | exact ⟨.inr rfl, endD (r := .v (.bool false)) hl0 rfl (by simp) (by simp) rfl (by rw [low]; trivial) ⟨rfl, by rfl⟩⟩
 · cases hcb : Wh b
   all_goals
    skip
    have F : _ ∧ _ ∧ _ := ⟨Y4 l, hkk, h2⟩
    repeat' first
     | refine gg ?_
     | refine Two.mk (fun hq => ?_) fun hq => ?_
     | (with_reducible refine Y7 ?_; first | refine gc rfl rfl rfl Yq3 (ha _ hca _) ?_ | refine gc rfl rfl rfl Yq3 (hb _ hcb _) ?_)
     | (exfalso; omega)
   all_goals first | (exfalso; omega) | exact ⟨.inr rfl, endV hl0 rfl rfl ⟨rfl, by rfl⟩⟩
end
end Go.Proofs.YtbhkcbidcfofiaaGreat
