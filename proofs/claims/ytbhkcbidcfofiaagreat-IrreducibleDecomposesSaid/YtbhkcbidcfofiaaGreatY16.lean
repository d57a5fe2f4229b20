/-
  What the statements of the chapter share, part 16: LB1, CL0, CL2, OF0, OF2, BO, SHS, RR0, AL, AR, AL2, AL3, RV2, LA3, VA2, RV3.
-/
import Derived.Test.YtbhkcbidcfofiaaGreatY07
import Derived.Test.YtbhkcbidcfofiaaGreatY10
import Derived.Test.YtbhkcbidcfofiaaGreatY11
import Derived.Test.YtbhkcbidcfofiaaGreatY14
import Derived.Test.YtbhkcbidcfofiaaGreatY15
import Derived.Laws.CopyRow
set_option linter.unusedVariables false
set_option linter.unusedSimpArgs false
set_option maxRecDepth 100000
set_option maxHeartbeats 8000000
namespace Go.Proofs.YtbhkcbidcfofiaaGreat
open _root_.Array renaming getElem?_eq_getElem → Zo
open _root_.Bool renaming false_eq_true → Z9, not_false → Ze, not_true → Zh, eq_iff_iff → Zt, true_and → Zv
open _root_.Int renaming toNat_natCast → Z8, reduceEq → Zl, reduceLE → Zm, reduceLT → Zn
open _root_.List renaming getElem?_eq_getElem → Z1, drop_eq_nil_of_le → Z2, drop_eq_getElem_cons → Z4, length_map → Z5, getElem?_eq_some_iff → Z7, all_cons → Zc, getElem?_take_of_lt → Zd, take_of_length_le → Zf, getElem_mem → Zg, pairwise_iff_getElem → Zp, getElem?_map → Zr, length_take → Zs, replicate → Zu, map_cons → Zw
open _root_.Nat renaming le_of_ble_eq_true → Z0, zero_le → Z6, reduceEqDiff → Za, reduceLeDiff → Zb, reduceAdd → Zi, reduceBEq → Zj, reduceMul → Zk, le_refl → Zq
open _root_.Go.Proofs.Tryz renaming prog → Z3
open Go.RowKit
section
attribute [local irreducible] on aOp
attribute [local go_sem] decide_true decide_false Zh Ze
attribute [local simp] byD_len
def idxS (a : ByteArray) : List ByteArray → Nat → Int
 | [], _ => -1
 | x :: t, k => if a = x then k else idxS a t (k + 1)
theorem idxS_ge (a : ByteArray) : ∀ (l : List ByteArray) (k : Nat), decide (0 ≤ idxS a l k) = hasS l a
 | [], k => by simp [idxS, hasS]
 | x :: t, k => by
  have ih := idxS_ge a t (k + 1)
  by_cases h : a = x
  · simp [idxS, hasS, h]
  · rw [idxS, if_neg h, ih, hasS, decide_eq_false (fun q => h q.symm), Bool.false_or]
theorem Zv1 : ∀ l : List ByteArray, l.length ≤ 1 → Wd l = true
 | [], _ => rfl
 | [_], _ => rfl
 | _ :: _ :: _, h => by simp at h
variable (G : Nat → D) (hG : ∀ g, low 0 (G g))
include hG
attribute [local go_sem] Z9 Zl Zm Zn Z8 Z5 Zi Zj Za Zb Zk Xt
attribute [local go_sem ↓] reduceIte
theorem wordByte_d (c : Int) (h : List Ob) : Does Z3 G 244 h [.v (.int .u8 c)] (fun h' r => h' = h ∧ r = .v (.bool (Zo0 c))) := by
 unfold Zo0
 refine Y6 Tryz.func244 rfl (Z0 rfl) hG fun hl0 _ => ?_
 simp only [Tryz.ntmps244]
 repeat' first
  | refine gg ?_
  | refine Two.mk (fun hq => ?_) fun hq => ?_
  | (exfalso; omega)
 all_goals first | (exfalso; omega) | refine ⟨.inr rfl, endV hl0 rfl rfl ⟨rfl, congrArg (fun b => D.v (.bool b)) ?_⟩⟩
 all_goals (clear hl0; rw [Zt]; simp; omega)
theorem Zm8 (s : ByteArray) (hs : s.size ≤ 9223372036854775807) (h : List Ob) : Does Z3 G 217 h [.v (.string s)] (fun h' r => h' = h ∧ r = .v (.bool (Wo s))) := by
 refine Y6 Tryz.func217 rfl (Z0 rfl) hG fun hl0 _ => ?_
 simp only [Tryz.ntmps217]
 by_cases hsz : 1 ≤ s.size ∧ s.size ≤ 16
 rotate_left
 · have e1 := Zj7 (s := s) (fun h => hsz h.1)
   repeat' first
    | refine gg ?_
    | refine Two.mk (fun hq => ?_) fun hq => ?_
    | (exfalso; omega)
   all_goals first | (exfalso; omega) | exact ⟨.inr rfl, endD (r := .v (.bool false)) hl0 rfl (by simp) (by simp) rfl (by rw [low]; trivial) ⟨rfl, by rw [e1]⟩⟩
 obtain ⟨b0, hb0⟩ : ∃ b, s.data[0]? = some b := ⟨s.data[0]'(by show 0 < s.size; omega), Zo _⟩
 have g0 := Yd6 hb0
 by_cases hb : 97 ≤ b0.toNat ∧ b0.toNat ≤ 122
 rotate_left
 · have e1 := Zj7 (s := s) (fun h => hb (by rw [← g0]; exact h.2))
   repeat' first
    | (with_reducible refine Y7 ?_; (refine ao1 rfl rfl fun K HK => ?_; simp only [go_sem]; refine Ul (by simp only [go_sem]) hb0 (by first | rfl | omega) ?_; refine HK _ _ ?_; clear HK K))
    | refine gg ?_
    | refine Two.mk (fun hq => ?_) fun hq => ?_
    | (exfalso; omega)
   all_goals first | (exfalso; omega) | exact ⟨.inr rfl, endD (r := .v (.bool false)) hl0 rfl (by simp) (by simp) rfl (by rw [low]; trivial) ⟨rfl, by rw [e1]⟩⟩
 have e1 := Yc4 (s := s) ⟨hsz, by rw [g0]; exact hb⟩
 repeat' first
  | (with_reducible refine Y7 ?_; (refine ao1 rfl rfl fun K HK => ?_; simp only [go_sem]; refine Ul (by simp only [go_sem]) hb0 (by first | rfl | omega) ?_; refine HK _ _ ?_; clear HK K))
  | refine gg ?_
  | refine Two.mk (fun hq => ?_) fun hq => ?_
  | (exfalso; omega)
 all_goals try (exfalso; omega)
 refine Yf (fun m e h' => ∃ k : Nat, k ≤ s.size ∧ m = s.size - k ∧ Wo s = (s.data.toList.drop k).all (fun c => Zo0 c.toNat) ∧ h' = h ∧ e 0 = .v (.string s) ∧ e 23 = .v (.int .i64 s.size) ∧ e 24 = .v (.int .i64 k)) s.size ⟨0, Z6 _, rfl, e1, rfl, rfl, rfl, rfl⟩ ?_
 rintro m e h' ⟨k, hk, rfl, ho, rfl, e0, e23, e24⟩
 by_cases hlt : k < s.size
 · obtain ⟨c, hc⟩ : ∃ b, s.data[k]? = some b := ⟨s.data[k]'hlt, Zo _⟩
   have wk : IntKind.i64.wrap ((k : Int) + 1) = (k : Int) + 1 := IntWalk.i64_in _ (by omega)
   rw [Yp9 hc, Zc] at ho
   have hw := wordByte_d G hG (c.toNat : Int)
   cases hwb : Zo0 c.toNat <;> rw [hwb] at hw ho
   · skip
     have F : _ ∧ _ ∧ _ ∧ _ := ⟨e0, e23, e24, wk⟩
     repeat' first
      | (with_reducible refine Y7 ?_; (refine ao1 rfl rfl fun K HK => ?_; simp only [go_sem, F]; refine Ul (by simp only [go_sem, F]) hc (by first | rfl | omega) ?_; refine HK _ _ ?_; clear HK K))
      | refine gg ?_
      | refine Two.mk (fun hq => ?_) fun hq => ?_
      | (with_reducible refine Y7 ?_; refine gc rfl rfl rfl ent_244 (hw _) ?_)
      | (exfalso; omega)
     exact ⟨.inr rfl, endD (r := .v (.bool false)) hl0 rfl (by simp) (by simp) rfl (by rw [low]; trivial) ⟨rfl, by rw [ho]; rfl⟩⟩
   · skip
     have F : _ ∧ _ ∧ _ ∧ _ := ⟨e0, e23, e24, wk⟩
     repeat' first
      | (with_reducible refine Y7 ?_; (refine ao1 rfl rfl fun K HK => ?_; simp only [go_sem, F]; refine Ul (by simp only [go_sem, F]) hc (by first | rfl | omega) ?_; refine HK _ _ ?_; clear HK K))
      | refine gg ?_
      | refine Two.mk (fun hq => ?_) fun hq => ?_
      | (with_reducible refine Y7 ?_; refine gc rfl rfl rfl ent_244 (hw _) ?_)
      | (exfalso; omega)
     exact ⟨rfl, s.size - (k + 1), by omega, k + 1, hlt, rfl, by rw [ho]; rfl, rfl, e0, e23, rfl⟩
 · skip
   have F : _ ∧ _ ∧ _ := ⟨e0, e23, e24⟩
   repeat' first
    | refine gg ?_
    | refine Two.mk (fun hq => ?_) fun hq => ?_
    | (exfalso; omega)
   exact ⟨.inr rfl, endD (r := .v (.bool true)) hl0 rfl (by simp) (by simp) rfl (by rw [low]; trivial) ⟨rfl, by rw [ho, Z2 (by show s.data.toList.length ≤ k; rw [Array.length_toList]; show s.size ≤ k; omega)]; rfl⟩⟩
theorem idxS_d (l : List ByteArray) (a : ByteArray) (hl : l.length ≤ 9223372036854775807) (h : List Ob) : Does Z3 G 124 h [.sl 1 (l.map strX), .v (.string a)] (fun h' r => h' = h ∧ r = .v (.int .i64 (idxS a l 0))) := by
 refine Y6 Tryz.func124 rfl (Z0 rfl) hG fun hl0 _ => ?_
 simp only [Tryz.ntmps124]
 repeat' first
  | refine g0 ?_
  | fail
 refine Yf (fun m e h' => ∃ k : Nat, k ≤ l.length ∧ m = l.length - k ∧ idxS a l 0 = idxS a (l.drop k) k ∧ h' = h ∧ e 0 = .sl 1 (l.map strX) ∧ e 1 = .v (.string a) ∧ e 7 = .v (.int .i64 l.length) ∧ e 8 = .v (.int .i64 k)) l.length ⟨0, Z6 _, rfl, rfl, rfl, rfl, rfl, rfl, rfl⟩ ?_
 rintro m e h' ⟨k, hk, rfl, ho, rfl, e0, e1, e7, e8⟩
 by_cases hlt : k < l.length
 · have hx : l[k]? = some l[k] := Z1 hlt
   have hd : l.drop k = l[k] :: l.drop (k + 1) := Z4 hlt
   generalize l[k] = x at hx hd
   have wk : IntKind.i64.wrap ((k : Int) + 1) = (k : Int) + 1 := IntWalk.i64_in _ (by omega)
   rw [hd, idxS] at ho
   have F : _ ∧ _ ∧ _ ∧ _ ∧ _ := ⟨e0, e1, e7, e8, wk⟩
   repeat' first
    | refine gg ?_
    | refine Two.mk (fun hq => ?_) fun hq => ?_
    | (exfalso; omega)
   · exact ⟨.inr rfl, endV hl0 rfl rfl ⟨rfl, by rw [ho, if_pos hq]⟩⟩
   · exact ⟨rfl, l.length - (k + 1), by omega, k + 1, hlt, rfl, by rw [ho, if_neg hq], rfl, e0, e1, e7, rfl⟩
 · skip
   have F : _ ∧ _ ∧ _ ∧ _ := ⟨e0, e1, e7, e8⟩
   repeat' first
    | refine gg ?_
    | refine Two.mk (fun hq => ?_) fun hq => ?_
    | refine Evry.mk fun x hx => ?_
    | (exfalso; omega)
   exact ⟨by simp, endV hl0 rfl rfl ⟨rfl, by rw [ho, Z2 (by omega)]; rfl⟩⟩
theorem Yr2 (l : List ByteArray) (a : ByteArray) (hl : l.length ≤ 9223372036854775807) (h : List Ob) : Does Z3 G 101 h [.sl 1 (l.map strX), .v (.string a)] (fun h' r => h' = h ∧ r = .v (.bool (hasS l a))) := by
 rw [← idxS_ge a l 0]
 have hi := idxS_d G hG l a hl
 generalize idxS a l 0 = i at *
 refine Y6 Tryz.func101 rfl (Z0 rfl) hG fun hl0 _ => ?_
 simp only [Tryz.ntmps101]
 repeat' first
  | refine gg ?_
  | refine Two.mk (fun hq => ?_) fun hq => ?_
  | (with_reducible refine Y7 ?_; refine gc rfl rfl rfl ent_124 (hi _) ?_)
 all_goals exact ⟨.inr rfl, endV hl0 rfl rfl ⟨rfl, by first | rw [decide_eq_true hq] | rw [decide_eq_false hq]⟩⟩
theorem hasS_d (l : List ByteArray) (a : ByteArray) (hl : l.length ≤ 9223372036854775807) (h : List Ob) : Does Z3 G 183 h [.sl 1 (l.map strX), .v (.string a)] (fun h' r => h' = h ∧ r = .v (.bool (hasS l a))) := by
 refine Y6 Tryz.func183 rfl (Z0 rfl) hG fun hl0 _ => ?_
 simp only [Tryz.ntmps183]
 repeat' first
  | refine g0 ?_
  | (with_reducible refine Y7 ?_; refine gc rfl rfl rfl Ye6 (Yr2 G hG l a hl _) ?_)
 exact ⟨.inr rfl, endV hl0 rfl rfl ⟨rfl, rfl⟩⟩
theorem Ya5 (l : List ByteArray) (hl : l.length ≤ 9223372036854775807) (h : List Ob) : Does Z3 G 216 h [.sl 1 (l.map strX)] (fun h' r => h' = h ∧ r = .v (.bool (Wd l))) := by
 by_cases hsh : l.length ≤ 1
 · rw [Zv1 l hsh]
   refine Y6 Tryz.func216 rfl (Z0 rfl) hG fun hl0 _ => ?_
   simp only [Tryz.ntmps216]
   repeat' first
    | refine g0 ?_
    | fail
   refine Yf (fun m e h' => h' = h ∧ e 0 = .sl 1 (l.map strX) ∧ e 3 = .v (.int .i64 1)) l.length ⟨rfl, rfl, rfl⟩ ?_
   rintro m e h' ⟨rfl, e0, e3⟩
   have F : _ ∧ _ := ⟨e0, e3⟩
   repeat' first
    | (with_reducible refine Ya ?_; refine Y8 mixd (by kernel_rfl) ?_)
    | refine gg ?_
    | refine Two.mk (fun hq => ?_) fun hq => ?_
    | refine Evry.mk fun x hx => ?_
    | (exfalso; omega)
   all_goals first | (exfalso; omega) | exact ⟨.inr rfl, endV hl0 rfl rfl ⟨rfl, rfl⟩⟩
 obtain ⟨x0, t, rfl⟩ : ∃ x t, l = x :: t := by
  cases l with
  | nil => simp at hsh
  | cons x t => exact ⟨x, t, rfl⟩
 generalize hll : x0 :: t = l at *
 have h0 : Wd l = Xk (l[0]'(by omega)) (l.drop 1) := by subst hll; rfl
 refine Y6 Tryz.func216 rfl (Z0 rfl) hG fun hl0 _ => ?_
 simp only [Tryz.ntmps216]
 repeat' first
  | refine g0 ?_
  | fail
 refine Yf (fun m e h' => ∃ (k : Nat) (hk : k < l.length), m = l.length - k ∧ Wd l = Xk l[k] (l.drop (k + 1)) ∧ h' = h ∧ e 0 = .sl 1 (l.map strX) ∧ e 3 = .v (.int .i64 ((k : Int) + 1))) l.length ⟨0, by omega, rfl, h0, rfl, rfl, rfl⟩ ?_
 rintro m e h' ⟨k, hk, rfl, ho, rfl, e0, e3⟩
 by_cases hlt : k + 1 < l.length
 · have hx : l[k]? = some l[k] := Z1 (by omega)
   have hy : l[k + 1]? = some l[k + 1] := Z1 hlt
   rw [Ya2 l k hlt] at ho
   have wk : IntKind.i64.wrap ((k : Int) + 1 + 1) = (k : Int) + 1 + 1 := IntWalk.i64_in _ (by omega)
   have wm : IntKind.i64.wrap ((k : Int) + 1 - 1) = (k : Int) := by rw [show (k : Int) + 1 - 1 = (k : Int) by omega]; exact IntWalk.i64_in _ (by omega)
   have tk : ((k : Int) + 1).toNat = k + 1 := by omega
   unfold J0 at ho
   cases hlt2 : Op.bytesLess l[k].toList l[k + 1].toList
   · generalize l[k] = x at *
     generalize l[k + 1] = y at *
     have F : _ ∧ _ ∧ _ ∧ _ ∧ _ ∧ _ := ⟨e0, e3, wk, wm, tk, hlt2⟩
     repeat' first
      | (with_reducible refine Ya ?_; refine Y8 mixd (by kernel_rfl) ?_)
      | refine gg ?_
      | refine Two.mk (fun hq => ?_) fun hq => ?_
      | (exfalso; omega)
     exact ⟨by simp, endV hl0 rfl rfl ⟨rfl, by rw [ho, hlt2]; rfl⟩⟩
   · rw [hlt2, Zv] at ho
     generalize l[k] = x at *
     have hy' := hy
     generalize hyl : l[k + 1] = y at hy hlt2
     have F : _ ∧ _ ∧ _ ∧ _ ∧ _ ∧ _ := ⟨e0, e3, wk, wm, tk, hlt2⟩
     repeat' first
      | (with_reducible refine Ya ?_; refine Y8 mixd (by kernel_rfl) ?_)
      | refine gg ?_
      | refine Two.mk (fun hq => ?_) fun hq => ?_
      | (exfalso; omega)
     exact ⟨rfl, l.length - (k + 1), by omega, k + 1, hlt, rfl, ho, rfl, e0, rfl⟩
 · skip
   have F : _ ∧ _ := ⟨e0, e3⟩
   repeat' first
    | (with_reducible refine Ya ?_; refine Y8 mixd (by kernel_rfl) ?_)
    | refine gg ?_
    | refine Two.mk (fun hq => ?_) fun hq => ?_
    | refine Evry.mk fun x hx => ?_
    | (exfalso; omega)
   exact ⟨by simp, endV hl0 rfl rfl ⟨rfl, by rw [ho, Z2 (by omega)]; rfl⟩⟩
theorem Ya0 (a b : List ByteArray) (ha : a.length ≤ 9223372036854775807) (hb : b.length ≤ 9223372036854775807) (h : List Ob) : Does Z3 G 123 h [.sl 1 (a.map strX), .sl 1 (b.map strX)] (fun h' r => h' = h ∧ r = .v (.bool (Xo a b))) := by
 refine Y6 Tryz.func123 rfl (Z0 rfl) hG fun hl0 _ => ?_
 simp only [Tryz.ntmps123]
 repeat' first
  | refine g0 ?_
  | fail
 refine Yf (fun m e h' => ∃ k : Nat, k ≤ a.length ∧ m = a.length - k ∧ Xo a b = Xo (a.drop k) b ∧ h' = h ∧ e 1 = .sl 1 (b.map strX) ∧ e 7 = .sl 1 (a.map strX) ∧ e 8 = .v (.int .i64 a.length) ∧ e 9 = .v (.int .i64 k)) a.length ⟨0, Z6 _, rfl, rfl, rfl, rfl, rfl, rfl, rfl⟩ ?_
 rintro m e h' ⟨k, hk, rfl, ho, rfl, e1, e7, e8, e9⟩
 by_cases hlt : k < a.length
 · have hx : a[k]? = some a[k] := Z1 hlt
   have hd : a.drop k = a[k] :: a.drop (k + 1) := Z4 hlt
   generalize a[k] = x at hx hd
   have wk : IntKind.i64.wrap ((k : Int) + 1) = (k : Int) + 1 := IntWalk.i64_in _ (by omega)
   have hh := hasS_d G hG b x hb
   have ho : Xo a b = (hasS b x && Xo (a.drop (k + 1)) b) := by rw [ho, hd]; rfl
   cases hxb : hasS b x <;> rw [hxb] at hh ho
   · skip
     have F : _ ∧ _ ∧ _ ∧ _ ∧ _ := ⟨e1, e7, e8, e9, wk⟩
     repeat' first
      | refine gg ?_
      | refine Two.mk (fun hq => ?_) fun hq => ?_
      | (with_reducible refine Y7 ?_; refine gc rfl rfl rfl Zh8 (hh _) ?_)
      | (exfalso; omega)
     exact ⟨.inr rfl, endV hl0 rfl rfl ⟨rfl, by rw [ho]; rfl⟩⟩
   · skip
     have F : _ ∧ _ ∧ _ ∧ _ ∧ _ := ⟨e1, e7, e8, e9, wk⟩
     repeat' first
      | refine gg ?_
      | refine Two.mk (fun hq => ?_) fun hq => ?_
      | (with_reducible refine Y7 ?_; refine gc rfl rfl rfl Zh8 (hh _) ?_)
      | (exfalso; omega)
     exact ⟨rfl, a.length - (k + 1), by omega, k + 1, hlt, rfl, by rw [ho]; rfl, rfl, e1, e7, e8, rfl⟩
 · skip
   have F : _ ∧ _ ∧ _ ∧ _ := ⟨e1, e7, e8, e9⟩
   repeat' first
    | refine gg ?_
    | refine Two.mk (fun hq => ?_) fun hq => ?_
    | refine Evry.mk fun x hx => ?_
    | (exfalso; omega)
   exact ⟨by simp, endV hl0 rfl rfl ⟨rfl, by rw [ho, Z2 (by omega)]; rfl⟩⟩
end
section
variable {P : Program} {G : Nat → D} {n : Nat} {e : Nat → D} {h : List Ob} {ops : Array Oper} {rest : List Oper} {Q : S → Prop}
theorem tri_soundE {B : Base} {a : Act} {w : World} {o : Oper} {K : Act → World → Prop} {KD : List Ob → D → Prop} {R : Exit → Act → World → Prop} (q : OpTri P G o ((opds o.op).map (ev G e)) h KD) (r : Sit G B ⟨n, e, h⟩ a w) (k : ∀ h' d, KD h' d → ∀ a' w', Sit G B ⟨n, putE n e o.dst d, h'⟩ a' w' → K a' w') : o.wp P a w K R := by
 obtain ⟨hd, p, r⟩ := r
 refine Oper.wp_mono ?_ (q a w hd p R r.defers r.ok (Zs7 r _))
 rintro a' w' ⟨v, rfl, hd', h'', d', p', hk, o', q', ev'⟩
 have := r.put o' ev' q' o.dst
 rw [Zc5] at this
 exact k _ _ hk _ _ ⟨hd', p', this⟩
theorem ao_ex {o : Oper} {KD : List Ob → D → Prop} (hw : Yg ops o.guard e = some true) (q : OpTri P G o ((opds o.op).map (ev G e)) h KD) (k : ∀ h' d, KD h' d → ao P G ops rest Q ⟨n, putE n e o.dst d, h'⟩) : ao P G ops (o :: rest) Q ⟨n, e, h⟩ := by
 rintro B a w r R hR
 obtain ⟨hd, p, r'⟩ := id r
 unfold wpList
 rw [if_pos (Xi (o := o) r' hw)]
 exact .inl (tri_soundE q r fun h' d hk a' w' r2 => k h' d hk B a' w' r2 R hR)
theorem tri_nil {dst : Option Nat} {t yt ty : TypeId} {x y : Operand} {pos : String} {aft : Array Edge} {gd : Option (Nat × Bool)} {k : Nat} {xs : List (List D)} (ht : slT P t = true) :
 OpTri P G ⟨dst, .binOp .eql t x y yt, ty, pos, aft, gd⟩ [.sl k xs, .v (.slice none 0 0)] h (fun h' d => h' = h ∧ ((d = .v (.bool true) ∧ xs = []) ∨ d = .v (.bool false))) := fun a w hd p R hdf ok ha => by
 have ho : opds (.binOp .eql t x y yt) = [x, y] := by simp [opds, Op.operands]
 rw [ho, Zw, Zw, List.map_nil, rdL] at ha
 obtain ⟨u, t1, e1, h1, ha⟩ := ha
 rw [rdL] at ha
 obtain ⟨u2, t2, e2, h2, ha⟩ := ha
 rw [rd] at h1
 rw [rd] at h2
 obtain ⟨ad, cap, hu, hc, _, hr⟩ := h1
 subst h2
 cases e1
 injection e2 with e2 e3
 obtain ⟨el, hun⟩ := slT_spec ht
 have en : ∀ w, (Op.equal t (.slice ad xs.length cap) (.slice none 0 0)).run P w = .ok (ad.isNone) w := fun w => by
  unfold Op.equal Op.maxDepth Op.equalIn
  cases ad <;> simp [Go.underlying, hun]
 have hrun : (execOp a.eval ⟨dst, .binOp .eql t x y yt, ty, pos, aft, gd⟩).run P w = .ok (.value (.bool ad.isNone)) w := by
  simp [execOp, hu, e2, eqGuard, binOp, en]
 unfold Oper.wp
 rw [hrun]
 refine ⟨_, rfl, .same ok ⟨rfl, ?_⟩ (d := .v (.bool ad.isNone)) (by rw [rd])⟩
 cases ad with
 | none =>
  refine .inl ⟨rfl, ?_⟩
  have := hc.1 rfl
  exact List.eq_nil_of_length_eq_zero (by omega)
 | some a => exact .inr rfl
theorem Does.nilbuf {f : FuncId} {args : List D} {K K' : List Ob → D → Prop} (E k : Nat) (q : Does P G f h args K) (c : ∀ h' r, K h' r → K' h' r ∨ (r = .v (.slice none 0 0) ∧ K' (h' ++ [.buf E k []]) (.buf h'.length 0))) : Does P G f h args K' := fun w hd p vs o ha => by
 refine (q w hd p vs o ha).mono ?_
 rintro e w' ⟨v, hd', h', r, p', rfl, hK, ok, hr, ev⟩
 rcases c _ _ hK with hk | ⟨rfl, hk⟩
 · exact ⟨v, hd', h', r, p', rfl, hk, ok, hr, ev⟩
 · obtain ⟨o2, ev2⟩ := Ok.grow (ob := .buf E k []) (u := .slice none 0 0) (w' := w') ok rfl rfl rfl (Zq _) (fun _ _ => rfl) (fun b hb => by cases hb) (fun c s => ⟨[], World.ownsRow_nil _ _ _ _, by simp [rdL], fun row h => by simp at h, fun g h => by cases h⟩)
   exact ⟨v, _, _, _, _, rfl, hk, o2, Yb1 (E := E) (k := k) (by simp) (by rw [← ok.len]; simp) (ev2.rd ok hr), ev.trans ev2⟩
end
section
section
variable {P : Program} {G : Nat → D} {n m0 : Nat} {e : Nat → D} {h : List Ob} {ops : Array Oper} {rest : List Oper} {Q : (Nat → D) → List Ob → Prop} {done : List Eff} {t : Nat} {ty : TypeId} {pos : String} {aft : Array Edge} {gd : Option (Nat × Bool)}
theorem aS_idxB {u : TypeId} {x y : Operand} {i m E k : Nat} {κ : IntKind} {z : Int} {xs : List (List D)} (hw : Yg ops gd e = some true) (ht : decide (t < n) = true) (hx : ev G e x = .buf i m) (hy : ev G e y = .v (.int κ z)) (hi : h[i]? = some (.buf E k xs)) (hm : xs.length = m) (he : (elT P u).bind (szT P) = some k) (h0 : 0 ≤ z) (h1 : z < (m : Int))
 (q : aeS P G n m0 ops Q (We i (.buf E k xs) (.bp i m z.toNat 0) :: done) rest (upd e t (.bp i m z.toNat 0)) h) : aeS P G n m0 ops Q done (⟨some t, .indexAddr u x y, ty, pos, aft, gd⟩ :: rest) e h := by
 have hh : ∀ h, (We i (.buf E k xs) (.bp i m z.toNat 0)).heap h = h := fun h => by simp [We, Eff.heap, X2]
 refine ⟨We i (.buf E k xs) (.bp i m z.toNat 0), .inl ⟨hw, ⟨by simp [We], fun _ _ _ => rfl⟩, fun h2 k2 => .inl ?_⟩, by simpa [We, Eff.ok] using hi, ?_⟩
 · rw [hh]
   have hi2 : h2[i]? = some (.buf E k xs) := k2 (i, .buf E k xs) (by simp [We])
   rw [aOp_iaddr, hx, hy, idxA_buf]
   exact ⟨E, k, xs, hi2, hm, he, h0, h1, rfl, rfl⟩
 · rw [hh]; unfold putE; simp only [if_pos (of_decide_eq_true ht)]; exact q
theorem Zz1 {u : TypeId} {x : Operand} {i m r j E k : Nat} {xs : List (List D)} {row : List D} {d : D} (hw : Yg ops gd e = some true) (ht : decide (t < n) = true) (hx : ev G e x = .bp i m r j) (hi : h[i]? = some (.buf E k xs)) (hm : xs.length = m) (hr : xs[r]? = some row) (hg : getD P u row j = some d)
 (q : aeS P G n m0 ops Q (We i (.buf E k xs) d :: done) rest (upd e t d) h) : aeS P G n m0 ops Q done (⟨some t, .load u x, ty, pos, aft, gd⟩ :: rest) e h := by
 have hh : ∀ h, (We i (.buf E k xs) d).heap h = h := fun h => by simp [We, Eff.heap, X2]
 refine ⟨We i (.buf E k xs) d, .inl ⟨hw, ⟨by simp [We], fun _ _ _ => rfl⟩, fun h2 k2 => .inl ?_⟩, by simpa [We, Eff.ok] using hi, ?_⟩
 · rw [hh]
   have hi2 : h2[i]? = some (.buf E k xs) := k2 (i, .buf E k xs) (by simp [We])
   show on (Jk P h2 u (ev G e x)) _
   rw [hx]
   simp only [Jk, hi2, hr, if_pos hm, Option.bind_some, hg, on]
   exact ⟨trivial, rfl⟩
 · rw [hh]; unfold putE; simp only [if_pos (of_decide_eq_true ht)]; exact q
theorem aS_storeB {u : TypeId} {x y : Operand} {i m r j E k : Nat} {xs : List (List D)} {row es : List D} (hw : Yg ops gd e = some true) (hx : ev G e x = .bp i m r j) (hi : h[i]? = some (.buf E k xs)) (hm : xs.length = m) (hr : xs[r]? = some row) (hy : (ev G e y).cells = some es) (hc : (es.all D.one && szT P u == some es.length) = true) (hle : j + es.length ≤ row.length)
 (q : aeS P G n m0 ops Q (Wg i (.buf E k xs) (.buf E k (xs.set r (putL row j es))) (.v undef) :: done) rest e (h.set i (.buf E k (xs.set r (putL row j es))))) : aeS P G n m0 ops Q done (⟨none, .store u x y, ty, pos, aft, gd⟩ :: rest) e h := by
 have hh : ∀ h, (Wg i (.buf E k xs) (.buf E k (xs.set r (putL row j es))) (.v undef)).heap h = h.set i (.buf E k (xs.set r (putL row j es))) := fun h => by simp [Wg, Eff.heap, X2]
 refine ⟨Wg i (.buf E k xs) (.buf E k (xs.set r (putL row j es))) (.v undef), .inl ⟨hw, ⟨by simp [Wg], fun _ _ _ => rfl⟩, fun h2 k2 => .inl ?_⟩, by simpa [Wg, Eff.ok] using hi, by rw [hh]; exact q⟩
 have hi2 : h2[i]? = some (.buf E k xs) := k2 (i, .buf E k xs) (by simp [Wg])
 rw [hh]
 show on (Up P h2 u (ev G e x) (ev G e y)) _
 rw [hx]
 simp only [Up, hy, hc, if_true, hi2, if_pos hm, hr, if_pos hle, on]
 exact ⟨trivial, rfl⟩
end
theorem does_newR {P : Program} {G : Nat → D} {f : FuncId} {args : List D} (hG : ∀ g, low 0 (G g)) {e k n : Nat} {rows : List (List D)} (lr : low 0 (.sl k rows)) (la : lowL 0 args) (q : Does P G f [] args (fun h' r => h' = [.buf e k rows] ∧ r = .buf 0 n)) (h : List Ob) : Does P G f h args (fun h' r => h' = h ++ [.buf e k rows] ∧ r = .buf h.length n) := by
 refine Does.holes 1 ?_
 have L : Lies (fun _ => h.length) [] (h ++ holes 1) := ⟨fun i ob q => by simp at q, fun i j q => by simp at q, fun ob q => by simp at q⟩
 have F := Does.frame hG L (args := args) la (K1 := fun h' r => h' = [.buf e k rows] ∧ r = .buf 0 n) (by
  rintro _ _ ⟨rfl, _⟩
  refine ⟨fun i j hi hj _ => by simp at hi hj; omega, fun j _ hj => ?_⟩
  simp [holes]) q
 rw [Xh _ _ la] at F
 refine F.mono ?_
 rintro _ _ ⟨_, _, ⟨rfl, rfl⟩, rfl, rfl⟩
 have e1 : renR (fun _ => h.length) rows = rows := by
  have := Uj (fun _ => h.length) _ lr
  rw [ren] at this
  exact (D.sl.inj this).2
 simp [plc, Ww, ren, holes, e1]
end
section
section
variable {P : Program} {G : Nat → D} {n : Nat} {e : Nat → D} {h : List Ob} {ops : Array Oper} {rest : List Oper} {Q : S → Prop} {t : Nat} {ty : TypeId} {pos : String} {aft : Array Edge} {gd : Option (Nat × Bool)}
theorem storeD_bp {u E k i m r j : Nat} {xs : List (List D)} {row es : List D} {y : D} (hi : h[i]? = some (.buf E k xs)) (hm : xs.length = m) (hr : xs[r]? = some row) (hy : y.cells = some es) (hc : (es.all D.one && szT P u == some es.length) = true) (hle : j + es.length ≤ row.length) : Up P h u (.bp i m r j) y = some (h.set i (.buf E k (xs.set r (putL row j es)))) := by
 simp only [Up, hy, hc, if_true, hi, if_pos hm, hr, if_pos hle]
theorem ao_callK {x : Operand} {args : Array Operand} {tys : Array TypeId} {f : FuncId} {cap : List D} {K : List Ob → D → Prop} (hw : Yg ops gd e = some true) (ht : decide (t < n) = true) (hx : ev G e x = .fn f cap) (he : entB P f = true) (hc : Does P G f h (args.toList.map (ev G e) ++ cap) K)
 (q : ∀ h' r, K h' r → ao P G ops rest Q ⟨n, upd e t r, h'⟩) : ao P G ops (⟨some t, .call ⟨.value x, args, tys⟩, ty, pos, aft, gd⟩ :: rest) Q ⟨n, e, h⟩ := by
 have ho : opds (.call ⟨.value x, args, tys⟩) = x :: args.toList := by simp [opds, Op.operands, Call.operands]
 refine ao_ex (KD := K) hw ?_ fun h' d hk => ?_
 · show OpTri P G _ ((opds (.call ⟨.value x, args, tys⟩)).map (ev G e)) h K
   rw [ho, Zw, hx]
   exact Zz8 he hc
 · unfold putE
   simp only [if_pos (of_decide_eq_true ht)]
   exact q h' d hk
end
end
section
variable {P : Program} {G : Nat → D} {f : FuncId} {h : List Ob} {args : List D}
mutual
theorem rnO_low0 (R : List Nat) : ∀ d, low 0 d → rnO R d = some d
 | .any, _ => by rw [rnO]
 | .v _, _ => by rw [rnO]
 | .e0, _ => by rw [rnO]
 | .sl k xs, l => by rw [low] at l; rw [rnO, Zx6 R xs l]
 | .agg ds, l => by rw [low] at l; rw [rnO, Zj3 R ds l]
 | .tup ds, l => by rw [low] at l; rw [rnO, Zj3 R ds l]
 | .rp ds, l => by rw [low] at l; rw [rnO, Zj3 R ds l]
 | .fn f ds, l => by rw [low] at l; rw [rnO, Zj3 R ds l]
 | .ptr i o, l => by rw [low] at l; omega
 | .buf i n, l => by rw [low] at l; omega
 | .bp i n r c, l => by rw [low] at l; omega
 | .win i n a b, l => by rw [low] at l; omega
 | .arr i o n c k, l => by rw [low] at l; omega
 | .mp i, l => by rw [low] at l; omega
theorem Zj3 (R : List Nat) : ∀ d, lowL 0 d → rnL R d = some d
 | [], _ => by rw [rnL]
 | d :: t, l => by rw [lowL] at l; rw [rnL, rnO_low0 R d l.1, Zj3 R t l.2]
theorem Zx6 (R : List Nat) : ∀ d, lowR 0 d → rnR R d = some d
 | [], _ => by rw [rnR]
 | d :: t, l => by rw [lowR] at l; rw [rnR, Zj3 R d l.1, Zx6 R t l.2]
end
theorem Does.only0 {K : List Ob → D → Prop} (hG : ∀ g, low 0 (G g)) {E k n : Nat} {rows : List (List D)} (lr : low 0 (.sl k rows)) (q : Does P G f [] args K) (c : ∀ h' r, K h' r → ∃ i, h'[i]? = some (.buf E k rows) ∧ r = .buf i n) : Does P G f [] args (fun h' r => h' = [.buf E k rows] ∧ r = .buf 0 n) := by
 refine q.shrink hG fun h' r hK => ?_
 obtain ⟨i, hi, rfl⟩ := c _ _ hK
 rw [low] at lr
 refine ⟨[.buf E k rows], .buf 0 n, ⟨[i], ?_, rfl, ?_, Z6 _, fun k hk => by simp at hk⟩, rfl, rfl⟩
 · simp [rnH, hi, rnOb, Zx6 _ _ lr]
 · simp [rnO, pos]
theorem Does.gave0 (hG : ∀ g, low 0 (G g)) {E k n : Nat} {rows : List (List D)} (lr : low 0 (.sl k rows)) (la : lowL 0 args) (hn : rows.length = n) (q : Does P G f [] args (fun h' r => h' = [.buf E k rows] ∧ r = .buf 0 n)) (h : List Ob) : Does P G f h args (fun h' r => h' = h ∧ r = .sl k rows) := by
 refine Y9 G hG la lr (q.drop hG ?_) h
 rintro _ _ ⟨rfl, rfl⟩
 refine ⟨0, Zq _, Z6 _, fun x hx => by simp at hx, ?_, ?_⟩
 · simpa [cvD, cv1, hn] using lr
 · simp [cvD, cv1, hn]
end
section
variable {P : Program} {G : Nat → D} {w w' : World} {hd : List Value} {h : List Ob} {p : Nat → Bool}
theorem Ok.kept (o : Ok G w hd h p) (h1 : w'.os = w.os ∧ w.drawn ≤ w'.drawn) (h2 : w'.tape = w.tape) (h3 : w'.output = w.output) (h4 : w.heap.size ≤ w'.heap.size) (h5 : ∀ b, b < w.heap.size → w'.heap[b]? = w.heap[b]?) : Ok G w' hd h p ∧ Evo w hd h p w' hd h p := by
 have e : Evo w hd h p w' hd h p := ⟨h1, h2, h3, h4, fun k hk _ => h5 k hk, fun _ _ q => q, fun _ _ q => .inl q, fun _ _ q => q, .refl _ _⟩
 exact ⟨⟨o.len, fun i ob u h1 h2 => obOk.move e o (o.ob i ob u h1 h2) (fun hl k hk => h5 k (o.lt ⟨i, ob, u, h1, hl, h2, hk⟩)) (fun _ _ _ q => q), o.inj, Zg9 e o, Zh2 e o⟩, e⟩
theorem Does.borrow (hG : ∀ g, low 0 (G g)) {f : FuncId} {args : List D} {i E k n : Nat} {rows : List (List D)} {x : Value} (hi : h[i]? = some (.buf E k rows)) (hn : rows.length = n) (la : lowL 0 args) (lr : low 0 (.sl k rows)) (q : Does P G f [] (.sl k rows :: args) (fun h' r => h' = [] ∧ r = .v x)) : Does P G f h (.buf i n :: args) (fun h' r => h' = h ∧ r = .v x) := fun w hd p vs ok ha => by
 rw [rdL] at ha
 obtain ⟨u, t, rfl, hu, ht⟩ := ha
 obtain ⟨p', o', ev, cv⟩ := ok.give (fun j => j == i)
 have hr := cv _ _ hu
 have e : cvD (fun j => j == i) h (.buf i n) = .sl k rows := by simp [cvD, cv1, hi, hn]
 rw [e] at hr
 have ht2 := ev.rdL ok ht
 have o2 := o'.take (m := 0) (fun x hx => by simp at hx) hG
 have r1 := Zf0 (m := 0) o'.len _ _ lr hr
 have r2 := V8 (m := 0) o'.len _ _ la ht2
 simp only [List.take_zero] at o2 r1 r2
 refine (q w [] p' (u :: t) o2 (by rw [rdL]; exact ⟨u, t, rfl, r1, r2⟩)).mono ?_
 rintro e w' ⟨v, hd', h', r, p2, rfl, ⟨rfl, rfl⟩, ok2, hr2, ev2⟩
 rw [rd] at hr2; subst hr2
 obtain ⟨o3, ev3⟩ := ok.kept ev2.os ev2.tape ev2.output ev2.size fun b hb => ev2.keep b hb fun ⟨j, ob, u, q, _⟩ => by simp at q
 exact ⟨_, hd, h, .v _, p, rfl, ⟨rfl, rfl⟩, o3, by rw [rd], ev3⟩
end
section
def w32 (z : Int) : Int := IntKind.u32.wrap z
def Zd8 (a b : Int) : Int := IntKind.u32.wrap (a + b)
def Zz2 (a b : Int) : Int := IntKind.u32.wrap ((BitVec.ofInt 32 a ^^^ BitVec.ofInt 32 b).toNat : Int)
def and32 (a b : Int) : Int := IntKind.u32.wrap ((BitVec.ofInt 32 a &&& BitVec.ofInt 32 b).toNat : Int)
def or32 (a b : Int) : Int := IntKind.u32.wrap ((BitVec.ofInt 32 a ||| BitVec.ofInt 32 b).toNat : Int)
def not32 (a : Int) : Int := IntKind.u32.wrap ((BitVec.ofInt 32 4294967295 ^^^ BitVec.ofInt 32 a).toNat : Int)
def shr32 (a : Int) (n : Nat) : Int := a.fdiv (2 ^ n)
def shl32 (a : Int) (n : Nat) : Int := IntKind.u32.wrap (a * 2 ^ n)
def Yg6 (x : Int) (n : Nat) : Int := or32 (x.fdiv (2 ^ min n 32)) (IntKind.u32.wrap (x * 2 ^ min (32 - n) 32))
def zD (z : Int) : D := .v (.int .u32 z)
def be4 (a b c d : UInt8) : Int := or32 (or32 (or32 (shl32 (w32 a.toNat) 24) (shl32 (w32 b.toNat) 16)) (shl32 (w32 c.toNat) 8)) (w32 d.toNat)
def sgZ (x15 x2 x7 x16 : Int) : Int :=
 Zd8 (Zd8 (Zd8 (Zz2 (Zz2 (Yg6 x2 17) (Yg6 x2 19)) (shr32 x2 10)) x7) (Zz2 (Zz2 (Yg6 x15 7) (Yg6 x15 18)) (shr32 x15 3))) x16
structure W8 where
 a : Int
 b : Int
 c : Int
 d : Int
 e : Int
 f : Int
 g : Int
 h : Int
def W8.ls (x : W8) : List Int := [x.a, x.b, x.c, x.d, x.e, x.f, x.g, x.h]
def W8.add (x y : W8) : W8 := ⟨Zd8 x.a y.a, Zd8 x.b y.b, Zd8 x.c y.c, Zd8 x.d y.d, Zd8 x.e y.e, Zd8 x.f y.f, Zd8 x.g y.g, Zd8 x.h y.h⟩
def t1Z (u : W8) (k w : Int) : Int := Zd8 (Zd8 (Zd8 (Zd8 u.h (Zz2 (Zz2 (Yg6 u.e 6) (Yg6 u.e 11)) (Yg6 u.e 25))) (Zz2 (and32 u.e u.f) (and32 (not32 u.e) u.g))) k) w
def s0Z (u : W8) : Int := Zz2 (Zz2 (Yg6 u.a 2) (Yg6 u.a 13)) (Yg6 u.a 22)
def majZ (u : W8) : Int := Zz2 (Zz2 (and32 u.a u.b) (and32 u.a u.c)) (and32 u.b u.c)
def rndZ (k w : Int) (u : W8) : W8 := ⟨Zd8 (t1Z u k w) (Zd8 (s0Z u) (majZ u)), u.a, u.b, u.c, Zd8 u.d (t1Z u k w), u.e, u.f, u.g⟩
def sch1 (b : List UInt8) : Nat → List Int → List Int
 | 0, W => W
 | n + 1, W => sch1 b n (W.set (15 - n) (be4 (b.getD (4 * (15 - n)) 0) (b.getD (4 * (15 - n) + 1) 0) (b.getD (4 * (15 - n) + 2) 0) (b.getD (4 * (15 - n) + 3) 0)))
def sch2 : Nat → List Int → List Int
 | 0, W => W
 | n + 1, W => sch2 n (W.set (63 - n) (sgZ (W.getD (63 - n - 15) 0) (W.getD (63 - n - 2) 0) (W.getD (63 - n - 7) 0) (W.getD (63 - n - 16) 0)))
def rndsZ (K W : List Int) : Nat → W8 → W8
 | 0, u => u
 | n + 1, u => rndsZ K W n (rndZ (K.getD (63 - n) 0) (W.getD (63 - n) 0) u)
def shaK : List Int := [0x428a2f98, 0x71374491, 0xb5c0fbcf, 0xe9b5dba5, 0x3956c25b, 0x59f111f1, 0x923f82a4, 0xab1c5ed5,
 0xd807aa98, 0x12835b01, 0x243185be, 0x550c7dc3, 0x72be5d74, 0x80deb1fe, 0x9bdc06a7, 0xc19bf174,
 0xe49b69c1, 0xefbe4786, 0x0fc19dc6, 0x240ca1cc, 0x2de92c6f, 0x4a7484aa, 0x5cb0a9dc, 0x76f988da,
 0x983e5152, 0xa831c66d, 0xb00327c8, 0xbf597fc7, 0xc6e00bf3, 0xd5a79147, 0x06ca6351, 0x14292967,
 0x27b70a85, 0x2e1b2138, 0x4d2c6dfc, 0x53380d13, 0x650a7354, 0x766a0abb, 0x81c2c92e, 0x92722c85,
 0xa2bfe8a1, 0xa81a664b, 0xc24b8b70, 0xc76c51a3, 0xd192e819, 0xd6990624, 0xf40e3585, 0x106aa070,
 0x19a4c116, 0x1e376c08, 0x2748774c, 0x34b0bcb5, 0x391c0cb3, 0x4ed8aa4a, 0x5b9cca4f, 0x682e6ff3,
 0x748f82ee, 0x78a5636f, 0x84c87814, 0x8cc70208, 0x90befffa, 0xa4506ceb, 0xbef9a3f7, 0xc67178f2]
def shaIV : W8 := ⟨0x6a09e667, 0xbb67ae85, 0x3c6ef372, 0xa54ff53a, 0x510e527f, 0x9b05688c, 0x1f83d9ab, 0x5be0cd19⟩
def schZ (b : List UInt8) : List Int := sch2 48 (sch1 b 16 (Zu 64 0))
def blkZ (v : W8) (b : List UInt8) : W8 := (rndsZ shaK (schZ b) 64 v).add v
def blksZ (v : W8) (l : List UInt8) : W8 := if l.length < 64 then v else blksZ (blkZ v (l.take 64)) (l.drop 64)
termination_by l.length
decreasing_by simp; omega
def zc (m : Nat) : Nat := (119 - m % 64) % 64
def be8 (n : Nat) : List UInt8 := (List.range 8).map fun j => UInt8.ofNat (n / 2 ^ (56 - 8 * j))
def padZ (b : List UInt8) (n : Nat) : List UInt8 := b ++ [128] ++ Zu (zc b.length) 0 ++ be8 (8 * n)
def byZ (z : Int) : UInt8 := UInt8.ofNat (IntKind.u8.wrap z).toNat
def outW (z : Int) : List UInt8 := [byZ (z.fdiv (2 ^ 24)), byZ (z.fdiv (2 ^ 16)), byZ (z.fdiv (2 ^ 8)), byZ z]
def outZ (v : W8) : List UInt8 := (v.ls.map outW).flatten
def sumZ (b : List UInt8) : List UInt8 := outZ (blksZ shaIV (padZ b b.length))
def restZ (b : List UInt8) : List UInt8 := b.drop (64 * (b.length / 64))
/-! Keyed digests. -/
def keyZ (k : List UInt8) : List UInt8 := let k' := if 64 < k.length then sumZ k else k
 k' ++ Zu (64 - k'.length) 0
def xorB (x : UInt8) (k : List UInt8) : List UInt8 := k.map (· ^^^ x)
def tagZ (k m : List UInt8) : List UInt8 := sumZ (xorB 0x5c (keyZ k) ++ sumZ (xorB 0x36 (keyZ k) ++ m))
attribute [irreducible] schZ rndsZ blkZ sumZ tagZ
end
section
theorem U0 {h : List Ob} {i : Nat} {ob : Ob} : (h.set i ob).take h.length = h.set i ob := Zf (by simp)
theorem take_set_app {h l : List Ob} {i : Nat} {ob : Ob} : (h.set i ob ++ l).take h.length = h.set i ob := by rw [List.take_append_of_le_length (by simp)]; exact U0
theorem endS {res : Array ResultVar} {h0 : List Ob} {K : List Ob → D → Prop} {s : S} {ds : List D} {r : D} {i : Nat} {ob : Ob} (hl : lowH h0.length h0) (ho : Yc9 h0.length ob) (h1 : resD Z3 s res.toList = some ds) (h2 : s.h.take h0.length = h0.set i ob) (h4 : h0.length ≤ s.h.length)
 (h3 : cvD (fun i => decide (h0.length ≤ i)) s.h (outD ds) = r) (h5 : low h0.length r) (hK : K (h0.set i ob) r) : EndD Z3 res h0.length K s := ⟨ds, h0.length, h1, Zq _, h4, by rw [h2]; exact lowH_set hl ho, by rw [h3]; exact h5, by rw [h2, h3]; exact hK⟩
def Yh (s : RS) : Ob := .cells [.sl 1 (byD s.data), .v (.int .i64 s.pos), .v (.int .i64 s.item), .v (.int .i64 s.err)]
theorem U3 (s : RS) : Yh s = .cells [.sl 1 (byD s.data), .v (.int .i64 s.pos), .v (.int .i64 s.item), .v (.int .i64 s.err)] := rfl
theorem Xu (m : Nat) (s : RS) : Yc9 m (Yh s) := ⟨Ze1 m _, by simp [lowL, low]⟩
def rawJ (p i acc : Nat) : List UInt8 → D
 | [] => .tup [.v (.int .u64 (0 : Int)), .v (.int .i64 (0 : Int)), .v (.bool false)]
 | b :: t => if 10 ≤ i then .tup [.v (.int .u64 (0 : Int)), .v (.int .i64 (0 : Int)), .v (.bool false)]
   else if i = 9 ∧ 1 < b.toNat then .tup [.v (.int .u64 (0 : Int)), .v (.int .i64 (0 : Int)), .v (.bool false)]
   else if b.toNat < 128 then .tup [.v (.int .u64 ((acc + b.toNat % 128 * 2 ^ (7 * i) : Nat) : Int)), .v (.int .i64 ((p + i + 1 : Nat) : Int)), .v (.bool (decide (b.toNat ≠ 0 ∨ i = 0)))]
   else rawJ p (i + 1) (acc + b.toNat % 128 * 2 ^ (7 * i)) t
def RS.rawN (s : RS) : D := rawJ s.pos 0 0 (s.data.drop s.pos)
theorem Yb7 (p : Nat) : ∀ (l : List UInt8) (i acc : Nat), (match numF i l with
 | none => ∃ a b : Int, rawJ p i acc l = .tup [.v (.int .u64 a), .v (.int .i64 b), .v (.bool false)]
 | some (m, c) => rawJ p i acc l = .tup [.v (.int .u64 ((acc + m * 2 ^ (7 * i) : Nat) : Int)), .v (.int .i64 ((p + i + c : Nat) : Int)), .v (.bool true)])
 | [], i, acc => by rw [Yo9]; exact ⟨_, _, rfl⟩
 | b :: t, i, acc => by
  by_cases hi : 10 ≤ i
  · rw [numF_ge _ hi]; exact ⟨0, 0, by rw [rawJ, if_pos hi]⟩
  by_cases h9 : i = 9 ∧ 1 < b.toNat
  · rw [numF_big _ h9]; exact ⟨0, 0, by rw [rawJ, if_neg hi, if_pos h9]⟩
  by_cases hb : b.toNat < 128
  · rw [numF_last t (by omega) h9 hb, rawJ, if_neg hi, if_neg h9, if_pos hb]
    by_cases hz : b.toNat = 0 ∧ i ≠ 0
    · rw [if_pos hz, decide_eq_false (by omega)]; exact ⟨_, _, rfl⟩
    · rw [if_neg hz, decide_eq_true (by omega), Nat.mod_eq_of_lt hb]
  · rw [numF_more t (by omega) h9 hb, rawJ, if_neg hi, if_neg h9, if_neg hb]
    have ih := Yb7 p t (i + 1) (acc + b.toNat % 128 * 2 ^ (7 * i))
    rcases hr : numF (i + 1) t with _ | ⟨m, c⟩
    · rw [hr] at ih; exact ih
    · rw [hr] at ih
      simp only at ih ⊢
      rw [ih]
      have e1 : acc + b.toNat % 128 * 2 ^ (7 * i) + m * 2 ^ (7 * (i + 1)) = acc + (b.toNat % 128 + 128 * m) * 2 ^ (7 * i) := by
       rw [show 7 * (i + 1) = 7 + 7 * i by omega, Nat.pow_add, Nat.add_mul, Nat.add_assoc, show m * (2 ^ 7 * 2 ^ (7 * i)) = 128 * m * 2 ^ (7 * i) by rw [← Nat.mul_assoc, Nat.mul_comm m]]
      rw [e1, show p + (i + 1) + c = p + i + (c + 1) by omega]
theorem Yb6 {s : RS} (q : s.num = none) : ∃ a b : Int, s.rawN = .tup [.v (.int .u64 a), .v (.int .i64 b), .v (.bool false)] := by
 have h := Yb7 s.pos (s.data.drop s.pos) 0 0
 have q : numF 0 (s.data.drop s.pos) = none := q
 rw [q] at h; exact h
theorem Yb5 {s : RS} {n c : Nat} (q : s.num = some (n, c)) : s.rawN = .tup [.v (.int .u64 n), .v (.int .i64 ((s.pos : Int) + (c : Int))), .v (.bool true)] := by
 have h := Yb7 s.pos (s.data.drop s.pos) 0 0
 have q : numF 0 (s.data.drop s.pos) = some (n, c) := q
 rw [q] at h
 simpa [RS.rawN] using h
theorem and_byte : ∀ m : Fin 256, IntKind.u8.wrap ((BitVec.ofInt 8 (m.val : Int) &&& BitVec.ofInt 8 127).toNat : Int) = ((m.val % 128 : Nat) : Int) := by decide +kernel
theorem and_byte' (b : UInt8) : IntKind.u8.wrap ((BitVec.ofInt 8 (b.toNat : Int) &&& BitVec.ofInt 8 127).toNat : Int) = ((b.toNat % 128 : Nat) : Int) := and_byte ⟨b.toNat, b.toNat_lt⟩
theorem shl_step {acc b i : Nat} (ha : acc < 2 ^ (7 * i)) (hi : i < 10) (h9 : ¬ (i = 9 ∧ 1 < b)) (hb : b < 256) :
 b % 128 * 2 ^ (7 * i) < 18446744073709551616 ∧ acc < 18446744073709551616 ∧ acc + b % 128 * 2 ^ (7 * i) < 2 ^ (7 * (i + 1)) := by
 have e : 2 ^ (7 * (i + 1)) = 128 * 2 ^ (7 * i) := by rw [show 7 * (i + 1) = 7 + 7 * i by omega, Nat.pow_add]
 have h3 : b % 128 * 2 ^ (7 * i) ≤ 127 * 2 ^ (7 * i) := Nat.mul_le_mul_right _ (by omega)
 refine ⟨?_, ?_, by omega⟩
 · rcases Nat.lt_or_ge i 9 with h | h
   · have h1 : 2 ^ (7 * i) ≤ 2 ^ 56 := Nat.pow_le_pow_right (by omega) (by omega)
     omega
   · have : i = 9 := by omega
     subst this
     have h2 : b % 128 * 2 ^ (7 * 9) ≤ 1 * 2 ^ 63 := Nat.mul_le_mul (by omega) (Zq _)
     omega
 · have h1 : 2 ^ (7 * i) ≤ 2 ^ 63 := Nat.pow_le_pow_right (by omega) (by omega)
   omega
theorem shl_val {b i : Nat} (h : b % 128 * 2 ^ (7 * i) < 18446744073709551616) (hi : i < 10) : IntKind.u64.wrap (((b % 128 : Nat) : Int) * 2 ^ min (7 * i) 64) = ((b % 128 * 2 ^ (7 * i) : Nat) : Int) := by
 have e : ((b % 128 : Nat) : Int) * 2 ^ min (7 * i) 64 = ((b % 128 * 2 ^ (7 * i) : Nat) : Int) := by
  rw [Nat.min_eq_left (by omega), Int.natCast_mul, Int.natCast_pow]; rfl
 rw [e, IntKind.wrap_u64]; omega
theorem or_val {acc b i : Nat} (ha : acc < 2 ^ (7 * i)) (h1 : acc < 18446744073709551616) (h2 : b % 128 * 2 ^ (7 * i) < 18446744073709551616) : IntKind.u64.wrap ((BitVec.ofInt 64 (acc : Int) ||| BitVec.ofInt 64 ((b % 128 * 2 ^ (7 * i) : Nat) : Int)).toNat : Int) = ((acc + b % 128 * 2 ^ (7 * i) : Nat) : Int) := by
 have h := u64_or_nat acc (b % 128 * 2 ^ (7 * i)) h1 h2
 refine h.trans ?_
 rw [Nat.or_comm, Nat.mul_comm, ← Nat.two_pow_add_eq_or_of_lt ha, Nat.add_comm]
theorem num_val {acc i : Nat} {x : UInt8} (ha : acc < 2 ^ (7 * i)) (hi : i < 10) (h9 : ¬ (i = 9 ∧ 1 < x.toNat)) : IntKind.u64.wrap ((BitVec.ofInt 64 (acc : Int) ||| BitVec.ofInt 64 (IntKind.u64.wrap (IntKind.u64.wrap (IntKind.u8.wrap ((BitVec.ofInt 8 (x.toNat : Int) &&& BitVec.ofInt 8 127).toNat : Int)) * 2 ^ min (7 * i) 64))).toNat : Int) = ((acc + x.toNat % 128 * 2 ^ (7 * i) : Nat) : Int) := by
 obtain ⟨s1, s2, _⟩ := shl_step ha hi h9 x.toNat_lt
 have w8 : IntKind.u64.wrap ((x.toNat % 128 : Nat) : Int) = ((x.toNat % 128 : Nat) : Int) := by rw [IntKind.wrap_u64]; omega
 rw [and_byte', w8, shl_val s1 hi, or_val ha s2 s1]
end
section
theorem aOp_larr {P : Program} {G : Nat → D} {e : Nat → D} {h : List Ob} {K : List Ob → D → Prop} {u : TypeId} {x : Operand} {i o : Nat} {ds : List D} {d : D} (hx : ev G e x = .ptr i o) (hi : h[i]? = some (.cells ds)) (hg : getD P u ds o = some d) (q : K h d) : aOp P G e h K (.load u x) := by
 rw [aOp_load, hx]
 simp only [Jk, hi, hg]
 rw [on_some]; exact q
def addJ (V : List Int) : Nat → List Int → List Int
 | 0, U => U
 | n + 1, U => addJ V n (U.set (7 - n) (Zd8 (U.getD (7 - n) 0) (V.getD (7 - n) 0)))
end
section
section
variable {P : Program} {G : Nat → D} {e : Nat → D} {h : List Ob}
theorem cvL {hd : List Value} {w w' : World} {p p' : Nat → Bool} {h h' : List Ob} {g : D → D} (c : ∀ d u, rd hd h (only p w) d u → rd hd h' (only p' w') (g d) u) {ds : List D} {us : List Value} (q : rdL hd h (only p w) ds us) : rdL hd h' (only p' w') (ds.map g) us := by
 obtain ⟨h1, h2⟩ := (Xj _ _).1 q
 refine (Xj _ _).2 ⟨by simpa using h1, fun j d hd' => ?_⟩
 rw [Zr, Option.map_eq_some_iff] at hd'
 obtain ⟨d0, hd0, rfl⟩ := hd'
 obtain ⟨u, hu, hr⟩ := h2 j d0 hd0
 exact ⟨u, hu, c _ _ hr⟩
end
end
section
def stL (v : W8) (r : D) (n : Nat) : List D := v.ls.map zD ++ [r, .v (.int .i64 n)]
section
variable {P : Program} {G : Nat → D} {e : Nat → D} {h : List Ob} {K : List Ob → D → Prop} {u : TypeId} {x y : Operand} {i n m : Nat} {v v' : W8} {r r' : D}
end
section
variable {P : Program} {G : Nat → D} {n : Nat} {e : Nat → D} {h : List Ob} {ops : Array Oper} {rest : List Oper} {Q : S → Prop} {t : Nat} {ty : TypeId} {pos : String} {aft : Array Edge} {gd : Option (Nat × Bool)}
end
theorem endX {P : Program} {res : Array ResultVar} {m0 : Nat} {K : List Ob → D → Prop} {s : S} (ds : List D) (M T : List Ob) (r : D) (h1 : resD P s res.toList = some ds) (h2 : s.h = M ++ T) (h0 : m0 ≤ M.length) (lM : lowH M.length M) (lr : low M.length r) (hr : cvD (fun i => decide (M.length ≤ i)) (M ++ T) (outD ds) = r) (hK : K M r) : EndD P res m0 K s := by
 have e : s.h.take M.length = M := by rw [h2]; simp
 refine ⟨ds, M.length, h1, h0, by rw [h2]; simp, by rw [e]; exact lM, by rw [h2, hr]; exact lr, by rw [e, h2, hr]; exact hK⟩
def sM (A B x : Ob) (T : List Ob) : List Ob := A :: B :: x :: T
section
variable {A B x y : Ob} {T l : List Ob}
end
theorem Yf9 {P : Program} {G : Nat → D} {n : Nat} {e : Nat → D} {h : List Ob} {ops : Array Oper} {rest : List Oper} {Q : S → Prop} {t : Nat} {ty : TypeId} {pos : String} {aft : Array Edge} {gd : Option (Nat × Bool)} {u : TypeId} {x : Operand} {i j o : Nat} {ds : List D} {d d' : D} (hw : Yg ops gd e = some true) (ht : decide (t < n) = true) (hx : ev G e x = .ptr i o) (hi : h[i]? = some (.cells ds)) (hg : getD P u ds o = some d) (hc : cvD (fun y => y == j) h d = d')
 (q : ao P G ops rest Q ⟨n, upd e t d', h.set j .dead⟩) : ao P G ops (⟨some t, .load u x, ty, pos, aft, gd⟩ :: rest) Q ⟨n, e, h⟩ := by
 refine ao1 hw ht fun K HK => ?_
 refine aOp_larr hx hi hg ?_
 refine HK _ _ ?_
 refine ao_give j t ?_
 have e1 : upd (upd e t d) t (cvD (fun i => i == j) h (upd e t d t)) = upd e t d' := by
  funext k
  unfold upd
  by_cases hk : k = t
  · simp [hk, hc]
  · simp [hk]
 rw [e1]; exact q
end
section
def kC (l : List UInt8) : List D := l.map fun b => .v (.int .u8 b.toNat)
section
variable {P : Program} {G : Nat → D} {e : Nat → D} {h : List Ob} {K : List Ob → D → Prop} {u : TypeId} {x y : Operand} {i n m k : Nat}
end
section
variable {P : Program} {G : Nat → D} {n : Nat} {e : Nat → D} {h : List Ob} {ops : Array Oper} {rest : List Oper} {Q : S → Prop} {t : Nat} {ty : TypeId} {pos : String} {aft : Array Edge} {gd : Option (Nat × Bool)}
end
theorem Does.give1c {P : Program} {G : Nat → D} {f : FuncId} {h : List Ob} {i E k n : Nat} {rows : List (List D)} {K : List Ob → D → Prop} (hi : h[i]? = some (.buf E k rows)) (hn : rows.length = n) (q : Does P G f (h.set i .dead) [.sl k rows] K) : Does P G f h [.buf i n] K := fun w hd p vs ok ha => by
 rw [rdL] at ha
 obtain ⟨u, t, rfl, hu, ht⟩ := ha
 rw [rdL] at ht; subst ht
 obtain ⟨p', o', ev, cv⟩ := ok.give (fun j => j == i)
 have hr := cv _ _ hu
 have e : cvD (fun j => j == i) h (.buf i n) = .sl k rows := by simp [cvD, cv1, hi, hn]
 rw [e] at hr
 rw [Yd1] at o' ev hr
 refine (q w hd p' [u] o' (by rw [rdL]; exact ⟨u, [], rfl, hr, by rw [rdL]⟩)).mono ?_
 rintro e w' ⟨v, hd', h', r, p2, rfl, hK, ok2, hr2, ev2⟩
 exact ⟨v, hd', h', r, p2, rfl, hK, ok2, hr2, ev.trans ev2⟩
end
section
attribute [local irreducible] on aOp
attribute [local go_sem] decide_true decide_false Zh Ze
attribute [local simp] byD_len
def nG (rows : List (List D)) (T : List Ob) : List Ob := .buf 9 1 rows :: T
section
variable {rows r2 : List (List D)} {T : List Ob} {x y : Ob}
theorem nG_0 : (nG rows T)[0]? = some (.buf 9 1 rows) := rfl
theorem nG_s0 : (nG rows T).set 0 (.buf 9 1 r2) = nG r2 T := rfl
theorem nG_app : nG rows T ++ [x] = nG rows (T ++ [x]) := rfl
theorem nG_len : (nG rows T).length = T.length + 1 := rfl
theorem nG_last : (nG rows (T ++ [x]))[T.length + 1]? = some x := by simp [nG]
end
theorem bl_eqV : ∀ (x y : List UInt8), Op.bytesLess x y = decide (x < y)
 | [], [] => by simp [Op.bytesLess]
 | _ :: _, [] => by simp [Op.bytesLess]
 | [], _ :: _ => by simp [Op.bytesLess]
 | a :: x, b :: y => by
  rw [Op.bytesLess, bl_eqV x y]
  by_cases h : a < b <;> by_cases h2 : a = b <;> simp [List.cons_lt_cons_iff, h, h2]
def Ris (l : List ByteArray) : Prop := l.Pairwise fun a b => J0 a b = true
theorem Zo6 {a b : ByteArray} : J0 a b = true ↔ a.toList < b.toList := by rw [J0, bl_eqV, decide_eq_true_eq]
theorem Ym8 : ∀ (l : List ByteArray) (p : ByteArray), Xk p l = true → (∀ x ∈ l, J0 p x = true) ∧ Ris l
 | [], _, _ => ⟨fun x hx => by simp at hx, List.Pairwise.nil⟩
 | y :: t, p, h => by
  rw [Xk, Bool.and_eq_true] at h
  have ih := Ym8 t y h.2
  refine ⟨fun x hx => ?_, List.Pairwise.cons ih.1 ih.2⟩
  rcases List.mem_cons.1 hx with rfl | hx
  · exact h.1
  · exact Zo6.2 (List.lt_trans (Zo6.1 h.1) (Zo6.1 (ih.1 x hx)))
theorem ris_of {l : List ByteArray} (h : Wd l = true) : Ris l := by
 cases l with
 | nil => exact List.Pairwise.nil
 | cons x t => exact List.Pairwise.cons (Ym8 t x h).1 (Ym8 t x h).2
theorem Ris.at {l : List ByteArray} (h : Ris l) {i j : Nat} {x y : ByteArray} (hx : l[i]? = some x) (hy : l[j]? = some y) (hij : i < j) : (Op.bytesLess x.toList y.toList || decide (x = y)) = true := by
 obtain ⟨hi, rfl⟩ := Z7.1 hx
 obtain ⟨hj, rfl⟩ := Z7.1 hy
 have := Zp.1 h i j hi hj hij
 rw [J0] at this
 rw [this]; rfl
theorem Ris.new {l : List ByteArray} (h : Ris l) {k : Nat} {x : ByteArray} (hx : l[k]? = some x) : hasS (l.take k) x = false := by
 cases e : hasS (l.take k) x
 · rfl
 obtain ⟨i, hi, hix⟩ := List.getElem_of_mem ((Xs _ _).1 e)
 have hik : i < k := by simp at hi; omega
 have hy : l[i]? = some x := by rw [← Zd hik, Z1 hi, hix]
 obtain ⟨h1, h2⟩ := Z7.1 hy
 obtain ⟨h3, h4⟩ := Z7.1 hx
 have := Zo6.1 (Zp.1 h i k h1 h3 hik)
 rw [h2, h4] at this
 exact absurd this (List.lt_irrefl _)
def U5 (a b : List ByteArray) : List ByteArray := a.filter fun s => !hasS b s
theorem minusS_ris {a : List ByteArray} (b : List ByteArray) (h : Ris a) : Ris (U5 a b) := List.Pairwise.filter _ h
theorem Yj1 (a b : List ByteArray) : decide ((U5 a b).length = 0) = Xo a b := by
 unfold U5 Xo
 induction a with
 | nil => rfl
 | cons x t ih =>
  rw [List.filter_cons, Zc, ← ih]
  cases hasS b x <;> simp
theorem getS1 (s : ByteArray) : getD Z3 9 (strX s) 0 = some (.v (.string s)) := by rw [getD_one aggT_9]; rfl
variable (G : Nat → D) (hG : ∀ g, low 0 (G g))
include hG
attribute [local go_sem] Z9 Zl Zm Zn Z8 Z5 Zi Zj Za Zb Zk nG_0 nG_app nG_last nG_len nG_s0 Xt
attribute [local go_sem ↓] reduceIte
theorem sSorted_d (l : List ByteArray) (hl : l.length ≤ 9223372036854775807) (h : List Ob) : Does Z3 G 200 h [.sl 1 (l.map strX)] (fun h' r => h' = h ∧ r = .v (.bool (Wd l))) := by
 by_cases hsh : l.length ≤ 1
 · rw [Zv1 l hsh]
   refine Y6 Tryz.func200 rfl (Z0 rfl) hG fun hl0 _ => ?_
   simp only [Tryz.ntmps200]
   repeat' first
    | refine g0 ?_
    | fail
   refine Yf (fun m e h' => h' = h ∧ e 0 = .sl 1 (l.map strX) ∧ e 3 = .v (.int .i64 1)) l.length ⟨rfl, rfl, rfl⟩ ?_
   rintro m e h' ⟨rfl, e0, e3⟩
   have F : _ ∧ _ := ⟨e0, e3⟩
   repeat' first
    | (with_reducible refine Ya ?_; refine Y8 mixd (by kernel_rfl) ?_)
    | refine gg ?_
    | refine Two.mk (fun hq => ?_) fun hq => ?_
    | refine Evry.mk fun x hx => ?_
    | (exfalso; omega)
   all_goals first | (exfalso; omega) | exact ⟨.inr rfl, endV hl0 rfl rfl ⟨rfl, rfl⟩⟩
 obtain ⟨x0, t, rfl⟩ : ∃ x t, l = x :: t := by
  cases l with
  | nil => simp at hsh
  | cons x t => exact ⟨x, t, rfl⟩
 generalize hll : x0 :: t = l at *
 have h0 : Wd l = Xk (l[0]'(by omega)) (l.drop 1) := by subst hll; rfl
 refine Y6 Tryz.func200 rfl (Z0 rfl) hG fun hl0 _ => ?_
 simp only [Tryz.ntmps200]
 repeat' first
  | refine g0 ?_
  | fail
 refine Yf (fun m e h' => ∃ (k : Nat) (hk : k < l.length), m = l.length - k ∧ Wd l = Xk l[k] (l.drop (k + 1)) ∧ h' = h ∧ e 0 = .sl 1 (l.map strX) ∧ e 3 = .v (.int .i64 ((k : Int) + 1))) l.length ⟨0, by omega, rfl, h0, rfl, rfl, rfl⟩ ?_
 rintro m e h' ⟨k, hk, rfl, ho, rfl, e0, e3⟩
 by_cases hlt : k + 1 < l.length
 · have hx : l[k]? = some l[k] := Z1 (by omega)
   have hy : l[k + 1]? = some l[k + 1] := Z1 hlt
   rw [Ya2 l k hlt] at ho
   have wk : IntKind.i64.wrap ((k : Int) + 1 + 1) = (k : Int) + 1 + 1 := IntWalk.i64_in _ (by omega)
   have wm : IntKind.i64.wrap ((k : Int) + 1 - 1) = (k : Int) := by rw [show (k : Int) + 1 - 1 = (k : Int) by omega]; exact IntWalk.i64_in _ (by omega)
   have tk : ((k : Int) + 1).toNat = k + 1 := by omega
   unfold J0 at ho
   cases hlt2 : Op.bytesLess l[k].toList l[k + 1].toList
   · generalize l[k] = x at *
     generalize l[k + 1] = y at *
     have F : _ ∧ _ ∧ _ ∧ _ ∧ _ ∧ _ := ⟨e0, e3, wk, wm, tk, hlt2⟩
     repeat' first
      | (with_reducible refine Ya ?_; refine Y8 mixd (by kernel_rfl) ?_)
      | refine gg ?_
      | refine Two.mk (fun hq => ?_) fun hq => ?_
      | (exfalso; omega)
     exact ⟨by simp, endV hl0 rfl rfl ⟨rfl, by rw [ho, hlt2]; rfl⟩⟩
   · rw [hlt2, Zv] at ho
     generalize l[k] = x at *
     have hy' := hy
     generalize hyl : l[k + 1] = y at hy hlt2
     have F : _ ∧ _ ∧ _ ∧ _ ∧ _ ∧ _ := ⟨e0, e3, wk, wm, tk, hlt2⟩
     repeat' first
      | (with_reducible refine Ya ?_; refine Y8 mixd (by kernel_rfl) ?_)
      | refine gg ?_
      | refine Two.mk (fun hq => ?_) fun hq => ?_
      | (exfalso; omega)
     exact ⟨rfl, l.length - (k + 1), by omega, k + 1, hlt, rfl, ho, rfl, e0, rfl⟩
 · skip
   have F : _ ∧ _ := ⟨e0, e3⟩
   repeat' first
    | (with_reducible refine Ya ?_; refine Y8 mixd (by kernel_rfl) ?_)
    | refine gg ?_
    | refine Two.mk (fun hq => ?_) fun hq => ?_
    | refine Evry.mk fun x hx => ?_
    | (exfalso; omega)
   exact ⟨by simp, endV hl0 rfl rfl ⟨rfl, by rw [ho, Z2 (by omega)]; rfl⟩⟩
theorem sHas_b (l : List ByteArray) (c : ByteArray) (hl : l.length ≤ 1000000) {h : List Ob} {i n : Nat} (hi : h[i]? = some (.buf 9 1 (l.map strX))) (hn : l.length = n) : Does Z3 G 110 h [.buf i n, .v (.string c)] (fun h' r => h' = h ∧ r = .v (.bool (hasS l c))) :=
 Does.borrow hG hi (by rw [Z5]; exact hn) (by simp [lowL, low]) (W2 _ _) (sHas_d G hG l c (by omega) [])
theorem sOf0 (l : List ByteArray) (hr : Ris l) (hsz : l.length ≤ 1000000) : Does Z3 G 111 [] [.sl 1 (l.map strX)] (fun h' r => h' = [.buf 9 1 (l.map strX)] ∧ r = .buf 0 l.length) := by
 refine Does.only0 hG (W2 _ _) (K := fun h' r => ∃ i, h'[i]? = some (.buf 9 1 (l.map strX)) ∧ r = .buf i l.length) ?_ (fun _ _ h => h)
 refine Ji Tryz.func111 rfl (Z0 rfl) ?_
 simp only [Tryz.ntmps111]
 repeat' first
  | refine g0 ?_
  | fail
 refine Yf (fun m e h' => ∃ (k : Nat) (T : List Ob), k ≤ l.length ∧ m = l.length - k ∧ h' = nG ((l.take k).map strX) T ∧ e 0 = .sl 1 (l.map strX) ∧ e 3 = .buf 0 (l.take k).length ∧ e 4 = .v (.int .i64 k)) l.length ⟨0, [], Z6 _, rfl, rfl, rfl, rfl, rfl⟩ ?_
 rintro m e h' ⟨k, T, hk, rfl, rfl, e0, e3, e4⟩
 by_cases hlt : k < l.length
 rotate_left
 · obtain rfl : k = l.length := by omega
   rw [Zf (Zq _)] at e3 ⊢
   have F : _ ∧ _ ∧ _ := ⟨e0, e3, e4⟩
   repeat' first
    | refine gg ?_
    | refine Two.mk (fun hq => ?_) fun hq => ?_
    | refine Evry.mk fun x hx => ?_
    | (exfalso; omega)
   exact ⟨.inr rfl, [.buf 0 l.length], rfl, 0, rfl, rfl⟩
 have hx : l[k]? = some l[k] := Z1 hlt
 generalize l[k] = x at hx
 have htk : (l.take (k + 1)).map strX = (l.take k).map strX ++ [strX x] := by rw [List.take_add_one, hx]; simp
 have hno := hr.new hx
 have hkl : (l.take k).length = k := by rw [Zs]; omega
 have wk : IntKind.i64.wrap ((k : Int) + 1) = (k : Int) + 1 := IntWalk.i64_in _ (by omega)
 have w5 : IntKind.i64.wrap (((k + 1 : Nat) : Int) - 1) = (k : Int) := by rw [show (((k + 1 : Nat) : Int) - 1) = (k : Int) by omega]; exact IntWalk.i64_in _ (by omega)
 have hb : ∀ T, Does Z3 G 110 (nG ((l.take k).map strX) T) [.buf 0 (l.take k).length, .v (.string x)] (fun h' r => h' = nG ((l.take k).map strX) T ∧ r = .v (.bool false)) := fun T => hno ▸ sHas_b G hG (l.take k) x (by omega) nG_0 rfl
 generalize hP : l.take k = P at *
 have F : _ ∧ _ ∧ _ ∧ _ := ⟨e0, e3, e4, wk⟩
 repeat' first
  | (with_reducible refine Y7 ?_; refine W1 rfl rfl rfl rfl (by (simp only [go_sem, F]; rfl)) (by simp) (by simp only [go_sem, F]; rfl) (by (simp only [go_sem, F]; rfl)) (by simp) (by (simp [X3, D.one, Value.oneCell']; done)) (by (simp; omega)) ?_)
  | refine gg ?_
  | refine Two.mk (fun hq => ?_) fun hq => ?_
  | (with_reducible refine Y7 ?_; refine gc rfl rfl rfl Zn6 (hb _) ?_)
  | (exfalso; omega)
 refine Yf (fun m e h' => ∃ U : List Ob, h' = nG ((l.take (k + 1)).map strX) U ∧ e 0 = .sl 1 (l.map strX) ∧ e 3 = .buf 0 (k + 1) ∧ e 4 = .v (.int .i64 k) ∧ e 5 = .v (.int .i64 k)) 0 ⟨_, by rw [htk]; rfl, e0, by show D.buf 0 (P.length + 1) = _; rw [hkl], e4, by show D.v (.int .i64 (IntKind.i64.wrap (((P.length + 1 : Nat) : Int) - 1))) = _; rw [hkl, w5]⟩ ?_
 clear e0 e3 e4 w5
 rintro m e h' ⟨U, rfl, e0, e3, e4, e5⟩
 have hrl : ((l.take (k + 1)).map strX).length = k + 1 := by rw [Z5, Zs]; omega
 rcases Nat.eq_zero_or_pos k with h0 | h0
 · subst h0
   have F : _ ∧ _ ∧ _ ∧ _ := ⟨e0, e3, e4, e5⟩
   repeat' first
    | (with_reducible refine Ya ?_; refine Y8 mixd (by kernel_rfl) ?_)
    | refine gg ?_
    | refine Two.mk (fun hq => ?_) fun hq => ?_
    | (exfalso; omega)
   all_goals first | (exfalso; omega) | exact ⟨rfl, l.length - 1, by omega, 1, U, by omega, rfl, rfl, e0, by show e 3 = _; rw [e3, ← hrl, Z5], rfl⟩
 obtain ⟨j, rfl⟩ : ∃ j, k = j + 1 := ⟨k - 1, by omega⟩
 have hy : l[j]? = some l[j] := Z1 (by omega)
 generalize l[j] = y at hy
 have hless := hr.at hy hx (Nat.lt_succ_self j)
 have gp : decide ((0 : Int) < ((j + 1 : Nat) : Int)) = true := decide_eq_true (by omega)
 have wm : IntKind.i64.wrap (((j + 1 : Nat) : Int) - 1) = (j : Int) := by rw [show ((j + 1 : Nat) : Int) - 1 = (j : Int) by omega]; exact IntWalk.i64_in _ (by omega)
 have hyr : ((l.take (j + 1 + 1)).map strX)[((j : Nat) : Int).toNat]? = some (strX y) := by rw [Z8, Zr, Zd (by omega), hy]; rfl
 have hxr : ((l.take (j + 1 + 1)).map strX)[((j + 1 : Nat) : Int).toNat]? = some (strX x) := by rw [Z8, Zr, Zd (by omega), hx]; rfl
 have hlq : (l.take (j + 1 + 1)).length = j + 1 + 1 := by rw [Z5] at hrl; exact hrl
 generalize hrw : (l.take (j + 1 + 1)).map strX = rows at *
 have F : _ ∧ _ ∧ _ ∧ _ ∧ _ ∧ _ ∧ _ ∧ _ := ⟨e0, e3, e4, e5, wk, wm, gp, hless⟩
 repeat' first
  | (with_reducible refine Ya ?_; refine X7 mixd (by kernel_rfl) ?_)
  | ((with_reducible refine Uf ?_); first | (refine aS_idxB rfl rfl rfl rfl nG_0 hrl (by rw [elT_22]; exact szT_9) (by omega) (by omega) ?_) | (refine Zz1 rfl rfl rfl nG_0 hrl hyr (getS1 _) ?_) | (refine Zz1 rfl rfl rfl nG_0 hrl hxr (getS1 _) ?_) | (refine aS1 rfl rfl fun K HK => ?_; (first | refine Ym rfl ?_ | skip); simp only [go_sem, F] <;> (refine HK _ _ rfl ?_; clear HK K)) | refine Wv (by simp only [List.reverse_cons, List.reverse_nil, List.nil_append, List.cons_append, Wc, chk1]; repeat' (first | exact trivial | refine And.intro ?_ ?_ | exact .inr Yq | exact .inr Yx | exact .inr X9)) ?_)
  | refine g0 ?_
  | fail
 exact ⟨rfl, l.length - (j + 1 + 1), by omega, j + 1 + 1, U, by omega, rfl, hrw.symm ▸ rfl, e0, by show e 3 = _; rw [e3, hlq], rfl⟩
end
section
attribute [local irreducible] on aOp
attribute [local go_sem] decide_true decide_false Zh Ze
attribute [local simp] byD_len
theorem Zj2 (r : Rl) : Zk4 r = [.sl 1 (r.cond.map strX), .v (.string r.concl)] := rfl
def gM (A : Ob) (T : List Ob) : List Ob := A :: T
section
variable {A y y' : Ob} {T l : List Ob}
theorem gM_0 : (gM A T)[0]? = some A := rfl
theorem gM_len : (gM A T).length = T.length + 1 := rfl
theorem gM_app : gM A T ++ l = gM A (T ++ l) := rfl
theorem gM_l : (gM A (T ++ [y]))[T.length + 1]? = some y := by simp [gM]
theorem gM_sl : (gM A (T ++ [y])).set (T.length + 1) y' = gM A (T ++ [y']) := by simp [gM]
end
variable (G : Nat → D) (hG : ∀ g, low 0 (G g))
include hG
theorem rShape_d (l : Lat) (hsm : Sm l) (h : List Ob) : Does Z3 G 196 h [.agg (latX l)] (fun h' r => h' = h ∧ r = .v (.bool (!V0 l))) := by
 refine Y9 G hG (Xy _ l) (by rw [low]; trivial) ?_ h
 clear h
 unfold V0
 have hpl := hsm.parts
 have hnl := hsm.names
 have hrl := hsm.rules
 generalize hkk : l.kind = k
 generalize hlo : l.lo = lo
 generalize hhi : l.hi = hi
 generalize hnn : l.names.length = nn at *
 generalize hnp : l.parts.length = np at *
 generalize hnr : l.rules.length = nr at *
 refine Y6 Tryz.func196 rfl (Z0 rfl) hG fun hl0 _ => ?_
 simp only [Tryz.ntmps196]
 repeat' first
  | (with_reducible first | refine sA rfl ?_ | refine sI rfl rfl ?_ | refine sT rfl ?_ | refine sB rfl ?_)
  | (with_reducible refine Y7 ?_; first | refine Yp ?_ | (refine ao1 rfl rfl fun K HK => ?_; (first | refine Ym rfl ?_ | skip); simp only [go_sem, ↓reduceIte, Za, Zi, Zb, Zj, Zk, Zl, Zn, Zm, Y4, Z5, hkk, hlo, hhi, hnn, hnp, hnr, Z9]; (first | refine Yt (fun hq => ?_) (fun hq => ?_) | refine Ya1 (fun hq => ?_) (fun hq => ?_) | skip) <;> (refine HK _ _ ?_; clear HK K)) | refine ao0 rfl rfl ?_)
  | (exfalso; omega)
 all_goals first | (exfalso; omega) | refine ⟨.inr rfl, endV hl0 rfl rfl ⟨rfl, congrArg (fun b => D.v (.bool b)) ?_⟩⟩
 all_goals
  clear hl0
  rw [Zt]
  first
  | (rw [Zo7 (by omega) (by omega) (by omega)]; simp; done)
  | (rw [Ze7 (by omega) (by omega)]; simp; done)
  | (rw [Ya8 (by omega)]; simp; done)
  | (simp_all [Za0, Vo]; done)
  | (simp_all [Za0, Vo]; omega)
end
section
attribute [local irreducible] on aOp
attribute [local go_sem] decide_true decide_false Zh Ze
attribute [local simp] byD_len
def bM (A : Ob) (T : List Ob) : List Ob := A :: T
section
variable {A B y y' : Ob} {T l : List Ob}
theorem bM_0 : (bM A T)[0]? = some A := rfl
theorem bM_s0 : (bM A T).set 0 B = bM B T := rfl
theorem bM_len : (bM A T).length = T.length + 1 := rfl
theorem bM_app : bM A T ++ l = bM A (T ++ l) := rfl
theorem bM_l : (bM A (T ++ [y]))[T.length + 1]? = some y := by simp [bM]
theorem bM_sl : (bM A (T ++ [y])).set (T.length + 1) y' = bM A (T ++ [y']) := by simp [bM]
end
theorem Jc (m : Nat) (l : List Tk) : low m (.sl 2 (l.map tkX)) := Xp m l fun x _ => low_tk m x
theorem low_ens2 (m : Nat) (l : List En) : low m (.sl 2 (l.map enX)) := Xp m l fun x _ => Yj4 m x
theorem clock_go {c : List Tk} {k : Nat} {x : Tk} {p : Int} (h : c.drop k = x :: c.drop (k + 1)) : Xa p (c.drop k) = (Yg3 p x && Xa x.process (c.drop (k + 1))) := by rw [h, Xa]
variable (G : Nat → D) (hG : ∀ g, low 0 (G g))
include hG
attribute [local go_sem] Z9 Zl Zm Zn Z8 Z5 Zi Zj Za Zb Zk Zj2 Xt tM_app tM_l tM_len tM_sl Zo4
attribute [local go_sem ↓] reduceIte
theorem Zo2 (v : Val) (hv : VSm v) (n li pa en : Bool) (h : List Ob) : Does Z3 G 157 h [.agg (vaX v), .v (.bool n), .v (.bool li), .v (.bool pa), .v (.bool en)] (fun h' r => h' = h ∧ r = .v (.bool (Vm v n li pa en))) := by
 refine Y9 G hG (by simp only [lowL, low]; exact ⟨Yd _ v, trivial, trivial, trivial, trivial, trivial⟩) (by rw [low]; trivial) ?_ h
 clear h
 have h1 := hv.names
 have h2 := hv.parts
 have h3 := hv.entries
 unfold Vm
 generalize hn : v.n = m
 generalize hx : v.names.length = a at *
 generalize hy : v.parts.length = b at *
 generalize hz : v.entries.length = c at *
 refine Y6 Tryz.func157 rfl (Z0 rfl) hG fun hl0 _ => ?_
 simp only [Tryz.ntmps157]
 cases n <;> cases li <;> cases pa <;> cases en
 all_goals
  skip
  have F : _ ∧ _ ∧ _ ∧ _ ∧ _ := ⟨Y5, hn, hx, hy, hz⟩
  repeat' first
   | refine gg ?_
   | refine Two.mk (fun hq => ?_) fun hq => ?_
  all_goals first | (exfalso; omega) | refine ⟨.inr rfl, endV hl0 rfl rfl ⟨rfl, congrArg (fun b => D.v (.bool b)) ?_⟩⟩
  all_goals
   clear hl0
   rw [Zt]
   simp
   try omega
theorem allowed_d (only list : List ByteArray) (ho : only.length ≤ 9223372036854775807) (hl : list.length ≤ 9223372036854775807) (hs : ∀ s ∈ list, s.size ≤ 9223372036854775807) (h : List Ob) : Does Z3 G 158 h [.sl 1 (only.map strX), .sl 1 (list.map strX)] (fun h' r => h' = h ∧ r = .v (.bool (Yi only list))) := by
 refine Y9 G hG (by simp only [lowL]; exact ⟨W2 _ only, W2 _ list, trivial⟩) (by rw [low]; trivial) ?_ h
 clear h
 unfold Yi
 have hso := Ya5 G hG list hl
 refine Y6 Tryz.func158 rfl (Z0 rfl) hG fun hl0 _ => ?_
 simp only [Tryz.ntmps158]
 cases hsb : Wd list <;> rw [hsb] at hso
 · skip
   repeat' first
    | refine g0 ?_
    | (with_reducible refine Y7 ?_; refine gc rfl rfl rfl Zh6 (hso _) ?_)
   exact ⟨.inr rfl, endV hl0 rfl rfl ⟨rfl, rfl⟩⟩
 rw [Zv]
 repeat' first
  | refine g0 ?_
  | (with_reducible refine Y7 ?_; refine gc rfl rfl rfl Zh6 (hso _) ?_)
 refine Yf (fun m e h' => ∃ k : Nat, k ≤ list.length ∧ m = list.length - k ∧ list.all (memB only) = (list.drop k).all (memB only) ∧ h' = [] ∧ e 0 = .sl 1 (only.map strX) ∧ e 10 = .sl 1 (list.map strX) ∧ e 11 = .v (.int .i64 list.length) ∧ e 12 = .v (.int .i64 k)) list.length ⟨0, Z6 _, rfl, rfl, rfl, rfl, rfl, rfl, rfl⟩ ?_
 rintro m e h' ⟨k, hk, rfl, hh, rfl, e0, e10, e11, e12⟩
 by_cases hlt : k < list.length
 · have hx : list[k]? = some list[k] := Z1 hlt
   have wk : IntKind.i64.wrap ((k : Int) + 1) = ((k + 1 : Nat) : Int) := IntWalk.i64_in _ (by omega)
   rw [Z4 hlt, Zc] at hh
   have hn := Zm8 G hG list[k] (hs _ (Zg hlt))
   generalize list[k] = x at hx hn hh
   have hha := hasS_d G hG only x ho
   have em : memB only x = (Wo x && (decide (only.length = 0) || hasS only x)) := rfl
   cases hnb : Wo x <;> rw [hnb] at hn em
   · rw [em] at hh
     rw [hh]
     have F : _ ∧ _ ∧ _ ∧ _ ∧ _ := ⟨e0, e10, e11, e12, wk⟩
     repeat' first
      | refine gg ?_
      | refine Two.mk (fun hq => ?_) fun hq => ?_
      | (with_reducible refine Y7 ?_; refine gc rfl rfl rfl Uv (hn _) ?_)
      | (exfalso; omega)
     exact ⟨.inr rfl, endV hl0 rfl rfl ⟨rfl, rfl⟩⟩
   by_cases hz : only.length = 0
   · rw [em, decide_eq_true hz] at hh
     have F : _ ∧ _ ∧ _ ∧ _ ∧ _ := ⟨e0, e10, e11, e12, wk⟩
     repeat' first
      | refine gg ?_
      | refine Two.mk (fun hq => ?_) fun hq => ?_
      | (with_reducible refine Y7 ?_; refine gc rfl rfl rfl Uv (hn _) ?_)
      | (exfalso; omega)
     all_goals first | (exfalso; omega) | exact ⟨rfl, list.length - (k + 1), by omega, k + 1, hlt, rfl, hh, rfl, e0, e10, e11, rfl⟩
   · rw [em, decide_eq_false hz] at hh
     cases hhb : hasS only x <;> rw [hhb] at hha hh
     · rw [hh]
       have F : _ ∧ _ ∧ _ ∧ _ ∧ _ := ⟨e0, e10, e11, e12, wk⟩
       repeat' first
        | refine gg ?_
        | refine Two.mk (fun hq => ?_) fun hq => ?_
        | (with_reducible refine Y7 ?_; first | refine gc rfl rfl rfl Uv (hn _) ?_ | refine gc rfl rfl rfl Zh8 (hha _) ?_)
        | (exfalso; omega)
       all_goals first | (exfalso; omega) | exact ⟨.inr rfl, endV hl0 rfl rfl ⟨rfl, rfl⟩⟩
     · skip
       have F : _ ∧ _ ∧ _ ∧ _ ∧ _ := ⟨e0, e10, e11, e12, wk⟩
       repeat' first
        | refine gg ?_
        | refine Two.mk (fun hq => ?_) fun hq => ?_
        | (with_reducible refine Y7 ?_; first | refine gc rfl rfl rfl Uv (hn _) ?_ | refine gc rfl rfl rfl Zh8 (hha _) ?_)
        | (exfalso; omega)
       all_goals first | (exfalso; omega) | exact ⟨rfl, list.length - (k + 1), by omega, k + 1, hlt, rfl, hh, rfl, e0, e10, e11, rfl⟩
 · rw [Z2 (by omega)] at hh
   rw [hh]
   have F : _ ∧ _ ∧ _ ∧ _ := ⟨e0, e10, e11, e12⟩
   repeat' first
    | refine gg ?_
    | refine Two.mk (fun hq => ?_) fun hq => ?_
    | refine Evry.mk fun x hx => ?_
    | (exfalso; omega)
   exact ⟨.inr rfl, endV hl0 rfl rfl ⟨rfl, rfl⟩⟩
theorem closed_d (rs : List Rl) (list : List ByteArray) (hr : rs.length ≤ 9223372036854775807) (hc : ∀ r ∈ rs, r.cond.length ≤ 9223372036854775807) (hl : list.length ≤ 9223372036854775807) (h : List Ob) : Does Z3 G 159 h [.sl 2 (rs.map Zk4), .sl 1 (list.map strX)] (fun h' r => h' = h ∧ r = .v (.bool (V3 rs list))) := by
 refine Y9 G hG (by simp only [lowL]; exact ⟨Yc8 _ rs, W2 _ list, trivial⟩) (by rw [low]; trivial) ?_ h
 clear h
 unfold V3
 refine Y6 Tryz.func159 rfl (Z0 rfl) hG fun hl0 _ => ?_
 simp only [Tryz.ntmps159]
 repeat' first
  | refine g0 ?_
  | fail
 refine Yf (fun m e h' => ∃ (k : Nat) (T : List Ob), k ≤ rs.length ∧ m = rs.length - k ∧ (rs.all fun r => !Xo r.cond list || hasS list r.concl) = ((rs.drop k).all fun r => !Xo r.cond list || hasS list r.concl) ∧ h' = tM T ∧ e 1 = .sl 1 (list.map strX) ∧ e 7 = .sl 2 (rs.map Zk4) ∧ e 8 = .v (.int .i64 rs.length) ∧ e 9 = .v (.int .i64 k)) rs.length ⟨0, [], Z6 _, rfl, rfl, rfl, rfl, rfl, rfl, rfl⟩ ?_
 rintro m e h' ⟨k, T, hk, rfl, hh, rfl, e1, e7, e8, e9⟩
 by_cases hlt : k < rs.length
 · have hx : rs[k]? = some rs[k] := Z1 hlt
   have wk : IntKind.i64.wrap ((k : Int) + 1) = ((k + 1 : Nat) : Int) := IntWalk.i64_in _ (by omega)
   rw [Z4 hlt, Zc] at hh
   have hc := hc _ (Zg hlt)
   generalize rs[k] = x at hx hh hc
   have hsu := Ya0 G hG x.cond list hc hl
   have hha := hasS_d G hG list x.concl hl
   cases hb1 : Xo x.cond list <;> rw [hb1] at hsu hh
   · skip
     have F : _ ∧ _ ∧ _ ∧ _ ∧ _ := ⟨e1, e7, e8, e9, wk⟩
     repeat' first
      | refine gg ?_
      | refine Two.mk (fun hq => ?_) fun hq => ?_
      | (with_reducible refine Y7 ?_; refine gc rfl rfl rfl Zn5 (hsu _) ?_)
      | (exfalso; omega)
     exact ⟨rfl, rs.length - (k + 1), by omega, k + 1, _, hlt, rfl, hh, rfl, e1, e7, e8, rfl⟩
   · cases hb2 : hasS list x.concl <;> rw [hb2] at hha hh
     · rw [hh]
       have F : _ ∧ _ ∧ _ ∧ _ ∧ _ := ⟨e1, e7, e8, e9, wk⟩
       repeat' first
        | refine gg ?_
        | refine Two.mk (fun hq => ?_) fun hq => ?_
        | (with_reducible refine Y7 ?_; first | refine gc rfl rfl rfl Zn5 (hsu _) ?_ | refine gc rfl rfl rfl Zh8 (hha _) ?_)
        | (exfalso; omega)
       exact ⟨.inr rfl, endV hl0 rfl rfl ⟨rfl, rfl⟩⟩
     · skip
       have F : _ ∧ _ ∧ _ ∧ _ ∧ _ := ⟨e1, e7, e8, e9, wk⟩
       repeat' first
        | refine gg ?_
        | refine Two.mk (fun hq => ?_) fun hq => ?_
        | (with_reducible refine Y7 ?_; first | refine gc rfl rfl rfl Zn5 (hsu _) ?_ | refine gc rfl rfl rfl Zh8 (hha _) ?_)
        | (exfalso; omega)
       exact ⟨rfl, rs.length - (k + 1), by omega, k + 1, _, hlt, rfl, hh, rfl, e1, e7, e8, rfl⟩
 · rw [Z2 (by omega)] at hh
   rw [hh]
   have F : _ ∧ _ ∧ _ ∧ _ := ⟨e1, e7, e8, e9⟩
   repeat' first
    | refine gg ?_
    | refine Two.mk (fun hq => ?_) fun hq => ?_
    | refine Evry.mk fun x hx => ?_
    | (exfalso; omega)
   exact ⟨.inr rfl, endV hl0 rfl rfl ⟨rfl, rfl⟩⟩
theorem Ur (c : List Tk) (hc : c.length ≤ 9223372036854775807) (h : List Ob) : Does Z3 G 218 h [.sl 2 (c.map tkX)] (fun h' r => h' = h ∧ r = .v (.bool (Xm c))) := by
 refine Y9 G hG (by simp only [lowL]; exact ⟨Jc _ c, trivial⟩) (by rw [low]; trivial) ?_ h
 clear h
 unfold Xm
 refine Y6 Tryz.func218 rfl (Z0 rfl) hG fun hl0 _ => ?_
 simp only [Tryz.ntmps218]
 repeat' first
  | refine g0 ?_
  | fail
 refine Yf (fun m e h' => ∃ (k : Nat) (p : Int) (T : List Ob), k ≤ c.length ∧ m = c.length - k ∧ Xa (-1) c = Xa p (c.drop k) ∧ h' = tM T ∧ e 3 = .v (.int .i64 p) ∧ e 6 = .sl 2 (c.map tkX) ∧ e 7 = .v (.int .i64 c.length) ∧ e 8 = .v (.int .i64 k)) c.length ⟨0, -1, [], Z6 _, rfl, rfl, rfl, rfl, rfl, rfl, rfl⟩ ?_
 rintro m e h' ⟨k, p, T, hk, rfl, hh, rfl, e3, e6, e7, e8⟩
 by_cases hlt : k < c.length
 · have hx : c[k]? = some c[k] := Z1 hlt
   have wk : IntKind.i64.wrap ((k : Int) + 1) = ((k + 1 : Nat) : Int) := IntWalk.i64_in _ (by omega)
   rw [clock_go (Z4 hlt)] at hh
   generalize c[k] = x at hx hh
   have F : _ ∧ _ ∧ _ ∧ _ ∧ _ := ⟨e3, e6, e7, e8, wk⟩
   repeat' first
    | refine gg ?_
    | refine Two.mk (fun hq => ?_) fun hq => ?_
    | (exfalso; omega)
   all_goals first
   | (exfalso; omega)
   | exact ⟨rfl, c.length - (k + 1), by omega, k + 1, x.process, _, hlt, rfl, by rw [hh, Yg3, decide_eq_true (by omega)]; rfl, rfl, rfl, e6, e7, rfl⟩
   | exact ⟨.inr rfl, endD (r := .v (.bool false)) hl0 rfl (by simp) (by simp) rfl (by rw [low]; trivial) ⟨rfl, by rw [hh, Yg3, decide_eq_false (by omega)]; rfl⟩⟩
 · rw [Z2 (by omega)] at hh
   rw [hh]
   have F : _ ∧ _ ∧ _ ∧ _ := ⟨e3, e6, e7, e8⟩
   repeat' first
    | refine gg ?_
    | refine Two.mk (fun hq => ?_) fun hq => ?_
    | refine Evry.mk fun x hx => ?_
    | (exfalso; omega)
   exact ⟨.inr rfl, endV hl0 rfl rfl ⟨rfl, rfl⟩⟩
theorem minusCh_d (m n : Int) (h : List Ob) : Does Z3 G 257 h [.v (.int .i64 m), .v (.int .i64 n)] (fun h' r => h' = h ∧ r = .v (.int .i64 (Zm9 m n))) := by
 unfold Zm9
 refine Y6 Tryz.func257 rfl (Z0 rfl) hG fun hl0 _ => ?_
 simp only [Tryz.ntmps257]
 repeat' first
  | refine gg ?_
  | refine Two.mk (fun hq => ?_) fun hq => ?_
 all_goals exact ⟨.inr rfl, endV hl0 rfl rfl ⟨rfl, by first | rw [if_pos (by omega)] | rw [if_neg (by omega)]⟩⟩
end
section
attribute [local irreducible] on aOp
attribute [local go_sem] decide_true decide_false Zh Ze
attribute [local simp] byD_len
theorem minusS_step {a b : List ByteArray} {k : Nat} {x : ByteArray} (hx : a[k]? = some x) : U5 (a.take (k + 1)) b = U5 (a.take k) b ++ (if hasS b x then [] else [x]) := by
 unfold U5
 rw [List.take_add_one, hx, Option.toList_some, List.filter_append]
 cases h : hasS b x <;> simp [h]
theorem Yj2 (a b : List ByteArray) : (U5 a b).length ≤ a.length := List.length_filter_le _ _
variable (G : Nat → D) (hG : ∀ g, low 0 (G g))
include hG
theorem sOf_b (l : List ByteArray) (hr : Ris l) (hsz : l.length ≤ 1000000) {h : List Ob} {i n : Nat} (hi : h[i]? = some (.buf 9 1 (l.map strX))) (hn : l.length = n) : Does Z3 G 111 h [.buf i n] (fun h' r => h' = h.set i .dead ++ [.buf 9 1 (l.map strX)] ∧ r = .buf (h.set i .dead).length l.length) :=
 Does.give1c hi (by rw [Z5]; exact hn) (does_newR hG (W2 _ _) (by rw [lowL, lowL]; exact ⟨W2 _ _, trivial⟩) (sOf0 G hG l hr hsz) _)
attribute [local go_sem] Z9 Zl Zm Zn Z8 Z5 Zi Zj Za Zb Zk nG_0 nG_app nG_last nG_len nG_s0 Zj2 Xt
attribute [local go_sem ↓] reduceIte
theorem sMinus0 (a b : List ByteArray) (hr : Ris a) (ha : a.length ≤ 1000000) (hb : b.length ≤ 1000000) : Does Z3 G 52 [] [.sl 1 (a.map strX), .sl 1 (b.map strX)] (fun h' r => h' = [.buf 9 1 ((U5 a b).map strX)] ∧ r = .buf 0 (U5 a b).length) := by
 refine Does.only0 hG (W2 _ _) (K := fun h' r => ∃ i, h'[i]? = some (.buf 9 1 ((U5 a b).map strX)) ∧ r = .buf i (U5 a b).length) ?_ (fun _ _ h => h)
 refine Ji Tryz.func52 rfl (Z0 rfl) ?_
 simp only [Tryz.ntmps52]
 repeat' first
  | refine g0 ?_
  | fail
 refine Yf (fun m e h' => ∃ (k : Nat) (T : List Ob), k ≤ a.length ∧ m = a.length - k ∧ h' = nG ((U5 (a.take k) b).map strX) T ∧ e 0 = .sl 1 (a.map strX) ∧ e 1 = .sl 1 (b.map strX) ∧ e 5 = .buf 0 (U5 (a.take k) b).length ∧ e 6 = .v (.int .i64 k)) a.length ⟨0, [], Z6 _, rfl, rfl, rfl, rfl, rfl, rfl⟩ ?_
 rintro m e h' ⟨k, T, hk, rfl, rfl, e0, e1, e5, e6⟩
 by_cases hlt : k < a.length
 rotate_left
 · have hml := Yj2 a b
   rw [Zf (by omega)] at e5 ⊢
   have hof := fun T => sOf_b G hG (U5 a b) (minusS_ris b hr) (by omega) (h := nG ((U5 a b).map strX) T) nG_0 rfl
   have F : _ ∧ _ ∧ _ ∧ _ := ⟨e0, e1, e5, e6⟩
   repeat' first
    | refine gg ?_
    | refine Two.mk (fun hq => ?_) fun hq => ?_
    | refine Evry.mk fun x hx => ?_
    | (with_reducible refine Y7 ?_; refine gc rfl rfl rfl ent_111 (hof _) ?_)
    | (exfalso; omega)
   exact ⟨.inr rfl, [.buf ((nG ((U5 a b).map strX) T).set 0 .dead).length (U5 a b).length], rfl, ((nG ((U5 a b).map strX) T).set 0 .dead).length, by simp, rfl⟩
 have hx : a[k]? = some a[k] := Z1 hlt
 generalize a[k] = x at hx
 have hst := minusS_step (b := b) hx
 have hh := sHas_d G hG b x (by omega)
 have wk : IntKind.i64.wrap ((k : Int) + 1) = (k : Int) + 1 := IntWalk.i64_in _ (by omega)
 have hpl := Yj2 (a.take k) b
 rw [Zs] at hpl
 generalize U5 (a.take k) b = p at *
 cases hxb : hasS b x <;> rw [hxb] at hh hst
 · skip
   have F : _ ∧ _ ∧ _ ∧ _ ∧ _ := ⟨e0, e1, e5, e6, wk⟩
   repeat' first
    | (with_reducible refine Y7 ?_; refine W1 rfl rfl rfl rfl (by (simp only [go_sem, F]; rfl)) (by simp) (by simp only [go_sem, F]; rfl) (by (simp only [go_sem, F]; rfl)) (by simp) (by (simp [X3, D.one, Value.oneCell']; done)) (by (simp; omega)) ?_)
    | refine gg ?_
    | refine Two.mk (fun hq => ?_) fun hq => ?_
    | (with_reducible refine Y7 ?_; refine gc rfl rfl rfl Zn6 (hh _) ?_)
    | (exfalso; omega)
   exact ⟨rfl, a.length - (k + 1), by omega, k + 1, _, hlt, rfl, by rw [hst, if_neg (by simp), List.map_append]; rfl, e0, e1, by rw [hst, if_neg (by simp)]; simp [upd], rfl⟩
 · skip
   have F : _ ∧ _ ∧ _ ∧ _ ∧ _ := ⟨e0, e1, e5, e6, wk⟩
   repeat' first
    | refine gg ?_
    | refine Two.mk (fun hq => ?_) fun hq => ?_
    | (with_reducible refine Y7 ?_; refine gc rfl rfl rfl Zn6 (hh _) ?_)
    | (exfalso; omega)
   exact ⟨rfl, a.length - (k + 1), by omega, k + 1, _, hlt, rfl, by rw [hst, if_pos rfl, List.append_nil], e0, e1, by rw [hst, if_pos rfl, List.append_nil]; exact e5, rfl⟩
theorem sSubset_d (a b : List ByteArray) (hr : Ris a) (ha : a.length ≤ 1000000) (hb : b.length ≤ 1000000) (h : List Ob) : Does Z3 G 108 h [.sl 1 (a.map strX), .sl 1 (b.map strX)] (fun h' r => h' = h ∧ r = .v (.bool (Xo a b))) := by
 have hm := Does.gave0 hG (W2 _ _) (by rw [lowL, lowL, lowL]; exact ⟨W2 _ _, W2 _ _, trivial⟩) (by rw [Z5]) (sMinus0 G hG a b hr ha hb)
 refine Y6 Tryz.func108 rfl (Z0 rfl) hG fun hl0 _ => ?_
 simp only [Tryz.ntmps108]
 repeat' first
  | refine gg ?_
  | refine Two.mk (fun hq => ?_) fun hq => ?_
  | (with_reducible refine Y7 ?_; refine gc rfl rfl rfl ent_52 (hm _) ?_)
 · exact ⟨.inr rfl, endV hl0 rfl rfl ⟨rfl, by rw [← Yj1, decide_eq_true (by omega)]⟩⟩
 · exact ⟨.inr rfl, endV hl0 rfl rfl ⟨rfl, by rw [← Yj1, decide_eq_false (by omega)]⟩⟩
theorem rmembers_d (only list : List ByteArray) (ho : only.length ≤ 9223372036854775807) (hl : list.length ≤ 9223372036854775807) (hs : ∀ s ∈ list, s.size ≤ 9223372036854775807) (h : List Ob) : Does Z3 G 135 h [.sl 1 (only.map strX), .sl 1 (list.map strX)] (fun h' r => h' = h ∧ r = .v (.bool (Yi only list))) := by
 refine Y9 G hG (by simp only [lowL]; exact ⟨W2 _ only, W2 _ list, trivial⟩) (by rw [low]; trivial) ?_ h
 clear h
 unfold Yi
 have hso := sSorted_d G hG list hl
 refine Y6 Tryz.func135 rfl (Z0 rfl) hG fun hl0 _ => ?_
 simp only [Tryz.ntmps135]
 repeat' first
  | refine g0 ?_
  | fail
 refine Yf (fun m e h' => ∃ k : Nat, k ≤ list.length ∧ m = list.length - k ∧ list.all (memB only) = (list.drop k).all (memB only) ∧ h' = [] ∧ e 0 = .sl 1 (only.map strX) ∧ e 1 = .sl 1 (list.map strX) ∧ e 5 = .v (.int .i64 k)) list.length ⟨0, Z6 _, rfl, rfl, rfl, rfl, rfl, rfl⟩ ?_
 rintro m e h' ⟨k, hk, rfl, hh, rfl, e0, e1, e5⟩
 by_cases hlt : k < list.length
 · have hx : list[k]? = some list[k] := Z1 hlt
   have wk : IntKind.i64.wrap ((k : Int) + 1) = ((k + 1 : Nat) : Int) := IntWalk.i64_in _ (by omega)
   rw [Z4 hlt, Zc] at hh
   have hn := sValid_d G hG list[k] (hs _ (Zg hlt))
   generalize list[k] = x at hx hn hh
   have hha := sHas_d G hG only x ho
   have em : memB only x = (Wo x && (decide (only.length = 0) || hasS only x)) := rfl
   cases hnb : Wo x <;> rw [hnb] at hn em
   · rw [em] at hh
     rw [hh]
     have F : _ ∧ _ ∧ _ ∧ _ := ⟨e0, e1, e5, wk⟩
     repeat' first
      | refine gg ?_
      | refine Two.mk (fun hq => ?_) fun hq => ?_
      | (with_reducible refine Y7 ?_; refine gc rfl rfl rfl Zh7 (hn _) ?_)
      | (exfalso; omega)
     exact ⟨.inr rfl, endV hl0 rfl rfl ⟨rfl, by simp⟩⟩
   by_cases hz : only.length = 0
   · rw [em, decide_eq_true hz] at hh
     have F : _ ∧ _ ∧ _ ∧ _ := ⟨e0, e1, e5, wk⟩
     repeat' first
      | refine gg ?_
      | refine Two.mk (fun hq => ?_) fun hq => ?_
      | (with_reducible refine Y7 ?_; refine gc rfl rfl rfl Zh7 (hn _) ?_)
      | (exfalso; omega)
     all_goals first | (exfalso; omega) | exact ⟨rfl, list.length - (k + 1), by omega, k + 1, hlt, rfl, hh, rfl, e0, e1, rfl⟩
   · rw [em, decide_eq_false hz] at hh
     cases hhb : hasS only x <;> rw [hhb] at hha hh
     · rw [hh]
       have F : _ ∧ _ ∧ _ ∧ _ := ⟨e0, e1, e5, wk⟩
       repeat' first
        | refine gg ?_
        | refine Two.mk (fun hq => ?_) fun hq => ?_
        | (with_reducible refine Y7 ?_; first | refine gc rfl rfl rfl Zh7 (hn _) ?_ | refine gc rfl rfl rfl Zn6 (hha _) ?_)
        | (exfalso; omega)
       all_goals first | (exfalso; omega) | exact ⟨.inr rfl, endV hl0 rfl rfl ⟨rfl, by simp⟩⟩
     · skip
       have F : _ ∧ _ ∧ _ ∧ _ := ⟨e0, e1, e5, wk⟩
       repeat' first
        | refine gg ?_
        | refine Two.mk (fun hq => ?_) fun hq => ?_
        | (with_reducible refine Y7 ?_; first | refine gc rfl rfl rfl Zh7 (hn _) ?_ | refine gc rfl rfl rfl Zn6 (hha _) ?_)
        | (exfalso; omega)
       all_goals first | (exfalso; omega) | exact ⟨rfl, list.length - (k + 1), by omega, k + 1, hlt, rfl, hh, rfl, e0, e1, rfl⟩
 · rw [Z2 (by omega)] at hh
   rw [hh]
   have F : _ ∧ _ ∧ _ := ⟨e0, e1, e5⟩
   repeat' first
    | refine gg ?_
    | refine Two.mk (fun hq => ?_) fun hq => ?_
    | refine Evry.mk fun x hx => ?_
    | (with_reducible refine Y7 ?_; refine gc rfl rfl rfl ent_200 (hso _) ?_)
    | (exfalso; omega)
   exact ⟨.inr rfl, endV hl0 rfl rfl ⟨rfl, by simp⟩⟩
theorem rclosed_d (rs : List Rl) (list : List ByteArray) (hr : rs.length ≤ 9223372036854775807) (hc : ∀ r ∈ rs, Ris r.cond ∧ r.cond.length ≤ 1000000) (hl : list.length ≤ 1000000) (h : List Ob) : Does Z3 G 137 h [.sl 2 (rs.map Zk4), .sl 1 (list.map strX)] (fun h' r => h' = h ∧ r = .v (.bool (V3 rs list))) := by
 refine Y9 G hG (by simp only [lowL]; exact ⟨Yc8 _ rs, W2 _ list, trivial⟩) (by rw [low]; trivial) ?_ h
 clear h
 unfold V3
 refine Y6 Tryz.func137 rfl (Z0 rfl) hG fun hl0 _ => ?_
 simp only [Tryz.ntmps137]
 repeat' first
  | refine g0 ?_
  | fail
 refine Yf (fun m e h' => ∃ (k : Nat), k ≤ rs.length ∧ m = rs.length - k ∧ (rs.all fun r => !Xo r.cond list || hasS list r.concl) = ((rs.drop k).all fun r => !Xo r.cond list || hasS list r.concl) ∧ h' = [] ∧ e 0 = .sl 2 (rs.map Zk4) ∧ e 1 = .sl 1 (list.map strX) ∧ e 5 = .v (.int .i64 k)) rs.length ⟨0, Z6 _, rfl, rfl, rfl, rfl, rfl, rfl⟩ ?_
 rintro m e h' ⟨k, hk, rfl, hh, rfl, e0, e1, e5⟩
 by_cases hlt : k < rs.length
 · have hx : rs[k]? = some rs[k] := Z1 hlt
   have wk : IntKind.i64.wrap ((k : Int) + 1) = ((k + 1 : Nat) : Int) := IntWalk.i64_in _ (by omega)
   rw [Z4 hlt, Zc] at hh
   have hc := hc _ (Zg hlt)
   generalize rs[k] = x at hx hh hc
   have hsu := sSubset_d G hG x.cond list hc.1 hc.2 hl
   have hha := sHas_d G hG list x.concl (by omega)
   cases hb1 : Xo x.cond list <;> rw [hb1] at hsu hh
   · skip
     have F : _ ∧ _ ∧ _ ∧ _ := ⟨e0, e1, e5, wk⟩
     repeat' first
      | refine gg ?_
      | refine Two.mk (fun hq => ?_) fun hq => ?_
      | (with_reducible refine Y7 ?_; refine gc rfl rfl rfl ent_108 (hsu _) ?_)
      | (exfalso; omega)
     exact ⟨rfl, rs.length - (k + 1), by omega, k + 1, hlt, rfl, hh, rfl, e0, e1, rfl⟩
   · cases hb2 : hasS list x.concl <;> rw [hb2] at hha hh
     · rw [hh]
       have F : _ ∧ _ ∧ _ ∧ _ := ⟨e0, e1, e5, wk⟩
       repeat' first
        | refine gg ?_
        | refine Two.mk (fun hq => ?_) fun hq => ?_
        | (with_reducible refine Y7 ?_; first | refine gc rfl rfl rfl ent_108 (hsu _) ?_ | refine gc rfl rfl rfl Zn6 (hha _) ?_)
        | (exfalso; omega)
       exact ⟨.inr rfl, endV hl0 rfl rfl ⟨rfl, rfl⟩⟩
     · skip
       have F : _ ∧ _ ∧ _ ∧ _ := ⟨e0, e1, e5, wk⟩
       repeat' first
        | refine gg ?_
        | refine Two.mk (fun hq => ?_) fun hq => ?_
        | (with_reducible refine Y7 ?_; first | refine gc rfl rfl rfl ent_108 (hsu _) ?_ | refine gc rfl rfl rfl Zn6 (hha _) ?_)
        | (exfalso; omega)
       exact ⟨rfl, rs.length - (k + 1), by omega, k + 1, hlt, rfl, hh, rfl, e0, e1, rfl⟩
 · rw [Z2 (by omega)] at hh
   rw [hh]
   have F : _ ∧ _ ∧ _ := ⟨e0, e1, e5⟩
   repeat' first
    | refine gg ?_
    | refine Two.mk (fun hq => ?_) fun hq => ?_
    | refine Evry.mk fun x hx => ?_
    | (exfalso; omega)
   exact ⟨.inr rfl, endV hl0 rfl rfl ⟨rfl, rfl⟩⟩
end
end Go.Proofs.YtbhkcbidcfofiaaGreat
