/-
  What the statements of the chapter share, part 17: LB1, LA3, NT, VA2, OF2.
-/
import Derived.Test.YtbhkcbidcfofiaaGreatY11
import Derived.Test.YtbhkcbidcfofiaaGreatY13
import Derived.Test.YtbhkcbidcfofiaaGreatY15
import Derived.Test.YtbhkcbidcfofiaaGreatY16
set_option linter.unusedVariables false
set_option linter.unusedSimpArgs false
set_option maxRecDepth 100000
set_option maxHeartbeats 8000000
namespace Go.Proofs.YtbhkcbidcfofiaaGreat
open _root_.Array renaming getElem?_eq_getElem → Z7
open _root_.Bool renaming false_eq_true → Z6, eq_iff_iff → Zb, not_false → Zc, not_true → Zd
open _root_.List renaming getElem?_eq_getElem → Z1, drop_eq_nil_of_le → Z2, drop_eq_getElem_cons → Z3, length_map → Za, all_cons → Ze
open _root_.Nat renaming le_of_ble_eq_true → Z0, zero_le → Z5, reduceEqDiff → Z8, reduceLeDiff → Z9
open _root_.Go.Proofs.Tryz renaming prog → Z4
open Go.RowKit
section
attribute [local irreducible] on aOp
attribute [local go_sem] decide_true decide_false Zd Zc
attribute [local simp] byD_len
def idxS (a : ByteArray) : List ByteArray → Nat → Int
 | [], _ => -1
 | x :: t, k => if a = x then k else idxS a t (k + 1)
theorem idxS_ge (a : ByteArray) : ∀ (l : List ByteArray) (k : Nat), decide (0 ≤ idxS a l k) = hasS l a
 | [], k => by simp [idxS, hasS]
 | x :: t, k => by
  have ih := idxS_ge a t (k + 1)
  by_cases h : a = x
  · simp [idxS, hasS, h]
  · rw [idxS, if_neg h, ih, hasS, decide_eq_false (fun q => h q.symm), Bool.false_or]
theorem Zr1 : ∀ l : List ByteArray, l.length ≤ 1 → Xk l = true
 | [], _ => rfl
 | [_], _ => rfl
 | _ :: _ :: _, h => by simp at h
variable (G : Nat → D) (hG : ∀ g, low 0 (G g))
include hG
attribute [local go_sem] Z6 Int.reduceEq Int.reduceLE Int.reduceLT Int.toNat_natCast Za Nat.reduceAdd Nat.reduceBEq Z8 Z9 Nat.reduceMul U9
attribute [local go_sem ↓] reduceIte
theorem wordByte_d (c : Int) (h : List Ob) : Does Z4 G 244 h [.v (.int .u8 c)] (fun h' r => h' = h ∧ r = .v (.bool (Zk9 c))) := by
 unfold Zk9
 refine Y5 Tryz.func244 rfl (Z0 rfl) hG fun hl0 _ => ?_
 simp only [Tryz.ntmps244]
 repeat' first
  | refine gg ?_
  | refine Two.mk (fun hq => ?_) fun hq => ?_
  | (exfalso; omega)
 all_goals first | (exfalso; omega) | refine ⟨.inr rfl, endV hl0 rfl rfl ⟨rfl, congrArg (fun b => D.v (.bool b)) ?_⟩⟩
 all_goals (clear hl0; rw [Zb]; simp; omega)
theorem Zj5 (s : ByteArray) (hs : s.size ≤ 9223372036854775807) (h : List Ob) : Does Z4 G 217 h [.v (.string s)] (fun h' r => h' = h ∧ r = .v (.bool (Xz s))) := by
 refine Y5 Tryz.func217 rfl (Z0 rfl) hG fun hl0 _ => ?_
 simp only [Tryz.ntmps217]
 by_cases hsz : 1 ≤ s.size ∧ s.size ≤ 16
 rotate_left
 · have e1 := Zg8 (s := s) (fun h => hsz h.1)
   repeat' first
    | refine gg ?_
    | refine Two.mk (fun hq => ?_) fun hq => ?_
    | (exfalso; omega)
   all_goals first | (exfalso; omega) | exact ⟨.inr rfl, endD (r := .v (.bool false)) hl0 rfl (by simp) (by simp) rfl (by rw [low]; trivial) ⟨rfl, by rw [e1]⟩⟩
 obtain ⟨b0, hb0⟩ : ∃ b, s.data[0]? = some b := ⟨s.data[0]'(by show 0 < s.size; omega), Z7 _⟩
 have g0 := Zy5 hb0
 by_cases hb : 97 ≤ b0.toNat ∧ b0.toNat ≤ 122
 rotate_left
 · have e1 := Zg8 (s := s) (fun h => hb (by rw [← g0]; exact h.2))
   repeat' first
    | (with_reducible refine Y7 ?_; (refine ao1 rfl rfl fun K HK => ?_; simp only [go_sem]; refine Vz (by simp only [go_sem]) hb0 (by first | rfl | omega) ?_; refine HK _ _ ?_; clear HK K))
    | refine gg ?_
    | refine Two.mk (fun hq => ?_) fun hq => ?_
    | (exfalso; omega)
   all_goals first | (exfalso; omega) | exact ⟨.inr rfl, endD (r := .v (.bool false)) hl0 rfl (by simp) (by simp) rfl (by rw [low]; trivial) ⟨rfl, by rw [e1]⟩⟩
 have e1 := Zx0 (s := s) ⟨hsz, by rw [g0]; exact hb⟩
 repeat' first
  | (with_reducible refine Y7 ?_; (refine ao1 rfl rfl fun K HK => ?_; simp only [go_sem]; refine Vz (by simp only [go_sem]) hb0 (by first | rfl | omega) ?_; refine HK _ _ ?_; clear HK K))
  | refine gg ?_
  | refine Two.mk (fun hq => ?_) fun hq => ?_
  | (exfalso; omega)
 all_goals try (exfalso; omega)
 refine Yh (fun m e h' => ∃ k : Nat, k ≤ s.size ∧ m = s.size - k ∧ Xz s = (s.data.toList.drop k).all (fun c => Zk9 c.toNat) ∧ h' = h ∧ e 0 = .v (.string s) ∧ e 23 = .v (.int .i64 s.size) ∧ e 24 = .v (.int .i64 k)) s.size ⟨0, Z5 _, rfl, e1, rfl, rfl, rfl, rfl⟩ ?_
 rintro m e h' ⟨k, hk, rfl, ho, rfl, e0, e23, e24⟩
 by_cases hlt : k < s.size
 · obtain ⟨c, hc⟩ : ∃ b, s.data[k]? = some b := ⟨s.data[k]'hlt, Z7 _⟩
   have wk : IntKind.i64.wrap ((k : Int) + 1) = (k : Int) + 1 := IntWalk.i64_in _ (by omega)
   rw [Yk4 hc, Ze] at ho
   have hw := wordByte_d G hG (c.toNat : Int)
   cases hwb : Zk9 c.toNat <;> rw [hwb] at hw ho
   · skip
     have F : _ ∧ _ ∧ _ ∧ _ := ⟨e0, e23, e24, wk⟩
     repeat' first
      | (with_reducible refine Y7 ?_; (refine ao1 rfl rfl fun K HK => ?_; simp only [go_sem, F]; refine Vz (by simp only [go_sem, F]) hc (by first | rfl | omega) ?_; refine HK _ _ ?_; clear HK K))
      | refine gg ?_
      | refine Two.mk (fun hq => ?_) fun hq => ?_
      | (with_reducible refine Y7 ?_; refine gc rfl rfl rfl ent_244 (hw _) ?_)
      | (exfalso; omega)
     exact ⟨.inr rfl, endD (r := .v (.bool false)) hl0 rfl (by simp) (by simp) rfl (by rw [low]; trivial) ⟨rfl, by rw [ho]; rfl⟩⟩
   · skip
     have F : _ ∧ _ ∧ _ ∧ _ := ⟨e0, e23, e24, wk⟩
     repeat' first
      | (with_reducible refine Y7 ?_; (refine ao1 rfl rfl fun K HK => ?_; simp only [go_sem, F]; refine Vz (by simp only [go_sem, F]) hc (by first | rfl | omega) ?_; refine HK _ _ ?_; clear HK K))
      | refine gg ?_
      | refine Two.mk (fun hq => ?_) fun hq => ?_
      | (with_reducible refine Y7 ?_; refine gc rfl rfl rfl ent_244 (hw _) ?_)
      | (exfalso; omega)
     exact ⟨rfl, s.size - (k + 1), by omega, k + 1, hlt, rfl, by rw [ho]; rfl, rfl, e0, e23, rfl⟩
 · skip
   have F : _ ∧ _ ∧ _ := ⟨e0, e23, e24⟩
   repeat' first
    | refine gg ?_
    | refine Two.mk (fun hq => ?_) fun hq => ?_
    | (exfalso; omega)
   exact ⟨.inr rfl, endD (r := .v (.bool true)) hl0 rfl (by simp) (by simp) rfl (by rw [low]; trivial) ⟨rfl, by rw [ho, Z2 (by show s.data.toList.length ≤ k; rw [Array.length_toList]; show s.size ≤ k; omega)]; rfl⟩⟩
theorem idxS_d (l : List ByteArray) (a : ByteArray) (hl : l.length ≤ 9223372036854775807) (h : List Ob) : Does Z4 G 124 h [.sl 1 (l.map strX), .v (.string a)] (fun h' r => h' = h ∧ r = .v (.int .i64 (idxS a l 0))) := by
 refine Y5 Tryz.func124 rfl (Z0 rfl) hG fun hl0 _ => ?_
 simp only [Tryz.ntmps124]
 repeat' first
  | refine g0 ?_
  | fail
 refine Yh (fun m e h' => ∃ k : Nat, k ≤ l.length ∧ m = l.length - k ∧ idxS a l 0 = idxS a (l.drop k) k ∧ h' = h ∧ e 0 = .sl 1 (l.map strX) ∧ e 1 = .v (.string a) ∧ e 7 = .v (.int .i64 l.length) ∧ e 8 = .v (.int .i64 k)) l.length ⟨0, Z5 _, rfl, rfl, rfl, rfl, rfl, rfl, rfl⟩ ?_
 rintro m e h' ⟨k, hk, rfl, ho, rfl, e0, e1, e7, e8⟩
 by_cases hlt : k < l.length
 · have hx : l[k]? = some l[k] := Z1 hlt
   have hd : l.drop k = l[k] :: l.drop (k + 1) := Z3 hlt
   generalize l[k] = x at hx hd
   have wk : IntKind.i64.wrap ((k : Int) + 1) = (k : Int) + 1 := IntWalk.i64_in _ (by omega)
   rw [hd, idxS] at ho
   have F : _ ∧ _ ∧ _ ∧ _ ∧ _ := ⟨e0, e1, e7, e8, wk⟩
   repeat' first
    | refine gg ?_
    | refine Two.mk (fun hq => ?_) fun hq => ?_
    | (exfalso; omega)
   · exact ⟨.inr rfl, endV hl0 rfl rfl ⟨rfl, by rw [ho, if_pos hq]⟩⟩
   · exact ⟨rfl, l.length - (k + 1), by omega, k + 1, hlt, rfl, by rw [ho, if_neg hq], rfl, e0, e1, e7, rfl⟩
 · skip
   have F : _ ∧ _ ∧ _ ∧ _ := ⟨e0, e1, e7, e8⟩
   repeat' first
    | refine gg ?_
    | refine Two.mk (fun hq => ?_) fun hq => ?_
    | refine Evry.mk fun x hx => ?_
    | (exfalso; omega)
   exact ⟨by simp, endV hl0 rfl rfl ⟨rfl, by rw [ho, Z2 (by omega)]; rfl⟩⟩
theorem contS_d (l : List ByteArray) (a : ByteArray) (hl : l.length ≤ 9223372036854775807) (h : List Ob) : Does Z4 G 101 h [.sl 1 (l.map strX), .v (.string a)] (fun h' r => h' = h ∧ r = .v (.bool (hasS l a))) := by
 rw [← idxS_ge a l 0]
 have hi := idxS_d G hG l a hl
 generalize idxS a l 0 = i at *
 refine Y5 Tryz.func101 rfl (Z0 rfl) hG fun hl0 _ => ?_
 simp only [Tryz.ntmps101]
 repeat' first
  | refine gg ?_
  | refine Two.mk (fun hq => ?_) fun hq => ?_
  | (with_reducible refine Y7 ?_; refine gc rfl rfl rfl ent_124 (hi _) ?_)
 all_goals exact ⟨.inr rfl, endV hl0 rfl rfl ⟨rfl, by first | rw [decide_eq_true hq] | rw [decide_eq_false hq]⟩⟩
theorem hasS_d (l : List ByteArray) (a : ByteArray) (hl : l.length ≤ 9223372036854775807) (h : List Ob) : Does Z4 G 183 h [.sl 1 (l.map strX), .v (.string a)] (fun h' r => h' = h ∧ r = .v (.bool (hasS l a))) := by
 refine Y5 Tryz.func183 rfl (Z0 rfl) hG fun hl0 _ => ?_
 simp only [Tryz.ntmps183]
 repeat' first
  | refine g0 ?_
  | (with_reducible refine Y7 ?_; refine gc rfl rfl rfl ent_101 (contS_d G hG l a hl _) ?_)
 exact ⟨.inr rfl, endV hl0 rfl rfl ⟨rfl, rfl⟩⟩
theorem Zv4 (l : List ByteArray) (hl : l.length ≤ 9223372036854775807) (h : List Ob) : Does Z4 G 216 h [.sl 1 (l.map strX)] (fun h' r => h' = h ∧ r = .v (.bool (Xk l))) := by
 by_cases hsh : l.length ≤ 1
 · rw [Zr1 l hsh]
   refine Y5 Tryz.func216 rfl (Z0 rfl) hG fun hl0 _ => ?_
   simp only [Tryz.ntmps216]
   repeat' first
    | refine g0 ?_
    | fail
   refine Yh (fun m e h' => h' = h ∧ e 0 = .sl 1 (l.map strX) ∧ e 3 = .v (.int .i64 1)) l.length ⟨rfl, rfl, rfl⟩ ?_
   rintro m e h' ⟨rfl, e0, e3⟩
   have F : _ ∧ _ := ⟨e0, e3⟩
   repeat' first
    | (with_reducible refine Yf ?_; refine Y9 mixd (by kernel_rfl) ?_)
    | refine gg ?_
    | refine Two.mk (fun hq => ?_) fun hq => ?_
    | refine Evry.mk fun x hx => ?_
    | (exfalso; omega)
   all_goals first | (exfalso; omega) | exact ⟨.inr rfl, endV hl0 rfl rfl ⟨rfl, rfl⟩⟩
 obtain ⟨x0, t, rfl⟩ : ∃ x t, l = x :: t := by
  cases l with
  | nil => simp at hsh
  | cons x t => exact ⟨x, t, rfl⟩
 generalize hll : x0 :: t = l at *
 have h0 : Xk l = X5 (l[0]'(by omega)) (l.drop 1) := by subst hll; rfl
 refine Y5 Tryz.func216 rfl (Z0 rfl) hG fun hl0 _ => ?_
 simp only [Tryz.ntmps216]
 repeat' first
  | refine g0 ?_
  | fail
 refine Yh (fun m e h' => ∃ (k : Nat) (hk : k < l.length), m = l.length - k ∧ Xk l = X5 l[k] (l.drop (k + 1)) ∧ h' = h ∧ e 0 = .sl 1 (l.map strX) ∧ e 3 = .v (.int .i64 ((k : Int) + 1))) l.length ⟨0, by omega, rfl, h0, rfl, rfl, rfl⟩ ?_
 rintro m e h' ⟨k, hk, rfl, ho, rfl, e0, e3⟩
 by_cases hlt : k + 1 < l.length
 · have hx : l[k]? = some l[k] := Z1 (by omega)
   have hy : l[k + 1]? = some l[k + 1] := Z1 hlt
   rw [Zv3 l k hlt] at ho
   have wk : IntKind.i64.wrap ((k : Int) + 1 + 1) = (k : Int) + 1 + 1 := IntWalk.i64_in _ (by omega)
   have wm : IntKind.i64.wrap ((k : Int) + 1 - 1) = (k : Int) := by rw [show (k : Int) + 1 - 1 = (k : Int) by omega]; exact IntWalk.i64_in _ (by omega)
   have tk : ((k : Int) + 1).toNat = k + 1 := by omega
   unfold Ue at ho
   cases hlt2 : Op.bytesLess l[k].toList l[k + 1].toList
   · generalize l[k] = x at *
     generalize l[k + 1] = y at *
     have F : _ ∧ _ ∧ _ ∧ _ ∧ _ ∧ _ := ⟨e0, e3, wk, wm, tk, hlt2⟩
     repeat' first
      | (with_reducible refine Yf ?_; refine Y9 mixd (by kernel_rfl) ?_)
      | refine gg ?_
      | refine Two.mk (fun hq => ?_) fun hq => ?_
      | (exfalso; omega)
     exact ⟨by simp, endV hl0 rfl rfl ⟨rfl, by rw [ho, hlt2]; rfl⟩⟩
   · rw [hlt2, Bool.true_and] at ho
     generalize l[k] = x at *
     have hy' := hy
     generalize hyl : l[k + 1] = y at hy hlt2
     have F : _ ∧ _ ∧ _ ∧ _ ∧ _ ∧ _ := ⟨e0, e3, wk, wm, tk, hlt2⟩
     repeat' first
      | (with_reducible refine Yf ?_; refine Y9 mixd (by kernel_rfl) ?_)
      | refine gg ?_
      | refine Two.mk (fun hq => ?_) fun hq => ?_
      | (exfalso; omega)
     exact ⟨rfl, l.length - (k + 1), by omega, k + 1, hlt, rfl, ho, rfl, e0, rfl⟩
 · skip
   have F : _ ∧ _ := ⟨e0, e3⟩
   repeat' first
    | (with_reducible refine Yf ?_; refine Y9 mixd (by kernel_rfl) ?_)
    | refine gg ?_
    | refine Two.mk (fun hq => ?_) fun hq => ?_
    | refine Evry.mk fun x hx => ?_
    | (exfalso; omega)
   exact ⟨by simp, endV hl0 rfl rfl ⟨rfl, by rw [ho, Z2 (by omega)]; rfl⟩⟩
theorem subsetS_d (a b : List ByteArray) (ha : a.length ≤ 9223372036854775807) (hb : b.length ≤ 9223372036854775807) (h : List Ob) : Does Z4 G 123 h [.sl 1 (a.map strX), .sl 1 (b.map strX)] (fun h' r => h' = h ∧ r = .v (.bool (X8 a b))) := by
 refine Y5 Tryz.func123 rfl (Z0 rfl) hG fun hl0 _ => ?_
 simp only [Tryz.ntmps123]
 repeat' first
  | refine g0 ?_
  | fail
 refine Yh (fun m e h' => ∃ k : Nat, k ≤ a.length ∧ m = a.length - k ∧ X8 a b = X8 (a.drop k) b ∧ h' = h ∧ e 1 = .sl 1 (b.map strX) ∧ e 7 = .sl 1 (a.map strX) ∧ e 8 = .v (.int .i64 a.length) ∧ e 9 = .v (.int .i64 k)) a.length ⟨0, Z5 _, rfl, rfl, rfl, rfl, rfl, rfl, rfl⟩ ?_
 rintro m e h' ⟨k, hk, rfl, ho, rfl, e1, e7, e8, e9⟩
 by_cases hlt : k < a.length
 · have hx : a[k]? = some a[k] := Z1 hlt
   have hd : a.drop k = a[k] :: a.drop (k + 1) := Z3 hlt
   generalize a[k] = x at hx hd
   have wk : IntKind.i64.wrap ((k : Int) + 1) = (k : Int) + 1 := IntWalk.i64_in _ (by omega)
   have hh := hasS_d G hG b x hb
   have ho : X8 a b = (hasS b x && X8 (a.drop (k + 1)) b) := by rw [ho, hd]; rfl
   cases hxb : hasS b x <;> rw [hxb] at hh ho
   · skip
     have F : _ ∧ _ ∧ _ ∧ _ ∧ _ := ⟨e1, e7, e8, e9, wk⟩
     repeat' first
      | refine gg ?_
      | refine Two.mk (fun hq => ?_) fun hq => ?_
      | (with_reducible refine Y7 ?_; refine gc rfl rfl rfl Zf1 (hh _) ?_)
      | (exfalso; omega)
     exact ⟨.inr rfl, endV hl0 rfl rfl ⟨rfl, by rw [ho]; rfl⟩⟩
   · skip
     have F : _ ∧ _ ∧ _ ∧ _ ∧ _ := ⟨e1, e7, e8, e9, wk⟩
     repeat' first
      | refine gg ?_
      | refine Two.mk (fun hq => ?_) fun hq => ?_
      | (with_reducible refine Y7 ?_; refine gc rfl rfl rfl Zf1 (hh _) ?_)
      | (exfalso; omega)
     exact ⟨rfl, a.length - (k + 1), by omega, k + 1, hlt, rfl, by rw [ho]; rfl, rfl, e1, e7, e8, rfl⟩
 · skip
   have F : _ ∧ _ ∧ _ ∧ _ := ⟨e1, e7, e8, e9⟩
   repeat' first
    | refine gg ?_
    | refine Two.mk (fun hq => ?_) fun hq => ?_
    | refine Evry.mk fun x hx => ?_
    | (exfalso; omega)
   exact ⟨by simp, endV hl0 rfl rfl ⟨rfl, by rw [ho, Z2 (by omega)]; rfl⟩⟩
end
section
attribute [local irreducible] on aOp
attribute [local go_sem] decide_true decide_false Zd Zc
attribute [local simp] byD_len
theorem Zg3 (r : Rl) : Zp4 r = [.sl 1 (r.cond.map strX), .v (.string r.concl)] := rfl
def gM (A : Ob) (T : List Ob) : List Ob := A :: T
section
variable {A y y' : Ob} {T l : List Ob}
theorem gM_0 : (gM A T)[0]? = some A := rfl
theorem gM_len : (gM A T).length = T.length + 1 := rfl
theorem gM_app : gM A T ++ l = gM A (T ++ l) := rfl
theorem gM_l : (gM A (T ++ [y]))[T.length + 1]? = some y := by simp [gM]
theorem gM_sl : (gM A (T ++ [y])).set (T.length + 1) y' = gM A (T ++ [y']) := by simp [gM]
end
variable (G : Nat → D) (hG : ∀ g, low 0 (G g))
include hG
theorem rShape_d (l : Lat) (hsm : Sm l) (h : List Ob) : Does Z4 G 196 h [.agg (latX l)] (fun h' r => h' = h ∧ r = .v (.bool (!W4 l))) := by
 refine Ya G hG (Wf _ l) (by rw [low]; trivial) ?_ h
 clear h
 unfold W4
 have hpl := hsm.parts
 have hnl := hsm.names
 have hrl := hsm.rules
 generalize hkk : l.kind = k
 generalize hlo : l.lo = lo
 generalize hhi : l.hi = hi
 generalize hnn : l.names.length = nn at *
 generalize hnp : l.parts.length = np at *
 generalize hnr : l.rules.length = nr at *
 refine Y5 Tryz.func196 rfl (Z0 rfl) hG fun hl0 _ => ?_
 simp only [Tryz.ntmps196]
 repeat' first
  | (with_reducible first | refine sA rfl ?_ | refine sI rfl rfl ?_ | refine sT rfl ?_ | refine sB rfl ?_)
  | (with_reducible refine Y7 ?_; first | refine Xi ?_ | (refine ao1 rfl rfl fun K HK => ?_; (first | refine Yo rfl ?_ | skip); simp only [go_sem, ↓reduceIte, Z8, Nat.reduceAdd, Z9, Nat.reduceBEq, Nat.reduceMul, Int.reduceEq, Int.reduceLT, Int.reduceLE, Y4, Za, hkk, hlo, hhi, hnn, hnp, hnr, Z6]; (first | refine X1 (fun hq => ?_) (fun hq => ?_) | refine Zh4 (fun hq => ?_) (fun hq => ?_) | skip) <;> (refine HK _ _ ?_; clear HK K)) | refine ao0 rfl rfl ?_)
  | (exfalso; omega)
 all_goals first | (exfalso; omega) | refine ⟨.inr rfl, endV hl0 rfl rfl ⟨rfl, congrArg (fun b => D.v (.bool b)) ?_⟩⟩
 all_goals
  clear hl0
  rw [Zb]
  first
  | (rw [Zl7 (by omega) (by omega) (by omega)]; simp; done)
  | (rw [Zd6 (by omega) (by omega)]; simp; done)
  | (rw [Zv8 (by omega)]; simp; done)
  | (simp_all [Jo, V1]; done)
  | (simp_all [Jo, V1]; omega)
end
section
section
variable {P : Program} {G : Nat → D} {n : Nat} {e : Nat → D} {h : List Ob}
theorem Sit_niltmp {B : Base} {a : Act} {w : World} (E k t : Nat) (ht : e t = .v (.slice none 0 0)) (r : Sit G B ⟨n, e, h⟩ a w) : Sit G B ⟨n, upd e t (.buf h.length 0), h ++ [.buf E k []]⟩ a w := by
 obtain ⟨hd, p, r⟩ := r
 obtain ⟨o, ev⟩ := Ok.grow (ob := .buf E k []) (u := .slice none 0 0) (w' := w) r.ok rfl rfl rfl (Nat.le_refl _) (fun _ _ => rfl) (fun b hb => by cases hb) (fun c s => ⟨[], World.ownsRow_nil _ _ _ _, by simp [rdL], fun row h => by simp at h, fun g h => by cases h⟩)
 refine ⟨_, _, o, r.evo.trans ev, fun t' => ?_, r.size, r.defers⟩
 have q := ev.rd r.ok (r.tmp t')
 show rd _ _ _ (upd e t (.buf h.length 0) t') _
 unfold upd
 by_cases hh : t' = t
 · subst hh
   rw [if_pos rfl]
   have ht : (⟨n, e, h⟩ : S).env t' = .v (.slice none 0 0) := ht
   rw [ht] at q
   exact Zw6 (E := E) (k := k) (by simp) (by rw [← r.ok.len]; simp) q
 · rw [if_neg hh]; exact q
theorem aw_niltmp {c : Code} {Q : Exit → S → Prop} (E k t : Nat) (ht : e t = .v (.slice none 0 0)) (q : aw P G c Q ⟨n, upd e t (.buf h.length 0), h ++ [.buf E k []]⟩) : aw P G c Q ⟨n, e, h⟩ := fun B a w r => q B a w (Sit_niltmp E k t ht r)
end
end
section
attribute [local irreducible] on aOp
attribute [local go_sem] decide_true decide_false Zd Zc
attribute [local simp] byD_len
def bM (A : Ob) (T : List Ob) : List Ob := A :: T
section
variable {A B y y' : Ob} {T l : List Ob}
theorem bM_0 : (bM A T)[0]? = some A := rfl
theorem bM_s0 : (bM A T).set 0 B = bM B T := rfl
theorem bM_len : (bM A T).length = T.length + 1 := rfl
theorem bM_app : bM A T ++ l = bM A (T ++ l) := rfl
theorem bM_l : (bM A (T ++ [y]))[T.length + 1]? = some y := by simp [bM]
theorem bM_sl : (bM A (T ++ [y])).set (T.length + 1) y' = bM A (T ++ [y']) := by simp [bM]
end
theorem Ur (m : Nat) (l : List Tk) : low m (.sl 2 (l.map tkX)) := Vk m l fun x _ => low_tk m x
theorem low_ens2 (m : Nat) (l : List En) : low m (.sl 2 (l.map enX)) := Vk m l fun x _ => low_en m x
theorem clock_go {c : List Tk} {k : Nat} {x : Tk} {p : Int} (h : c.drop k = x :: c.drop (k + 1)) : X3 p (c.drop k) = (Yb5 p x && X3 x.process (c.drop (k + 1))) := by rw [h, X3]
variable (G : Nat → D) (hG : ∀ g, low 0 (G g))
include hG
attribute [local go_sem] Z6 Int.reduceEq Int.reduceLE Int.reduceLT Int.toNat_natCast Za Nat.reduceAdd Nat.reduceBEq Z8 Z9 Nat.reduceMul Zg3 U9 tM_app tM_l tM_len tM_sl Zv1
attribute [local go_sem ↓] reduceIte
theorem Zl1 (v : Val) (hv : VSm v) (n li pa en : Bool) (h : List Ob) : Does Z4 G 157 h [.agg (vaX v), .v (.bool n), .v (.bool li), .v (.bool pa), .v (.bool en)] (fun h' r => h' = h ∧ r = .v (.bool (Wz v n li pa en))) := by
 refine Ya G hG (by simp only [lowL, low]; exact ⟨Ys _ v, trivial, trivial, trivial, trivial, trivial⟩) (by rw [low]; trivial) ?_ h
 clear h
 have h1 := hv.names
 have h2 := hv.parts
 have h3 := hv.entries
 unfold Wz
 generalize hn : v.n = m
 generalize hx : v.names.length = a at *
 generalize hy : v.parts.length = b at *
 generalize hz : v.entries.length = c at *
 refine Y5 Tryz.func157 rfl (Z0 rfl) hG fun hl0 _ => ?_
 simp only [Tryz.ntmps157]
 cases n <;> cases li <;> cases pa <;> cases en
 all_goals
  skip
  have F : _ ∧ _ ∧ _ ∧ _ ∧ _ := ⟨Y6, hn, hx, hy, hz⟩
  repeat' first
   | refine gg ?_
   | refine Two.mk (fun hq => ?_) fun hq => ?_
  all_goals first | (exfalso; omega) | refine ⟨.inr rfl, endV hl0 rfl rfl ⟨rfl, congrArg (fun b => D.v (.bool b)) ?_⟩⟩
  all_goals
   clear hl0
   rw [Zb]
   simp
   try omega
theorem allowed_d (only list : List ByteArray) (ho : only.length ≤ 9223372036854775807) (hl : list.length ≤ 9223372036854775807) (hs : ∀ s ∈ list, s.size ≤ 9223372036854775807) (h : List Ob) : Does Z4 G 158 h [.sl 1 (only.map strX), .sl 1 (list.map strX)] (fun h' r => h' = h ∧ r = .v (.bool (Ye only list))) := by
 refine Ya G hG (by simp only [lowL]; exact ⟨Xq _ only, Xq _ list, trivial⟩) (by rw [low]; trivial) ?_ h
 clear h
 unfold Ye
 have hso := Zv4 G hG list hl
 refine Y5 Tryz.func158 rfl (Z0 rfl) hG fun hl0 _ => ?_
 simp only [Tryz.ntmps158]
 cases hsb : Xk list <;> rw [hsb] at hso
 · skip
   repeat' first
    | refine g0 ?_
    | (with_reducible refine Y7 ?_; refine gc rfl rfl rfl Ze9 (hso _) ?_)
   exact ⟨.inr rfl, endV hl0 rfl rfl ⟨rfl, rfl⟩⟩
 rw [Bool.true_and]
 repeat' first
  | refine g0 ?_
  | (with_reducible refine Y7 ?_; refine gc rfl rfl rfl Ze9 (hso _) ?_)
 refine Yh (fun m e h' => ∃ k : Nat, k ≤ list.length ∧ m = list.length - k ∧ list.all (memB only) = (list.drop k).all (memB only) ∧ h' = [] ∧ e 0 = .sl 1 (only.map strX) ∧ e 10 = .sl 1 (list.map strX) ∧ e 11 = .v (.int .i64 list.length) ∧ e 12 = .v (.int .i64 k)) list.length ⟨0, Z5 _, rfl, rfl, rfl, rfl, rfl, rfl, rfl⟩ ?_
 rintro m e h' ⟨k, hk, rfl, hh, rfl, e0, e10, e11, e12⟩
 by_cases hlt : k < list.length
 · have hx : list[k]? = some list[k] := Z1 hlt
   have wk : IntKind.i64.wrap ((k : Int) + 1) = ((k + 1 : Nat) : Int) := IntWalk.i64_in _ (by omega)
   rw [Z3 hlt, Ze] at hh
   have hn := Zj5 G hG list[k] (hs _ (List.getElem_mem hlt))
   generalize list[k] = x at hx hn hh
   have hha := hasS_d G hG only x ho
   have em : memB only x = (Xz x && (decide (only.length = 0) || hasS only x)) := rfl
   cases hnb : Xz x <;> rw [hnb] at hn em
   · rw [em] at hh
     rw [hh]
     have F : _ ∧ _ ∧ _ ∧ _ ∧ _ := ⟨e0, e10, e11, e12, wk⟩
     repeat' first
      | refine gg ?_
      | refine Two.mk (fun hq => ?_) fun hq => ?_
      | (with_reducible refine Y7 ?_; refine gc rfl rfl rfl Ub (hn _) ?_)
      | (exfalso; omega)
     exact ⟨.inr rfl, endV hl0 rfl rfl ⟨rfl, rfl⟩⟩
   by_cases hz : only.length = 0
   · rw [em, decide_eq_true hz] at hh
     have F : _ ∧ _ ∧ _ ∧ _ ∧ _ := ⟨e0, e10, e11, e12, wk⟩
     repeat' first
      | refine gg ?_
      | refine Two.mk (fun hq => ?_) fun hq => ?_
      | (with_reducible refine Y7 ?_; refine gc rfl rfl rfl Ub (hn _) ?_)
      | (exfalso; omega)
     all_goals first | (exfalso; omega) | exact ⟨rfl, list.length - (k + 1), by omega, k + 1, hlt, rfl, hh, rfl, e0, e10, e11, rfl⟩
   · rw [em, decide_eq_false hz] at hh
     cases hhb : hasS only x <;> rw [hhb] at hha hh
     · rw [hh]
       have F : _ ∧ _ ∧ _ ∧ _ ∧ _ := ⟨e0, e10, e11, e12, wk⟩
       repeat' first
        | refine gg ?_
        | refine Two.mk (fun hq => ?_) fun hq => ?_
        | (with_reducible refine Y7 ?_; first | refine gc rfl rfl rfl Ub (hn _) ?_ | refine gc rfl rfl rfl Zf1 (hha _) ?_)
        | (exfalso; omega)
       all_goals first | (exfalso; omega) | exact ⟨.inr rfl, endV hl0 rfl rfl ⟨rfl, rfl⟩⟩
     · skip
       have F : _ ∧ _ ∧ _ ∧ _ ∧ _ := ⟨e0, e10, e11, e12, wk⟩
       repeat' first
        | refine gg ?_
        | refine Two.mk (fun hq => ?_) fun hq => ?_
        | (with_reducible refine Y7 ?_; first | refine gc rfl rfl rfl Ub (hn _) ?_ | refine gc rfl rfl rfl Zf1 (hha _) ?_)
        | (exfalso; omega)
       all_goals first | (exfalso; omega) | exact ⟨rfl, list.length - (k + 1), by omega, k + 1, hlt, rfl, hh, rfl, e0, e10, e11, rfl⟩
 · rw [Z2 (by omega)] at hh
   rw [hh]
   have F : _ ∧ _ ∧ _ ∧ _ := ⟨e0, e10, e11, e12⟩
   repeat' first
    | refine gg ?_
    | refine Two.mk (fun hq => ?_) fun hq => ?_
    | refine Evry.mk fun x hx => ?_
    | (exfalso; omega)
   exact ⟨.inr rfl, endV hl0 rfl rfl ⟨rfl, rfl⟩⟩
theorem closed_d (rs : List Rl) (list : List ByteArray) (hr : rs.length ≤ 9223372036854775807) (hc : ∀ r ∈ rs, r.cond.length ≤ 9223372036854775807) (hl : list.length ≤ 9223372036854775807) (h : List Ob) : Does Z4 G 159 h [.sl 2 (rs.map Zp4), .sl 1 (list.map strX)] (fun h' r => h' = h ∧ r = .v (.bool (W0 rs list))) := by
 refine Ya G hG (by simp only [lowL]; exact ⟨Zx5 _ rs, Xq _ list, trivial⟩) (by rw [low]; trivial) ?_ h
 clear h
 unfold W0
 refine Y5 Tryz.func159 rfl (Z0 rfl) hG fun hl0 _ => ?_
 simp only [Tryz.ntmps159]
 repeat' first
  | refine g0 ?_
  | fail
 refine Yh (fun m e h' => ∃ (k : Nat) (T : List Ob), k ≤ rs.length ∧ m = rs.length - k ∧ (rs.all fun r => !X8 r.cond list || hasS list r.concl) = ((rs.drop k).all fun r => !X8 r.cond list || hasS list r.concl) ∧ h' = tM T ∧ e 1 = .sl 1 (list.map strX) ∧ e 7 = .sl 2 (rs.map Zp4) ∧ e 8 = .v (.int .i64 rs.length) ∧ e 9 = .v (.int .i64 k)) rs.length ⟨0, [], Z5 _, rfl, rfl, rfl, rfl, rfl, rfl, rfl⟩ ?_
 rintro m e h' ⟨k, T, hk, rfl, hh, rfl, e1, e7, e8, e9⟩
 by_cases hlt : k < rs.length
 · have hx : rs[k]? = some rs[k] := Z1 hlt
   have wk : IntKind.i64.wrap ((k : Int) + 1) = ((k + 1 : Nat) : Int) := IntWalk.i64_in _ (by omega)
   rw [Z3 hlt, Ze] at hh
   have hc := hc _ (List.getElem_mem hlt)
   generalize rs[k] = x at hx hh hc
   have hsu := subsetS_d G hG x.cond list hc hl
   have hha := hasS_d G hG list x.concl hl
   cases hb1 : X8 x.cond list <;> rw [hb1] at hsu hh
   · skip
     have F : _ ∧ _ ∧ _ ∧ _ ∧ _ := ⟨e1, e7, e8, e9, wk⟩
     repeat' first
      | refine gg ?_
      | refine Two.mk (fun hq => ?_) fun hq => ?_
      | (with_reducible refine Y7 ?_; refine gc rfl rfl rfl Zq7 (hsu _) ?_)
      | (exfalso; omega)
     exact ⟨rfl, rs.length - (k + 1), by omega, k + 1, _, hlt, rfl, hh, rfl, e1, e7, e8, rfl⟩
   · cases hb2 : hasS list x.concl <;> rw [hb2] at hha hh
     · rw [hh]
       have F : _ ∧ _ ∧ _ ∧ _ ∧ _ := ⟨e1, e7, e8, e9, wk⟩
       repeat' first
        | refine gg ?_
        | refine Two.mk (fun hq => ?_) fun hq => ?_
        | (with_reducible refine Y7 ?_; first | refine gc rfl rfl rfl Zq7 (hsu _) ?_ | refine gc rfl rfl rfl Zf1 (hha _) ?_)
        | (exfalso; omega)
       exact ⟨.inr rfl, endV hl0 rfl rfl ⟨rfl, rfl⟩⟩
     · skip
       have F : _ ∧ _ ∧ _ ∧ _ ∧ _ := ⟨e1, e7, e8, e9, wk⟩
       repeat' first
        | refine gg ?_
        | refine Two.mk (fun hq => ?_) fun hq => ?_
        | (with_reducible refine Y7 ?_; first | refine gc rfl rfl rfl Zq7 (hsu _) ?_ | refine gc rfl rfl rfl Zf1 (hha _) ?_)
        | (exfalso; omega)
       exact ⟨rfl, rs.length - (k + 1), by omega, k + 1, _, hlt, rfl, hh, rfl, e1, e7, e8, rfl⟩
 · rw [Z2 (by omega)] at hh
   rw [hh]
   have F : _ ∧ _ ∧ _ ∧ _ := ⟨e1, e7, e8, e9⟩
   repeat' first
    | refine gg ?_
    | refine Two.mk (fun hq => ?_) fun hq => ?_
    | refine Evry.mk fun x hx => ?_
    | (exfalso; omega)
   exact ⟨.inr rfl, endV hl0 rfl rfl ⟨rfl, rfl⟩⟩
theorem U5 (c : List Tk) (hc : c.length ≤ 9223372036854775807) (h : List Ob) : Does Z4 G 218 h [.sl 2 (c.map tkX)] (fun h' r => h' = h ∧ r = .v (.bool (X9 c))) := by
 refine Ya G hG (by simp only [lowL]; exact ⟨Ur _ c, trivial⟩) (by rw [low]; trivial) ?_ h
 clear h
 unfold X9
 refine Y5 Tryz.func218 rfl (Z0 rfl) hG fun hl0 _ => ?_
 simp only [Tryz.ntmps218]
 repeat' first
  | refine g0 ?_
  | fail
 refine Yh (fun m e h' => ∃ (k : Nat) (p : Int) (T : List Ob), k ≤ c.length ∧ m = c.length - k ∧ X3 (-1) c = X3 p (c.drop k) ∧ h' = tM T ∧ e 3 = .v (.int .i64 p) ∧ e 6 = .sl 2 (c.map tkX) ∧ e 7 = .v (.int .i64 c.length) ∧ e 8 = .v (.int .i64 k)) c.length ⟨0, -1, [], Z5 _, rfl, rfl, rfl, rfl, rfl, rfl, rfl⟩ ?_
 rintro m e h' ⟨k, p, T, hk, rfl, hh, rfl, e3, e6, e7, e8⟩
 by_cases hlt : k < c.length
 · have hx : c[k]? = some c[k] := Z1 hlt
   have wk : IntKind.i64.wrap ((k : Int) + 1) = ((k + 1 : Nat) : Int) := IntWalk.i64_in _ (by omega)
   rw [clock_go (Z3 hlt)] at hh
   generalize c[k] = x at hx hh
   have F : _ ∧ _ ∧ _ ∧ _ ∧ _ := ⟨e3, e6, e7, e8, wk⟩
   repeat' first
    | refine gg ?_
    | refine Two.mk (fun hq => ?_) fun hq => ?_
    | (exfalso; omega)
   all_goals first
   | (exfalso; omega)
   | exact ⟨rfl, c.length - (k + 1), by omega, k + 1, x.process, _, hlt, rfl, by rw [hh, Yb5, decide_eq_true (by omega)]; rfl, rfl, rfl, e6, e7, rfl⟩
   | exact ⟨.inr rfl, endD (r := .v (.bool false)) hl0 rfl (by simp) (by simp) rfl (by rw [low]; trivial) ⟨rfl, by rw [hh, Yb5, decide_eq_false (by omega)]; rfl⟩⟩
 · rw [Z2 (by omega)] at hh
   rw [hh]
   have F : _ ∧ _ ∧ _ ∧ _ := ⟨e3, e6, e7, e8⟩
   repeat' first
    | refine gg ?_
    | refine Two.mk (fun hq => ?_) fun hq => ?_
    | refine Evry.mk fun x hx => ?_
    | (exfalso; omega)
   exact ⟨.inr rfl, endV hl0 rfl rfl ⟨rfl, rfl⟩⟩
theorem minusCh_d (m n : Int) (h : List Ob) : Does Z4 G 257 h [.v (.int .i64 m), .v (.int .i64 n)] (fun h' r => h' = h ∧ r = .v (.int .i64 (Zj6 m n))) := by
 unfold Zj6
 refine Y5 Tryz.func257 rfl (Z0 rfl) hG fun hl0 _ => ?_
 simp only [Tryz.ntmps257]
 repeat' first
  | refine gg ?_
  | refine Two.mk (fun hq => ?_) fun hq => ?_
 all_goals exact ⟨.inr rfl, endV hl0 rfl rfl ⟨rfl, by first | rw [if_pos (by omega)] | rw [if_neg (by omega)]⟩⟩
end
section
variable {P : Program} {G : Nat → D} {f : FuncId} {h : List Ob} {args : List D}
theorem Does.reown {K K' : List Ob → D → Prop} (q : Does P G f h args K) (c : ∀ h' r, K h' r → K' h' r ∨ ∃ i n b E k xs, h'[i]? = some (.buf E k xs) ∧ xs.length = n ∧ b ≤ n ∧ r = .win i n 0 b ∧ K' (h'.set i .dead ++ [.buf E k (xs.take b)]) (.buf h'.length b)) : Does P G f h args K' := fun w hd p vs o ha => by
 refine (q w hd p vs o ha).mono ?_
 rintro e w' ⟨v, hd', h', r, p', rfl, hK, ok, hr, ev⟩
 rcases c _ _ hK with hk | ⟨i, n, b, E, k, xs, hi, hn, hb, rfl, hk⟩
 · exact ⟨v, hd', h', r, p', rfl, hk, ok, hr, ev⟩
 · obtain ⟨o2, ev2, hr2⟩ := ok.reown hi hn hb hr
   exact ⟨v, _, _, _, _, rfl, hk, o2, hr2, ev.trans ev2⟩
mutual
theorem rnO_low0 (R : List Nat) : ∀ d, low 0 d → rnO R d = some d
 | .any, _ => by rw [rnO]
 | .v _, _ => by rw [rnO]
 | .e0, _ => by rw [rnO]
 | .sl k xs, l => by rw [low] at l; rw [rnO, Yh3 R xs l]
 | .agg ds, l => by rw [low] at l; rw [rnO, Zg4 R ds l]
 | .tup ds, l => by rw [low] at l; rw [rnO, Zg4 R ds l]
 | .rp ds, l => by rw [low] at l; rw [rnO, Zg4 R ds l]
 | .fn f ds, l => by rw [low] at l; rw [rnO, Zg4 R ds l]
 | .ptr i o, l => by rw [low] at l; omega
 | .buf i n, l => by rw [low] at l; omega
 | .bp i n r c, l => by rw [low] at l; omega
 | .win i n a b, l => by rw [low] at l; omega
 | .arr i o n c k, l => by rw [low] at l; omega
 | .mp i, l => by rw [low] at l; omega
theorem Zg4 (R : List Nat) : ∀ d, lowL 0 d → rnL R d = some d
 | [], _ => by rw [rnL]
 | d :: t, l => by rw [lowL] at l; rw [rnL, rnO_low0 R d l.1, Zg4 R t l.2]
theorem Yh3 (R : List Nat) : ∀ d, lowR 0 d → rnR R d = some d
 | [], _ => by rw [rnR]
 | d :: t, l => by rw [lowR] at l; rw [rnR, Zg4 R d l.1, Yh3 R t l.2]
end
theorem Does.only0 {K : List Ob → D → Prop} (hG : ∀ g, low 0 (G g)) {E k n : Nat} {rows : List (List D)} (lr : low 0 (.sl k rows)) (q : Does P G f [] args K) (c : ∀ h' r, K h' r → ∃ i, h'[i]? = some (.buf E k rows) ∧ r = .buf i n) : Does P G f [] args (fun h' r => h' = [.buf E k rows] ∧ r = .buf 0 n) := by
 refine q.shrink hG fun h' r hK => ?_
 obtain ⟨i, hi, rfl⟩ := c _ _ hK
 rw [low] at lr
 refine ⟨[.buf E k rows], .buf 0 n, ⟨[i], ?_, rfl, ?_, Z5 _, fun k hk => by simp at hk⟩, rfl, rfl⟩
 · simp [rnH, hi, rnOb, Yh3 _ _ lr]
 · simp [rnO, pos]
theorem Does.gave0 (hG : ∀ g, low 0 (G g)) {E k n : Nat} {rows : List (List D)} (lr : low 0 (.sl k rows)) (la : lowL 0 args) (hn : rows.length = n) (q : Does P G f [] args (fun h' r => h' = [.buf E k rows] ∧ r = .buf 0 n)) (h : List Ob) : Does P G f h args (fun h' r => h' = h ∧ r = .sl k rows) := by
 refine Ya G hG la lr (q.drop hG ?_) h
 rintro _ _ ⟨rfl, rfl⟩
 refine ⟨0, Nat.le_refl _, Z5 _, fun x hx => by simp at hx, ?_, ?_⟩
 · simpa [cvD, cv1, hn] using lr
 · simp [cvD, cv1, hn]
end
end Go.Proofs.YtbhkcbidcfofiaaGreat
