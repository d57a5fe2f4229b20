/-
  What the statements of the chapter share, part 29: VA8, VA9, VA10, VA11, VA12, PVS, VN2, LA4, LA5, JT5, JT6, JT7.
-/
import Derived.Test.YtbhkcbidcfofiaaGreatY15
import Derived.Test.YtbhkcbidcfofiaaGreatY16
import Derived.Test.YtbhkcbidcfofiaaGreatY17
import Derived.Test.YtbhkcbidcfofiaaGreatY21
import Derived.Test.YtbhkcbidcfofiaaGreatY23
import Derived.Test.YtbhkcbidcfofiaaGreatY25
import Derived.Test.YtbhkcbidcfofiaaGreatY27
import Derived.Test.YtbhkcbidcfofiaaGreatY28
set_option linter.unusedVariables false
set_option linter.unusedSimpArgs false
set_option maxRecDepth 100000
set_option maxHeartbeats 8000000
namespace Go.Proofs.YtbhkcbidcfofiaaGreat
open _root_.Bool renaming false_eq_true → Z1, and_eq_true → Z6, not_false → Z9, not_true → Zb, not_eq_true' → Zo, not_eq_true → Zz, true_and → Y1
open _root_.Int renaming reduceEq → Zh, reduceLE → Zi, reduceLT → Zj, toNat_natCast → Zn
open _root_.List renaming length_map → Z0, length_eq_one_iff → Z2, filterMap_cons → Z7, length_append → Za, getElem?_eq_getElem → Zf, map_cons → Zg, drop_eq_nil_of_le → Zk, mem_singleton → Zl, append_assoc → Zm, cons_append → Zp, length_cons → Zq, length_nil → Zt, nil_append → Zu, mem_filter → Zv, getElem?_append_right → Zx, getElem_mem → Zy
open _root_.Nat renaming le_of_ble_eq_true → Z3, reduceEqDiff → Z4, reduceLeDiff → Z5, zero_le → Z8, reduceAdd → Zc, reduceBEq → Zd, reduceMul → Ze, le_refl → Zr
open _root_.Prod renaming fst → Zs, snd → Y0
open _root_.Go.Proofs.Tryz renaming prog → Zw
open Go.RowKit
section
attribute [local irreducible] on aOp
attribute [local go_sem] decide_true decide_false Zb Z9
attribute [local simp] byD_len
variable (G : Nat → D) (hG : ∀ g, low 0 (G g))
include hG
attribute [local go_sem] Z1 Zh Zi Zj Zm Zp Za Zq Zt Zu Zc Zd Z4 Z5 Ze q5_0 q5_1 q5_2 q5_3 q5_4 q5_app q5_l q5_l2 q5_l3 q5_len q5_s0 q5_s1 q5_s2 q5_s3 q5_s4 q5_sl q5_sl2 q5_sl3
attribute [local go_sem ↓] reduceIte
end
section
attribute [local irreducible] on aOp
attribute [local go_sem] decide_true decide_false Zb Z9
attribute [local simp] byD_len
variable (G : Nat → D) (hG : ∀ g, low 0 (G g))
include hG
attribute [local go_sem] Z1 Zh Zi Zj Zn Zm Zp Za Zq Z0 Zt Zu Zc Zd Z4 Z5 Ze q5_0 q5_1 q5_2 q5_3 q5_4 q5_app q5_l q5_l2 q5_l3 q5_len q5_s0 q5_s1 q5_s2 q5_s3 q5_s4 q5_sl q5_sl2 q5_sl3 Wa J2
attribute [local go_sem ↓] reduceIte
end
section
attribute [local irreducible] on aOp
attribute [local go_sem] decide_true decide_false Zb Z9
attribute [local simp] byD_len
variable (G : Nat → D) (hG : ∀ g, low 0 (G g))
include hG
attribute [local go_sem] Z1 Zh Zi Zj Int.toNat_zero Zm Zp Za Zq Z0 Zt Zu Zc Zd Z4 Z5 Ze q6_0 q6_1 q6_2 q6_3 q6_4 q6_5 q6_app q6_l q6_l2 q6_l3 q6_len q6_s0 q6_s1 q6_s2 q6_s3 q6_s4 q6_s5 q6_sl q6_sl2 q6_sl3 Wa J2
attribute [local go_sem ↓] reduceIte
end
section
attribute [local irreducible] on aOp
attribute [local go_sem] decide_true decide_false Zb Z9
attribute [local simp] byD_len
def w5 (R A Z V B : Ob) (T : List Ob) (X C : Ob) (U : List Ob) : List Ob := R :: A :: Z :: V :: B :: (T ++ X :: C :: U)
section
variable {R A Z V B X C y y' : Ob} {T U l : List Ob}
theorem w5_0 : (w5 R A Z V B T X C U)[0]? = some R := rfl
theorem w5_1 : (w5 R A Z V B T X C U)[1]? = some A := rfl
theorem w5_2 : (w5 R A Z V B T X C U)[2]? = some Z := rfl
theorem w5_3 : (w5 R A Z V B T X C U)[3]? = some V := rfl
theorem w5_4 : (w5 R A Z V B T X C U)[4]? = some B := rfl
theorem w5_s0 : (w5 R A Z V B T X C U).set 0 y = w5 y A Z V B T X C U := rfl
theorem w5_s3 : (w5 R A Z V B T X C U).set 3 y = w5 R A Z y B T X C U := rfl
theorem w5_s4 : (w5 R A Z V B T X C U).set 4 y = w5 R A Z V y T X C U := rfl
theorem w5_x : (w5 R A Z V B T X C U)[T.length + 5]? = some X := by simp [w5]
theorem w5_c : (w5 R A Z V B T X C U)[T.length + 6]? = some C := by simp [w5, Zx]
theorem w5_sx : (w5 R A Z V B T X C U).set (T.length + 5) y = w5 R A Z V B T y C U := by simp [w5]
theorem w5_sc : (w5 R A Z V B T X C U).set (T.length + 6) y = w5 R A Z V B T X y U := by
 simp only [w5, List.set_cons_succ]
 rw [List.set_append_right _ _ (by omega)]; simp
theorem w5_len : (w5 R A Z V B T X C U).length = T.length + (U.length + 7) := by simp [w5]; omega
theorem w5_app : w5 R A Z V B T X C U ++ l = w5 R A Z V B T X C (U ++ l) := by simp [w5]
theorem w5_l : (w5 R A Z V B T X C (U ++ [y]))[T.length + (U.length + 7)]? = some y := by
 simp only [w5]
 rw [show T.length + (U.length + 7) = T.length + (U.length + 2) + 1 + 1 + 1 + 1 + 1 by omega]
 simp only [List.getElem?_cons_succ]
 rw [Zx (by omega), show T.length + (U.length + 2) - T.length = U.length + 1 + 1 by omega]
 simp
theorem w5_sl : (w5 R A Z V B T X C (U ++ [y])).set (T.length + (U.length + 7)) y' = w5 R A Z V B T X C (U ++ [y']) := by
 simp only [w5]
 rw [show T.length + (U.length + 7) = T.length + (U.length + 2) + 1 + 1 + 1 + 1 + 1 by omega]
 simp only [List.set_cons_succ]
 rw [List.set_append_right _ _ (by omega), show T.length + (U.length + 2) - T.length = U.length + 1 + 1 by omega]
 simp
end
variable (G : Nat → D) (hG : ∀ g, low 0 (G g))
include hG
attribute [local go_sem] Z1 Zh Zi Zj Zm Zp Za Zq Zt Zu Zc Zd Z4 Z5 Ze q5_0 q5_1 q5_2 q5_3 q5_4 q5_app q5_l q5_l2 q5_l3 q5_len q5_s0 q5_s1 q5_s2 q5_s3 q5_s4 q5_sl q5_sl2 q5_sl3 w5_0 w5_1 w5_2 w5_3 w5_4 w5_app w5_c w5_l w5_len w5_s0 w5_s3 w5_s4 w5_sc w5_sl w5_sx w5_x
attribute [local go_sem ↓] reduceIte
end
section
attribute [local irreducible] on aOp
attribute [local go_sem] decide_true decide_false Zb Z9
attribute [local simp] byD_len
def isBotB (l : Lat) (v : Val) : Bool := decide (chkE l = 0) && decide (valC v (botV l) = 0)
variable (G : Nat → D) (hG : ∀ g, low 0 (G g))
include hG
attribute [local go_sem] Z1 Zh Zi Zj Zc Zd Z4 Z5 Ze
attribute [local go_sem ↓] reduceIte
end
section

end
section
attribute [local irreducible] on aOp
attribute [local go_sem] decide_true decide_false Zb Z9
attribute [local simp] byD_len
variable (G : Nat → D) (hG : ∀ g, low 0 (G g))
include hG
attribute [local go_sem] Z1 Zh Zi Zj Zn Zc Zd Z4 Z5 Ze byD_len
attribute [local go_sem ↓] reduceIte
theorem valid_v (l : Lat) (hsm : Sm l) (v : Val) (hv : VSm v) (h : List Ob) : Does Zw G 80 h [.agg (latX l), .agg (vaX v)] (fun h' r => h' = h ∧ r = .v (.bool (Yc2 l v))) := by
 refine Ya G hG (by simp only [lowL, low]; exact ⟨Yy _ l, Ys _ v, trivial⟩) (by rw [low]; trivial) ?_ h
 clear h
 have hck := check_d G hG l hsm
 simp only [Y4 l] at hck
 unfold Yc2
 refine Y5 Tryz.func80 rfl (Z3 rfl) hG fun hl0 _ => ?_
 simp only [Tryz.ntmps80]
 by_cases hc : chkE l = 0
 rotate_left
 · rw [decide_eq_false hc, Bool.false_and]
   have F : _ ∧ _ ∧ _ := ⟨Y4 l, Y6 v, hc⟩
   repeat' first
    | refine g0 ?_
    | (with_reducible refine Y7 ?_; refine gc rfl rfl rfl ent_79 (hck _) ?_)
   exact ⟨.inr rfl, endV hl0 rfl rfl ⟨rfl, rfl⟩⟩
 rw [hc] at hck
 have hel := element_d G hG _ l v (Zr _) (Zf4 hc) hsm hv
 simp only [Y4 l, Y6 v] at hel
 rw [decide_eq_true hc, Y1]
 generalize Y8 l v = bb at *
 have F : _ ∧ _ := ⟨Y4 l, Y6 v⟩
 repeat' first
  | refine g0 ?_
  | (with_reducible refine Y7 ?_; first | refine gc rfl rfl rfl ent_79 (hck _) ?_ | refine gc rfl rfl rfl Yf0 (hel _) ?_)
 exact ⟨.inr rfl, endV hl0 rfl rfl ⟨rfl, rfl⟩⟩
end
section
attribute [local irreducible] on aOp
attribute [local go_sem] decide_true decide_false Zb Z9
attribute [local simp] byD_len
variable (G : Nat → D) (hG : ∀ g, low 0 (G g))
include hG
attribute [local go_sem] Z1 Zh Zi Zj Zn Z0 Zc Zd Z4 Z5 Ze gM_0 gM_app gM_l gM_len gM_sl Zg3 U9
attribute [local go_sem ↓] reduceIte
theorem rNamed_d (l : Lat) (hsm : Sm l) (h : List Ob) : Does Zw G 197 h [.agg (latX l)] (fun h' r => h' = h ∧ r = .v (.bool (Ze3 l.kind l.names l.rules))) := by
 refine Ya G hG (Wf _ l) (by rw [low]; trivial) ?_ h
 clear h
 have hpl := hsm.parts
 have hnl := hsm.names
 have hrl := hsm.rules
 have htx := hsm.texts
 have hcd := hsm.conds
 have hri := rRising_d G hG l.names hnl htx
 refine Y5 Tryz.func197 rfl (Z3 rfl) hG fun hl0 _ => ?_
 simp only [Tryz.ntmps197]
 by_cases h6 : l.kind = 6
 · have e0 : Ze3 l.kind l.names l.rules = nmGo true l.names 0 l.names := by unfold Ze3; rw [if_pos h6]
   rw [e0]
   have F : _ ∧ _ := ⟨Y4, h6⟩
   repeat' first
    | refine g0 ?_
    | fail
   refine Yh (fun m e h' => ∃ k : Nat, k ≤ l.names.length ∧ m = l.names.length - k ∧ nmGo true l.names 0 l.names = nmGo true l.names k (l.names.drop k) ∧ h' = [.cells (latX l)] ∧ e 1 = .ptr 0 0 ∧ e 3 = .v (.int .i64 k)) l.names.length ⟨0, Z8 _, rfl, rfl, (by rw [Y4, h6]), rfl, rfl⟩ ?_
   rintro m e h' ⟨k, hk, rfl, ho, rfl, e1, e3⟩
   by_cases hlt : k < l.names.length
   · have hx : l.names[k]? = some l.names[k] := Zf hlt
     have wk : IntKind.i64.wrap ((k : Int) + 1) = (k : Int) + 1 := IntWalk.i64_in _ (by omega)
     rw [nmGo_step true l.names k hlt] at ho
     have hn := rName_d G hG l.names[k] (htx _ (Zy hlt))
     generalize l.names[k] = x at hx hn ho
     have hin := rIn_d G hG (l.names.take k) x (by rw [List.length_take]; omega)
     have hin2 : ∀ (b : Bool), hasS (l.names.take k) x = b → ∀ h, Does Zw G 236 h [.sl 1 (List.drop (Int.toNat 0) (List.take (Int.toNat (k : Int)) (l.names.map strX))), .v (.string x)] (fun h' r => h' = h ∧ r = .v (.bool b)) := fun b hb h => by
      have := hin h
      rw [hb, List.map_take] at this
      exact this
     clear hin
     cases hnb : Xz x <;> rw [hnb] at hn ho
     · skip
       have F : _ ∧ _ ∧ _ ∧ _ := ⟨Y4 l, e1, e3, wk⟩
       repeat' first
        | (with_reducible refine Yf ?_; refine Y9 mixd (by kernel_rfl) ?_)
        | refine gg ?_
        | refine Two.mk (fun hq => ?_) fun hq => ?_
        | (with_reducible refine Xf ?_; refine aq2 rfl rfl rfl Ze8 (hn _) ?_)
        | (exfalso; omega)
       exact ⟨.inr rfl, endD (r := .v (.bool false)) hl0 rfl (by simp) (by simp) rfl (by rw [low]; trivial) ⟨rfl, by rw [ho]; rfl⟩⟩
     · cases hib : hasS (l.names.take k) x <;> rw [hib] at ho
       · skip
         have F : _ ∧ _ ∧ _ ∧ _ := ⟨Y4 l, e1, e3, wk⟩
         repeat' first
          | (with_reducible refine Yf ?_; refine Y9 mixd (by kernel_rfl) ?_)
          | refine gg ?_
          | refine Two.mk (fun hq => ?_) fun hq => ?_
          | (with_reducible refine Xf ?_; first | refine aq2 rfl rfl rfl Ze8 (hn _) ?_ | refine aq2 rfl rfl rfl Zq6 (hin2 _ hib _) ?_)
          | (exfalso; omega)
         exact ⟨rfl, l.names.length - (k + 1), by omega, k + 1, hlt, rfl, by rw [ho]; rfl, by rw [Y4], e1, rfl⟩
       · skip
         have F : _ ∧ _ ∧ _ ∧ _ := ⟨Y4 l, e1, e3, wk⟩
         repeat' first
          | (with_reducible refine Yf ?_; refine Y9 mixd (by kernel_rfl) ?_)
          | refine gg ?_
          | refine Two.mk (fun hq => ?_) fun hq => ?_
          | (with_reducible refine Xf ?_; first | refine aq2 rfl rfl rfl Ze8 (hn _) ?_ | refine aq2 rfl rfl rfl Zq6 (hin2 _ hib _) ?_)
          | (exfalso; omega)
         exact ⟨.inr rfl, endD (r := .v (.bool false)) hl0 rfl (by simp) (by simp) rfl (by rw [low]; trivial) ⟨rfl, by rw [ho]; rfl⟩⟩
   · skip
     have F : _ ∧ _ ∧ _ := ⟨Y4 l, e1, e3⟩
     repeat' first
      | (with_reducible refine Yf ?_; refine Y9 mixd (by kernel_rfl) ?_)
      | refine gg ?_
      | refine Two.mk (fun hq => ?_) fun hq => ?_
      | refine Evry.mk fun x hx => ?_
      | (exfalso; omega)
     exact ⟨.inr rfl, endD (r := .v (.bool true)) hl0 rfl (by simp) (by simp) rfl (by rw [low]; trivial) ⟨rfl, by rw [ho, Zk (by omega)]; rfl⟩⟩
 have en : Ze3 l.kind l.names l.rules = (Za9 l.names && l.rules.all (Zd2 l.names)) := by unfold Ze3; rw [if_neg h6]
 rw [en]
 cases hrb : Za9 l.names <;> rw [hrb] at hri
 · skip
   have F : _ ∧ _ := ⟨Y4 l, h6⟩
   repeat' first
    | refine g0 ?_
    | (with_reducible refine Y7 ?_; refine gc rfl rfl rfl Zz5 (hri _) ?_)
   exact ⟨.inr rfl, endD (r := .v (.bool false)) hl0 rfl (by simp) (by simp) rfl (by rw [low]; trivial) ⟨rfl, rfl⟩⟩
 rw [Y1]
 have F : _ ∧ _ := ⟨Y4 l, h6⟩
 repeat' first
  | refine g0 ?_
  | (with_reducible refine Y7 ?_; refine gc rfl rfl rfl Zz5 (hri _) ?_)
 refine Yh (fun m e h' => ∃ (k : Nat) (T : List Ob), k ≤ l.rules.length ∧ m = l.rules.length - k ∧ l.rules.all (Zd2 l.names) = (l.rules.drop k).all (Zd2 l.names) ∧ h' = gM (.cells (latX l)) T ∧ e 1 = .ptr 0 0 ∧ e 4 = .v (.int .i64 k)) l.rules.length ⟨0, [], Z8 _, rfl, rfl, (by rw [Y4]; rfl), rfl, rfl⟩ ?_
 rintro m e h' ⟨k, T, hk, rfl, ho, rfl, e1, e4⟩
 by_cases hlt : k < l.rules.length
 rotate_left
 · skip
   have F : _ ∧ _ ∧ _ := ⟨Y4 l, e1, e4⟩
   repeat' first
    | refine gg ?_
    | refine Two.mk (fun hq => ?_) fun hq => ?_
    | refine Evry.mk fun x hx => ?_
    | (exfalso; omega)
   exact ⟨.inr rfl, endD (r := .v (.bool true)) hl0 rfl (by simp) (by simp) rfl (by rw [low]; trivial) ⟨rfl, by rw [ho, Zk (by omega)]; rfl⟩⟩
 have hx : l.rules[k]? = some l.rules[k] := Zf hlt
 have wk : IntKind.i64.wrap ((k : Int) + 1) = (k : Int) + 1 := IntWalk.i64_in _ (by omega)
 rw [rules_step _ _ k hlt] at ho
 obtain ⟨hcl, hcs⟩ := hcd _ (Zy hlt)
 generalize l.rules[k] = x at hx ho hcl hcs
 have hrx := rRising_d G hG x.cond hcl hcs
 have hin := rIn_d G hG l.names x.concl hnl
 by_cases hz : x.cond.length = 0
 · have er : Zd2 l.names x = false := by unfold Zd2; rw [decide_eq_false (by omega)]; rfl
   have F : _ ∧ _ ∧ _ ∧ _ ∧ _ := ⟨Y4 l, e1, e4, wk, hz⟩
   repeat' first
    | refine gg ?_
    | refine Two.mk (fun hq => ?_) fun hq => ?_
    | (exfalso; omega)
   all_goals first | (exfalso; omega) | exact ⟨.inr rfl, endD (r := .v (.bool false)) hl0 rfl (by simp) (by simp) rfl (by rw [low]; trivial) ⟨rfl, by rw [ho, er]; rfl⟩⟩
 cases hxb : Za9 x.cond <;> rw [hxb] at hrx
 · have er : Zd2 l.names x = false := by unfold Zd2; rw [hxb]; simp
   have F : _ ∧ _ ∧ _ ∧ _ := ⟨Y4 l, e1, e4, wk⟩
   repeat' first
    | refine gg ?_
    | refine Two.mk (fun hq => ?_) fun hq => ?_
    | (with_reducible refine Y7 ?_; refine gc rfl rfl rfl Zz5 (hrx _) ?_)
    | (exfalso; omega)
   all_goals first | (exfalso; omega) | exact ⟨.inr rfl, endD (r := .v (.bool false)) hl0 rfl (by simp) (by simp) rfl (by rw [low]; trivial) ⟨rfl, by rw [ho, er]; rfl⟩⟩
 cases hib : hasS l.names x.concl <;> rw [hib] at hin
 · have er : Zd2 l.names x = false := by unfold Zd2; rw [hib]; simp
   have F : _ ∧ _ ∧ _ ∧ _ := ⟨Y4 l, e1, e4, wk⟩
   repeat' first
    | refine gg ?_
    | refine Two.mk (fun hq => ?_) fun hq => ?_
    | (with_reducible refine Y7 ?_; first | refine gc rfl rfl rfl Zz5 (hrx _) ?_ | refine gc rfl rfl rfl Zq6 (hin _) ?_)
    | (exfalso; omega)
   all_goals first | (exfalso; omega) | exact ⟨.inr rfl, endD (r := .v (.bool false)) hl0 rfl (by simp) (by simp) rfl (by rw [low]; trivial) ⟨rfl, by rw [ho, er]; rfl⟩⟩
 have er : Zd2 l.names x = x.cond.all (hasS l.names) := by unfold Zd2; rw [hxb, hib, decide_eq_true hz]; simp
 rw [er] at ho
 have F : _ ∧ _ ∧ _ ∧ _ := ⟨Y4 l, e1, e4, wk⟩
 repeat' first
  | refine gg ?_
  | refine Two.mk (fun hq => ?_) fun hq => ?_
  | (with_reducible refine Y7 ?_; first | refine gc rfl rfl rfl Zz5 (hrx _) ?_ | refine gc rfl rfl rfl Zq6 (hin _) ?_)
  | (exfalso; omega)
 all_goals try (exfalso; omega)
 refine Yh (fun m e h' => ∃ j : Nat, j ≤ x.cond.length ∧ m = x.cond.length - j ∧ x.cond.all (hasS l.names) = (x.cond.drop j).all (hasS l.names) ∧ h' = gM (.cells (latX l)) (T ++ [.cells (Zp4 x)]) ∧ e 1 = .ptr 0 0 ∧ e 4 = .v (.int .i64 k) ∧ e 5 = .ptr (T.length + 1) 0 ∧ e 6 = .v (.int .i64 j)) x.cond.length ⟨0, Z8 _, rfl, rfl, (by rw [Y4, Zg3]), e1, e4, rfl, rfl⟩ ?_
 clear e1 e4
 rintro m e h' ⟨j, hj, rfl, hoj, rfl, e1, e4, e5, e6⟩
 by_cases hjl : j < x.cond.length
 rotate_left
 · skip
   have F : _ ∧ _ ∧ _ ∧ _ ∧ _ ∧ _ := ⟨Y4 l, e1, e4, e5, e6, wk⟩
   repeat' first
    | (with_reducible refine Yf ?_; refine Y9 mixd (by kernel_rfl) ?_)
    | refine gg ?_
    | refine Two.mk (fun hq => ?_) fun hq => ?_
    | refine Evry.mk fun x hx => ?_
    | (exfalso; omega)
   exact ⟨rfl, l.rules.length - (k + 1), by omega, k + 1, _, hlt, rfl, by rw [ho, hoj, Zk (by omega)]; rfl, by rw [Y4], e1, rfl⟩
 have hy : x.cond[j]? = some x.cond[j] := Zf hjl
 have wj : IntKind.i64.wrap ((j : Int) + 1) = (j : Int) + 1 := IntWalk.i64_in _ (by omega)
 rw [conds_step _ _ j hjl] at hoj
 generalize x.cond[j] = y at hy hoj
 have hiy := rIn_d G hG l.names y hnl
 cases hyb : hasS l.names y <;> rw [hyb] at hiy hoj
 · skip
   have F : _ ∧ _ ∧ _ ∧ _ ∧ _ ∧ _ := ⟨Y4 l, e1, e4, e5, e6, wj⟩
   repeat' first
    | (with_reducible refine Yf ?_; refine Y9 mixd (by kernel_rfl) ?_)
    | refine gg ?_
    | refine Two.mk (fun hq => ?_) fun hq => ?_
    | (with_reducible refine Xf ?_; refine aq2 rfl rfl rfl Zq6 (hiy _) ?_)
    | (exfalso; omega)
   exact ⟨.inr rfl, endD (r := .v (.bool false)) hl0 rfl (by simp) (by simp) rfl (by rw [low]; trivial) ⟨rfl, by rw [ho, hoj]; rfl⟩⟩
 · skip
   have F : _ ∧ _ ∧ _ ∧ _ ∧ _ ∧ _ := ⟨Y4 l, e1, e4, e5, e6, wj⟩
   repeat' first
    | (with_reducible refine Yf ?_; refine Y9 mixd (by kernel_rfl) ?_)
    | refine gg ?_
    | refine Two.mk (fun hq => ?_) fun hq => ?_
    | (with_reducible refine Xf ?_; refine aq2 rfl rfl rfl Zq6 (hiy _) ?_)
    | (exfalso; omega)
   exact ⟨rfl, x.cond.length - (j + 1), by omega, j + 1, hjl, rfl, by rw [hoj]; rfl, by rw [Y4, Zg3], e1, e4, e5, rfl⟩
end
section
attribute [local irreducible] on aOp
attribute [local go_sem] decide_true decide_false Zb Z9
attribute [local simp] byD_len
def walkG (g : Lat → Nat → Nat × Int) : List Lat → Nat → Nat × Int
 | [], n => (n, 0)
 | p :: t, n => if (g p n).2 ≠ 0 then (n, (g p n).2) else walkG g t (g p n).1
def Zi1 : Nat → Lat → Nat → Nat × Int
 | 0, l, n => (n, Zj3 l 7 n)
 | f + 1, l, n => if Zj3 l (6 - f) n ≠ 0 then (n, Zj3 l (6 - f) n) else walkG (Zi1 f) l.parts (n + 1)
theorem walkG_go {g : Lat → Nat → Nat × Int} {v : Lat → Nat → Int × Nat} : ∀ (ps : List Lat) (n : Nat), (∀ p ∈ ps, ∀ n, (g p n).2 = (v p n).1 ∧ ((v p n).1 = 0 → (g p n).1 = (v p n).2)) → (walkG g ps n).2 = (goL v ps n).1 ∧ ((goL v ps n).1 = 0 → (walkG g ps n).1 = (goL v ps n).2)
 | [], n, _ => ⟨rfl, fun _ => rfl⟩
 | p :: t, n, h => by
  obtain ⟨h1, h2⟩ := h p (by simp) n
  rw [walkG, goL, h1]
  by_cases h0 : (v p n).1 = 0
  · rw [if_neg (fun q => q h0), if_neg (fun q => q h0), h2 h0]
    exact walkG_go t _ fun q hq => h q (by simp [hq])
  · rw [if_pos h0, if_pos h0]
    exact ⟨rfl, fun q => absurd q h0⟩
theorem Zi0 : ∀ (f : Nat) (l : Lat) (n : Nat), f ≤ 6 → (Zi1 f l n).2 = (Yt f l n).1 ∧ ((Yt f l n).1 = 0 → (Zi1 f l n).1 = (Yt f l n).2)
 | 0, l, n, _ => by
  rcases Ye0 0 l n 7 (by omega) (by omega) with ⟨h1, h2⟩ | ⟨_, g, hg, _⟩
  · exact ⟨h2.symm, fun q => absurd (h2 ▸ q) h1⟩
  · omega
 | f + 1, l, n, hf => by
  rw [Zi1]
  rcases Ye0 (f + 1) l n (6 - f) (by omega) hf with ⟨h1, h2⟩ | ⟨h1, g, hg, h2⟩
  · rw [if_pos h1]; exact ⟨h2.symm, fun q => absurd (h2 ▸ q) h1⟩
  · obtain rfl : f = g := by omega
    rw [if_neg (fun q => q h1), h2]
    exact walkG_go l.parts (n + 1) fun p _ m => Zi0 f p m (by omega)
theorem walkF_le {f : Nat} {l : Lat} {n : Nat} (hf : f ≤ 6) (hn : n ≤ 64) (h : (Zi1 f l n).2 = 0) : (Zi1 f l n).1 ≤ 64 := by
 obtain ⟨h1, h2⟩ := Zi0 f l n hf
 rw [h2 (h1 ▸ h)]
 exact visit_le f l n hn
theorem walkF_chk (l : Lat) : (Zi1 6 l 0).2 = chkE l := (Zi0 6 l 0 (Zr _)).1
theorem nodeR_lt {l : Lat} {d : Int} {n : Nat} (h : Zj3 l d n = 0) : n < 64 := by
 unfold Zj3 at h
 by_cases h1 : 6 < d ∨ 64 ≤ n
 · rw [if_pos h1] at h; exact absurd h (by decide)
 · omega
variable (G : Nat → D) (hG : ∀ g, low 0 (G g))
include hG
attribute [local go_sem] Z1 Zh Zi Zj Zn Z0 Zc Zd Z4 Z5 Ze Zo0 Zx6
attribute [local go_sem ↓] reduceIte
theorem rNode_d (l : Lat) (hsm : Sm l) (d : Int) (n : Nat) (hd : 0 ≤ d ∧ d ≤ 7) (hn : n ≤ 64) (h : List Ob) : Does Zw G 134 h [.agg (latX l), .v (.int .i64 d), .v (.int .i64 n)] (fun h' r => h' = h ∧ r = .v (.int .i64 (Zj3 l d n))) := by
 refine Ya G hG (by rw [lowL, lowL, lowL, lowL, low]; exact ⟨Yy _ l, by simp [low], by simp [low], trivial⟩) (by rw [low]; trivial) ?_ h
 clear h
 have hpl := hsm.parts
 have hnl := hsm.names
 have hrl := hsm.rules
 have hsh := rShape_d G hG l hsm
 have hnm := rNamed_d G hG l hsm
 have hp0 : l.kind = 7 → W4 l = false → ∃ p, l.parts[0]? = some p ∧ l.parts.length = 2 ∧ Wp l = !Xh p ∧ ∀ (b : Bool), Xh p = b → ∀ (h : List Ob), Does Zw G 198 h [.agg (latX p)] (fun h' r => h' = h ∧ r = .v (.bool b)) := fun h7 hs => by
  have h2 := Yc9 l hs h7
  match hm : l.parts, h2 with
  | [a, b], _ => exact ⟨a, rfl, rfl, by unfold Wp; rw [h7, hm]; rfl, fun c hc h => hc ▸ rChain_d G hG _ a (Zr _) (hsm.part a (by rw [hm]; simp)) h⟩
 have hnc : l.kind ≠ 7 → Wp l = false := fun h7 => by unfold Wp; rw [decide_eq_false h7, Bool.false_and]
 simp only [Y4 l] at hsh hnm
 unfold Zj3 Jj
 generalize hsb : W4 l = sb at *
 generalize hnb : Ze3 l.kind l.names l.rules = nb at *
 generalize hcb : Wp l = cb at *
 generalize hkk : l.kind = k at *
 generalize hlo : l.lo = lo at *
 generalize hhi : l.hi = hi at *
 generalize hnn : l.names.length = nn at *
 generalize hnr : l.rules.length = nr at *
 refine Y5 Tryz.func134 rfl (Z3 rfl) hG fun hl0 _ => ?_
 simp only [Tryz.ntmps134]
 by_cases h7 : k = 7
 · subst h7
   cases sb
   · obtain ⟨p, hp, hp2, hpc, hpd⟩ := hp0 rfl rfl
     cases hcp : Xh p <;> rw [hcp] at hpc
     all_goals
      cases nb
     all_goals
      skip
      repeat' first
       | (with_reducible first | refine sA rfl ?_ | refine sI rfl rfl ?_ | refine sT rfl ?_ | refine sB rfl ?_)
       | (with_reducible refine Y7 ?_; first | refine Xi ?_ | (refine ao1 rfl rfl fun K HK => ?_; (first | refine Yo rfl ?_ | skip); simp only [go_sem, Y4 l, hkk, hlo, hhi, hnn, hnr, hp2, Int.toNat_zero]; (first | refine X1 (fun hq => ?_) (fun hq => ?_) | (refine ⟨by omega, ?_⟩; refine Yn (by assumption) ?_) | skip) <;> (refine HK _ _ ?_; clear HK K)) | refine ao0 rfl rfl ?_ | (refine ao2 rfl rfl rfl Yl1 (hsh _) ?_; rintro _ _ ⟨rfl, rfl⟩) | (refine ao2 rfl rfl rfl ent_197 (hnm _) ?_; rintro _ _ ⟨rfl, rfl⟩) | (refine ao2 rfl rfl rfl Yl0 (hpd _ hcp _) ?_; rintro _ _ ⟨rfl, rfl⟩))
      all_goals first | (exfalso; omega) | refine ⟨.inr rfl, endV hl0 rfl rfl ⟨rfl, congrArg (fun b => D.v (.int .i64 b)) ?_⟩⟩
      all_goals (clear hl0; simp [Zx1]; repeat' split) <;> first | rfl | omega | (simp_all; done) | (simp_all; omega) | (simp_all; intros; omega)
   · skip
     have F : _ ∧ _ ∧ _ ∧ _ ∧ _ ∧ _ := ⟨Y4 l, hkk, hlo, hhi, hnn, hnr⟩
     repeat' first
      | refine gg ?_
      | refine Two.mk (fun hq => ?_) fun hq => ?_
      | (with_reducible refine Y7 ?_; refine gc rfl rfl rfl Yl1 (hsh _) ?_)
     all_goals first | (exfalso; omega) | refine ⟨.inr rfl, endV hl0 rfl rfl ⟨rfl, congrArg (fun b => D.v (.int .i64 b)) ?_⟩⟩
     all_goals (clear hl0; simp [Zx1]; repeat' split) <;> first | rfl | omega | (simp_all; done) | (simp_all; omega) | (simp_all; intros; omega)
 · obtain rfl := hnc h7
   cases sb
   · cases nb
     all_goals
      skip
      have F : _ ∧ _ ∧ _ ∧ _ ∧ _ ∧ _ ∧ _ := ⟨Y4 l, hkk, hlo, hhi, hnn, hnr, h7⟩
      repeat' first
       | refine gg ?_
       | refine Two.mk (fun hq => ?_) fun hq => ?_
       | (with_reducible refine Y7 ?_; first | refine gc rfl rfl rfl Yl1 (hsh _) ?_ | refine gc rfl rfl rfl ent_197 (hnm _) ?_)
       | (exfalso; omega)
      all_goals first | (exfalso; omega) | refine ⟨.inr rfl, endV hl0 rfl rfl ⟨rfl, congrArg (fun b => D.v (.int .i64 b)) ?_⟩⟩
      all_goals (clear hl0; simp [Zx1]; repeat' split) <;> first | rfl | omega | (simp_all; done) | (simp_all; omega) | (simp_all; intros; omega)
   · skip
     have F : _ ∧ _ ∧ _ ∧ _ ∧ _ ∧ _ ∧ _ := ⟨Y4 l, hkk, hlo, hhi, hnn, hnr, h7⟩
     repeat' first
      | refine gg ?_
      | refine Two.mk (fun hq => ?_) fun hq => ?_
      | (with_reducible refine Y7 ?_; refine gc rfl rfl rfl Yl1 (hsh _) ?_)
      | (exfalso; omega)
     all_goals first | (exfalso; omega) | refine ⟨.inr rfl, endV hl0 rfl rfl ⟨rfl, congrArg (fun b => D.v (.int .i64 b)) ?_⟩⟩
     all_goals (clear hl0; simp [Zx1]; repeat' split) <;> first | rfl | omega | (simp_all; done) | (simp_all; omega) | (simp_all; intros; omega)
theorem rWalk_d : ∀ (f : Nat) (l : Lat) (n : Nat) (d : Int), f ≤ 6 → d = 7 - f → Sm l → n ≤ 64 → ∀ (h : List Ob), Does Zw G 77 h [.agg (latX l), .v (.int .i64 d), .v (.int .i64 n)] (fun h' r => h' = h ∧ r = .tup [.v (.int .i64 (Zi1 f l n).1), .v (.int .i64 (Zi1 f l n).2)]) := by
 intro f
 induction f with
 | zero =>
   intro l n d hf hd hsm hn h
   refine Ya G hG (by rw [lowL, lowL, lowL, lowL, low]; exact ⟨Yy _ l, by simp [low], by simp [low], trivial⟩) (by simp [low, lowL]) ?_ h
   clear h
   obtain rfl : d = 7 := by omega
   have hnd := rNode_d G hG l hsm 7 n (by omega) hn
   simp only [Y4 l] at hnd
   have hne : Zj3 l 7 n ≠ 0 := by unfold Zj3; rw [if_pos (.inl (by omega))]; decide
   rw [Zi1]
   generalize Zj3 l 7 n = e at *
   refine Y5 Tryz.func77 rfl (Z3 rfl) hG fun hl0 _ => ?_
   simp only [Tryz.ntmps77]
   have F : _ ∧ _ := ⟨Y4 l, hne⟩
   repeat' first
    | refine g0 ?_
    | (with_reducible refine Y7 ?_; refine gc rfl rfl rfl ent_134 (hnd _) ?_)
   exact ⟨.inr rfl, endD (r := .tup [.v _, .v _]) hl0 rfl (by simp) (by simp) rfl (by simp [low, lowL]) ⟨rfl, rfl⟩⟩
 | succ f ih =>
   intro l n d hf hd hsm hn h
   refine Ya G hG (by rw [lowL, lowL, lowL, lowL, low]; exact ⟨Yy _ l, by simp [low], by simp [low], trivial⟩) (by simp [low, lowL]) ?_ h
   clear h
   obtain rfl : d = 6 - f := by omega
   have hnd := rNode_d G hG l hsm (6 - f) n (by omega) hn
   simp only [Y4 l] at hnd
   have hpl := hsm.parts
   rw [Zi1]
   have hlt64 := nodeR_lt (l := l) (d := 6 - f) (n := n)
   generalize Zj3 l (6 - f) n = e at *
   refine Y5 Tryz.func77 rfl (Z3 rfl) hG fun hl0 _ => ?_
   simp only [Tryz.ntmps77]
   by_cases he : e = 0
   rotate_left
   · rw [if_pos he]
     have F : _ ∧ _ := ⟨Y4 l, he⟩
     repeat' first
      | refine g0 ?_
      | (with_reducible refine Y7 ?_; refine gc rfl rfl rfl ent_134 (hnd _) ?_)
     exact ⟨.inr rfl, endD (r := .tup [.v _, .v _]) hl0 rfl (by simp) (by simp) rfl (by simp [low, lowL]) ⟨rfl, rfl⟩⟩
   rw [if_neg (fun q => q he)]
   have hn64 := hlt64 he
   subst he
   have wn : IntKind.i64.wrap ((n : Int) + 1) = ((n + 1 : Nat) : Int) := IntWalk.i64_in _ (by omega)
   have wd : IntKind.i64.wrap (6 - (f : Int) + 1) = 6 - (f : Int) + 1 := IntWalk.i64_in _ (by omega)
   have F : _ ∧ _ := ⟨Y4 l, wn⟩
   repeat' first
    | refine g0 ?_
    | (with_reducible refine Y7 ?_; refine gc rfl rfl rfl ent_134 (hnd _) ?_)
   refine Yh (fun m e h' => ∃ k c : Nat, k ≤ l.parts.length ∧ m = l.parts.length - k ∧ c ≤ 64 ∧ walkG (Zi1 f) l.parts (n + 1) = walkG (Zi1 f) (l.parts.drop k) c ∧ h' = [.cells (latX l)] ∧ e 1 = .v (.int .i64 (6 - f)) ∧ e 3 = .ptr 0 0 ∧ e 9 = .v (.int .i64 c) ∧ e 10 = .v (.int .i64 k)) l.parts.length ⟨0, n + 1, Z8 _, rfl, by omega, rfl, (by rw [Y4]), rfl, rfl, rfl, rfl⟩ ?_
   clear hnd
   rintro m e h' ⟨k, c, hk, rfl, hc, ho, rfl, e1, e3, e9, e10⟩
   by_cases hlt : k < l.parts.length
   rotate_left
   · skip
     have F : _ ∧ _ ∧ _ ∧ _ ∧ _ := ⟨Y4 l, e1, e3, e9, e10⟩
     repeat' first
      | refine gg ?_
      | refine Two.mk (fun hq => ?_) fun hq => ?_
      | refine Evry.mk fun x hx => ?_
      | (exfalso; omega)
     exact ⟨.inr rfl, endD (r := .tup [.v _, .v _]) hl0 rfl (by simp) (by simp) rfl (by simp [low, lowL]) ⟨rfl, by rw [ho, Zk (by omega)]; rfl⟩⟩
   have hx : l.parts[k]? = some l.parts[k] := Zf hlt
   have wk : IntKind.i64.wrap ((k : Int) + 1) = (k : Int) + 1 := IntWalk.i64_in _ (by omega)
   rw [List.drop_eq_getElem_cons hlt, walkG] at ho
   have hr := ih l.parts[k] c (6 - (f : Int) + 1) (by omega) (by omega) (hsm.part _ (Zy hlt)) hc
   have hle := walkF_le (f := f) (l := l.parts[k]) (by omega) hc
   generalize l.parts[k] = x at hx ho hr hle
   generalize Zi1 f x c = y at *
   obtain ⟨y1, y2⟩ := y
   simp only at ho hr hle
   by_cases hy : y2 = 0
   · rw [if_neg (fun q => q hy)] at ho
     have hle := hle hy
     have F : _ ∧ _ ∧ _ ∧ _ ∧ _ ∧ _ ∧ _ ∧ _ := ⟨Y4 l, e1, e3, e9, e10, wk, wd, hy⟩
     repeat' first
      | refine gg ?_
      | refine Two.mk (fun hq => ?_) fun hq => ?_
      | (with_reducible refine Y7 ?_; refine gc rfl rfl rfl ent_77 (hr _) ?_)
      | (exfalso; omega)
     exact ⟨rfl, l.parts.length - (k + 1), by omega, k + 1, y1, hlt, rfl, hle, ho, by rw [Y4 l], e1, e3, rfl, rfl⟩
   · rw [if_pos hy] at ho
     have F : _ ∧ _ ∧ _ ∧ _ ∧ _ ∧ _ ∧ _ ∧ _ := ⟨Y4 l, e1, e3, e9, e10, wk, wd, hy⟩
     repeat' first
      | refine gg ?_
      | refine Two.mk (fun hq => ?_) fun hq => ?_
      | (with_reducible refine Y7 ?_; refine gc rfl rfl rfl ent_77 (hr _) ?_)
      | (exfalso; omega)
     exact ⟨.inr rfl, endD (r := .tup [.v _, .v _]) hl0 rfl (by simp) (by simp) rfl (by simp [low, lowL]) ⟨rfl, by rw [ho]⟩⟩
theorem Yi5 (l : Lat) (hsm : Sm l) (h : List Ob) : Does Zw G 38 h [.agg (latX l)] (fun h' r => h' = h ∧ r = .v (.int .i64 (chkE l))) := by
 refine Ya G hG (Wf _ l) (by rw [low]; trivial) ?_ h
 clear h
 have hr := rWalk_d G hG 6 l 0 1 (by omega) (by omega) hsm (by omega)
 simp only [Y4 l] at hr
 rw [← walkF_chk]
 generalize Zi1 6 l 0 = y at *
 obtain ⟨y1, y2⟩ := y
 refine Y5 Tryz.func38 rfl (Z3 rfl) hG fun hl0 _ => ?_
 simp only [Tryz.ntmps38]
 have F := Y4 l
 repeat' first
  | refine g0 ?_
  | (with_reducible refine Y7 ?_; refine gc rfl rfl rfl ent_77 (hr _) ?_)
 exact ⟨.inr rfl, endV hl0 rfl rfl ⟨rfl, rfl⟩⟩
end
section
structure Df {α : Type} (E : α → Prop) (le : α → α → Bool) (jn : α → α → α) (bot : α) (q : Prop) (df : α → α → α) : Prop where
 mem : ∀ a b, E a → E b → E (df a b)
 dle : ∀ a b, E a → E b → le (df a b) a = true
 restore : ∀ a b, E a → E b → le a (jn (df a b) b) = true
 botd : ∀ a b, E a → E b → le a b = true → df a b = bot
 least : q → ∀ a b c, E a → E b → E c → le a (jn c b) = true → le (df a b) c = true
section
variable {α : Type} {E : α → Prop} {le : α → α → Bool} {jn : α → α → α} {bot : α} {q : Prop} {df : α → α → α}
theorem Df.is_bot (D : Df E le jn bot q df) (J : Jl E le jn bot) {a b : α} (ha : E a) (hb : E b) : df a b = bot ↔ le a b = true :=
 ⟨fun h => by have := D.restore a b ha hb; rw [h, J.bot_left hb] at this; exact this, D.botd a b ha hb⟩
theorem Df.of (J : Jl E le jn bot) {g : α → α → α} (hdf : ∀ a b, E a → E b → df a b = if le a b = true then bot else g a b)
  (hg : ∀ a b, E a → E b → le a b = false → E (g a b) ∧ le (g a b) a = true ∧ le a (jn (g a b) b) = true ∧ (q → ∀ c, E c → le a (jn c b) = true → le (g a b) c = true)) : Df E le jn bot q df where
 mem a b ha hb := by
  rw [hdf a b ha hb]; split
  · exact J.bmem
  · rename_i h; exact (hg a b ha hb (by simpa using h)).1
 dle a b ha hb := by
  rw [hdf a b ha hb]; split
  · exact J.bot a ha
  · rename_i h; exact (hg a b ha hb (by simpa using h)).2.1
 restore a b ha hb := by
  rw [hdf a b ha hb]; split
  · rename_i h; rw [J.bot_left hb]; exact h
  · rename_i h; exact (hg a b ha hb (by simpa using h)).2.2.1
 botd a b ha hb h := by rw [hdf a b ha hb, if_pos h]
 least hq a b c ha hb hc h := by
  rw [hdf a b ha hb]; split
  · exact J.bot c hc
  · rename_i h1; exact (hg a b ha hb (by simpa using h1)).2.2.2 hq c hc h
end
def Ui (bot : Val) (df : Val → Val → Val) (b : Val) (l : List (ByteArray × Val)) : List (ByteArray × Val) := l.filterMap fun x => if valC (df x.2 ((getM b x.1).getD bot)) bot = 0 then none else some (x.1, df x.2 ((getM b x.1).getD bot))
def Zc3 (bot : Val) (df : Val → Val → Val) (a b : Val) : Val := .mk 0 ((Ui bot df b (a.names.zip a.parts)).map Zs) ((Ui bot df b (a.names.zip a.parts)).map Y0) []
mutual
def W3 : Lat → Val → Val → Val
 | .mk k lo hi ns ps rs, a, b =>
   if leqV (.mk k lo hi ns ps rs) a b then botV (.mk k lo hi ns ps rs)
   else if k = 4 then .mk 0 (minS a.names b.names) [] [] else if k = 5 then diffMap ps a b
   else if k = 6 then .mk 0 [] (Zo4 ps a.parts b.parts) []
   else if k = 7 ∧ Zh6 a.parts b.parts = true then .mk 0 [] (diffLex ps a.parts b.parts) []
   else if k = 9 then .mk 0 [] [] (a.entries.filter fun x => !b.entries.any fun y => undE x y) else a
def diffMap : List Lat → Val → Val → Val
 | [], a, _ => a
 | p :: _, a, b => Zc3 (botV p) (fun v w => W3 p v w) a b
def Zo4 : List Lat → List Val → List Val → List Val
 | p :: ps, a :: s, b :: t => W3 p a b :: Zo4 ps s t
 | [], _, _ => []
 | _ :: _, [], _ => []
 | _ :: _, _ :: _, [] => []
def diffLex : List Lat → List Val → List Val → List Val
 | _ :: ps, a :: s, _ :: t => a :: diffLex2 ps s t
 | [], _, _ => []
 | _ :: _, [], _ => []
 | _ :: _, _ :: _, [] => []
def diffLex2 : List Lat → List Val → List Val → List Val
 | p :: _, a :: _, b :: _ => [W3 p a b]
 | [], _, _ => []
 | _ :: _, [], _ => []
 | _ :: _, _ :: _, [] => []
end
def DfV (l : Lat) : Prop := Df (fun v => Y8 l v = true) (leqV l) (Wh l) (botV l) (U4 l = true) (W3 l)
section
variable {k lo hi : Int} {ns : List ByteArray} {ps : List Lat} {rs : List Rl}
theorem Zo5 {a b : Val} (h : leqV (.mk k lo hi ns ps rs) a b = true) : W3 (.mk k lo hi ns ps rs) a b = botV (.mk k lo hi ns ps rs) := by rw [W3, if_pos h]
theorem Zq8 {a b : Val} (hk : k = 1 ∨ k = 2 ∨ k = 3 ∨ k = 8 ∨ k = 10 ∨ k = 7 ∧ Zh6 a.parts b.parts = false) (h : leqV (.mk k lo hi ns ps rs) a b = false) : W3 (.mk k lo hi ns ps rs) a b = a := by
 rw [W3, if_neg (by rw [h]; decide), if_neg (by omega), if_neg (by omega), if_neg (by omega), if_neg (fun h7 => by
  rcases hk with e | e | e | e | e | e
  · omega
  · omega
  · omega
  · omega
  · omega
  · rw [e.2] at h7; exact absurd h7.2 (by decide)), if_neg (by omega)]
theorem df_self (hd : ¬ (k = 8 ∨ k = 10) → ∀ a b : Val, Y8 (.mk k lo hi ns ps rs) a = true → Y8 (.mk k lo hi ns ps rs) b = true → leqV (.mk k lo hi ns ps rs) a b = true ∨ leqV (.mk k lo hi ns ps rs) b a = true) (hk : k = 1 ∨ k = 2 ∨ k = 3 ∨ k = 8 ∨ k = 10) (J : JlV (.mk k lo hi ns ps rs)) : DfV (.mk k lo hi ns ps rs) := by
 refine Df.of J (g := fun a _ => a) (fun a b _ _ => ?_) fun a b ha hb hn => ⟨ha, J.refl a ha, J.left a b ha hb, fun hq c hc h => ?_⟩
 · by_cases h : leqV (.mk k lo hi ns ps rs) a b = true
   · rw [if_pos h, Zo5 h]
   · rw [if_neg h, Zq8 (by omega) (by simpa using h)]
 · have h8 : ¬ (k = 8 ∨ k = 10) := fun e => by
    rw [U4, decide_eq_true e] at hq; cases hq
   rcases hd h8 c b hc hb with h1 | h1
   · rw [J.of_le hc hb h1, hn] at h; cases h
   · rw [J.of_ge hc hb h1] at h; exact h
end
theorem df_set {lo hi : Int} {ns : List ByteArray} {ps : List Lat} {rs : List Rl} : DfV (.mk 4 lo hi ns ps rs) := by
 refine Df.of jl_set (g := fun a b => .mk 0 (minS a.names b.names) [] []) (fun a b _ _ => by rw [W3, if_pos (show (4 : Int) = 4 by rfl)]) fun a b ha hb _ => ?_
 rw [Zy0] at ha
 refine ⟨Zy0.2 ⟨⟨rfl, rfl, rfl⟩, Zh9 _ ha.2⟩, ?_, ?_, fun _ c _ h => ?_⟩
 · rw [Vy (.inl rfl)]; exact Yd.2 fun x hx => (Up.1 hx).1
 · rw [Vy (.inl rfl), Yj7]
   exact Yd.2 fun x hx => Yp.2 (by
    by_cases h : x ∈ b.names
    · exact .inr h
    · exact .inl (Up.2 ⟨hx, h⟩))
 · rw [Vy (.inl rfl), Yj7] at h
   rw [Vy (.inl rfl)]
   exact Yd.2 fun x hx => (Yp.1 (Yd.1 h x (Up.1 hx).1)).resolve_right (Up.1 hx).2
theorem reg_filter {l : List En} (f : En → Bool) (h : regB l = true) : regB (l.filter f) = true := by
 rw [Uf] at *
 exact ⟨fun e he => h.1 e (Zv.1 he).1, h.2.1.filter f, fun e he g hg => h.2.2 e (Zv.1 he).1 g (Zv.1 hg).1⟩
theorem df_register {lo hi : Int} {ns : List ByteArray} {ps : List Lat} {rs : List Rl} : DfV (.mk 9 lo hi ns ps rs) := by
 refine Df.of Zx9 (g := fun a b => .mk 0 [] [] (a.entries.filter fun x => !b.entries.any fun y => undE x y)) (fun a b _ _ => ?_) fun a b ha hb _ => ?_
 · by_cases h : leqV (.mk 9 lo hi ns ps rs) a b = true
   · rw [if_pos h, Zo5 h]
   · rw [if_neg h, W3, if_neg h, if_neg (by decide), if_neg (by decide), if_neg (by decide), if_neg (fun h => absurd h.1 (by decide)), if_pos rfl]
 rw [isE_9] at ha hb
 have hm : ∀ x, x ∈ (a.entries.filter fun x => !b.entries.any fun y => undE x y) ↔ x ∈ a.entries ∧ ¬ ∃ y ∈ b.entries, undE x y = true := fun x => by
  rw [Zv, Zo, ← Zz, List.any_eq_true]
 have hr : regB (a.entries.filter fun x => !b.entries.any fun y => undE x y) = true := reg_filter _ ha.2
 refine ⟨isE_9.2 ⟨⟨rfl, rfl, rfl⟩, hr⟩, ?_, ?_, fun _ c hc h => ?_⟩
 · rw [Ye5]; exact Xw.2 fun p hp => ⟨p, ((hm p).1 hp).1, Za4.2 (.inl rfl)⟩
 · rw [Ye5, joinV_9]
   refine Xw.2 fun p hp => ?_
   by_cases h : ∃ y ∈ b.entries, undE p y = true
   · obtain ⟨y, hy, h1⟩ := h
     obtain ⟨q, hq, h2⟩ := Zt6 hr hb.2 (.inr hy)
     exact ⟨q, hq, Yc3 h1 h2⟩
   · exact Zt6 hr hb.2 (.inl ((hm p).2 ⟨hp, h⟩))
 · rw [Ye5, joinV_9] at h
   rw [Ye5]
   refine Xw.2 fun p hp => ?_
   obtain ⟨h1, h2⟩ := (hm p).1 hp
   obtain ⟨q, hq, h3⟩ := Xw.1 h p h1
   rcases (Uq.1 hq).1 with h4 | h4
   · exact ⟨q, h4, h3⟩
   · exact absurd ⟨q, h4, h3⟩ h2
theorem Yl8 : ∀ (ps : List Lat) (_ : ∀ p ∈ ps, JlV p) (_ : ∀ p ∈ ps, DfV p), Df (PsE ps) (leqs ps) (Zj9 ps) (ps.map botV) (Vm ps = true) (Zo4 ps)
 | [], _, _ => {
   mem := fun a b ha hb => by rw [Zo4]; exact Wl.2 rfl
   dle := fun a b _ _ => by rw [leqs]
   restore := fun a b _ _ => by rw [leqs]
   botd := fun a b _ _ _ => by rw [Zo4]; rfl
   least := fun _ a b c _ _ _ _ => by rw [leqs] }
 | p :: ps, HJ, HD => by
  have J := HD p (by simp)
  have K := Yl8 ps (fun q hq => HJ q (by simp [hq])) fun q hq => HD q (by simp [hq])
  exact {
   mem := fun a b ha hb => by
    obtain ⟨v, t, rfl, h1, h2⟩ := Yg.1 ha
    obtain ⟨v', t', rfl, h1', h2'⟩ := Yg.1 hb
    rw [Zo4]
    exact Yg.2 ⟨_, _, rfl, J.mem _ _ h1 h1', K.mem _ _ h2 h2'⟩
   dle := fun a b ha hb => by
    obtain ⟨v, t, rfl, h1, h2⟩ := Yg.1 ha
    obtain ⟨v', t', rfl, h1', h2'⟩ := Yg.1 hb
    rw [Zo4, leqs, J.dle _ _ h1 h1', K.dle _ _ h2 h2']; rfl
   restore := fun a b ha hb => by
    obtain ⟨v, t, rfl, h1, h2⟩ := Yg.1 ha
    obtain ⟨v', t', rfl, h1', h2'⟩ := Yg.1 hb
    rw [Zo4, Zj9, leqs, J.restore _ _ h1 h1', K.restore _ _ h2 h2']; rfl
   botd := fun a b ha hb x => by
    obtain ⟨v, t, rfl, h1, h2⟩ := Yg.1 ha
    obtain ⟨v', t', rfl, h1', h2'⟩ := Yg.1 hb
    rw [leqs, Z6] at x
    rw [Zo4, J.botd _ _ h1 h1' x.1, K.botd _ _ h2 h2' x.2]; rfl
   least := fun hq a b c ha hb hc x => by
    obtain ⟨v, t, rfl, h1, h2⟩ := Yg.1 ha
    obtain ⟨v', t', rfl, h1', h2'⟩ := Yg.1 hb
    obtain ⟨v2, t2, rfl, k1, k2⟩ := Yg.1 hc
    rw [Vm, Z6] at hq
    rw [Zj9, leqs, Z6] at x
    rw [Zo4, leqs, J.least hq.1 _ _ _ h1 h1' k1 x.1, K.least hq.2 _ _ _ h2 h2' k2 x.2]; rfl }
theorem Zo3 {l : Lat} (h : U4 l = true) : l.kind ≠ 8 ∧ l.kind ≠ 10 ∧ Vm l.parts = true := by
 obtain ⟨k, lo, hi, ns, ps, rs⟩ := l
 rw [U4, Z6, Zo, decide_eq_false_iff_not] at h
 exact ⟨fun e => h.1 (.inl e), fun e => h.1 (.inr e), h.2⟩
theorem Un : ∀ {ps : List Lat}, Vm ps = true ↔ ∀ p ∈ ps, U4 p = true
 | [] => by rw [Vm]; simp
 | p :: t => by rw [Vm, Z6, Un]; simp
theorem df_prod {lo hi : Int} {ns : List ByteArray} {ps : List Lat} {rs : List Rl} (HJ : ∀ p ∈ ps, JlV p) (HD : ∀ p ∈ ps, DfV p) : DfV (.mk 6 lo hi ns ps rs) := by
 have K := Yl8 ps HJ HD
 refine Df.of (jl_prod HJ) (g := fun a b => .mk 0 [] (Zo4 ps a.parts b.parts) []) (fun a b _ _ => ?_) fun a b ha hb _ => ?_
 · by_cases h : leqV (.mk 6 lo hi ns ps rs) a b = true
   · rw [if_pos h, Zo5 h]
   · rw [if_neg h, W3, if_neg h, if_neg (by decide), if_neg (by decide), if_pos rfl]
 rw [el67 (.inl rfl)] at ha hb
 refine ⟨(el67 (.inl rfl)).2 ⟨K.mem _ _ ha.1 hb.1, rfl⟩, ?_, ?_, fun hq c hc h => ?_⟩
 · rw [Zn8]; exact K.dle _ _ ha.1 hb.1
 · rw [Zn8, Yj6]; exact K.restore _ _ ha.1 hb.1
 · rw [el67 (.inl rfl)] at hc
   rw [Zn8, Yj6] at h
   rw [Zn8]; exact K.least (Zo3 hq).2.2 _ _ _ ha.1 hb.1 hc.1 h
theorem diffV_lex {lo hi : Int} {ns : List ByteArray} {p q : Lat} {rs : List Rl} {x y : Val × Val} (h : leqV (.mk 7 lo hi ns [p, q] rs) (ofP x) (ofP y) = false) : W3 (.mk 7 lo hi ns [p, q] rs) (ofP x) (ofP y) = ofP (if x.1 = y.1 then (x.1, W3 q x.2 y.2) else x) := by
 have hh : Zh6 (ofP x).parts (ofP y).parts = decide (x.1 = y.1) := by
  show decide (valC x.1 y.1 = 0) = _
  simp only [Yq]
 by_cases e : x.1 = y.1
 · rw [W3, if_neg (by rw [h]; decide), if_neg (by decide), if_neg (by decide), if_neg (by decide), if_pos ⟨rfl, by rw [hh, decide_eq_true e]⟩, if_pos e]
   show Val.mk 0 [] (diffLex [p, q] [x.1, x.2] [y.1, y.2]) [] = _
   rw [diffLex, diffLex2]; rfl
 · rw [Zq8 (.inr (.inr (.inr (.inr (.inr ⟨rfl, by rw [hh, decide_eq_false e]⟩))))) h, if_neg e]
theorem df_lex {lo hi : Int} {ns : List ByteArray} {p q : Lat} {rs : List Rl} (J : JlV p) (J' : JlV q) (D' : DfV q) (tot : TotV p) : DfV (.mk 7 lo hi ns [p, q] rs) := by
 have JL := jl_lexV (lo := lo) (hi := hi) (ns := ns) (rs := rs) J J' tot
 have hE : ∀ {x : Val × Val}, Y8 p x.1 = true → Y8 q x.2 = true → Y8 (.mk 7 lo hi ns [p, q] rs) (ofP x) = true := fun h1 h2 => el_7.2 ⟨⟨h1, h2⟩, rfl⟩
 refine Df.of JL (g := fun a b => W3 (.mk 7 lo hi ns [p, q] rs) a b) (fun a b _ _ => ?_) fun a b ha hb hn => ?_
 · by_cases h : leqV (.mk 7 lo hi ns [p, q] rs) a b = true
   · rw [if_pos h, Zo5 h]
   · rw [if_neg h]
 have ha' := el_7.1 ha
 have hb' := el_7.1 hb
 rw [← ha'.2, ← hb'.2] at hn ⊢
 show Y8 _ (W3 _ _ _) = true ∧ leqV _ (W3 _ _ _) _ = true ∧ leqV _ _ (Wh _ (W3 _ _ _) _) = true ∧ _
 rw [diffV_lex hn]
 generalize Ze1 a = x at *
 generalize Ze1 b = y at *
 obtain ⟨⟨a0, a1⟩, _⟩ := ha'
 obtain ⟨⟨b0, b1⟩, _⟩ := hb'
 rw [Xg] at hn
 by_cases e : x.1 = y.1
 · rw [if_pos e] at hn ⊢
   have hd : Y8 q (W3 q x.2 y.2) = true := D'.mem _ _ a1 b1
   refine ⟨hE a0 hd, ?_, ?_, fun hq c hc h => ?_⟩
   · rw [Xg, if_pos rfl]; exact D'.dle _ _ a1 b1
   · rw [Ze5 tot (x := (x.1, W3 q x.2 y.2)) a0 b0, if_pos e, Xg, if_pos rfl]; exact D'.restore _ _ a1 b1
   · have hc' := el_7.1 hc
     rw [← hc'.2] at h ⊢
     generalize Ze1 c = z at *
     obtain ⟨⟨c0, c1⟩, _⟩ := hc'
     have hq' : U4 q = true := Un.1 (Zo3 hq).2.2 q (by simp [Lat.parts])
     rw [Ze5 tot c0 b0] at h
     rw [Xg]
     by_cases e2 : z.1 = y.1
     · rw [if_pos e2, Xg, if_pos (e.trans e2.symm)] at h
       rw [if_pos (e.trans e2.symm)]
       exact D'.least hq' _ _ _ a1 b1 c1 h
     · rw [if_neg e2] at h
       rw [if_neg (show ¬ x.1 = z.1 from fun h => e2 (h.symm.trans e))]
       split at h
       · rw [Xg, if_pos e, hn] at h; cases h
       · rw [Xg, if_neg (show ¬ x.1 = z.1 from fun h => e2 (h.symm.trans e))] at h; exact h
 · rw [if_neg e] at hn ⊢
   refine ⟨hE a0 a1, JL.refl _ (hE a0 a1), JL.left _ _ (hE a0 a1) (hE b0 b1), fun hq c hc h => ?_⟩
   have hc' := el_7.1 hc
   rw [← hc'.2] at h ⊢
   generalize Ze1 c = z at *
   obtain ⟨⟨c0, c1⟩, _⟩ := hc'
   rw [Ze5 tot c0 b0] at h
   by_cases e2 : z.1 = y.1
   · rw [if_pos e2, Xg, if_neg (show ¬ x.1 = z.1 from fun h => e (h.trans e2)), e2, hn] at h; cases h
   · rw [if_neg e2] at h
     split at h
     · rw [Xg, if_neg e, hn] at h; cases h
     · exact h
theorem Jm {g : ByteArray → Val → Option Val} : ∀ {l : List (ByteArray × Val)} {s : ByteArray}, (l.map Zs).Pairwise ltS →
  getL ((l.filterMap fun x => (g x.1 x.2).map fun d => (x.1, d)).map Zs) ((l.filterMap fun x => (g x.1 x.2).map fun d => (x.1, d)).map Y0) s = (getL (l.map Zs) (l.map Y0) s).bind (g s)
 | [], s, _ => by simp [getL]
 | (n, v) :: t, s, h => by
  rw [Zg, List.pairwise_cons] at h
  have ih := Jm (g := g) (l := t) (s := s) h.2
  rw [Zg, Zg, getL]
  by_cases e : n = s
  · subst e
    rw [if_pos rfl]
    cases hg : g n v with
    | none =>
     simp only [Z7, hg, Option.map_none]
     rw [ih]
     have : getL (t.map Zs) (t.map Y0) n = none := (Jw (by simp)).2 fun hm => Um n (h.1 n hm)
     rw [this]; exact hg.symm
    | some d =>
     simp only [Z7, hg, Option.map_some, Zg]
     rw [getL, if_pos rfl]; exact hg.symm
  · rw [if_neg e]
    cases hg : g n v with
    | none => simp only [Z7, hg, Option.map_none]; exact ih
    | some d =>
     simp only [Z7, hg, Option.map_some, Zg]
     rw [getL, if_neg e]; exact ih
theorem Zk7 : ∀ {ns : List ByteArray} {ps : List Val}, ns.length = ps.length → (ns.zip ps).map Zs = ns ∧ (ns.zip ps).map Y0 = ps
 | [], [], _ => ⟨rfl, rfl⟩
 | n :: ns, p :: ps, h => by
  have := Zk7 (ns := ns) (ps := ps) (by simpa using h)
  rw [List.zip_cons_cons, Zg, Zg, this.1, this.2]
  exact ⟨rfl, rfl⟩
 | [], _ :: _, h => by simp at h
 | _ :: _, [], h => by simp at h
def dfAt (bot : Val) (df : Val → Val → Val) (b : Val) (s : ByteArray) (v : Val) : Option Val := if df v ((getM b s).getD bot) = bot then none else some (df v ((getM b s).getD bot))
theorem getM_diff {only : List ByteArray} {E : Val → Prop} {bot : Val} {df : Val → Val → Val} {a b : Val} (ha : MapE only E bot a) (s : ByteArray) : getM (Zc3 bot df a b) s = (getM a s).bind (dfAt bot df b s) := by
 have hz := Zk7 ha.2.1
 have e : Ui bot df b (a.names.zip a.parts) = (a.names.zip a.parts).filterMap fun x => (dfAt bot df b x.1 x.2).map fun d => (x.1, d) := by
  unfold Ui dfAt
  congr 1
  funext x
  by_cases h : df x.2 ((getM b x.1).getD bot) = bot
  · rw [if_pos h, if_pos ((Yq _ _).2 h)]; rfl
  · rw [if_neg h, if_neg (fun q => h ((Yq _ _).1 q))]; rfl
 have e2 : getM (Zc3 bot df a b) s = getL ((Ui bot df b (a.names.zip a.parts)).map Zs) ((Ui bot df b (a.names.zip a.parts)).map Y0) s := rfl
 rw [e2, e, Jm (g := dfAt bot df b) (by rw [hz.1]; exact ha.sorted), hz.1, hz.2]
 rfl
theorem sub_keys {only : List ByteArray} {E : Val → Prop} {bot : Val} {df : Val → Val → Val} {a b : Val} (ha : MapE only E bot a) : (Zc3 bot df a b).names.Sublist a.names := by
 have hz := Zk7 ha.2.1
 have key : ∀ l : List (ByteArray × Val), ((Ui bot df b l).map Zs).Sublist (l.map Zs) := fun l => by
  unfold Ui
  induction l with
  | nil => exact .slnil
  | cons x t ih =>
   rw [Z7]
   split
   · rename_i h; exact ih.cons _
   · rename_i y h
     split at h
     · cases h
     · cases h; exact ih.cons_cons _
 have := key (a.names.zip a.parts)
 rw [hz.1] at this
 exact this
theorem df_map {lo hi : Int} {ns : List ByteArray} {p : Lat} {rs : List Rl} (J : JlV p) (D : DfV p) : DfV (.mk 5 lo hi ns [p] rs) := by
 refine Df.of (jl_map J) (g := Zc3 (botV p) (W3 p)) (fun a b _ _ => ?_) fun a b ha hb hn => ?_
 · by_cases h : leqV (.mk 5 lo hi ns [p] rs) a b = true
   · rw [if_pos h, Zo5 h]
   · rw [if_neg h, W3, if_neg h, if_neg (by decide), if_pos rfl, diffMap]
 rw [Xp] at ha hb
 have hg := fun s => getM_diff (df := W3 p) (b := b) ha s
 have hbs : ∀ s, Y8 p ((getM b s).getD (botV p)) = true := fun s => by
  cases hw : getM b s with
  | none => exact J.bmem
  | some w => exact (hb.get hw).1
 have hm : MapE ns (fun v => Y8 p v = true) (botV p) (Zc3 (botV p) (W3 p) a b) := by
  refine ⟨⟨rfl, rfl⟩, by show (List.map _ _).length = (List.map _ _).length; rw [Z0, Z0], Ym.2 ⟨ha.sorted.sublist (sub_keys ha), fun x hx => (Ym.1 ha.2.2.1).2 x ((sub_keys ha).subset hx)⟩, fun d hd => ?_⟩
  obtain ⟨x, hx, rfl⟩ := List.mem_map.1 hd
  obtain ⟨y, hy, hxy⟩ := List.mem_filterMap.1 hx
  split at hxy
  · cases hxy
  · rename_i h
    cases hxy
    exact ⟨D.mem _ _ (ha.2.2.2 _ (List.of_mem_zip hy).2).1 (hbs _), fun e => h ((Yq _ _).2 e)⟩
 refine ⟨Xp.2 hm, ?_, ?_, fun hq c hc h => ?_⟩
 · rw [Zn9, Yz hm.sorted]
   intro s d hd
   rw [hg] at hd
   cases hv : getM a s with
   | none => rw [hv] at hd; cases hd
   | some v =>
    rw [hv] at hd
    have hd : dfAt (botV p) (W3 p) b s v = some d := hd
    unfold dfAt at hd
    split at hd
    · cases hd
    · cases hd; exact ⟨v, rfl, D.dle _ _ (ha.get hv).1 (hbs s)⟩
 · rw [Zn9, Zx8, Yz ha.sorted]
   intro s v hv
   rw [Jv (Wh p) hm hb, hg, hv]
   show ∃ w, cmbM (Wh p) (dfAt (botV p) (W3 p) b s v) (getM b s) = some w ∧ _
   have hr := D.restore v _ (ha.get hv).1 (hbs s)
   unfold dfAt
   split
   · rename_i h0
     rw [h0, J.bot_left (hbs s)] at hr
     cases hw : getM b s with
     | none =>
      rw [hw] at hr
      exact absurd ((J.is_bot (ha.get hv).1).1 hr) (ha.get hv).2
     | some w => rw [hw] at hr; exact ⟨w, rfl, hr⟩
   · cases hw : getM b s with
     | none =>
      rw [hw] at hr
      have h1 := D.mem v (botV p) (ha.get hv).1 J.bmem
      rw [show Wh p (W3 p v ((none : Option Val).getD (botV p))) ((none : Option Val).getD (botV p)) = W3 p v (botV p) from J.of_ge h1 J.bmem (J.bot _ h1)] at hr
      exact ⟨_, rfl, hr⟩
     | some w => rw [hw] at hr; exact ⟨_, rfl, hr⟩
 · rw [Xp] at hc
   rw [Zn9, Zx8, Yz ha.sorted] at h
   rw [Zn9, Yz hm.sorted]
   intro s d hd
   have hq' : U4 p = true := Un.1 (Zo3 hq).2.2 p (by simp [Lat.parts])
   rw [hg] at hd
   cases hv : getM a s with
   | none => rw [hv] at hd; cases hd
   | some v =>
    rw [hv] at hd
    have hd : dfAt (botV p) (W3 p) b s v = some d := hd
    unfold dfAt at hd
    split at hd
    · cases hd
    · rename_i h0
      cases hd
      obtain ⟨w, hw, h1⟩ := h s v hv
      rw [Jv (Wh p) hc hb] at hw
      have hve := (ha.get hv).1
      cases hu : getM c s with
      | none =>
       rw [hu] at hw
       have hw : getM b s = some w := hw
       rw [hw] at h0
       exact absurd (D.botd v w hve (hb.get hw).1 h1) h0
      | some u =>
       refine ⟨u, rfl, D.least hq' _ _ _ hve (hbs s) (hc.get hu).1 ?_⟩
       rw [hu] at hw
       cases hx : getM b s with
       | none =>
        rw [hx] at hw
        have hw : u = w := Option.some.inj hw
        rw [← hw] at h1
        show leqV p v (Wh p u (botV p)) = true
        rw [J.of_ge (hc.get hu).1 J.bmem (J.bot _ (hc.get hu).1)]; exact h1
       | some x => rw [hx] at hw; cases hw; exact h1
theorem dfV (f : Nat) : ∀ l : Lat, SizeOf.sizeOf l ≤ f → WfL l → DfV l := by
 induction f with
 | zero => intro l hn; cases l; simp at hn
 | succ f ih =>
  intro l hn hwf
  have hk := hwf.kinds
  have hJ := hwf.jl
  have hp : ∀ p ∈ l.parts, DfV p := fun p hp => ih p (by have := Yb hp; omega) (hwf.part hp)
  have hj : ∀ p ∈ l.parts, JlV p := fun p hp => (hwf.part hp).jl
  have hc := hwf.chain
  obtain ⟨k, lo, hi, ns, ps, rs⟩ := l
  simp only [Lat.kind, Lat.lo, Lat.hi, Lat.names, Lat.parts, Lat.rules] at hk hp hj hc
  have hkk : (k = 1 ∨ k = 2 ∨ k = 3) ∨ k = 4 ∨ k = 5 ∨ k = 6 ∨ k = 7 ∨ (k = 8 ∨ k = 10) ∨ k = 9 := by omega
  rcases hkk with h | rfl | rfl | rfl | rfl | h | rfl
  · exact df_self (fun _ a b ha hb => tot_n h a b ha hb) (by omega) hJ
  · exact df_set
  · obtain ⟨p, rfl⟩ := Z2.1 (hk.2.1 rfl)
    exact df_map (hj p (by simp)) (hp p (by simp))
  · exact df_prod hj hp
  · obtain ⟨p, q, rfl, h1⟩ := hc rfl
    exact df_lex (hj p (by simp)) (hj q (by simp)) (hp q (by simp)) (Zv0 _ p (Zr _) h1)
  · exact df_self (fun h' => absurd h h') (by omega) hJ
  · exact df_register
theorem WfL.df {l : Lat} (h : WfL l) : DfV l := dfV _ l (Zr _) h
end
section
def belowC (ns : List ByteArray) (rs : List Rl) (s : List ByteArray) : List ByteArray := ofS (s.flatMap fun n => if Za0 ns rs [n] = s then [] else Za0 ns rs [n])
def singleB (ns : List ByteArray) (rs : List Rl) (s : List ByteArray) : Bool := !decide (Za0 ns rs (belowC ns rs s) = s) && !decide (s = [])
def botsB : List Lat → List Val → Bool
 | p :: ps, v :: vs => decide (valC v (botV p) = 0) && botsB ps vs
 | [], _ => true
 | _ :: _, [] => true
mutual
def irrV : Lat → Val → Bool
 | .mk k lo hi ns ps rs, v =>
   if k = 4 then decide (v.names.length = 1) else if k = 9 then decide (v.entries.length = 1)
   else if k = 8 then decide (v.n = 1 ∨ (v.n = 2 ∧ ns.length = 1)) else if k = 10 then singleB ns rs v.names
   else if k = 5 then decide (v.names.length = 1) && irrMap ps v.parts else if k = 6 then irrs ps v.parts
   else if k = 7 then irrLex ps v.parts else !decide (valC v (botV (.mk k lo hi ns ps rs)) = 0)
def irrMap : List Lat → List Val → Bool
 | p :: _, v :: _ => irrV p v
 | [], _ => false
 | _ :: _, [] => false
def irrs : List Lat → List Val → Bool
 | p :: ps, v :: vs => if valC v (botV p) = 0 then irrs ps vs else irrV p v && botsB ps vs
 | [], _ => false
 | _ :: _, [] => false
def irrLex : List Lat → List Val → Bool
 | p :: ps, v :: vs => irrLex2 (decide (valC v (botV p) = 0)) ps vs
 | [], _ => false
 | _ :: _, [] => false
def irrLex2 (z : Bool) : List Lat → List Val → Bool
 | q :: _, w :: _ => if valC w (botV q) = 0 then !z else irrV q w
 | [], _ => false
 | _ :: _, [] => false
end
theorem botsB_iff : ∀ {ps : List Lat} {vs : List Val}, vs.length = ps.length → (botsB ps vs = true ↔ vs = ps.map botV)
 | [], [], _ => by simp [botsB]
 | p :: ps, v :: vs, h => by
  rw [botsB, Z6, decide_eq_true_eq, Yq, botsB_iff (by simpa using h), Zg, List.cons.injEq]
 | [], _ :: _, h => by simp at h
 | _ :: _, [], h => by simp at h
section
variable {k lo hi : Int} {ns : List ByteArray} {ps : List Lat} {rs : List Rl} {v : Val}
theorem irrV_4 : irrV (.mk 4 lo hi ns ps rs) v = decide (v.names.length = 1) := by rw [irrV, if_pos (by rfl)]
theorem irrV_9 : irrV (.mk 9 lo hi ns ps rs) v = decide (v.entries.length = 1) := by rw [irrV, if_neg (by decide), if_pos (by rfl)]
theorem irrV_5 {p : Lat} : irrV (.mk 5 lo hi ns [p] rs) v = (decide (v.names.length = 1) && irrMap [p] v.parts) := by rw [irrV, if_neg (by decide), if_neg (by decide), if_neg (by decide), if_neg (by decide), if_pos (by rfl)]
theorem irrV_6 : irrV (.mk 6 lo hi ns ps rs) v = irrs ps v.parts := by rw [irrV, if_neg (by decide), if_neg (by decide), if_neg (by decide), if_neg (by decide), if_neg (by decide), if_pos (by rfl)]
theorem irrV_7 {p q : Lat} {x : Val × Val} : irrV (.mk 7 lo hi ns [p, q] rs) (ofP x) = if x.2 = botV q then !decide (x.1 = botV p) else irrV q x.2 := by
 rw [irrV, if_neg (by decide), if_neg (by decide), if_neg (by decide), if_neg (by decide), if_neg (by decide), if_neg (by decide), if_pos (by rfl)]
 show irrLex [p, q] [x.1, x.2] = _
 rw [irrLex, irrLex2]
 by_cases h : x.2 = botV q
 · rw [if_pos h, if_pos ((Yq _ _).2 h)]; simp only [Yq]
 · rw [if_neg h, if_neg (fun e => h ((Yq _ _).1 e))]
theorem Ym3 (h2 : k ≠ 2) (h3 : k ≠ 3) (h6 : k ≠ 6) (h7 : k ≠ 7) : botV (.mk k lo hi ns ps rs) = Wx := by rw [botV, if_neg h2, if_neg h3, if_neg (by omega)]
theorem bot67 (h : k = 6 ∨ k = 7) : botV (.mk k lo hi ns ps rs) = .mk 0 [] (ps.map botV) [] := by rw [botV, if_neg (by omega), if_neg (by omega), if_pos h, Zh2]
end
theorem one_map {lo hi : Int} {ns : List ByteArray} {p : Lat} {rs : List Rl} {v : Val} (he : Y8 (.mk 5 lo hi ns [p] rs) v = true) (h : irrV (.mk 5 lo hi ns [p] rs) v = true) : ∃ s w, v = .mk 0 [s] [w] [] ∧ irrV p w = true ∧ Y8 p w = true ∧ w ≠ botV p := by
 rw [Xp] at he
 rw [irrV_5, Z6, decide_eq_true_eq] at h
 obtain ⟨n, nm, pt, es⟩ := v
 obtain ⟨s, e1⟩ := Z2.1 (show nm.length = 1 from h.1)
 obtain ⟨w, e2⟩ := Z2.1 (show pt.length = 1 from (show nm.length = pt.length from he.2.1) ▸ h.1)
 have e3 : n = 0 := he.1.1
 have e4 : es = [] := he.1.2
 subst e1 e2 e3 e4
 have h2 : irrMap [p] [w] = true := h.2
 rw [irrMap] at h2
 have := he.2.2.2 w (Zl.2 rfl)
 exact ⟨s, w, rfl, h2, this.1, this.2⟩
theorem irrs_df : ∀ {ps : List Lat} {vs bs : List Val}, (∀ p ∈ ps, JlV p) → (∀ p ∈ ps, DfV p) → (∀ p ∈ ps, ∀ v a, Y8 p v = true → Y8 p a = true → irrV p v = true → leqV p v a = true ∨ W3 p v a = v) → PsE ps vs → PsE ps bs → irrs ps vs = true → leqs ps vs bs = true ∨ Zo4 ps vs bs = vs
 | [], _, _, _, _, _, _, _, h => by rw [irrs] at h; cases h
 | p :: ps, vs, bs, HJ, HD, H, hv, hb, h => by
  obtain ⟨v, t, rfl, h1, h2⟩ := Yg.1 hv
  obtain ⟨b, t', rfl, h3, h4⟩ := Yg.1 hb
  have J := HJ p (by simp)
  have D := HD p (by simp)
  have HJ' : ∀ q ∈ ps, JlV q := fun q hq => HJ q (by simp [hq])
  have HD' : ∀ q ∈ ps, DfV q := fun q hq => HD q (by simp [hq])
  have JP := Yj9 ps HJ'
  have DP := Yl8 ps HJ' HD'
  rw [irrs] at h
  rw [leqs, Zo4]
  by_cases e : v = botV p
  · rw [if_pos ((Yq _ _).2 e)] at h
    have hle : leqV p v b = true := by rw [e]; exact J.bot b h3
    rw [hle, Y1, D.botd _ _ h1 h3 hle, ← e, List.cons.injEq]
    exact (irrs_df HJ' HD' (fun q hq => H q (by simp [hq])) h2 h4 h).imp id fun h => ⟨rfl, h⟩
  · rw [if_neg (fun q => e ((Yq _ _).1 q)), Z6, botsB_iff h2.1] at h
    have hle : leqs ps t t' = true := by rw [h.2]; exact JP.bot _ h4
    have hd : Zo4 ps t t' = t := by rw [DP.botd _ _ h2 h4 hle]; exact h.2.symm
    rw [hle, Bool.and_true, hd, List.cons.injEq]
    exact (H p (by simp) v b h1 h3 h.1).imp id fun h => ⟨h, rfl⟩
theorem irr_df (f : Nat) : ∀ l : Lat, SizeOf.sizeOf l ≤ f → WfL l → U4 l = true → ∀ v a, Y8 l v = true → Y8 l a = true → irrV l v = true → leqV l v a = true ∨ W3 l v a = v := by
 induction f with
 | zero => intro l hn; cases l; simp at hn
 | succ f ih =>
  intro l hn hwf hd v a hv ha h
  by_cases hle : leqV l v a = true
  · exact .inl hle
  have hk := hwf.kinds
  have hp : ∀ p ∈ l.parts, U4 p = true → ∀ v a, Y8 p v = true → Y8 p a = true → irrV p v = true → leqV p v a = true ∨ W3 p v a = v := fun p hp => ih p (by have := Yb hp; omega) (hwf.part hp)
  have hj : ∀ p ∈ l.parts, JlV p := fun p hp => (hwf.part hp).jl
  have hD : ∀ p ∈ l.parts, DfV p := fun p hp => (hwf.part hp).df
  have hc := hwf.chain
  have hdp := Zo3 hd
  obtain ⟨k, lo, hi, ns, ps, rs⟩ := l
  simp only [Lat.kind, Lat.lo, Lat.hi, Lat.names, Lat.parts, Lat.rules] at hk hp hj hD hc hdp
  have hkk : (k = 1 ∨ k = 2 ∨ k = 3) ∨ k = 4 ∨ k = 5 ∨ k = 6 ∨ k = 7 ∨ k = 9 := by omega
  have hle' := hle
  rcases hkk with h1 | rfl | rfl | rfl | rfl | rfl
  · exact .inr (Zq8 (by omega) (by simpa using hle))
  · rw [irrV_4, decide_eq_true_eq] at h
    right
    rw [W3, if_neg hle, if_pos rfl]
    rw [Zy0] at hv
    obtain ⟨s, hs⟩ := Z2.1 h
    have : minS v.names a.names = v.names := by
     rw [Vy (.inl rfl), Yd, hs] at hle
     rw [hs]
     unfold minS
     refine List.filter_eq_self.2 fun x hx => ?_
     rw [Zo, ← Zz, Yu]
     rw [Zl] at hx
     exact fun hm => hle fun y hy => by rw [Zl] at hy; rw [hy, ← hx]; exact hm
    rw [this]; exact Zz7.2 hv.1
  · obtain ⟨p, rfl⟩ := Z2.1 (hk.2.1 rfl)
    obtain ⟨s, w, rfl, h1, h2, h3⟩ := one_map hv h
    right
    rw [W3, if_neg hle, if_neg (by decide), if_pos rfl, diffMap]
    have J := hj p (by simp)
    have D := hD p (by simp)
    have ha' := Xp.1 ha
    have hq : U4 p = true := Un.1 hdp.2.2 p (by simp)
    have hw : W3 p w ((getM a s).getD (botV p)) = w := by
     cases hg : getM a s with
     | none => exact ((hp p (by simp) hq w _ h2 J.bmem h1).resolve_left fun q => h3 ((J.is_bot h2).1 q))
     | some u =>
      refine (hp p (by simp) hq w u h2 (ha'.get hg).1 h1).resolve_left fun q => hle ?_
      rw [Zn9]
      unfold Zj7
      show ([(s, w)].all _) = true
      rw [List.all_cons, hg, List.all_nil, Bool.and_true]; exact q
    unfold Zc3 Ui
    show Val.mk 0 (List.map _ (List.filterMap _ [(s, w)])) (List.map _ (List.filterMap _ [(s, w)])) [] = _
    have e : ([(s, w)].filterMap fun x : ByteArray × Val => if valC (W3 p x.2 ((getM a x.1).getD (botV p))) (botV p) = 0 then none else some (x.1, W3 p x.2 ((getM a x.1).getD (botV p)))) = [(s, w)] := by
     rw [Z7, hw, if_neg (fun q => h3 ((Yq _ _).1 q))]; rfl
    rw [e]; rfl
  · rw [irrV_6] at h
    rw [el67 (.inl rfl)] at hv ha
    have := irrs_df hj hD (fun p hp' => hp p hp' (Un.1 hdp.2.2 p hp')) hv.1 ha.1 h
    rw [Zn8] at hle
    right
    rw [W3, if_neg hle', if_neg (by decide), if_neg (by decide), if_pos rfl, this.resolve_left hle]
    exact hv.2
  · obtain ⟨p, q, rfl, h1⟩ := hc rfl
    have hv' := el_7.1 hv
    have ha' := el_7.1 ha
    rw [← hv'.2, ← ha'.2] at hle
    rw [← hv'.2] at h
    rw [← hv'.2, ← ha'.2]
    right
    rw [diffV_lex (by simpa using hle)]
    congr 1
    generalize Ze1 v = x at *
    generalize Ze1 a = y at *
    by_cases e : x.1 = y.1
    · rw [if_pos e]
      rw [irrV_7] at h
      rw [Xg, if_pos e] at hle
      by_cases e2 : x.2 = botV q
      · exact absurd (by rw [e2]; exact (hj q (by simp)).bot _ ha'.1.2) hle
      · rw [if_neg e2] at h
        rw [(hp q (by simp) (Un.1 hdp.2.2 q (by simp)) x.2 y.2 hv'.1.2 ha'.1.2 h).resolve_left hle]
    · rw [if_neg e]
  · rw [irrV_9, decide_eq_true_eq] at h
    right
    rw [W3, if_neg hle, if_neg (by decide), if_neg (by decide), if_neg (by decide), if_neg (fun h => absurd h.1 (by decide)), if_pos rfl]
    rw [isE_9] at hv
    obtain ⟨s, hs⟩ := Z2.1 h
    have : (v.entries.filter fun x => !a.entries.any fun y => undE x y) = v.entries := by
     rw [Ye5, Xw, hs] at hle
     rw [hs]
     refine List.filter_eq_self.2 fun x hx => ?_
     rw [Zo, ← Zz, List.any_eq_true]
     rw [Zl] at hx
     exact fun hm => hle fun y hy => by rw [Zl] at hy; rw [hy, ← hx]; exact hm
    rw [this]; exact el9.2 hv.1
theorem prime {l : Lat} (hwf : WfL l) (hd : U4 l = true) {v a b : Val} (hv : Y8 l v = true) (ha : Y8 l a = true) (hb : Y8 l b = true) (h : irrV l v = true) (hle : leqV l v (Wh l a b) = true) : leqV l v a = true ∨ leqV l v b = true := by
 have J := hwf.jl
 have D := hwf.df
 rcases irr_df _ l (Zr _) hwf hd v b hv hb h with h1 | h1
 · exact .inr h1
 · have := D.least hd v b a hv hb ha hle
   rw [h1] at this
   exact .inl this
end
section
mutual
def decV : Lat → Val → List Val
 | .mk k lo hi ns ps rs, v =>
   if k = 4 then v.names.map fun n => .mk 0 [n] [] [] else if k = 5 then decMap ps v
   else if k = 6 then (decs ps v.parts).map fun l => .mk 0 [] l [] else if k = 7 then Ya2 ps v.parts
   else if k = 9 then v.entries.map fun x => .mk 0 [] [] [x]
   else if valC v (botV (.mk k lo hi ns ps rs)) = 0 then [] else [v]
def decMap : List Lat → Val → List Val
 | p :: _, v => (v.names.zip v.parts).flatMap fun x => (decV p x.2).map fun d => .mk 0 [x.1] [d] []
 | [], _ => []
def decs : List Lat → List Val → List (List Val)
 | p :: ps, v :: vs => ((decV p v).map fun d => d :: ps.map botV) ++ (decs ps vs).map fun l => botV p :: l
 | [], _ => []
 | _ :: _, [] => []
def Ya2 : List Lat → List Val → List Val
 | p :: ps, v :: vs => (Ya1 (decide (valC v (botV p) = 0)) ps vs).map fun d => .mk 0 [] [v, d] []
 | [], _ => []
 | _ :: _, [] => []
def Ya1 (z : Bool) : List Lat → List Val → List Val
 | q :: _, w :: _ => if (decV q w).isEmpty && !z then [botV q] else decV q w
 | [], _ => []
 | _ :: _, [] => []
end
structure Dc (l : Lat) (v : Val) : Prop where
 mem : ∀ p ∈ decV l v, Y8 l p = true ∧ irrV l p = true ∧ leqV l p v = true
 up : ∀ c, Y8 l c = true → (∀ p ∈ decV l v, leqV l p c = true) → leqV l v c = true
 inc : (decV l v).Pairwise fun p q => leqV l p q = false ∧ leqV l q p = false
theorem Dc.nil {l : Lat} {v : Val} (D : Dc l v) (J : JlV l) (hv : Y8 l v = true) (h : decV l v = []) : v = botV l :=
 (J.is_bot hv).1 (D.up _ J.bmem fun p hp => by rw [h] at hp; cases hp)
section
variable {lo hi : Int} {ns : List ByteArray} {ps : List Lat} {rs : List Rl}
end
/-! Irredundant lists. -/
def joinL (l : Lat) (L : List Val) : Val := L.foldl (Wh l) (botV l)
def irdB (l : Lat) (L : List Val) : Bool := (List.range L.length).all fun i => !leqV l (L.getD i Wx) (joinL l (L.take i ++ L.drop (i + 1)))
section
variable {l : Lat} (hwf : WfL l) (hd : U4 l = true)
include hwf
include hd
end
/-! How many pieces there are. -/
mutual
theorem dec_len : ∀ (l : Lat) (v : Val), (decV l v).length ≤ U1 v
 | .mk k lo hi ns ps rs, .mk n nm pt es => by
  rw [decV, U1]
  have hp : (decMap ps (.mk n nm pt es)).length ≤ Yk pt := by
   match ps with
   | [] => rw [decMap]; exact Z8 _
   | p :: t =>
    rw [decMap]
    show ((nm.zip pt).flatMap _).length ≤ _
    exact dec_lens p nm pt
  have hs : (decs ps pt).length ≤ Yk pt := decs_len ps pt
  have hl : (Ya2 ps pt).length ≤ 1 + Yk pt := decLex_len ps pt
  split
  · simp [Val.names]; omega
  split
  · omega
  split
  · rw [Z0]; show (decs ps pt).length ≤ _; omega
  split
  · show (Ya2 ps pt).length ≤ _; omega
  split
  · simp [Val.entries]; omega
  split
  · simp
  · simp; omega
theorem dec_lens : ∀ (p : Lat) (nm : List ByteArray) (pt : List Val), ((nm.zip pt).flatMap fun x => (decV p x.2).map fun d => Val.mk 0 [x.1] [d] []).length ≤ Yk pt
 | _, [], pt => by simp
 | _, _ :: _, [] => by simp
 | p, n :: nm, v :: pt => by
  have h1 := dec_len p v
  have h2 := dec_lens p nm pt
  rw [List.zip_cons_cons, List.flatMap_cons, Za, Z0, Yk]
  show (decV p v).length + _ ≤ _
  omega
theorem decs_len : ∀ (ps : List Lat) (pt : List Val), (decs ps pt).length ≤ Yk pt
 | [], _ => by rw [decs]; exact Z8 _
 | _ :: _, [] => by rw [decs]; exact Z8 _
 | p :: ps, v :: vs => by
  have h1 := dec_len p v
  have h2 := decs_len ps vs
  rw [decs, Za, Z0, Z0, Yk]
  omega
theorem decLex_len : ∀ (ps : List Lat) (pt : List Val), (Ya2 ps pt).length ≤ 1 + Yk pt
 | [], _ => by rw [Ya2]; exact Z8 _
 | _ :: _, [] => by rw [Ya2]; exact Z8 _
 | p :: ps, v :: vs => by
  rw [Ya2, Z0, Yk]
  have := decLex2_len (decide (valC v (botV p) = 0)) ps vs
  omega
theorem decLex2_len : ∀ (z : Bool) (ps : List Lat) (pt : List Val), (Ya1 z ps pt).length ≤ 1 + Yk pt
 | _, [], _ => by rw [Ya1]; exact Z8 _
 | _, _ :: _, [] => by rw [Ya1]; exact Z8 _
 | z, p :: ps, v :: vs => by
  have h1 := dec_len p v
  rw [Ya1, Yk]
  split
  · simp
  · omega
end
end
end Go.Proofs.YtbhkcbidcfofiaaGreat
