/-
  What the statements of the chapter share, part 21: LB3, LB4, WK, VA5, RV7, RV8.
-/
import Derived.Test.YtbhkcbidcfofiaaGreatY07
import Derived.Test.YtbhkcbidcfofiaaGreatY14
import Derived.Test.YtbhkcbidcfofiaaGreatY16
import Derived.Test.YtbhkcbidcfofiaaGreatY17
import Derived.Test.YtbhkcbidcfofiaaGreatY19
import Derived.Test.YtbhkcbidcfofiaaGreatY20
set_option linter.unusedVariables false
set_option linter.unusedSimpArgs false
set_option maxRecDepth 100000
set_option maxHeartbeats 8000000
namespace Go.Proofs.YtbhkcbidcfofiaaGreat
open _root_.Bool renaming true_and → Zm, not_false → Zo, not_true → Zq
open _root_.Int renaming toNat_natCast → Zc, reduceEq → Zi, reduceLE → Zj, reduceLT → Zk
open _root_.List renaming getElem?_eq_getElem → Z2, length_map → Z5, drop_eq_nil_of_le → Z6, getElem_mem → Z7, cons_append → Z8, length_cons → Z9, length_nil → Za, nil_append → Zb, drop_eq_getElem_cons → Ze, length_append → Zl, append_assoc → Zn, getElem?_append_right → Zp, map_append → Zr, reverse_cons → Zs, length_take → Zt, reverse_nil → Zv
open _root_.Nat renaming reduceEqDiff → Z0, reduceLeDiff → Z1, reduceAdd → Z3, le_of_ble_eq_true → Z4, reduceBEq → Zf, reduceMul → Zg, zero_le → Zh
open _root_.Option renaming bind_some → Zu, map_some → Zw
open _root_.Go.Proofs.Tryz renaming prog → Zd
open Go.RowKit
section
attribute [local irreducible] on aOp
attribute [local go_sem] decide_true decide_false Zq Zo
attribute [local simp] byD_len
variable (G : Nat → D) (hG : ∀ g, low 0 (G g))
include hG
attribute [local go_sem] Bool.false_eq_true Zi Zj Zk Zc Z5 Z3 Zf Z0 Z1 Zg gM_0 gM_app gM_l gM_len gM_sl Zi3 Wi
attribute [local go_sem ↓] reduceIte
theorem spelling_d (l : Lat) (hsm : Sm l) (h : List Ob) : Does Zd G 205 h [.agg (latX l)] (fun h' r => h' = h ∧ r = .v (.int .i64 (Un (Zk0 l) 3))) := by
 refine Y9 G hG (Wu _ l) (by rw [low]; trivial) ?_ h
 clear h
 have hnl := hsm.names
 have hrl := hsm.rules
 have htx := hsm.texts
 have hcd := hsm.conds
 have hso := Zy5 G hG l.names hnl
 obtain ⟨six, hsix⟩ : ∃ b : Bool, (l.kind == 6) = b := ⟨_, rfl⟩
 have hkd : decide (l.kind = 6) = six := by rw [← hsix]; rfl
 unfold Zk0
 rw [hsix]
 refine Y6 Tryz.func205 rfl (Z4 rfl) hG fun hl0 _ => ?_
 simp only [Tryz.ntmps205]
 have F := Y4 l
 repeat' first
  | refine g0 ?_
  | fail
 refine Yh (fun m e h' => ∃ k : Nat, k ≤ l.names.length ∧ m = l.names.length - k ∧ nmGo six l.names 0 l.names = nmGo six l.names k (l.names.drop k) ∧ h' = [.cells (latX l)] ∧ e 1 = .ptr 0 0 ∧ e 8 = .sl 1 (l.names.map strX) ∧ e 9 = .v (.int .i64 l.names.length) ∧ e 10 = .v (.int .i64 k)) l.names.length ⟨0, Zh _, rfl, rfl, (by rw [Y4 l]), rfl, rfl, rfl, rfl⟩ ?_
 rintro m e h' ⟨k, hk, rfl, ho, rfl, e1, e8, e9, e10⟩
 by_cases hlt : k < l.names.length
 · have hx : l.names[k]? = some l.names[k] := Z2 hlt
   have wk : IntKind.i64.wrap ((k : Int) + 1) = (k : Int) + 1 := IntWalk.i64_in _ (by omega)
   rw [nmGo_step six l.names k hlt] at ho
   have hn := Zm1 G hG l.names[k] (htx _ (Z7 hlt))
   generalize l.names[k] = x at hx hn ho
   have hin := Yq0 G hG (l.names.take k) x (by rw [Zt]; omega)
   have hin2 : ∀ (b : Bool), hasS (l.names.take k) x = b → ∀ h, Does Zd G 101 h [.sl 1 (List.drop (Int.toNat 0) (List.take (Int.toNat (k : Int)) (l.names.map strX))), .v (.string x)] (fun h' r => h' = h ∧ r = .v (.bool b)) := fun b hb h => by
    have := hin h
    rw [hb, List.map_take] at this
    exact this
   clear hin
   cases hnb : Wm x <;> rw [hnb] at hn ho
   · have e0 : (nmGo six l.names 0 l.names) = false := by rw [ho]; rfl
     rw [e0]
     have F : _ ∧ _ ∧ _ ∧ _ ∧ _ ∧ _ := ⟨Y4 l, e1, e8, e9, e10, wk⟩
     repeat' first
      | refine gg ?_
      | refine Two.mk (fun hq => ?_) fun hq => ?_
      | (with_reducible refine Y7 ?_; refine gc rfl rfl rfl Ur (hn _) ?_)
      | (exfalso; omega)
     exact ⟨.inr rfl, endD (r := .v (.int .i64 3)) hl0 rfl (by simp) (by simp) rfl (by rw [low]; trivial) ⟨rfl, rfl⟩⟩
   · cases six
     · rw [Bool.false_and, Zo] at ho
       have F : _ ∧ _ ∧ _ ∧ _ ∧ _ ∧ _ ∧ _ := ⟨Y4 l, e1, e8, e9, e10, hkd, wk⟩
       repeat' first
        | refine gg ?_
        | refine Two.mk (fun hq => ?_) fun hq => ?_
        | (with_reducible refine Y7 ?_; refine gc rfl rfl rfl Ur (hn _) ?_)
        | (exfalso; omega)
       exact ⟨rfl, l.names.length - (k + 1), by omega, k + 1, hlt, rfl, by rw [ho]; rfl, by rw [Y4 l], e1, e8, e9, rfl⟩
     · cases hib : hasS (l.names.take k) x <;> rw [hib] at ho
       · skip
         have F : _ ∧ _ ∧ _ ∧ _ ∧ _ ∧ _ ∧ _ := ⟨Y4 l, e1, e8, e9, e10, hkd, wk⟩
         repeat' first
          | refine gg ?_
          | refine Two.mk (fun hq => ?_) fun hq => ?_
          | (with_reducible refine Y7 ?_; first | refine gc rfl rfl rfl Ur (hn _) ?_ | refine gc rfl rfl rfl Yd3 (hin2 _ hib _) ?_)
          | (exfalso; omega)
         exact ⟨rfl, l.names.length - (k + 1), by omega, k + 1, hlt, rfl, by rw [ho]; rfl, by rw [Y4 l], e1, e8, e9, rfl⟩
       · have e0 : (nmGo true l.names 0 l.names) = false := by rw [ho]; rfl
         rw [e0]
         have F : _ ∧ _ ∧ _ ∧ _ ∧ _ ∧ _ ∧ _ := ⟨Y4 l, e1, e8, e9, e10, hkd, wk⟩
         repeat' first
          | refine gg ?_
          | refine Two.mk (fun hq => ?_) fun hq => ?_
          | (with_reducible refine Y7 ?_; first | refine gc rfl rfl rfl Ur (hn _) ?_ | refine gc rfl rfl rfl Yd3 (hin2 _ hib _) ?_)
          | (exfalso; omega)
         exact ⟨.inr rfl, endD (r := .v (.int .i64 3)) hl0 rfl (by simp) (by simp) rfl (by rw [low]; trivial) ⟨rfl, rfl⟩⟩
 have e0 : (nmGo six l.names 0 l.names) = true := by rw [ho, Z6 (by omega)]; rfl
 rw [e0, Zm]
 clear ho e0
 by_cases hbad : six = false ∧ Wa l.names = false
 · obtain ⟨rfl, hsb⟩ := hbad
   rw [hsb] at hso ⊢
   have F : _ ∧ _ ∧ _ ∧ _ ∧ _ ∧ _ := ⟨Y4 l, e1, e8, e9, e10, hkd⟩
   repeat' first
    | refine gg ?_
    | refine Two.mk (fun hq => ?_) fun hq => ?_
    | refine Evry.mk fun x hx => ?_
    | (with_reducible refine Y7 ?_; refine gc rfl rfl rfl Zh0 (hso _) ?_)
    | (exfalso; omega)
   exact ⟨.inr rfl, endD (r := .v (.int .i64 3)) hl0 rfl (by simp) (by simp) rfl (by rw [low]; trivial) ⟨rfl, rfl⟩⟩
 have e0 : (six || Wa l.names) = true := by
  cases six
  · cases hsb : Wa l.names
    · exact absurd ⟨rfl, hsb⟩ hbad
    · rfl
  · rfl
 rw [e0, Zm]
 have hso2 : six = false → ∀ h, Does Zd G 216 h [.sl 1 (l.names.map strX)] (fun h' r => h' = h ∧ r = .v (.bool true)) := fun q h => by
  subst q
  have := hso h
  rw [Bool.false_or] at e0
  rwa [e0] at this
 have step : ∃ u : Unit, True := ⟨(), trivial⟩
 clear step hso e0
 cases six
 all_goals
  skip
  have F : _ ∧ _ ∧ _ ∧ _ ∧ _ ∧ _ := ⟨Y4 l, e1, e8, e9, e10, hkd⟩
  repeat' first
   | refine gg ?_
   | refine Two.mk (fun hq => ?_) fun hq => ?_
   | refine Evry.mk fun x hx => ?_
   | (with_reducible refine Y7 ?_; refine gc rfl rfl rfl Zh0 (hso2 rfl _) ?_)
   | (exfalso; omega)
  refine Yh (fun m e h' => ∃ (k : Nat) (T : List Ob), k ≤ l.rules.length ∧ m = l.rules.length - k ∧ Jt l.names l.rules = Jt l.names (l.rules.drop k) ∧ h' = gM (.cells (latX l)) T ∧ e 1 = .ptr 0 0 ∧ e 42 = .sl 2 (l.rules.map Zo3) ∧ e 43 = .v (.int .i64 l.rules.length) ∧ e 44 = .v (.int .i64 k)) l.rules.length ⟨0, [], Zh _, rfl, rfl, (by rw [Y4 l]; rfl), e1, rfl, rfl, rfl⟩ ?_
  clear e1 e8 e9 e10
  rintro m e h' ⟨k, T, hk, rfl, ho, rfl, e1, e42, e43, e44⟩
  by_cases hlt : k < l.rules.length
  rotate_left
  · have e0 : Jt l.names l.rules = true := by rw [ho, Z6 (by omega)]; rfl
    rw [e0]
    have F : _ ∧ _ ∧ _ ∧ _ ∧ _ := ⟨Y4 l, e1, e42, e43, e44⟩
    repeat' first
     | refine gg ?_
     | refine Two.mk (fun hq => ?_) fun hq => ?_
     | refine Evry.mk fun x hx => ?_
     | (exfalso; omega)
    exact ⟨.inr rfl, endD (r := .v (.int .i64 0)) hl0 rfl (by simp) (by simp) rfl (by rw [low]; trivial) ⟨rfl, rfl⟩⟩
  have hx : l.rules[k]? = some l.rules[k] := Z2 hlt
  have wk : IntKind.i64.wrap ((k : Int) + 1) = (k : Int) + 1 := IntWalk.i64_in _ (by omega)
  rw [rulesB_step _ _ k hlt] at ho
  obtain ⟨hcl, hcs⟩ := hcd _ (Z7 hlt)
  generalize l.rules[k] = x at hx ho hcl hcs
  have hsx := Zy5 G hG x.cond hcl
  have hsu := Zn8 G hG x.cond l.names hcl hnl
  have hha := hasS_d G hG l.names x.concl hnl
  have er : ruleB l.names x = (decide (x.cond.length ≠ 0) && Wa x.cond && Xm x.cond l.names && hasS l.names x.concl) := rfl
  by_cases hz : x.cond.length = 0
  · have e0 : Jt l.names l.rules = false := by rw [ho, er, decide_eq_false (by omega)]; rfl
    rw [e0]
    have F : _ ∧ _ ∧ _ ∧ _ ∧ _ ∧ _ ∧ _ := ⟨Y4 l, e1, e42, e43, e44, wk, hz⟩
    repeat' first
     | refine gg ?_
     | refine Two.mk (fun hq => ?_) fun hq => ?_
     | (exfalso; omega)
    all_goals first | (exfalso; omega) | exact ⟨.inr rfl, endD (r := .v (.int .i64 3)) hl0 rfl (by simp) (by simp) rfl (by rw [low]; trivial) ⟨rfl, rfl⟩⟩
  rw [decide_eq_true (by omega), Zm] at er
  cases hb1 : Wa x.cond <;> rw [hb1] at hsx er
  · have e0 : Jt l.names l.rules = false := by rw [ho, er]; rfl
    rw [e0]
    have F : _ ∧ _ ∧ _ ∧ _ ∧ _ ∧ _ := ⟨Y4 l, e1, e42, e43, e44, wk⟩
    repeat' first
     | refine gg ?_
     | refine Two.mk (fun hq => ?_) fun hq => ?_
     | (with_reducible refine Y7 ?_; refine gc rfl rfl rfl Zh0 (hsx _) ?_)
     | (exfalso; omega)
    all_goals first | (exfalso; omega) | exact ⟨.inr rfl, endD (r := .v (.int .i64 3)) hl0 rfl (by simp) (by simp) rfl (by rw [low]; trivial) ⟨rfl, rfl⟩⟩
  cases hb2 : Xm x.cond l.names <;> rw [hb2] at hsu er
  · have e0 : Jt l.names l.rules = false := by rw [ho, er]; rfl
    rw [e0]
    have F : _ ∧ _ ∧ _ ∧ _ ∧ _ ∧ _ := ⟨Y4 l, e1, e42, e43, e44, wk⟩
    repeat' first
     | refine gg ?_
     | refine Two.mk (fun hq => ?_) fun hq => ?_
     | (with_reducible refine Y7 ?_; first | refine gc rfl rfl rfl Zh0 (hsx _) ?_ | refine gc rfl rfl rfl Zh3 (hsu _) ?_)
     | (exfalso; omega)
    all_goals first | (exfalso; omega) | exact ⟨.inr rfl, endD (r := .v (.int .i64 3)) hl0 rfl (by simp) (by simp) rfl (by rw [low]; trivial) ⟨rfl, rfl⟩⟩
  cases hb3 : hasS l.names x.concl <;> rw [hb3] at hha er
  · have e0 : Jt l.names l.rules = false := by rw [ho, er]; rfl
    rw [e0]
    have F : _ ∧ _ ∧ _ ∧ _ ∧ _ ∧ _ := ⟨Y4 l, e1, e42, e43, e44, wk⟩
    repeat' first
     | refine gg ?_
     | refine Two.mk (fun hq => ?_) fun hq => ?_
     | (with_reducible refine Y7 ?_; first | refine gc rfl rfl rfl Zh0 (hsx _) ?_ | refine gc rfl rfl rfl Zh3 (hsu _) ?_ | refine gc rfl rfl rfl Zh2 (hha _) ?_)
     | (exfalso; omega)
    all_goals first | (exfalso; omega) | exact ⟨.inr rfl, endD (r := .v (.int .i64 3)) hl0 rfl (by simp) (by simp) rfl (by rw [low]; trivial) ⟨rfl, rfl⟩⟩
  · rw [er, Zm, Zm, Zm] at ho
    have F : _ ∧ _ ∧ _ ∧ _ ∧ _ ∧ _ := ⟨Y4 l, e1, e42, e43, e44, wk⟩
    repeat' first
     | refine gg ?_
     | refine Two.mk (fun hq => ?_) fun hq => ?_
     | (with_reducible refine Y7 ?_; first | refine gc rfl rfl rfl Zh0 (hsx _) ?_ | refine gc rfl rfl rfl Zh3 (hsu _) ?_ | refine gc rfl rfl rfl Zh2 (hha _) ?_)
     | (exfalso; omega)
    all_goals first | (exfalso; omega) | exact ⟨rfl, l.rules.length - (k + 1), by omega, k + 1, _, hlt, rfl, ho, by rw [Y4 l], e1, e42, e43, rfl⟩
end
section
attribute [local irreducible] on aOp
attribute [local go_sem] decide_true decide_false Zq Zo
attribute [local simp] byD_len
def ctr (n : Nat) : Ob := .cells [.v (.int .i64 n)]
def cM (h : List Ob) (i n : Nat) (T : List Ob) : List Ob := h.set i (ctr n) ++ T
section
variable {h T l : List Ob} {i n m : Nat} {y z y' : Ob}
theorem cM_0 (hi : i < h.length) : (cM h i n T)[i]? = some (.cells [.v (.int .i64 n)]) := by
 unfold cM; rw [List.getElem?_append_left (by simpa using hi), List.getElem?_set_self hi]; rfl
theorem cM_s (hi : i < h.length) : (cM h i n T).set i (.cells [.v (.int .i64 ((m : Nat) : Int))]) = cM h i m T := by
 unfold cM; rw [List.set_append_left _ _ (by simpa using hi), List.set_set]; rfl
theorem cM_s' (hi : i < h.length) : (cM h i n T).set i (ctr m) = cM h i m T := cM_s hi
theorem cM_len : (cM h i n T).length = h.length + T.length := by unfold cM; simp
theorem cM_app : cM h i n T ++ l = cM h i n (T ++ l) := by unfold cM; rw [Zn]
theorem cM_b : (cM h i n (y :: T))[h.length]? = some y := by unfold cM; rw [Zp (by simp)]; simp
theorem cM_b1 : (cM h i n (y :: z :: T))[h.length + 1]? = some z := by unfold cM; rw [Zp (by simp)]; simp
theorem cM_b1s : (cM h i n (y :: z :: T)).set (h.length + 1) y' = cM h i n (y :: y' :: T) := by unfold cM; rw [List.set_append_right _ _ (by simp)]; simp
theorem cM_ext (hi : i < h.length) : cM (h ++ T) i n [] = cM h i n T := by unfold cM; rw [List.set_append_left _ _ hi, List.append_nil]
theorem cM_l : (cM h i n (y :: (T ++ [z])))[h.length + (T.length + 1)]? = some z := by unfold cM; rw [Zp (by simp)]; simp
theorem cM_sl : (cM h i n (y :: (T ++ [z]))).set (h.length + (T.length + 1)) y' = cM h i n (y :: (T ++ [y'])) := by unfold cM; rw [List.set_append_right _ _ (by simp)]; simp
end
theorem endC {P : Program} {res : Array ResultVar} {h T : List Ob} {i n m : Nat} {K : List Ob → D → Prop} {s : S} {x : Value} (hi : i < h.length) (hl : lowH (cM h i n []).length (cM h i n [])) (h1 : resD P s res.toList = some [.v x]) (h2 : s.h = cM h i m T) (hK : K (cM h i m []) (.v x)) : EndD P res (cM h i n []).length K s := by
 have e : cM h i m [] = (cM h i n []).set i (ctr m) := (cM_s' hi).symm
 have hlen : (cM h i m []).length = (cM h i n []).length := by rw [cM_len, cM_len]
 refine endX [.v x] (cM h i m []) T (.v x) h1 (by rw [h2, cM_app]; rfl) (by rw [hlen]; exact Nat.le_refl _) ?_ (by rw [low]; trivial) rfl hK
 rw [hlen, e]
 exact lowH_set hl (by simp [ctr, Yf1, lowL, low])
theorem whenI_f (e : Int) : Un false e = 0 := rfl
theorem whenI_t (e : Int) : Un true e = e := rfl
theorem visit_succ (f : Nat) (l : Lat) (n : Nat) : X5 (f + 1) l n = if 64 ≤ n then (6, n) else if Wx l then (1, n + 1) else if latE l ≠ 0 then (latE l, n + 1) else goL (X5 f) l.parts (n + 1) := rfl
theorem latE_eq (l : Lat) : latE l = orI [Un (Za2 l) 6, Un (Zk0 l) 3, Un (Zf6 l) 5, Un (Vd l) 4] := rfl
variable (G : Nat → D) (hG : ∀ g, low 0 (G g))
include hG
attribute [local go_sem] Zi Zj Zk Zc Z8 Z9 Z5 Za Zb Nat.add_zero Z3 Zf Z0 Z1 Zg cM_app cM_b cM_b1 cM_b1s cM_l cM_len cM_sl
attribute [local go_sem ↓] reduceIte
theorem orE4_b (l : List Int) (hl : l.length ≤ 1000) (h : List Ob) (i : Nat) (hi : h[i]? = some (.buf 33 1 (l.map intX))) : Does Zd G 203 h [.buf i l.length] (fun h' r => h' = h ∧ r = .v (.int .i64 (orI l))) := by
 refine Y6 Tryz.func203 rfl (Z4 rfl) hG fun hl0 _ => ?_
 simp only [Tryz.ntmps203]
 repeat' first
  | (with_reducible first | refine sA rfl ?_ | refine sT rfl ?_)
  | (with_reducible refine Y7 ?_; first | refine Yn ?_ | (refine ao1 rfl rfl fun K HK => ?_; simp only [go_sem, hi] <;> (refine HK _ _ ?_; clear HK K)))
 refine Yh (fun m e h' => ∃ k : Nat, k ≤ l.length ∧ m = l.length - k ∧ orI l = orI (l.drop k) ∧ h' = h ∧ e 3 = .v (.int .i64 0) ∧ e 6 = .buf i l.length ∧ e 7 = .v (.int .i64 l.length) ∧ e 8 = .v (.int .i64 k)) l.length ⟨0, Zh _, rfl, rfl, rfl, rfl, rfl, rfl, rfl⟩ ?_
 rintro m e h' ⟨k, hk, rfl, ho, rfl, e3, e6, e7, e8⟩
 by_cases hlt : k < l.length
 · have hx : l[k]? = some l[k] := Z2 hlt
   have hd : l.drop k = l[k] :: l.drop (k + 1) := Ze hlt
   generalize l[k] = x at hx hd
   have wk : IntKind.i64.wrap ((k : Int) + 1) = (k : Int) + 1 := IntWalk.i64_in _ (by omega)
   rw [hd, orI] at ho
   have hrow : (l.map intX)[k]? = some [.v (.int .i64 x)] := by rw [List.getElem?_map, hx]; rfl
   repeat' first
    | (with_reducible first | refine sA rfl ?_ | refine sI rfl rfl ?_ | refine sT rfl ?_ | refine sB rfl ?_)
    | (with_reducible refine Y7 ?_; first | (refine ao1 rfl rfl fun K HK => ?_; simp only [go_sem, e6, e8]; refine ⟨_, _, _, hi, by simp, by simp only [go_sem], by omega, by omega, ?_⟩; refine HK _ _ ?_; clear HK K) | refine Yn ?_ | (refine ao1 rfl rfl fun K HK => ?_; simp only [go_sem, hi, loadD_bp hi (Z5 _) hrow, e3, e6, e7, e8, intX_eq, wk]; (first | refine Ym (fun hq => ?_) (fun hq => ?_) | refine Ze5 (fun hq => ?_) (fun hq => ?_) | skip) <;> (refine HK _ _ ?_; clear HK K)))
    | (exfalso; omega)
   · exact ⟨rfl, l.length - (k + 1), by omega, k + 1, hlt, rfl, by rw [ho, if_pos hq], rfl, e3, e6, e7, rfl⟩
   · exact ⟨by simp, endV hl0 rfl rfl ⟨rfl, by rw [ho, if_neg hq]⟩⟩
 · skip
   repeat' first
    | (with_reducible first | refine sA rfl ?_ | refine sI rfl rfl ?_ | refine sT rfl ?_ | refine sB rfl ?_)
    | (with_reducible refine Y7 ?_; first | refine Yn ?_ | (refine ao1 rfl rfl fun K HK => ?_; simp only [go_sem, hi, e3, e6, e7, e8]; (first | refine Ym (fun hq => ?_) (fun hq => ?_) | skip) <;> (refine HK _ _ ?_; clear HK K)))
    | (exfalso; omega)
   exact ⟨by simp, endV hl0 rfl rfl ⟨rfl, by rw [ho, Z6 (by omega)]; rfl⟩⟩
theorem orE4_s (a b c d : Int) (o : Int) (ho : orI [a, b, c, d] = o) (h : List Ob) (i : Nat) (hi : h[i]? = some (.buf 33 1 [[.v (.int .i64 a)], [.v (.int .i64 b)], [.v (.int .i64 c)], [.v (.int .i64 d)]])) : Does Zd G 203 h [.buf i 4] (fun h' r => h' = h.set i (.buf 33 1 [[.v (.int .i64 a)], [.v (.int .i64 b)], [.v (.int .i64 c)], [.v (.int .i64 d)]]) ∧ r = .v (.int .i64 o)) := by
 rw [Js hi, ← ho]; exact orE4_b G hG [a, b, c, d] (by simp) h i hi
theorem visit_c : ∀ (f : Nat) (l : Lat) (n : Nat) (d : Int), f ≤ 6 → d = 7 - f → Sm l → n ≤ 64 → ∀ (h : List Ob) (i : Nat), i < h.length → Does Zd G 138 (cM h i n []) [.ptr i 0, .agg (latX l), .v (.int .i64 d)] (fun h' r => h' = cM h i (X5 f l n).2 [] ∧ r = .v (.int .i64 (X5 f l n).1)) := by
 intro f
 induction f with
 | zero =>
   intro l n d hf hd hsm hn h i hi
   obtain rfl : d = 7 := by omega
   refine Y6 Tryz.func138 rfl (Z4 rfl) hG fun hl0 _ => ?_
   simp only [Tryz.ntmps138]
   repeat' first
    | (with_reducible first | refine sA rfl ?_ | refine sI rfl rfl ?_ | refine sT rfl ?_)
    | (with_reducible refine Y7 ?_; first | refine Yn ?_ | (refine ao1 rfl rfl fun K HK => ?_; (first | refine Yi rfl ?_ | skip); simp only [go_sem, Y4 l] <;> (refine HK _ _ ?_; clear HK K)) | refine ao0 rfl rfl ?_)
   exact ⟨.inr rfl, endC (x := .int .i64 6) (m := n) hi hl0 rfl rfl ⟨rfl, rfl⟩⟩
 | succ f ih =>
   intro l n d hf hd hsm hn h i hi
   obtain rfl : d = 6 - f := by omega
   have hsh := shape_d G hG l hsm
   have hli := limits_d G hG l hsm
   have hsp := spelling_d G hG l hsm
   have hra := ranges_d G hG l
   have hcs := chains_d G hG l hsm
   have hpl := hsm.parts
   have h7 := Yf9 l
   rw [visit_succ, latE_eq]
   simp only [Y4 l] at hsh hli hsp hra hcs
   generalize Un (Za2 l) 6 = v1 at *
   generalize Un (Zk0 l) 3 = v2 at *
   generalize Un (Zf6 l) 5 = v3 at *
   generalize Un (Vd l) 4 = v4 at *
   generalize Wx l = sb at *
   by_cases h64 : 64 ≤ n
   · rw [if_pos h64]
     refine Y6 Tryz.func138 rfl (Z4 rfl) hG fun hl0 _ => ?_
     simp only [Tryz.ntmps138]
     repeat' first
      | (with_reducible first | refine sA rfl ?_ | refine sI rfl rfl ?_ | refine sT rfl ?_)
      | (with_reducible refine Y7 ?_; first | refine Yn ?_ | (refine ao1 rfl rfl fun K HK => ?_; (first | refine Yi rfl ?_ | skip); simp only [go_sem, Y4 l, cM_0 hi]; (first | refine Ym (fun hq => ?_) (fun hq => ?_) | skip) <;> (refine HK _ _ ?_; clear HK K)) | refine ao0 rfl rfl ?_ | (refine ao1' rfl fun K HK => ?_; simp only [go_sem, Y4 l, cM_0 hi]; refine HK _ _ ?_; clear HK K))
      | (exfalso; omega)
     all_goals first | (exfalso; omega) | exact ⟨.inr rfl, endC (x := .int .i64 6) (m := n) hi hl0 rfl rfl ⟨rfl, rfl⟩⟩
   rw [if_neg h64]
   have wn : IntKind.i64.wrap ((n : Int) + 1) = ((n + 1 : Nat) : Int) := IntWalk.i64_in _ (by omega)
   refine Y6 Tryz.func138 rfl (Z4 rfl) hG fun hl0 _ => ?_
   simp only [Tryz.ntmps138]
   cases sb
   all_goals simp only [whenI_f, whenI_t] at hsh
   rotate_left
   · rw [if_pos rfl]
     repeat' first
      | (with_reducible first | refine sA rfl ?_ | refine sI rfl rfl ?_ | refine sT rfl ?_)
      | (with_reducible refine Y7 ?_; first | refine Yn ?_ | (refine ao1 rfl rfl fun K HK => ?_; (first | refine Yi rfl ?_ | skip); simp only [go_sem, Y4 l, cM_0 hi, cM_s hi, wn]; (first | refine Ym (fun hq => ?_) (fun hq => ?_) | skip) <;> (refine HK _ _ ?_; clear HK K)) | refine ao0 rfl rfl ?_ | (refine ao2 rfl rfl rfl ent_202 (hsh _) ?_; rintro _ _ ⟨rfl, rfl⟩) | (refine ao1' rfl fun K HK => ?_; simp only [go_sem, Y4 l, cM_0 hi, cM_s hi, wn]; refine HK _ _ ?_; clear HK K))
      | (exfalso; omega)
     all_goals first | (exfalso; omega) | exact ⟨.inr rfl, endC (x := .int .i64 1) (m := n + 1) hi hl0 rfl rfl ⟨rfl, rfl⟩⟩
   rw [if_neg Bool.false_ne_true]
   have hcs := hcs (h7 rfl)
   generalize hor : orI [v1, v2, v3, v4] = o at *
   have hor2 := orE4_s G hG v1 v2 v3 v4 o hor
   repeat' first
    | (with_reducible first | refine sA rfl ?_ | refine sI rfl rfl ?_ | refine sT rfl ?_)
    | (with_reducible refine Yc ?_; first | refine Xc mixd (by kernel_rfl) ?_)
    | (with_reducible refine Y7 ?_; first | refine Yn ?_ | (refine ao1 rfl rfl fun K HK => ?_; (first | refine Yi rfl ?_ | skip); simp only [go_sem, Y4 l, cM_0 hi, cM_s hi, wn]; (first | refine Ym (fun hq => ?_) (fun hq => ?_) | refine Ze5 (fun hq => ?_) (fun hq => ?_) | skip) <;> (refine HK _ _ ?_; clear HK K)) | refine ao0 rfl rfl ?_ | (refine ao2 rfl rfl rfl ent_202 (hsh _) ?_; rintro _ _ ⟨rfl, rfl⟩) | (refine ao1' rfl fun K HK => ?_; simp only [go_sem, Y4 l, cM_0 hi, cM_s hi, wn]; refine HK _ _ ?_; clear HK K))
    | ((with_reducible refine Up ?_); first | (refine Xs rfl rfl rfl (by (first | (simp only [go_sem, Y4 l, cM_0 hi, cM_s hi, wn]; rfl) | (simp only [go_sem, Y4 l, cM_0 hi, cM_s hi, wn]; done))) (by rw [getD_agg' aggT_26, szT_26]; rfl) ?_) | (refine aS1 rfl rfl fun K HK => ?_; (first | refine Yi rfl ?_ | skip); simp only [go_sem, Y4 l, cM_0 hi, cM_s hi, wn]; (first | refine Ym (fun hq => ?_) (fun hq => ?_) | refine Ze5 (fun hq => ?_) (fun hq => ?_) | skip) <;> (refine HK _ _ rfl ?_; clear HK K)) | refine Jp rfl rfl (by simp only [litD, Wb, go_sem, Z9, Za, Zw, Zu, and_self, ↓reduceIte, Z0, Z3, Z1, Zf, Zg, Zi, Zk, Zj, Y4 l, cM_0 hi, cM_app, cM_len, cM_s hi, cM_b, cM_b1, cM_b1s, Zb, Z8, Za, Z9, Nat.add_zero, wn]; rfl) ?_ | refine V2 (by simp only [Zs, Zv, Zb, Z8, Wd, chk1]; repeat' (first | exact trivial | refine And.intro ?_ ?_ | exact .inr Yw | exact .inr X0 | exact .inr X4 | exact .inl (by kernel_rfl))) ?_ | refine Ys rfl rfl rfl ent_204 (fun h2 => hli _) ?_ | refine Ys rfl rfl rfl ent_205 (fun h2 => hsp _) ?_ | refine Ys rfl rfl rfl ent_206 (fun h2 => hra _) ?_ | refine Ys rfl rfl rfl ent_207 (fun h2 => hcs _) ?_ | refine Zj6 rfl rfl rfl ent_203 (by (first | (simp only [go_sem, Y4 l, cM_0 hi, cM_s hi, wn]; rfl) | (simp only [go_sem, Y4 l, cM_0 hi, cM_s hi, wn]; done))) (fun h2 k2 => hor2 h2 _ k2) ?_)
    | (exfalso; omega)
   · obtain rfl : o = 0 := by assumption
     rw [if_neg (fun q => q rfl)]
     refine Yh (fun m e h' => ∃ (k c : Nat) (T : List Ob), k ≤ l.parts.length ∧ m = l.parts.length - k ∧ c ≤ 64 ∧ goL (X5 f) l.parts (n + 1) = goL (X5 f) (l.parts.drop k) c ∧ h' = cM h i c (.cells (latX l) :: T) ∧ e 0 = .ptr i 0 ∧ e 2 = .v (.int .i64 (6 - f)) ∧ e 47 = .sl 6 (l.parts.map latX) ∧ e 48 = .v (.int .i64 l.parts.length) ∧ e 49 = .v (.int .i64 k)) l.parts.length ⟨0, n + 1, _, Zh _, rfl, by omega, rfl, (by rw [Y4 l]), rfl, rfl, rfl, rfl, rfl⟩ ?_
     clear hsh hli hsp hra hcs hor2
     rintro m e h' ⟨k, c, T, hk, rfl, hc, ho, rfl, e0, e2, e47, e48, e49⟩
     by_cases hlt : k < l.parts.length
     rotate_left
     · have e1 : goL (X5 f) l.parts (n + 1) = (0, c) := by rw [ho, Z6 (by omega)]; rfl
       rw [e1]
       repeat' first
        | (with_reducible first | refine sA rfl ?_ | refine sI rfl rfl ?_ | refine sT rfl ?_ | refine sB rfl ?_)
        | (with_reducible refine Y7 ?_; first | refine Yn ?_ | (refine ao1 rfl rfl fun K HK => ?_; simp only [go_sem, e0, e2, e47, e48, e49]; (first | refine Ym (fun hq => ?_) (fun hq => ?_) | (refine ⟨by omega, by omega, ?_⟩; intro row hrow; obtain ⟨x, hx, rfl⟩ := Vr hrow; clear hrow) | skip) <;> (refine HK _ _ ?_; clear HK K)))
        | (exfalso; omega)
       exact ⟨.inr rfl, endC (x := .int .i64 0) (m := c) hi hl0 rfl rfl ⟨rfl, rfl⟩⟩
     have hx : l.parts[k]? = some l.parts[k] := Z2 hlt
     have wk : IntKind.i64.wrap ((k : Int) + 1) = (k : Int) + 1 := IntWalk.i64_in _ (by omega)
     have wd : IntKind.i64.wrap (6 - (f : Int) + 1) = 6 - (f : Int) + 1 := IntWalk.i64_in _ (by omega)
     rw [goL_step _ _ k _ hlt] at ho
     have hr := fun TT : List Ob => ih l.parts[k] c (6 - (f : Int) + 1) (by omega) (by omega) (hsm.part _ (Z7 hlt)) hc (h ++ TT) i (by rw [Zl]; omega)
     simp only [cM_ext hi] at hr
     have hle := visit_le f l.parts[k] c hc
     generalize l.parts[k] = x at hx ho hr hle
     generalize X5 f x c = y at *
     obtain ⟨y1, y2⟩ := y
     simp only at ho hr hle
     simp only [Y4 x] at hr
     by_cases hy : y1 = 0
     · rw [if_neg (fun q => q hy)] at ho
       repeat' first
        | (with_reducible first | refine sA rfl ?_ | refine sI rfl rfl ?_ | refine sT rfl ?_ | refine sB rfl ?_)
        | (with_reducible refine Y7 ?_; first | refine Yn ?_ | (refine ao1 rfl rfl fun K HK => ?_; simp only [go_sem, Y4 x, Y4 l, e0, e2, e47, e48, e49, wk, wd, hy]; (first | refine Ym (fun hq => ?_) (fun hq => ?_) | (refine ⟨by omega, by omega, ?_⟩; refine Yo (by assumption) ?_) | skip) <;> (refine HK _ _ ?_; clear HK K)) | (refine ao2 rfl rfl rfl ent_138 (hr _) ?_; rintro _ _ ⟨rfl, rfl⟩) | (refine ao1' rfl fun K HK => ?_; simp only [go_sem, Y4 x, Y4 l, e0, e2, e47, e48, e49, wk, wd, hy]; refine HK _ _ ?_; clear HK K))
        | (exfalso; omega)
       exact ⟨rfl, l.parts.length - (k + 1), by omega, k + 1, y2, _, hlt, rfl, hle, ho, (by rw [Y4 l]), e0, e2, e47, e48, rfl⟩
     · rw [if_pos hy] at ho
       rw [ho]
       repeat' first
        | (with_reducible first | refine sA rfl ?_ | refine sI rfl rfl ?_ | refine sT rfl ?_ | refine sB rfl ?_)
        | (with_reducible refine Y7 ?_; first | refine Yn ?_ | (refine ao1 rfl rfl fun K HK => ?_; simp only [go_sem, Y4 x, Y4 l, e0, e2, e47, e48, e49, wk, wd, hy]; (first | refine Ym (fun hq => ?_) (fun hq => ?_) | (refine ⟨by omega, by omega, ?_⟩; refine Yo (by assumption) ?_) | skip) <;> (refine HK _ _ ?_; clear HK K)) | (refine ao2 rfl rfl rfl ent_138 (hr _) ?_; rintro _ _ ⟨rfl, rfl⟩) | (refine ao1' rfl fun K HK => ?_; simp only [go_sem, Y4 x, Y4 l, e0, e2, e47, e48, e49, wk, wd, hy]; refine HK _ _ ?_; clear HK K))
        | (exfalso; omega)
       exact ⟨.inr rfl, endC (x := .int .i64 y1) (m := y2) hi hl0 rfl rfl ⟨rfl, rfl⟩⟩
   · rw [if_pos (by assumption)]
     exact ⟨.inr rfl, endC (x := .int .i64 o) (m := n + 1) hi hl0 rfl rfl ⟨rfl, rfl⟩⟩
theorem Zh5 (l : Lat) (hsm : Sm l) (h : List Ob) : Does Zd G 79 h [.agg (latX l)] (fun h' r => h' = h ∧ r = .v (.int .i64 (chkE l))) := by
 refine Y9 G hG (Wu _ l) (by rw [low]; trivial) ?_ h
 clear h
 have hr : Does Zd G 138 [.cells (latX l), .cells [.v (.int .i64 0)]] [.ptr 1 0, .agg (latX l), .v (.int .i64 1)] (fun h' r => h' = [.cells (latX l), .cells [.v (.int .i64 ((X5 6 l 0).2 : Nat))]] ∧ r = .v (.int .i64 (chkE l))) := visit_c G hG 6 l 0 1 (by omega) (by omega) hsm (by omega) [.cells (latX l), .dead] 1 (by simp)
 simp only [Y4 l] at hr
 generalize (X5 6 l 0).2 = m at *
 generalize chkE l = e at *
 refine Y6 Tryz.func79 rfl (Z4 rfl) hG fun hl0 _ => ?_
 simp only [Tryz.ntmps79]
 repeat' first
  | (with_reducible first | refine sA rfl ?_ | refine sT rfl ?_)
  | (with_reducible refine Y7 ?_; first | refine Yn ?_ | (refine ao1 rfl rfl fun K HK => ?_; simp only [go_sem, Y4 l] <;> (refine HK _ _ ?_; clear HK K)) | (refine ao2 rfl rfl rfl ent_138 (hr) ?_; rintro _ _ ⟨rfl, rfl⟩) | (refine ao1' rfl fun K HK => ?_; simp only [go_sem, Y4 l]; refine HK _ _ ?_; clear HK K))
 exact ⟨.inr rfl, endV hl0 rfl rfl ⟨rfl, rfl⟩⟩
end
section
def Wk (d d' : D) : Prop := ∀ hd hh W u, rd hd hh W d u → rd hd hh W d' u
def WkL (d d' : List D) : Prop := ∀ hd hh W u, rdL hd hh W d u → rdL hd hh W d' u
theorem W7 (d : D) : Wk d d := fun _ _ _ _ q => q
theorem X7 {k : Nat} : Wk (.v (.slice none 0 0)) (.sl k []) := nil_sl
theorem Yj5 : WkL [] [] := fun _ _ _ _ q => q
theorem Wn {d d' : D} {l l' : List D} (q : Wk d d') (r : WkL l l') : WkL (d :: l) (d' :: l') := fun hd hh W u k => by
 rw [rdL] at k ⊢
 obtain ⟨a, t, h1, h2, h3⟩ := k
 exact ⟨a, t, h1, q _ _ _ _ h2, r _ _ _ _ h3⟩
theorem wk_agg {l l' : List D} (q : WkL l l') : Wk (.agg l) (.agg l') := fun hd hh W u k => by
 rw [rd] at k ⊢
 obtain ⟨cs, h1, h2⟩ := k
 exact ⟨cs, h1, q _ _ _ _ h2⟩
theorem wk_tup {l l' : List D} (q : WkL l l') : Wk (.tup l) (.tup l') := fun hd hh W u k => by
 rw [rd] at k ⊢
 obtain ⟨cs, h1, h2⟩ := k
 exact ⟨cs, h1, q _ _ _ _ h2⟩
end
section
attribute [local irreducible] on aOp
attribute [local go_sem] decide_true decide_false Zq Zo
attribute [local simp] byD_len
def kM (A Z V B : Ob) (T : List Ob) : List Ob := A :: Z :: V :: B :: T
section
variable {A Z V B y y' : Ob} {T l : List Ob}
theorem kM_0 : (kM A Z V B T)[0]? = some A := rfl
theorem kM_1 : (kM A Z V B T)[1]? = some Z := rfl
theorem kM_2 : (kM A Z V B T)[2]? = some V := rfl
theorem kM_3 : (kM A Z V B T)[3]? = some B := rfl
theorem kM_s1 : (kM A Z V B T).set 1 y = kM A y V B T := rfl
theorem kM_s2 : (kM A Z V B T).set 2 y = kM A Z y B T := rfl
theorem kM_s3 : (kM A Z V B T).set 3 y = kM A Z V y T := rfl
theorem Zq2 : (kM A Z V B T).length = T.length + 4 := rfl
theorem Yb5 : kM A Z V B T ++ l = kM A Z V B (T ++ l) := rfl
theorem kM_l : (kM A Z V B (T ++ [y]))[T.length + 4]? = some y := by simp [kM]
theorem kM_sl : (kM A Z V B (T ++ [y])).set (T.length + 4) y' = kM A Z V B (T ++ [y']) := by simp [kM]
theorem kM_l2 {z : Ob} : (kM A Z V B (T ++ [y, z]))[T.length + 4]? = some y := by simp [kM]
theorem kM_l3 {z : Ob} : (kM A Z V B (T ++ [y, z]))[T.length + 1 + 4]? = some z := by simp [kM]
end
def nilV : List D := [.v (.int .i64 0), .v (.slice none 0 0), .v (.slice none 0 0), .v (.slice none 0 0)]
theorem bot_2 {l : Lat} (h : l.kind = 2) : botV l = .mk l.lo [] [] [] := by cases l; simp only [Lat.kind] at h; subst h; rfl
theorem bot_3 {l : Lat} (h : l.kind = 3) : botV l = .mk l.hi [] [] [] := by cases l; simp only [Lat.kind] at h; subst h; rfl
theorem bot_67 {l : Lat} (h : l.kind = 6 ∨ l.kind = 7) : botV l = .mk 0 [] (l.parts.map botV) [] := by
 cases l; simp only [Lat.kind] at h
 rw [botV, if_neg (by omega), if_neg (by omega), if_pos h, Zr4]; rfl
theorem bot_0 {l : Lat} (h2 : l.kind ≠ 2) (h3 : l.kind ≠ 3) (h6 : l.kind ≠ 6) (h7 : l.kind ≠ 7) : botV l = .mk 0 [] [] [] := by
 cases l; simp only [Lat.kind] at h2 h3 h6 h7
 rw [botV, if_neg h2, if_neg h3, if_neg (by omega)]; rfl
theorem Zt6 (n : Int) (ps : List (List D)) (d : D) (hd : Wk d (.sl 4 ps)) : Wk (.agg [.v (.int .i64 n), .v (.slice none 0 0), d, .v (.slice none 0 0)]) (.agg [.v (.int .i64 n), .sl 1 [], .sl 4 ps, .sl 2 []]) :=
 wk_agg (Wn (W7 _) (Wn X7 (Wn hd (Wn X7 Yj5))))
theorem Zv6 (v : Val) : (vaX v).all D.one = true := by rw [Y5]; rfl
theorem va_mk (n : Int) (ps : List Val) : vaX (.mk n [] ps []) = [.v (.int .i64 n), .sl 1 [], .sl 4 (ps.map vaX), .sl 2 []] := by rw [Y5]; rfl
theorem Yj7 (f : Nat) : ∀ l : Lat, SizeOf.sizeOf l ≤ f → Sm l → VSm (botV l) := by
 induction f with
 | zero => intro l hn; cases l; simp at hn
 | succ f ih =>
  intro l hn hs
  have flat : ∀ n : Int, VSm (.mk n [] [] []) := fun n => .mk _ (by simp [Val.names]) (by simp [Val.parts]) (by simp [Val.entries]) (by simp [Val.names]) (by simp [Val.entries]) (by simp [Val.parts])
  by_cases h2 : l.kind = 2
  · rw [bot_2 h2]; exact flat _
  by_cases h3 : l.kind = 3
  · rw [bot_3 h3]; exact flat _
  by_cases h6 : l.kind = 6 ∨ l.kind = 7
  · rw [bot_67 h6]
    refine .mk _ (by simp [Val.names]) (by simpa [Val.parts] using hs.parts) (by simp [Val.entries]) (by simp [Val.names]) (by simp [Val.entries]) (fun p hp => ?_)
    obtain ⟨q, hq, rfl⟩ := List.mem_map.1 (show p ∈ l.parts.map botV from hp)
    exact ih q (by have := Yu hq; omega) (hs.part q hq)
  · rw [bot_0 h2 h3 (by omega) (by omega)]; exact flat _
section
variable {l : Lat} {v : Val}
theorem el_1 (h : l.kind = 1) : Ya l v = (Vi v true false false false && decide (v.n = 0 ∨ v.n = 1)) := by cases l; simp only [Lat.kind] at h; subst h; rw [Ya, if_pos rfl]
theorem el_23 (h : l.kind = 2 ∨ l.kind = 3) : Ya l v = (Vi v true false false false && decide (l.lo ≤ v.n ∧ v.n ≤ l.hi)) := by cases l; simp only [Lat.kind] at h; rw [Ya, if_neg (by omega), if_pos h]; rfl
theorem el_4 (h : l.kind = 4) : Ya l v = (Vi v false true false false && Yf l.names v.names) := by cases l; simp only [Lat.kind] at h; subst h; rw [Ya, if_neg (by decide), if_neg (by decide), if_pos rfl]; rfl
theorem el_10 (h : l.kind = 10) : Ya l v = (Vi v false true false false && Yf l.names v.names && V4 l.rules v.names) := by cases l; simp only [Lat.kind] at h; subst h; rw [Ya, if_neg (by decide), if_neg (by decide), if_neg (by decide), if_pos rfl]; rfl
theorem el_8 (h : l.kind = 8) : Ya l v = (if v.n = 0 ∨ v.n = 2 then Vi v true false false false else if v.n = 1 then Vi v true true false false && decide (v.names.length = 1) && Yf l.names v.names else false) := by cases l; simp only [Lat.kind] at h; subst h; rw [Ya, if_neg (by decide), if_neg (by decide), if_neg (by decide), if_neg (by decide), if_pos rfl]; rfl
theorem el_9 (h : l.kind = 9) : Ya l v = (Vi v false false false true && regB v.entries) := by cases l; simp only [Lat.kind] at h; subst h; rw [Ya, if_neg (by decide), if_neg (by decide), if_neg (by decide), if_neg (by decide), if_neg (by decide), if_pos rfl]
theorem el_5 (h : l.kind = 5) : Ya l v = (Vi v false true true false && decide (v.names.length = v.parts.length) && Yf l.names v.names && mapB l.parts v.parts) := by cases l; simp only [Lat.kind] at h; subst h; rw [Ya, if_neg (by decide), if_neg (by decide), if_neg (by decide), if_neg (by decide), if_neg (by decide), if_neg (by decide), if_pos rfl]; rfl
theorem el_67 (h : l.kind = 6 ∨ l.kind = 7) : Ya l v = (Vi v false false true false && decide (v.parts.length = l.parts.length) && Vx l.parts v.parts) := by cases l; simp only [Lat.kind] at h; rw [Ya, if_neg (by omega), if_neg (by omega), if_neg (by omega), if_neg (by omega), if_neg (by omega), if_neg (by omega), if_neg (by omega)]; rfl
theorem map_one (p : Lat) (vs : List Val) : mapB [p] vs = vs.all fun v => Ya p v && decide (valC v (botV p) ≠ 0) := by rw [mapB]
theorem els_go {ps : List Lat} {vs : List Val} {k : Nat} {p : Lat} {v : Val} (hp : ps.drop k = p :: ps.drop (k + 1)) (hv : vs.drop k = v :: vs.drop (k + 1)) : Vx (ps.drop k) (vs.drop k) = (Ya p v && Vx (ps.drop (k + 1)) (vs.drop (k + 1))) := by rw [hp, hv, Vx]
theorem els_nil (vs : List Val) : Vx [] vs = true := by rw [Vx]
end
variable (G : Nat → D) (hG : ∀ g, low 0 (G g))
include hG
attribute [local go_sem] Zi Zj Zk Zc Zn Z8 Zl Z9 Z5 Za Zb Z3 Zf Z0 Z1 Zg kM_0 kM_1 kM_2 kM_3 Yb5 kM_l kM_l2 kM_l3 Zq2 kM_s1 kM_s2 kM_s3 kM_sl V9 J0
attribute [local go_sem ↓] reduceIte
theorem Yq6 (f : Nat) : ∀ l : Lat, SizeOf.sizeOf l ≤ f → WfL l → ∀ h : List Ob, Does Zd G 140 h [.agg (latX l)] (fun h' r => h' = h ∧ r = .agg (vaX (botV l))) := by
 induction f with
 | zero => intro l hn; cases l; simp at hn
 | succ f ih =>
 intro l hn hwf h
 refine Y9 G hG (Wu _ l) (by rw [low]; exact Yb _ _) ?_ h
 clear h
 obtain ⟨hk0, hk5, hk7, hk6, _⟩ := hwf.kinds
 have hpl : l.kind = 6 ∨ l.kind = 7 → l.parts.length ≤ 8 := fun q => by rcases q with q | q; have := hk6 q; omega; have := hk7 q; omega
 have hpp : ∀ p ∈ l.parts, ∀ h, Does Zd G 140 h [.agg (latX p)] (fun h' r => h' = h ∧ r = .agg (vaX (botV p))) := fun p hp => ih p (by have := Yu hp; omega) (hwf.part hp)
 apply Does.weak
 refine Y6 Tryz.func140 rfl (Z4 rfl) hG fun hl0 _ => ?_
 simp only [Tryz.ntmps140]
 by_cases h6 : l.kind = 6 ∨ l.kind = 7
 rotate_left
 · have hb : ∃ n : Int, botV l = .mk n [] [] [] ∧ (l.kind = 2 → n = l.lo) ∧ (l.kind = 3 → n = l.hi) ∧ (l.kind ≠ 2 → l.kind ≠ 3 → n = 0) := by
    by_cases h2 : l.kind = 2
    · exact ⟨_, bot_2 h2, fun _ => rfl, fun q => by omega, fun q => absurd h2 q⟩
    by_cases h3 : l.kind = 3
    · exact ⟨_, bot_3 h3, fun q => by omega, fun _ => rfl, fun _ q => absurd h3 q⟩
    · exact ⟨_, bot_0 h2 h3 (by omega) (by omega), fun q => by omega, fun q => by omega, fun _ _ => rfl⟩
   obtain ⟨n, hb, b2, b3, b0⟩ := hb
   rw [hb, va_mk]
   have h6a : ¬ l.kind = 6 := by omega
   have h7a : ¬ l.kind = 7 := by omega
   by_cases h2 : l.kind = 2
   · obtain rfl := b2 h2
     have F : _ ∧ _ := ⟨Y4 l, h2⟩
     repeat' first
      | refine g0 ?_
      | fail
     all_goals exact ⟨.inr rfl, endD (ds := [.agg [.v (.int .i64 l.lo), .v (.slice none 0 0), .v (.slice none 0 0), .v (.slice none 0 0)]]) (r := .agg [.v (.int .i64 l.lo), .v (.slice none 0 0), .v (.slice none 0 0), .v (.slice none 0 0)]) hl0 (by simp only [resD, Tryz.results140, go_sem, ↓reduceIte, Z0, Z3, Z1]; try rfl) (by simp) (by simp) (by simp [outD, cvD, cv1]) (by simp [low, lowL]) ⟨_, ⟨rfl, rfl⟩, Zt6 _ _ _ X7⟩⟩
   by_cases h3 : l.kind = 3
   · obtain rfl := b3 h3
     have F : _ ∧ _ := ⟨Y4 l, h3⟩
     repeat' first
      | refine g0 ?_
      | fail
     all_goals exact ⟨.inr rfl, endD (ds := [.agg [.v (.int .i64 l.hi), .v (.slice none 0 0), .v (.slice none 0 0), .v (.slice none 0 0)]]) (r := .agg [.v (.int .i64 l.hi), .v (.slice none 0 0), .v (.slice none 0 0), .v (.slice none 0 0)]) hl0 (by simp only [resD, Tryz.results140, go_sem, ↓reduceIte, Z0, Z3, Z1]; try rfl) (by simp) (by simp) (by simp [outD, cvD, cv1]) (by simp [low, lowL]) ⟨_, ⟨rfl, rfl⟩, Zt6 _ _ _ X7⟩⟩
   · obtain rfl := b0 h2 h3
     have F : _ ∧ _ ∧ _ ∧ _ ∧ _ := ⟨Y4 l, h2, h3, h6a, h7a⟩
     repeat' first
      | refine g0 ?_
      | fail
     all_goals exact ⟨.inr rfl, endD (ds := [.agg nilV]) (r := .agg nilV) hl0 (by simp only [resD, Tryz.results140, go_sem, ↓reduceIte, Z0, Z3, Z1]; rfl) (by simp) (by simp) (by simp [outD, cvD, cv1, nilV]) (by simp [low, lowL, nilV]) ⟨_, ⟨rfl, rfl⟩, Zt6 _ _ _ X7⟩⟩
 have hpl := hpl h6
 rw [bot_67 h6, va_mk]
 have h2a : ¬ l.kind = 2 := by omega
 have h3a : ¬ l.kind = 3 := by omega
 rcases h6 with h6 | h6
 all_goals
  skip
  have F : _ ∧ _ := ⟨Y4 l, h6⟩
  repeat' first
   | refine g0 ?_
   | fail
  refine Uf 30 4 2 [.v (.int .i64 0), .v (.slice none 0 0)] [.v (.slice none 0 0)] rfl ?_
  refine Yh (fun m e h' => ∃ (k : Nat) (T : List Ob), k ≤ l.parts.length ∧ m = l.parts.length - k ∧ h' = kM (.cells (latX l)) (.cells nilV) (.cells [.v (.int .i64 0), .v (.slice none 0 0), .buf 3 k, .v (.slice none 0 0)]) (.buf 30 4 (((l.parts.take k).map botV).map vaX)) T ∧ e 1 = .ptr 0 0 ∧ e 2 = .ptr 1 0 ∧ e 3 = .ptr 2 0 ∧ e 22 = .sl 6 (l.parts.map latX) ∧ e 23 = .v (.int .i64 l.parts.length) ∧ e 24 = .v (.int .i64 k)) l.parts.length ⟨0, [], Zh _, rfl, by rw [Y4 l, h6]; rfl, rfl, rfl, rfl, rfl, rfl, rfl⟩ ?_
  rintro m e h' ⟨k, T, hk, rfl, rfl, e1, e2, e3, e22, e23, e24⟩
  by_cases hlt : k < l.parts.length
  rotate_left
  · obtain rfl : k = l.parts.length := by omega
    rw [List.take_length]
    repeat' first
     | (with_reducible first | refine sA rfl ?_ | refine sI rfl rfl ?_ | refine sT rfl ?_ | refine sB rfl ?_)
     | (with_reducible refine Y7 ?_; first | refine Yn ?_ | (refine ao1 rfl rfl fun K HK => ?_; simp only [go_sem, Y4 l, e1, e2, e3, e22, e23, e24, nilV]; (first | refine Ym (fun hq => ?_) (fun hq => ?_) | (refine ⟨by omega, by omega, ?_⟩; intro row hrow; obtain ⟨x, hx, rfl⟩ := Vr hrow; clear hrow) | skip) <;> (refine HK _ _ ?_; clear HK K)) | (refine ao1' rfl fun K HK => ?_; simp only [go_sem, Y4 l, e1, e2, e3, e22, e23, e24, nilV]; refine HK _ _ ?_; clear HK K))
     | (exfalso; omega)
    exact ⟨.inr rfl, endD (ds := [.agg [.v (.int .i64 0), .v (.slice none 0 0), .buf 3 l.parts.length, .v (.slice none 0 0)]]) (r := .agg [.v (.int .i64 0), .v (.slice none 0 0), .sl 4 ((l.parts.map botV).map vaX), .v (.slice none 0 0)]) hl0 (by simp only [resD, Tryz.results140, go_sem, ↓reduceIte, Z0, Z3, Z1, e2, kM_1]; try rfl) (by simp) (by simp) (by simp [outD, cvD, cv1, kM]) (by rw [low]; simp only [lowL]; exact ⟨by simp [low], by simp [low], Ji _ _, by simp [low], trivial⟩) ⟨_, ⟨rfl, rfl⟩, Zt6 _ _ _ (W7 _)⟩⟩
  have hx : l.parts[k]? = some l.parts[k] := Z2 hlt
  have wk : IntKind.i64.wrap ((k : Int) + 1) = ((k + 1 : Nat) : Int) := IntWalk.i64_in _ (by omega)
  have htk : (l.parts.take (k + 1)).map botV = (l.parts.take k).map botV ++ [botV l.parts[k]] := by rw [List.take_add_one, hx, Zr]; rfl
  have hbp := hpp _ (Z7 hlt)
  generalize l.parts[k] = x at hx hbp htk
  have hlr : (((l.parts.take k).map botV).map vaX).length = k := by rw [Z5, Z5, Zt, Nat.min_eq_left hk]
  simp only [Y4 x] at hbp
  generalize botV x = bx at hbp htk
  have hro : Yz 4 [vaX bx] := fun row hr => by simp only [List.mem_singleton] at hr; subst hr; exact ⟨V9 bx, List.all_eq_true.1 (Zv6 bx)⟩
  have F : _ ∧ _ ∧ _ ∧ _ ∧ _ ∧ _ ∧ _ ∧ _ ∧ _ := ⟨Y4 x, Y4 l, e1, e2, e3, e22, e23, e24, wk⟩
  repeat' first
   | (with_reducible refine Yc ?_; refine Xc mixd (by kernel_rfl) ?_)
   | ((with_reducible refine Up ?_); first | (refine Zd7 rfl rfl rfl rfl (by (simp only [go_sem, F]; rfl)) hlr (by simp only [go_sem, F]; rfl) (by (simp only [go_sem, F]; rfl)) (by simp) hro (by first | omega | (simp; omega)) ?_) | (refine Xs rfl rfl rfl (by (simp only [go_sem, F]; rfl)) (by rw [getD_agg' aggT_26, szT_26]; rfl) ?_) | (refine aS1 rfl rfl fun K HK => ?_; simp only [go_sem, F]; (first | refine Ym (fun hq => ?_) (fun hq => ?_) | (refine ⟨by omega, by omega, ?_⟩; refine Yo (by assumption) ?_) | skip) <;> (refine HK _ _ rfl ?_; clear HK K)) | refine Xs rfl rfl rfl (by (simp only [go_sem, F]; rfl)) (by rw [getD_one (by simp only [go_sem, F])]; rfl) ?_ | refine Ui rfl rfl (by (simp only [go_sem, F]; rfl)) rfl (by simp only [go_sem, F]) (by simp) ?_ | refine Jp rfl rfl (by simp only [litD, Wb, go_sem, Z9, Za, Zw, Zu, and_self, ↓reduceIte, Z0, Z3, Z1, Zf, Zg, Zi, Zk, Zj, Y4 x, Y4 l, e1, e2, e3, e22, e23, e24, Z5, Zc, wk, kM_0, kM_1, kM_2, kM_3, kM_s1, kM_s2, kM_s3, Zq2, Yb5, kM_l, kM_sl, kM_l2, kM_l3, V9, J0, Zn, Z8, Zb, Zl, Z9, Za]; rfl) ?_ | refine V2 (by simp only [Zs, Zv, Zb, Z8, Wd, chk1]; repeat' (first | exact trivial | refine And.intro ?_ ?_ | exact .inr Yw | exact .inr X0 | exact .inr X4 | exact .inr (Wt (by omega)) | (refine .inr ?_; simp [compat, Wl, V8, Vs, nop, Zq2, V9] <;> omega) | exact .inl (by kernel_rfl))) ?_ | refine Ys rfl rfl rfl Yd2 (fun h2 => hbp _) ?_)
   | refine gg ?_
   | refine Two.mk (fun hq => ?_) fun hq => ?_
   | (exfalso; omega)
  exact ⟨rfl, l.parts.length - (k + 1), by omega, k + 1, _, hlt, rfl, (by rw [Y4 l, htk, Zr]; rfl), e1, e2, e3, e22, e23, rfl⟩
end
section
set_option maxHeartbeats 16000000
attribute [local irreducible] on aOp
attribute [local go_sem] decide_true decide_false Zq Zo
attribute [local simp] byD_len
theorem rent_go {list : List En} {k : Nat} {x : En} (h : list[k]? = some x) : Zo4 list k (list.drop k) = (Za1 list k x && Zo4 list (k + 1) (list.drop (k + 1))) := by
 obtain ⟨hl, rfl⟩ := List.getElem?_eq_some_iff.1 h
 rw [Ze hl, Zo4]
theorem rent_0 {list : List En} {x : En} (h1 : ¬ x.clock.length = 0) (h2 : X2 x.clock = true) (h3 : Wm x.name = true) : Za1 list 0 x = list.all fun f => !V6 x.clock f.clock := by
 unfold Za1; rw [h2, h3, decide_eq_true h1]; rfl
theorem rent_s {list : List En} {j : Nat} {x y : En} (hy : list[j]? = some y) (h1 : ¬ x.clock.length = 0) (h2 : X2 x.clock = true) (h3 : Wm x.name = true) : Za1 list (j + 1) x = (decide (entC y x < 0) && list.all fun f => !V6 x.clock f.clock) := by
 unfold Za1; simp only [hy]; rw [h2, h3, decide_eq_true h1]; rfl
variable (G : Nat → D) (hG : ∀ g, low 0 (G g))
include hG
attribute [local go_sem] Bool.false_eq_true Zi Zj Zk Zc Z5 Z3 Zf Z0 Z1 Zg X1
attribute [local go_sem ↓] reduceIte
theorem rents_d (list : List En) (hl : list.length ≤ 9223372036854775807) (hs : ∀ e ∈ list, e.clock.length ≤ 9223372036854775807 ∧ e.name.size ≤ 9223372036854775807) (h : List Ob) : Does Zd G 136 h [.sl 2 (list.map enX)] (fun h' r => h' = h ∧ r = .v (.bool (regB list))) := by
 rw [← rents_reg]
 unfold rentsB
 refine Y9 G hG (by rw [lowL, lowL]; exact ⟨Zm4 _ list, trivial⟩) (by rw [low]; trivial) ?_ h
 clear h
 refine Y6 Tryz.func136 rfl (Z4 rfl) hG fun hl0 _ => ?_
 simp only [Tryz.ntmps136]
 repeat' first
  | refine g0 ?_
  | fail
 refine Yh (fun m e h' => ∃ k : Nat, k ≤ list.length ∧ m = list.length - k ∧ Zo4 list 0 list = Zo4 list k (list.drop k) ∧ h' = [] ∧ e 0 = .sl 2 (list.map enX) ∧ e 3 = .v (.int .i64 k)) list.length ⟨0, Zh _, rfl, rfl, rfl, rfl, rfl⟩ ?_
 rintro m e h' ⟨k, hk, rfl, ho, rfl, e0, e3⟩
 by_cases hlt : k < list.length
 rotate_left
 · rw [Z6 (by omega)] at ho
   have F : _ ∧ _ := ⟨e0, e3⟩
   repeat' first
    | refine gg ?_
    | refine Two.mk (fun hq => ?_) fun hq => ?_
    | refine Evry.mk fun x hx => ?_
    | (exfalso; omega)
   exact ⟨.inr rfl, endD (r := .v (.bool true)) hl0 rfl (by simp) (by simp) rfl (by rw [low]; trivial) ⟨rfl, by rw [ho]; rfl⟩⟩
 have hx : list[k]? = some list[k] := Z2 hlt
 obtain ⟨hxc, hxn⟩ := hs _ (Z7 hlt)
 generalize list[k] = x at hx hxc hxn
 rw [rent_go hx] at ho
 have wk : IntKind.i64.wrap ((k : Int) + 1) = ((k + 1 : Nat) : Int) := IntWalk.i64_in _ (by omega)
 have hv := Zx0 G hG x.clock hxc
 have hn := sValid_d G hG x.name hxn
 by_cases hz : x.clock.length = 0
 · have hr : Za1 list k x = false := by unfold Za1; rw [decide_eq_false (by omega)]; rfl
   rw [hr] at ho
   have hzi : (x.clock.length : Int) = 0 := by omega
   have F : _ ∧ _ ∧ _ ∧ _ := ⟨e0, e3, wk, hzi⟩
   repeat' first
    | refine gg ?_
    | refine Two.mk (fun hq => ?_) fun hq => ?_
    | (exfalso; omega)
   all_goals first | (exfalso; omega) | exact ⟨.inr rfl, endD (r := .v (.bool false)) hl0 rfl (by simp) (by simp) rfl (by rw [low]; trivial) ⟨rfl, by rw [ho]; rfl⟩⟩
 have hzi : ¬ (x.clock.length : Int) = 0 := by omega
 cases hcb : X2 x.clock <;> rw [hcb] at hv
 · have hr : Za1 list k x = false := by unfold Za1; rw [hcb]; simp
   rw [hr] at ho
   have F : _ ∧ _ ∧ _ ∧ _ := ⟨e0, e3, wk, hzi⟩
   repeat' first
    | refine gg ?_
    | refine Two.mk (fun hq => ?_) fun hq => ?_
    | (with_reducible refine Y7 ?_; refine gc rfl rfl rfl Zc6 (hv _) ?_)
    | (exfalso; omega)
   all_goals first | (exfalso; omega) | exact ⟨.inr rfl, endD (r := .v (.bool false)) hl0 rfl (by simp) (by simp) rfl (by rw [low]; trivial) ⟨rfl, by rw [ho]; rfl⟩⟩
 cases hnb : Wm x.name <;> rw [hnb] at hn
 · have hr : Za1 list k x = false := by unfold Za1; rw [hnb]; simp
   rw [hr] at ho
   have F : _ ∧ _ ∧ _ ∧ _ := ⟨e0, e3, wk, hzi⟩
   repeat' first
    | refine gg ?_
    | refine Two.mk (fun hq => ?_) fun hq => ?_
    | (with_reducible refine Y7 ?_; first | refine gc rfl rfl rfl Zc6 (hv _) ?_ | refine gc rfl rfl rfl Zh1 (hn _) ?_)
    | (exfalso; omega)
   all_goals first | (exfalso; omega) | exact ⟨.inr rfl, endD (r := .v (.bool false)) hl0 rfl (by simp) (by simp) rfl (by rw [low]; trivial) ⟨rfl, by rw [ho]; rfl⟩⟩
 have hbel : ∀ f ∈ list, ∀ h, Does Zd G 174 h [.sl 2 (x.clock.map tkX), .sl 2 (f.clock.map tkX)] (fun h' r => h' = h ∧ r = .v (.bool (V6 x.clock f.clock))) := fun f hf => cBelow_d G hG x.clock f.clock hxc (hs f hf).1
 rcases Nat.eq_zero_or_pos k with h0 | h0
 · subst h0
   have hr0 := rent_0 (list := list) hz hcb hnb
   have F : _ ∧ _ ∧ _ ∧ _ := ⟨e0, e3, wk, hzi⟩
   repeat' first
    | (with_reducible refine Yc ?_; refine Y8 mixd (by kernel_rfl) ?_)
    | refine gg ?_
    | refine Two.mk (fun hq => ?_) fun hq => ?_
    | refine Evry.mk fun x hx => ?_
    | (with_reducible refine Y7 ?_; first | refine gc rfl rfl rfl Zc6 (hv _) ?_ | refine gc rfl rfl rfl Zh1 (hn _) ?_)
    | (exfalso; omega)
   all_goals try (exfalso; omega)
   refine Yh (fun m e h' => ∃ i : Nat, i ≤ list.length ∧ m = list.length - i ∧ Za1 list (0) x = ((list.drop i).all fun f => !V6 x.clock f.clock) ∧ h' = [] ∧ e 0 = .sl 2 (list.map enX) ∧ e 3 = .v (.int .i64 ((0 : Nat) : Int)) ∧ e 4 = .v (.int .i64 i)) list.length ⟨0, Zh _, rfl, hr0, rfl, e0, e3, rfl⟩ ?_
   (try clear F); clear e0 e3 e
   rintro m e h' ⟨i, hi, rfl, hall, rfl, e0, e3, e4⟩
   by_cases hli : i < list.length
   · have hz2 : list[i]? = some list[i] := Z2 hli
     have hbf := hbel _ (Z7 hli)
     rw [Ze hli, List.all_cons] at hall
     generalize list[i] = f at hz2 hbf hall
     have wi : IntKind.i64.wrap ((i : Int) + 1) = ((i + 1 : Nat) : Int) := IntWalk.i64_in _ (by omega)
     cases hbv : V6 x.clock f.clock <;> rw [hbv] at hbf hall
     · skip
       have F : _ ∧ _ ∧ _ ∧ _ := ⟨e0, e3, e4, wi⟩
       repeat' first
        | (with_reducible refine Yc ?_; refine Y8 mixd (by kernel_rfl) ?_)
        | refine gg ?_
        | refine Two.mk (fun hq => ?_) fun hq => ?_
        | (with_reducible refine X6 ?_; refine aq2 rfl rfl rfl Yp4 (hbf _) ?_)
        | (exfalso; omega)
       exact ⟨rfl, list.length - (i + 1), by omega, i + 1, hli, rfl, hall, rfl, e0, e3, rfl⟩
     · rw [hall] at ho
       have F : _ ∧ _ ∧ _ ∧ _ := ⟨e0, e3, e4, wi⟩
       repeat' first
        | (with_reducible refine Yc ?_; refine Y8 mixd (by kernel_rfl) ?_)
        | refine gg ?_
        | refine Two.mk (fun hq => ?_) fun hq => ?_
        | (with_reducible refine X6 ?_; refine aq2 rfl rfl rfl Yp4 (hbf _) ?_)
        | (exfalso; omega)
       exact ⟨.inr rfl, endD (r := .v (.bool false)) hl0 rfl (by simp) (by simp) rfl (by rw [low]; trivial) ⟨rfl, by rw [ho]; rfl⟩⟩
   · rw [Z6 (by omega)] at hall
     rw [hall] at ho
     have F : _ ∧ _ ∧ _ ∧ _ := ⟨e0, e3, e4, wk⟩
     repeat' first
      | (with_reducible refine Yc ?_; refine Y8 mixd (by kernel_rfl) ?_)
      | refine gg ?_
      | refine Two.mk (fun hq => ?_) fun hq => ?_
      | refine Evry.mk fun x hx => ?_
      | (exfalso; omega)
     exact ⟨rfl, list.length - (1), by omega, 1, by omega, rfl, ho, rfl, e0, rfl⟩
 · obtain ⟨j, rfl⟩ : ∃ j, k = j + 1 := ⟨k - 1, by omega⟩
   have hy : list[j]? = some list[j] := Z2 (by omega)
   have hyc := (hs _ (Z7 (show j < list.length by omega))).1
   generalize list[j] = y at hy hyc
   have hr0 := rent_s hy hz hcb hnb
   have wm : IntKind.i64.wrap (((j + 1 : Nat) : Int) - 1) = (j : Int) := by rw [show ((j + 1 : Nat) : Int) - 1 = (j : Int) by omega]; exact IntWalk.i64_in _ (by omega)
   have gp : decide ((0 : Int) < ((j + 1 : Nat) : Int)) = true := decide_eq_true (by omega)
   have hec := ents_d G hG y x hyc hxc
   simp only [X1] at hec
   generalize entC y x = c at hec hr0
   by_cases hc : c < 0
   rotate_left
   · rw [decide_eq_false hc, Bool.false_and] at hr0
     rw [hr0] at ho
     have F : _ ∧ _ ∧ _ ∧ _ ∧ _ ∧ _ := ⟨e0, e3, wk, wm, gp, hzi⟩
     repeat' first
      | (with_reducible refine Yc ?_; refine Y8 mixd (by kernel_rfl) ?_)
      | refine gg ?_
      | refine Two.mk (fun hq => ?_) fun hq => ?_
      | (with_reducible refine Y7 ?_; first | refine gc rfl rfl rfl Zc6 (hv _) ?_ | refine gc rfl rfl rfl Zh1 (hn _) ?_)
      | (with_reducible refine X6 ?_; refine aq2 rfl rfl rfl ent_97 (hec _) ?_)
      | (exfalso; omega)
     all_goals first | (exfalso; omega) | exact ⟨.inr rfl, endD (r := .v (.bool false)) hl0 rfl (by simp) (by simp) rfl (by rw [low]; trivial) ⟨rfl, by rw [ho]; rfl⟩⟩
   rw [decide_eq_true hc, Zm] at hr0
   have F : _ ∧ _ ∧ _ ∧ _ ∧ _ ∧ _ := ⟨e0, e3, wk, wm, gp, hzi⟩
   repeat' first
    | (with_reducible refine Yc ?_; refine Y8 mixd (by kernel_rfl) ?_)
    | refine gg ?_
    | refine Two.mk (fun hq => ?_) fun hq => ?_
    | (with_reducible refine Y7 ?_; first | refine gc rfl rfl rfl Zc6 (hv _) ?_ | refine gc rfl rfl rfl Zh1 (hn _) ?_)
    | (with_reducible refine X6 ?_; refine aq2 rfl rfl rfl ent_97 (hec _) ?_)
    | (exfalso; omega)
   all_goals try (exfalso; omega)
   refine Yh (fun m e h' => ∃ i : Nat, i ≤ list.length ∧ m = list.length - i ∧ Za1 list (j + 1) x = ((list.drop i).all fun f => !V6 x.clock f.clock) ∧ h' = [] ∧ e 0 = .sl 2 (list.map enX) ∧ e 3 = .v (.int .i64 ((j + 1 : Nat) : Int)) ∧ e 4 = .v (.int .i64 i)) list.length ⟨0, Zh _, rfl, hr0, rfl, e0, e3, rfl⟩ ?_
   (try clear F); clear e0 e3 e
   rintro m e h' ⟨i, hi, rfl, hall, rfl, e0, e3, e4⟩
   by_cases hli : i < list.length
   · have hz2 : list[i]? = some list[i] := Z2 hli
     have hbf := hbel _ (Z7 hli)
     rw [Ze hli, List.all_cons] at hall
     generalize list[i] = f at hz2 hbf hall
     have wi : IntKind.i64.wrap ((i : Int) + 1) = ((i + 1 : Nat) : Int) := IntWalk.i64_in _ (by omega)
     cases hbv : V6 x.clock f.clock <;> rw [hbv] at hbf hall
     · skip
       have F : _ ∧ _ ∧ _ ∧ _ := ⟨e0, e3, e4, wi⟩
       repeat' first
        | (with_reducible refine Yc ?_; refine Y8 mixd (by kernel_rfl) ?_)
        | refine gg ?_
        | refine Two.mk (fun hq => ?_) fun hq => ?_
        | (with_reducible refine X6 ?_; refine aq2 rfl rfl rfl Yp4 (hbf _) ?_)
        | (exfalso; omega)
       exact ⟨rfl, list.length - (i + 1), by omega, i + 1, hli, rfl, hall, rfl, e0, e3, rfl⟩
     · rw [hall] at ho
       have F : _ ∧ _ ∧ _ ∧ _ := ⟨e0, e3, e4, wi⟩
       repeat' first
        | (with_reducible refine Yc ?_; refine Y8 mixd (by kernel_rfl) ?_)
        | refine gg ?_
        | refine Two.mk (fun hq => ?_) fun hq => ?_
        | (with_reducible refine X6 ?_; refine aq2 rfl rfl rfl Yp4 (hbf _) ?_)
        | (exfalso; omega)
       exact ⟨.inr rfl, endD (r := .v (.bool false)) hl0 rfl (by simp) (by simp) rfl (by rw [low]; trivial) ⟨rfl, by rw [ho]; rfl⟩⟩
   · rw [Z6 (by omega)] at hall
     rw [hall] at ho
     have F : _ ∧ _ ∧ _ ∧ _ := ⟨e0, e3, e4, wk⟩
     repeat' first
      | (with_reducible refine Yc ?_; refine Y8 mixd (by kernel_rfl) ?_)
      | refine gg ?_
      | refine Two.mk (fun hq => ?_) fun hq => ?_
      | refine Evry.mk fun x hx => ?_
      | (exfalso; omega)
     exact ⟨rfl, list.length - (j + 1 + 1), by omega, j + 1 + 1, by omega, rfl, ho, rfl, e0, rfl⟩
end
section
attribute [local irreducible] on aOp
attribute [local go_sem] decide_true decide_false Zq Zo
attribute [local simp] byD_len
variable (G : Nat → D) (hG : ∀ g, low 0 (G g))
include hG
attribute [local go_sem] Zi Zj Zk Zc Zn Z8 Zl Z9 Z5 Za Zb Z3 Zf Z0 Z1 Zg kM_0 kM_1 kM_2 kM_3 Yb5 kM_l kM_l2 kM_l3 Zq2 kM_s1 kM_s2 kM_s3 kM_sl V9 J0
attribute [local go_sem ↓] reduceIte
theorem least_d (f : Nat) : ∀ l : Lat, SizeOf.sizeOf l ≤ f → WfL l → ∀ h : List Ob, Does Zd G 68 h [.agg (latX l)] (fun h' r => h' = h ∧ r = .agg (vaX (botV l))) := by
 induction f with
 | zero => intro l hn; cases l; simp at hn
 | succ f ih =>
 intro l hn hwf h
 refine Y9 G hG (Wu _ l) (by rw [low]; exact Yb _ _) ?_ h
 clear h
 obtain ⟨hk0, hk5, hk7, hk6, _⟩ := hwf.kinds
 have hpl : l.kind = 6 ∨ l.kind = 7 → l.parts.length ≤ 8 := fun q => by rcases q with q | q; have := hk6 q; omega; have := hk7 q; omega
 have hpp : ∀ p ∈ l.parts, ∀ h, Does Zd G 68 h [.agg (latX p)] (fun h' r => h' = h ∧ r = .agg (vaX (botV p))) := fun p hp => ih p (by have := Yu hp; omega) (hwf.part hp)
 apply Does.weak
 refine Y6 Tryz.func68 rfl (Z4 rfl) hG fun hl0 _ => ?_
 simp only [Tryz.ntmps68]
 by_cases h6 : l.kind = 6 ∨ l.kind = 7
 rotate_left
 · have hb : ∃ n : Int, botV l = .mk n [] [] [] ∧ (l.kind = 2 → n = l.lo) ∧ (l.kind = 3 → n = l.hi) ∧ (l.kind ≠ 2 → l.kind ≠ 3 → n = 0) := by
    by_cases h2 : l.kind = 2
    · exact ⟨_, bot_2 h2, fun _ => rfl, fun q => by omega, fun q => absurd h2 q⟩
    by_cases h3 : l.kind = 3
    · exact ⟨_, bot_3 h3, fun q => by omega, fun _ => rfl, fun _ q => absurd h3 q⟩
    · exact ⟨_, bot_0 h2 h3 (by omega) (by omega), fun q => by omega, fun q => by omega, fun _ _ => rfl⟩
   obtain ⟨n, hb, b2, b3, b0⟩ := hb
   rw [hb, va_mk]
   have h6a : ¬ l.kind = 6 := by omega
   have h7a : ¬ l.kind = 7 := by omega
   by_cases h2 : l.kind = 2
   · obtain rfl := b2 h2
     have F : _ ∧ _ := ⟨Y4 l, h2⟩
     repeat' first
      | refine g0 ?_
      | fail
     all_goals exact ⟨.inr rfl, endD (ds := [.agg [.v (.int .i64 l.lo), .v (.slice none 0 0), .v (.slice none 0 0), .v (.slice none 0 0)]]) (r := .agg [.v (.int .i64 l.lo), .v (.slice none 0 0), .v (.slice none 0 0), .v (.slice none 0 0)]) hl0 (by simp only [resD, Tryz.results68, go_sem, ↓reduceIte, Z0, Z3, Z1]; try rfl) (by simp) (by simp) (by simp [outD, cvD, cv1]) (by simp [low, lowL]) ⟨_, ⟨rfl, rfl⟩, Zt6 _ _ _ X7⟩⟩
   by_cases h3 : l.kind = 3
   · obtain rfl := b3 h3
     have F : _ ∧ _ := ⟨Y4 l, h3⟩
     repeat' first
      | refine g0 ?_
      | fail
     all_goals exact ⟨.inr rfl, endD (ds := [.agg [.v (.int .i64 l.hi), .v (.slice none 0 0), .v (.slice none 0 0), .v (.slice none 0 0)]]) (r := .agg [.v (.int .i64 l.hi), .v (.slice none 0 0), .v (.slice none 0 0), .v (.slice none 0 0)]) hl0 (by simp only [resD, Tryz.results68, go_sem, ↓reduceIte, Z0, Z3, Z1]; try rfl) (by simp) (by simp) (by simp [outD, cvD, cv1]) (by simp [low, lowL]) ⟨_, ⟨rfl, rfl⟩, Zt6 _ _ _ X7⟩⟩
   · obtain rfl := b0 h2 h3
     have F : _ ∧ _ ∧ _ ∧ _ ∧ _ := ⟨Y4 l, h2, h3, h6a, h7a⟩
     repeat' first
      | refine g0 ?_
      | fail
     all_goals exact ⟨.inr rfl, endD (ds := [.agg nilV]) (r := .agg nilV) hl0 (by simp only [resD, Tryz.results68, go_sem, ↓reduceIte, Z0, Z3, Z1]; rfl) (by simp) (by simp) (by simp [outD, cvD, cv1, nilV]) (by simp [low, lowL, nilV]) ⟨_, ⟨rfl, rfl⟩, Zt6 _ _ _ X7⟩⟩
 have hpl := hpl h6
 rw [bot_67 h6, va_mk]
 have h2a : ¬ l.kind = 2 := by omega
 have h3a : ¬ l.kind = 3 := by omega
 rcases h6 with h6 | h6
 all_goals
  skip
  have F : _ ∧ _ := ⟨Y4 l, h6⟩
  repeat' first
   | refine g0 ?_
   | fail
  refine Uf 30 4 2 [.v (.int .i64 0), .v (.slice none 0 0)] [.v (.slice none 0 0)] rfl ?_
  refine Yh (fun m e h' => ∃ (k : Nat) (T : List Ob), k ≤ l.parts.length ∧ m = l.parts.length - k ∧ h' = kM (.cells (latX l)) (.cells nilV) (.cells [.v (.int .i64 0), .v (.slice none 0 0), .buf 3 k, .v (.slice none 0 0)]) (.buf 30 4 (((l.parts.take k).map botV).map vaX)) T ∧ e 1 = .ptr 0 0 ∧ e 2 = .ptr 1 0 ∧ e 3 = .ptr 2 0 ∧ e 4 = .v (.int .i64 k)) l.parts.length ⟨0, [], Zh _, rfl, by rw [Y4 l, h6]; rfl, rfl, rfl, rfl, rfl⟩ ?_
  rintro m e h' ⟨k, T, hk, rfl, rfl, e1, e2, e3, e4⟩
  by_cases hlt : k < l.parts.length
  rotate_left
  · obtain rfl : k = l.parts.length := by omega
    rw [List.take_length]
    repeat' first
     | (with_reducible first | refine sA rfl ?_ | refine sI rfl rfl ?_ | refine sT rfl ?_ | refine sB rfl ?_)
     | (with_reducible refine Yc ?_; first | refine Y8 mixd (by kernel_rfl) ?_)
     | (with_reducible refine Y7 ?_; first | refine Yn ?_ | (refine ao1 rfl rfl fun K HK => ?_; simp only [go_sem, Y4 l, e1, e2, e3, e4, nilV]; (first | refine Ym (fun hq => ?_) (fun hq => ?_) | (refine ⟨by omega, by omega, ?_⟩; intro row hrow; obtain ⟨x, hx, rfl⟩ := Vr hrow; clear hrow) | skip) <;> (refine HK _ _ ?_; clear HK K)) | (refine ao1' rfl fun K HK => ?_; simp only [go_sem, Y4 l, e1, e2, e3, e4, nilV]; refine HK _ _ ?_; clear HK K))
     | (with_reducible refine X6 ?_; first | (refine aq1 rfl rfl fun K HK => ?_; simp only [go_sem, Y4 l, e1, e2, e3, e4, nilV]; (first | refine Ym (fun hq => ?_) (fun hq => ?_) | (refine ⟨by omega, by omega, ?_⟩; intro row hrow; obtain ⟨x, hx, rfl⟩ := Vr hrow; clear hrow) | skip) <;> (refine HK _ _ rfl ?_; clear HK K)))
     | (exfalso; omega)
    exact ⟨.inr rfl, endD (ds := [.agg [.v (.int .i64 0), .v (.slice none 0 0), .buf 3 l.parts.length, .v (.slice none 0 0)]]) (r := .agg [.v (.int .i64 0), .v (.slice none 0 0), .sl 4 ((l.parts.map botV).map vaX), .v (.slice none 0 0)]) hl0 (by simp only [resD, Tryz.results68, go_sem, ↓reduceIte, Z0, Z3, Z1, e2, kM_1]; try rfl) (by simp) (by simp) (by simp [outD, cvD, cv1, kM]) (by rw [low]; simp only [lowL]; exact ⟨by simp [low], by simp [low], Ji _ _, by simp [low], trivial⟩) ⟨_, ⟨rfl, rfl⟩, Zt6 _ _ _ (W7 _)⟩⟩
  have hx : l.parts[k]? = some l.parts[k] := Z2 hlt
  have wk : IntKind.i64.wrap ((k : Int) + 1) = ((k + 1 : Nat) : Int) := IntWalk.i64_in _ (by omega)
  have htk : (l.parts.take (k + 1)).map botV = (l.parts.take k).map botV ++ [botV l.parts[k]] := by rw [List.take_add_one, hx, Zr]; rfl
  have hbp := hpp _ (Z7 hlt)
  generalize l.parts[k] = x at hx hbp htk
  have hlr : (((l.parts.take k).map botV).map vaX).length = k := by rw [Z5, Z5, Zt, Nat.min_eq_left hk]
  simp only [Y4 x] at hbp
  generalize botV x = bx at hbp htk
  have hro : Yz 4 [vaX bx] := fun row hr => by simp only [List.mem_singleton] at hr; subst hr; exact ⟨V9 bx, List.all_eq_true.1 (Zv6 bx)⟩
  have F : _ ∧ _ ∧ _ ∧ _ ∧ _ ∧ _ ∧ _ := ⟨Y4 x, Y4 l, e1, e2, e3, e4, wk⟩
  repeat' first
   | (with_reducible refine Yc ?_; refine Xc mixd (by kernel_rfl) ?_)
   | ((with_reducible refine Up ?_); first | (refine Zd7 rfl rfl rfl rfl (by (simp only [go_sem, F]; rfl)) hlr (by simp only [go_sem, F]; rfl) (by (simp only [go_sem, F]; rfl)) (by simp) hro (by first | omega | (simp; omega)) ?_) | (refine aS1 rfl rfl fun K HK => ?_; simp only [go_sem, F]; (first | refine Ym (fun hq => ?_) (fun hq => ?_) | (refine ⟨by omega, by omega, ?_⟩; refine Yo (by assumption) ?_) | skip) <;> (refine HK _ _ rfl ?_; clear HK K)) | refine Xs rfl rfl rfl (by (simp only [go_sem, F]; rfl)) (by rw [getD_one (by simp only [go_sem, F])]; rfl) ?_ | refine Ui rfl rfl (by (simp only [go_sem, F]; rfl)) rfl (by simp only [go_sem, F]) (by simp) ?_ | refine Jp rfl rfl (by simp only [litD, Wb, go_sem, Z9, Za, Zw, Zu, and_self, ↓reduceIte, Z0, Z3, Z1, Zf, Zg, Zi, Zk, Zj, Y4 x, Y4 l, e1, e2, e3, e4, Z5, Zc, wk, kM_0, kM_1, kM_2, kM_3, kM_s1, kM_s2, kM_s3, Zq2, Yb5, kM_l, kM_sl, kM_l2, kM_l3, V9, J0, Zn, Z8, Zb, Zl, Z9, Za]; rfl) ?_ | refine V2 (by simp only [Zs, Zv, Zb, Z8, Wd, chk1]; repeat' (first | exact trivial | refine And.intro ?_ ?_ | exact .inr Yw | exact .inr X0 | exact .inr X4 | exact .inr (Wt (by omega)) | (refine .inr ?_; simp [compat, Wl, V8, Vs, nop, Zq2, V9] <;> omega) | exact .inl (by kernel_rfl))) ?_ | refine Ys rfl rfl rfl ent_68 (fun h2 => hbp _) ?_)
   | refine gg ?_
   | refine Two.mk (fun hq => ?_) fun hq => ?_
   | (exfalso; omega)
  exact ⟨rfl, l.parts.length - (k + 1), by omega, k + 1, _, hlt, rfl, (by rw [Y4 l, htk, Zr]; rfl), e1, e2, e3, rfl⟩
end
end Go.Proofs.YtbhkcbidcfofiaaGreat
