/-
  What the statements of the chapter share, part 21: LB4, LG1, RWG.
-/
import Derived.Test.YtgkjcmglcnhpaaaGreatDoorT13
import Derived.Test.YtgkjcmglcnhpaaaGreatDoorT14
import Derived.Test.YtgkjcmglcnhpaaaGreatDoorT19
import Derived.Test.YtgkjcmglcnhpaaaGreatDoorT20
set_option linter.unusedVariables false
set_option linter.unusedSimpArgs false
set_option maxRecDepth 100000
set_option maxHeartbeats 8000000
namespace Go.Proofs.YtgkjcmglcnhpaaaGreatDoor
open _root_.Int renaming reduceEq → Z6, reduceLT → Z7, reduceLE → Z8, toNat_natCast → Zg
open _root_.List renaming nil_append → Z9, length_nil → Za, cons_append → Zb, length_cons → Zc, length_map → Zd, getElem?_append_right → Zh, getElem?_eq_getElem → Zi, drop_eq_nil_of_le → Zj, drop_eq_getElem_cons → Zk
open _root_.Nat renaming reduceEqDiff → Z0, reduceLeDiff → Z1, reduceAdd → Z2, reduceBEq → Z3, reduceMul → Z4, add_zero → Ze, le_of_ble_eq_true → Zf
open _root_.Go.Proofs.Tryz renaming prog → Z5
open Go.RowKit
section
attribute [local irreducible] on aOp
attribute [local go_sem] decide_true decide_false Bool.not_true Bool.not_false
attribute [local simp] byD_len
def ctr (n : Nat) : Ob := .cells [.v (.int .i64 n)]
def cM (h : List Ob) (i n : Nat) (T : List Ob) : List Ob := h.set i (ctr n) ++ T
section
variable {h T l : List Ob} {i n m : Nat} {y z y' : Ob}
theorem cM_0 (hi : i < h.length) : (cM h i n T)[i]? = some (.cells [.v (.int .i64 n)]) := by
 unfold cM; rw [List.getElem?_append_left (by simpa using hi), List.getElem?_set_self hi]; rfl
theorem cM_s (hi : i < h.length) : (cM h i n T).set i (.cells [.v (.int .i64 ((m : Nat) : Int))]) = cM h i m T := by
 unfold cM; rw [List.set_append_left _ _ (by simpa using hi), List.set_set]; rfl
theorem cM_s' (hi : i < h.length) : (cM h i n T).set i (ctr m) = cM h i m T := cM_s hi
theorem Uo : (cM h i n T).length = h.length + T.length := by unfold cM; simp
theorem Ur : cM h i n T ++ l = cM h i n (T ++ l) := by unfold cM; rw [List.append_assoc]
theorem cM_b : (cM h i n (y :: T))[h.length]? = some y := by unfold cM; rw [Zh (by simp)]; simp
theorem cM_b1 : (cM h i n (y :: z :: T))[h.length + 1]? = some z := by unfold cM; rw [Zh (by simp)]; simp
theorem Zv2 : (cM h i n (y :: z :: T)).set (h.length + 1) y' = cM h i n (y :: y' :: T) := by unfold cM; rw [List.set_append_right _ _ (by simp)]; simp
theorem cM_ext (hi : i < h.length) : cM (h ++ T) i n [] = cM h i n T := by unfold cM; rw [List.set_append_left _ _ hi, List.append_nil]
theorem cM_l : (cM h i n (y :: (T ++ [z])))[h.length + (T.length + 1)]? = some z := by unfold cM; rw [Zh (by simp)]; simp
theorem cM_sl : (cM h i n (y :: (T ++ [z]))).set (h.length + (T.length + 1)) y' = cM h i n (y :: (T ++ [y'])) := by unfold cM; rw [List.set_append_right _ _ (by simp)]; simp
end
theorem endC {P : Program} {res : Array ResultVar} {h T : List Ob} {i n m : Nat} {K : List Ob → D → Prop} {s : S} {x : Value} (hi : i < h.length) (hl : lowH (cM h i n []).length (cM h i n [])) (h1 : resD P s res.toList = some [.v x]) (h2 : s.h = cM h i m T) (hK : K (cM h i m []) (.v x)) : EndD P res (cM h i n []).length K s := by
 have e : cM h i m [] = (cM h i n []).set i (ctr m) := (cM_s' hi).symm
 have hlen : (cM h i m []).length = (cM h i n []).length := by rw [Uo, Uo]
 refine endX [.v x] (cM h i m []) T (.v x) h1 (by rw [h2, Ur]; rfl) (by rw [hlen]; exact Nat.le_refl _) ?_ (by rw [low]; trivial) rfl hK
 rw [hlen, e]
 exact lowH_set hl (by simp [ctr, Zp4, lowL, low])
theorem whenI_f (e : Int) : Jp false e = 0 := rfl
theorem whenI_t (e : Int) : Jp true e = e := rfl
theorem visit_succ (f : Nat) (l : Lat) (n : Nat) : U4 (f + 1) l n = if 64 ≤ n then (6, n) else if Zb7 l then (1, n + 1) else if latE l ≠ 0 then (latE l, n + 1) else goL (U4 f) l.parts (n + 1) := rfl
theorem latE_eq (l : Lat) : latE l = orI [Jp (Zm5 l) 6, Jp (spellB l) 3, Jp (Zs3 l) 5, Jp (Zg7 l) 4] := rfl
variable (G : Nat → D) (hG : ∀ g, low 0 (G g))
include hG
theorem orE4_b (l : List Int) (hl : l.length ≤ 1000) (h : List Ob) (i : Nat) (hi : h[i]? = some (.buf 34 1 (l.map intX))) : Does Z5 G 59 h [.buf i l.length] (fun h' r => h' = h ∧ r = .v (.int .i64 (orI l))) := by
 refine Y7 Tryz.func59 rfl (Zf rfl) hG fun hl0 _ => ?_
 simp only [Tryz.ntmps59]
 repeat' first
  | (with_reducible first | refine sA rfl ?_ | refine sT rfl ?_)
  | (with_reducible refine Y9 ?_; first | refine Y5 ?_ | (refine ao1 rfl rfl fun K HK => ?_; simp only [go_sem, ↓reduceIte, Z0, Z2, Z1, Z3, Z4, Z6, Z7, Z8, hi] <;> (refine HK _ _ ?_; clear HK K)))
 refine Yp (fun m e h' => ∃ k : Nat, k ≤ l.length ∧ m = l.length - k ∧ orI l = orI (l.drop k) ∧ h' = h ∧ e 3 = .v (.int .i64 0) ∧ e 6 = .buf i l.length ∧ e 7 = .v (.int .i64 l.length) ∧ e 8 = .v (.int .i64 k)) l.length ⟨0, Nat.zero_le _, rfl, rfl, rfl, rfl, rfl, rfl, rfl⟩ ?_
 rintro m e h' ⟨k, hk, rfl, ho, rfl, e3, e6, e7, e8⟩
 by_cases hlt : k < l.length
 · have hx : l[k]? = some l[k] := Zi hlt
   have hd : l.drop k = l[k] :: l.drop (k + 1) := Zk hlt
   generalize l[k] = x at hx hd
   have wk : IntKind.i64.wrap ((k : Int) + 1) = (k : Int) + 1 := IntWalk.i64_in _ (by omega)
   rw [hd, orI] at ho
   have hrow : (l.map intX)[k]? = some [.v (.int .i64 x)] := by rw [List.getElem?_map, hx]; rfl
   repeat' first
    | (with_reducible first | refine sA rfl ?_ | refine sI rfl rfl ?_ | refine sT rfl ?_ | refine sB rfl ?_)
    | (with_reducible refine Y9 ?_; first | (refine ao1 rfl rfl fun K HK => ?_; simp only [go_sem, e6, e8, ↓reduceIte, Z0]; refine ⟨_, _, _, hi, by simp, by simp only [go_sem], by omega, by omega, ?_⟩; refine HK _ _ ?_; clear HK K) | refine Y5 ?_ | (refine ao1 rfl rfl fun K HK => ?_; simp only [go_sem, ↓reduceIte, Z0, Z2, Z1, Z3, Z4, Z6, Z7, Z8, hi, Yn4 hi (Zd _) hrow, Zd, e3, e6, e7, e8, Zt1, Zg, wk]; (first | refine Y8 (fun hq => ?_) (fun hq => ?_) | refine V5 (fun hq => ?_) (fun hq => ?_) | skip) <;> (refine HK _ _ ?_; clear HK K)))
    | (exfalso; omega)
   · exact ⟨rfl, l.length - (k + 1), by omega, k + 1, hlt, rfl, by rw [ho, if_pos hq], rfl, e3, e6, e7, rfl⟩
   · exact ⟨by simp, endV hl0 rfl rfl ⟨rfl, by rw [ho, if_neg hq]⟩⟩
 · skip
   repeat' first
    | (with_reducible first | refine sA rfl ?_ | refine sI rfl rfl ?_ | refine sT rfl ?_ | refine sB rfl ?_)
    | (with_reducible refine Y9 ?_; first | refine Y5 ?_ | (refine ao1 rfl rfl fun K HK => ?_; simp only [go_sem, ↓reduceIte, Z0, Z2, Z1, Z3, Z4, Z6, Z7, Z8, hi, Zd, e3, e6, e7, e8]; (first | refine Y8 (fun hq => ?_) (fun hq => ?_) | skip) <;> (refine HK _ _ ?_; clear HK K)))
    | (exfalso; omega)
   exact ⟨by simp, endV hl0 rfl rfl ⟨rfl, by rw [ho, Zj (by omega)]; rfl⟩⟩
theorem orE4_s (a b c d : Int) (o : Int) (ho : orI [a, b, c, d] = o) (h : List Ob) (i : Nat) (hi : h[i]? = some (.buf 34 1 [[.v (.int .i64 a)], [.v (.int .i64 b)], [.v (.int .i64 c)], [.v (.int .i64 d)]])) : Does Z5 G 59 h [.buf i 4] (fun h' r => h' = h.set i (.buf 34 1 [[.v (.int .i64 a)], [.v (.int .i64 b)], [.v (.int .i64 c)], [.v (.int .i64 d)]]) ∧ r = .v (.int .i64 o)) := by
 rw [Ui hi, ← ho]; exact orE4_b G hG [a, b, c, d] (by simp) h i hi
theorem visit_c : ∀ (f : Nat) (l : Lat) (n : Nat) (d : Int), f ≤ 6 → d = 7 - f → Sm l → n ≤ 64 → ∀ (h : List Ob) (i : Nat), i < h.length → Does Z5 G 77 (cM h i n []) [.ptr i 0, .agg (latX l), .v (.int .i64 d)] (fun h' r => h' = cM h i (U4 f l n).2 [] ∧ r = .v (.int .i64 (U4 f l n).1)) := by
 intro f
 induction f with
 | zero =>
   intro l n d hf hd hsm hn h i hi
   obtain rfl : d = 7 := by omega
   refine Y7 Tryz.func77 rfl (Zf rfl) hG fun hl0 _ => ?_
   simp only [Tryz.ntmps77]
   repeat' first
    | (with_reducible first | refine sA rfl ?_ | refine sI rfl rfl ?_ | refine sT rfl ?_)
    | (with_reducible refine Y9 ?_; first | refine Y5 ?_ | (refine ao1 rfl rfl fun K HK => ?_; (first | refine Y6 rfl ?_ | skip); simp only [go_sem, ↓reduceIte, Z0, Z2, Z1, Z3, Z4, Z6, Z7, Z8, Y4 l, Ur, Uo, Z9, Za, Ze] <;> (refine HK _ _ ?_; clear HK K)) | refine ao0 rfl rfl ?_)
   exact ⟨.inr rfl, endC (x := .int .i64 6) (m := n) hi hl0 rfl rfl ⟨rfl, rfl⟩⟩
 | succ f ih =>
   intro l n d hf hd hsm hn h i hi
   obtain rfl : d = 6 - f := by omega
   have hsh := shape_d G hG l hsm
   have hli := limits_d G hG l hsm
   have hsp := spelling_d G hG l hsm
   have hra := ranges_d G hG l
   have hcs := chains_d G hG l hsm
   have hpl := hsm.parts
   have h7 := shapeB_lex l
   rw [visit_succ, latE_eq]
   simp only [Y4 l] at hsh hli hsp hra hcs
   generalize Jp (Zm5 l) 6 = v1 at *
   generalize Jp (spellB l) 3 = v2 at *
   generalize Jp (Zs3 l) 5 = v3 at *
   generalize Jp (Zg7 l) 4 = v4 at *
   generalize Zb7 l = sb at *
   by_cases h64 : 64 ≤ n
   · rw [if_pos h64]
     refine Y7 Tryz.func77 rfl (Zf rfl) hG fun hl0 _ => ?_
     simp only [Tryz.ntmps77]
     repeat' first
      | (with_reducible first | refine sA rfl ?_ | refine sI rfl rfl ?_ | refine sT rfl ?_)
      | (with_reducible refine Y9 ?_; first | refine Y5 ?_ | (refine ao1 rfl rfl fun K HK => ?_; (first | refine Y6 rfl ?_ | skip); simp only [go_sem, ↓reduceIte, Z0, Z2, Z1, Z3, Z4, Z6, Z7, Z8, Y4 l, cM_0 hi, Ur, Uo, Z9, Za, Ze]; (first | refine Y8 (fun hq => ?_) (fun hq => ?_) | skip) <;> (refine HK _ _ ?_; clear HK K)) | refine ao0 rfl rfl ?_ | (refine ao1' rfl fun K HK => ?_; simp only [go_sem, ↓reduceIte, Z0, Z2, Z1, Z3, Z4, Z6, Z7, Z8, Y4 l, cM_0 hi, Ur, Uo, Z9, Za, Ze]; refine HK _ _ ?_; clear HK K))
      | (exfalso; omega)
     all_goals first | (exfalso; omega) | exact ⟨.inr rfl, endC (x := .int .i64 6) (m := n) hi hl0 rfl rfl ⟨rfl, rfl⟩⟩
   rw [if_neg h64]
   have wn : IntKind.i64.wrap ((n : Int) + 1) = ((n + 1 : Nat) : Int) := IntWalk.i64_in _ (by omega)
   refine Y7 Tryz.func77 rfl (Zf rfl) hG fun hl0 _ => ?_
   simp only [Tryz.ntmps77]
   cases sb
   all_goals simp only [whenI_f, whenI_t] at hsh
   rotate_left
   · rw [if_pos rfl]
     repeat' first
      | (with_reducible first | refine sA rfl ?_ | refine sI rfl rfl ?_ | refine sT rfl ?_)
      | (with_reducible refine Y9 ?_; first | refine Y5 ?_ | (refine ao1 rfl rfl fun K HK => ?_; (first | refine Y6 rfl ?_ | skip); simp only [go_sem, ↓reduceIte, Z0, Z2, Z1, Z3, Z4, Z6, Z7, Z8, Y4 l, cM_0 hi, Ur, Uo, cM_s hi, cM_b, Z9, Za, Ze, wn]; (first | refine Y8 (fun hq => ?_) (fun hq => ?_) | skip) <;> (refine HK _ _ ?_; clear HK K)) | refine ao0 rfl rfl ?_ | (refine ao2 rfl rfl rfl ent_103 (hsh _) ?_; rintro _ _ ⟨rfl, rfl⟩) | (refine ao1' rfl fun K HK => ?_; simp only [go_sem, ↓reduceIte, Z0, Z2, Z1, Z3, Z4, Z6, Z7, Z8, Y4 l, cM_0 hi, Ur, Uo, cM_s hi, cM_b, Z9, Za, Ze, wn]; refine HK _ _ ?_; clear HK K))
      | (exfalso; omega)
     all_goals first | (exfalso; omega) | exact ⟨.inr rfl, endC (x := .int .i64 1) (m := n + 1) hi hl0 rfl rfl ⟨rfl, rfl⟩⟩
   rw [if_neg Bool.false_ne_true]
   have hcs := hcs (h7 rfl)
   generalize hor : orI [v1, v2, v3, v4] = o at *
   have hor2 := orE4_s G hG v1 v2 v3 v4 o hor
   repeat' first
    | (with_reducible first | refine sA rfl ?_ | refine sI rfl rfl ?_ | refine sT rfl ?_)
    | (with_reducible refine W2 ?_; first | refine W3 mixd (by kernel_rfl) ?_)
    | (with_reducible refine Y9 ?_; first | refine Y5 ?_ | (refine ao1 rfl rfl fun K HK => ?_; (first | refine Y6 rfl ?_ | skip); simp only [go_sem, ↓reduceIte, Z0, Z2, Z1, Z3, Z4, Z6, Z7, Z8, Y4 l, cM_0 hi, Ur, Uo, cM_s hi, cM_b, cM_b1, Zv2, Z9, Zb, Za, Zc, Ze, wn]; (first | refine Y8 (fun hq => ?_) (fun hq => ?_) | refine V5 (fun hq => ?_) (fun hq => ?_) | skip) <;> (refine HK _ _ ?_; clear HK K)) | refine ao0 rfl rfl ?_ | (refine ao2 rfl rfl rfl ent_103 (hsh _) ?_; rintro _ _ ⟨rfl, rfl⟩) | (refine ao1' rfl fun K HK => ?_; simp only [go_sem, ↓reduceIte, Z0, Z2, Z1, Z3, Z4, Z6, Z7, Z8, Y4 l, cM_0 hi, Ur, Uo, cM_s hi, cM_b, cM_b1, Zv2, Z9, Zb, Za, Zc, Ze, wn]; refine HK _ _ ?_; clear HK K))
    | ((with_reducible refine Yc7 ?_); first | (refine Ws rfl rfl rfl (by (first | (simp only [go_sem, ↓reduceIte, Z0, Z2, Z1, Z3, Z4, Z6, Z7, Z8, Y4 l, cM_0 hi, Ur, Uo, cM_s hi, cM_b, cM_b1, Zv2, Z9, Zb, Za, Zc, Ze, wn]; rfl) | (simp only [go_sem, ↓reduceIte, Z0, Z2, Z1, Z3, Z4, Z6, Z7, Z8, Y4 l, cM_0 hi, Ur, Uo, cM_s hi, cM_b, cM_b1, Zv2, Z9, Zb, Za, Zc, Ze, wn]; done))) (by rw [getD_agg' aggT_31, szT_31]; rfl) ?_) | (refine aS1 rfl rfl fun K HK => ?_; (first | refine Y6 rfl ?_ | skip); simp only [go_sem, ↓reduceIte, Z0, Z2, Z1, Z3, Z4, Z6, Z7, Z8, Y4 l, cM_0 hi, Ur, Uo, cM_s hi, cM_b, cM_b1, Zv2, Z9, Zb, Za, Zc, Ze, wn]; (first | refine Y8 (fun hq => ?_) (fun hq => ?_) | refine V5 (fun hq => ?_) (fun hq => ?_) | skip) <;> (refine HK _ _ rfl ?_; clear HK K)) | refine Ze4 rfl rfl (by simp only [litD, Wv, go_sem, Zc, Za, Option.map_some, Option.bind_some, and_self, ↓reduceIte, Z0, Z2, Z1, Z3, Z4, Z6, Z7, Z8, Y4 l, cM_0 hi, Ur, Uo, cM_s hi, cM_b, cM_b1, Zv2, Z9, Zb, Za, Zc, Ze, wn]; rfl) ?_ | refine Us (by simp only [List.reverse_cons, List.reverse_nil, Z9, Zb, Vo, chk1]; repeat' (first | exact trivial | refine And.intro ?_ ?_ | exact .inr Xg | exact .inr Xr | exact .inr Ww | exact .inl (by kernel_rfl))) ?_ | refine Xn rfl rfl rfl ent_104 (fun h2 => hli _) ?_ | refine Xn rfl rfl rfl ent_105 (fun h2 => hsp _) ?_ | refine Xn rfl rfl rfl ent_106 (fun h2 => hra _) ?_ | refine Xn rfl rfl rfl ent_107 (fun h2 => hcs _) ?_ | refine U0 rfl rfl rfl ent_59 (by (first | (simp only [go_sem, ↓reduceIte, Z0, Z2, Z1, Z3, Z4, Z6, Z7, Z8, Y4 l, cM_0 hi, Ur, Uo, cM_s hi, cM_b, cM_b1, Zv2, Z9, Zb, Za, Zc, Ze, wn]; rfl) | (simp only [go_sem, ↓reduceIte, Z0, Z2, Z1, Z3, Z4, Z6, Z7, Z8, Y4 l, cM_0 hi, Ur, Uo, cM_s hi, cM_b, cM_b1, Zv2, Z9, Zb, Za, Zc, Ze, wn]; done))) (fun h2 k2 => hor2 h2 _ k2) ?_)
    | (exfalso; omega)
   · obtain rfl : o = 0 := by assumption
     rw [if_neg (fun q => q rfl)]
     refine Yp (fun m e h' => ∃ (k c : Nat) (T : List Ob), k ≤ l.parts.length ∧ m = l.parts.length - k ∧ c ≤ 64 ∧ goL (U4 f) l.parts (n + 1) = goL (U4 f) (l.parts.drop k) c ∧ h' = cM h i c (.cells (latX l) :: T) ∧ e 0 = .ptr i 0 ∧ e 2 = .v (.int .i64 (6 - f)) ∧ e 47 = .sl 6 (l.parts.map latX) ∧ e 48 = .v (.int .i64 l.parts.length) ∧ e 49 = .v (.int .i64 k)) l.parts.length ⟨0, n + 1, _, Nat.zero_le _, rfl, by omega, rfl, (by rw [Y4 l]), rfl, rfl, rfl, rfl, rfl⟩ ?_
     clear hsh hli hsp hra hcs hor2
     rintro m e h' ⟨k, c, T, hk, rfl, hc, ho, rfl, e0, e2, e47, e48, e49⟩
     by_cases hlt : k < l.parts.length
     rotate_left
     · have e1 : goL (U4 f) l.parts (n + 1) = (0, c) := by rw [ho, Zj (by omega)]; rfl
       rw [e1]
       repeat' first
        | (with_reducible first | refine sA rfl ?_ | refine sI rfl rfl ?_ | refine sT rfl ?_ | refine sB rfl ?_)
        | (with_reducible refine Y9 ?_; first | refine Y5 ?_ | (refine ao1 rfl rfl fun K HK => ?_; simp only [go_sem, ↓reduceIte, Z0, Z2, Z1, Z3, Z4, Z6, Z7, Z8, e0, e2, e47, e48, e49, Zd]; (first | refine Y8 (fun hq => ?_) (fun hq => ?_) | (refine ⟨by omega, by omega, ?_⟩; intro row hrow; obtain ⟨x, hx, rfl⟩ := Ym hrow; clear hrow) | skip) <;> (refine HK _ _ ?_; clear HK K)))
        | (exfalso; omega)
       exact ⟨.inr rfl, endC (x := .int .i64 0) (m := c) hi hl0 rfl rfl ⟨rfl, rfl⟩⟩
     have hx : l.parts[k]? = some l.parts[k] := Zi hlt
     have wk : IntKind.i64.wrap ((k : Int) + 1) = (k : Int) + 1 := IntWalk.i64_in _ (by omega)
     have wd : IntKind.i64.wrap (6 - (f : Int) + 1) = 6 - (f : Int) + 1 := IntWalk.i64_in _ (by omega)
     rw [goL_step _ _ k _ hlt] at ho
     have hr := fun TT : List Ob => ih l.parts[k] c (6 - (f : Int) + 1) (by omega) (by omega) (hsm.part _ (List.getElem_mem hlt)) hc (h ++ TT) i (by rw [List.length_append]; omega)
     simp only [cM_ext hi] at hr
     have hle := visit_le f l.parts[k] c hc
     generalize l.parts[k] = x at hx ho hr hle
     generalize U4 f x c = y at *
     obtain ⟨y1, y2⟩ := y
     simp only at ho hr hle
     simp only [Y4 x] at hr
     by_cases hy : y1 = 0
     · rw [if_neg (fun q => q hy)] at ho
       repeat' first
        | (with_reducible first | refine sA rfl ?_ | refine sI rfl rfl ?_ | refine sT rfl ?_ | refine sB rfl ?_)
        | (with_reducible refine Y9 ?_; first | refine Y5 ?_ | (refine ao1 rfl rfl fun K HK => ?_; simp only [go_sem, ↓reduceIte, Z0, Z2, Z1, Z3, Z4, Z6, Z7, Z8, Y4 x, Y4 l, e0, e2, e47, e48, e49, Zd, Zg, wk, wd, hy, Ur, Uo, cM_l, cM_sl, Zb, Zc]; (first | refine Y8 (fun hq => ?_) (fun hq => ?_) | (refine ⟨by omega, by omega, ?_⟩; refine Ya (by assumption) ?_) | skip) <;> (refine HK _ _ ?_; clear HK K)) | (refine ao2 rfl rfl rfl ent_77 (hr _) ?_; rintro _ _ ⟨rfl, rfl⟩) | (refine ao1' rfl fun K HK => ?_; simp only [go_sem, ↓reduceIte, Z0, Z2, Z1, Z3, Z4, Z6, Z7, Z8, Y4 x, Y4 l, e0, e2, e47, e48, e49, Zd, Zg, wk, wd, hy, Ur, Uo, cM_l, cM_sl, Zb, Zc]; refine HK _ _ ?_; clear HK K))
        | (exfalso; omega)
       exact ⟨rfl, l.parts.length - (k + 1), by omega, k + 1, y2, _, hlt, rfl, hle, ho, (by rw [Y4 l]), e0, e2, e47, e48, rfl⟩
     · rw [if_pos hy] at ho
       rw [ho]
       repeat' first
        | (with_reducible first | refine sA rfl ?_ | refine sI rfl rfl ?_ | refine sT rfl ?_ | refine sB rfl ?_)
        | (with_reducible refine Y9 ?_; first | refine Y5 ?_ | (refine ao1 rfl rfl fun K HK => ?_; simp only [go_sem, ↓reduceIte, Z0, Z2, Z1, Z3, Z4, Z6, Z7, Z8, Y4 x, Y4 l, e0, e2, e47, e48, e49, Zd, Zg, wk, wd, hy, Ur, Uo, cM_l, cM_sl, Zb, Zc]; (first | refine Y8 (fun hq => ?_) (fun hq => ?_) | (refine ⟨by omega, by omega, ?_⟩; refine Ya (by assumption) ?_) | skip) <;> (refine HK _ _ ?_; clear HK K)) | (refine ao2 rfl rfl rfl ent_77 (hr _) ?_; rintro _ _ ⟨rfl, rfl⟩) | (refine ao1' rfl fun K HK => ?_; simp only [go_sem, ↓reduceIte, Z0, Z2, Z1, Z3, Z4, Z6, Z7, Z8, Y4 x, Y4 l, e0, e2, e47, e48, e49, Zd, Zg, wk, wd, hy, Ur, Uo, cM_l, cM_sl, Zb, Zc]; refine HK _ _ ?_; clear HK K))
        | (exfalso; omega)
       exact ⟨.inr rfl, endC (x := .int .i64 y1) (m := y2) hi hl0 rfl rfl ⟨rfl, rfl⟩⟩
   · rw [if_pos (by assumption)]
     exact ⟨.inr rfl, endC (x := .int .i64 o) (m := n + 1) hi hl0 rfl rfl ⟨rfl, rfl⟩⟩
theorem check_d (l : Lat) (hsm : Sm l) (h : List Ob) : Does Z5 G 39 h [.agg (latX l)] (fun h' r => h' = h ∧ r = .v (.int .i64 (chkE l))) := by
 refine Yh G hG (Jt _ l) (by rw [low]; trivial) ?_ h
 clear h
 have hr : Does Z5 G 77 [.cells (latX l), .cells [.v (.int .i64 0)]] [.ptr 1 0, .agg (latX l), .v (.int .i64 1)] (fun h' r => h' = [.cells (latX l), .cells [.v (.int .i64 ((U4 6 l 0).2 : Nat))]] ∧ r = .v (.int .i64 (chkE l))) := visit_c G hG 6 l 0 1 (by omega) (by omega) hsm (by omega) [.cells (latX l), .dead] 1 (by simp)
 simp only [Y4 l] at hr
 generalize (U4 6 l 0).2 = m at *
 generalize chkE l = e at *
 refine Y7 Tryz.func39 rfl (Zf rfl) hG fun hl0 _ => ?_
 simp only [Tryz.ntmps39]
 repeat' first
  | (with_reducible first | refine sA rfl ?_ | refine sT rfl ?_)
  | (with_reducible refine Y9 ?_; first | refine Y5 ?_ | (refine ao1 rfl rfl fun K HK => ?_; simp only [go_sem, ↓reduceIte, Z0, Z2, Z1, Z3, Z4, Z6, Z7, Z8, Y4 l] <;> (refine HK _ _ ?_; clear HK K)) | (refine ao2 rfl rfl rfl ent_77 (hr) ?_; rintro _ _ ⟨rfl, rfl⟩) | (refine ao1' rfl fun K HK => ?_; simp only [go_sem, ↓reduceIte, Z0, Z2, Z1, Z3, Z4, Z6, Z7, Z8, Y4 l]; refine HK _ _ ?_; clear HK K))
 exact ⟨.inr rfl, endV hl0 rfl rfl ⟨rfl, rfl⟩⟩
end
section
attribute [local irreducible] on aOp
attribute [local go_sem] decide_true decide_false Bool.not_true Bool.not_false
attribute [local simp] byD_len
structure GenL where
 mode : Int
 replicas : Int
 founders : List Int
 clients : Int
 admins : List Int
 objects : List (ByteArray × Lat)
def gobX (o : ByteArray × Lat) : List D := .v (.string o.1) :: latX o.2
theorem Xp (o : ByteArray × Lat) : gobX o = [.v (.string o.1), .v (.int .i64 o.2.kind), .v (.int .i64 o.2.lo), .v (.int .i64 o.2.hi), .sl 1 (o.2.names.map strX), .sl 6 (o.2.parts.map latX), .sl 2 (o.2.rules.map Zz6)] := by rw [gobX, Y4]
def gnX (g : GenL) : List D := [.v (.int .i64 g.mode), .v (.int .i64 g.replicas), .sl 1 (g.founders.map intX), .v (.int .i64 g.clients), .sl 1 (g.admins.map intX), .sl 7 (g.objects.map gobX)]
theorem Xq (g : GenL) : gnX g = [.v (.int .i64 g.mode), .v (.int .i64 g.replicas), .sl 1 (g.founders.map intX), .v (.int .i64 g.clients), .sl 1 (g.admins.map intX), .sl 7 (g.objects.map gobX)] := rfl
theorem low_gob (m : Nat) (o : ByteArray × Lat) : lowL m (gobX o) := by rw [gobX, lowL]; exact ⟨by rw [low]; trivial, Zm4 m o.2⟩
theorem low_gn (m : Nat) (g : GenL) : lowL m (gnX g) := by
 have h1 : ∀ l : List Int, low m (.sl 1 (l.map intX)) := fun l => Uy m l fun _ _ => by simp [intX, lowL, low]
 have h2 : low m (.sl 7 (g.objects.map gobX)) := Uy m _ fun o _ => low_gob m o
 rw [gnX]; simp only [lowL]
 exact ⟨by rw [low]; trivial, by rw [low]; trivial, h1 _, by rw [low]; trivial, h1 _, h2, trivial⟩
structure GSm (g : GenL) : Prop where
 fo : g.founders.length ≤ 9223372036854775807
 ad : g.admins.length ≤ 9223372036854775807
 ob : g.objects.length ≤ 9223372036854775807
 na : ∀ o ∈ g.objects, o.1.size ≤ 9223372036854775807
 la : ∀ o ∈ g.objects, Sm o.2
def risP (below : Int) : Int → List Int → Bool
 | _, [] => true
 | p, x :: t => decide (0 ≤ x ∧ x < below ∧ p < x) && risP below x t
def Yg1 : List (ByteArray × Lat) → Int
 | [] => 0
 | o :: t => if chkE o.2 ≠ 0 then chkE o.2 else Yg1 t
def Zu6 (g : GenL) : Prop := (g.mode ≠ 1 ∧ g.mode ≠ 2) ∨ g.replicas < 1 ∨ 12 < g.replicas ∨ g.clients < 1 ∨ 6 < g.clients ∨ g.founders.length = 0 ∨ risP g.replicas (-1) g.founders = false ∨ risP g.clients (-1) g.admins = false
instance (g : GenL) : Decidable (Zu6 g) := inferInstanceAs (Decidable (_ ∨ _))
def genE (g : GenL) : Int := if Zu6 g then 1 else if 64 < g.objects.length then 6 else if Jc (g.objects.map (·.1)) = false then 3 else Yg1 g.objects
theorem genE_ok {g : GenL} (h : genE g = 0) : ¬ Zu6 g ∧ g.objects.length ≤ 64 ∧ Jc (g.objects.map (·.1)) = true ∧ Yg1 g.objects = 0 := by
 unfold genE at h
 by_cases h1 : Zu6 g
 · rw [if_pos h1] at h; exact absurd h (by decide)
 rw [if_neg h1] at h
 by_cases h2 : 64 < g.objects.length
 · rw [if_pos h2] at h; exact absurd h (by decide)
 rw [if_neg h2] at h
 cases h3 : Jc (g.objects.map (·.1))
 · rw [if_pos h3] at h; exact absurd h (by decide)
 · rw [if_neg (by rw [h3]; decide)] at h
   exact ⟨h1, by omega, rfl, h⟩
variable (G : Nat → D) (hG : ∀ g, low 0 (G g))
include hG
theorem rising_d (l : List Int) (below : Int) (hl : l.length ≤ 9223372036854775807) (h : List Ob) : Does Z5 G 37 h [.sl 1 (l.map intX), .v (.int .i64 below)] (fun h' r => h' = h ∧ r = .v (.bool (risP below (-1) l))) := by
 refine Y7 Tryz.func37 rfl (Zf rfl) hG fun hl0 _ => ?_
 simp only [Tryz.ntmps37]
 repeat' first
  | (with_reducible first | refine sA rfl ?_ | refine sT rfl ?_)
  | (with_reducible refine Y9 ?_; first | refine Y5 ?_ | (refine ao1 rfl rfl fun K HK => ?_; simp only [go_sem, ↓reduceIte, Z0, Z2, Z1, Z3, Z4, Z6, Z7, Z8, Zd] <;> (refine HK _ _ ?_; clear HK K)))
 refine Yp (fun m e h' => ∃ (k : Nat) (p : Int), k ≤ l.length ∧ m = l.length - k ∧ risP below (-1) l = risP below p (l.drop k) ∧ (k = 0 ∧ p = -1 ∨ ∃ j, k = j + 1 ∧ l[j]? = some p) ∧ h' = h ∧ e 0 = .sl 1 (l.map intX) ∧ e 1 = .v (.int .i64 below) ∧ e 7 = .sl 1 (l.map intX) ∧ e 8 = .v (.int .i64 l.length) ∧ e 9 = .v (.int .i64 k)) l.length ⟨0, -1, Nat.zero_le _, rfl, rfl, .inl ⟨rfl, rfl⟩, rfl, rfl, rfl, rfl, rfl, rfl⟩ ?_
 rintro m e h' ⟨k, p, hk, rfl, ho, hp, rfl, e0, e1, e7, e8, e9⟩
 by_cases hlt : k < l.length
 · have hx : l[k]? = some l[k] := Zi hlt
   have hd : l.drop k = l[k] :: l.drop (k + 1) := Zk hlt
   generalize l[k] = x at hx hd
   have wk : IntKind.i64.wrap ((k : Int) + 1) = ((k + 1 : Nat) : Int) := IntWalk.i64_in _ (by omega)
   rw [hd, risP] at ho
   rcases hp with ⟨rfl, rfl⟩ | ⟨j, rfl, hy⟩
   · skip
     repeat' first
      | (with_reducible first | refine sA rfl ?_ | refine sI rfl rfl ?_ | refine sT rfl ?_ | refine sB rfl ?_)
      | (with_reducible refine Y9 ?_; first | refine Y5 ?_ | (refine ao1 rfl rfl fun K HK => ?_; (first | refine Y6 rfl ?_ | skip); simp only [go_sem, ↓reduceIte, Z0, Z2, Z1, Z3, Z4, Z6, Z7, Z8, e0, e1, e7, e8, e9, Zd, Zt1, Zg, wk, Bool.false_eq_true]; (first | refine Y8 (fun hq => ?_) (fun hq => ?_) | (refine ⟨by omega, by omega, ?_⟩; refine Ya (by assumption) ?_) | (refine ⟨by omega, by omega, ?_⟩; intro row hrow; obtain ⟨x, hx, rfl⟩ := Ym hrow; clear hrow) | skip) <;> (refine HK _ _ ?_; clear HK K)) | refine ao0 rfl rfl ?_)
      | (exfalso; omega)
     all_goals first
     | (exfalso; omega)
     | exact ⟨.inr rfl, endD (r := .v (.bool false)) hl0 rfl (by simp) (by simp) rfl (by rw [low]; trivial) ⟨rfl, by rw [ho, decide_eq_false (by omega)]; rfl⟩⟩
     | exact ⟨rfl, l.length - 1, by omega, 1, x, hlt, rfl, by rw [ho, decide_eq_true (by omega)]; rfl, .inr ⟨0, rfl, hx⟩, rfl, e0, e1, e7, e8, rfl⟩
   · have wm : IntKind.i64.wrap (((j + 1 : Nat) : Int) - 1) = (j : Int) := by rw [show ((j + 1 : Nat) : Int) - 1 = (j : Int) by omega]; exact IntWalk.i64_in _ (by omega)
     have gp : decide ((0 : Int) < ((j + 1 : Nat) : Int)) = true := decide_eq_true (by omega)
     repeat' first
      | (with_reducible first | refine sA rfl ?_ | refine sI rfl rfl ?_ | refine sT rfl ?_ | refine sB rfl ?_)
      | (with_reducible refine Y9 ?_; first | refine Y5 ?_ | (refine ao1 rfl rfl fun K HK => ?_; (first | refine Y6 rfl ?_ | skip); simp only [go_sem, ↓reduceIte, Z0, Z2, Z1, Z3, Z4, Z6, Z7, Z8, e0, e1, e7, e8, e9, Zd, Zt1, Zg, wk, wm, gp, Bool.false_eq_true]; (first | refine Y8 (fun hq => ?_) (fun hq => ?_) | (refine ⟨by omega, by omega, ?_⟩; refine Ya (by assumption) ?_) | skip) <;> (refine HK _ _ ?_; clear HK K)) | refine ao0 rfl rfl ?_)
      | (exfalso; omega)
     all_goals first
     | (exfalso; omega)
     | exact ⟨.inr rfl, endD (r := .v (.bool false)) hl0 rfl (by simp) (by simp) rfl (by rw [low]; trivial) ⟨rfl, by rw [ho, decide_eq_false (by omega)]; rfl⟩⟩
     | exact ⟨rfl, l.length - (j + 2), by omega, j + 2, x, hlt, rfl, by rw [ho, decide_eq_true (by omega)]; rfl, .inr ⟨j + 1, rfl, hx⟩, rfl, e0, e1, e7, e8, rfl⟩
 · skip
   repeat' first
    | (with_reducible first | refine sA rfl ?_ | refine sI rfl rfl ?_ | refine sT rfl ?_ | refine sB rfl ?_)
    | (with_reducible refine Y9 ?_; first | refine Y5 ?_ | (refine ao1 rfl rfl fun K HK => ?_; simp only [go_sem, ↓reduceIte, Z0, Z2, Z1, Z3, Z4, Z6, Z7, Z8, e0, e1, e7, e8, e9]; (first | refine Y8 (fun hq => ?_) (fun hq => ?_) | (refine ⟨by omega, by omega, ?_⟩; intro row hrow; obtain ⟨x, hx, rfl⟩ := Ym hrow; clear hrow) | skip) <;> (refine HK _ _ ?_; clear HK K)))
    | (exfalso; omega)
   exact ⟨by simp, endV hl0 rfl rfl ⟨rfl, by rw [ho, Zj (by omega)]; rfl⟩⟩
end
section
theorem Yg7 {α : Type} {w : World} {sz : Nat} {R : α → List Value → Prop} {v : Value} {l : List α} (h : SlRd w sz R v l) : ∀ x ∈ l, ∃ cs, R x cs := fun x hx => by
 obtain ⟨i, hi, rfl⟩ := List.getElem_of_mem hx
 obtain ⟨_, _, _, _, _, h3⟩ := h
 obtain ⟨_, _, cs, _, _, _, hr⟩ := h3 i hi
 exact ⟨cs, hr⟩
theorem sl_len {α : Type} {w : World} {sz : Nat} {R : α → List Value → Prop} {v : Value} {l : List α} (h : SlRd w sz R v l) : l.length ≤ 9223372036854775807 := by
 obtain ⟨_, cap, _, h2, h3, _⟩ := h
 have : maxLen = 9223372036854775807 := rfl
 omega
section
variable {H : Type} {enc : TypeId × Value → H} {w : World} {base : Nat} {spare : Nat → Bool} {held : Bool} {fuel : Nat} {cs : List Value} {x : DataW H × List MemPlace}
theorem seven {cs : List Value} (h : cs.length = 7) : ∃ a t, cs = a :: t ∧ t.length = 6 := by
 match cs, h with | a :: t, h => exact ⟨a, t, rfl, by simpa using h⟩
theorem c_int64 : Z5.cellsOf 2 = 1 := by kernel_rfl
theorem c_ints : Z5.cellsOf 22 = 1 := by kernel_rfl
theorem c_strs : Z5.cellsOf 27 = 1 := by kernel_rfl
theorem c_lats : Z5.cellsOf 28 = 1 := by kernel_rfl
theorem c_rules : Z5.cellsOf 29 = 1 := by kernel_rfl
theorem c_lat : Z5.cellsOf 31 = 6 := by kernel_rfl
theorem c_rule : Z5.cellsOf 157 = 2 := by kernel_rfl
theorem c_objs : Z5.cellsOf 23 = 1 := by kernel_rfl
theorem c_obj : Z5.cellsOf 74 = 7 := by kernel_rfl
theorem c_gen : Z5.cellsOf 25 = 6 := by kernel_rfl
theorem open_strs (h : DataW.trod enc Z5 w base spare held fuel 27 cs = some x) : ∃ (v : Value) (l : List ByteArray), cs = [v] ∧ rd [] [] w (.sl 1 (l.map strX)) v ∧ l.length ≤ 9223372036854775807 ∧ ∀ s ∈ l, s.size ≤ 9223372036854775807 := by
 obtain ⟨v, l, e, hs⟩ := Zm2 (R := fun (s : ByteArray) cs => cs = [.string s] ∧ s.size ≤ maxLen) Tryz.underlying27 Zx5 (by decide) (fun n _ cs x h => by
   obtain ⟨s, rfl, _, hs⟩ := DataW.trod_string Tryz.underlying9 h
   exact ⟨s, rfl, hs⟩) h
 refine ⟨v, l, e, Zf4 hs fun x _ cs hc => ?_, sl_len hs, fun s hx => ?_⟩
 · obtain ⟨rfl, _⟩ := hc
   exact ⟨Zf7.2 (rd_v.2 rfl), rfl⟩
 · obtain ⟨_, _, hz⟩ := Yg7 hs s hx
   exact hz
theorem open_ints (h : DataW.trod enc Z5 w base spare held fuel 22 cs = some x) : ∃ v, ∃ l : List Int, cs = [v] ∧ rd [] [] w (.sl 1 (l.map intX)) v ∧ l.length ≤ 9223372036854775807 ∧ ∀ n ∈ l, I64 n := by
 obtain ⟨v, l, e, hs⟩ := Zm2 (R := fun (n : Int) cs => cs = [.int .i64 n] ∧ I64 n) Tryz.underlying22 Yp1 (by decide) (fun n _ cs x h => by
   obtain ⟨p, hp, _, wp⟩ := DataW.trod_int Tryz.underlying3 h
   exact ⟨p, hp, Zi9 wp⟩) h
 refine ⟨v, l, e, Zf4 hs fun x _ cs hc => ?_, sl_len hs, fun s hx => ?_⟩
 · obtain ⟨rfl, _⟩ := hc
   exact ⟨Zf7.2 (rd_v.2 rfl), rfl⟩
 · obtain ⟨_, _, hz⟩ := Yg7 hs s hx
   exact hz
theorem open_rule (h : DataW.trod enc Z5 w base spare held fuel 157 cs = some x) : ∃ a : Rl, rdL [] [] w (Zz6 a) cs ∧ a.cond.length ≤ 9223372036854775807 ∧ ∀ s ∈ a.cond, s.size ≤ 9223372036854775807 := by
 obtain ⟨xs, n, _, _, hl, hn, hf⟩ := DataW.trod_struct Tryz.underlying157 h
 rw [c_rule] at hl
 obtain ⟨a, b, rfl⟩ := two_ hl
 obtain ⟨y0, e0⟩ := Xy (l := xs) (i := 0) (by rw [hn]; decide)
 obtain ⟨y1, e1⟩ := Xy (l := xs) (i := 1) (by rw [hn]; decide)
 have h0 : DataW.trod enc Z5 w base spare held n 27 [a] = some y0 := fld hf 0 27 0 1 rfl c_strs e0
 have h1 : DataW.trod enc Z5 w base spare held n 9 [b] = some y1 := fld hf 1 9 1 1 rfl Zx5 e1
 obtain ⟨v, l, hv, hs, hll, hz⟩ := open_strs h0
 obtain ⟨s, hq, _, ws⟩ := DataW.trod_string Tryz.underlying9 h1
 obtain ⟨rfl⟩ : a = v := by simpa using hv
 obtain ⟨rfl⟩ : b = .string s := by simpa using hq
 exact ⟨⟨l, s⟩, Xm.2 ⟨hs, Zf7.2 (rd_v.2 rfl)⟩, hll, hz⟩
theorem open_lat : ∀ (m : Nat) (fuel : Nat) (cs : List Value) (x : DataW H × List MemPlace), fuel < m → DataW.trod enc Z5 w base spare held fuel 31 cs = some x → ∃ l, rdL [] [] w (latX l) cs ∧ Sm l
 | 0, _, _, _, hm, _ => by omega
 | m + 1, fuel, cs, x, hm, h => by
   obtain ⟨xs, n, hfu, _, hl, hn, hf⟩ := DataW.trod_struct Tryz.underlying31 h
   rw [c_lat] at hl
   obtain ⟨a, b, c, d, e, f, rfl⟩ := six hl
   obtain ⟨y0, e0⟩ := Xy (l := xs) (i := 0) (by rw [hn]; decide)
   obtain ⟨y1, e1⟩ := Xy (l := xs) (i := 1) (by rw [hn]; decide)
   obtain ⟨y2, e2⟩ := Xy (l := xs) (i := 2) (by rw [hn]; decide)
   obtain ⟨y3, e3⟩ := Xy (l := xs) (i := 3) (by rw [hn]; decide)
   obtain ⟨y4, e4⟩ := Xy (l := xs) (i := 4) (by rw [hn]; decide)
   obtain ⟨y5, e5⟩ := Xy (l := xs) (i := 5) (by rw [hn]; decide)
   have h0 : DataW.trod enc Z5 w base spare held n 3 [a] = some y0 := fld hf 0 3 0 1 rfl Yp1 e0
   have h1 : DataW.trod enc Z5 w base spare held n 2 [b] = some y1 := fld hf 1 2 1 1 rfl c_int64 e1
   have h2 : DataW.trod enc Z5 w base spare held n 2 [c] = some y2 := fld hf 2 2 2 1 rfl c_int64 e2
   have h3 : DataW.trod enc Z5 w base spare held n 27 [d] = some y3 := fld hf 3 27 3 1 rfl c_strs e3
   have h4 : DataW.trod enc Z5 w base spare held n 28 [e] = some y4 := fld hf 4 28 4 1 rfl c_lats e4
   have h5 : DataW.trod enc Z5 w base spare held n 29 [f] = some y5 := fld hf 5 29 5 1 rfl c_rules e5
   obtain ⟨p, hp, _, wp⟩ := DataW.trod_int Tryz.underlying3 h0
   obtain ⟨q, hq, _, wq⟩ := DataW.trod_int Tryz.underlying2 h1
   obtain ⟨r, hr, _, wr⟩ := DataW.trod_int Tryz.underlying2 h2
   obtain ⟨v1, l1, hv1, hs1, hl1, hz1⟩ := open_strs h3
   obtain ⟨v2, l2, hv2, hs2⟩ := Zm2 (R := fun l cs => rdL [] [] w (latX l) cs ∧ Sm l) Tryz.underlying28 c_lat (by decide) (fun k hk cs x hx => open_lat m k cs x (by omega) hx) h4
   obtain ⟨v3, l3, hv3, hs3⟩ := Zm2 (R := fun (a : Rl) cs => rdL [] [] w (Zz6 a) cs ∧ a.cond.length ≤ 9223372036854775807 ∧ ∀ s ∈ a.cond, s.size ≤ 9223372036854775807) Tryz.underlying29 c_rule (by decide) (fun _ _ _ _ h => open_rule h) h5
   obtain ⟨rfl⟩ : a = .int .i64 p := by simpa using hp
   obtain ⟨rfl⟩ : b = .int .i64 q := by simpa using hq
   obtain ⟨rfl⟩ : c = .int .i64 r := by simpa using hr
   obtain ⟨rfl⟩ : d = v1 := by simpa using hv1
   obtain ⟨rfl⟩ : e = v2 := by simpa using hv2
   obtain ⟨rfl⟩ : f = v3 := by simpa using hv3
   refine ⟨.mk p q r l1 l2 l3, ?_, .mk _ hl1 (sl_len hs2) (sl_len hs3) hz1 (fun r hr => ?_) (fun l hl => ?_)⟩
   · rw [Y4]
     exact Xm.2 ⟨rd_v.2 rfl, Xm.2 ⟨rd_v.2 rfl, Xm.2 ⟨rd_v.2 rfl, Xm.2 ⟨hs1, Xm.2 ⟨Zf4 hs2 fun x _ cs hc => ⟨hc.1, Zk7 x⟩, Zf7.2 (Zf4 hs3 fun x _ cs hc => ⟨hc.1, rfl⟩)⟩⟩⟩⟩⟩
   · obtain ⟨_, h⟩ := Yg7 hs3 r hr; exact h.2
   · obtain ⟨_, h⟩ := Yg7 hs2 l hl; exact h.2
theorem open_gob (h : DataW.trod enc Z5 w base spare held fuel 74 cs = some x) : ∃ o : ByteArray × Lat, rdL [] [] w (gobX o) cs ∧ o.1.size ≤ 9223372036854775807 ∧ Sm o.2 := by
 obtain ⟨xs, n, _, _, hl, hn, hf⟩ := DataW.trod_struct Tryz.underlying74 h
 rw [c_obj] at hl
 obtain ⟨a, t, rfl, ht⟩ := seven hl
 obtain ⟨y0, e0⟩ := Xy (l := xs) (i := 0) (by rw [hn]; decide)
 obtain ⟨y1, e1⟩ := Xy (l := xs) (i := 1) (by rw [hn]; decide)
 have h0 : DataW.trod enc Z5 w base spare held n 9 [a] = some y0 := fld hf 0 9 0 1 rfl Zx5 e0
 have h1 : DataW.trod enc Z5 w base spare held n 31 (((a :: t).drop 1).take 6) = some y1 := fld hf 1 31 1 6 rfl c_lat e1
 rw [List.drop_succ_cons, List.drop_zero, List.take_of_length_le (by omega)] at h1
 obtain ⟨s, hq, _, ws⟩ := DataW.trod_string Tryz.underlying9 h0
 obtain ⟨l, hr, hsm⟩ := open_lat _ n _ _ (Nat.lt_succ_self _) h1
 obtain ⟨rfl⟩ : a = .string s := by simpa using hq
 exact ⟨(s, l), Xm.2 ⟨rd_v.2 rfl, hr⟩, ws, hsm⟩
theorem open_gen (h : DataW.trod enc Z5 w base spare held fuel 25 cs = some x) : ∃ g : GenL, rdL [] [] w (gnX g) cs ∧ GSm g ∧ I64 g.clients ∧ I64 g.replicas ∧ I64 g.mode := by
 obtain ⟨xs, n, _, _, hl, hn, hf⟩ := DataW.trod_struct Tryz.underlying25 h
 rw [c_gen] at hl
 obtain ⟨a, b, c, d, e, f, rfl⟩ := six hl
 obtain ⟨y0, e0⟩ := Xy (l := xs) (i := 0) (by rw [hn]; decide)
 obtain ⟨y1, e1⟩ := Xy (l := xs) (i := 1) (by rw [hn]; decide)
 obtain ⟨y2, e2⟩ := Xy (l := xs) (i := 2) (by rw [hn]; decide)
 obtain ⟨y3, e3⟩ := Xy (l := xs) (i := 3) (by rw [hn]; decide)
 obtain ⟨y4, e4⟩ := Xy (l := xs) (i := 4) (by rw [hn]; decide)
 obtain ⟨y5, e5⟩ := Xy (l := xs) (i := 5) (by rw [hn]; decide)
 have h0 : DataW.trod enc Z5 w base spare held n 3 [a] = some y0 := fld hf 0 3 0 1 rfl Yp1 e0
 have h1 : DataW.trod enc Z5 w base spare held n 3 [b] = some y1 := fld hf 1 3 1 1 rfl Yp1 e1
 have h2 : DataW.trod enc Z5 w base spare held n 22 [c] = some y2 := fld hf 2 22 2 1 rfl c_ints e2
 have h3 : DataW.trod enc Z5 w base spare held n 3 [d] = some y3 := fld hf 3 3 3 1 rfl Yp1 e3
 have h4 : DataW.trod enc Z5 w base spare held n 22 [e] = some y4 := fld hf 4 22 4 1 rfl c_ints e4
 have h5 : DataW.trod enc Z5 w base spare held n 23 [f] = some y5 := fld hf 5 23 5 1 rfl c_objs e5
 obtain ⟨p, hp, _, wp⟩ := DataW.trod_int Tryz.underlying3 h0
 obtain ⟨q, hq, _, wq⟩ := DataW.trod_int Tryz.underlying3 h1
 obtain ⟨r, hr, _, wr⟩ := DataW.trod_int Tryz.underlying3 h3
 obtain ⟨v1, l1, hv1, hs1, hl1, _⟩ := open_ints h2
 obtain ⟨v2, l2, hv2, hs2, hl2, _⟩ := open_ints h4
 obtain ⟨v3, l3, hv3, hs3⟩ := Zm2 (R := fun (o : ByteArray × Lat) cs => rdL [] [] w (gobX o) cs ∧ o.1.size ≤ 9223372036854775807 ∧ Sm o.2) Tryz.underlying23 c_obj (by decide) (fun _ _ _ _ h => open_gob h) h5
 obtain ⟨rfl⟩ : a = .int .i64 p := by simpa using hp
 obtain ⟨rfl⟩ : b = .int .i64 q := by simpa using hq
 obtain ⟨rfl⟩ : d = .int .i64 r := by simpa using hr
 obtain ⟨rfl⟩ : c = v1 := by simpa using hv1
 obtain ⟨rfl⟩ : e = v2 := by simpa using hv2
 obtain ⟨rfl⟩ : f = v3 := by simpa using hv3
 refine ⟨⟨p, q, l1, r, l2, l3⟩, ?_, ⟨hl1, hl2, sl_len hs3, fun o ho => ?_, fun o ho => ?_⟩, Zi9 wr, Zi9 wq, Zi9 wp⟩
 · rw [Xq]
   exact Xm.2 ⟨rd_v.2 rfl, Xm.2 ⟨rd_v.2 rfl, Xm.2 ⟨hs1, Xm.2 ⟨rd_v.2 rfl, Xm.2 ⟨hs2, Zf7.2 (Zf4 hs3 fun x _ cs hc => ⟨hc.1, by rw [Xp]; rfl⟩)⟩⟩⟩⟩⟩
 · obtain ⟨_, h⟩ := Yg7 hs3 o ho; exact h.2.1
 · obtain ⟨_, h⟩ := Yg7 hs3 o ho; exact h.2.2
end
theorem arg_gen {H : Type} {enc : TypeId × Value → H} {W : World} {v : Value} {d : DataW H} {p : List MemPlace} (h : DataW.Trod enc Z5 W 0 (fun _ => true) true 25 v d p) (hv : ∃ cs, v = .agg cs) : ∃ g : GenL, rd [] [] W (.agg (gnX g)) v ∧ GSm g ∧ I64 g.clients ∧ I64 g.replicas ∧ I64 g.mode := by
 obtain ⟨cs, rfl⟩ := hv
 obtain ⟨fuel, hf⟩ := h
 obtain ⟨g, h1, h2⟩ := open_gen hf
 exact ⟨g, by rw [rd]; exact ⟨cs, rfl, h1⟩, h2⟩
end
end Go.Proofs.YtgkjcmglcnhpaaaGreatDoor
