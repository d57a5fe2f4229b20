/-
  What the statements of the chapter share, part 30: TK6, TVD, K1, K2, K3, K4, K5.
-/
import Derived.Test.YtmdjnaobllajmaaGreatDoorY12
import Derived.Test.YtmdjnaobllajmaaGreatDoorY14
import Derived.Test.YtmdjnaobllajmaaGreatDoorY25
import Derived.Test.YtmdjnaobllajmaaGreatDoorY26
import Derived.Test.YtmdjnaobllajmaaGreatDoorY28
import Derived.Test.YtmdjnaobllajmaaGreatDoorY29
set_option linter.unusedVariables false
set_option linter.unusedSimpArgs false
set_option maxRecDepth 100000
set_option maxHeartbeats 8000000
namespace Go.Proofs.YtmdjnaobllajmaaGreatDoor
open _root_.Bool renaming eq_iff_iff → Zf
open _root_.Int renaming ofNat_eq_natCast → Z1
open _root_.List renaming getElem?_eq_some_iff → Z9, drop_zero → Zb, getElem?_append_left → Zc
open _root_.Nat renaming beq → Z0, le_of_ble_eq_true → Z2, zero_add → Z3, ble → Z5, le_refl → Z6, reduceEqDiff → Z7, reduceLeDiff → Z8, reduceAdd → Za, add → Zd
open _root_.Option renaming map_some → Z4
open _root_.Go.Proofs.Tryz renaming prog → Ze
open Go.RowKit
section
attribute [local irreducible] on aOp
attribute [local go_sem] decide_true decide_false Bool.not_true Bool.not_false
variable (G : Nat → D) (hG : ∀ g, low 0 (G g))
theorem Ye5 (v : Val) : (vaX v).all D.one = true := by rw [Ya]; rfl
theorem Yh3 {a b c d : D} (v : Val) : putL [a, b, c, d] 0 (vaX v) = vaX v := by rw [Ya]; rfl
theorem Ye3 : vaX Zg2 = [.v (.int .i64 0), .sl 1 [], .sl 4 [], .sl 2 []] := by rw [Ya]; rfl
theorem low_tupV (m : Nat) (v : Val) (e : Int) : low m (.tup [.agg (vaX v), .v (.int .i64 e)]) := by
 rw [low, lowL, lowL, lowL, low, low]
 exact ⟨Xu m v, trivial, trivial⟩
theorem ends_ne {t : RS} (ho : t.Ok) (h : ¬ (t.err = 0 ∧ t.pos = t.data.length)) : t.ends ≠ 0 := by
 unfold RS.ends
 have := ho.pos
 by_cases h1 : t.err = 0 ∧ t.pos < t.data.length
 · rw [if_pos h1]; decide
 · rw [if_neg h1]; omega
theorem ends_eq {t : RS} (h : t.err = 0 ∧ t.pos = t.data.length) : t.ends = 0 := by
 unfold RS.ends
 rw [if_neg (by omega)]; exact h.1
include hG
theorem take_any (f : Nat) : ∀ l : Lat, SizeOf.sizeOf l ≤ f → WfL l → Zz7 G l := by
 induction f with
 | zero => intro l hn; cases l; simp at hn
 | succ f ih =>
   intro l hn hwf
   have hk := hwf.kinds
   have hp : ∀ p ∈ l.parts, Zz7 G p := fun p hp => ih p (by have := Wj hp; omega) (hwf.part hp)
   have ht : ∀ p ∈ l.parts, ∀ s : RS, s.Ok → (Yg p s).2.Ok ∧ (Yg p s).2.data = s.data := fun p hp => (Zq9 _ p (Z6 _) (hwf.part hp)).ok
   rcases Vc hk.1 with e | e | e | e | e | e | e
   · exact take_1 G hG l e
   · exact take_23 G hG l e
   · exact take_410 G hG l e
   · obtain ⟨p, hb⟩ := List.length_eq_one_iff.1 (hk.2.1 e)
     exact take_5 G hG l p e hb (hp p (by rw [hb]; simp)) (ht p (by rw [hb]; simp))
   · exact take_67 G hG l e (by have := hk.2.2.1; have := hk.2.2.2.1; omega) hp ht
   · exact take_8 G hG l e
   · exact take_9 G hG l e
attribute [local go_sem] Int.reduceEq Int.reduceLE Int.reduceLT Zb Za Nat.reduceBEq Z7 Z8 Nat.reduceMul Xz Wh Yh3 Ye5 X8 Vo
attribute [local go_sem ↓] reduceIte
theorem rdecode_d (l : Lat) (b : List UInt8) (hl : Sm l) (hb : b.length ≤ 1000000) (h : List Ob) : Does Ze G 28 h [.agg (latX l), .sl 1 (byD b)] (fun h' r => h' = h ∧ r = .tup [.agg (vaX (Vh l b).1), .v (.int .i64 (Vh l b).2)]) := by
 apply Does.weak
 refine Y5 Tryz.func28 rfl (Z2 rfl) hG fun hl0 _ => ?_
 simp only [Tryz.ntmps28]
 by_cases hc : chkE l = 0
 rotate_left
 · have hR : Vh l b = (Zg2, 1) := by unfold Vh; rw [if_pos hc]
   simp only [hR, Ye3]
   have F := hc
   repeat' first
    | refine g0 ?_
    | (with_reducible refine Y7 ?_; refine gc rfl rfl rfl ent_31 (Zs3 G hG l hl _) ?_)
   exact ⟨by simp, endD (ds := [.agg [.v (.int .i64 0), .v (.slice none 0 0), .v (.slice none 0 0), .v (.slice none 0 0)], .v (.int .i64 1)]) (r := .tup [.agg [.v (.int .i64 0), .v (.slice none 0 0), .v (.slice none 0 0), .v (.slice none 0 0)], .v (.int .i64 1)]) hl0 (by simp only [resD, Tryz.results28, go_sem, ↓reduceIte, Z7, Za, Z8]) (by simp) (by simp; try omega) (by simp [outD, cvD, cv1]) (by simp [low, lowL]) ⟨_, ⟨rfl, rfl⟩, wk_tup (Y8 (V5 (Y8 (Ys _) (Y8 Ye (Y8 Ye (Y8 Ye Xl))))) (Y8 (Ys _) Xl))⟩⟩
 have hwf := Ze5 hc
 have hT := Zq9 _ l (Z6 _) hwf
 obtain ⟨hto, htd⟩ := hT.ok _ (Ju b)
 have hvo := take_smV _ l (Z6 _) hwf ⟨b, 0, 0, 0⟩ (Ju b) hb
 have HT := take_any G hG _ l (Z6 _) hwf
 have hR : Vh l b = if (Yg l ⟨b, 0, 0, 0⟩).2.ends ≠ 0 ∨ Yt l (Yg l ⟨b, 0, 0, 0⟩).1 = false then (Zg2, 2) else ((Yg l ⟨b, 0, 0, 0⟩).1, 0) := by unfold Vh; rw [if_neg (fun h => h hc)]
 have HT2 : ∀ (i : Nat) (h : List Ob), h[i]? = some (inOb ⟨b, 0, 0, 0⟩) → Does Ze G 56 h [.ptr i 0, .agg (latX l)] (fun h' r => h' = h.set i (inOb (Yg l ⟨b, 0, 0, 0⟩).2) ∧ r = .agg (vaX (Yg l ⟨b, 0, 0, 0⟩).1)) := fun i h hi => HT i _ h hi (Ju b) hb
 generalize Yg l ⟨b, 0, 0, 0⟩ = R at *
 obtain ⟨v, t⟩ := R
 have HE : ∀ (e : Bool), decide (t.err = 0 ∧ t.pos = t.data.length) = e → ∀ (i : Nat) (h : List Ob), h[i]? = some (inOb t) → Does Ze G 57 h [.ptr i 0] (fun h' r => h' = h ∧ r = .v (.bool e)) := fun e q i h hi => by
  have := inEnd_d G hG i t h hi
  rwa [q] at this
 have HEL : ∀ (e : Bool), Yt l v = e → ∀ (h : List Ob), Does Ze G 38 h [.agg (latX l), .agg (vaX v)] (fun h' r => h' = h ∧ r = .v (.bool e)) := fun e q h => by
  have := relement_d G hG _ l v (Z6 _) hwf hl hvo h
  rwa [q] at this
 simp only at hR HT2 hvo hto htd
 by_cases hE : t.err = 0 ∧ t.pos = t.data.length
 rotate_left
 · have hR2 : Vh l b = (Zg2, 2) := by rw [hR, if_pos (.inl (ends_ne hto hE))]
   simp only [hR2, Ye3]
   have F := hc
   repeat' first
    | refine g0 ?_
    | (with_reducible refine Y7 ?_; first | refine gc rfl rfl rfl ent_31 (Zs3 G hG l hl _) ?_ | refine gc rfl rfl rfl ent_57 (HE false (decide_eq_false hE) _ _ (by simp only [go_sem])) ?_)
    | ((with_reducible refine Y7 ?_); first | refine gc rfl rfl rfl Zy5 (HT2 _ _ (by simp only [go_sem]; rfl)) ?_)
   exact ⟨by simp, endD (ds := [.agg [.v (.int .i64 0), .v (.slice none 0 0), .v (.slice none 0 0), .v (.slice none 0 0)], .v (.int .i64 2)]) (r := .tup [.agg [.v (.int .i64 0), .v (.slice none 0 0), .v (.slice none 0 0), .v (.slice none 0 0)], .v (.int .i64 2)]) hl0 (by simp only [resD, Tryz.results28, go_sem, ↓reduceIte, Z7, Za, Z8, Xz, Wh, Zb, X8, Vo, Ye5, Yh3]) (by simp) (by simp; try omega) (by simp [outD, cvD, cv1]) (by simp [low, lowL]) ⟨_, ⟨rfl, rfl⟩, wk_tup (Y8 (V5 (Y8 (Ys _) (Y8 Ye (Y8 Ye (Y8 Ye Xl))))) (Y8 (Ys _) Xl))⟩⟩
 cases hL : Yt l v
 · have hR2 : Vh l b = (Zg2, 2) := by rw [hR, if_pos (.inr hL)]
   simp only [hR2, Ye3]
   have F := hc
   repeat' first
    | refine g0 ?_
    | (with_reducible refine Y7 ?_; first | refine gc rfl rfl rfl ent_31 (Zs3 G hG l hl _) ?_ | refine gc rfl rfl rfl ent_57 (HE true (decide_eq_true hE) _ _ (by simp only [go_sem])) ?_ | refine gc rfl rfl rfl Zy6 (HEL false hL _) ?_)
    | ((with_reducible refine Y7 ?_); first | refine gc rfl rfl rfl Zy5 (HT2 _ _ (by simp only [go_sem]; rfl)) ?_)
   exact ⟨by simp, endD (ds := [.agg [.v (.int .i64 0), .v (.slice none 0 0), .v (.slice none 0 0), .v (.slice none 0 0)], .v (.int .i64 2)]) (r := .tup [.agg [.v (.int .i64 0), .v (.slice none 0 0), .v (.slice none 0 0), .v (.slice none 0 0)], .v (.int .i64 2)]) hl0 (by simp only [resD, Tryz.results28, go_sem, ↓reduceIte, Z7, Za, Z8, Xz, Wh, Zb, X8, Vo, Ye5, Yh3]) (by simp) (by simp; try omega) (by simp [outD, cvD, cv1]) (by simp [low, lowL]) ⟨_, ⟨rfl, rfl⟩, wk_tup (Y8 (V5 (Y8 (Ys _) (Y8 Ye (Y8 Ye (Y8 Ye Xl))))) (Y8 (Ys _) Xl))⟩⟩
 · have hR2 : Vh l b = (v, 0) := by rw [hR, if_neg (by rw [ends_eq hE, hL]; simp)]
   simp only [hR2]
   have F := hc
   repeat' first
    | refine g0 ?_
    | (with_reducible refine Y7 ?_; first | refine gc rfl rfl rfl ent_31 (Zs3 G hG l hl _) ?_ | refine gc rfl rfl rfl ent_57 (HE true (decide_eq_true hE) _ _ (by simp only [go_sem])) ?_ | refine gc rfl rfl rfl Zy6 (HEL true hL _) ?_)
    | ((with_reducible refine Y7 ?_); first | refine gc rfl rfl rfl Zy5 (HT2 _ _ (by simp only [go_sem]; rfl)) ?_)
   exact ⟨by simp, endD (ds := [.agg (vaX v), .v (.int .i64 0)]) (r := .tup [.agg (vaX v), .v (.int .i64 0)]) hl0 (by simp only [resD, Tryz.results28, go_sem, ↓reduceIte, Z7, Za, Z8, Xz, Wh, Zb, X8, Vo, Ye5, Yh3]) (by simp) (by simp; try omega) (by simp only [outD, cvD, List.map_cons, List.map_nil, cv1]) (low_tupV _ v 0) ⟨_, ⟨rfl, rfl⟩, Ys _⟩⟩
end
section
attribute [local irreducible] on aOp
attribute [local go_sem] decide_true decide_false Bool.not_true Bool.not_false
attribute [local simp] byD_len
variable (G : Nat → D) (hG : ∀ g, low 0 (G g)) (haw : ∀ h, Does Ze G 14 h [] (fun h' r => h' = h ∧ r = .v (.bool true)))
include hG haw
attribute [local go_sem] Bool.false_eq_true Int.reduceEq Int.reduceLE Int.reduceLT Za Nat.reduceBEq Z7 Z8 Nat.reduceMul byD_len
attribute [local go_sem ↓] reduceIte
theorem vdec_w (l : Lat) (hsm : Sm l) (b : List UInt8) : Does Ze G 8 [] [.agg (latX l), .sl 1 (byD b)] (fun h' r => h' = [] ∧ r = .v (.bool true)) := by
 refine Y5 Tryz.func8 rfl (Z2 rfl) hG fun hl0 _ => ?_
 simp only [Tryz.ntmps8]
 by_cases hb : 200 < (b.length : Int)
 · skip
   have F : _ ∧ _ := ⟨Y4 l, hb⟩
   repeat' first
    | refine g0 ?_
    | (with_reducible refine Y7 ?_; refine gc rfl rfl rfl ent_14 (haw _) ?_)
   all_goals exact ⟨.inr rfl, endV hl0 rfl rfl ⟨rfl, rfl⟩⟩
 have hbl : b.length ≤ 1000000 := by omega
 have hd := decode_v G hG l hsm b hbl
 have hr := rdecode_d G hG l b hsm hbl
 rw [decodeR_eq _ _ (by omega)] at hr
 have hvs : VSm (Xv l b).1 := by
  unfold Xv
  by_cases h : chkE l ≠ 0
  · rw [if_pos h]; exact Uz 0
  rw [if_neg h]
  have hc : chkE l = 0 := Decidable.not_not.1 h
  split
  · exact Uz 0
  · exact read_smV _ l (Z6 _) (Ze5 hc) ⟨b, 0, 0, 0⟩ (Ju b) hbl
 have heq := requal_va G hG (Xv l b).1 (Xv l b).1 hvs hvs
 rw [decide_eq_true (valC_self _ _ (Z6 _))] at heq
 have hcE : (Xv l b).2 = 0 → chkE l = 0 := fun q => Decidable.byContradiction fun h => by
  unfold Xv at q; rw [if_pos h] at q; cases q
 have hiff : (Xv l b).2 = 0 → Yt l (Xv l b).1 = true ∧ b = putV l (Xv l b).1 := fun q => (Zi5 (hcE q) b _ (by omega)).1 (by rw [← q])
 have hval := valid_v G hG l hsm (Xv l b).1 hvs
 have henc := fun hc he hb2 => encode_v G hG l hsm (Xv l b).1 hvs hc he hb2
 have hby := bytes_d G hG b hbl
 generalize Xv l b = V at *
 obtain ⟨v, er⟩ := V
 simp only at hd hr hvs heq hcE hiff hval henc
 simp only [Y4 l, Ya v] at hd hr heq hval
 have hee : (er = er) = True := eq_self er
 by_cases h0 : er = 0
 rotate_left
 · skip
   have F : _ ∧ _ ∧ _ ∧ _ ∧ _ := ⟨Y4 l, Ya v, hb, hee, h0⟩
   repeat' first
    | refine g0 ?_
    | (with_reducible refine Y7 ?_; first | refine gc rfl rfl rfl ent_14 (haw _) ?_ | refine gc rfl rfl rfl ent_27 (hd _) ?_ | refine gc rfl rfl rfl ent_28 (hr _) ?_ | refine gc rfl rfl rfl ent_19 (heq _) ?_)
   all_goals exact ⟨.inr rfl, endV hl0 rfl rfl ⟨rfl, rfl⟩⟩
 obtain ⟨he, hput⟩ := hiff h0
 have hc := hcE h0
 have henc := henc hc he (by rw [← hput]; exact hbl)
 rw [← hput] at henc
 have hvb : validB l v = true := by unfold validB; rw [decide_eq_true hc, he]; rfl
 rw [hvb] at hval
 simp only [Y4 l, Ya v] at henc
 subst h0
 have F : _ ∧ _ ∧ _ ∧ _ := ⟨Y4 l, Ya v, hb, hee⟩
 repeat' first
  | refine g0 ?_
  | (with_reducible refine Y7 ?_; first | refine gc rfl rfl rfl ent_14 (haw _) ?_ | refine gc rfl rfl rfl ent_27 (hd _) ?_ | refine gc rfl rfl rfl ent_28 (hr _) ?_ | refine gc rfl rfl rfl ent_19 (heq _) ?_ | refine gc rfl rfl rfl ent_24 (henc _) ?_ | refine gc rfl rfl rfl ent_15 (hval _) ?_ | refine gc rfl rfl rfl ent_26 (hby _) ?_)
 all_goals exact ⟨.inr rfl, endV hl0 rfl rfl ⟨rfl, rfl⟩⟩
end
section
noncomputable def bc {α : Type} (b : Bool) (x y : α) : α := @Bool.rec (fun _ => α) y x b
theorem Vj {α : Type} (b : Bool) (x y : α) : bc b x y = bif b then x else y := by cases b <;> rfl
noncomputable def nthK {α : Type} (l : List α) : Nat → Option α := @List.rec α (fun _ => Nat → Option α) (fun _ => none) (fun a _ ih i => @Bool.rec (fun _ => Option α) (ih (Nat.sub i 1)) (some a) (Z0 i 0)) l
theorem Jg {α : Type} : ∀ (l : List α) (i : Nat), nthK l i = l[i]?
 | [], _ => rfl
 | a :: t, 0 => rfl
 | a :: t, i + 1 => by show nthK t i = _; rw [Jg t i]; rfl
noncomputable def lenK {α : Type} (l : List α) : Nat → Nat := @List.rec α (fun _ => Nat → Nat) (fun n => n) (fun _ _ ih n => ih (Zd n 1)) l
theorem V8 {α : Type} : ∀ (l : List α) (n : Nat), lenK l n = n + l.length
 | [], _ => rfl
 | a :: t, n => by show lenK t (n + 1) = _; rw [V8 t]; simp; omega
noncomputable def getK (t : Tr) : Nat → D := @Tr.rec (fun _ => Nat → D) (fun _ => .any) (fun d _ _ gl gr i => @Bool.rec (fun _ => D) (@Bool.rec (fun _ => D) (gr (Nat.sub (Nat.div i 2) 1)) (gl (Nat.div i 2)) (Z0 (Nat.mod i 2) 1)) d (Z0 i 0)) t
theorem Zx5 : ∀ (t : Tr) (i : Nat), getK t i = t.get i
 | .leaf, _ => rfl
 | .node d l r, i => by
  show @Bool.rec (fun _ => D) (@Bool.rec (fun _ => D) (getK r (i / 2 - 1)) (getK l (i / 2)) (Z0 (i % 2) 1)) d (Z0 i 0) = _
  rw [Zx5 l, Zx5 r, Tr.get]
  cases Z0 i 0 <;> cases Z0 (i % 2) 1 <;> rfl
theorem Zs8 (t : Tr) : getK t = t.get := funext fun i => Zx5 t i
noncomputable def setK (t : Tr) : Nat → D → Tr := @Tr.rec (fun _ => Nat → D → Tr) (fun i d => Tr.set 12 .leaf i d)
 (fun d0 l r sl sr i d => @Bool.rec (fun _ => Tr) (@Bool.rec (fun _ => Tr) (.node d0 l (sr (Nat.sub (Nat.div i 2) 1) d)) (.node d0 (sl (Nat.div i 2) d) r) (Z0 (Nat.mod i 2) 1)) (.node d l r) (Z0 i 0)) t
theorem Zr2 : ∀ (t : Tr) (i : Nat) (d : D) (j : Nat), i < 4095 → (setK t i d).get j = if j = i then d else t.get j
 | .leaf, i, d, j, h => Tr.get_set 12 .leaf i d j (by omega)
 | .node d0 l r, i, d, j, h => by
  show (@Bool.rec (fun _ => Tr) (@Bool.rec (fun _ => Tr) (.node d0 l (setK r (i / 2 - 1) d)) (.node d0 (setK l (i / 2) d) r) (Z0 (i % 2) 1)) (.node d l r) (Z0 i 0)).get j = _
  rw [bqE, bqE]
  by_cases h0 : i = 0
  · subst h0
    by_cases hj : j = 0 <;> simp [hj, Tr.get, bqE]
  · by_cases h1 : i % 2 = 1
    · simp only [h0, h1, decide_false, decide_true, Tr.get, bqE]
      rw [Zr2 l (i / 2) d (j / 2) (by omega)]
      by_cases hj0 : j = 0
      · subst hj0; simp [Ne.symm h0]
      · by_cases hj1 : j % 2 = 1
        · simp only [hj0, hj1, decide_false, decide_true, cond_false, cond_true]
          by_cases hji : j = i
          · subst hji; simp
          · rw [if_neg (by omega), if_neg hji]
        · simp only [hj0, hj1, decide_false, cond_false]
          rw [if_neg (by omega)]
    · simp only [h0, h1, decide_false, Tr.get, bqE]
      rw [Zr2 r (i / 2 - 1) d (j / 2 - 1) (by omega)]
      by_cases hj0 : j = 0
      · subst hj0; simp [Ne.symm h0]
      · by_cases hj1 : j % 2 = 1
        · simp only [hj0, hj1, decide_false, decide_true, cond_false, cond_true]
          rw [if_neg (by omega)]
        · simp only [hj0, hj1, decide_false, cond_false]
          by_cases hji : j = i
          · subst hji; simp
          · rw [if_neg (by omega), if_neg hji]
noncomputable def mkT (k : Nat) : Tr := @Nat.rec (fun _ => Tr) .leaf (fun _ t => .node .any t t) k
theorem mkT_get : ∀ (k j : Nat), (mkT k).get j = .any
 | 0, _ => rfl
 | k + 1, j => by
  show (Tr.node .any (mkT k) (mkT k)).get j = _
  rw [Tr.get, mkT_get k, mkT_get k]
  cases Z0 j 0 <;> cases Z0 (j % 2) 1 <;> rfl
noncomputable def evK (G : Nat → D) (t : Tr) (x : Operand) : D := @Operand.casesOn (fun _ => D) x (fun i => getK t i) (fun v => .v v) (fun g => G g) (fun f => .fn f [])
theorem Ud (G : Nat → D) (t : Tr) (x : Operand) : evK G t x = ev G t.get x := by
 cases x <;> first | rfl | exact Zx5 t _
/-! Whole numbers. -/
noncomputable def ieq (a b : Int) : Bool := @Int.rec (fun _ => Bool) (fun m => @Int.rec (fun _ => Bool) (fun n => Z0 m n) (fun _ => false) b) (fun m => @Int.rec (fun _ => Bool) (fun _ => false) (fun n => Z0 m n) b) a
theorem ieq_eq (a b : Int) : ieq a b = decide (a = b) := by
 rcases a with m | m <;> rcases b with n | n
 · show Z0 m n = _; rw [bqE]; congr 1; exact propext ⟨fun h => by rw [h], fun h => by injection h⟩
 · show false = _; rw [decide_eq_false]; intro h; cases h
 · show false = _; rw [decide_eq_false]; intro h; cases h
 · show Z0 m n = _; rw [bqE]; congr 1; exact propext ⟨fun h => by rw [h], fun h => by injection h⟩
noncomputable def ilt (a b : Int) : Bool := @Int.rec (fun _ => Bool) (fun m => @Int.rec (fun _ => Bool) (fun n => Z5 (Nat.succ m) n) (fun _ => false) b) (fun m => @Int.rec (fun _ => Bool) (fun _ => true) (fun n => Z5 (Nat.succ n) m) b) a
theorem bleE (a b : Nat) : Z5 a b = decide (a ≤ b) := by rw [Zf, Nat.ble_eq, decide_eq_true_eq]
theorem ilt_eq (a b : Int) : ilt a b = decide (a < b) := by
 rcases a with m | m <;> rcases b with n | n
 · show Z5 (m + 1) n = _; rw [bleE]; congr 1; simp only [Z1]; exact propext (by omega)
 · show false = _; rw [decide_eq_false]; simp only [Z1]; omega
 · show true = _; rw [decide_eq_true]; simp only [Z1]; omega
 · show Z5 (n + 1) m = _; rw [bleE]; congr 1; exact propext (by omega)
noncomputable def wrK (k : IntKind) (n : Int) : Int := @IntKind.casesOn (fun _ => Int) k (k.wrap n) (k.wrap n) (k.wrap n)
 (@Int.rec (fun _ => Int) (fun m => @Bool.rec (fun _ => Int) (k.wrap n) (Int.ofNat m) (Z5 m 9223372036854775807)) (fun m => @Bool.rec (fun _ => Int) (k.wrap n) (Int.negSucc m) (Z5 m 9223372036854775807)) n)
 (@Int.rec (fun _ => Int) (fun m => @Bool.rec (fun _ => Int) (k.wrap n) (Int.ofNat m) (Z5 m 255)) (fun _ => k.wrap n) n)
 (k.wrap n)
 (@Int.rec (fun _ => Int) (fun m => @Bool.rec (fun _ => Int) (k.wrap n) (Int.ofNat m) (Z5 m 4294967295)) (fun _ => k.wrap n) n)
 (@Int.rec (fun _ => Int) (fun m => @Bool.rec (fun _ => Int) (k.wrap n) (Int.ofNat m) (Z5 m 18446744073709551615)) (fun _ => k.wrap n) n)
theorem wrK_eq (k : IntKind) (n : Int) : wrK k n = k.wrap n := by
 cases k <;> try rfl
 · rcases n with m | m
   · show @Bool.rec (fun _ => Int) (IntKind.i64.wrap (.ofNat m)) (Int.ofNat m) (Z5 m 9223372036854775807) = _
     rw [bleE]
     by_cases h : m ≤ 9223372036854775807
     · rw [decide_eq_true h, IntKind.wrap_i64]; simp only [Z1]; omega
     · rw [decide_eq_false h]
   · show @Bool.rec (fun _ => Int) (IntKind.i64.wrap (.negSucc m)) (Int.negSucc m) (Z5 m 9223372036854775807) = _
     rw [bleE]
     by_cases h : m ≤ 9223372036854775807
     · rw [decide_eq_true h, IntKind.wrap_i64]; show Int.negSucc m = _; omega
     · rw [decide_eq_false h]
 · rcases n with m | m
   · show @Bool.rec (fun _ => Int) (IntKind.u8.wrap (.ofNat m)) (Int.ofNat m) (Z5 m 255) = _
     rw [bleE]
     by_cases h : m ≤ 255
     · rw [decide_eq_true h]; simp only [IntKind.wrap, IntKind.bits, IntKind.signed, Z1]; simp; omega
     · rw [decide_eq_false h]
   · rfl
 · rcases n with m | m
   · show @Bool.rec (fun _ => Int) (IntKind.u32.wrap (.ofNat m)) (Int.ofNat m) (Z5 m 4294967295) = _
     rw [bleE]
     by_cases h : m ≤ 4294967295
     · rw [decide_eq_true h]; simp only [IntKind.wrap, IntKind.bits, IntKind.signed, Z1]; simp; omega
     · rw [decide_eq_false h]
   · rfl
 · rcases n with m | m
   · show @Bool.rec (fun _ => Int) (IntKind.u64.wrap (.ofNat m)) (Int.ofNat m) (Z5 m 18446744073709551615) = _
     rw [bleE]
     by_cases h : m ≤ 18446744073709551615
     · rw [decide_eq_true h]; simp only [IntKind.wrap, IntKind.bits, IntKind.signed, Z1]; simp; omega
     · rw [decide_eq_false h]
   · rfl
noncomputable def kix (k : IntKind) : Nat := @IntKind.casesOn (fun _ => Nat) k 0 1 2 3 4 5 6 7
theorem kix_inj {a b : IntKind} (h : kix a = kix b) : a = b := by cases a <;> cases b <;> first | rfl | (simp [kix] at h)
end
section
inductive Kd where
 | pu (d : D)
 | re (i : Nat) (d : D)
 | st (i : Nat) (ob : Ob)
 | gen
noncomputable def ok {α : Type} (o : Option α) (f : α → Kd) : Kd := @Option.rec α (fun _ => Kd) .gen f o
noncomputable def puO (o : Option D) : Kd := ok o .pu
noncomputable def valK (d : D) (f : Value → Kd) : Kd := @D.casesOn (fun _ => Kd) d .gen (fun x => f x) (fun _ _ => .gen) (fun _ => .gen) (fun _ => .gen) (fun _ => .gen) (fun _ _ => .gen) (fun _ _ => .gen) (fun _ _ _ _ => .gen) (fun _ _ _ _ => .gen) (fun _ _ _ _ _ => .gen) (fun _ => .gen) .gen (fun _ _ => .gen)
noncomputable def intK (x : Value) (f : IntKind → Int → Kd) : Kd := @Value.casesOn (fun _ => Kd) x (fun _ => .gen) (fun k n => f k n) (fun _ _ => .gen) (fun _ _ _ => .gen) (fun _ => .gen) (fun _ => .gen) (fun _ _ _ => .gen) (fun _ => .gen) (fun _ => .gen) (fun _ _ _ => .gen) .gen (fun _ _ => .gen) .gen (fun _ => .gen) (fun _ => .gen)
noncomputable def opI (op : BinOp) (k : IntKind) (a b : Int) : Kd := @BinOp.casesOn (fun _ => IntKind → Int → Int → Kd) op
 (fun k a b => .pu (.v (.int k (wrK k (Int.add a b))))) (fun k a b => .pu (.v (.int k (wrK k (Int.sub a b))))) (fun k a b => .pu (.v (.int k (wrK k (Int.mul a b))))) (fun _ _ _ => .gen) (fun _ _ _ => .gen) (fun _ _ _ => .gen) (fun _ _ _ => .gen) (fun _ _ _ => .gen) (fun _ _ _ => .gen) (fun _ _ _ => .gen) (fun _ _ _ => .gen)
 (fun _ a b => .pu (.v (.bool (ieq a b)))) (fun _ a b => .pu (.v (.bool (bc (ieq a b) false true)))) (fun _ a b => .pu (.v (.bool (ilt a b)))) (fun _ a b => .pu (.v (.bool (bc (ilt b a) false true)))) (fun _ a b => .pu (.v (.bool (ilt b a)))) (fun _ a b => .pu (.v (.bool (bc (ilt a b) false true)))) k a b
noncomputable def binK (op : BinOp) (x y : D) : Kd := valK x fun X => intK X fun j a => valK y fun Y => intK Y fun k b => bc (Z0 (kix j) (kix k)) (opI op j a b) .gen
noncomputable def bolK (x : Value) (f : Bool → Kd) : Kd := @Value.casesOn (fun _ => Kd) x (fun b => f b) (fun _ _ => .gen) (fun _ _ => .gen) (fun _ _ _ => .gen) (fun _ => .gen) (fun _ => .gen) (fun _ _ _ => .gen) (fun _ => .gen) (fun _ => .gen) (fun _ _ _ => .gen) .gen (fun _ _ => .gen) .gen (fun _ => .gen) (fun _ => .gen)
noncomputable def partK (P : Program) (t : TypeId) (ds : List D) (o : Nat) : Option D := @Option.rec Bool (fun _ => Option D) none
 (fun b => @Bool.rec (fun _ => Option D) (nthK ds o) (@Option.rec Nat (fun _ => Option D) none (fun n => bc (Z5 (Zd o n) (lenK ds 0)) (some (.agg ((ds.drop o).take n))) none) (szT P t)) b) (aggT P t)
theorem Yh6 (P : Program) (t : TypeId) (ds : List D) (o : Nat) : partK P t ds o = getD P t ds o := by
 unfold partK getD
 cases h1 : aggT P t with
 | none => rfl
 | some b =>
  cases b
  · show nthK ds o = _; rw [Jg]
  · cases h2 : szT P t with
    | none => rfl
    | some n =>
     show bc (Z5 (o + n) (lenK ds 0)) _ _ = _
     rw [V8, Z3, Vj, bleE]
     by_cases h : o + n ≤ ds.length
     · simp [h]
     · simp [h]
noncomputable def cellsK (o : Option Ob) (f : List D → Kd) : Kd := ok o fun ob => @Ob.casesOn (fun _ => Kd) ob (fun ds => f ds) (fun _ _ _ => .gen) (fun _ _ => .gen) (fun _ _ _ _ => .gen) .gen .gen
noncomputable def bufK (o : Option Ob) (f : TypeId → Nat → List (List D) → Kd) : Kd := ok o fun ob => @Ob.casesOn (fun _ => Kd) ob (fun _ => .gen) (fun e k xs => f e k xs) (fun _ _ => .gen) (fun _ _ _ _ => .gen) .gen .gen
noncomputable def loaK (P : Program) (h : List Ob) (t : TypeId) (x : D) : Kd := @D.casesOn (fun _ => Kd) x .gen (fun _ => .gen) (fun _ _ => .gen) (fun _ => .gen) (fun _ => .gen) (fun ds => puO (partK P t ds 0))
 (fun i o => cellsK (nthK h i) fun ds => ok (partK P t ds o) fun d => .re i d) (fun _ _ => .gen)
 (fun i n r j => bufK (nthK h i) fun _ _ xs => bc (Z0 (lenK xs 0) n) (ok (nthK xs r) fun row => ok (partK P t row j) fun d => .re i d) .gen) (fun _ _ _ _ => .gen) (fun _ _ _ _ _ => .gen) (fun _ => .gen) .gen (fun _ _ => .gen)
noncomputable def adK (o : Nat) (x : D) : Kd := @D.casesOn (fun _ => Kd) x .gen (fun _ => .gen) (fun _ _ => .gen) (fun _ => .gen) (fun _ => .gen) (fun ds => .pu (.rp (ds.drop o))) (fun i q => .pu (.ptr i (Zd q o))) (fun _ _ => .gen) (fun i n r j => .pu (.bp i n r (Zd j o))) (fun _ _ _ _ => .gen) (fun _ _ _ _ _ => .gen) (fun _ => .gen) .gen (fun _ _ => .gen)
def fofT (P : Program) (t f : Nat) : Option Nat := match fldT P t f with
 | some q => if nzT P q.2 then some q.1 else none
 | none => none
noncomputable def faK (P : Program) (t f : Nat) (x : D) : Kd := ok (fofT P t f) fun o => adK o x
def elsT (P : Program) (t : TypeId) : Option Nat := (elT P t).bind (szT P)
noncomputable def ixK (P : Program) (h : List Ob) (t : TypeId) (x i : D) : Kd := valK i fun I => intK I fun _ m => @Int.rec (fun _ => Kd) (fun m => @D.casesOn (fun _ => Kd) x .gen (fun _ => .gen)
  (fun k xs => ok (elsT P t) fun k' => bc (Z0 k' k) (ok (nthK xs m) fun row => .pu (.rp row)) .gen) (fun _ => .gen) (fun _ => .gen) (fun _ => .gen) (fun _ _ => .gen)
  (fun b n => bufK (nthK h b) fun _ k xs => ok (elsT P t) fun k' => bc (Z0 k' k) (bc (Z0 (lenK xs 0) n) (bc (Z5 (Nat.succ m) n) (.re b (.bp b n m 0)) .gen) .gen) .gen)
  (fun _ _ _ _ => .gen) (fun _ _ _ _ => .gen) (fun _ _ _ _ _ => .gen) (fun _ => .gen) .gen (fun _ _ => .gen)) (fun _ => .gen) m
noncomputable def leK (P : Program) (t : TypeId) (x : D) : Kd := bc (slT P t) (@D.casesOn (fun _ => Kd) x .gen (fun X => @Value.casesOn (fun _ => Kd) X (fun _ => .gen) (fun _ _ => .gen) (fun _ _ => .gen) (fun _ _ _ => .gen) (fun _ => .gen) (fun _ => .gen) (fun a n c => @Option.rec Addr (fun _ => Kd) (bc (Z0 n 0) (bc (Z0 c 0) (.pu (.v (.int .i64 (Int.ofNat 0)))) .gen) .gen) (fun _ => .gen) a) (fun _ => .gen) (fun _ => .gen) (fun _ _ _ => .gen) .gen (fun _ _ => .gen) .gen (fun _ => .gen) (fun _ => .gen))
  (fun _ xs => .pu (.v (.int .i64 (Int.ofNat (lenK xs 0))))) (fun _ => .gen) (fun _ => .gen) (fun _ => .gen) (fun _ _ => .gen) (fun _ n => .pu (.v (.int .i64 (Int.ofNat n)))) (fun _ _ _ _ => .gen) (fun _ _ _ _ => .gen) (fun _ _ _ _ _ => .gen) (fun _ => .gen) .gen (fun _ _ => .gen)) .gen
noncomputable def stK (P : Program) (h : List Ob) (t : TypeId) (x y : D) : Kd := ok (szT P t) fun n => ok y.cells fun es => bc (Z0 (lenK es 0) n) (bc (es.all D.one) (@D.casesOn (fun _ => Kd) x .gen (fun _ => .gen) (fun _ _ => .gen) (fun _ => .gen) (fun _ => .gen) (fun _ => .gen)
  (fun i o => cellsK (nthK h i) fun ds => bc (Z5 (Zd o n) (lenK ds 0)) (.st i (.cells (putL ds o es))) .gen) (fun _ _ => .gen)
  (fun i m r j => bufK (nthK h i) fun e k xs => ok (nthK xs r) fun row => bc (Z0 (lenK xs 0) m) (bc (Z5 (Zd j n) (lenK row 0)) (.st i (.buf e k (xs.set r (putL row j es)))) .gen) .gen)
  (fun _ _ _ _ => .gen) (fun _ _ _ _ _ => .gen) (fun _ => .gen) .gen (fun _ _ => .gen)) .gen) .gen
noncomputable def kg0 : Program → (Nat → D) → Tr → List Ob → Kd := fun _ _ _ _ => .gen
noncomputable def dispK (op : Op) : Program → (Nat → D) → Tr → List Ob → Kd := @Op.casesOn (fun _ => Program → (Nat → D) → Tr → List Ob → Kd) op
 (fun x _ G t _ => .pu (evK G t x)) -- move
 (fun x _ G t _ => .pu (evK G t x)) -- assign
 (fun c a b _ G t _ => valK (evK G t c) fun X => bolK X fun s => .pu (bc s (evK G t a) (evK G t b))) -- pick
 (fun _ => kg0) -- alloc
 (fun _ _ => kg0) -- box
 (fun t ps P G e h => puO (Zo3 P G e.get (.build t ps))) -- build
 (fun _ _ _ => kg0) -- buildSlice
 (fun _ _ _ _ => kg0) -- insert
 (fun ty x P G t h => loaK P h ty (evK G t x)) -- load
 (fun ty x y P G t h => stK P h ty (evK G t x) (evK G t y)) -- store
 (fun _ => kg0) (fun _ => kg0)
 (fun x P G t h => puO (Zo3 P G t.get (.nilCheck x))) -- nilCheck
 (fun op _ x y _ _ G t _ => binK op (evK G t x) (evK G t y)) -- binOp
 (fun u ty x P G t h => puO (Zo3 P G t.get (.unOp u ty x))) -- unOp
 (fun s d x P G t h => puO (Zo3 P G t.get (.convert s d x))) -- convert
 (fun _ _ => kg0) (fun _ _ => kg0)
 (fun f a b P G t h => puO (Zo3 P G t.get (.makeFunc f a b))) -- makeFunc
 (fun _ _ => kg0) (fun _ _ => kg0) (fun _ _ _ => kg0)
 (fun ty x l hi m P G t h => puO (Zo3 P G t.get (.slice ty x l hi m))) -- slice
 (fun ty x f P G t _ => faK P ty f (evK G t x)) -- fieldAddr
 (fun ty x f P G t h => puO (Zo3 P G t.get (.field ty x f))) -- field
 (fun ty x i P G t h => ixK P h ty (evK G t x) (evK G t i)) -- indexAddr
 (fun ty x i P G t h => puO (Zo3 P G t.get (.index ty x i))) -- index
 (fun _ _ _ _ => kg0) (fun _ _ _ _ => kg0) (fun _ _ _ => kg0) (fun _ _ _ _ => kg0) (fun _ _ => kg0) (fun _ _ => kg0) (fun _ => kg0) (fun _ _ _ _ => kg0)
 (fun x i _ G t _ => puO (extrD i (evK G t x))) -- extract
 (fun c P G t h => @Call.casesOn (fun _ => Kd) c fun cal args tys => @Callee.casesOn (fun _ => Kd) cal (fun _ => .gen) (fun _ _ => .gen) (fun b => @Builtin.casesOn (fun _ => Kd) b .gen .gen .gen .gen .gen .gen .gen .gen (ok args.toList.head? fun x => ok tys.toList.head? fun ty => bc (Z0 (lenK args.toList 0) 1) (bc (Z0 (lenK tys.toList 0) 1) (leK P ty (evK G t x)) .gen) .gen) .gen .gen .gen .gen .gen .gen .gen .gen .gen .gen .gen .gen .gen .gen .gen .gen .gen)) -- call
 (fun _ => kg0) (fun _ => kg0) (fun _ => kg0) (fun _ _ => kg0) (fun _ _ _ => kg0) (fun _ _ => kg0)
/-! That it is right. -/
section
variable {P : Program} {G : Nat → D} {o : Oper} {t : Tr} {h : List Ob}
def KOk (P : Program) (G : Nat → D) (o : Oper) (t : Tr) (h : List Ob) : Kd → Prop
 | .pu d => ∀ h2, OpTri P G o ((opds o.op).map (ev G t.get)) h2 (fun h1 d1 => h1 = h2 ∧ d1 = d)
 | .re i d => ∃ ob, h[i]? = some ob ∧ ∀ h2 : List Ob, h2[i]? = some ob → OpTri P G o ((opds o.op).map (ev G t.get)) h2 (fun h1 d1 => h1 = h2 ∧ d1 = d)
 | .st i ob' => ∃ ob, h[i]? = some ob ∧ ∀ h2 : List Ob, h2[i]? = some ob → OpTri P G o ((opds o.op).map (ev G t.get)) h2 (fun h1 d1 => h1 = h2.set i ob' ∧ d1 = .v undef)
 | .gen => True
theorem kok {α : Type} {x : Option α} {f : α → Kd} (q : ∀ a, x = some a → KOk P G o t h (f a)) : KOk P G o t h (ok x f) := by
 cases x with
 | none => trivial
 | some a => exact q a rfl
theorem kbc {b : Bool} {x y : Kd} (q : b = true → KOk P G o t h x) (r : b = false → KOk P G o t h y) : KOk P G o t h (bc b x y) := by
 cases b
 · exact r rfl
 · exact q rfl
theorem kval {d : D} {f : Value → Kd} (q : ∀ x, d = .v x → KOk P G o t h (f x)) : KOk P G o t h (valK d f) := by cases d <;> first | exact q _ rfl | trivial
theorem kint {x : Value} {f : IntKind → Int → Kd} (q : ∀ k n, x = .int k n → KOk P G o t h (f k n)) : KOk P G o t h (intK x f) := by cases x <;> first | exact q _ _ rfl | trivial
theorem kbol {x : Value} {f : Bool → Kd} (q : ∀ b, x = .bool b → KOk P G o t h (f b)) : KOk P G o t h (bolK x f) := by cases x <;> first | exact q _ rfl | trivial
theorem kcel {x : Option Ob} {f : List D → Kd} (q : ∀ ds, x = some (.cells ds) → KOk P G o t h (f ds)) : KOk P G o t h (cellsK x f) := kok fun ob hb => by cases ob <;> first | exact q _ hb | trivial
theorem kbuf {x : Option Ob} {f : TypeId → Nat → List (List D) → Kd} (q : ∀ e k xs, x = some (.buf e k xs) → KOk P G o t h (f e k xs)) : KOk P G o t h (bufK x f) := kok fun ob hb => by cases ob <;> first | exact q _ _ _ hb | trivial
theorem kpu {d : D} (q : Zo3 P G t.get o.op = some d) : KOk P G o t h (.pu d) := fun h2 => pureF_sound q h2
theorem kpuO : KOk P G o t h (puO (Zo3 P G t.get o.op)) := kok fun _ q => kpu q
end
theorem binK_ok {P : Program} {G : Nat → D} {t : Tr} {h : List Ob} {dst : Option Nat} {ty : TypeId} {pos : String} {aft : Array Edge} {gd : Option (Nat × Bool)} {op : BinOp} {t1 t2 : TypeId} {x y : Operand} : KOk P G ⟨dst, .binOp op t1 x y t2, ty, pos, aft, gd⟩ t h (binK op (evK G t x) (evK G t y)) := by
 rw [Ud, Ud]
 refine kval fun X hX => kint fun j a hj => kval fun Y hY => kint fun k b hk => kbc (fun hjk => ?_) fun _ => trivial
 have hjk := kix_inj (bqT hjk)
 subst hjk; subst hj; subst hk
 have key : ∀ v, binI op j a b = some v → KOk P G ⟨dst, .binOp op t1 x y t2, ty, pos, aft, gd⟩ t h (.pu (.v v)) := fun v hv => kpu (by
  show (match binN op (ev G t.get x) (ev G t.get y) with
   | some d => some d
   | none => match aF P G t.get [] (.binOp op t1 x y t2) with
    | some ([], d) => some d
    | _ => none) = _
  rw [hX, hY]
  simp only [binN, decide_true, cond_true, hv, Z4])
 have nb : ∀ b : Bool, bc b false true = !b := fun b => by cases b <;> rfl
 cases op <;> try trivial
 · refine key (.int j (wrK j (Int.add a b))) ?_; rw [wrK_eq]; rfl
 · refine key (.int j (wrK j (Int.sub a b))) ?_; rw [wrK_eq]; rfl
 · refine key (.int j (wrK j (Int.mul a b))) ?_; rw [wrK_eq]; rfl
 · refine key (.bool (ieq a b)) ?_; rw [ieq_eq]; rfl
 · refine key (.bool (bc (ieq a b) false true)) ?_; rw [ieq_eq, nb]; rfl
 · refine key (.bool (ilt a b)) ?_; rw [ilt_eq]; rfl
 · refine key (.bool (bc (ilt b a) false true)) ?_
   rw [ilt_eq, nb]
   show some (Value.bool (decide (a ≤ b))) = _
   congr 2
   rw [Zf]; simp
 · refine key (.bool (ilt b a)) ?_; rw [ilt_eq]; rfl
 · refine key (.bool (bc (ilt a b) false true)) ?_
   rw [ilt_eq, nb]
   show some (Value.bool (decide (b ≤ a))) = _
   congr 2
   rw [Zf]; simp
end
section
section
variable {P : Program} {G : Nat → D} {t : Tr} {h : List Ob} {dst : Option Nat} {ty : TypeId} {pos : String} {aft : Array Edge} {gd : Option (Nat × Bool)}
theorem kaF {op : Op} {d : D} (q : ∀ h2, aF P G t.get h2 op = some (h2, d)) : KOk P G ⟨dst, op, ty, pos, aft, gd⟩ t h (.pu d) := fun h2 => Uo (o := ⟨dst, op, ty, pos, aft, gd⟩) (Zg1 (q h2) ⟨rfl, rfl⟩)
theorem kaR {op : Op} {d : D} {i : Nat} {ob : Ob} (hi : nthK h i = some ob) (q : ∀ h2 : List Ob, h2[i]? = some ob → aF P G t.get h2 op = some (h2, d)) : KOk P G ⟨dst, op, ty, pos, aft, gd⟩ t h (.re i d) := ⟨ob, by rw [← Jg]; exact hi, fun h2 k => Uo (o := ⟨dst, op, ty, pos, aft, gd⟩) (Zg1 (q h2 k) ⟨rfl, rfl⟩)⟩
theorem kaS {op : Op} {i : Nat} {ob ob' : Ob} (hi : nthK h i = some ob) (q : ∀ h2 : List Ob, h2[i]? = some ob → aF P G t.get h2 op = some (h2.set i ob', .v undef)) : KOk P G ⟨dst, op, ty, pos, aft, gd⟩ t h (.st i ob') := ⟨ob, by rw [← Jg]; exact hi, fun h2 k => Uo (o := ⟨dst, op, ty, pos, aft, gd⟩) (Zg1 (q h2 k) ⟨rfl, rfl⟩)⟩
theorem loaK_ok {u : TypeId} {x : Operand} : KOk P G ⟨dst, .load u x, ty, pos, aft, gd⟩ t h (loaK P h u (evK G t x)) := by
 rw [Ud]
 generalize hx : ev G t.get x = X
 cases X <;> try trivial
 case rp ds =>
  refine kok fun d hd => kaF fun h2 => ?_
  rw [Yh6] at hd
  simp only [aF, Vl, hx, Uy, hd, Z4]
 case ptr i o =>
  refine kcel fun ds hds => kok fun d hd => kaR hds fun h2 hi => ?_
  rw [Yh6] at hd
  simp only [aF, Vl, hx, Uy, hi, hd, Z4]
 case bp i n r j =>
  refine kbuf fun e k xs hxs => kbc (fun hn => kok fun row hrow => kok fun d hd => kaR hxs fun h2 hi => ?_) fun _ => trivial
  rw [Yh6] at hd
  rw [Jg] at hrow
  have hn := bqT hn
  rw [V8, Z3] at hn
  simp only [aF, Vl, hx, Uy, hi, if_pos hn, hrow, Option.bind_some, hd, Z4]
theorem faK_ok {u f : Nat} {x : Operand} : KOk P G ⟨dst, .fieldAddr u x f, ty, pos, aft, gd⟩ t h (faK P u f (evK G t x)) := by
 rw [Ud]
 refine kok fun o ho => ?_
 have key : ∀ d, addD o (ev G t.get x) = some d → ∀ h2, aF P G t.get h2 (.fieldAddr u x f) = some (h2, d) := fun d hd h2 => by
  unfold fofT at ho
  split at ho
  · rename_i q hq
    split at ho
    · rename_i hz
      cases ho
      simp only [aF, Vl, Zy1, hq, Option.bind_some, if_pos hz, hd, Z4]
    · cases ho
  · cases ho
 generalize ev G t.get x = X at key ⊢
 cases X <;> first | exact kaF (key _ rfl) | trivial
theorem ixK_ok {u : Nat} {x i : Operand} : KOk P G ⟨dst, .indexAddr u x i, ty, pos, aft, gd⟩ t h (ixK P h u (evK G t x) (evK G t i)) := by
 rw [Ud, Ud]
 refine kval fun I hI => kint fun k0 m hm => ?_
 subst hm
 rcases m with m | m
 rotate_left
 · trivial
 generalize hx : ev G t.get x = X
 cases X <;> try trivial
 case sl k xs =>
  refine kok fun k' hk' => kbc (fun hk => kok fun row hrow => kaF fun h2 => ?_) fun _ => trivial
  have hk := bqT hk
  rw [Jg] at hrow
  have hlt := (Z9.1 hrow).1
  subst hk
  have h1 : (elT P u).bind (szT P) = some k' := hk'
  have h2' : (0 : Int) ≤ (m : Int) ∧ (m : Int) < (xs.length : Int) := by omega
  simp only [aF, Vl, hx, hI, idxF, Z1, h1, h2', and_self, if_true, Int.toNat_natCast, hrow, Z4]
 case buf b n =>
  refine kbuf fun e k xs hxs => kok fun k' hk' => kbc (fun hk => kbc (fun hn => kbc (fun hlt => kaR hxs fun h2 hi => ?_) fun _ => trivial) fun _ => trivial) fun _ => trivial
  have hk := bqT hk
  have hn := bqT hn
  rw [V8, Z3] at hn
  have hlt := Z2 hlt
  subst hk
  have h1 : (elT P u).bind (szT P) = some k' := hk'
  have h2' : (0 : Int) ≤ (m : Int) ∧ (m : Int) < (n : Int) := by omega
  simp only [aF, Vl, hx, hI, idxF, hi, Z1, h1, hn, h2', and_self, if_true, Int.toNat_natCast, Z4]
theorem stK_ok {u : Nat} {x y : Operand} : KOk P G ⟨dst, .store u x y, ty, pos, aft, gd⟩ t h (stK P h u (evK G t x) (evK G t y)) := by
 rw [Ud, Ud]
 refine kok fun n hn => kok fun es hes => kbc (fun hl => kbc (fun hone => ?_) fun _ => trivial) fun _ => trivial
 have hl := bqT hl
 rw [V8, Z3] at hl
 subst hl
 have hc : (es.all D.one && szT P u == some es.length) = true := by simp [hone, hn]
 generalize hx : ev G t.get x = X
 cases X <;> try trivial
 case ptr i o =>
  refine kcel fun ds hds => kbc (fun hle => kaS hds fun h2 hi => ?_) fun _ => trivial
  have hle := Z2 hle
  rw [V8, Z3] at hle
  simp only [aF, hx, Zb9, hes, hc, if_true, hi, if_pos (show o + es.length ≤ ds.length from hle), Z4]
 case bp i m r j =>
  refine kbuf fun e k xs hxs => kok fun row hrow => kbc (fun hm => kbc (fun hle => kaS hxs fun h2 hi => ?_) fun _ => trivial) fun _ => trivial
  have hm := bqT hm
  rw [V8, Z3] at hm
  rw [Jg] at hrow
  have hle := Z2 hle
  rw [V8, Z3] at hle
  simp only [aF, hx, Zb9, hes, hc, if_true, hi, if_pos hm, hrow, if_pos (show j + es.length ≤ row.length from hle), Z4]
theorem leK_ok {u : Nat} {x : Operand} : KOk P G ⟨dst, .call ⟨.builtin .len, #[x], #[u]⟩, ty, pos, aft, gd⟩ t h (leK P u (evK G t x)) := by
 rw [Ud]
 refine kbc (fun hs => ?_) fun _ => trivial
 have key : ∀ d, lenD P u (ev G t.get x) = some d → KOk P G ⟨dst, .call ⟨.builtin .len, #[x], #[u]⟩, ty, pos, aft, gd⟩ t h (.pu d) := fun d hd => kaF fun h2 => by
  show Vl h2 (lenD P u (ev G t.get x)) = _
  rw [hd]; rfl
 generalize hx : ev G t.get x = X
 rw [hx] at key
 cases X <;> try trivial
 case v X =>
  cases X <;> try trivial
  case slice a n c =>
   cases a
   · refine kbc (fun hn => kbc (fun hc => ?_) fun _ => trivial) fun _ => trivial
     have hn := bqT hn
     have hc := bqT hc
     subst hn; subst hc
     exact key _ (lenD_nil hs)
   · trivial
 case sl k xs =>
  refine key _ ?_
  rw [V8, Z3]; exact lenD_sl hs
 case buf i n => exact key _ (lenD_buf hs)
theorem dispK_ok {op : Op} : KOk P G ⟨dst, op, ty, pos, aft, gd⟩ t h (dispK op P G t h) := by
 cases op <;> try trivial
 case move x => exact kaF fun h2 => by show some (h2, ev G t.get x) = _; rw [Ud]
 case assign x => exact kaF fun h2 => by show some (h2, ev G t.get x) = _; rw [Ud]
 case pick c x y =>
  show KOk _ _ _ _ _ (valK (evK G t c) fun X => bolK X fun s => .pu (bc s (evK G t x) (evK G t y)))
  rw [Ud, Ud, Ud]
  refine kval fun X hX => kbol fun s hs => kaF fun h2 => ?_
  subst hs
  simp only [aF, hX]
  cases s <;> rfl
 case build t ps => exact kpuO (o := ⟨dst, _, ty, pos, aft, gd⟩)
 case load u x => exact loaK_ok
 case store u x y => exact stK_ok
 case nilCheck x => exact kpuO (o := ⟨dst, _, ty, pos, aft, gd⟩)
 case binOp op t1 x y t2 => exact binK_ok
 case unOp op u x => exact kpuO (o := ⟨dst, _, ty, pos, aft, gd⟩)
 case convert u v x => exact kpuO (o := ⟨dst, _, ty, pos, aft, gd⟩)
 case makeFunc f a b => exact kpuO (o := ⟨dst, _, ty, pos, aft, gd⟩)
 case slice u x l hi m => exact kpuO (o := ⟨dst, _, ty, pos, aft, gd⟩)
 case fieldAddr u x f => exact faK_ok
 case field u x f => exact kpuO (o := ⟨dst, _, ty, pos, aft, gd⟩)
 case indexAddr u x i => exact ixK_ok
 case index u x i => exact kpuO (o := ⟨dst, _, ty, pos, aft, gd⟩)
 case extract x i =>
  show KOk _ _ _ _ _ (puO (extrD i (evK G t x)))
  rw [Ud]
  exact kok fun d hd => kaF fun h2 => by simp only [aF, Vl, hd, Z4]
 case call c =>
  obtain ⟨cal, args, tys⟩ := c
  cases cal <;> try trivial
  case builtin b =>
  cases b <;> try trivial
  case len =>
   refine kok fun x hx => kok fun u hu => kbc (fun h1 => kbc (fun h2 => ?_) fun _ => trivial) fun _ => trivial
   have h1 := bqT h1
   have h2 := bqT h2
   rw [V8, Z3] at h1 h2
   have e1 : args = #[x] := by
    obtain ⟨l⟩ := args
    match l, hx, h1 with
    | [a], hx, _ => cases hx; rfl
   have e2 : tys = #[u] := by
    obtain ⟨l⟩ := tys
    match l, hu, h2 with
    | [a], hu, _ => cases hu; rfl
   subst e1; subst e2
   exact leK_ok
end
end
section
noncomputable def posK (i : Nat) (R : List Nat) : Nat → Option Nat := @List.rec Nat (fun _ => Nat → Option Nat) (fun _ => none) (fun a _ ih j => bc (Z0 a i) (some j) (ih (Zd j 1))) R
theorem posK_eq (i : Nat) : ∀ (R : List Nat) (j : Nat), posK i R j = (pos i R).map (· + j)
 | [], _ => rfl
 | a :: t, j => by
  show bc (Z0 a i) (some j) (posK i t (j + 1)) = _
  rw [Vj, posK_eq i t, pos]
  cases Z0 a i
  · simp only [cond_false]
    cases pos i t with
    | none => rfl
    | some k => simp; omega
  · simp
theorem Yc2 (i : Nat) (R : List Nat) : posK i R 0 = pos i R := by rw [posK_eq]; cases pos i R <;> rfl
noncomputable def refsK (d : D) : List Nat → List Nat := @D.rec (fun _ => List Nat → List Nat) (fun _ => List Nat → List Nat) (fun _ => List Nat → List Nat) (fun a => a) (fun _ a => a) (fun _ _ ih => ih) (fun _ ih => ih) (fun _ ih => ih) (fun _ ih => ih) (fun i _ a => i :: a) (fun i _ a => i :: a) (fun i _ _ _ a => i :: a) (fun i _ _ _ a => i :: a) (fun i _ _ _ _ a => i :: a) (fun i a => i :: a) (fun a => a) (fun _ _ ih => ih) (fun a => a) (fun _ _ ih1 ih2 a => ih1 (ih2 a)) (fun a => a) (fun _ _ ih1 ih2 a => ih1 (ih2 a)) d
noncomputable def refsLK (l : List D) : List Nat → List Nat := @List.rec D (fun _ => List Nat → List Nat) (fun a => a) (fun d _ ih a => refsK d (ih a)) l
noncomputable def noR (d : D) : Bool := @D.rec (fun _ => Bool) (fun _ => Bool) (fun _ => Bool) true (fun _ => true) (fun _ _ ih => ih) (fun _ ih => ih) (fun _ ih => ih) (fun _ ih => ih) (fun _ _ => false) (fun _ _ => false) (fun _ _ _ _ => false) (fun _ _ _ _ => false) (fun _ _ _ _ _ => false) (fun _ => false) true (fun _ _ ih => ih) true (fun _ _ ih1 ih2 => @Bool.rec (fun _ => Bool) false ih2 ih1) true (fun _ _ ih1 ih2 => @Bool.rec (fun _ => Bool) false ih2 ih1) d
noncomputable def noR2 (d : List (List D)) : Bool := @D.rec_1 (fun _ => Bool) (fun _ => Bool) (fun _ => Bool) true (fun _ => true) (fun _ _ ih => ih) (fun _ ih => ih) (fun _ ih => ih) (fun _ ih => ih) (fun _ _ => false) (fun _ _ => false) (fun _ _ _ _ => false) (fun _ _ _ _ => false) (fun _ _ _ _ _ => false) (fun _ => false) true (fun _ _ ih => ih) true (fun _ _ ih1 ih2 => @Bool.rec (fun _ => Bool) false ih2 ih1) true (fun _ _ ih1 ih2 => @Bool.rec (fun _ => Bool) false ih2 ih1) d
noncomputable def noR3 (d : List D) : Bool := @D.rec_2 (fun _ => Bool) (fun _ => Bool) (fun _ => Bool) true (fun _ => true) (fun _ _ ih => ih) (fun _ ih => ih) (fun _ ih => ih) (fun _ ih => ih) (fun _ _ => false) (fun _ _ => false) (fun _ _ _ _ => false) (fun _ _ _ _ => false) (fun _ _ _ _ _ => false) (fun _ => false) true (fun _ _ ih => ih) true (fun _ _ ih1 ih2 => @Bool.rec (fun _ => Bool) false ih2 ih1) true (fun _ _ ih1 ih2 => @Bool.rec (fun _ => Bool) false ih2 ih1) d
theorem Yg1 {a b : Bool} (h : @Bool.rec (fun _ => Bool) false b a = true) : a = true ∧ b = true := by cases a <;> cases b <;> first | exact ⟨rfl, rfl⟩ | cases h
mutual
theorem noR_low : ∀ d, noR d = true → low 0 d
 | .any, _ => by rw [low]; trivial
 | .v _, _ => by rw [low]; trivial
 | .sl _ xs, h => by rw [low]; exact noR2_low xs h
 | .agg ds, h => by rw [low]; exact J8 ds h
 | .tup ds, h => by rw [low]; exact J8 ds h
 | .rp ds, h => by rw [low]; exact J8 ds h
 | .ptr _ _, h => by cases h
 | .buf _ _, h => by cases h
 | .bp _ _ _ _, h => by cases h
 | .win _ _ _ _, h => by cases h
 | .arr _ _ _ _ _, h => by cases h
 | .mp _, h => by cases h
 | .e0, _ => by rw [low]; trivial
 | .fn _ ds, h => by rw [low]; exact J8 ds h
theorem J8 : ∀ d, noR3 d = true → lowL 0 d
 | [], _ => by rw [lowL]; trivial
 | d :: t, h => by rw [lowL]; exact ⟨noR_low d (Yg1 h).1, J8 t (Yg1 h).2⟩
theorem noR2_low : ∀ d, noR2 d = true → lowR 0 d
 | [], _ => by rw [lowR]; trivial
 | d :: t, h => by rw [lowR]; exact ⟨J8 d (Yg1 h).1, noR2_low t (Yg1 h).2⟩
end
noncomputable def rnK (R : List Nat) (d : D) : Option D := @D.rec (fun _ => Option D) (fun _ => Option (List (List D))) (fun _ => Option (List D)) (some .any) (fun x => some (.v x)) (fun k _ ih => @Option.rec (List (List D)) (fun _ => Option D) none (fun ys => some (.sl k ys)) ih) (fun _ ih => @Option.rec (List D) (fun _ => Option D) none (fun ys => some (.agg ys)) ih) (fun _ ih => @Option.rec (List D) (fun _ => Option D) none (fun ys => some (.tup ys)) ih) (fun _ ih => @Option.rec (List D) (fun _ => Option D) none (fun ys => some (.rp ys)) ih) (fun i o => @Option.rec Nat (fun _ => Option D) none (fun z => some (.ptr z o)) (posK i R 0)) (fun i n => @Option.rec Nat (fun _ => Option D) none (fun z => some (.buf z n)) (posK i R 0)) (fun i n r j => @Option.rec Nat (fun _ => Option D) none (fun z => some (.bp z n r j)) (posK i R 0)) (fun i n a b => @Option.rec Nat (fun _ => Option D) none (fun z => some (.win z n a b)) (posK i R 0)) (fun i o n c k => @Option.rec Nat (fun _ => Option D) none (fun z => some (.arr z o n c k)) (posK i R 0)) (fun i => @Option.rec Nat (fun _ => Option D) none (fun z => some (.mp z)) (posK i R 0)) (some .e0) (fun f _ ih => @Option.rec (List D) (fun _ => Option D) none (fun ys => some (.fn f ys)) ih) (some []) (fun _ _ ih1 ih2 => @Option.rec (List D) (fun _ => Option (List (List D))) none (fun x => @Option.rec (List (List D)) (fun _ => Option (List (List D))) none (fun y => some (x :: y)) ih2) ih1) (some []) (fun _ _ ih1 ih2 => @Option.rec D (fun _ => Option (List D)) none (fun x => @Option.rec (List D) (fun _ => Option (List D)) none (fun y => some (x :: y)) ih2) ih1) d
noncomputable def rnK2 (R : List Nat) (d : List (List D)) : Option (List (List D)) := @D.rec_1 (fun _ => Option D) (fun _ => Option (List (List D))) (fun _ => Option (List D)) (some .any) (fun x => some (.v x)) (fun k _ ih => @Option.rec (List (List D)) (fun _ => Option D) none (fun ys => some (.sl k ys)) ih) (fun _ ih => @Option.rec (List D) (fun _ => Option D) none (fun ys => some (.agg ys)) ih) (fun _ ih => @Option.rec (List D) (fun _ => Option D) none (fun ys => some (.tup ys)) ih) (fun _ ih => @Option.rec (List D) (fun _ => Option D) none (fun ys => some (.rp ys)) ih) (fun i o => @Option.rec Nat (fun _ => Option D) none (fun z => some (.ptr z o)) (posK i R 0)) (fun i n => @Option.rec Nat (fun _ => Option D) none (fun z => some (.buf z n)) (posK i R 0)) (fun i n r j => @Option.rec Nat (fun _ => Option D) none (fun z => some (.bp z n r j)) (posK i R 0)) (fun i n a b => @Option.rec Nat (fun _ => Option D) none (fun z => some (.win z n a b)) (posK i R 0)) (fun i o n c k => @Option.rec Nat (fun _ => Option D) none (fun z => some (.arr z o n c k)) (posK i R 0)) (fun i => @Option.rec Nat (fun _ => Option D) none (fun z => some (.mp z)) (posK i R 0)) (some .e0) (fun f _ ih => @Option.rec (List D) (fun _ => Option D) none (fun ys => some (.fn f ys)) ih) (some []) (fun _ _ ih1 ih2 => @Option.rec (List D) (fun _ => Option (List (List D))) none (fun x => @Option.rec (List (List D)) (fun _ => Option (List (List D))) none (fun y => some (x :: y)) ih2) ih1) (some []) (fun _ _ ih1 ih2 => @Option.rec D (fun _ => Option (List D)) none (fun x => @Option.rec (List D) (fun _ => Option (List D)) none (fun y => some (x :: y)) ih2) ih1) d
noncomputable def rnK3 (R : List Nat) (d : List D) : Option (List D) := @D.rec_2 (fun _ => Option D) (fun _ => Option (List (List D))) (fun _ => Option (List D)) (some .any) (fun x => some (.v x)) (fun k _ ih => @Option.rec (List (List D)) (fun _ => Option D) none (fun ys => some (.sl k ys)) ih) (fun _ ih => @Option.rec (List D) (fun _ => Option D) none (fun ys => some (.agg ys)) ih) (fun _ ih => @Option.rec (List D) (fun _ => Option D) none (fun ys => some (.tup ys)) ih) (fun _ ih => @Option.rec (List D) (fun _ => Option D) none (fun ys => some (.rp ys)) ih) (fun i o => @Option.rec Nat (fun _ => Option D) none (fun z => some (.ptr z o)) (posK i R 0)) (fun i n => @Option.rec Nat (fun _ => Option D) none (fun z => some (.buf z n)) (posK i R 0)) (fun i n r j => @Option.rec Nat (fun _ => Option D) none (fun z => some (.bp z n r j)) (posK i R 0)) (fun i n a b => @Option.rec Nat (fun _ => Option D) none (fun z => some (.win z n a b)) (posK i R 0)) (fun i o n c k => @Option.rec Nat (fun _ => Option D) none (fun z => some (.arr z o n c k)) (posK i R 0)) (fun i => @Option.rec Nat (fun _ => Option D) none (fun z => some (.mp z)) (posK i R 0)) (some .e0) (fun f _ ih => @Option.rec (List D) (fun _ => Option D) none (fun ys => some (.fn f ys)) ih) (some []) (fun _ _ ih1 ih2 => @Option.rec (List D) (fun _ => Option (List (List D))) none (fun x => @Option.rec (List (List D)) (fun _ => Option (List (List D))) none (fun y => some (x :: y)) ih2) ih1) (some []) (fun _ _ ih1 ih2 => @Option.rec D (fun _ => Option (List D)) none (fun x => @Option.rec (List D) (fun _ => Option (List D)) none (fun y => some (x :: y)) ih2) ih1) d
section
variable (R : List Nat)
mutual
theorem rnK_eq : ∀ d, rnK R d = rnO R d
 | .any => by rw [rnO]; rfl
 | .v _ => by rw [rnO]; rfl
 | .e0 => by rw [rnO]; rfl
 | .sl k xs => by rw [rnO, ← rnK2_eq xs]; show @Option.rec _ _ _ _ (rnK2 R xs) = _; cases rnK2 R xs <;> rfl
 | .agg xs => by rw [rnO, ← Za1 xs]; show @Option.rec _ _ _ _ (rnK3 R xs) = _; cases rnK3 R xs <;> rfl
 | .tup xs => by rw [rnO, ← Za1 xs]; show @Option.rec _ _ _ _ (rnK3 R xs) = _; cases rnK3 R xs <;> rfl
 | .rp xs => by rw [rnO, ← Za1 xs]; show @Option.rec _ _ _ _ (rnK3 R xs) = _; cases rnK3 R xs <;> rfl
 | .fn f xs => by rw [rnO, ← Za1 xs]; show @Option.rec _ _ _ _ (rnK3 R xs) = _; cases rnK3 R xs <;> rfl
 | .ptr i o => by rw [rnO, ← Yc2]; show @Option.rec _ _ _ _ (posK i R 0) = _; cases posK i R 0 <;> rfl
 | .buf i o => by rw [rnO, ← Yc2]; show @Option.rec _ _ _ _ (posK i R 0) = _; cases posK i R 0 <;> rfl
 | .bp i n r c => by rw [rnO, ← Yc2]; show @Option.rec _ _ _ _ (posK i R 0) = _; cases posK i R 0 <;> rfl
 | .win i n r c => by rw [rnO, ← Yc2]; show @Option.rec _ _ _ _ (posK i R 0) = _; cases posK i R 0 <;> rfl
 | .arr i o n c k => by rw [rnO, ← Yc2]; show @Option.rec _ _ _ _ (posK i R 0) = _; cases posK i R 0 <;> rfl
 | .mp i => by rw [rnO, ← Yc2]; show @Option.rec _ _ _ _ (posK i R 0) = _; cases posK i R 0 <;> rfl
theorem Za1 : ∀ d, rnK3 R d = rnL R d
 | [] => by rw [rnL]; rfl
 | d :: t => by
  rw [rnL, ← rnK_eq d, ← Za1 t]
  show @Option.rec _ _ _ _ (rnK R d) = _
  cases rnK R d with
  | none => rfl
  | some x => show @Option.rec _ _ _ _ (rnK3 R t) = _; cases rnK3 R t <;> rfl
theorem rnK2_eq : ∀ d, rnK2 R d = rnR R d
 | [] => by rw [rnR]; rfl
 | d :: t => by
  rw [rnR, ← Za1 d, ← rnK2_eq t]
  show @Option.rec _ _ _ _ (rnK3 R d) = _
  cases rnK3 R d with
  | none => rfl
  | some x => show @Option.rec _ _ _ _ (rnK2 R t) = _; cases rnK2 R t <;> rfl
end
end
noncomputable def rnObK (R : List Nat) (o : Ob) : Option Ob := @Ob.casesOn (fun _ => Option Ob) o (fun ds => @Option.rec (List D) (fun _ => Option Ob) none (fun ys => some (.cells ys)) (rnK3 R ds)) (fun e k xs => @Option.rec (List (List D)) (fun _ => Option Ob) none (fun ys => some (.buf e k ys)) (rnK2 R xs))
 (fun es c => rnOb R (.map es c)) (fun m s l a => rnOb R (.iter m s l a)) (some .hole) (some .dead)
theorem rnObK_eq (R : List Nat) (o : Ob) : rnObK R o = rnOb R o := by
 cases o with
 | cells ds => rw [rnOb, ← Za1]; show @Option.rec _ _ _ _ (rnK3 R ds) = _; cases rnK3 R ds <;> rfl
 | buf e k xs => rw [rnOb, ← rnK2_eq]; show @Option.rec _ _ _ _ (rnK2 R xs) = _; cases rnK2 R xs <;> rfl
 | _ => rfl
noncomputable def rnHK (R : List Nat) (h : List Ob) (l : List Nat) : Option (List Ob) := @List.rec Nat (fun _ => Option (List Ob)) (some []) (fun i _ ih => @Option.rec Ob (fun _ => Option (List Ob)) none (fun ob => @Option.rec Ob (fun _ => Option (List Ob)) none (fun ob' => @Option.rec (List Ob) (fun _ => Option (List Ob)) none (fun t => some (ob' :: t)) ih) (rnObK R ob)) (nthK h i)) l
theorem Yf9 (R : List Nat) (h : List Ob) : ∀ l, rnHK R h l = rnH R h l
 | [] => by rw [rnH]; rfl
 | i :: t => by
  rw [rnH, ← Yf9 R h t, ← Jg]
  show @Option.rec _ _ _ _ (nthK h i) = _
  cases nthK h i with
  | none => rfl
  | some ob =>
   simp only
   rw [← rnObK_eq]
   show @Option.rec _ _ _ _ (rnObK R ob) = _
   cases rnObK R ob with
   | none => rfl
   | some ob' => show @Option.rec _ _ _ _ (rnHK R h t) = _; cases rnHK R h t <;> rfl
noncomputable def memK (i : Nat) (l : List Nat) : Bool := @List.rec Nat (fun _ => Bool) false (fun a _ ih => bc (Z0 a i) true ih) l
theorem Yi4 (i : Nat) : ∀ l, memK i l = memN i l
 | [] => rfl
 | a :: t => by show bc (Z0 a i) true (memK i t) = _; rw [Vj, Yi4 i t, memN]
noncomputable def nodupK (l : List Nat) : Bool := @List.rec Nat (fun _ => Bool) true (fun a t ih => bc (memK a t) false ih) l
theorem Zl5 : ∀ l, nodupK l = Jt l
 | [] => rfl
 | a :: t => by show bc (memK a t) false (nodupK t) = _; rw [Vj, Yi4, Zl5 t, Jt]
noncomputable def addK (l R : List Nat) : List Nat := @List.rec Nat (fun _ => List Nat → List Nat) (fun R => R) (fun i _ ih R => bc (memK i R) (ih R) (ih (R ++ [i]))) l R
noncomputable def refsObK (o : Ob) : List Nat := @Ob.casesOn (fun _ => List Nat) o (fun ds => refsLK ds []) (fun _ _ xs => refsK (.sl 0 xs) []) (fun es _ => refsOb (.map es 0)) (fun m _ _ _ => [m]) [] []
noncomputable def closeK (h : List Ob) (k : Nat) : Nat → List Nat → List Nat := @Nat.rec (fun _ => Nat → List Nat → List Nat) (fun _ R => R) (fun _ ih j R => @Option.rec Nat (fun _ => List Nat) R (fun i => @Option.rec Ob (fun _ => List Nat) (ih (Zd j 1) R) (fun ob => ih (Zd j 1) (addK (refsObK ob) R)) (nthK h i)) (nthK R j)) k
end
section
variable {P : Program} {G : Nat → D} {n : Nat} {h : List Ob} {t : Tr}
inductive Er where
 | no
 | mk (E : Ef) (h : List Ob)
def EffOk (P : Program) (G : Nat → D) (o : Oper) (e : Nat → D) (h : List Ob) (E : Ef) (h' : List Ob) : Prop := YT P G o ((opds o.op).map (ev G e)) E ∧ h.length ≤ h'.length ∧ ∀ T, h'.length - h.length ≤ T → E.ok (h ++ holes T) ∧ E.heap (h ++ holes T) = h' ++ holes (T - (h'.length - h.length))
noncomputable def erO {α : Type} (x : Option α) (f : α → Er) : Er := @Option.rec α (fun _ => Er) .no f x
theorem Zq2 {α : Type} {x : Option α} {f : α → Er} {E : Ef} {h' : List Ob} (q : erO x f = .mk E h') : ∃ a, x = some a ∧ f a = .mk E h' := by
 cases x with
 | none => cases q
 | some a => exact ⟨a, rfl, q⟩
theorem bc_mk {b : Bool} {x : Er} {E : Ef} {h' : List Ob} (q : bc b x .no = .mk E h') : b = true ∧ x = .mk E h' := by
 cases b
 · cases q
 · exact ⟨rfl, q⟩
noncomputable def evL (G : Nat → D) (t : Tr) (l : List Operand) : List D := @List.rec Operand (fun _ => List D) [] (fun x _ ih => evK G t x :: ih) l
theorem evL_eq (G : Nat → D) (t : Tr) : ∀ l, evL G t l = l.map (ev G t.get)
 | [] => rfl
 | x :: l => by show evK G t x :: evL G t l = _; rw [Ud, evL_eq G t l]; rfl
noncomputable def appK {α : Type} (a b : List α) : List α := @List.rec α (fun _ => List α) b (fun x _ ih => x :: ih) a
theorem appK_eq {α : Type} (b : List α) : ∀ a, appK a b = a ++ b
 | [] => rfl
 | x :: a => by show x :: appK a b = _; rw [appK_eq b a]; rfl
noncomputable def isCallK (op : Op) : Bool := @Op.casesOn (fun _ => Bool) op (fun _ => false) (fun _ => false) (fun _ _ _ => false) (fun _ => false) (fun _ _ => false) (fun _ _ => false) (fun _ _ _ => false) (fun _ _ _ _ => false) (fun _ _ => false) (fun _ _ _ => false) (fun _ => false) (fun _ => false) (fun _ => false) (fun _ _ _ _ _ => false) (fun _ _ _ => false) (fun _ _ _ => false) (fun _ _ => false) (fun _ _ => false) (fun _ _ _ => false) (fun _ _ => false) (fun _ _ => false) (fun _ _ _ => false) (fun _ _ _ _ _ => false) (fun _ _ _ => false) (fun _ _ _ => false) (fun _ _ _ => false) (fun _ _ _ => false) (fun _ _ _ _ => false) (fun _ _ _ _ => false) (fun _ _ _ => false) (fun _ _ _ _ => false) (fun _ _ => false) (fun _ _ => false) (fun _ => false) (fun _ _ _ _ => false) (fun _ _ => false)
 (fun c => @Call.casesOn (fun _ => Bool) c fun cal _ _ => @Callee.casesOn (fun _ => Bool) cal (fun _ => true) (fun _ _ => false) (fun _ => false)) (fun _ => false) (fun _ => false) (fun _ => false) (fun _ _ => false) (fun _ _ _ => false) (fun _ _ => false)
theorem isCallK_spec {op : Op} (q : isCallK op = true) : ∃ x args tys, op = .call ⟨.value x, args, tys⟩ := by
 cases op <;> try (cases q; done)
 case call c =>
  obtain ⟨cal, args, tys⟩ := c
  cases cal <;> first | exact ⟨_, _, _, rfl⟩ | cases q
noncomputable def goC (cal : Cal) (R : List Nat) (h : List Ob) (args1 : List D) (h1 : List Ob) : Er := @List.casesOn D (fun _ => Er) args1 .no fun x xs => @D.casesOn (fun _ => Er) x .no (fun _ => .no) (fun _ _ => .no) (fun _ => .no) (fun _ => .no) (fun _ => .no) (fun _ _ => .no) (fun _ _ => .no) (fun _ _ _ _ => .no) (fun _ _ _ _ => .no) (fun _ _ _ _ _ => .no) (fun _ => .no) .no
 (fun f cap => erO (cal f (appK xs cap) h1) fun r => @Prod.casesOn (List Ob) D (fun _ => Er) r fun h1' r1 => bc (Z5 (lenK h1 0) (lenK h1' 0)) (.mk (mkEf R h h1 h1' r1) (mkH R h h1')) .no)
noncomputable def effC (G : Nat → D) (cal : Cal) (t : Tr) (h : List Ob) (op : Op) : Er := (fun args => bc (noR3 args) (goC cal [] h args []) ((fun R => erO (rnHK R h R) fun h1 => erO (rnK3 R args) fun args1 => bc (nodupK R) (goC cal R h args1 h1) .no) (closeK h 4000 0 (addK (refsLK args []) [])))) (evL G t (opds op))
noncomputable def goX (P : Program) (G : Nat → D) (R : List Nat) (h : List Ob) (env : Nat → D) (h1 : List Ob) (op : Op) : Er := erO (xF P G env h1 op) fun r => @Prod.casesOn (List Ob) D (fun _ => Er) r fun h1' r1 => bc (Z5 (lenK h1 0) (lenK h1' 0)) (.mk (mkEf R h h1 h1' r1) (mkH R h h1')) .no
noncomputable def renEnvK (R : List Nat) (t : Tr) : Nat → D := fun i => @Option.rec D (fun _ => D) .any (fun d => d) (rnK R (getK t i))
noncomputable def effX (P : Program) (G : Nat → D) (t : Tr) (h : List Ob) (op : Op) : Er := (fun args => bc (noR3 args) (goX P G [] h (getK t) [] op) ((fun R => erO (rnHK R h R) fun h1 => erO (rnK3 R args) fun _ => bc (nodupK R) (goX P G R h (renEnvK R t) h1 op) .no) (closeK h 4000 0 (addK (refsLK args []) [])))) (evL G t (opds op))
theorem renEnvK_eq (R : List Nat) (t : Tr) : renEnvK R t = Zp8 R t.get := funext fun i => by
 show @Option.rec D (fun _ => D) .any (fun d => d) (rnK R (getK t i)) = _
 unfold Zp8
 rw [rnK_eq, Zx5]
 cases rnO R (t.get i) <;> rfl
theorem goC_ok (hG : ∀ g, low 0 (G g)) {cal : Cal} (hc : Ya5 P G cal) {o : Oper} {R : List Nat} {h1 : List Ob} {args1 : List D} {E : Ef} {h' : List Ob} (hcall : isCallK o.op = true) (hr : rnH R h R = some h1) (nd : Jt R = true) (ha : renL (plcN R h.length) args1 = (opds o.op).map (ev G t.get)) (la : lowL R.length args1) (q : goC cal R h args1 h1 = .mk E h') : EffOk P G o t.get h E h' := by
 obtain ⟨dst, op, ty, pos, aft, gd⟩ := o
 obtain ⟨x, args, tys, rfl⟩ := isCallK_spec hcall
 cases args1 with
 | nil => cases q
 | cons y xs =>
 cases y <;> try (cases q; done)
 case fn f cap =>
 obtain ⟨⟨h1', r1⟩, hcal, q⟩ := Zq2 q
 obtain ⟨hle, q⟩ := bc_mk q
 have hle := Z2 hle
 rw [V8, V8, Z3, Z3] at hle
 cases q
 rw [appK_eq] at hcal
 have tri : OpTri P G ⟨dst, .call ⟨.value x, args, tys⟩, ty, pos, aft, gd⟩ (.fn f cap :: xs) h1 (fun h2 r => h2 = h1' ∧ r = r1) := by
  rcases hc _ _ _ _ _ hcal with ⟨he, h3⟩ | ⟨_, rfl, h3⟩
  · exact tri_of_call he h3
  · exact Ya6 h3
 have := Yc5 hG hr nd hle tri la
 rw [ha] at this
 refine ⟨this.1, by rw [Yi3]; omega, fun T hT => ?_⟩
 rw [Yi3] at hT ⊢
 rw [show h.length + (h1'.length - R.length) - h.length = h1'.length - R.length by omega] at hT ⊢
 exact this.2 T hT
theorem effC_ok (hG : ∀ g, low 0 (G g)) {cal : Cal} (hc : Ya5 P G cal) {o : Oper} {E : Ef} {h' : List Ob} (hcall : isCallK o.op = true) (q : effC G cal t h o.op = .mk E h') : EffOk P G o t.get h E h' := by
 unfold effC at q
 rw [evL_eq] at q
 dsimp only at q
 cases hn : noR3 ((opds o.op).map (ev G t.get))
 · rw [hn] at q
   have q : erO (rnHK _ h _) _ = _ := q
   generalize closeK h 4000 0 _ = R at q
   obtain ⟨h1, hr, q⟩ := Zq2 q
   obtain ⟨args1, ha, q⟩ := Zq2 q
   obtain ⟨nd, q⟩ := bc_mk q
   rw [Yf9] at hr
   rw [Za1] at ha
   rw [Zl5] at nd
   obtain ⟨a1, a2⟩ := J1 (π := plcN R h.length) U6 _ _ ha
   exact goC_ok hG hc hcall hr nd a1 a2 q
 · rw [hn] at q
   have hl := J8 _ hn
   exact goC_ok hG hc hcall (R := []) (by rw [rnH]) rfl (W4 _ _ hl) hl q
theorem goX_ok (hG : ∀ g, low 0 (G g)) {o : Oper} {R : List Nat} {h1 : List Ob} {env : Nat → D} {E : Ef} {h' : List Ob} (hr : rnH R h R = some h1) (nd : Jt R = true) (ha : renL (plcN R h.length) ((opds o.op).map (ev G env)) = (opds o.op).map (ev G t.get)) (la : lowL R.length ((opds o.op).map (ev G env))) (q : goX P G R h env h1 o.op = .mk E h') : EffOk P G o t.get h E h' := by
 obtain ⟨⟨h1', r1⟩, hx, q⟩ := Zq2 q
 obtain ⟨hle, q⟩ := bc_mk q
 have hle := Z2 hle
 rw [V8, V8, Z3, Z3] at hle
 cases q
 have := Yc5 hG hr nd hle (xF_sound hx) la
 rw [ha] at this
 refine ⟨this.1, by rw [Yi3]; omega, fun T hT => ?_⟩
 rw [Yi3] at hT ⊢
 rw [show h.length + (h1'.length - R.length) - h.length = h1'.length - R.length by omega] at hT ⊢
 exact this.2 T hT
theorem effX_ok (hG : ∀ g, low 0 (G g)) {o : Oper} {E : Ef} {h' : List Ob} (q : effX P G t h o.op = .mk E h') : EffOk P G o t.get h E h' := by
 unfold effX at q
 rw [evL_eq] at q
 dsimp only at q
 cases hn : noR3 ((opds o.op).map (ev G t.get))
 · rw [hn] at q
   have q : erO (rnHK _ h _) _ = _ := q
   generalize closeK h 4000 0 _ = R at q
   obtain ⟨h1, hr, q⟩ := Zq2 q
   obtain ⟨args1, hl, q⟩ := Zq2 q
   obtain ⟨nd, q⟩ := bc_mk q
   rw [Yf9] at hr
   rw [Za1] at hl
   rw [Zl5] at nd
   rw [renEnvK_eq] at q
   have key : ∀ x ∈ opds o.op, ren (plcN R h.length) (ev G (Zp8 R t.get) x) = ev G t.get x ∧ low R.length (ev G (Zp8 R t.get) x) := fun x hx => by
    cases x with
    | tmp i =>
     have all : ∀ (l : List D) (l' : List D), rnL R l = some l' → ∀ d ∈ l, ∃ d', rnO R d = some d' := fun l => by
      induction l with
      | nil => intro _ _ d hd; simp at hd
      | cons a l ih =>
       intro l' hl' d hd
       rw [rnL] at hl'
       split at hl'
       · rename_i a' ha
         split at hl'
         · rename_i t' ht
           rcases List.mem_cons.1 hd with rfl | hd
           · exact ⟨_, ha⟩
           · exact ih _ ht d hd
         · cases hl'
       · cases hl'
     obtain ⟨d, hd⟩ := all _ _ hl _ (List.mem_map.2 ⟨.tmp i, hx, rfl⟩)
     have hd : rnO R (t.get i) = some d := hd
     have e1 : ev G (Zp8 R t.get) (.tmp i) = d := by show Zp8 R t.get i = d; unfold Zp8; rw [hd]
     rw [e1]
     exact Zr4 (π := plcN R h.length) U6 _ _ hd
    | const v => exact ⟨by show ren _ (.v v) = .v v; rw [ren], by show low _ (.v v); rw [low]; trivial⟩
    | global g => exact ⟨J2 _ _ (hG g), low_mono0 (hG g)⟩
    | func f => exact ⟨by show ren _ (.fn f []) = .fn f []; rw [ren, renL], by show low _ (.fn f []); rw [low, lowL]; trivial⟩
   refine goX_ok hG hr nd ?_ ?_ q
   · rw [Vp, List.map_map]
     exact List.map_congr_left fun x hx => (key x hx).1
   · exact (Zl8 _ _).2 fun d hd => by
      obtain ⟨x, hx, rfl⟩ := List.mem_map.1 hd
      exact (key x hx).2
 · rw [hn] at q
   have hl := J8 _ hn
   have q : goX P G [] h (getK t) [] o.op = .mk E h' := q
   rw [Zs8] at q
   exact goX_ok hG (R := []) (by rw [rnH]) rfl (W4 _ _ hl) hl q
noncomputable def effK (P : Program) (G : Nat → D) (cal : Cal) (t : Tr) (h : List Ob) (op : Op) : Er := @Kd.casesOn (fun _ => Er) (dispK op P G t h) (fun d => .mk ⟨[], [], d⟩ h) (fun i d => erO (nthK h i) fun ob => .mk ⟨[(i, ob)], [], d⟩ h) (fun i ob' => erO (nthK h i) fun ob => .mk ⟨[(i, ob)], [(i, ob')], .v undef⟩ (h.set i ob')) (bc (isCallK op) (effC G cal t h op) (effX P G t h op))
theorem effK_ok (hG : ∀ g, low 0 (G g)) {cal : Cal} (hc : Ya5 P G cal) {o : Oper} {E : Ef} {h' : List Ob} (q : effK P G cal t h o.op = .mk E h') : EffOk P G o t.get h E h' := by
 have k : KOk P G o t h (dispK o.op P G t h) := by obtain ⟨dst, op, ty, pos, aft, gd⟩ := o; exact dispK_ok
 unfold effK at q
 cases hd : dispK o.op P G t h with
 | pu d =>
  rw [hd] at q k
  cases q
  exact ⟨⟨by simp [Ef.fit], fun h2 _ => by simpa [Ef.heap, Xc] using k h2⟩, Z6 _, fun T _ => ⟨by simp [Ef.ok], by simp [Ef.heap, Xc]⟩⟩
 | re i d =>
  rw [hd] at q k
  obtain ⟨ob, hi, q⟩ := Zq2 q
  obtain ⟨ob2, hi2, k⟩ := k
  rw [Jg, hi2] at hi
  cases hi; cases q
  have hlt := (Z9.1 hi2).1
  refine ⟨⟨by simp [Ef.fit], fun h2 kk => by simpa [Ef.heap, Xc] using k h2 (kk (i, ob) (by simp))⟩, Z6 _, fun T _ => ⟨fun x hx => ?_, by simp [Ef.heap, Xc]⟩⟩
  have : x = (i, ob) := by simpa using hx
  subst this
  rw [Zc hlt]; exact hi2
 | st i ob' =>
  rw [hd] at q k
  obtain ⟨ob, hi, q⟩ := Zq2 q
  obtain ⟨ob2, hi2, k⟩ := k
  rw [Jg, hi2] at hi
  cases hi; cases q
  have hlt := (Z9.1 hi2).1
  refine ⟨⟨by simp [Ef.fit], fun h2 kk => by simpa [Ef.heap, Xc] using k h2 (kk (i, ob) (by simp))⟩, by simp, fun T _ => ⟨fun x hx => ?_, by simp [Ef.heap, Xc, List.set_append_left _ _ hlt]⟩⟩
  have : x = (i, ob) := by simpa using hx
  subst this
  rw [Zc hlt]; exact hi2
 | gen =>
  rw [hd] at q
  have q : bc (isCallK o.op) (effC G cal t h o.op) (effX P G t h o.op) = .mk E h' := q
  cases hi : isCallK o.op
  · rw [hi] at q; exact effX_ok hG q
  · rw [hi] at q; exact effC_ok hG hc hi q
theorem effOk_tri {o : Oper} {E : Ef} {h' : List Ob} (q : EffOk P G o t.get h E h') : OpTri P G o ((opds o.op).map (ev G t.get)) h (fun h1 d1 => h1 = h' ∧ d1 = E.d) := by
 obtain ⟨⟨_, y⟩, le, z⟩ := q
 obtain ⟨z1, z2⟩ := z _ (Z6 _)
 refine OpTri.holes (h'.length - h.length) ((y _ z1).mono ?_)
 rintro h3 r ⟨rfl, rfl⟩
 refine ⟨?_, rfl⟩
 rw [z2]; simp [holes]
end
end Go.Proofs.YtmdjnaobllajmaaGreatDoor
