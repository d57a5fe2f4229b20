/-
  What the statements of the chapter share, part 26: VA7, VA8, VA9, VA10, VA11, VA12, PVS, VN2, RT1.
-/
import Derived.Test.YtmdjnaobllajmaaGreatDoorY14
import Derived.Test.YtmdjnaobllajmaaGreatDoorY15
import Derived.Test.YtmdjnaobllajmaaGreatDoorY17
import Derived.Test.YtmdjnaobllajmaaGreatDoorY18
import Derived.Test.YtmdjnaobllajmaaGreatDoorY23
import Derived.Test.YtmdjnaobllajmaaGreatDoorY24
import Derived.Test.YtmdjnaobllajmaaGreatDoorY25
set_option linter.unusedVariables false
set_option linter.unusedSimpArgs false
set_option maxRecDepth 100000
set_option maxHeartbeats 8000000
namespace Go.Proofs.YtmdjnaobllajmaaGreatDoor
open _root_.Bool renaming false_eq_true → Z6, not_false → Zj, not_true → Zm, and_eq_true → Zw
open _root_.Int renaming reduceEq → Zf, reduceLE → Zg, reduceLT → Zh, toNat_natCast → Zu
open _root_.List renaming length_append → Z4, length_map → Z5, nil_append → Z7, cons_append → Z8, length_cons → Z9, length_nil → Za, append_assoc → Zb, map_append → Ze, mem_singleton → Zk, length_eq_one_iff → Zl, reverse_cons → Zo, reverse_nil → Zq, eq_nil_of_length_eq_zero → Zr, getElem?_append_right → Zt, getElem?_eq_getElem → Zv, mem_cons → Zy
open _root_.Nat renaming reduceEqDiff → Z0, reduceLeDiff → Z1, reduceAdd → Z2, le_of_ble_eq_true → Z3, reduceBEq → Zc, reduceMul → Zd, le_refl → Zi, zero_le → Zx
open _root_.Option renaming bind_some → Zp, map_some → Zs
open _root_.Prod renaming fst → Zz, snd → Y0
open _root_.Go.Proofs.Tryz renaming prog → Zn
open Go.RowKit
section
attribute [local irreducible] on aOp
attribute [local go_sem] decide_true decide_false Zm Zj
attribute [local simp] byD_len
def q4 (R A Z V : Ob) (T : List Ob) : List Ob := R :: A :: Z :: V :: T
section
variable {R A Z V y y' z z' : Ob} {T l : List Ob}
end
def q5 (R A Z V B : Ob) (T : List Ob) : List Ob := R :: A :: Z :: V :: B :: T
section
variable {R A Z V B y y' z z' : Ob} {T l : List Ob}
theorem q5_0 : (q5 R A Z V B T)[0]? = some R := rfl
theorem q5_s0 : (q5 R A Z V B T).set 0 y = q5 y A Z V B T := rfl
theorem q5_1 : (q5 R A Z V B T)[1]? = some A := rfl
theorem q5_s1 : (q5 R A Z V B T).set 1 y = q5 R y Z V B T := rfl
theorem q5_2 : (q5 R A Z V B T)[2]? = some Z := rfl
theorem Ya3 : (q5 R A Z V B T).set 2 y = q5 R A y V B T := rfl
theorem q5_3 : (q5 R A Z V B T)[3]? = some V := rfl
theorem q5_s3 : (q5 R A Z V B T).set 3 y = q5 R A Z y B T := rfl
theorem q5_4 : (q5 R A Z V B T)[4]? = some B := rfl
theorem q5_s4 : (q5 R A Z V B T).set 4 y = q5 R A Z V y T := rfl
theorem Zw2 : (q5 R A Z V B T).length = T.length + 5 := rfl
theorem q5_app : q5 R A Z V B T ++ l = q5 R A Z V B (T ++ l) := rfl
theorem q5_l : (q5 R A Z V B (T ++ [y]))[T.length + 5]? = some y := by simp [q5]
theorem q5_sl : (q5 R A Z V B (T ++ [y])).set (T.length + 5) y' = q5 R A Z V B (T ++ [y']) := by simp [q5]
theorem q5_l2 : (q5 R A Z V B (T ++ [y, z]))[T.length + 5]? = some y := by simp [q5]
theorem q5_sl2 : (q5 R A Z V B (T ++ [y, z])).set (T.length + 5) y' = q5 R A Z V B (T ++ [y', z]) := by simp [q5]
theorem q5_l3 : (q5 R A Z V B (T ++ [y, z]))[T.length + 1 + 5]? = some z := by simp [q5]
theorem q5_sl3 : (q5 R A Z V B (T ++ [y, z])).set (T.length + 1 + 5) z' = q5 R A Z V B (T ++ [y, z']) := by simp [q5]
end
def q6 (R A Z V B C : Ob) (T : List Ob) : List Ob := R :: A :: Z :: V :: B :: C :: T
section
variable {R A Z V B C y y' z z' : Ob} {T l : List Ob}
theorem q6_0 : (q6 R A Z V B C T)[0]? = some R := rfl
theorem q6_s0 : (q6 R A Z V B C T).set 0 y = q6 y A Z V B C T := rfl
theorem q6_1 : (q6 R A Z V B C T)[1]? = some A := rfl
theorem q6_s1 : (q6 R A Z V B C T).set 1 y = q6 R y Z V B C T := rfl
theorem q6_2 : (q6 R A Z V B C T)[2]? = some Z := rfl
theorem q6_s2 : (q6 R A Z V B C T).set 2 y = q6 R A y V B C T := rfl
theorem q6_3 : (q6 R A Z V B C T)[3]? = some V := rfl
theorem q6_s3 : (q6 R A Z V B C T).set 3 y = q6 R A Z y B C T := rfl
theorem q6_4 : (q6 R A Z V B C T)[4]? = some B := rfl
theorem q6_s4 : (q6 R A Z V B C T).set 4 y = q6 R A Z V y C T := rfl
theorem q6_5 : (q6 R A Z V B C T)[5]? = some C := rfl
theorem q6_s5 : (q6 R A Z V B C T).set 5 y = q6 R A Z V B y T := rfl
theorem q6_len : (q6 R A Z V B C T).length = T.length + 6 := rfl
theorem q6_app : q6 R A Z V B C T ++ l = q6 R A Z V B C (T ++ l) := rfl
theorem q6_l : (q6 R A Z V B C (T ++ [y]))[T.length + 6]? = some y := by simp [q6]
theorem q6_sl : (q6 R A Z V B C (T ++ [y])).set (T.length + 6) y' = q6 R A Z V B C (T ++ [y']) := by simp [q6]
theorem q6_l2 : (q6 R A Z V B C (T ++ [y, z]))[T.length + 6]? = some y := by simp [q6]
theorem q6_sl2 : (q6 R A Z V B C (T ++ [y, z])).set (T.length + 6) y' = q6 R A Z V B C (T ++ [y', z]) := by simp [q6]
theorem q6_l3 : (q6 R A Z V B C (T ++ [y, z]))[T.length + 1 + 6]? = some z := by simp [q6]
theorem q6_sl3 : (q6 R A Z V B C (T ++ [y, z])).set (T.length + 1 + 6) z' = q6 R A Z V B C (T ++ [y, z']) := by simp [q6]
end
theorem rdSm_eq (m : Nat) (s : RS) : rdSm m s = Yp m s := rfl
theorem Zn2 {n : Int} {d1 d2 d3 : D} {a b c : List (List D)} (h1 : Wk d1 (.sl 1 a)) (h2 : Wk d2 (.sl 4 b)) (h3 : Wk d3 (.sl 2 c)) : Wk (.agg [.v (.int .i64 n), d1, d2, d3]) (.agg [.v (.int .i64 n), .sl 1 a, .sl 4 b, .sl 2 c]) :=
 V5 (Y8 (Ys _) (Y8 h1 (Y8 h2 (Y8 h3 Xl))))
theorem rdrOb_ren (π : Nat → Nat) (s : RS) : Va π (Yf s) = Yf s := by
 rw [Vw]; simp only [Va, renL, ren, renR_by]
theorem rdr_at {P : Program} {G : Nat → D} (hG : ∀ g, low 0 (G g)) {f : FuncId} {s s' : RS} {xs : List D} {r0 : D} (lx : lowL 0 xs) (lr : low 0 r0) (q : Does P G f [Yf s] (.ptr 0 0 :: xs) (fun h' r => h' = [Yf s'] ∧ r = r0)) {h : List Ob} {i : Nat} (hi : h[i]? = some (Yf s)) : Does P G f h (.ptr i 0 :: xs) (fun h' r => h' = h.set i (Yf s') ∧ r = r0) := by
 have L : Lies (fun _ => i) [Yf s] h := by
  refine ⟨fun k ob' hk => ?_, fun a b ha hb _ => ?_, ?_⟩
  · rcases k with _ | k
    · cases hk; rw [rdrOb_ren]; exact hi
    · simp at hk
  · simp at ha hb; omega
  · intro x hx
    simp at hx; subst hx; exact Xm _ s
 have F := Does.frame hG L (args := .ptr 0 0 :: xs) (by rw [lowL, low]; exact ⟨Nat.zero_lt_succ _, Ub (Zx _) _ lx⟩) (K1 := fun h' r => h' = [Yf s'] ∧ r = r0) (by
  rintro _ _ ⟨rfl, _⟩
  refine ⟨fun a b ha hb _ => ?_, fun k h1 h2 => ?_⟩
  · simp at ha hb; omega
  · have h1 : 1 ≤ k := h1
    have h2 : k < 1 := h2
    omega) q
 rw [renL, ren, W4 _ _ lx] at F
 refine F.mono ?_
 rintro _ _ ⟨_, _, ⟨rfl, rfl⟩, rfl, rfl⟩
 refine ⟨?_, J2 _ _ lr⟩
 simp only [List.map_cons, List.map_nil, plc, rdrOb_ren]
def ReadD (G : Nat → D) (l : Lat) : Prop := ∀ s : RS, s.Ok → s.data.length ≤ 1000000 → Does Zn G 54 [Yf s] [.ptr 0 0, .agg (latX l)] (fun h' r => h' = [Yf (X0 l s).2] ∧ r = .agg (vaX (X0 l s).1))
theorem ReadD.at {G : Nat → D} (hG : ∀ g, low 0 (G g)) {l : Lat} (q : ReadD G l) {s : RS} (ho : s.Ok) (hl : s.data.length ≤ 1000000) {h : List Ob} {i : Nat} (hi : h[i]? = some (Yf s)) : Does Zn G 54 h [.ptr i 0, .agg (latX l)] (fun h' r => h' = h.set i (Yf (X0 l s).2) ∧ r = .agg (vaX (X0 l s).1)) :=
 rdr_at hG (V2 _ l) (by rw [low]; exact Xu _ _) (q s ho hl) hi
theorem endR {P : Program} {res : Array ResultVar} {K : List Ob → D → Prop} {s : S} {s' : RS} {ds : List D} {r : D} {T : List Ob} (h1 : resD P s res.toList = some ds) (h2 : s.h = Yf s' :: T) (lr : low 0 r) (hr : cvD (fun i => decide (1 ≤ i)) (Yf s' :: T) (outD ds) = r) (hK : K [Yf s'] r) : EndD P res 1 K s :=
 endX ds [Yf s'] T r h1 h2 (Zi _) (fun x hx => by simp at hx; subst hx; exact Xm _ s') (Zl7 (Zx _) _ lr) hr hK
section
variable {l : Lat}
theorem rd_1 (h : l.kind = 1) (s : RS) : X0 l s = (.mk (if (Yx s).1 then 1 else 0) [] [] [], (Yx s).2) := by cases l; simp only [Lat.kind] at h; subst h; exact Yg4 s
theorem rd_23 (h : l.kind = 2 ∨ l.kind = 3) (s : RS) : X0 l s = (.mk (Wy s).1 [] [] [], (Wy s).2) := by cases l; exact Zr7 h s
theorem rd_410 (h : l.kind = 4 ∨ l.kind = 10) (s : RS) : X0 l s = (.mk 0 (Yi Y9 (Y6 s).1 (Y6 s).2).1 [] [], (Yi Y9 (Y6 s).1 (Y6 s).2).2) := by cases l; exact Zk4 h s
theorem rd_8 (h : l.kind = 8) (s : RS) : X0 l s = if (Yp 2 s).1 = 1 then (.mk 1 [(Y9 (Yp 2 s).2).1] [] [], (Y9 (Yp 2 s).2).2) else (.mk ((Yp 2 s).1 : Nat) [] [] [], (Yp 2 s).2) := by cases l; simp only [Lat.kind] at h; subst h; exact Zn9 s
end
theorem Zp5 (n : Int) (ns : List ByteArray) (ps : List Val) (es : List En) : vaX (.mk n ns ps es) = [.v (.int .i64 n), .sl 1 (ns.map strX), .sl 4 (ps.map vaX), .sl 2 (es.map enX)] := by rw [Ya]; rfl
variable (G : Nat → D) (hG : ∀ g, low 0 (G g))
include hG
attribute [local go_sem] Z6 Zf Zg Zh Z2 Zc Z0 Z1 Zd
attribute [local go_sem ↓] reduceIte
theorem rErr_d (i : Nat) (s : RS) (h : List Ob) (hi : h[i]? = some (Yf s)) : Does Zn G 91 h [.ptr i 0] (fun h' r => h' = h ∧ r = .v (.int .i64 s.err)) := by
 rw [Vw] at hi
 refine Y5 Tryz.func91 rfl (Z3 rfl) hG fun hl0 _ => ?_
 simp only [Tryz.ntmps91]
 have F := hi
 repeat' first
  | refine g0 ?_
  | fail
 exact ⟨.inr rfl, endV hl0 rfl rfl ⟨rfl, rfl⟩⟩
theorem read_1 (l : Lat) (hk : l.kind = 1) : ReadD G l := fun s ho hl => by
 rw [rd_1 hk, Zp5]
 have hb := fun (h : List Ob) (k : h[0]? = some (Yf s)) => rBool_d G hG 0 s h k ho (by omega)
 generalize Yx s = b at *
 obtain ⟨b, s'⟩ := b
 apply Does.weak
 refine Y5 Tryz.func54 rfl (Z3 rfl) hG fun hl0 _ => ?_
 simp only [Tryz.ntmps54]
 cases b
 all_goals
  skip
  have F : _ ∧ _ := ⟨Y4 l, hk⟩
  repeat' first
   | refine g0 ?_
   | (with_reducible refine Y7 ?_; refine gc rfl rfl rfl ent_88 (hb _ (by first | rfl | simp)) ?_)
 · exact ⟨.inr rfl, endR (s' := s') (ds := [.agg nilV]) (r := .agg nilV) (T := _) (by simp only [resD, Tryz.results54, go_sem, ↓reduceIte, Z0, Z2, Z1, nilV]; try rfl) rfl (by simp [low, lowL, nilV]) (by simp [outD, cvD, cv1, nilV]) ⟨_, ⟨rfl, rfl⟩, Zn2 Ye Ye Ye⟩⟩
 · exact ⟨.inr rfl, endR (s' := s') (ds := [.agg [.v (.int .i64 1), .v (.slice none 0 0), .v (.slice none 0 0), .v (.slice none 0 0)]]) (r := .agg [.v (.int .i64 1), .v (.slice none 0 0), .v (.slice none 0 0), .v (.slice none 0 0)]) (T := _) (by simp only [resD, Tryz.results54, go_sem, ↓reduceIte, Z0, Z2, Z1, nilV]; try rfl) rfl (by simp [low, lowL]) (by simp [outD, cvD, cv1]) ⟨_, ⟨rfl, rfl⟩, Zn2 Ye Ye Ye⟩⟩
theorem read_23 (l : Lat) (hk : l.kind = 2 ∨ l.kind = 3) : ReadD G l := fun s ho hl => by
 rw [rd_23 hk, Zp5]
 have hb := fun (h : List Ob) (k : h[0]? = some (Yf s)) => rInt_d G hG 0 s h k ho (by omega)
 generalize Wy s = b at *
 obtain ⟨b, s'⟩ := b
 apply Does.weak
 refine Y5 Tryz.func54 rfl (Z3 rfl) hG fun hl0 _ => ?_
 simp only [Tryz.ntmps54]
 rcases hk with hk | hk
 all_goals
  skip
  have F : _ ∧ _ := ⟨Y4 l, hk⟩
  repeat' first
   | refine g0 ?_
   | (with_reducible refine Y7 ?_; refine gc rfl rfl rfl ent_89 (hb _ (by first | rfl | simp)) ?_)
  exact ⟨.inr rfl, endR (s' := s') (ds := [.agg [.v (.int .i64 b), .v (.slice none 0 0), .v (.slice none 0 0), .v (.slice none 0 0)]]) (r := .agg [.v (.int .i64 b), .v (.slice none 0 0), .v (.slice none 0 0), .v (.slice none 0 0)]) (T := _) (by simp only [resD, Tryz.results54, go_sem, ↓reduceIte, Z0, Z2, Z1, nilV]; try rfl) rfl (by simp [low, lowL]) (by simp [outD, cvD, cv1]) ⟨_, ⟨rfl, rfl⟩, Zn2 Ye Ye Ye⟩⟩
theorem read_8 (l : Lat) (hk : l.kind = 8) : ReadD G l := fun s ho hl => by
 rw [rd_8 hk]
 have hb := fun (h : List Ob) (k : h[0]? = some (Yf s)) => small_d G hG 0 2 s h (by omega) k ho (by omega)
 simp only [rdSm_eq] at hb
 obtain ⟨ho2, hd2⟩ := Xb 2 ho
 generalize Yp 2 s = b at *
 obtain ⟨b, s1⟩ := b
 simp only at hb ho2 hd2 ⊢
 have ht := fun (h : List Ob) (k : h[0]? = some (Yf s1)) => Yh2 G hG 0 s1 h k ho2 (by rw [hd2]; omega)
 apply Does.weak
 refine Y5 Tryz.func54 rfl (Z3 rfl) hG fun hl0 _ => ?_
 simp only [Tryz.ntmps54]
 by_cases hb1 : b = 1
 · subst hb1
   rw [if_pos rfl, Zp5]
   have F : _ ∧ _ := ⟨Y4 l, hk⟩
   repeat' first
    | refine g ?_
    | refine Two.mk (fun hq => ?_) fun hq => ?_
    | (with_reducible refine Y7 ?_; first | refine gc rfl rfl rfl ent_93 (hb _ (by first | rfl | simp)) ?_ | refine gc rfl rfl rfl ent_92 (ht _ (by first | rfl | simp)) ?_)
    | (exfalso; omega)
   exact ⟨.inr rfl, endR (s' := (Y9 s1).2) (ds := [.agg [.v (.int .i64 1), .buf 4 1, .v (.slice none 0 0), .v (.slice none 0 0)]]) (r := .agg [.v (.int .i64 1), .sl 1 [strX (Y9 s1).1], .v (.slice none 0 0), .v (.slice none 0 0)]) (T := _) (by simp only [resD, Tryz.results54, go_sem, ↓reduceIte, Z0, Z2, Z1, nilV]; try rfl) rfl (by simp [low, lowL, lowR, strX]) (by simp [outD, cvD, cv1]; rfl) ⟨_, ⟨rfl, rfl⟩, Zn2 (Ys _) Ye Ye⟩⟩
 · rw [if_neg hb1, Zp5]
   have hb2 : ¬ (b : Int) = 1 := by omega
   have F : _ ∧ _ ∧ _ := ⟨Y4 l, hk, hb2⟩
   repeat' first
    | refine g0 ?_
    | (with_reducible refine Y7 ?_; refine gc rfl rfl rfl ent_93 (hb _ (by first | rfl | simp)) ?_)
   exact ⟨.inr rfl, endR (s' := s1) (ds := [.agg [.v (.int .i64 b), .v (.slice none 0 0), .v (.slice none 0 0), .v (.slice none 0 0)]]) (r := .agg [.v (.int .i64 b), .v (.slice none 0 0), .v (.slice none 0 0), .v (.slice none 0 0)]) (T := _) (by simp only [resD, Tryz.results54, go_sem, ↓reduceIte, Z0, Z2, Z1, nilV]; try rfl) rfl (by simp [low, lowL]) (by simp [outD, cvD, cv1]) ⟨_, ⟨rfl, rfl⟩, Zn2 Ye Ye Ye⟩⟩
end
section
attribute [local irreducible] on aOp
attribute [local go_sem] decide_true decide_false Zm Zj
attribute [local simp] byD_len
theorem LoopAt.next2 {α : Type} {R : List α × RS} {f : RS → α × RS} {acc : List α} {k : Nat} {s : RS} (h : LoopAt R f acc k s) (hk : 0 < k) (he : s.err = 0) : LoopAt R f (acc ++ [(f s).1]) (k - 1) (f s).2 := by
 obtain ⟨j, rfl⟩ : ∃ j, k = j + 1 := ⟨k - 1, by omega⟩
 exact h.step he
theorem LoopAt.stop2 {α : Type} {R : List α × RS} {f : RS → α × RS} {acc : List α} {k : Nat} {s : RS} (h : LoopAt R f acc k s) (hk : ¬ (0 < k ∧ s.err = 0)) : R = (acc, s) := by
 by_cases h0 : k = 0
 · subst h0; exact h.end0
 · exact h.endE (fun q => hk ⟨by omega, q⟩)
theorem Yb2 (s : ByteArray) : Yz 1 [strX s] := fun row hr => by
 simp only [Zk] at hr; subst hr
 exact ⟨rfl, fun d hd => by simp only [strX, Zk] at hd; subst hd; rfl⟩
theorem low_vaR (n : Int) (ns : List ByteArray) : low 0 (.agg [.v (.int .i64 n), .sl 1 (ns.map strX), .v (.slice none 0 0), .v (.slice none 0 0)]) := by
 rw [low]; simp only [lowL]; exact ⟨by simp [low], Yv _ ns, by simp [low], by simp [low], trivial⟩
variable (G : Nat → D) (hG : ∀ g, low 0 (G g))
include hG
attribute [local go_sem] Z6 Zf Zg Zh Zb Z8 Z4 Z9 Za Z7 Z2 Zc Z0 Z1 Zd q5_0 q5_1 q5_2 q5_3 q5_4 q5_app q5_l q5_l2 q5_l3 Zw2 q5_s0 q5_s1 Ya3 q5_s3 q5_s4 q5_sl q5_sl2 q5_sl3
attribute [local go_sem ↓] reduceIte
theorem read_410 (l : Lat) (hk : l.kind = 4 ∨ l.kind = 10) : ReadD G l := fun s ho hl => by
 rw [rd_410 hk, Zp5]
 have hb := fun (h : List Ob) (k : h[0]? = some (Yf s)) => Zs2 G hG 0 s h k ho (by omega)
 obtain ⟨ho2, hd2, hc2⟩ := We ho
 generalize Y6 s = b at *
 obtain ⟨N, s1⟩ := b
 simp only at hb ho2 hd2 hc2 ⊢
 generalize hR : Yi Y9 N s1 = R
 have h5 : ¬ l.kind = 5 := by omega
 have h5d : decide (l.kind = 5) = false := decide_eq_false h5
 have hgo : ∀ (H : l.kind = 4 ∨ l.kind = 10), True := fun _ => trivial
 clear hgo
 apply Does.weak
 refine Y5 Tryz.func54 rfl (Z3 rfl) hG fun hl0 _ => ?_
 simp only [Tryz.ntmps54]
 have hk' := hk
 rcases hk with hk | hk
 all_goals
  skip
  have F : _ ∧ _ := ⟨Y4 l, hk⟩
  repeat' first
   | refine g0 ?_
   | (with_reducible refine Y7 ?_; refine gc rfl rfl rfl ent_90 (hb _ (by first | rfl | simp)) ?_)
  refine Vt 9 1 3 [.v (.int .i64 0)] [.v (.slice none 0 0), .v (.slice none 0 0)] rfl ?_
  refine Yn (fun m e h' => ∃ (k : Nat) (acc : List ByteArray) (s2 : RS) (T : List Ob), m = k ∧ LoopAt R Y9 acc k s2 ∧ s2.Ok ∧ s2.data.length = s.data.length ∧ acc.length + k ≤ 1000000 ∧ h' = q5 (Yf s2) (.cells (latX l)) (.cells nilV) (.cells [.v (.int .i64 0), .buf 4 acc.length, .v (.slice none 0 0), .v (.slice none 0 0)]) (.buf 9 1 (acc.map strX)) T ∧ e 0 = .ptr 0 0 ∧ e 3 = .ptr 1 0 ∧ e 4 = .ptr 2 0 ∧ e 5 = .ptr 3 0 ∧ e 6 = .v (.int .i64 k)) N ⟨N, [], s1, [], rfl, hR ▸ LoopAt.start Y9 N s1, ho2, by rw [hd2], by simp; omega, by rw [Y4 l, hk]; rfl, rfl, rfl, rfl, rfl, rfl⟩ ?_
  rintro m e h' ⟨k, acc, s2, T, rfl, hLp, hoA, hdA, hlen, rfl, e0, e3, e4, e5, e6⟩
  have hEr := fun (h : List Ob) (q : h[0]? = some (Yf s2)) => rErr_d G hG 0 s2 h q
  have hlA : s2.data.length ≤ 1000000 := by omega
  have ht := fun (h : List Ob) (q : h[0]? = some (Yf s2)) => Yh2 G hG 0 s2 h q hoA (by omega)
  by_cases hgo : 0 < m ∧ s2.err = 0
  · obtain ⟨hm0, he0⟩ := hgo
    have he0d : decide (s2.err = 0) = true := decide_eq_true he0
    have hm0d : decide ((0 : Int) < (m : Int)) = true := decide_eq_true (by omega)
    have wk : IntKind.i64.wrap ((m : Int) - 1) = ((m - 1 : Nat) : Int) := by rw [show (m : Int) - 1 = ((m - 1 : Nat) : Int) by omega]; exact IntWalk.i64_in _ (by omega)
    have hlr : (acc.map strX).length = acc.length := Z5 _
    have hok := (Vb hoA).1
    have hdk := (Vb hoA).2.1
    have hN := hLp.next2 hm0 he0
    have F : _ ∧ _ ∧ _ ∧ _ ∧ _ ∧ _ ∧ _ ∧ _ ∧ _ ∧ _ ∧ _ := ⟨Y4 l, hk, h5d, e0, e3, e4, e5, e6, he0d, hm0d, wk⟩
    repeat' first
     | (with_reducible refine Yj ?_; refine X7 mixd (by kernel_rfl) ?_)
     | ((with_reducible refine Uc ?_); first | (refine Ux rfl rfl rfl rfl (by (first | (simp only [go_sem, F]; rfl) | (simp only [go_sem, F]; done))) hlr (by simp only [go_sem, F]; rfl) (by (first | (simp only [go_sem, F]; rfl) | (simp only [go_sem, F]; done))) (by simp) (Yb2 _) (by simp; omega) ?_) | (refine aS1 rfl rfl fun K HK => ?_; (first | refine Yh rfl ?_ | skip); simp only [go_sem, F] <;> (refine HK _ _ rfl ?_; clear HK K)) | refine Xg rfl rfl rfl (by (first | (simp only [go_sem, F]; rfl) | (simp only [go_sem, F]; done))) (by rw [getD_one (by simp only [go_sem, F])]; rfl) ?_ | refine V3 rfl rfl (by (first | (simp only [go_sem, F]; rfl) | (simp only [go_sem, F]; done))) rfl (by simp only [go_sem, F]) (by simp) ?_ | refine Vn rfl rfl (by simp only [litD, Xf, go_sem, Z9, Za, Zs, Zp, and_self, ↓reduceIte, Z0, Z2, Z1, Zc, Zd, Zf, Zh, Zg, Y4 l, hk, h5d, e0, e3, e4, e5, e6, he0d, hm0d, wk, q5_0, q5_1, q5_2, q5_3, q5_4, q5_s0, q5_s1, Ya3, q5_s3, q5_s4, Zw2, q5_app, q5_l, q5_sl, q5_l2, q5_sl2, q5_l3, q5_sl3, Zb, Z8, Z7, Z4, Z9, Za, Z6]; rfl) ?_ | refine V4 (by simp only [Zo, Zq, Z7, Z8, W5, chk1]; repeat' (first | exact trivial | refine And.intro ?_ ?_ | exact .inr X2 | exact .inr X4 | exact .inr (Xi (by omega)) | exact .inr (Wu (by omega)) | (refine .inr ?_; simp [compat, Xw, Wa, Ws, nop, Zw2] <;> omega) | exact .inl (by kernel_rfl))) ?_ | refine Xt rfl rfl rfl ent_92 (by (first | (simp only [go_sem, F]; rfl) | (simp only [go_sem, F]; done))) (fun h2 k2 => ht h2 k2) ?_)
     | refine g0 ?_
     | ((with_reducible refine Y7 ?_); first | refine gc rfl rfl rfl Zq3 (hEr _ (by first | rfl | simp)) ?_)
    exact ⟨rfl, m - 1, by omega, m - 1, acc ++ [(Y9 s2).1], (Y9 s2).2, _, rfl, hN, hok, by rw [← hdA]; exact congrArg List.length hdk, by simp; omega, by rw [Y4 l, Ze, Z4, hk]; rfl, e0, e3, e4, e5, rfl⟩
  · have hst := hLp.stop2 hgo
    rw [hst]
    have hgo2 : ¬ (0 < (m : Int)) ∨ (0 < (m : Int) ∧ ¬ s2.err = 0) := by omega
    rcases hgo2 with hm0 | ⟨hm0, he0⟩
    · skip
      repeat' first
       | (with_reducible first | refine sA rfl ?_ | refine sI rfl rfl ?_ | refine sT rfl ?_ | refine sB rfl ?_)
       | (with_reducible refine Y7 ?_; first | refine Yr ?_ | (refine ao1 rfl rfl fun K HK => ?_; (first | refine Yh rfl ?_ | skip); simp only [go_sem, e0, e3, e4, e5, e6, hm0, nilV] <;> (refine HK _ _ ?_; clear HK K)) | refine ao0 rfl rfl ?_ | (refine ao1' rfl fun K HK => ?_; simp only [go_sem, e0, e3, e4, e5, e6, hm0, nilV]; refine HK _ _ ?_; clear HK K))
      exact ⟨.inr rfl, endR (s' := s2) (ds := [.agg [.v (.int .i64 0), .buf 4 acc.length, .v (.slice none 0 0), .v (.slice none 0 0)]]) (r := .agg [.v (.int .i64 0), .sl 1 (acc.map strX), .v (.slice none 0 0), .v (.slice none 0 0)]) (T := _) (by simp only [resD, Tryz.results54, go_sem, ↓reduceIte, Z0, Z2, Z1, e4, nilV, q5_2, Ya3]; try rfl) rfl (low_vaR _ _) (by simp [outD, cvD, cv1]) ⟨_, ⟨rfl, rfl⟩, Zn2 (Ys _) Ye Ye⟩⟩
    · skip
      repeat' first
       | (with_reducible first | refine sA rfl ?_ | refine sI rfl rfl ?_ | refine sT rfl ?_ | refine sB rfl ?_)
       | (with_reducible refine Y7 ?_; first | refine Yr ?_ | (refine ao1 rfl rfl fun K HK => ?_; (first | refine Yh rfl ?_ | skip); simp only [go_sem, e0, e3, e4, e5, e6, hm0, he0, nilV] <;> (refine HK _ _ ?_; clear HK K)) | (refine ao1' rfl fun K HK => ?_; simp only [go_sem, e0, e3, e4, e5, e6, hm0, he0, nilV]; refine HK _ _ ?_; clear HK K))
       | ((with_reducible refine Y7 ?_); first | (refine ao2 rfl rfl rfl Zq3 (hEr _ (by first | rfl | simp)) ?_; rintro _ _ ⟨rfl, rfl⟩))
      exact ⟨.inr rfl, endR (s' := s2) (ds := [.agg [.v (.int .i64 0), .buf 4 acc.length, .v (.slice none 0 0), .v (.slice none 0 0)]]) (r := .agg [.v (.int .i64 0), .sl 1 (acc.map strX), .v (.slice none 0 0), .v (.slice none 0 0)]) (T := _) (by simp only [resD, Tryz.results54, go_sem, ↓reduceIte, Z0, Z2, Z1, e4, nilV, q5_2, Ya3]; try rfl) rfl (low_vaR _ _) (by simp [outD, cvD, cv1]) ⟨_, ⟨rfl, rfl⟩, Zn2 (Ys _) Ye Ye⟩⟩
end
section
attribute [local irreducible] on aOp
attribute [local go_sem] decide_true decide_false Zm Zj
attribute [local simp] byD_len
theorem rd_67 {l : Lat} (h : l.kind = 6 ∨ l.kind = 7) (s : RS) : X0 l s = (.mk 0 [] (Yu l.parts s).1 [], (Yu l.parts s).2) := by cases l; exact Zr6 h s
theorem Jo (v : Val) : Yz 4 [vaX v] := fun row hr => by simp only [Zk] at hr; subst hr; exact ⟨X8 v, List.all_eq_true.1 (Ye4 v)⟩
theorem low_vaP (n : Int) (ps : List Val) : low 0 (.agg [.v (.int .i64 n), .v (.slice none 0 0), .sl 4 (ps.map vaX), .v (.slice none 0 0)]) := by
 rw [low]; simp only [lowL]; exact ⟨by simp [low], by simp [low], Zl6 _ ps, by simp [low], trivial⟩
variable (G : Nat → D) (hG : ∀ g, low 0 (G g))
include hG
attribute [local go_sem] Z6 Zf Zg Zh Zu Zb Z8 Z4 Z9 Z5 Za Z7 Z2 Zc Z0 Z1 Zd q5_0 q5_1 q5_2 q5_3 q5_4 q5_app q5_l q5_l2 q5_l3 Zw2 q5_s0 q5_s1 Ya3 q5_s3 q5_s4 q5_sl q5_sl2 q5_sl3 X8 Vo
attribute [local go_sem ↓] reduceIte
theorem read_67 (l : Lat) (hk : l.kind = 6 ∨ l.kind = 7) (hpl : l.parts.length ≤ 8) (hrd : ∀ p ∈ l.parts, ReadD G p) (hkp : ∀ p ∈ l.parts, ∀ s : RS, s.Ok → (X0 p s).2.Ok ∧ (X0 p s).2.data = s.data) : ReadD G l := fun s ho hl => by
 rw [rd_67 hk, Zp5]
 generalize hR : Yu l.parts s = R
 apply Does.weak
 refine Y5 Tryz.func54 rfl (Z3 rfl) hG fun hl0 _ => ?_
 simp only [Tryz.ntmps54]
 rcases hk with hk | hk
 all_goals
  skip
  have F : _ ∧ _ := ⟨Y4 l, hk⟩
  repeat' first
   | refine g0 ?_
   | fail
  refine Vt 30 4 3 [.v (.int .i64 0), .v (.slice none 0 0)] [.v (.slice none 0 0)] rfl ?_
  refine Yn (fun m e h' => ∃ (k : Nat) (acc : List Val) (s2 : RS) (T : List Ob), k ≤ l.parts.length ∧ m = l.parts.length - k ∧ R = (acc ++ (Yu (l.parts.drop k) s2).1, (Yu (l.parts.drop k) s2).2) ∧ s2.Ok ∧ s2.data = s.data ∧ acc.length = k ∧ h' = q5 (Yf s2) (.cells (latX l)) (.cells nilV) (.cells [.v (.int .i64 0), .v (.slice none 0 0), .buf 4 acc.length, .v (.slice none 0 0)]) (.buf 30 4 (acc.map vaX)) T ∧ e 0 = .ptr 0 0 ∧ e 3 = .ptr 1 0 ∧ e 4 = .ptr 2 0 ∧ e 5 = .ptr 3 0 ∧ e 16 = .sl 6 (l.parts.map latX) ∧ e 17 = .v (.int .i64 l.parts.length) ∧ e 18 = .v (.int .i64 k)) l.parts.length ⟨0, [], s, [], Zx _, rfl, hR.symm, ho, rfl, rfl, by rw [Y4 l, hk]; rfl, rfl, rfl, rfl, rfl, rfl, rfl, rfl⟩ ?_
  rintro m e h' ⟨k, acc, s2, T, hkl, rfl, hh, hoA, hdA, hal, rfl, e0, e3, e4, e5, e16, e17, e18⟩
  by_cases hlt : k < l.parts.length
  rotate_left
  · rw [List.drop_eq_nil_of_le (by omega), Yu, List.append_nil] at hh
    rw [hh]
    repeat' first
     | (with_reducible first | refine sA rfl ?_ | refine sI rfl rfl ?_ | refine sT rfl ?_ | refine sB rfl ?_)
     | (with_reducible refine Y7 ?_; first | refine Yr ?_ | (refine ao1 rfl rfl fun K HK => ?_; simp only [go_sem, e0, e3, e4, e5, e16, e17, e18, nilV]; (first | refine X1 (fun hq => ?_) (fun hq => ?_) | (refine ⟨by omega, by omega, ?_⟩; intro row hrow; obtain ⟨x, hx, rfl⟩ := Ui hrow; clear hrow) | skip) <;> (refine HK _ _ ?_; clear HK K)) | (refine ao1' rfl fun K HK => ?_; simp only [go_sem, e0, e3, e4, e5, e16, e17, e18, nilV]; refine HK _ _ ?_; clear HK K))
     | (exfalso; omega)
    exact ⟨.inr rfl, endR (s' := s2) (ds := [.agg [.v (.int .i64 0), .v (.slice none 0 0), .buf 4 acc.length, .v (.slice none 0 0)]]) (r := .agg [.v (.int .i64 0), .v (.slice none 0 0), .sl 4 (acc.map vaX), .v (.slice none 0 0)]) (T := _) (by simp only [resD, Tryz.results54, go_sem, ↓reduceIte, Z0, Z2, Z1, e4, nilV, q5_2, Ya3]; try rfl) rfl (low_vaP _ _) (by simp [outD, cvD, cv1]) ⟨_, ⟨rfl, rfl⟩, Zn2 Ye (Ys _) Ye⟩⟩
  have hx : l.parts[k]? = some l.parts[k] := Zv hlt
  have wk : IntKind.i64.wrap ((k : Int) + 1) = ((k + 1 : Nat) : Int) := IntWalk.i64_in _ (by omega)
  have hrx := fun (h : List Ob) (q : h[0]? = some (Yf s2)) => (hrd _ (List.getElem_mem hlt)).at hG hoA (by rw [hdA]; exact hl) q
  obtain ⟨ho3, hd3⟩ := hkp _ (List.getElem_mem hlt) s2 hoA
  rw [List.drop_eq_getElem_cons hlt, Yu] at hh
  generalize l.parts[k] = x at hx hrx ho3 hd3 hh
  generalize X0 x s2 = y at hrx ho3 hd3 hh
  obtain ⟨y, s3⟩ := y
  simp only at hrx ho3 hd3 hh
  simp only [Y4 x] at hrx
  have hlr : (acc.map vaX).length = acc.length := Z5 _
  have F : _ ∧ _ ∧ _ ∧ _ ∧ _ ∧ _ ∧ _ ∧ _ ∧ _ ∧ _ := ⟨Y4 l, Y4 x, e0, e3, e4, e5, e16, e17, e18, wk⟩
  repeat' first
   | (with_reducible refine Yj ?_; refine X7 mixd (by kernel_rfl) ?_)
   | ((with_reducible refine Uc ?_); first | (refine Ux rfl rfl rfl rfl (by (first | (simp only [go_sem, F]; rfl) | (simp only [go_sem, F]; done))) hlr (by simp only [go_sem, F]; rfl) (by (first | (simp only [go_sem, F]; rfl) | (simp only [go_sem, F]; done))) (by simp) (Jo _) (by simp; omega) ?_) | (refine Xg rfl rfl rfl (by (first | (simp only [go_sem, F]; rfl) | (simp only [go_sem, F]; done))) (by rw [getD_agg' aggT_26, szT_26]; rfl) ?_) | (refine aS1 rfl rfl fun K HK => ?_; simp only [go_sem, F]; (first | refine X1 (fun hq => ?_) (fun hq => ?_) | (refine ⟨by omega, by omega, ?_⟩; refine W9 (by assumption) ?_) | skip) <;> (refine HK _ _ rfl ?_; clear HK K)) | refine Xg rfl rfl rfl (by (first | (simp only [go_sem, F]; rfl) | (simp only [go_sem, F]; done))) (by rw [getD_one (by simp only [go_sem, F])]; rfl) ?_ | refine V3 rfl rfl (by (first | (simp only [go_sem, F]; rfl) | (simp only [go_sem, F]; done))) rfl (by simp only [go_sem, F]) (by simp) ?_ | refine Vn rfl rfl (by simp only [litD, Xf, go_sem, Z9, Za, Zs, Zp, and_self, ↓reduceIte, Z0, Z2, Z1, Zc, Zd, Zf, Zh, Zg, Y4 l, Y4 x, e0, e3, e4, e5, e16, e17, e18, wk, X8, Vo, q5_0, q5_1, q5_2, q5_3, q5_4, q5_s0, q5_s1, Ya3, q5_s3, q5_s4, Zw2, q5_app, q5_l, q5_sl, q5_l2, q5_sl2, q5_l3, q5_sl3, Z5, Zu, Zb, Z8, Z7, Z4, Z9, Za, Z6]; rfl) ?_ | refine V4 (by simp only [Zo, Zq, Z7, Z8, W5, chk1]; repeat' (first | exact trivial | refine And.intro ?_ ?_ | exact .inr X2 | exact .inr X4 | exact .inr Xj | exact .inr (Xi (by omega)) | exact .inr (Wu (by omega)) | (refine .inr ?_; simp [compat, Xw, Wa, Ws, nop, X8, Zw2] <;> omega) | exact .inl (by kernel_rfl))) ?_ | refine Xt rfl rfl rfl ent_54 (by (first | (simp only [go_sem, F]; rfl) | (simp only [go_sem, F]; done))) (fun h2 k2 => hrx h2 k2) ?_)
   | refine g ?_
   | refine Two.mk (fun hq => ?_) fun hq => ?_
   | (exfalso; omega)
  exact ⟨rfl, l.parts.length - (k + 1), by omega, k + 1, acc ++ [y], s3, _, hlt, rfl, by rw [hh, Zb]; rfl, ho3, hd3.trans hdA, by simp [hal], by rw [Y4 l, Ze, Z4]; rfl, e0, e3, e4, e5, e16, e17, rfl⟩
end
section
attribute [local irreducible] on aOp
attribute [local go_sem] decide_true decide_false Zm Zj
attribute [local simp] byD_len
theorem rd_5 {l : Lat} {p : Lat} (h : l.kind = 5) (hp : l.parts = [p]) (s : RS) : X0 l s = (.mk 0 ((Yi (Xn (X0 p)) (Y6 s).1 (Y6 s).2).1.map Zz) ((Yi (Xn (X0 p)) (Y6 s).1 (Y6 s).2).1.map Y0) [], (Yi (Xn (X0 p)) (Y6 s).1 (Y6 s).2).2) := by
 cases l; simp only [Lat.kind, Lat.parts] at h hp; subst h hp; exact Yg3 s
theorem low_vaM (n : Int) (ns : List ByteArray) (ps : List Val) : low 0 (.agg [.v (.int .i64 n), .sl 1 (ns.map strX), .sl 4 (ps.map vaX), .v (.slice none 0 0)]) := by
 rw [low]; simp only [lowL]; exact ⟨by simp [low], Yv _ ns, Zl6 _ ps, by simp [low], trivial⟩
variable (G : Nat → D) (hG : ∀ g, low 0 (G g))
include hG
attribute [local go_sem] Z6 Zf Zg Zh Int.toNat_zero Zb Z8 Z4 Z9 Z5 Za Z7 Z2 Zc Z0 Z1 Zd q6_0 q6_1 q6_2 q6_3 q6_4 q6_5 q6_app q6_l q6_l2 q6_l3 q6_len q6_s0 q6_s1 q6_s2 q6_s3 q6_s4 q6_s5 q6_sl q6_sl2 q6_sl3 X8 Vo
attribute [local go_sem ↓] reduceIte
theorem read_5 (l : Lat) (hk : l.kind = 5) (p : Lat) (hp : l.parts = [p]) (hrd : ReadD G p) (hkp : ∀ s : RS, s.Ok → (X0 p s).2.Ok ∧ (X0 p s).2.data = s.data) : ReadD G l := fun s ho hl => by
 rw [rd_5 hk hp, Zp5]
 have hb := fun (h : List Ob) (k : h[0]? = some (Yf s)) => Zs2 G hG 0 s h k ho (by omega)
 obtain ⟨ho2, hd2, hc2⟩ := We ho
 generalize Y6 s = b at *
 obtain ⟨N, s1⟩ := b
 simp only at hb ho2 hd2 hc2 ⊢
 generalize hR : Yi (Xn (X0 p)) N s1 = R
 have hp0 : l.parts[0]? = some p := by rw [hp]; rfl
 have hpl : l.parts.length = 1 := by rw [hp]; rfl
 clear hp
 apply Does.weak
 refine Y5 Tryz.func54 rfl (Z3 rfl) hG fun hl0 _ => ?_
 simp only [Tryz.ntmps54]
 have F : _ ∧ _ := ⟨Y4 l, hk⟩
 repeat' first
  | refine g0 ?_
  | (with_reducible refine Y7 ?_; refine gc rfl rfl rfl ent_90 (hb _ (by first | rfl | simp)) ?_)
 refine Vt 9 1 3 [.v (.int .i64 0)] [.v (.slice none 0 0), .v (.slice none 0 0)] rfl ?_
 refine Vt 30 4 3 [.v (.int .i64 0), .buf 4 0] [.v (.slice none 0 0)] rfl ?_
 refine Yn (fun m e h' => ∃ (k : Nat) (acc : List (ByteArray × Val)) (s2 : RS) (T : List Ob), m = k ∧ LoopAt R (Xn (X0 p)) acc k s2 ∧ s2.Ok ∧ s2.data.length = s.data.length ∧ acc.length + k ≤ 1000000 ∧ h' = q6 (Yf s2) (.cells (latX l)) (.cells nilV) (.cells [.v (.int .i64 0), .buf 4 acc.length, .buf 5 acc.length, .v (.slice none 0 0)]) (.buf 9 1 ((acc.map Zz).map strX)) (.buf 30 4 ((acc.map Y0).map vaX)) T ∧ e 0 = .ptr 0 0 ∧ e 3 = .ptr 1 0 ∧ e 4 = .ptr 2 0 ∧ e 5 = .ptr 3 0 ∧ e 6 = .v (.int .i64 k)) N ⟨N, [], s1, [], rfl, hR ▸ LoopAt.start _ N s1, ho2, by rw [hd2], by simp; omega, by rw [Y4 l, hk]; rfl, rfl, rfl, rfl, rfl, rfl⟩ ?_
 rintro m e h' ⟨k, acc, s2, T, rfl, hLp, hoA, hdA, hlen, rfl, e0, e3, e4, e5, e6⟩
 have hEr := fun (h : List Ob) (q : h[0]? = some (Yf s2)) => rErr_d G hG 0 s2 h q
 have hlA : s2.data.length ≤ 1000000 := by omega
 have ht := fun (h : List Ob) (q : h[0]? = some (Yf s2)) => Yh2 G hG 0 s2 h q hoA (by omega)
 by_cases hgo : 0 < m ∧ s2.err = 0
 · obtain ⟨hm0, he0⟩ := hgo
   have he0d : decide (s2.err = 0) = true := decide_eq_true he0
   have hm0d : decide ((0 : Int) < (m : Int)) = true := decide_eq_true (by omega)
   have wk : IntKind.i64.wrap ((m : Int) - 1) = ((m - 1 : Nat) : Int) := by rw [show (m : Int) - 1 = ((m - 1 : Nat) : Int) by omega]; exact IntWalk.i64_in _ (by omega)
   have hlr : ((acc.map Zz).map strX).length = acc.length := by rw [Z5, Z5]
   have hlr2 : ((acc.map Y0).map vaX).length = acc.length := by rw [Z5, Z5]
   obtain ⟨ho3, hd3, _⟩ := Vb hoA
   have hN := hLp.next2 hm0 he0
   have hpair : Xn (X0 p) s2 = (((Y9 s2).1, (X0 p (Y9 s2).2).1), (X0 p (Y9 s2).2).2) := rfl
   rw [hpair] at hN
   have ho3' : (Y9 s2).2.Ok := ho3
   have hd3' : (Y9 s2).2.data = s2.data := hd3
   have ht' : ∀ (h : List Ob), h[0]? = some (Yf s2) → Does Zn G 92 h [.ptr 0 0] (fun h' r => h' = h.set 0 (Yf (Y9 s2).2) ∧ r = .v (.string (Y9 s2).1)) := ht
   clear ht ho3 hd3 hpair
   generalize Y9 s2 = tx at *
   obtain ⟨tx, s3⟩ := tx
   simp only at hN ho3' hd3' ht'
   have hrx := fun (h : List Ob) (q : h[0]? = some (Yf s3)) => hrd.at hG ho3' (by rw [hd3']; exact hlA) q
   obtain ⟨ho4, hd4⟩ := hkp s3 ho3'
   generalize X0 p s3 = y at *
   obtain ⟨y, s4⟩ := y
   simp only at hN hrx ho4 hd4
   simp only [Y4 p] at hrx
   have F : _ ∧ _ ∧ _ ∧ _ ∧ _ ∧ _ ∧ _ ∧ _ ∧ _ ∧ _ ∧ _ := ⟨Y4 l, Y4 p, hk, e0, e3, e4, e5, e6, he0d, hm0d, wk⟩
   repeat' first
    | (with_reducible refine Yj ?_; refine X7 mixd (by kernel_rfl) ?_)
    | ((with_reducible refine Uc ?_); first | (refine Ux rfl rfl rfl rfl (by (first | (simp only [go_sem, F]; rfl) | (simp only [go_sem, F]; done))) hlr (by simp only [go_sem, F]; rfl) (by (first | (simp only [go_sem, F]; rfl) | (simp only [go_sem, F]; done))) (by simp) (Yb2 _) (by simp; omega) ?_) | (refine Ux rfl rfl rfl rfl (by (first | (simp only [go_sem, F]; rfl) | (simp only [go_sem, F]; done))) hlr2 (by simp only [go_sem, F]; rfl) (by (first | (simp only [go_sem, F]; rfl) | (simp only [go_sem, F]; done))) (by simp) (Jo _) (by simp; omega) ?_) | (refine aS1 rfl rfl fun K HK => ?_; (first | refine Yh rfl ?_ | skip); simp only [go_sem, F]; (first | (refine ⟨by omega, ?_⟩; refine W9 (by assumption) ?_) | skip) <;> (refine HK _ _ rfl ?_; clear HK K)) | refine Xg rfl rfl rfl (by (first | (simp only [go_sem, F]; rfl) | (simp only [go_sem, F]; done))) (by rw [getD_one (by simp only [go_sem, F])]; rfl) ?_ | refine V3 rfl rfl (by (first | (simp only [go_sem, F]; rfl) | (simp only [go_sem, F]; done))) rfl (by simp only [go_sem, F]) (by simp) ?_ | refine Vn rfl rfl (by simp only [litD, Xf, go_sem, Z9, Za, Zs, Zp, and_self, ↓reduceIte, Z0, Z2, Z1, Zc, Zd, Zf, Zh, Zg, Y4 l, Y4 p, hk, e0, e3, e4, e5, e6, he0d, hm0d, wk, X8, Vo, q6_0, q6_1, q6_2, q6_3, q6_4, q6_5, q6_s0, q6_s1, q6_s2, q6_s3, q6_s4, q6_s5, q6_len, q6_app, q6_l, q6_sl, q6_l2, q6_sl2, q6_l3, q6_sl3, Z5, Int.toNat_zero, Zb, Z8, Z7, Z4, Z9, Za, Z6]; rfl) ?_ | refine V4 (by simp only [Zo, Zq, Z7, Z8, W5, chk1]; repeat' (first | exact trivial | refine And.intro ?_ ?_ | exact .inr X2 | exact .inr X4 | exact .inr Xj | exact .inr (Xi (by omega)) | exact .inr (Wu (by omega)) | (refine .inr ?_; simp [compat, Xw, Wa, Ws, nop, X8, q6_len] <;> omega) | exact .inl (by kernel_rfl))) ?_ | refine Xt rfl rfl rfl ent_92 (by (first | (simp only [go_sem, F]; rfl) | (simp only [go_sem, F]; done))) (fun h2 k2 => ht' h2 k2) ?_ | refine Xt rfl rfl rfl ent_54 (by (first | (simp only [go_sem, F]; rfl) | (simp only [go_sem, F]; done))) (fun h2 k2 => hrx h2 k2) ?_)
    | refine g0 ?_
    | (with_reducible refine Y7 ?_; refine gc rfl rfl rfl Zq3 (hEr _ (by first | exact q6_0 | rfl | (simp; done))) ?_)
   exact ⟨rfl, m - 1, by omega, m - 1, acc ++ [(tx, y)], s4, _, rfl, hN, ho4, by rw [hd4, hd3', hdA], by simp; omega, by rw [Y4 l, Ze, Ze, Ze, Ze, Z4, hk]; rfl, e0, e3, e4, e5, rfl⟩
 · have hst := hLp.stop2 hgo
   rw [hst]
   have hgo2 : ¬ (0 < (m : Int)) ∨ (0 < (m : Int) ∧ ¬ s2.err = 0) := by omega
   rcases hgo2 with hm0 | ⟨hm0, he0⟩
   · skip
     repeat' first
      | (with_reducible first | refine sA rfl ?_ | refine sI rfl rfl ?_ | refine sT rfl ?_ | refine sB rfl ?_)
      | (with_reducible refine Y7 ?_; first | refine Yr ?_ | (refine ao1 rfl rfl fun K HK => ?_; (first | refine Yh rfl ?_ | skip); simp only [go_sem, e0, e3, e4, e5, e6, hm0, nilV] <;> (refine HK _ _ ?_; clear HK K)) | refine ao0 rfl rfl ?_ | (refine ao1' rfl fun K HK => ?_; simp only [go_sem, e0, e3, e4, e5, e6, hm0, nilV]; refine HK _ _ ?_; clear HK K))
     exact ⟨.inr rfl, endR (s' := s2) (ds := [.agg [.v (.int .i64 0), .buf 4 acc.length, .buf 5 acc.length, .v (.slice none 0 0)]]) (r := .agg [.v (.int .i64 0), .sl 1 ((acc.map Zz).map strX), .sl 4 ((acc.map Y0).map vaX), .v (.slice none 0 0)]) (T := _) (by simp only [resD, Tryz.results54, go_sem, ↓reduceIte, Z0, Z2, Z1, e4, nilV, q6_2, q6_s2]; try rfl) rfl (low_vaM _ _ _) (by simp [outD, cvD, cv1]) ⟨_, ⟨rfl, rfl⟩, Zn2 (Ys _) (Ys _) Ye⟩⟩
   · skip
     repeat' first
      | (with_reducible first | refine sA rfl ?_ | refine sI rfl rfl ?_ | refine sT rfl ?_ | refine sB rfl ?_)
      | (with_reducible refine Y7 ?_; first | refine Yr ?_ | (refine ao1 rfl rfl fun K HK => ?_; (first | refine Yh rfl ?_ | skip); simp only [go_sem, e0, e3, e4, e5, e6, hm0, he0, nilV] <;> (refine HK _ _ ?_; clear HK K)) | (refine ao2 rfl rfl rfl Zq3 (hEr _ (by first | exact q6_0 | rfl | (simp; done))) ?_; rintro _ _ ⟨rfl, rfl⟩) | (refine ao1' rfl fun K HK => ?_; simp only [go_sem, e0, e3, e4, e5, e6, hm0, he0, nilV]; refine HK _ _ ?_; clear HK K))
     exact ⟨.inr rfl, endR (s' := s2) (ds := [.agg [.v (.int .i64 0), .buf 4 acc.length, .buf 5 acc.length, .v (.slice none 0 0)]]) (r := .agg [.v (.int .i64 0), .sl 1 ((acc.map Zz).map strX), .sl 4 ((acc.map Y0).map vaX), .v (.slice none 0 0)]) (T := _) (by simp only [resD, Tryz.results54, go_sem, ↓reduceIte, Z0, Z2, Z1, e4, nilV, q6_2, q6_s2]; try rfl) rfl (low_vaM _ _ _) (by simp [outD, cvD, cv1]) ⟨_, ⟨rfl, rfl⟩, Zn2 (Ys _) (Ys _) Ye⟩⟩
end
section
attribute [local irreducible] on aOp
attribute [local go_sem] decide_true decide_false Zm Zj
attribute [local simp] byD_len
def w5 (R A Z V B : Ob) (T : List Ob) (X C : Ob) (U : List Ob) : List Ob := R :: A :: Z :: V :: B :: (T ++ X :: C :: U)
section
variable {R A Z V B X C y y' : Ob} {T U l : List Ob}
theorem w5_0 : (w5 R A Z V B T X C U)[0]? = some R := rfl
theorem w5_1 : (w5 R A Z V B T X C U)[1]? = some A := rfl
theorem w5_2 : (w5 R A Z V B T X C U)[2]? = some Z := rfl
theorem w5_3 : (w5 R A Z V B T X C U)[3]? = some V := rfl
theorem w5_4 : (w5 R A Z V B T X C U)[4]? = some B := rfl
theorem w5_s0 : (w5 R A Z V B T X C U).set 0 y = w5 y A Z V B T X C U := rfl
theorem w5_s3 : (w5 R A Z V B T X C U).set 3 y = w5 R A Z y B T X C U := rfl
theorem w5_s4 : (w5 R A Z V B T X C U).set 4 y = w5 R A Z V y T X C U := rfl
theorem w5_x : (w5 R A Z V B T X C U)[T.length + 5]? = some X := by simp [w5]
theorem w5_c : (w5 R A Z V B T X C U)[T.length + 6]? = some C := by simp [w5, Zt]
theorem w5_sx : (w5 R A Z V B T X C U).set (T.length + 5) y = w5 R A Z V B T y C U := by simp [w5]
theorem w5_sc : (w5 R A Z V B T X C U).set (T.length + 6) y = w5 R A Z V B T X y U := by
 simp only [w5, List.set_cons_succ]
 rw [List.set_append_right _ _ (by omega)]; simp
theorem w5_len : (w5 R A Z V B T X C U).length = T.length + (U.length + 7) := by simp [w5]; omega
theorem w5_app : w5 R A Z V B T X C U ++ l = w5 R A Z V B T X C (U ++ l) := by simp [w5]
theorem w5_l : (w5 R A Z V B T X C (U ++ [y]))[T.length + (U.length + 7)]? = some y := by
 simp only [w5]
 rw [show T.length + (U.length + 7) = T.length + (U.length + 2) + 1 + 1 + 1 + 1 + 1 by omega]
 simp only [List.getElem?_cons_succ]
 rw [Zt (by omega), show T.length + (U.length + 2) - T.length = U.length + 1 + 1 by omega]
 simp
theorem w5_sl : (w5 R A Z V B T X C (U ++ [y])).set (T.length + (U.length + 7)) y' = w5 R A Z V B T X C (U ++ [y']) := by
 simp only [w5]
 rw [show T.length + (U.length + 7) = T.length + (U.length + 2) + 1 + 1 + 1 + 1 + 1 by omega]
 simp only [List.set_cons_succ]
 rw [List.set_append_right _ _ (by omega), show T.length + (U.length + 2) - T.length = U.length + 1 + 1 by omega]
 simp
end
theorem rd_9 {l : Lat} (h : l.kind = 9) (s : RS) : X0 l s = (.mk 0 [] [] (Yi Vz (Y6 s).1 (Y6 s).2).1, (Yi Vz (Y6 s).1 (Y6 s).2).2) := by
 cases l; simp only [Lat.kind] at h; subst h; exact Yg2 s
theorem low_vaE (n : Int) (es : List En) : low 0 (.agg [.v (.int .i64 n), .v (.slice none 0 0), .v (.slice none 0 0), .sl 2 (es.map enX)]) := by
 rw [low]; simp only [lowL]; exact ⟨by simp [low], by simp [low], by simp [low], low_ens2 _ es, trivial⟩
theorem rowsOk_tk (t : Tk) : Yz 2 [tkX t] := fun row hr => by
 simp only [Zk] at hr; subst hr
 exact ⟨rfl, fun d hd => by simp only [tkX, Zy, List.mem_nil_iff, or_false] at hd; rcases hd with rfl | rfl <;> rfl⟩
variable (G : Nat → D) (hG : ∀ g, low 0 (G g))
include hG
attribute [local go_sem] Z6 Zf Zg Zh Zb Z8 Z4 Z9 Za Z7 Z2 Zc Z0 Z1 Zd q5_0 q5_1 q5_2 q5_3 q5_4 q5_app q5_l q5_l2 q5_l3 Zw2 q5_s0 q5_s1 Ya3 q5_s3 q5_s4 q5_sl q5_sl2 q5_sl3 w5_0 w5_1 w5_2 w5_3 w5_4 w5_app w5_c w5_l w5_len w5_s0 w5_s3 w5_s4 w5_sc w5_sl w5_sx w5_x
attribute [local go_sem ↓] reduceIte
theorem read_9 (l : Lat) (hk : l.kind = 9) : ReadD G l := fun s ho hl => by
 rw [rd_9 hk, Zp5]
 have hb := fun (h : List Ob) (k : h[0]? = some (Yf s)) => Zs2 G hG 0 s h k ho (by omega)
 obtain ⟨ho2, hd2, hc2⟩ := We ho
 generalize Y6 s = b at *
 obtain ⟨N, s1⟩ := b
 simp only at hb ho2 hd2 hc2 ⊢
 generalize hR : Yi Vz N s1 = R
 apply Does.weak
 refine Y5 Tryz.func54 rfl (Z3 rfl) hG fun hl0 _ => ?_
 simp only [Tryz.ntmps54]
 have F : _ ∧ _ := ⟨Y4 l, hk⟩
 repeat' first
  | refine g0 ?_
  | (with_reducible refine Y7 ?_; refine gc rfl rfl rfl ent_90 (hb _ (by first | rfl | simp)) ?_)
 refine Vt 43 2 3 [.v (.int .i64 0), .v (.slice none 0 0), .v (.slice none 0 0)] [] rfl ?_
 refine Yn (fun m e h' => ∃ (k : Nat) (acc : List En) (s2 : RS) (T : List Ob), m = k ∧ LoopAt R Vz acc k s2 ∧ s2.Ok ∧ s2.data.length = s.data.length ∧ acc.length + k ≤ 1000000 ∧ h' = q5 (Yf s2) (.cells (latX l)) (.cells nilV) (.cells [.v (.int .i64 0), .v (.slice none 0 0), .v (.slice none 0 0), .buf 4 acc.length]) (.buf 43 2 (acc.map enX)) T ∧ e 0 = .ptr 0 0 ∧ e 3 = .ptr 1 0 ∧ e 4 = .ptr 2 0 ∧ e 5 = .ptr 3 0 ∧ e 7 = .v (.int .i64 k)) N ⟨N, [], s1, [], rfl, hR ▸ LoopAt.start _ N s1, ho2, by rw [hd2], by simp; omega, by rw [Y4 l, hk]; rfl, rfl, rfl, rfl, rfl, rfl⟩ ?_
 rintro m e h' ⟨k, acc, s2, T, rfl, hLp, hoA, hdA, hlen, rfl, e0, e3, e4, e5, e7⟩
 have hEr := fun (h : List Ob) (q : h[0]? = some (Yf s2)) => rErr_d G hG 0 s2 h q
 have hlA : s2.data.length ≤ 1000000 := by omega
 by_cases hgo : 0 < m ∧ s2.err = 0
 rotate_left
 · have hst := hLp.stop2 hgo
   rw [hst]
   have hgo2 : ¬ (0 < (m : Int)) ∨ (0 < (m : Int) ∧ ¬ s2.err = 0) := by omega
   rcases hgo2 with hm0 | ⟨hm0, he0⟩
   · skip
     repeat' first
      | (with_reducible first | refine sA rfl ?_ | refine sI rfl rfl ?_ | refine sT rfl ?_ | refine sB rfl ?_)
      | (with_reducible refine Y7 ?_; first | refine Yr ?_ | (refine ao1 rfl rfl fun K HK => ?_; (first | refine Yh rfl ?_ | skip); simp only [go_sem, e0, e3, e4, e5, e7, hm0, nilV] <;> (refine HK _ _ ?_; clear HK K)) | refine ao0 rfl rfl ?_ | (refine ao1' rfl fun K HK => ?_; simp only [go_sem, e0, e3, e4, e5, e7, hm0, nilV]; refine HK _ _ ?_; clear HK K))
     exact ⟨.inr rfl, endR (s' := s2) (ds := [.agg [.v (.int .i64 0), .v (.slice none 0 0), .v (.slice none 0 0), .buf 4 acc.length]]) (r := .agg [.v (.int .i64 0), .v (.slice none 0 0), .v (.slice none 0 0), .sl 2 (acc.map enX)]) (T := _) (by simp only [resD, Tryz.results54, go_sem, ↓reduceIte, Z0, Z2, Z1, e4, nilV, q5_2, Ya3]; try rfl) rfl (low_vaE _ _) (by simp [outD, cvD, cv1]) ⟨_, ⟨rfl, rfl⟩, Zn2 Ye Ye (Ys _)⟩⟩
   · skip
     repeat' first
      | (with_reducible first | refine sA rfl ?_ | refine sI rfl rfl ?_ | refine sT rfl ?_ | refine sB rfl ?_)
      | (with_reducible refine Y7 ?_; first | refine Yr ?_ | (refine ao1 rfl rfl fun K HK => ?_; (first | refine Yh rfl ?_ | skip); simp only [go_sem, e0, e3, e4, e5, e7, hm0, he0, nilV] <;> (refine HK _ _ ?_; clear HK K)) | (refine ao2 rfl rfl rfl Zq3 (hEr _ (by first | exact q5_0 | exact w5_0 | rfl)) ?_; rintro _ _ ⟨rfl, rfl⟩) | (refine ao1' rfl fun K HK => ?_; simp only [go_sem, e0, e3, e4, e5, e7, hm0, he0, nilV]; refine HK _ _ ?_; clear HK K))
     exact ⟨.inr rfl, endR (s' := s2) (ds := [.agg [.v (.int .i64 0), .v (.slice none 0 0), .v (.slice none 0 0), .buf 4 acc.length]]) (r := .agg [.v (.int .i64 0), .v (.slice none 0 0), .v (.slice none 0 0), .sl 2 (acc.map enX)]) (T := _) (by simp only [resD, Tryz.results54, go_sem, ↓reduceIte, Z0, Z2, Z1, e4, nilV, q5_2, Ya3]; try rfl) rfl (low_vaE _ _) (by simp [outD, cvD, cv1]) ⟨_, ⟨rfl, rfl⟩, Zn2 Ye Ye (Ys _)⟩⟩
 obtain ⟨hm0, he0⟩ := hgo
 have he0d : decide (s2.err = 0) = true := decide_eq_true he0
 have hm0d : decide ((0 : Int) < (m : Int)) = true := decide_eq_true (by omega)
 have wm : IntKind.i64.wrap ((m : Int) - 1) = ((m - 1 : Nat) : Int) := by rw [show (m : Int) - 1 = ((m - 1 : Nat) : Int) by omega]; exact IntWalk.i64_in _ (by omega)
 have hN := hLp.next2 hm0 he0
 have hent : Vz s2 = (⟨(Yi J5 (Y6 s2).1 (Y6 s2).2).1, (Y9 (Yi J5 (Y6 s2).1 (Y6 s2).2).2).1⟩, (Y9 (Yi J5 (Y6 s2).1 (Y6 s2).2).2).2) := rfl
 rw [hent] at hN
 have hct := fun (h : List Ob) (q : h[0]? = some (Yf s2)) => Zs2 G hG 0 s2 h q hoA (by omega)
 obtain ⟨ho3, hd3, hc3⟩ := We hoA
 clear hent
 generalize Y6 s2 = b at *
 obtain ⟨N2, s3⟩ := b
 simp only at hN hct ho3 hd3 hc3
 generalize hR2 : Yi J5 N2 s3 = R2 at hN
 have F : _ ∧ _ ∧ _ ∧ _ ∧ _ ∧ _ ∧ _ ∧ _ ∧ _ := ⟨Y4 l, hk, e0, e3, e4, e5, e7, he0d, hm0d⟩
 repeat' first
  | refine g0 ?_
  | (with_reducible refine Y7 ?_; first | refine gc rfl rfl rfl Zq3 (hEr _ (by first | exact q5_0 | exact w5_0 | rfl)) ?_ | refine gc rfl rfl rfl ent_90 (hct _ (by first | exact q5_0 | rfl)) ?_)
 refine Vt 99 2 (T.length + 5) [] [.v (.string ⟨#[]⟩)] (by first | exact q5_l | (simp [q5]; done)) ?_
 refine Yn (fun m2 e h' => ∃ (k : Nat) (tks : List Tk) (s4 : RS) (U : List Ob), m2 = k ∧ LoopAt R2 J5 tks k s4 ∧ s4.Ok ∧ s4.data.length = s.data.length ∧ tks.length + k ≤ 1000000 ∧ h' = w5 (Yf s4) (.cells (latX l)) (.cells nilV) (.cells [.v (.int .i64 0), .v (.slice none 0 0), .v (.slice none 0 0), .buf 4 acc.length]) (.buf 43 2 (acc.map enX)) T (.cells [.buf (T.length + 6) tks.length, .v (.string ⟨#[]⟩)]) (.buf 99 2 (tks.map tkX)) U ∧ e 0 = .ptr 0 0 ∧ e 3 = .ptr 1 0 ∧ e 4 = .ptr 2 0 ∧ e 5 = .ptr 3 0 ∧ e 7 = .v (.int .i64 m) ∧ e 8 = .ptr (T.length + 5) 0 ∧ e 9 = .v (.int .i64 k)) N2 ⟨N2, [], s3, [], rfl, hR2 ▸ LoopAt.start _ N2 s3, ho3, by rw [hd3, hdA], by simp; omega, by rw [Y4 l, hk]; simp [q5, w5], e0, e3, e4, e5, e7, rfl, rfl⟩ ?_
 clear e0 e3 e4 e5 e7
 rintro m2 e h' ⟨k2, tks, s4, U, rfl, hLp2, hoB, hdB, hlen2, rfl, e0, e3, e4, e5, e7, e8, e9⟩
 have hEr2 := fun (h : List Ob) (q : h[0]? = some (Yf s4)) => rErr_d G hG 0 s4 h q
 have hlB : s4.data.length ≤ 1000000 := by omega
 by_cases hgo : 0 < m2 ∧ s4.err = 0
 · obtain ⟨hm20, he20⟩ := hgo
   have he2d : decide (s4.err = 0) = true := decide_eq_true he20
   have hm2d : decide ((0 : Int) < (m2 : Int)) = true := decide_eq_true (by omega)
   have wm2 : IntKind.i64.wrap ((m2 : Int) - 1) = ((m2 - 1 : Nat) : Int) := by rw [show (m2 : Int) - 1 = ((m2 - 1 : Nat) : Int) by omega]; exact IntWalk.i64_in _ (by omega)
   have hN2 := hLp2.next2 hm20 he20
   have htick : J5 s4 = (⟨((Yp 63 s4).1 : Nat), ((Yp 1000000000000000 (Yp 63 s4).2).1 : Nat)⟩, (Yp 1000000000000000 (Yp 63 s4).2).2) := rfl
   rw [htick] at hN2
   have hs1 := fun (h : List Ob) (q : h[0]? = some (Yf s4)) => small_d G hG 0 63 s4 h (by omega) q hoB (by omega)
   simp only [rdSm_eq] at hs1
   obtain ⟨ho5, hd5⟩ := Xb 63 hoB
   clear htick
   generalize Yp 63 s4 = b at *
   obtain ⟨p, s5⟩ := b
   simp only at hN2 hs1 ho5 hd5
   have hs2 := fun (h : List Ob) (q : h[0]? = some (Yf s5)) => small_d G hG 0 1000000000000000 s5 h (by omega) q ho5 (by rw [hd5]; omega)
   simp only [rdSm_eq] at hs2
   obtain ⟨ho6, hd6⟩ := Xb 1000000000000000 ho5
   generalize Yp 1000000000000000 s5 = b at *
   obtain ⟨q, s6⟩ := b
   simp only at hN2 hs2 ho6 hd6
   have hlr : (tks.map tkX).length = tks.length := Z5 _
   have F : _ ∧ _ ∧ _ ∧ _ ∧ _ ∧ _ ∧ _ ∧ _ ∧ _ ∧ _ := ⟨e0, e3, e4, e5, e7, e8, e9, he2d, hm2d, wm2⟩
   repeat' first
    | (with_reducible refine Yj ?_; refine X7 mixd (by kernel_rfl) ?_)
    | ((with_reducible refine Uc ?_); first | (refine Ux rfl rfl rfl rfl (by (first | (simp only [go_sem, F]; rfl) | (simp only [go_sem, F]; done))) hlr (by simp only [go_sem, F]; rfl) (by (first | (simp only [go_sem, F]; rfl) | (simp only [go_sem, F]; done))) (by simp) (rowsOk_tk ⟨p, q⟩) (by simp; omega) ?_) | (refine aS1 rfl rfl fun K HK => ?_; (first | refine Yh rfl ?_ | skip); simp only [go_sem, F] <;> (refine HK _ _ rfl ?_; clear HK K)) | refine Xg rfl rfl rfl (by (first | (simp only [go_sem, F]; rfl) | (simp only [go_sem, F]; done))) (by rw [getD_one (by simp only [go_sem, F])]; rfl) ?_ | refine V3 rfl rfl (by (first | (simp only [go_sem, F]; rfl) | (simp only [go_sem, F]; done))) rfl (by simp only [go_sem, F]) (by simp) ?_ | refine Vn rfl rfl (by simp only [litD, Xf, go_sem, Z9, Za, Zs, Zp, and_self, ↓reduceIte, Z0, Z2, Z1, Zc, Zd, Zf, Zh, Zg, e0, e3, e4, e5, e7, e8, e9, he2d, hm2d, wm2, w5_0, w5_1, w5_2, w5_3, w5_4, w5_s0, w5_s3, w5_s4, w5_x, w5_c, w5_sx, w5_sc, w5_len, w5_app, w5_l, w5_sl, Zb, Z8, Z7, Z4, Z9, Za, Z6]; rfl) ?_ | refine V4 (by simp only [Zo, Zq, Z7, Z8, W5, chk1]; repeat' (first | exact trivial | refine And.intro ?_ ?_ | exact .inr X2 | exact .inr X4 | exact .inr (Xi (by omega)) | exact .inr (Wu (by omega)) | (refine .inr ?_; simp [compat, Xw, Wa, Ws, nop, w5_len] <;> omega) | exact .inl (by kernel_rfl))) ?_ | refine Xt rfl rfl rfl ent_93 (by (first | (simp only [go_sem, F]; rfl) | (simp only [go_sem, F]; done))) (fun h2 k2 => hs2 h2 k2) ?_)
    | refine g0 ?_
    | (with_reducible refine Y7 ?_; first | refine gc rfl rfl rfl Zq3 (hEr2 _ (by first | exact q5_0 | exact w5_0 | rfl)) ?_ | refine gc rfl rfl rfl ent_93 (hs1 _ (by first | exact w5_0 | rfl)) ?_)
   exact ⟨rfl, m2 - 1, by omega, m2 - 1, tks ++ [⟨p, q⟩], s6, _, rfl, hN2, ho6, by rw [hd6, hd5, hdB], by simp; omega, by rw [Ze, Z4]; rfl, e0, e3, e4, e5, e7, e8, rfl⟩
 have hst2 := hLp2.stop2 hgo
 subst hst2
 simp only at hN
 have ht := fun (h : List Ob) (q : h[0]? = some (Yf s4)) => Yh2 G hG 0 s4 h q hoB (by omega)
 have ht' : ∀ (h : List Ob), h[0]? = some (Yf s4) → Does Zn G 92 h [.ptr 0 0] (fun h' r => h' = h.set 0 (Yf (Y9 s4).2) ∧ r = .v (.string (Y9 s4).1)) := ht
 obtain ⟨ho7, hd7, _⟩ := Vb hoB
 have ho7' : (Y9 s4).2.Ok := ho7
 have hd7' : (Y9 s4).2.data = s4.data := hd7
 clear ht ho7 hd7
 generalize Y9 s4 = tx at *
 obtain ⟨tx, s7⟩ := tx
 simp only at hN ho7' hd7' ht'
 have hlr : (acc.map enX).length = acc.length := Z5 _
 have hgo2 : ¬ (0 < (m2 : Int)) ∨ (0 < (m2 : Int) ∧ ¬ s4.err = 0) := by omega
 rcases hgo2 with hm20 | ⟨hm20, he20⟩
 · skip
   have F : _ ∧ _ ∧ _ ∧ _ ∧ _ ∧ _ ∧ _ ∧ _ ∧ _ := ⟨e0, e3, e4, e5, e7, e8, e9, wm, hm20⟩
   repeat' first
    | (with_reducible refine Y7 ?_; first | (refine ao_ldgive (j := T.length + 6) (d' := .agg [.sl 2 (tks.map tkX), .v (.string tx)]) (by with_unfolding_all rfl) (by with_unfolding_all rfl) (by with_unfolding_all exact e8) w5_x (by with_unfolding_all (rw [getD_agg' aggT_43, szT_43]; rfl)) (by simp [cvD, cv1, w5_c]) ?_; simp only [w5_sc]) | refine Wi rfl rfl rfl rfl (by (simp only [go_sem, F]; rfl)) (by simp) (by simp only [go_sem, F]; rfl) (by (simp only [go_sem, F]; rfl)) (by simp) (by (simp [Yz, D.one, Value.oneCell']; done)) (by (simp; omega)) ?_)
    | refine g0 ?_
    | (with_reducible refine Y7 ?_; refine gc rfl rfl rfl ent_92 (ht' _ (by first | exact w5_0 | rfl)) ?_)
   exact ⟨rfl, m - 1, by omega, m - 1, acc ++ [⟨tks, tx⟩], s7, _, rfl, hN, ho7', by rw [hd7', hdB], by simp; omega, by rw [Ze, Z4]; rfl, e0, e3, e4, e5, rfl⟩
 · skip
   have F : _ ∧ _ ∧ _ ∧ _ ∧ _ ∧ _ ∧ _ ∧ _ ∧ _ ∧ _ := ⟨e0, e3, e4, e5, e7, e8, e9, wm, hm20, he20⟩
   repeat' first
    | (with_reducible refine Y7 ?_; first | (refine ao_ldgive (j := T.length + 6) (d' := .agg [.sl 2 (tks.map tkX), .v (.string tx)]) (by with_unfolding_all rfl) (by with_unfolding_all rfl) (by with_unfolding_all exact e8) w5_x (by with_unfolding_all (rw [getD_agg' aggT_43, szT_43]; rfl)) (by simp [cvD, cv1, w5_c]) ?_; simp only [w5_sc]) | refine Wi rfl rfl rfl rfl (by (simp only [go_sem, F]; rfl)) (by simp) (by simp only [go_sem, F]; rfl) (by (simp only [go_sem, F]; rfl)) (by simp) (by (simp [Yz, D.one, Value.oneCell']; done)) (by (simp; omega)) ?_)
    | refine g0 ?_
    | (with_reducible refine Y7 ?_; first | refine gc rfl rfl rfl Zq3 (hEr2 _ (by first | exact q5_0 | exact w5_0 | rfl)) ?_ | refine gc rfl rfl rfl ent_92 (ht' _ (by first | exact w5_0 | rfl)) ?_)
   exact ⟨rfl, m - 1, by omega, m - 1, acc ++ [⟨tks, tx⟩], s7, _, rfl, hN, ho7', by rw [hd7', hdB], by simp; omega, by rw [Ze, Z4]; rfl, e0, e3, e4, e5, rfl⟩
end
section
attribute [local irreducible] on aOp
attribute [local go_sem] decide_true decide_false Zm Zj
attribute [local simp] byD_len
def isBotB (l : Lat) (v : Val) : Bool := decide (chkE l = 0) && decide (valC v (botV l) = 0)
theorem Vr {α : Type} {f : RS → α × RS} {enc : α → List UInt8} {p : α → Prop} (hk : Tks f enc) (hf : ∀ s : RS, s.Ok → s.data.length ≤ 1000000 → p (f s).1) : ∀ (n : Nat) (s : RS), s.Ok → s.data.length ≤ 1000000 → ∀ x ∈ (Yi f n s).1, p x
 | 0, s, _, _, x, hx => by simp [Zh4] at hx
 | n + 1, s, h, hl, x, hx => by
   by_cases h0 : s.err = 0
   · rw [Jp f n s h0] at hx
     obtain ⟨h1, h2⟩ := hk.ok s h
     rcases Zy.1 hx with rfl | hx
     · exact hf s h hl
     · exact Vr hk hf n _ h1 (by rw [h2]; exact hl) x hx
   · rw [Jq f _ s h0] at hx; simp at hx
theorem Wp {α : Type} (f : RS → α × RS) : ∀ (n : Nat) (s : RS), (Yi f n s).1.length ≤ n
 | 0, s => by simp [Zh4]
 | n + 1, s => by
   by_cases h0 : s.err = 0
   · rw [Jp f n s h0]; have := Wp f n (f s).2; simp; omega
   · rw [Jq f _ s h0]; simp
theorem Vs {s : RS} (h : s.Ok) (hl : s.data.length ≤ 1000000) : (Y9 s).1.size ≤ 9223372036854775807 := by
 have := (Vb h).2.2
 show (strOf (X3 s).1).size ≤ _
 rw [strOf_size]; omega
theorem Zc2 {n : Int} {ns : List ByteArray} {ps : List Val} {es : List En} (h1 : ns.length ≤ 9223372036854775807) (h2 : ps.length ≤ 9223372036854775807) (h3 : es.length ≤ 9223372036854775807) (h4 : ∀ s ∈ ns, s.size ≤ 9223372036854775807) (h5 : ∀ e ∈ es, e.clock.length ≤ 9223372036854775807 ∧ e.name.size ≤ 9223372036854775807) (h6 : ∀ p ∈ ps, VSm p) : VSm (.mk n ns ps es) := .mk _ h1 h2 h3 h4 h5 h6
theorem Uz (n : Int) : VSm (.mk n [] [] []) := Zc2 (by simp) (by simp) (by simp) (by simp) (by simp) (by simp)
theorem Zk5 : ∀ (ps : List Lat), (∀ p ∈ ps, Tks (X0 p) (putV p)) → (∀ p ∈ ps, ∀ s : RS, s.Ok → s.data.length ≤ 1000000 → VSm (X0 p s).1) → ∀ s : RS, s.Ok → s.data.length ≤ 1000000 → (Yu ps s).1.length = ps.length ∧ ∀ x ∈ (Yu ps s).1, VSm x
 | [], _, _, s, _, _ => by simp [Yu]
 | p :: ps, ht, hv, s, ho, hl => by
  obtain ⟨o2, d2⟩ := (ht p (by simp)).ok s ho
  obtain ⟨h1, h2⟩ := Zk5 ps (fun q hq => ht q (by simp [hq])) (fun q hq => hv q (by simp [hq])) (X0 p s).2 o2 (by rw [d2]; exact hl)
  rw [Yu]
  refine ⟨by simp [h1], fun x hx => ?_⟩
  rcases Zy.1 hx with rfl | hx
  · exact hv p (by simp) s ho hl
  · exact h2 x hx
theorem Zm6 {s : RS} (h : s.Ok) (hl : s.data.length ≤ 1000000) : (Y6 s).2.Ok ∧ (Y6 s).2.data.length ≤ 1000000 ∧ (Y6 s).1 ≤ 1000000 := by
 obtain ⟨h1, h2, h3⟩ := We h
 exact ⟨h1, by rw [h2]; exact hl, by omega⟩
theorem read_smV (f : Nat) : ∀ l : Lat, SizeOf.sizeOf l ≤ f → WfL l → ∀ s : RS, s.Ok → s.data.length ≤ 1000000 → VSm (X0 l s).1 := by
 induction f with
 | zero => intro l hn; cases l; simp at hn
 | succ f ih =>
  intro l hn hwf s ho hl
  have hk := hwf.kinds
  have ip : ∀ p ∈ l.parts, ∀ s : RS, s.Ok → s.data.length ≤ 1000000 → VSm (X0 p s).1 := fun p hp => ih p (by have := Wj hp; omega) (hwf.part hp)
  have tp : ∀ p ∈ l.parts, Tks (X0 p) (putV p) := fun p hp => Zr0 _ p (Zi _) (hwf.part hp)
  obtain ⟨co, cl, cn⟩ := Zm6 ho hl
  rcases Vc hk.1 with e | e | e | e | e | e | e
  · rw [rd_1 e]; exact Uz _
  · rw [rd_23 e]; exact Uz _
  · rw [rd_410 e]
    have := Wp Y9 (Y6 s).1 (Y6 s).2
    exact Zc2 (by omega) (by simp) (by simp) (fun x hx => Vr Xy (p := fun x => x.size ≤ 9223372036854775807) (fun s h hl => Vs h hl) _ _ co cl x hx) (by simp) (by simp)
  · obtain ⟨p, hb⟩ := Zl.1 (hk.2.1 e)
    rw [rd_5 e hb]
    have hpm : p ∈ l.parts := by rw [hb]; simp
    have := Wp (Xn (X0 p)) (Y6 s).1 (Y6 s).2
    have hall : ∀ x ∈ (Yi (Xn (X0 p)) (Y6 s).1 (Y6 s).2).1, x.1.size ≤ 9223372036854775807 ∧ VSm x.2 := fun x hx => Vr (Zr1 (tp p hpm)) (p := fun x => x.1.size ≤ 9223372036854775807 ∧ VSm x.2) (fun s h hl => by
     obtain ⟨o2, d2⟩ := Xy.ok s h
     exact ⟨Vs h hl, ip p hpm _ o2 (by rw [d2]; exact hl)⟩) _ _ co cl x hx
    refine Zc2 (by rw [Z5]; omega) (by rw [Z5]; omega) (by simp) (fun x hx => ?_) (by simp) (fun x hx => ?_)
    · obtain ⟨y, hy, rfl⟩ := List.mem_map.1 hx; exact (hall y hy).1
    · obtain ⟨y, hy, rfl⟩ := List.mem_map.1 hx; exact (hall y hy).2
  · rw [rd_67 e]
    obtain ⟨h1, h2⟩ := Zk5 l.parts tp ip s ho hl
    have h67 : l.parts.length ≤ 8 := by rcases e with e | e; have := hk.2.2.2.1 e; omega; have := hk.2.2.1 e; omega
    exact Zc2 (by simp) (by omega) (by simp) (by simp) (by simp) h2
  · rw [rd_8 e]
    obtain ⟨o2, d2⟩ := Xb 2 ho
    split
    · exact Zc2 (by simp) (by simp) (by simp) (fun x hx => by simp only [Zk] at hx; subst hx; exact Vs o2 (by rw [d2]; exact hl)) (by simp) (by simp)
    · exact Uz _
  · rw [rd_9 e]
    have := Wp Vz (Y6 s).1 (Y6 s).2
    refine Zc2 (by simp) (by simp) (by omega) (by simp) (fun x hx => ?_) (by simp)
    exact Vr Zt7 (p := fun x : En => x.clock.length ≤ 9223372036854775807 ∧ x.name.size ≤ 9223372036854775807) (fun s h hl => by
     obtain ⟨o2, l2, n2⟩ := Zm6 h hl
     have hlen := Wp J5 (Y6 s).1 (Y6 s).2
     obtain ⟨o3, d3⟩ := J6 Zq8 (Y6 s).1 (Y6 s).2 o2
     exact ⟨show (Yi J5 (Y6 s).1 (Y6 s).2).1.length ≤ _ by omega, Vs (s := (Zv4 s).2) o3 (by show (Yi J5 (Y6 s).1 (Y6 s).2).2.data.length ≤ _; rw [d3]; exact l2)⟩) _ _ co cl x hx
theorem Ye1 (e : Int) : Wk (.tup [.agg nilV, .v (.int .i64 e)]) (.tup [.agg (vaX Zg2), .v (.int .i64 e)]) := by
 rw [show vaX Zg2 = [.v (.int .i64 0), .sl 1 [], .sl 4 [], .sl 2 []] by rw [Ya]; rfl]
 exact wk_tup (Y8 (Zn2 Ye Ye Ye) (Y8 (Ys _) Xl))
variable (G : Nat → D) (hG : ∀ g, low 0 (G g))
include hG
theorem read_any (f : Nat) : ∀ l : Lat, SizeOf.sizeOf l ≤ f → WfL l → ReadD G l := by
 induction f with
 | zero => intro l hn; cases l; simp at hn
 | succ f ih =>
  intro l hn hwf
  have hk := hwf.kinds
  have hp : ∀ p ∈ l.parts, ReadD G p := fun p hp => ih p (by have := Wj hp; omega) (hwf.part hp)
  have ht : ∀ p ∈ l.parts, ∀ s : RS, s.Ok → (X0 p s).2.Ok ∧ (X0 p s).2.data = s.data := fun p hp => (Zr0 _ p (Zi _) (hwf.part hp)).ok
  rcases Vc hk.1 with e | e | e | e | e | e | e
  · exact read_1 G hG l e
  · exact read_23 G hG l e
  · exact read_410 G hG l e
  · obtain ⟨p, hb⟩ := Zl.1 (hk.2.1 e)
    exact read_5 G hG l e p hb (hp p (by rw [hb]; simp)) (ht p (by rw [hb]; simp))
  · exact read_67 G hG l e (by rcases e with e | e; have := hk.2.2.2.1 e; omega; have := hk.2.2.1 e; omega) hp ht
  · exact read_8 G hG l e
  · exact read_9 G hG l e
attribute [local go_sem] Z6 Zf Zg Zh Z2 Zc Z0 Z1 Zd
attribute [local go_sem ↓] reduceIte
theorem decode_v (l : Lat) (hsm : Sm l) (b : List UInt8) (hb : b.length ≤ 1000000) (h : List Ob) : Does Zn G 27 h [.agg (latX l), .sl 1 (byD b)] (fun h' r => h' = h ∧ r = .tup [.agg (vaX (Xv l b).1), .v (.int .i64 (Xv l b).2)]) := by
 refine Yk G hG (by simp only [lowL, low]; exact ⟨U4 _ l, Ja _ b, trivial⟩) (by simp only [lowL, low]; exact ⟨Xu _ _, trivial, trivial⟩) ?_ h
 clear h
 have hck := check_d G hG l hsm
 simp only [Y4 l] at hck
 apply Does.weak
 refine Y5 Tryz.func27 rfl (Z3 rfl) hG fun hl0 _ => ?_
 simp only [Tryz.ntmps27]
 by_cases hc : chkE l = 0
 rotate_left
 · have hR : Xv l b = (Zg2, 1) := by unfold Xv; rw [if_pos hc]
   rw [hR]
   have F : _ ∧ _ := ⟨Y4 l, hc⟩
   repeat' first
    | refine g0 ?_
    | (with_reducible refine Y7 ?_; refine gc rfl rfl rfl Zy7 (hck _) ?_)
   exact ⟨.inr rfl, endD (ds := [.agg nilV, .v (.int .i64 1)]) (r := .tup [.agg nilV, .v (.int .i64 1)]) hl0 (by simp only [resD, Tryz.results27, go_sem, ↓reduceIte, Z0, Z2, Z1]; try rfl) (by simp) (by simp) (by simp [outD, cvD, cv1, nilV]) (by simp [low, lowL, nilV]) ⟨_, ⟨rfl, rfl⟩, Ye1 1⟩⟩
 rw [hc] at hck
 have hwf := Ze5 hc
 have hvs := read_smV _ l (Zi _) hwf ⟨b, 0, 0, 0⟩ (Ju b) hb
 obtain ⟨hto, htd⟩ := (Zr0 _ l (Zi _) hwf).ok ⟨b, 0, 0, 0⟩ (Ju b)
 have hrd := fun (h : List Ob) (q : h[2]? = some (Yf ⟨b, 0, 0, 0⟩)) => (read_any G hG _ l (Zi _) hwf).at hG (Ju b) hb q
 have hnw := newReader_d G hG b (by omega)
 have hR : Xv l b = if (X0 l ⟨b, 0, 0, 0⟩).2.ends ≠ 0 ∨ Yt l (X0 l ⟨b, 0, 0, 0⟩).1 = false then (Zg2, 2) else ((X0 l ⟨b, 0, 0, 0⟩).1, 0) := by unfold Xv; rw [if_neg (fun h => h hc)]
 generalize X0 l ⟨b, 0, 0, 0⟩ = y at *
 obtain ⟨v, t⟩ := y
 simp only at hvs hto htd hrd hR
 have hen := fun (h : List Ob) (q : h[2]? = some (Yf t)) => rEnd_d G hG 2 t h q hto (by rw [htd]; show b.length ≤ _; omega)
 have hel := Zz0 G hG _ l v (Zi _) hwf hsm hvs
 simp only [Y4 l, Ya v] at hrd hel
 generalize t.ends = te at *
 by_cases he : te = 0
 rotate_left
 · rw [if_pos (.inl he)] at hR
   rw [hR]
   have F : _ ∧ _ := ⟨Y4 l, he⟩
   repeat' first
    | refine g0 ?_
    | (with_reducible refine Y7 ?_; first | refine gc rfl rfl rfl Zy7 (hck _) ?_ | refine gc rfl rfl rfl ent_53 (hnw _) ?_ | refine gc rfl rfl rfl ent_54 (hrd _ (by first | rfl | (simp; done))) ?_ | refine gc rfl rfl rfl ent_55 (hen _ (by first | rfl | (simp; done))) ?_)
   exact ⟨.inr rfl, endD (ds := [.agg nilV, .v (.int .i64 2)]) (r := .tup [.agg nilV, .v (.int .i64 2)]) hl0 (by simp only [resD, Tryz.results27, go_sem, ↓reduceIte, Z0, Z2, Z1]; try rfl) (by simp) (by simp) (by simp [outD, cvD, cv1, nilV]) (by simp [low, lowL, nilV]) ⟨_, ⟨rfl, rfl⟩, Ye1 2⟩⟩
 subst he
 cases hel2 : Yt l v <;> rw [hel2] at hel
 · rw [if_pos (.inr hel2)] at hR
   rw [hR]
   have F := Y4 l
   repeat' first
    | refine g0 ?_
    | (with_reducible refine Y7 ?_; first | refine gc rfl rfl rfl Zy7 (hck _) ?_ | refine gc rfl rfl rfl ent_53 (hnw _) ?_ | refine gc rfl rfl rfl ent_54 (hrd _ (by first | rfl | (simp; done))) ?_ | refine gc rfl rfl rfl ent_55 (hen _ (by first | rfl | (simp; done))) ?_ | refine gc rfl rfl rfl Zm5 (hel _) ?_)
   exact ⟨.inr rfl, endD (ds := [.agg nilV, .v (.int .i64 2)]) (r := .tup [.agg nilV, .v (.int .i64 2)]) hl0 (by simp only [resD, Tryz.results27, go_sem, ↓reduceIte, Z0, Z2, Z1]; try rfl) (by simp) (by simp) (by simp [outD, cvD, cv1, nilV]) (by simp [low, lowL, nilV]) ⟨_, ⟨rfl, rfl⟩, Ye1 2⟩⟩
 · rw [if_neg (by rw [hel2]; simp)] at hR
   rw [hR]
   have F := Y4 l
   repeat' first
    | refine g0 ?_
    | (with_reducible refine Y7 ?_; first | refine gc rfl rfl rfl Zy7 (hck _) ?_ | refine gc rfl rfl rfl ent_53 (hnw _) ?_ | refine gc rfl rfl rfl ent_54 (hrd _ (by first | rfl | (simp; done))) ?_ | refine gc rfl rfl rfl ent_55 (hen _ (by first | rfl | (simp; done))) ?_ | refine gc rfl rfl rfl Zm5 (hel _) ?_)
   refine ⟨.inr rfl, endD (ds := [.agg [.v (.int .i64 v.n), .sl 1 (v.names.map strX), .sl 4 (v.parts.map vaX), .sl 2 (v.entries.map enX)], .v (.int .i64 0)]) (r := .tup [.agg (vaX v), .v (.int .i64 0)]) hl0 (by simp only [resD, Tryz.results27, go_sem, ↓reduceIte, Z0, Z2, Z1]; try rfl) (by simp) (by simp) ?_ (by simp only [lowL, low]; exact ⟨Xu _ _, trivial, trivial⟩) ⟨_, ⟨rfl, rfl⟩, Ys _⟩⟩
   rw [Ya v]; simp [outD, cvD, cv1]
end
section
theorem Zd5 {α : Type} {c : α → α → Int} : ∀ l : List α, (∀ x ∈ l, c x x = 0) → lexC c l l = 0
 | [], _ => rfl
 | x :: t, h => by
  rw [lexC, if_neg (by simp [h x (by simp)])]
  exact Zd5 t fun y hy => h y (by simp [hy])
theorem tickC_self (t : Tk) : Je t t = 0 := tick_3 rfl rfl
theorem entC_self (e : En) : entC e e = 0 := by rw [ent_2 rfl]; exact Zd5 _ fun t _ => tickC_self t
theorem valC_self (n : Nat) : ∀ v : Val, SizeOf.sizeOf v ≤ n → valC v v = 0 := by
 induction n with
 | zero => intro v hn; cases v; simp at hn
 | succ n ih =>
  intro v hn
  rw [valC_eq, if_neg (by simp [Zz4]), if_neg (by rw [Zd5 _ fun s _ => Zu1 s]; simp), if_neg ?_]
  · exact Zd5 _ fun e _ => entC_self e
  · rw [Zd5 _ fun p hp => ih p ?_]
    · simp
    · have := List.sizeOf_lt_of_mem hp
      cases v with
      | mk m ns ps es => simp only [Val.parts] at this; simp only [Val.mk.sizeOf_spec] at hn; omega
end
section
attribute [local irreducible] on aOp
attribute [local go_sem] decide_true decide_false Zm Zj
attribute [local simp] byD_len
theorem Zs5 {only list : List ByteArray} (h : Yw only list = true) : ∀ s ∈ list, s.size ≤ 16 := fun s hs => (name_le (Yk2 h s hs)).2
variable (G : Nat → D) (hG : ∀ g, low 0 (G g))
include hG
theorem write_v (f : Nat) : ∀ (l : Lat) (v : Val), SizeOf.sizeOf l ≤ f → WfL l → Yt l v = true → Ze7 G l v := by
 induction f with
 | zero => intro l v hn; cases l; simp at hn
 | succ f ih =>
 intro l v hn hwf he
 have hk := hwf.kinds
 have ip : ∀ p ∈ l.parts, ∀ x, Yt p x = true → Ze7 G p x := fun p hp x hx => ih p x (by have := V6 hp; omega) (hwf.part hp) hx
 rcases Vc hk.1 with e | e | e | e | e | e | e
 · exact write_1 G hG l v e
 · have h1 := (Uu e).1 he
   have h2 := of_decide_eq_false hwf.ranges
   exact write_23 G hG l v e (by unfold I64; omega)
 · refine write_names G hG l v e ?_
   rcases e with e | e
   · exact Zs5 ((Zp0 e).1 he).2.2.2
   · exact Zs5 ((Uv e).1 he).2.2.2.1
 · obtain ⟨p, hb⟩ := Zl.1 (hk.2.1 e)
   rw [Yd4 e hb] at he
   simp only [Zw, decide_eq_true_eq] at he
   obtain ⟨_, _, hlen, hal, hall⟩ := he
   exact write_5 G hG l v p e hb (Zs5 hal) hlen fun x hx => ip p (by rw [hb]; simp) x (by have := List.all_eq_true.1 hall x hx; rw [Zw] at this; exact this.1)
 · rw [Zz1 e] at he
   simp only [Zw, decide_eq_true_eq] at he
   obtain ⟨_, _, _, hlen, hels⟩ := he
   refine write_67 G hG l v e hlen (by have := hk.2.2.1; have := hk.2.2.2.1; omega) fun p hp x hx hz => ip p hp x ?_
   obtain ⟨i, hi, hiz⟩ := List.getElem_of_mem hz
   rw [List.length_zip] at hi
   rw [List.getElem_zip, Prod.mk.injEq] at hiz
   rw [← hiz.1, ← hiz.2]
   exact (Yd3 l.parts v.parts hlen).1 hels i (by omega) (by omega)
 · have h1 := (Zo9 e).1 he
   refine write_8 G hG l v e ?_
   obtain ⟨_, _, h | h⟩ := h1
   · rcases h.1 with q | q
     · exact .inl ⟨q, Zr h.2⟩
     · exact .inr (.inl ⟨q, Zr h.2⟩)
   · obtain ⟨s, hs⟩ := Zl.1 h.2.1
     exact .inr (.inr ⟨h.1, s, hs, Zs5 h.2.2 s (by rw [hs]; simp)⟩)
 · have h1 := (Zo8 e).1 he
   exact write_9 G hG l v e fun x hx => by
    have := Zk3 v.entries 0 v.entries h1.2.2.2 x hx
    exact ⟨this.1, (name_le this.2).2⟩
attribute [local go_sem] Z6 Zf Zg Zh Zu Z2 Zc Z0 Z1 Zd byD_len
attribute [local go_sem ↓] reduceIte
theorem encode_v (l : Lat) (hsm : Sm l) (v : Val) (hv : VSm v) (hc : chkE l = 0) (he : Yt l v = true) (hb : (putV l v).length ≤ 1000000) (h : List Ob) : Does Zn G 24 h [.agg (latX l), .agg (vaX v)] (fun h' r => h' = h ∧ r = .tup [.sl 1 (byD (putV l v)), .v (.int .i64 0)]) := by
 refine Yk G hG (by simp only [lowL, low]; exact ⟨U4 _ l, Xu _ v, trivial⟩) (by rw [low, lowL, lowL, lowL, low]; exact ⟨Ja _ _, trivial, trivial⟩) ?_ h
 clear h
 have hck := check_d G hG l hsm
 rw [hc] at hck
 have hel := Zz0 G hG _ l v (Zi _) (Ze5 hc) hsm hv
 rw [he] at hel
 have hw := write_v G hG _ l v (Zi _) (Ze5 hc) he [] (by simpa using hb)
 rw [Z7] at hw
 have hlp : low 0 (.agg (latX l)) := by rw [low]; exact U4 _ l
 have hlx : low 0 (.agg (vaX v)) := by rw [low]; exact Xu _ v
 have hwd := wData_d G hG (putV l v) (by omega)
 generalize putV l v = X at *
 simp only [Y4 l, Ya v] at hck hel hw hlp hlx
 refine Y5 Tryz.func24 rfl (Z3 rfl) hG fun hl0 _ => ?_
 simp only [Tryz.ntmps24]
 have F : _ ∧ _ := ⟨Y4 l, Ya v⟩
 repeat' first
  | (with_reducible refine Y7 ?_; (refine ao_nilcell 5 1 2 [] [] rfl ?_))
  | refine g0 ?_
  | (with_reducible refine Y7 ?_; first | refine gc rfl rfl rfl Zy7 (hck _) ?_ | refine gc rfl rfl rfl Zm5 (hel _) ?_ | refine gc rfl rfl rfl ent_50 (w_at G hG (by rw [lowL, lowL, lowL]; exact ⟨hlp, hlx, trivial⟩) (by simp [low, lowL]) hw (i := 2) (j := 3) rfl rfl) ?_ | refine gc rfl rfl rfl ent_51 (w_at G hG (by rw [lowL]; trivial) (Ja _ _) hwd (i := 2) (j := 3) rfl rfl) ?_)
 exact ⟨.inr rfl, endD (ds := [.sl 1 (byD X), .v (.int .i64 0)]) (r := .tup [.sl 1 (byD X), .v (.int .i64 0)]) hl0 rfl (by simp) (by simp) rfl (by rw [low, lowL, lowL, lowL, low]; exact ⟨Ja _ _, trivial, trivial⟩) ⟨rfl, rfl⟩⟩
theorem valid_v (l : Lat) (hsm : Sm l) (v : Val) (hv : VSm v) (h : List Ob) : Does Zn G 15 h [.agg (latX l), .agg (vaX v)] (fun h' r => h' = h ∧ r = .v (.bool (validB l v))) := by
 refine Yk G hG (by simp only [lowL, low]; exact ⟨U4 _ l, Xu _ v, trivial⟩) (by rw [low]; trivial) ?_ h
 clear h
 have hck := check_d G hG l hsm
 simp only [Y4 l] at hck
 unfold validB
 refine Y5 Tryz.func15 rfl (Z3 rfl) hG fun hl0 _ => ?_
 simp only [Tryz.ntmps15]
 by_cases hc : chkE l = 0
 rotate_left
 · rw [decide_eq_false hc, Bool.false_and]
   have F : _ ∧ _ ∧ _ := ⟨Y4 l, Ya v, hc⟩
   repeat' first
    | refine g0 ?_
    | (with_reducible refine Y7 ?_; refine gc rfl rfl rfl Zy7 (hck _) ?_)
   exact ⟨.inr rfl, endV hl0 rfl rfl ⟨rfl, rfl⟩⟩
 rw [hc] at hck
 have hel := Zz0 G hG _ l v (Zi _) (Ze5 hc) hsm hv
 simp only [Y4 l, Ya v] at hel
 rw [decide_eq_true hc, Bool.true_and]
 generalize Yt l v = bb at *
 have F : _ ∧ _ := ⟨Y4 l, Ya v⟩
 repeat' first
  | refine g0 ?_
  | (with_reducible refine Y7 ?_; first | refine gc rfl rfl rfl Zy7 (hck _) ?_ | refine gc rfl rfl rfl Zm5 (hel _) ?_)
 exact ⟨.inr rfl, endV hl0 rfl rfl ⟨rfl, rfl⟩⟩
theorem bytes_d (a : List UInt8) (hl : a.length ≤ 1000000) (h : List Ob) : Does Zn G 26 h [.sl 1 (byD a), .sl 1 (byD a)] (fun h' r => h' = h ∧ r = .v (.bool true)) := by
 refine Y5 Tryz.func26 rfl (Z3 rfl) hG fun hl0 _ => ?_
 simp only [Tryz.ntmps26]
 have hll : ((a.length : Int) = (a.length : Int)) = True := eq_self _
 have F := hll
 repeat' first
  | refine g0 ?_
  | fail
 refine Yn (fun m e h' => ∃ k : Nat, k ≤ a.length ∧ m = a.length - k ∧ h' = h ∧ e 0 = .sl 1 (byD a) ∧ e 1 = .sl 1 (byD a) ∧ e 5 = .v (.int .i64 k)) a.length ⟨0, Zx _, rfl, rfl, rfl, rfl, rfl⟩ ?_
 rintro m e h' ⟨k, hk, rfl, rfl, e0, e1, e5⟩
 by_cases hlt : k < a.length
 · have hx : a[k]? = some a[k] := Zv hlt
   generalize a[k] = x at hx
   have wk : IntKind.i64.wrap ((k : Int) + 1) = ((k + 1 : Nat) : Int) := IntWalk.i64_in _ (by omega)
   have hxx : ((x.toNat : Int) = (x.toNat : Int)) = True := eq_self _
   have F : _ ∧ _ ∧ _ ∧ _ ∧ _ := ⟨e0, e1, e5, wk, hxx⟩
   repeat' first
    | (with_reducible refine Yj ?_; refine Yb mixd (by kernel_rfl) ?_)
    | (with_reducible refine W2 ?_; (refine aq1 rfl rfl fun K HK => ?_; simp only [go_sem, F]; refine ⟨by omega, by omega, ?_⟩; refine by_row hx ?_; refine HK _ _ rfl ?_; clear HK K))
    | refine g ?_
    | refine Two.mk (fun hq => ?_) fun hq => ?_
    | (exfalso; omega)
   all_goals first | (exfalso; omega) | exact ⟨rfl, a.length - (k + 1), by omega, k + 1, hlt, rfl, rfl, e0, e1, rfl⟩
 · skip
   have F : _ ∧ _ ∧ _ := ⟨e0, e1, e5⟩
   repeat' first
    | (with_reducible refine Yj ?_; refine Yb mixd (by kernel_rfl) ?_)
    | refine g ?_
    | refine Two.mk (fun hq => ?_) fun hq => ?_
    | refine Evry.mk fun x hx => ?_
    | (exfalso; omega)
   all_goals first | (exfalso; omega) | exact ⟨.inr rfl, endD (r := .v (.bool true)) hl0 rfl (by simp) (by simp) rfl (by rw [low]; trivial) ⟨rfl, rfl⟩⟩
end
section

end
end Go.Proofs.YtmdjnaobllajmaaGreatDoor
