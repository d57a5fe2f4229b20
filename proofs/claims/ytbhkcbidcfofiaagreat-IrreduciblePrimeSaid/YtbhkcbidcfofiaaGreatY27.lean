/-
  What the statements of the chapter share, part 27: QA1, QA2, QA3, QA4, QA5, QC1, QA6, MX, QP1.
-/
import Derived.Test.YtbhkcbidcfofiaaGreatY14
import Derived.Test.YtbhkcbidcfofiaaGreatY15
import Derived.Test.YtbhkcbidcfofiaaGreatY21
import Derived.Test.YtbhkcbidcfofiaaGreatY23
import Derived.Test.YtbhkcbidcfofiaaGreatY24
import Derived.Test.YtbhkcbidcfofiaaGreatY25
import Derived.Test.YtbhkcbidcfofiaaGreatY26
set_option linter.unusedVariables false
set_option linter.unusedSimpArgs false
set_option maxRecDepth 100000
set_option maxHeartbeats 8000000
namespace Go.Proofs.YtbhkcbidcfofiaaGreat
open _root_.Bool renaming not_false → Z4, not_true → Za, false_ne_true → Zh, false_eq_true → Zk, true_and → Zm
open _root_.Int renaming toNat_natCast → Z6, reduceEq → Ze, reduceLE → Zf, reduceLT → Zg
open _root_.List renaming drop_eq_getElem_cons → Z5, getElem?_eq_getElem → Z7, drop_eq_nil_of_le → Z8, length_map → Z9, getElem_mem → Zi, length_append → Zl, map_cons → Zn, cons_append → Zo, length_cons → Zp, length_nil → Zq, nil_append → Zr, all_cons → Zs
open _root_.Nat renaming le_of_ble_eq_true → Z0, reduceEqDiff → Z2, reduceLeDiff → Z3, reduceAdd → Zb, reduceBEq → Zc, reduceMul → Zd, zero_le → Zj
open _root_.Go.Proofs.Tryz renaming prog → Z1
open Go.RowKit
section
attribute [local irreducible] on aOp
attribute [local go_sem] decide_true decide_false Za Z4
attribute [local simp] byD_len
theorem Does.borrow2 {P : Program} {G : Nat → D} {h : List Ob} (hG : ∀ g, low 0 (G g)) {f : FuncId} {y : D} {i E k n : Nat} {rows : List (List D)} {x : Value} (hi : h[i]? = some (.buf E k rows)) (hn : rows.length = n) (la : low 0 y) (lr : low 0 (.sl k rows)) (q : Does P G f [] [y, .sl k rows] (fun h' r => h' = [] ∧ r = .v x)) : Does P G f h [y, .buf i n] (fun h' r => h' = h ∧ r = .v x) := fun w hd p vs ok ha => by
 rw [rdL] at ha
 obtain ⟨u, t, rfl, hy, ha⟩ := ha
 rw [rdL] at ha
 obtain ⟨u2, t2, rfl, hu, ht⟩ := ha
 obtain ⟨p', o', ev, cv⟩ := ok.give (fun j => j == i)
 have hr := cv _ _ hu
 have e : cvD (fun j => j == i) h (.buf i n) = .sl k rows := by simp [cvD, cv1, hi, hn]
 rw [e] at hr
 have hy2 := ev.rdL ok (show rdL hd h (only p w) [y] [u] by rw [rdL]; exact ⟨u, [], rfl, hy, by rw [rdL]⟩)
 have ht2 := ev.rdL ok ht
 have o2 := o'.take (m := 0) (fun x hx => by simp at hx) hG
 have r1 := Zf1 (m := 0) o'.len _ _ lr hr
 have r2 := Vb (m := 0) o'.len _ _ (show lowL 0 ([] : List D) by rw [lowL]; trivial) ht2
 have r3 := Vb (m := 0) o'.len _ _ (show lowL 0 [y] by rw [lowL, lowL]; exact ⟨la, trivial⟩) hy2
 simp only [List.take_zero] at o2 r1 r2 r3
 rw [rdL] at r3
 obtain ⟨_, _, e3, r3, _⟩ := r3
 cases e3
 refine (q w [] p' (u :: u2 :: t2) o2 (by rw [rdL]; exact ⟨u, _, rfl, r3, by rw [rdL]; exact ⟨u2, t2, rfl, r1, r2⟩⟩)).mono ?_
 rintro e w' ⟨v, hd', h', r, p2, rfl, ⟨rfl, rfl⟩, ok2, hr2, ev2⟩
 rw [rd] at hr2; subst hr2
 obtain ⟨o3, ev3⟩ := ok.kept ev2.os ev2.tape ev2.output ev2.size fun b hb => ev2.keep b hb fun ⟨j, ob, u, q, _⟩ => by simp at q
 exact ⟨_, hd, h, .v _, p, rfl, ⟨rfl, rfl⟩, o3, by rw [rd], ev3⟩
def Ze9 (v : Val) (m : Int) : Int := if (Vv v : Int) ≤ m then m - Vv v else -1
theorem Zp0 (v : Val) : Vv v = 1 + v.names.length + v.entries.length + Yr v.parts + (v.entries.map fun e => e.clock.length).sum := by
 cases v; rw [Vv]; rfl
theorem Wz (l : List Val) : low 0 (.sl 4 (l.map vaX)) := by
 rw [low, Zp4]
 intro row hr
 obtain ⟨x, _, rfl⟩ := List.mem_map.1 hr
 exact Yb 0 x
variable (G : Nat → D) (hG : ∀ g, low 0 (G g))
include hG
attribute [local go_sem] Zk Ze Zf Zg Z6 Zo List.getElem?_cons_succ List.getElem?_cons_zero Zl Zp Z9 Zq Zr List.set_cons_succ List.set_cons_zero Zb Zc Z2 Z3 Zd
attribute [local go_sem ↓] reduceIte
theorem rValid_d (l : Lat) (hsm : Sm l) (v : Val) (hv : VSm v) (h : List Ob) : Does Z1 G 39 h [.agg (latX l), .agg (vaX v)] (fun h' r => h' = h ∧ r = .v (.bool (Zt8 l v))) := by
 refine Y9 G hG (by simp only [lowL, low]; exact ⟨Yp _ l, Yb _ v, trivial⟩) (by rw [low]; trivial) ?_ h
 clear h
 have hck := rCheck_d G hG l hsm
 simp only [Y4 l] at hck
 unfold Zt8
 refine Y6 Tryz.func39 rfl (Z0 rfl) hG fun hl0 _ => ?_
 simp only [Tryz.ntmps39]
 by_cases hc : chkE l = 0
 rotate_left
 · rw [decide_eq_false hc, Bool.false_and]
   have F : _ ∧ _ ∧ _ := ⟨Y4 l, Y5 v, hc⟩
   repeat' first
    | (with_reducible refine Yc ?_; first | refine Yq ?_ | refine Yd ?_ | refine Xl ?_)
    | (with_reducible refine Ws ?_; refine Yt ?_)
    | refine g0 ?_
    | (with_reducible refine Y7 ?_; refine gc rfl rfl rfl ent_38 (hck _) ?_)
   exact ⟨.inr rfl, endD (r := .v _) hl0 rfl (by simp) (by simp) rfl (by rw [low]; trivial) ⟨rfl, rfl⟩⟩
 rw [hc] at hck
 have hel := relement_d G hG _ l v (Nat.le_refl _) (Ut hc) hsm hv
 simp only [Y4 l, Y5 v] at hel
 rw [decide_eq_true hc, Zm]
 generalize Ya l v = bb at *
 have F : _ ∧ _ := ⟨Y4 l, Y5 v⟩
 repeat' first
  | (with_reducible refine Yc ?_; first | refine Yq ?_ | refine Yd ?_ | refine Xl ?_)
  | (with_reducible refine Ws ?_; refine Yt ?_)
  | refine g0 ?_
  | (with_reducible refine Y7 ?_; first | refine gc rfl rfl rfl ent_38 (hck _) ?_ | refine gc rfl rfl rfl Yi4 (hel _) ?_)
 exact ⟨.inr rfl, endD (r := .v _) hl0 rfl (by simp) (by simp) rfl (by rw [low]; trivial) ⟨rfl, rfl⟩⟩
theorem Yo5 (l : Lat) (hsm : Sm l) (L : List Val) (hL : ∀ v ∈ L, VSm v) (hl : L.length ≤ 1000000) (h : List Ob) : Does Z1 G 40 h [.agg (latX l), .sl 4 (L.map vaX)] (fun h' r => h' = h ∧ r = .v (.int .i64 (errF l L))) := by
 refine Y9 G hG (by simp only [lowL]; exact ⟨by rw [low]; exact Yp _ l, Wz L, trivial⟩) (by rw [low]; trivial) ?_ h
 clear h
 have hck := Zh5 G hG l hsm
 simp only [Y4 l] at hck
 unfold errF
 refine Y6 Tryz.func40 rfl (Z0 rfl) hG fun hl0 _ => ?_
 simp only [Tryz.ntmps40]
 by_cases hc : chkE l = 0
 rotate_left
 · rw [if_pos hc]
   have F : _ ∧ _ := ⟨Y4 l, hc⟩
   repeat' first
    | (with_reducible refine Yc ?_; first | refine Yq ?_ | refine Yd ?_ | refine We rfl ?_ | refine Xl ?_)
    | (with_reducible refine Ws ?_; first | refine Yt ?_ | refine Va ?_)
    | refine g0 ?_
    | (with_reducible refine Y7 ?_; refine gc rfl rfl rfl Uy (hck _) ?_)
   all_goals first | (exfalso; omega) | exact ⟨.inr rfl, endD (r := .v (.int .i64 1)) hl0 rfl (by simp) (by simp) rfl (by rw [low]; trivial) ⟨rfl, rfl⟩⟩
 rw [if_neg (fun q => q hc)]
 rw [hc] at hck
 have hva : ∀ v, VSm v → ∀ h, Does Z1 G 80 h [.agg (latX l), .agg (vaX v)] (fun h' r => h' = h ∧ r = .v (.bool (Ya l v))) := fun v hv h => by
  have := valid_v G hG l hsm v hv h
  unfold Zt8 at this
  rw [decide_eq_true hc, Zm] at this
  exact this
 simp only [Y4 l] at hva
 have F := Y4 l
 repeat' first
  | (with_reducible refine Yc ?_; first | refine Yq ?_ | refine Yd ?_ | refine Yy ?_ | refine Wh rfl ?_ | refine Xi ?_)
  | (with_reducible refine Ws ?_; refine Yt ?_)
  | refine g0 ?_
  | (with_reducible refine Y7 ?_; refine gc rfl rfl rfl Uy (hck _) ?_)
 refine Yh (fun m e h' => ∃ (k : Nat) (T : List Ob), k ≤ L.length ∧ m = L.length - k ∧ L.all (Ya l) = (L.drop k).all (Ya l) ∧ h' = .cells (latX l) :: T ∧ e 2 = .ptr 0 0 ∧ e 10 = .sl 4 (L.map vaX) ∧ e 11 = .v (.int .i64 L.length) ∧ e 12 = .v (.int .i64 k)) L.length ⟨0, [], Zj _, rfl, rfl, by rw [Y4 l], rfl, rfl, rfl, rfl⟩ ?_
 rintro m e h' ⟨k, T, hk, rfl, ho, rfl, e2, e10, e11, e12⟩
 by_cases hlt : k < L.length
 · have hx : L[k]? = some L[k] := Z7 hlt
   have hd : L.drop k = L[k] :: L.drop (k + 1) := Z5 hlt
   have hvx := hva _ (hL _ (Zi hlt))
   generalize L[k] = x at hx hd hvx
   have wk : IntKind.i64.wrap ((k : Int) + 1) = (k : Int) + 1 := IntWalk.i64_in _ (by omega)
   rw [hd, Zs] at ho
   simp only [Y5 x] at hvx
   cases hb : Ya l x
   · rw [hb] at hvx ho
     rw [ho]
     have F : _ ∧ _ ∧ _ ∧ _ ∧ _ ∧ _ ∧ _ := ⟨e2, e10, e11, e12, Y4 l, Y5 x, wk⟩
     repeat' first
      | (with_reducible refine Yc ?_; first | refine Yq ?_ | refine Yd ?_ | refine Yy ?_ | refine We rfl ?_ | refine Wh rfl ?_ | refine Xi ?_ | refine W4 ?_ | refine Xl ?_)
      | (with_reducible refine Ws ?_; first | refine Yt ?_ | refine Wf ?_ | refine Va ?_)
      | (with_reducible refine Jq ?_; first | refine Yc1 ?_ | refine Jk ?_)
      | refine gg ?_
      | refine Two.mk (fun hq => ?_) fun hq => ?_
      | (with_reducible refine Y7 ?_; refine gc rfl rfl rfl Yi3 (hvx _) ?_)
      | (exfalso; omega)
     exact ⟨.inr rfl, endD (r := .v (.int .i64 4)) hl0 rfl (by simp) (by simp) rfl (by rw [low]; trivial) ⟨rfl, rfl⟩⟩
   · rw [hb] at hvx ho
     have F : _ ∧ _ ∧ _ ∧ _ ∧ _ ∧ _ ∧ _ := ⟨e2, e10, e11, e12, Y4 l, Y5 x, wk⟩
     repeat' first
      | (with_reducible refine Yc ?_; first | refine Yq ?_ | refine Yd ?_ | refine Yy ?_ | refine We rfl ?_ | refine Wh rfl ?_ | refine Xi ?_ | refine W4 ?_ | refine Xl ?_)
      | (with_reducible refine Ws ?_; first | refine Yt ?_ | refine Wf ?_)
      | (with_reducible refine Jq ?_; first | refine Yo4 ?_ | refine Jk ?_)
      | refine gg ?_
      | refine Two.mk (fun hq => ?_) fun hq => ?_
      | (with_reducible refine Y7 ?_; refine gc rfl rfl rfl Yi3 (hvx _) ?_)
      | (exfalso; omega)
     exact ⟨rfl, L.length - (k + 1), by omega, k + 1, _, hlt, rfl, ho, by rw [Y4 l], e2, e10, e11, rfl⟩
 · have ho : L.all (Ya l) = true := by rw [ho, Z8 (by omega)]; rfl
   rw [ho]
   have F : _ ∧ _ ∧ _ ∧ _ := ⟨e2, e10, e11, e12⟩
   repeat' first
    | (with_reducible refine Yc ?_; first | refine Yq ?_ | refine Yd ?_ | refine Yy ?_ | refine We rfl ?_ | refine Wh rfl ?_ | refine Xi ?_ | refine W4 ?_ | refine Xl ?_)
    | (with_reducible refine Ws ?_; first | refine Yt ?_ | refine Wf ?_)
    | (with_reducible refine Jq ?_; refine Jk ?_)
    | refine gg ?_
    | refine Two.mk (fun hq => ?_) fun hq => ?_
    | refine Evry.mk fun x hx => ?_
    | (exfalso; omega)
   all_goals exact ⟨.inr rfl, endD (r := .v (.int .i64 0)) hl0 rfl (by simp) (by simp) rfl (by rw [low]; trivial) ⟨rfl, rfl⟩⟩
theorem fault_d (l : Lat) (hsm : Sm l) (L : List Val) (hL : ∀ v ∈ L, VSm v) (hl : L.length ≤ 1000000) (h : List Ob) : Does Z1 G 17 h [.agg (latX l), .sl 4 (L.map vaX)] (fun h' r => h' = h ∧ r = .v (.int .i64 (errF l L))) := by
 refine Y9 G hG (by simp only [lowL]; exact ⟨by rw [low]; exact Yp _ l, Wz L, trivial⟩) (by rw [low]; trivial) ?_ h
 clear h
 have hck := rCheck_d G hG l hsm
 simp only [Y4 l] at hck
 unfold errF
 refine Y6 Tryz.func17 rfl (Z0 rfl) hG fun hl0 _ => ?_
 simp only [Tryz.ntmps17]
 by_cases hc : chkE l = 0
 rotate_left
 · rw [if_pos hc]
   have F : _ ∧ _ := ⟨Y4 l, hc⟩
   repeat' first
    | (with_reducible refine Yc ?_; first | refine Yq ?_ | refine Yd ?_ | refine We rfl ?_ | refine Xl ?_)
    | (with_reducible refine Ws ?_; first | refine Yt ?_ | refine Va ?_)
    | refine g0 ?_
    | (with_reducible refine Y7 ?_; refine gc rfl rfl rfl ent_38 (hck _) ?_)
   all_goals first | (exfalso; omega) | exact ⟨.inr rfl, endD (r := .v (.int .i64 1)) hl0 rfl (by simp) (by simp) rfl (by rw [low]; trivial) ⟨rfl, rfl⟩⟩
 rw [if_neg (fun q => q hc)]
 rw [hc] at hck
 have hva : ∀ v, VSm v → ∀ h, Does Z1 G 39 h [.agg (latX l), .agg (vaX v)] (fun h' r => h' = h ∧ r = .v (.bool (Ya l v))) := fun v hv h => by
  have := rValid_d G hG l hsm v hv h
  unfold Zt8 at this
  rw [decide_eq_true hc, Zm] at this
  exact this
 simp only [Y4 l] at hva
 have F := Y4 l
 repeat' first
  | (with_reducible refine Yc ?_; first | refine Yq ?_ | refine Yd ?_ | refine Yy ?_ | refine Wh rfl ?_ | refine Xi ?_)
  | (with_reducible refine Ws ?_; refine Yt ?_)
  | refine g0 ?_
  | (with_reducible refine Y7 ?_; refine gc rfl rfl rfl ent_38 (hck _) ?_)
 refine Yh (fun m e h' => ∃ (k : Nat), k ≤ L.length ∧ m = L.length - k ∧ L.all (Ya l) = (L.drop k).all (Ya l) ∧ h' = [.cells (latX l)] ∧ e 1 = .sl 4 (L.map vaX) ∧ e 2 = .ptr 0 0 ∧ e 5 = .v (.int .i64 k)) L.length ⟨0, Zj _, rfl, rfl, by rw [Y4 l], rfl, rfl, rfl⟩ ?_
 rintro m e h' ⟨k, hk, rfl, ho, rfl, e1, e2, e5⟩
 by_cases hlt : k < L.length
 · have hx : L[k]? = some L[k] := Z7 hlt
   have hd : L.drop k = L[k] :: L.drop (k + 1) := Z5 hlt
   have hvx := hva _ (hL _ (Zi hlt))
   generalize L[k] = x at hx hd hvx
   have wk : IntKind.i64.wrap ((k : Int) + 1) = (k : Int) + 1 := IntWalk.i64_in _ (by omega)
   rw [hd, Zs] at ho
   simp only [Y5 x] at hvx
   cases hb : Ya l x
   · rw [hb] at hvx ho
     rw [ho]
     have F : _ ∧ _ ∧ _ ∧ _ ∧ _ ∧ _ := ⟨e1, e2, e5, Y4 l, Y5 x, wk⟩
     repeat' first
      | (with_reducible refine Yc ?_; first | refine Yq ?_ | refine Yd ?_ | refine Yy ?_ | refine We rfl ?_ | refine Wh rfl ?_ | refine Xi ?_ | refine W4 ?_ | refine Xl ?_ | refine Y8 mixd (by kernel_rfl) ?_)
      | (with_reducible refine Ws ?_; first | refine Yt ?_ | refine Wf ?_ | refine Va ?_)
      | (with_reducible refine Jq ?_; first | refine Yc1 ?_ | refine Jk ?_)
      | refine gg ?_
      | refine Two.mk (fun hq => ?_) fun hq => ?_
      | (with_reducible refine X6 ?_; refine aq2 rfl rfl rfl ent_39 (hvx _) ?_)
      | (exfalso; omega)
     all_goals first | (exfalso; omega) | exact ⟨.inr rfl, endD (r := .v (.int .i64 4)) hl0 rfl (by simp) (by simp) rfl (by rw [low]; trivial) ⟨rfl, rfl⟩⟩
   · rw [hb] at hvx ho
     have F : _ ∧ _ ∧ _ ∧ _ ∧ _ ∧ _ := ⟨e1, e2, e5, Y4 l, Y5 x, wk⟩
     repeat' first
      | (with_reducible refine Yc ?_; first | refine Yq ?_ | refine Yd ?_ | refine Yy ?_ | refine We rfl ?_ | refine Wh rfl ?_ | refine Xi ?_ | refine W4 ?_ | refine Xl ?_ | refine Y8 mixd (by kernel_rfl) ?_)
      | (with_reducible refine Ws ?_; first | refine Yt ?_ | refine Wf ?_)
      | (with_reducible refine Jq ?_; first | refine Yo4 ?_ | refine Jk ?_)
      | refine gg ?_
      | refine Two.mk (fun hq => ?_) fun hq => ?_
      | (with_reducible refine X6 ?_; refine aq2 rfl rfl rfl ent_39 (hvx _) ?_)
      | (exfalso; omega)
     all_goals first | (exfalso; omega) | exact ⟨rfl, L.length - (k + 1), by omega, k + 1, hlt, rfl, ho, by rw [Y4 l], e1, e2, rfl⟩
 · have ho : L.all (Ya l) = true := by rw [ho, Z8 (by omega)]; rfl
   rw [ho]
   have F : _ ∧ _ ∧ _ := ⟨e1, e2, e5⟩
   repeat' first
    | (with_reducible refine Yc ?_; first | refine Yq ?_ | refine Yd ?_ | refine Yy ?_ | refine We rfl ?_ | refine Wh rfl ?_ | refine Xi ?_ | refine W4 ?_ | refine Xl ?_ | refine Y8 mixd (by kernel_rfl) ?_)
    | (with_reducible refine Ws ?_; first | refine Yt ?_ | refine Wf ?_)
    | (with_reducible refine Jq ?_; refine Jk ?_)
    | refine gg ?_
    | refine Two.mk (fun hq => ?_) fun hq => ?_
    | (exfalso; omega)
   all_goals exact ⟨.inr rfl, endD (r := .v (.int .i64 0)) hl0 rfl (by simp) (by simp) rfl (by rw [low]; trivial) ⟨rfl, rfl⟩⟩
end
section
attribute [local irreducible] on aOp
attribute [local go_sem] decide_true decide_false Za Z4
attribute [local simp] byD_len
def TellsL (G : Nat → D) (g : FuncId) (caps : List D) (p : Lat → Bool) (l : List Lat) (h : List Ob) : Prop := ∀ c ∈ l, Does Z1 G g h (.agg (latX c) :: caps) (fun h' r => h' = h ∧ r = .v (.bool (p c)))
theorem Zd0 : ∀ {ps : List Lat}, Vp ps = true ↔ ∀ p ∈ ps, W3 p = true
 | [] => by rw [Vp]; simp
 | p :: t => by rw [Vp, Bool.and_eq_true, Zd0]; simp
theorem Zw4 {l : Lat} (hwf : WfL l) : l.parts.length ≤ 1000000 := by
 obtain ⟨_, h5, h7, h6, h0, _⟩ := hwf.kinds
 by_cases e5 : l.kind = 5
 · rw [h5 e5]; omega
 by_cases e6 : l.kind = 6
 · have := h6 e6; omega
 by_cases e7 : l.kind = 7
 · rw [h7 e7]; omega
 · rw [h0 e5 e6 e7]; omega
variable (G : Nat → D) (hG : ∀ g, low 0 (G g))
attribute [local go_sem] Ze Zf Zg Z6 Z9 Zb Zc Z2 Z3 Zd
attribute [local go_sem ↓] reduceIte
theorem indexL_s (l : List Lat) (p : Lat → Bool) (g : FuncId) (caps : List D) (he : entB Z1 g = true) (hsz : l.length ≤ 1000000) (h : List Ob) (ht : TellsL G g caps p l h) :
 Does Z1 G 139 h [.sl 6 (l.map latX), .fn g caps] (fun h' r => h' = h ∧ ∃ z, r = .v (.int .i64 z) ∧ decide (0 ≤ z) = l.any p) := by
 refine Vo Tryz.func139 rfl (Z0 rfl) ?_
 simp only [Tryz.ntmps139]
 repeat' first
  | (with_reducible refine Yc ?_; first | refine Yq ?_ | refine Yd ?_ | refine Yy ?_)
  | (with_reducible refine Ws ?_; refine Yt ?_)
  | refine g0 ?_
  | fail
 refine Yh (fun m e h' => ∃ k : Nat, k ≤ l.length ∧ m = l.length - k ∧ l.any p = (l.drop k).any p ∧ h' = h ∧ e 0 = .sl 6 (l.map latX) ∧ e 1 = .fn g caps ∧ e 7 = .v (.int .i64 l.length) ∧ e 8 = .v (.int .i64 k)) l.length ⟨0, Zj _, rfl, rfl, rfl, rfl, rfl, rfl, rfl⟩ ?_
 rintro m e h' ⟨k, hk, rfl, ha, rfl, e0, e1, e7, e8⟩
 by_cases hlt : k < l.length
 · have hx : l[k]? = some l[k] := Z7 hlt
   have hd : l.drop k = l[k] :: l.drop (k + 1) := Z5 hlt
   have hc := ht _ (Zi hlt)
   generalize l[k] = x at hx hd hc
   rw [hd, List.any_cons] at ha
   have wk : IntKind.i64.wrap ((k : Int) + 1) = (k : Int) + 1 := IntWalk.i64_in _ (by omega)
   simp only [Y4 x] at hc
   cases hpx : p x
   · rw [hpx] at hc ha
     have F : _ ∧ _ ∧ _ ∧ _ ∧ _ ∧ _ := ⟨e0, e1, e7, e8, Y4 x, wk⟩
     repeat' first
      | (with_reducible refine Yc ?_; first | refine Yq ?_ | refine Yd ?_ | refine Yy ?_ | refine We rfl ?_ | refine Wh rfl ?_ | refine Xi ?_ | refine W4 ?_ | refine Xl ?_)
      | (with_reducible refine Y7 ?_; (refine Za0 rfl rfl rfl he hc ?_; rintro _ _ ⟨rfl, rfl⟩))
      | (with_reducible refine Ws ?_; first | refine Yt ?_ | refine Wf ?_)
      | (with_reducible refine Jq ?_; first | refine Yo4 ?_ | refine Jk ?_)
      | refine gg ?_
      | refine Two.mk (fun hq => ?_) fun hq => ?_
      | (exfalso; omega)
     exact ⟨rfl, l.length - (k + 1), by omega, k + 1, by omega, rfl, ha, rfl, e0, e1, e7, rfl⟩
   · rw [hpx] at hc ha
     have F : _ ∧ _ ∧ _ ∧ _ ∧ _ ∧ _ := ⟨e0, e1, e7, e8, Y4 x, wk⟩
     repeat' first
      | (with_reducible refine Yc ?_; first | refine Yq ?_ | refine Yd ?_ | refine Yy ?_ | refine We rfl ?_ | refine Wh rfl ?_ | refine Xi ?_ | refine W4 ?_ | refine Xl ?_)
      | (with_reducible refine Y7 ?_; (refine Za0 rfl rfl rfl he hc ?_; rintro _ _ ⟨rfl, rfl⟩))
      | (with_reducible refine Ws ?_; first | refine Yt ?_ | refine Wf ?_ | refine Va ?_)
      | (with_reducible refine Jq ?_; first | refine Yc1 ?_ | refine Jk ?_)
      | refine gg ?_
      | refine Two.mk (fun hq => ?_) fun hq => ?_
      | (exfalso; omega)
     exact ⟨.inr rfl, [.v (.int .i64 k)], rfl, rfl, _, rfl, by rw [ha, decide_eq_true (by omega)]; rfl⟩
 · skip
   have F : _ ∧ _ ∧ _ ∧ _ := ⟨e0, e1, e7, e8⟩
   repeat' first
    | (with_reducible refine Yc ?_; first | refine Yq ?_ | refine Yd ?_ | refine Yy ?_ | refine We rfl ?_ | refine Wh rfl ?_ | refine Xi ?_ | refine W4 ?_ | refine Xl ?_)
    | (with_reducible refine Ws ?_; first | refine Yt ?_ | refine Wf ?_)
    | (with_reducible refine Jq ?_; refine Jk ?_)
    | refine gg ?_
    | refine Two.mk (fun hq => ?_) fun hq => ?_
    | refine Evry.mk fun x hx => ?_
    | (exfalso; omega)
   exact ⟨.inr rfl, [.v (.int .i64 (-1))], rfl, rfl, _, rfl, by rw [ha, Z8 (by omega)]; rfl⟩
theorem Yd6 (l : List Lat) (p : Lat → Bool) (g : FuncId) (caps : List D) (he : entB Z1 g = true) (hsz : l.length ≤ 1000000) (h : List Ob) (ht : TellsL G g caps p l h) :
 Does Z1 G 81 h [.sl 6 (l.map latX), .fn g caps] (fun h' r => h' = h ∧ r = .v (.bool (l.any p))) := by
 have hi := indexL_s G l p g caps he hsz h ht
 refine Vo Tryz.func81 rfl (Z0 rfl) ?_
 simp only [Tryz.ntmps81]
 repeat' first
  | (with_reducible refine Yc ?_; first | refine Yq ?_ | refine Yd ?_ | refine Xl ?_)
  | (with_reducible refine Ws ?_; refine Yt ?_)
  | refine gg ?_
  | refine Two.mk (fun hq => ?_) fun hq => ?_
  | (with_reducible refine Y7 ?_; (refine ao2 rfl rfl rfl ent_139 (hi) ?_; rintro _ _ ⟨rfl, z, rfl, hz⟩))
 all_goals exact ⟨.inr rfl, [.v (.bool (l.any p))], (by simp only [resD, Tryz.results81, go_sem, ↓reduceIte, Z2, hq]; rw [← hz]; first | rfl | simp [hq]), rfl, rfl⟩
include hG
theorem nDist_d (c : Lat) {b : Bool} (hc : ∀ h, Does Z1 G 41 h [.agg (latX c)] (fun h' r => h' = h ∧ r = .v (.bool b))) : Does Z1 G 82 [] [.agg (latX c)] (fun h' r => h' = [] ∧ r = .v (.bool (!b))) := by
 simp only [Y4 c] at hc
 refine Y6 Tryz.func82 rfl (Z0 rfl) hG fun hl0 _ => ?_
 simp only [Tryz.ntmps82]
 have F := Y4 c
 repeat' first
  | (with_reducible refine Yc ?_; first | refine Yq ?_ | refine Yd ?_ | refine Xl ?_)
  | (with_reducible refine Ws ?_; refine Yt ?_)
  | refine g0 ?_
  | (with_reducible refine Y7 ?_; refine gc rfl rfl rfl ent_41 (hc _) ?_)
 exact ⟨.inr rfl, endD (r := .v _) hl0 rfl (by simp) (by simp) rfl (by rw [low]; trivial) ⟨rfl, rfl⟩⟩
theorem dist_d (f : Nat) : ∀ l : Lat, SizeOf.sizeOf l ≤ f → WfL l → ∀ h : List Ob, Does Z1 G 41 h [.agg (latX l)] (fun h' r => h' = h ∧ r = .v (.bool (W3 l))) := by
 induction f with
 | zero => intro l hn; cases l; simp at hn
 | succ f ih =>
 intro l hn hwf h
 refine Y9 G hG (by rw [lowL, lowL, low]; exact ⟨Yp _ l, trivial⟩) (by rw [low]; trivial) ?_ h
 clear h
 have hpl : l.parts.length ≤ 1000000 := Zw4 hwf
 have hcf := Yd6 G l.parts (fun c => !W3 c) 82 [] ent_82 hpl [.cells (latX l)] (fun c hc => Y9 G hG (by rw [lowL, lowL, low]; exact ⟨Yp _ c, trivial⟩) (by rw [low]; trivial) (nDist_d G hG c (ih c (by have := Yu hc; omega) (hwf.part hc))) _)
 have e1 : W3 l = (!decide (l.kind = 8 ∨ l.kind = 10) && !(l.parts.any fun c => !W3 c)) := by
  obtain ⟨k, lo, hi, ns, ps, rs⟩ := l
  rw [W3]
  show (_ && Vp ps) = (_ && !(ps.any fun c => !W3 c))
  rw [show Vp ps = !(ps.any fun c => !W3 c) by rw [Bool.eq_iff_iff, Zd0, Bool.not_eq_true', List.any_eq_false]; simp]
  rfl
 rw [e1]
 simp only [Y4 l] at hcf
 generalize (l.parts.any fun c => !W3 c) = bb at *
 refine Y6 Tryz.func41 rfl (Z0 rfl) hG fun hl0 _ => ?_
 simp only [Tryz.ntmps41]
 by_cases h8 : l.kind = 8
 · rw [decide_eq_true (.inl h8)]
   have F : _ ∧ _ := ⟨Y4 l, h8⟩
   repeat' first
    | (with_reducible refine Yc ?_; first | refine Yq ?_ | refine Yd ?_ | refine Xl ?_)
    | (with_reducible refine Ws ?_; refine Yt ?_)
    | refine g0 ?_
    | fail
   all_goals exact ⟨.inr rfl, endD (r := .v (.bool false)) hl0 rfl (by simp) (by simp) rfl (by rw [low]; trivial) ⟨rfl, rfl⟩⟩
 by_cases h10 : l.kind = 10
 · rw [decide_eq_true (.inr h10)]
   have F : _ ∧ _ := ⟨Y4 l, h10⟩
   repeat' first
    | (with_reducible refine Yc ?_; first | refine Yq ?_ | refine Yd ?_ | refine Xl ?_)
    | (with_reducible refine Ws ?_; refine Yt ?_)
    | refine g0 ?_
    | fail
   all_goals exact ⟨.inr rfl, endD (r := .v (.bool false)) hl0 rfl (by simp) (by simp) rfl (by rw [low]; trivial) ⟨rfl, rfl⟩⟩
 rw [decide_eq_false (by omega)]
 repeat' first
  | (with_reducible refine Yc ?_; first
   | refine Yq ?_
   | refine Yd ?_
   | refine Xl ?_)
  | (with_reducible refine Y7 ?_; first
   | refine Yn ?_
   | (refine ao1 rfl rfl fun K HK => ?_; (first | refine Yi rfl ?_ | skip); simp only [go_sem, Y4 l, h8, h10, not_false_eq_true] <;> (refine HK _ _ ?_; clear HK K))
   | (refine ao2 rfl rfl rfl ent_81 (hcf) ?_; rintro _ _ ⟨rfl, rfl⟩))
  | (with_reducible refine Ws ?_; first
   | refine Yt ?_)
 all_goals first | (exfalso; omega) | exact ⟨.inr rfl, endD (r := .v (.bool (!bb))) hl0 rfl (by simp) (by simp) rfl (by rw [low]; trivial) ⟨rfl, rfl⟩⟩
theorem rdist_d (f : Nat) : ∀ l : Lat, SizeOf.sizeOf l ≤ f → WfL l → ∀ h : List Ob, Does Z1 G 18 h [.agg (latX l)] (fun h' r => h' = h ∧ r = .v (.bool (W3 l))) := by
 induction f with
 | zero => intro l hn; cases l; simp at hn
 | succ f ih =>
 intro l hn hwf h
 refine Y9 G hG (by rw [lowL, lowL, low]; exact ⟨Yp _ l, trivial⟩) (by rw [low]; trivial) ?_ h
 clear h
 have hpl : l.parts.length ≤ 1000000 := Zw4 hwf
 have hpp : ∀ p ∈ l.parts, ∀ (b : Bool), W3 p = b → ∀ h, Does Z1 G 18 h [.agg (latX p)] (fun h' r => h' = h ∧ r = .v (.bool b)) := fun p hp b hb => hb ▸ ih p (by have := Yu hp; omega) (hwf.part hp)
 have e1 : W3 l = (!decide (l.kind = 8 ∨ l.kind = 10) && l.parts.all W3) := by
  obtain ⟨k, lo, hi, ns, ps, rs⟩ := l
  rw [W3]
  show (_ && Vp ps) = (_ && ps.all W3)
  rw [show Vp ps = ps.all W3 by rw [Bool.eq_iff_iff, Zd0, List.all_eq_true]]
  rfl
 rw [e1]
 refine Y6 Tryz.func18 rfl (Z0 rfl) hG fun hl0 _ => ?_
 simp only [Tryz.ntmps18]
 by_cases h8 : l.kind = 8
 · rw [decide_eq_true (.inl h8)]
   have F : _ ∧ _ := ⟨Y4 l, h8⟩
   repeat' first
    | (with_reducible refine Yc ?_; first | refine Yq ?_ | refine Yd ?_ | refine We rfl ?_ | refine Xl ?_)
    | (with_reducible refine Ws ?_; first | refine Yt ?_ | refine Va ?_)
    | refine g0 ?_
    | fail
   all_goals exact ⟨.inr rfl, endD (r := .v (.bool false)) hl0 rfl (by simp) (by simp) rfl (by rw [low]; trivial) ⟨rfl, rfl⟩⟩
 by_cases h10 : l.kind = 10
 · rw [decide_eq_true (.inr h10)]
   have F : _ ∧ _ := ⟨Y4 l, h10⟩
   repeat' first
    | (with_reducible refine Yc ?_; first | refine Yq ?_ | refine Yd ?_ | refine We rfl ?_ | refine Xl ?_)
    | (with_reducible refine Ws ?_; first | refine Yt ?_ | refine Va ?_)
    | refine g0 ?_
    | fail
   all_goals exact ⟨.inr rfl, endD (r := .v (.bool false)) hl0 rfl (by simp) (by simp) rfl (by rw [low]; trivial) ⟨rfl, rfl⟩⟩
 rw [decide_eq_false (by omega), Z4, Zm]
 have F : _ ∧ _ ∧ _ := ⟨Y4 l, h8, h10⟩
 repeat' first
  | (with_reducible refine Yc ?_; first | refine Yq ?_ | refine Yd ?_ | refine Yy ?_ | refine Wh rfl ?_ | refine Xi ?_)
  | (with_reducible refine Ws ?_; refine Yt ?_)
  | refine g0 ?_
  | fail
 refine Yh (fun m e h' => ∃ k : Nat, k ≤ l.parts.length ∧ m = l.parts.length - k ∧ l.parts.all W3 = (l.parts.drop k).all W3 ∧ h' = [.cells (latX l)] ∧ e 1 = .ptr 0 0 ∧ e 3 = .v (.int .i64 k)) l.parts.length ⟨0, Zj _, rfl, rfl, by rw [Y4 l], rfl, rfl⟩ ?_
 rintro m e h' ⟨k, hk, rfl, ho, rfl, e1, e3⟩
 by_cases hlt : k < l.parts.length
 · have hx : l.parts[k]? = some l.parts[k] := Z7 hlt
   have hd : l.parts.drop k = l.parts[k] :: l.parts.drop (k + 1) := Z5 hlt
   have hc := hpp _ (Zi hlt)
   generalize l.parts[k] = x at hx hd hc
   rw [hd, Zs] at ho
   have wk : IntKind.i64.wrap ((k : Int) + 1) = (k : Int) + 1 := IntWalk.i64_in _ (by omega)
   simp only [Y4 x] at hc
   cases hpx : W3 x
   · have hc := hc _ hpx
     rw [hpx] at ho
     rw [ho]
     have F : _ ∧ _ ∧ _ ∧ _ ∧ _ := ⟨e1, e3, Y4 l, Y4 x, wk⟩
     repeat' first
      | (with_reducible refine Yc ?_; first | refine Yq ?_ | refine Yd ?_ | refine Yy ?_ | refine We rfl ?_ | refine Wh rfl ?_ | refine Xi ?_ | refine W4 ?_ | refine Xl ?_)
      | (with_reducible refine Ws ?_; first | refine Yt ?_ | refine Wf ?_ | refine Va ?_)
      | (with_reducible refine Jq ?_; first | refine Yc1 ?_ | refine Jk ?_)
      | refine gg ?_
      | refine Two.mk (fun hq => ?_) fun hq => ?_
      | (with_reducible refine Y7 ?_; refine gc rfl rfl rfl ent_18 (hc _) ?_)
      | (exfalso; omega)
     exact ⟨.inr rfl, endD (r := .v (.bool false)) hl0 rfl (by simp) (by simp) rfl (by rw [low]; trivial) ⟨rfl, rfl⟩⟩
   · have hc := hc _ hpx
     rw [hpx] at ho
     have F : _ ∧ _ ∧ _ ∧ _ ∧ _ := ⟨e1, e3, Y4 l, Y4 x, wk⟩
     repeat' first
      | (with_reducible refine Yc ?_; first | refine Yq ?_ | refine Yd ?_ | refine Yy ?_ | refine We rfl ?_ | refine Wh rfl ?_ | refine Xi ?_ | refine W4 ?_ | refine Xl ?_)
      | (with_reducible refine Ws ?_; first | refine Yt ?_ | refine Wf ?_)
      | (with_reducible refine Jq ?_; first | refine Yo4 ?_ | refine Jk ?_)
      | refine gg ?_
      | refine Two.mk (fun hq => ?_) fun hq => ?_
      | (with_reducible refine Y7 ?_; refine gc rfl rfl rfl ent_18 (hc _) ?_)
      | (exfalso; omega)
     exact ⟨rfl, l.parts.length - (k + 1), by omega, k + 1, hlt, rfl, ho, by rw [Y4 l], e1, rfl⟩
 · have ho : l.parts.all W3 = true := by rw [ho, Z8 (by omega)]; rfl
   rw [ho]
   have F : _ ∧ _ ∧ _ := ⟨e1, e3, Y4 l⟩
   repeat' first
    | (with_reducible refine Yc ?_; first | refine Yq ?_ | refine Yd ?_ | refine Yy ?_ | refine We rfl ?_ | refine Wh rfl ?_ | refine Xi ?_ | refine W4 ?_ | refine Xl ?_)
    | (with_reducible refine Ws ?_; first | refine Yt ?_ | refine Wf ?_)
    | (with_reducible refine Jq ?_; refine Jk ?_)
    | refine gg ?_
    | refine Two.mk (fun hq => ?_) fun hq => ?_
    | refine Evry.mk fun x hx => ?_
    | (exfalso; omega)
   exact ⟨.inr rfl, endD (r := .v (.bool true)) hl0 rfl (by simp) (by simp) rfl (by rw [low]; trivial) ⟨rfl, rfl⟩⟩
end
section
attribute [local irreducible] on aOp
attribute [local go_sem] decide_true decide_false Za Z4
attribute [local simp] byD_len
variable (G : Nat → D) (hG : ∀ g, low 0 (G g))
include hG
attribute [local go_sem] Ze Zf Zg Z6 Zo List.getElem?_cons_succ List.getElem?_cons_zero Zl Zp Z9 Zq Zr List.set_cons_succ List.set_cons_zero Zb Zc Z2 Z3 Zd
attribute [local go_sem ↓] reduceIte
end
section
attribute [local irreducible] on aOp
attribute [local go_sem] decide_true decide_false Za Z4
attribute [local simp] byD_len
theorem two_parts {l : Lat} (h : WfL l) (h7 : l.kind = 7) : ∃ p q, l.parts = [p, q] ∧ True := by
 have h2 := h.kinds.2.2.1 h7
 match hm : l.parts, h2 with
 | [p, q], _ => exact ⟨p, q, rfl, trivial⟩
variable (G : Nat → D) (hG : ∀ g, low 0 (G g))
include hG
attribute [local go_sem] Zk Ze Zf Zg Z6 Z9 Zb Zc Z2 Z3 Zd
attribute [local go_sem ↓] reduceIte
end
section
attribute [local irreducible] on aOp
attribute [local go_sem] decide_true decide_false Za Z4
attribute [local simp] byD_len
variable (G : Nat → D) (hG : ∀ g, low 0 (G g))
include hG
attribute [local go_sem] Ze Zf Zg Z6 Z9 Zb Zc Z2 Z3 Zd
attribute [local go_sem ↓] reduceIte
end
section
attribute [local irreducible] on aOp
attribute [local go_sem] decide_true decide_false Za Z4
attribute [local simp] byD_len
theorem endBk {res : Array ResultVar} {K : List Ob → D → Prop} {e k n n' : Nat} {rows rows' : List (List D)} {T : List Ob} {s : S} (h1 : resD Z1 s res.toList = some [.buf 0 n']) (h2 : s.h = .buf e k rows' :: T) (h3 : n' = n) (h4 : rows' = rows) (hl : lowR 1 rows) (hK : K [.buf e k rows] (.buf 0 n)) : EndD Z1 res 0 K s := by
 subst h3 h4
 have e1 : s.h.take 1 = [.buf e k rows'] := by rw [h2]; rfl
 refine ⟨[.buf 0 n'], 1, h1, Zj _, by rw [h2]; exact Nat.le_add_left 1 T.length, ?_, ?_, ?_⟩
 · rw [e1]
   intro x hx
   rw [List.mem_singleton.1 hx]
   exact hl
 · simp [outD, cvD, cv1, low]
 · rw [e1]; simpa [outD, cvD, cv1] using hK
theorem V1 (l : List ByteArray) : low 0 (.sl 1 (l.map strX)) := Xw 0 l
theorem lowR_strs (m : Nat) (l : List ByteArray) : lowR m (l.map strX) := by have := Xw m l; rwa [low] at this
theorem Je (l : List ByteArray) : Yz 1 (l.map strX) := fun row hr => by
 obtain ⟨c, _, rfl⟩ := List.mem_map.1 hr
 exact ⟨rfl, fun d hd => by simp [strX] at hd; subst hd; rfl⟩
variable (G : Nat → D) (hG : ∀ g, low 0 (G g))
include hG
attribute [local go_sem] Ze Zf Zg Zb Zc Z2 Z3 Zd
attribute [local go_sem ↓] reduceIte
theorem cloneS0 (l : List ByteArray) (hl : l.length ≤ 100000) :
 Does Z1 G 128 [] [.sl 1 (l.map strX)] (fun h' r => h' = [.buf 9 1 (l.map strX)] ∧ r = .buf 0 l.length) := by
 refine Does.nilbuf (K := fun h' r => (h' = [.buf 9 1 (l.map strX)] ∧ r = .buf 0 l.length) ∨ (l = [] ∧ h' = [] ∧ r = .v (.slice none 0 0))) 9 1 ?_ ?_
 rotate_left
 · rintro h' r (h | ⟨rfl, rfl, rfl⟩)
   · exact .inl h
   · exact .inr ⟨rfl, rfl, rfl⟩
 have hro := Je l
 refine Y6 Tryz.func128 rfl (Z0 rfl) hG fun hl0 _ => ?_
 simp only [Tryz.ntmps128]
 repeat' first
  | (with_reducible refine Yc ?_; first | refine Yq ?_ | refine Yd ?_ | refine Yy ?_ | refine We rfl ?_ | refine Wh rfl ?_ | refine Xi ?_ | refine W4 ?_ | refine Xl ?_ | refine Y8 mixd (by kernel_rfl) ?_)
  | (with_reducible refine Y7 ?_; first | (refine ao_ex rfl (tri_nil (k := 1) (xs := l.map strX) (by kernel_rfl)) ?_; rintro _ _ ⟨rfl, ⟨rfl, hnil⟩ | rfl⟩) | (refine ao1 rfl rfl fun K HK => ?_; (first | (refine Yi rfl ?_) | (skip)); simp only [go_sem]; (first | (refine Ym (fun hq => ?_) (fun hq => ?_)) | (refine Ze5 (fun hq => ?_) (fun hq => ?_)) | (refine Vt (by simp only [go_sem]) rfl rfl (by first | omega | simp) (by first | omega | simp) (by simp only [go_sem]; omega) ?_) | (refine ⟨by omega, by omega, ?_⟩; refine Yo (by assumption) ?_) | (refine ⟨by omega, by omega, ?_⟩; intro row hrow; obtain ⟨x, hx, rfl⟩ := Vr hrow; clear hrow) | (refine ⟨by omega, by omega, ?_⟩; intro row hrow) | (refine ⟨by omega, ?_⟩; refine Yo (by assumption) ?_) | (skip)) <;> (refine HK _ _ ?_; clear HK K)) | refine Xy rfl rfl rfl rfl (by (first | (assumption) | ((simp only [go_sem]; rfl)) | ((simp only [go_sem]; done)))) (by simp) (by simp only [go_sem]; rfl) (by (first | (assumption) | ((simp only [go_sem]; rfl)) | ((simp only [go_sem]; done)))) (by simp) (by (first | (assumption) | (exact Vu _) | (exact Xe _) | ((rw [Jo]; exact Xe _)) | ((simp [Yz, D.one, Value.oneCell']; done)))) (by (first | (omega) | ((simp; done)) | ((simp; omega)) | ((simp [byD]; omega)))) ?_ | refine Yq8 rfl rfl rfl rfl (by simp only [go_sem]; rfl) (by (first | (assumption) | ((simp only [go_sem]; rfl)) | ((simp only [go_sem]; done)))) (by simp) (by (first | (assumption) | (exact Vu _) | (exact Xe _) | ((rw [Jo]; exact Xe _)) | ((simp [Yz, D.one, Value.oneCell']; done)))) (by (first | (omega) | ((simp; done)) | ((simp; omega)) | ((simp [byD]; omega)))) ?_ | refine Ye4 rfl rfl rfl (by (first | (assumption) | ((simp only [go_sem]; rfl)) | ((simp only [go_sem]; done)))) (by simp) (by simp only [go_sem]; rfl) rfl (by (first | (assumption) | (exact Vu _) | (exact Xe _) | ((rw [Jo]; exact Xe _)) | ((simp [Yz, D.one, Value.oneCell']; done)))) (by (first | (omega) | ((simp; done)) | ((simp; omega)) | ((simp [byD]; omega)))) ?_ | refine ao_appNR rfl rfl rfl (by simp only [go_sem]; rfl) rfl (by (first | (assumption) | (exact Vu _) | (exact Xe _) | ((rw [Jo]; exact Xe _)) | ((simp [Yz, D.one, Value.oneCell']; done)))) (by (first | (omega) | ((simp; done)) | ((simp; omega)) | ((simp [byD]; omega)))) ?_)
  | (with_reducible refine X6 ?_; (refine aq1 rfl rfl fun K HK => ?_; (first | (refine Yi rfl ?_) | (skip)); simp only [go_sem]; (first | (refine Ym (fun hq => ?_) (fun hq => ?_)) | (refine Ze5 (fun hq => ?_) (fun hq => ?_)) | (refine Vt (by simp only [go_sem]) rfl rfl (by first | omega | simp) (by first | omega | simp) (by simp only [go_sem]; omega) ?_) | (refine ⟨by omega, by omega, ?_⟩; refine Yo (by assumption) ?_) | (refine ⟨by omega, by omega, ?_⟩; intro row hrow; obtain ⟨x, hx, rfl⟩ := Vr hrow; clear hrow) | (refine ⟨by omega, by omega, ?_⟩; intro row hrow) | (refine ⟨by omega, ?_⟩; refine Yo (by assumption) ?_) | (skip)) <;> (refine HK _ _ rfl ?_; clear HK K)))
  | (with_reducible refine Ws ?_; first | refine Yt ?_ | refine Wf ?_ | refine Va ?_)
  | (with_reducible refine Jq ?_; first | refine Yo4 ?_ | refine Yc1 ?_ | refine Jk ?_ | refine inB_y rfl ?_)
  | ((with_reducible refine Yc ?_); first | refine Yq ?_ | refine Yd ?_ | refine Yy ?_ | refine We rfl ?_ | refine Wh rfl ?_ | refine Xi ?_ | refine W4 ?_ | refine Xl ?_ | refine Y8 mixd (by kernel_rfl) ?_)
  | ((with_reducible refine Y7 ?_); first | (refine ao_ex rfl (tri_nil (k := 1) (xs := l.map strX) (by kernel_rfl)) ?_; rintro _ _ ⟨rfl, ⟨rfl, hnil⟩ | rfl⟩) | refine Yn ?_ | (refine ao1 rfl rfl fun K HK => ?_; (first | (refine Yi rfl ?_) | (skip)); simp only [go_sem]; (first | (refine Ym (fun hq => ?_) (fun hq => ?_)) | (refine Ze5 (fun hq => ?_) (fun hq => ?_)) | (refine Vt (by simp only [go_sem]) rfl rfl (by first | omega | simp) (by first | omega | simp) (by simp only [go_sem]; omega) ?_) | (refine ⟨by omega, by omega, ?_⟩; refine Yo (by assumption) ?_) | (refine ⟨by omega, by omega, ?_⟩; intro row hrow; obtain ⟨x, hx, rfl⟩ := Vr hrow; clear hrow) | (refine ⟨by omega, by omega, ?_⟩; intro row hrow) | (refine ⟨by omega, ?_⟩; refine Yo (by assumption) ?_) | (skip)) <;> (refine HK _ _ ?_; clear HK K)) | refine ao0 rfl rfl ?_ | refine Xy rfl rfl rfl rfl (by (first | (assumption) | ((simp only [go_sem]; rfl)) | ((simp only [go_sem]; done)))) (by simp) (by simp only [go_sem]; rfl) (by (first | (assumption) | ((simp only [go_sem]; rfl)) | ((simp only [go_sem]; done)))) (by simp) (by (first | (assumption) | (exact Vu _) | (exact Xe _) | ((rw [Jo]; exact Xe _)) | ((simp [Yz, D.one, Value.oneCell']; done)))) (by (first | (omega) | ((simp; done)) | ((simp; omega)) | ((simp [byD]; omega)))) ?_ | refine Yq8 rfl rfl rfl rfl (by simp only [go_sem]; rfl) (by (first | (assumption) | ((simp only [go_sem]; rfl)) | ((simp only [go_sem]; done)))) (by simp) (by (first | (assumption) | (exact Vu _) | (exact Xe _) | ((rw [Jo]; exact Xe _)) | ((simp [Yz, D.one, Value.oneCell']; done)))) (by (first | (omega) | ((simp; done)) | ((simp; omega)) | ((simp [byD]; omega)))) ?_ | refine Ye4 rfl rfl rfl (by (first | (assumption) | ((simp only [go_sem]; rfl)) | ((simp only [go_sem]; done)))) (by simp) (by simp only [go_sem]; rfl) rfl (by (first | (assumption) | (exact Vu _) | (exact Xe _) | ((rw [Jo]; exact Xe _)) | ((simp [Yz, D.one, Value.oneCell']; done)))) (by (first | (omega) | ((simp; done)) | ((simp; omega)) | ((simp [byD]; omega)))) ?_ | refine ao_appNR rfl rfl rfl (by simp only [go_sem]; rfl) rfl (by (first | (assumption) | (exact Vu _) | (exact Xe _) | ((rw [Jo]; exact Xe _)) | ((simp [Yz, D.one, Value.oneCell']; done)))) (by (first | (omega) | ((simp; done)) | ((simp; omega)) | ((simp [byD]; omega)))) ?_ | (refine ao1' rfl fun K HK => ?_; simp only [go_sem]; refine HK _ _ ?_; clear HK K) | refine ao0' rfl ?_)
  | ((with_reducible refine X6 ?_); first | (refine aq1 rfl rfl fun K HK => ?_; (first | (refine Yi rfl ?_) | (skip)); simp only [go_sem]; (first | (refine Ym (fun hq => ?_) (fun hq => ?_)) | (refine Ze5 (fun hq => ?_) (fun hq => ?_)) | (refine Vt (by simp only [go_sem]) rfl rfl (by first | omega | simp) (by first | omega | simp) (by simp only [go_sem]; omega) ?_) | (refine ⟨by omega, by omega, ?_⟩; refine Yo (by assumption) ?_) | (refine ⟨by omega, by omega, ?_⟩; intro row hrow; obtain ⟨x, hx, rfl⟩ := Vr hrow; clear hrow) | (refine ⟨by omega, by omega, ?_⟩; intro row hrow) | (refine ⟨by omega, ?_⟩; refine Yo (by assumption) ?_) | (skip)) <;> (refine HK _ _ rfl ?_; clear HK K)) | refine aq0 rfl rfl ?_ | refine Ye3 ?_)
  | refine gg ?_
  | (exfalso; omega)
 · exact ⟨.inr rfl, endD (r := .v _) hl0 rfl (by simp) (by simp) rfl (by rw [low]; trivial) (.inr ⟨by simpa using hnil, rfl, rfl⟩)⟩
 · exact ⟨.inr rfl, endBk (n := l.length) (rows := l.map strX) rfl (T := []) rfl (by simp) (by simp) (lowR_strs 1 l) (.inl ⟨rfl, rfl⟩)⟩
theorem clone_g (l : List ByteArray) (hl : l.length ≤ 100000) (h : List Ob) : Does Z1 G 128 h [.sl 1 (l.map strX)] (fun h' r => h' = h ∧ r = .sl 1 (l.map strX)) := 
 Does.gave0 hG (V1 l) (by rw [lowL, lowL]; exact ⟨V1 l, trivial⟩) (by simp) (cloneS0 G hG l hl) h
end
section
attribute [local irreducible] on aOp
attribute [local go_sem] decide_true decide_false Za Z4
attribute [local simp] byD_len
def qM (A Z V P B : Ob) (T : List Ob) : List Ob := A :: Z :: V :: P :: B :: T
section
variable {A Z V P B y y' : Ob} {T l : List Ob}
theorem qM_0 : (qM A Z V P B T)[0]? = some A := rfl
theorem qM_1 : (qM A Z V P B T)[1]? = some Z := rfl
theorem qM_2 : (qM A Z V P B T)[2]? = some V := rfl
theorem qM_3 : (qM A Z V P B T)[3]? = some P := rfl
theorem qM_4 : (qM A Z V P B T)[4]? = some B := rfl
theorem qM_s1 : (qM A Z V P B T).set 1 y = qM A y V P B T := rfl
theorem qM_s2 : (qM A Z V P B T).set 2 y = qM A Z y P B T := rfl
theorem qM_s4 : (qM A Z V P B T).set 4 y = qM A Z V P y T := rfl
theorem qM_len : (qM A Z V P B T).length = T.length + 5 := rfl
theorem qM_app : qM A Z V P B T ++ l = qM A Z V P B (T ++ l) := rfl
theorem qM_l : (qM A Z V P B (T ++ [y]))[T.length + 5]? = some y := by simp [qM]
theorem qM_sl : (qM A Z V P B (T ++ [y])).set (T.length + 5) y' = qM A Z V P B (T ++ [y']) := by simp [qM]
theorem qM_l2 {z : Ob} : (qM A Z V P B (T ++ [y, z]))[T.length + 5]? = some y := by simp [qM]
theorem qM_l3 {z : Ob} : (qM A Z V P B (T ++ [y, z]))[T.length + 1 + 5]? = some z := by simp [qM]
end
theorem kM_sl3 {A Z V B y z y' : Ob} {T : List Ob} : (kM A Z V B (T ++ [y, z])).set (T.length + 1 + 4) y' = kM A Z V B (T ++ [y, y']) := by simp [kM, List.set_append]
theorem kM_l4 {A Z V B y z w : Ob} {T : List Ob} : (kM A Z V B (T ++ [y, z, w]))[T.length + 1 + 1 + 4]? = some w := by simp [kM]
theorem kM_l3b {A Z V B y z w : Ob} {T : List Ob} : (kM A Z V B (T ++ [y, z, w]))[T.length + 1 + 4]? = some z := by simp [kM]
variable (G : Nat → D) (hG : ∀ g, low 0 (G g))
include hG
attribute [local go_sem] Zk Ze Zf Zg Z6 List.append_assoc Zo Zl Zp Z9 Zq Zr Zb Zc Z2 Z3 Zd kM_0 kM_1 kM_2 kM_3 Yb5 kM_l kM_l2 kM_l3 kM_l3b kM_l4 Zq2 kM_s1 kM_s2 kM_s3 kM_sl kM_sl3 qM_0 qM_1 qM_2 qM_3 qM_4 qM_app qM_l qM_l2 qM_l3 qM_len qM_s1 qM_s2 qM_s4 qM_sl V9 J0
attribute [local go_sem ↓] reduceIte
end
section
section
variable {P : Program} {G : Nat → D} {n : Nat} {e : Nat → D} {h : List Ob} {ops : Array Oper} {rest : List Oper} {Q : S → Prop} {t : Nat} {ty : TypeId} {pos : String} {aft : Array Edge} {gd : Option (Nat × Bool)} {x y : Operand} {tys : Array TypeId} {k κ : IntKind} {a b : Int}
theorem tri_min {dst : Option Nat} : OpTri P G ⟨dst, .call ⟨.builtin .min, #[x, y], tys⟩, ty, pos, aft, gd⟩ [.v (.int k a), .v (.int κ b)] h (fun h' d => h' = h ∧ d = .v (.int k (if b < a then b else a))) := fun ac w hd p R hdf ok ha => by
 have ho : opds (.call ⟨.builtin .min, #[x, y], tys⟩) = [x, y] := by simp [opds, Op.operands, Call.operands]
 rw [ho, Zn, Zn, List.map_nil, rdL] at ha
 obtain ⟨u, t1, e1, h1, ha⟩ := ha
 rw [rdL] at ha
 obtain ⟨u2, t2, e2, h2, ha⟩ := ha
 rw [rd] at h1
 rw [rd] at h2
 cases e1
 injection e2 with e2 e3
 subst h2
 have hrun : (execOp ac.eval ⟨dst, .call ⟨.builtin .min, #[x, y], tys⟩, ty, pos, aft, gd⟩).run P w = .ok (.value (.int k (if b < a then b else a))) w := by
  simp [execOp, resolve, invoke, h1, e2, builtin, Builtin.min_, Builtin.min2]
 unfold Oper.wp
 rw [hrun]
 exact ⟨_, rfl, .same ok ⟨rfl, rfl⟩ (by rw [rd])⟩
theorem ao_min (hw : Yg ops gd e = some true) (ht : decide (t < n) = true) (hx : ev G e x = .v (.int k a)) (hy : ev G e y = .v (.int κ b)) (q : ao P G ops rest Q ⟨n, upd e t (.v (.int k (if b < a then b else a))), h⟩) : ao P G ops (⟨some t, .call ⟨.builtin .min, #[x, y], tys⟩, ty, pos, aft, gd⟩ :: rest) Q ⟨n, e, h⟩ := by
 have ho : opds (.call ⟨.builtin .min, #[x, y], tys⟩) = [x, y] := by simp [opds, Op.operands, Call.operands]
 refine ao_ex hw (by rw [show (⟨some t, .call ⟨.builtin .min, #[x, y], tys⟩, ty, pos, aft, gd⟩ : Oper).op = .call ⟨.builtin .min, #[x, y], tys⟩ from rfl, ho, Zn, Zn, List.map_nil, hx, hy]; exact tri_min) ?_
 rintro _ _ ⟨rfl, rfl⟩
 unfold putE
 simp only [if_pos (of_decide_eq_true ht)]
 exact q
end
section
variable {P : Program} {G : Nat → D} {n m0 : Nat} {ops : Array Oper} {Q : (Nat → D) → List Ob → Prop} {done : List Eff} {rest : List Oper} {e : Nat → D} {h : List Ob} {t : Nat} {ty : TypeId} {pos : String} {aft : Array Edge} {gd : Option (Nat × Bool)}
theorem aS_alloc {u : TypeId} {zs : List D} (hw : Yg ops gd e = some true) (ht : decide (t < n) = true) (hz : Uj P u = some zs)
 (k : aeS P G n m0 ops Q (⟨[], [], [.cells zs], fun m => .ptr m 0⟩ :: done) rest (upd e t (.ptr h.length 0)) (h ++ [.cells zs])) : aeS P G n m0 ops Q done (⟨some t, .alloc u, ty, pos, aft, gd⟩ :: rest) e h := by
 refine ⟨⟨[], [], [.cells zs], fun m => .ptr m 0⟩, .inl ⟨hw, ⟨by simp, fun hn => by cases hn⟩, fun h2 _ => .inl ?_⟩, by simp [Eff.ok], ?_⟩
 · show on (Uj P u) _
   rw [hz]; exact ⟨rfl, rfl⟩
 · unfold putE; simp only [if_pos (of_decide_eq_true ht)]; exact k
end
end
section
theorem visit_mono (f : Nat) : ∀ (f' : Nat) (l : Lat) (n m : Nat), f ≤ f' → m ≤ n → (X5 f l n).1 = 0 → (X5 f' l m).1 = 0 ∧ (X5 f' l m).2 + n = (X5 f l n).2 + m := by
 induction f with
 | zero => intro f' l n m _ _ h; unfold X5 at h; exact absurd (show (6 : Int) = 0 from h) (by decide)
 | succ f ih =>
  intro f' l n m hf hm h
  obtain ⟨g, rfl⟩ : ∃ g, f' = g + 1 := ⟨f' - 1, by omega⟩
  have e : ∀ f n, X5 (f + 1) l n = if 64 ≤ n then (6, n) else if Wx l then (1, n + 1) else if latE l ≠ 0 then (latE l, n + 1) else goL (X5 f) l.parts (n + 1) := fun f n => rfl
  rw [e] at h
  rw [e, e]
  by_cases h1 : 64 ≤ n
  · rw [if_pos h1] at h; exact absurd (show (6 : Int) = 0 from h) (by decide)
  rw [if_neg h1] at h ⊢
  rw [if_neg (show ¬ 64 ≤ m by omega)]
  cases h2 : Wx l
  · rw [if_neg (by rw [h2]; exact Zh)] at h
    rw [if_neg Zh, if_neg Zh]
    by_cases h3 : latE l = 0
    · rw [if_neg (fun h => h h3)] at h ⊢
      rw [if_neg (fun h => h h3)]
      have key : ∀ (ps : List Lat) (n m : Nat), m ≤ n → (goL (X5 f) ps n).1 = 0 → (goL (X5 g) ps m).1 = 0 ∧ (goL (X5 g) ps m).2 + n = (goL (X5 f) ps n).2 + m := by
       intro ps
       induction ps with
       | nil => intro n m _ _; exact ⟨rfl, by show m + n = n + m; omega⟩
       | cons p t it =>
        intro n m hm h
        rw [goL] at h
        rw [goL, goL]
        by_cases h0 : (X5 f p n).1 = 0
        · rw [if_neg (fun h => h h0)] at h
          obtain ⟨i1, i2⟩ := ih g p n m (by omega) hm h0
          rw [if_neg (show ¬ (X5 g p m).1 ≠ 0 from fun h => h i1), if_neg (show ¬ (X5 f p n).1 ≠ 0 from fun h => h h0)]
          obtain ⟨j1, j2⟩ := it (X5 f p n).2 (X5 g p m).2 (by omega) h
          exact ⟨j1, by omega⟩
        · rw [if_pos h0] at h; exact absurd h h0
      obtain ⟨a, b⟩ := key l.parts (n + 1) (m + 1) (by omega) h
      exact ⟨a, by omega⟩
    · rw [if_pos h3] at h; exact absurd h h3
  · rw [if_pos h2] at h; exact absurd (show (1 : Int) = 0 from h) (by decide)
theorem chk_part {l p : Lat} (h : chkE l = 0) (hp : p ∈ l.parts) : chkE p = 0 := by
 have e : X5 6 l 0 = if 64 ≤ 0 then (6, 0) else if Wx l then (1, 0 + 1) else if latE l ≠ 0 then (latE l, 0 + 1) else goL (X5 5) l.parts (0 + 1) := rfl
 unfold chkE at h
 have hw := Yj8 6 l 0 h
 rw [e, if_neg (by decide), if_neg (by rw [hw.shape]; exact Zh), if_neg (fun q => q hw.check)] at h
 obtain ⟨m, hm⟩ := Yo6 _ _ _ h p hp
 exact (visit_mono 5 6 p m 0 (by omega) (Zj _) hm).1
end
end Go.Proofs.YtbhkcbidcfofiaaGreat
