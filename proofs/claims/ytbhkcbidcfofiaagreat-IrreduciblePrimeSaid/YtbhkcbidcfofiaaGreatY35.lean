/-
  What the statements of the chapter share, part 35: CLP, QA12, QL1, QI1, QI2, QJ1.
-/
import Derived.Test.YtbhkcbidcfofiaaGreatY14
import Derived.Test.YtbhkcbidcfofiaaGreatY18
import Derived.Test.YtbhkcbidcfofiaaGreatY22
import Derived.Test.YtbhkcbidcfofiaaGreatY24
import Derived.Test.YtbhkcbidcfofiaaGreatY25
import Derived.Test.YtbhkcbidcfofiaaGreatY26
import Derived.Test.YtbhkcbidcfofiaaGreatY27
import Derived.Test.YtbhkcbidcfofiaaGreatY28
import Derived.Test.YtbhkcbidcfofiaaGreatY29
import Derived.Test.YtbhkcbidcfofiaaGreatY34
import Derived.Below
import Derived.ChangeOld
import Derived.OpenShut
import Derived.ProofKit
import Derived.ShutString
import Derived.WalkKit
set_option linter.unusedVariables false
set_option linter.unusedSimpArgs false
set_option maxRecDepth 100000
set_option maxHeartbeats 8000000
namespace Go.Proofs.YtbhkcbidcfofiaaGreat
open _root_.Bool renaming false_and → Zf, true_and → Zi, eq_iff_iff → Zj
open _root_.Int renaming reduceEq → Z3, toNat_natCast → Z8, reduceLE → Zd, reduceLT → Ze
open _root_.List renaming getElem?_eq_getElem → Z1, drop_eq_getElem_cons → Z4, getElem_mem → Z6, length_map → Zc, getElem?_eq_some_iff → Zg
open _root_.Nat renaming le_of_ble_eq_true → Z0, reduceEqDiff → Z5, reduceLeDiff → Z7, reduceAdd → Z9, reduceBEq → Za, reduceMul → Zb, zero_le → Zh
open _root_.Go.Proofs.Tryz renaming prog → Z2
open Go.RowKit
attribute [local irreducible] on aOp
attribute [local simp] byD_len
attribute [local go_sem] decide_true decide_false Bool.not_true Bool.not_false
attribute [local go_sem ↓] reduceIte
section
open Go.ChangeShapes Go.WideShapes Go.ChangeAt Go.RowKit
set_option linter.unusedVariables false
theorem kP1 : (Rows.irreduciblePrimeRow.inPlace == Tryz.pinned.checked.prog.inPlace 12) = true := by kernel_rfl
theorem kP2 : (Rows.irreduciblePrimeRow.unfollowed == Tryz.pinned.checked.prog.unfollowed 12) = true := by kernel_rfl
theorem kP3 : (Rows.irreduciblePrimeRow.recurses == Tryz.pinned.checked.prog.recurses 12) = true := by kernel_rfl
theorem kP4 : (Rows.irreduciblePrimeRow.named == Tryz.pinned.checked.prog.varsNamed 12) = true := by kernel_rfl
theorem closedP : joinedFacts Tryz.pinned.checked.prog 12 Tryz.f12 Rows.irreduciblePrimeSpec Rows.irreduciblePrimeRow = true := by
 unfold joinedFacts
 rw [kP1, kP2, kP3, kP4]
 kernel_rfl
end
section
def cksN (l : List En) : Nat := l.length + (l.map fun e => e.clock.length).sum
theorem cksN_take {l : List En} {k : Nat} {x : En} (hx : l[k]? = some x) : cksN (l.take (k + 1)) = cksN (l.take k) + (1 + x.clock.length) := by
 unfold cksN
 rw [List.take_add_one, hx]
 simp only [Option.toList_some, List.length_append, List.map_append, List.sum_append, List.length_cons, List.length_nil, List.map_cons, List.map_nil, List.sum_cons, List.sum_nil]
 omega
theorem cksN_le (l : List En) (k : Nat) : cksN (l.take k) ≤ cksN l := by
 have : cksN l = cksN (l.take k) + cksN (l.drop k) := by
  unfold cksN
  conv => lhs; rw [← List.take_append_drop k l]
  simp only [List.length_append, List.map_append, List.sum_append]
  omega
 omega
theorem Zl8 : ∀ a b : List Val, Yr (a ++ b) = Yr a + Yr b
 | [], b => by rw [List.nil_append, Yr]; omega
 | x :: a, b => by rw [List.cons_append, Yr, Yr, Zl8 a b]; omega
theorem nodesNs_take {l : List Val} {k : Nat} {x : Val} (hx : l[k]? = some x) : Yr (l.take (k + 1)) = Yr (l.take k) + Vv x := by
 rw [List.take_add_one, hx, Zl8]
 simp [Yr]
theorem nodesNs_le (l : List Val) (k : Nat) : Yr (l.take k) ≤ Yr l := by
 have : Yr l = Yr (l.take k) + Yr (l.drop k) := by
  conv => lhs; rw [← List.take_append_drop k l]
  exact Zl8 _ _
 omega
variable (G : Nat → D) (hG : ∀ g, low 0 (G g))
include hG
attribute [local go_sem] Z3 Zd Ze Z8 Zc Z9 Za Z5 Z7 Zb
theorem room_d (f : Nat) : ∀ (v : Val) (m : Int), SizeOf.sizeOf v ≤ f → VSm v → 0 ≤ m → m ≤ 1000000 → ∀ h : List Ob, Does Z2 G 76 h [.agg (vaX v), .v (.int .i64 m)] (fun h' r => h' = h ∧ r = .v (.int .i64 (Ze9 v m))) := by
 induction f with
 | zero => intro v m hn; cases v; simp at hn
 | succ f ih =>
 intro v m hn hv hm0 hm1 h
 refine Y9 G hG (by simp only [lowL, low]; exact ⟨Yb _ v, trivial, trivial⟩) (by rw [low]; trivial) ?_ h
 clear h
 have hT := Zp0 v
 have hvn := hv.names
 have hve := hv.entries
 have hvp := hv.parts
 have hsz : ∀ x ∈ v.parts, SizeOf.sizeOf x ≤ f := fun x hx => by
  obtain ⟨n, ns, ps, es⟩ := v
  have := List.sizeOf_lt_of_mem (show x ∈ ps from hx)
  simp at hn
  omega
 have hro : ∀ x ∈ v.parts, ∀ c : Int, 0 ≤ c → c ≤ 1000000 → ∀ h, Does Z2 G 76 h [.agg (vaX x), .v (.int .i64 c)] (fun h' r => h' = h ∧ r = .v (.int .i64 (Ze9 x c))) := fun x hx c c0 c1 => ih x c (hsz x hx) (hv.part x hx) c0 c1
 have hck : v.entries.length + (v.entries.map fun e => e.clock.length).sum = cksN v.entries := rfl
 refine Y6 Tryz.func76 rfl (Z0 rfl) hG fun hl0 _ => ?_
 simp only [Tryz.ntmps76]
 by_cases hbad : m < 1 ∨ m - 1 < v.names.length
 · have hr : Ze9 v m = -1 := by unfold Ze9; rw [if_neg (by omega)]
   rw [hr]
   have w1 : IntKind.i64.wrap (m - 1) = m - 1 := IntWalk.i64_in _ (by omega)
   have F : _ ∧ _ := ⟨Y5 v, w1⟩
   repeat' first
    | (with_reducible refine Yc ?_; first | refine Yq ?_ | refine Yd ?_ | refine Yy ?_ | refine We rfl ?_ | refine Wh rfl ?_ | refine Xi ?_ | refine Xl ?_)
    | (with_reducible refine Ws ?_; first | refine Yt ?_ | refine Va ?_)
    | refine gg ?_
    | refine Two.mk (fun hq => ?_) fun hq => ?_
    | (exfalso; omega)
   all_goals first | (exfalso; omega) | exact ⟨.inr rfl, endD (r := .v (.int .i64 (-1))) hl0 rfl (by simp) (by simp) rfl (by rw [low]; trivial) ⟨rfl, rfl⟩⟩
 have w1 : IntKind.i64.wrap (m - 1) = m - 1 := IntWalk.i64_in _ (by omega)
 have w2 : IntKind.i64.wrap (1 + (v.names.length : Int)) = 1 + v.names.length := IntWalk.i64_in _ (by omega)
 have w3 : IntKind.i64.wrap (m - (1 + (v.names.length : Int))) = m - (1 + v.names.length) := IntWalk.i64_in _ (by omega)
 have F : _ ∧ _ ∧ _ ∧ _ := ⟨Y5 v, w1, w2, w3⟩
 repeat' first
  | (with_reducible refine Yc ?_; first | refine Yq ?_ | refine Yd ?_ | refine Yy ?_ | refine We rfl ?_ | refine Wh rfl ?_ | refine Xi ?_ | refine Xl ?_)
  | (with_reducible refine Ws ?_; first | refine Yt ?_ | refine Va ?_)
  | refine gg ?_
  | refine Two.mk (fun hq => ?_) fun hq => ?_
  | (exfalso; omega)
 all_goals first | (exfalso; omega) | skip
 refine Yh (fun c e h' => ∃ (k : Nat), k ≤ v.entries.length ∧ c = v.entries.length - k ∧ h' = [.cells (vaX v)] ∧ e 2 = .ptr 0 0 ∧ 0 ≤ m - (1 + v.names.length) - cksN (v.entries.take k) ∧ e 1 = .v (.int .i64 (m - (1 + v.names.length) - cksN (v.entries.take k))) ∧ e 5 = .v (.int .i64 k)) v.entries.length ⟨0, Zh _, rfl, by rw [Y5 v], rfl, by simp [cksN]; omega, by simp [cksN, go_sem], rfl⟩ ?_
 rintro c e h' ⟨k, hk, rfl, rfl, e2, hc0, e1, e5⟩
 by_cases hlt : k < v.entries.length
 · have hx : v.entries[k]? = some v.entries[k] := Z1 hlt
   have hxm := Z6 hlt
   have wk : IntKind.i64.wrap ((k : Int) + 1) = ((k + 1 : Nat) : Int) := IntWalk.i64_in _ (by omega)
   have hts := cksN_take hx
   have hle := cksN_le v.entries (k + 1)
   have hcl := (hv.ents _ hxm).1
   generalize v.entries[k] = x at hx hts hcl hxm
   generalize hC : m - (1 + (v.names.length : Int)) - cksN (v.entries.take k) = C at *
   have w4 : IntKind.i64.wrap (C - 1) = C - 1 := IntWalk.i64_in _ (by omega)
   by_cases hb2 : C < 1 ∨ C - 1 < x.clock.length
   · have hr : Ze9 v m = -1 := by unfold Ze9; rw [if_neg (by omega)]
     rw [hr]
     have F : _ ∧ _ ∧ _ ∧ _ ∧ _ ∧ _ ∧ _ := ⟨Y5 v, X1 x, e1, e2, e5, w4, wk⟩
     repeat' first
      | (with_reducible refine Yc ?_; first | refine Yq ?_ | refine Yd ?_ | refine Yy ?_ | refine We rfl ?_ | refine Wh rfl ?_ | refine Xi ?_ | refine W4 ?_ | refine Xl ?_)
      | (with_reducible refine Ws ?_; first | refine Yt ?_ | refine Wf ?_ | refine Va ?_)
      | (with_reducible refine Jq ?_; first | refine Yo4 ?_ | refine Yc1 ?_ | refine Jk ?_)
      | refine gg ?_
      | refine Two.mk (fun hq => ?_) fun hq => ?_
      | (exfalso; omega)
     all_goals first | (exfalso; omega) | exact ⟨.inr rfl, endD (r := .v (.int .i64 (-1))) hl0 rfl (by simp) (by simp) rfl (by rw [low]; trivial) ⟨rfl, rfl⟩⟩
   · have w5 : IntKind.i64.wrap (1 + (x.clock.length : Int)) = 1 + x.clock.length := IntWalk.i64_in _ (by omega)
     have w6 : IntKind.i64.wrap (C - (1 + (x.clock.length : Int))) = C - (1 + x.clock.length) := IntWalk.i64_in _ (by omega)
     have F : _ ∧ _ ∧ _ ∧ _ ∧ _ ∧ _ ∧ _ ∧ _ ∧ _ := ⟨Y5 v, X1 x, e1, e2, e5, w4, w5, w6, wk⟩
     repeat' first
      | (with_reducible refine Yc ?_; first | refine Yq ?_ | refine Yd ?_ | refine Yy ?_ | refine We rfl ?_ | refine Wh rfl ?_ | refine Xi ?_ | refine W4 ?_ | refine Xl ?_)
      | (with_reducible refine Ws ?_; first | refine Yt ?_ | refine Wf ?_ | refine Va ?_)
      | (with_reducible refine Jq ?_; first | refine Yo4 ?_ | refine Yc1 ?_ | refine Jk ?_)
      | refine gg ?_
      | refine Two.mk (fun hq => ?_) fun hq => ?_
      | (exfalso; omega)
     all_goals first | (exfalso; omega) | exact ⟨rfl, v.entries.length - (k + 1), by omega, k + 1, hlt, rfl, (by rw [Y5 v]), e2, by omega, (by show D.v (.int .i64 _) = _; congr 2; omega), rfl⟩
 obtain rfl : k = v.entries.length := by omega
 rw [List.take_length] at hc0 e1
 generalize hC : m - (1 + (v.names.length : Int)) - cksN v.entries = C at *
 have F : _ ∧ _ ∧ _ ∧ _ := ⟨Y5 v, e1, e2, e5⟩
 repeat' first
  | (with_reducible refine Yc ?_; first | refine Yq ?_ | refine Yd ?_ | refine Yy ?_ | refine We rfl ?_ | refine Wh rfl ?_ | refine Xi ?_ | refine W4 ?_ | refine Xl ?_)
  | (with_reducible refine Ws ?_; first | refine Yt ?_ | refine Wf ?_ | refine Va ?_)
  | (with_reducible refine Jq ?_; first | refine Yc1 ?_ | refine Jk ?_)
  | refine gg ?_
  | refine Two.mk (fun hq => ?_) fun hq => ?_
  | refine Evry.mk fun x hx => ?_
  | (exfalso; omega)
 all_goals first | (exfalso; omega) | skip
 refine Yh (fun c e h' => ∃ (k : Nat), k ≤ v.parts.length ∧ c = v.parts.length - k ∧ h' = [.cells (vaX v)] ∧ e 2 = .ptr 0 0 ∧ 0 ≤ C - Yr (v.parts.take k) ∧ e 1 = .v (.int .i64 (C - Yr (v.parts.take k))) ∧ e 6 = .v (.int .i64 k)) v.parts.length ⟨0, Zh _, rfl, by rw [Y5 v], e2, by simp [Yr]; omega, (by rw [List.take_zero, Yr]; simpa [go_sem] using e1), rfl⟩ ?_
 rintro c e' h' ⟨k, hk', rfl, rfl, e2, hc0, e1, e6⟩
 by_cases hlt : k < v.parts.length
 · have hx : v.parts[k]? = some v.parts[k] := Z1 hlt
   have hxm := Z6 hlt
   have wk : IntKind.i64.wrap ((k : Int) + 1) = ((k + 1 : Nat) : Int) := IntWalk.i64_in _ (by omega)
   have hts := nodesNs_take hx
   have hle := nodesNs_le v.parts (k + 1)
   generalize v.parts[k] = x at hx hts hxm
   have hrx := hro x hxm (C - Yr (v.parts.take k)) (by omega) (by omega)
   simp only [Y5 x] at hrx
   by_cases hb2 : C - Yr (v.parts.take k) < Vv x
   · have hr : Ze9 v m = -1 := by unfold Ze9; rw [if_neg (by omega)]
     rw [hr]
     have hr2 : Ze9 x (C - Yr (v.parts.take k)) = -1 := by unfold Ze9; rw [if_neg (by omega)]
     rw [hr2] at hrx
     have F : _ ∧ _ ∧ _ ∧ _ ∧ _ ∧ _ := ⟨Y5 v, Y5 x, e1, e2, e6, wk⟩
     repeat' first
      | (with_reducible refine Yc ?_; first | refine Yq ?_ | refine Yd ?_ | refine Yy ?_ | refine We rfl ?_ | refine Wh rfl ?_ | refine Xi ?_ | refine W4 ?_ | refine Xl ?_)
      | (with_reducible refine Ws ?_; first | refine Yt ?_ | refine Wf ?_ | refine Va ?_)
      | (with_reducible refine Jq ?_; first | refine Yc1 ?_ | refine Jk ?_)
      | refine gg ?_
      | refine Two.mk (fun hq => ?_) fun hq => ?_
      | (with_reducible refine Y7 ?_; refine gc rfl rfl rfl ent_76 (hrx _) ?_)
      | (exfalso; omega)
     all_goals first | (exfalso; omega) | exact ⟨.inr rfl, endD (r := .v (.int .i64 (-1))) hl0 rfl (by simp) (by simp) rfl (by rw [low]; trivial) ⟨rfl, rfl⟩⟩
   · have hr2 : Ze9 x (C - Yr (v.parts.take k)) = C - Yr (v.parts.take (k + 1)) := by unfold Ze9; rw [if_pos (by omega)]; omega
     rw [hr2] at hrx
     have F : _ ∧ _ ∧ _ ∧ _ ∧ _ ∧ _ := ⟨Y5 v, Y5 x, e1, e2, e6, wk⟩
     repeat' first
      | (with_reducible refine Yc ?_; first | refine Yq ?_ | refine Yd ?_ | refine Yy ?_ | refine We rfl ?_ | refine Wh rfl ?_ | refine Xi ?_ | refine W4 ?_ | refine Xl ?_)
      | (with_reducible refine Ws ?_; first | refine Yt ?_ | refine Wf ?_ | refine Va ?_)
      | (with_reducible refine Jq ?_; first | refine Yo4 ?_ | refine Yc1 ?_ | refine Jk ?_)
      | refine gg ?_
      | refine Two.mk (fun hq => ?_) fun hq => ?_
      | (with_reducible refine Y7 ?_; refine gc rfl rfl rfl ent_76 (hrx _) ?_)
      | (exfalso; omega)
     all_goals first | (exfalso; omega) | exact ⟨rfl, v.parts.length - (k + 1), by omega, k + 1, hlt, rfl, (by rw [Y5 v]), e2, by omega, rfl, rfl⟩
 obtain rfl : k = v.parts.length := by omega
 rw [List.take_length] at hc0 e1
 have hr : Ze9 v m = C - Yr v.parts := by unfold Ze9; rw [if_pos (by omega)]; omega
 rw [hr]
 have F : _ ∧ _ ∧ _ ∧ _ := ⟨Y5 v, e1, e2, e6⟩
 repeat' first
  | (with_reducible refine Yc ?_; first | refine Yq ?_ | refine Yd ?_ | refine Yy ?_ | refine We rfl ?_ | refine Wh rfl ?_ | refine Xi ?_ | refine W4 ?_ | refine Xl ?_)
  | (with_reducible refine Ws ?_; first | refine Yt ?_ | refine Wf ?_)
  | (with_reducible refine Jq ?_; refine Jk ?_)
  | refine gg ?_
  | refine Two.mk (fun hq => ?_) fun hq => ?_
  | refine Evry.mk fun x hx => ?_
  | (exfalso; omega)
 all_goals first | (exfalso; omega) | exact ⟨.inr rfl, endD (r := .v _) hl0 rfl (by simp) (by simp) rfl (by rw [low]; trivial) ⟨rfl, rfl⟩⟩
theorem rSmall_d (v : Val) (hv : VSm v) (m : Int) (hm0 : 0 ≤ m) (hm1 : m ≤ 1000000) (h : List Ob) : Does Z2 G 37 h [.agg (vaX v), .v (.int .i64 m)] (fun h' r => h' = h ∧ r = .v (.bool (decide ((Vv v : Int) ≤ m)))) := by
 refine Y9 G hG (by simp only [lowL, low]; exact ⟨Yb _ v, trivial, trivial⟩) (by rw [low]; trivial) ?_ h
 clear h
 have hro := room_d G hG _ v m (Nat.le_refl _) hv hm0 hm1
 have hd : decide ((Vv v : Int) ≤ m) = decide (0 ≤ Ze9 v m) := by
  unfold Ze9; split <;> simp <;> omega
 rw [hd]
 simp only [Y5 v] at hro
 generalize Ze9 v m = R at *
 refine Y6 Tryz.func37 rfl (Z0 rfl) hG fun hl0 _ => ?_
 simp only [Tryz.ntmps37]
 have F := Y5 v
 repeat' first
  | (with_reducible refine Yc ?_; first | refine Yq ?_ | refine Yd ?_ | refine Xl ?_)
  | (with_reducible refine Ws ?_; refine Yt ?_)
  | refine gg ?_
  | refine Two.mk (fun hq => ?_) fun hq => ?_
  | (with_reducible refine Y7 ?_; refine gc rfl rfl rfl ent_76 (hro _) ?_)
 all_goals first | (exfalso; omega) | exact ⟨.inr rfl, endD (r := .v (.bool _)) hl0 rfl (by simp) (by simp) rfl (by rw [low]; trivial) ⟨rfl, by first | rfl | simp_all⟩⟩
end
section
def Zu1 (L : List Val) : Bool := L.all fun v => decide ((Vv v : Int) ≤ 40)
variable (G : Nat → D) (hG : ∀ g, low 0 (G g))
include hG
attribute [local go_sem] Bool.false_eq_true Z3 Zd Ze Z8 Zc Z9 Za Z5 Z7 Zb
theorem small12_d (L : List Val) (hL : ∀ v ∈ L, VSm v) (hl : L.length ≤ 1000000) (h : List Ob) : Does Z2 G 16 h [.sl 4 (L.map vaX)] (fun h' r => h' = h ∧ r = .v (.bool (Zu1 L))) := by
 refine Y9 G hG (by simp only [lowL]; exact ⟨Wz L, trivial⟩) (by rw [low]; trivial) ?_ h
 clear h
 refine Y6 Tryz.func16 rfl (Z0 rfl) hG fun hl0 _ => ?_
 simp only [Tryz.ntmps16]
 repeat' first
  | (with_reducible refine Yc ?_; first | refine Yq ?_ | refine Yd ?_ | refine Yy ?_)
  | (with_reducible refine Ws ?_; refine Yt ?_)
  | refine g0 ?_
  | fail
 refine Yh (fun m e h' => ∃ (k : Nat), k ≤ L.length ∧ m = L.length - k ∧ Zu1 L = Zu1 (L.drop k) ∧ h' = [] ∧ e 0 = .sl 4 (L.map vaX) ∧ e 3 = .v (.int .i64 k)) L.length ⟨0, Zh _, rfl, rfl, rfl, rfl, rfl⟩ ?_
 rintro m e h' ⟨k, hk, rfl, ho, rfl, e0, e3⟩
 by_cases hlt : k < L.length
 · have hx : L[k]? = some L[k] := Z1 hlt
   have hd : L.drop k = L[k] :: L.drop (k + 1) := Z4 hlt
   have hvx := rSmall_d G hG _ (hL _ (Z6 hlt)) 40 (by decide) (by decide)
   generalize L[k] = x at hx hd hvx
   have wk : IntKind.i64.wrap ((k : Int) + 1) = ((k + 1 : Nat) : Int) := IntWalk.i64_in _ (by omega)
   have ho' : Zu1 L = (decide ((Vv x : Int) ≤ 40) && Zu1 (L.drop (k + 1))) := by rw [ho, hd]; rfl
   simp only [Y5 x] at hvx
   cases hb : decide ((Vv x : Int) ≤ 40)
   · rw [hb] at hvx ho'
     rw [ho', Zf]
     have F : _ ∧ _ ∧ _ ∧ _ := ⟨Y5 x, e0, e3, wk⟩
     repeat' first
      | (with_reducible refine Yc ?_; first | refine Yq ?_ | refine Yd ?_ | refine Yy ?_ | refine We rfl ?_ | refine Wh rfl ?_ | refine Xi ?_ | refine W4 ?_ | refine Xl ?_)
      | (with_reducible refine Ws ?_; first | refine Yt ?_ | refine Wf ?_ | refine Va ?_)
      | (with_reducible refine Jq ?_; first | refine Yc1 ?_ | refine Jk ?_)
      | refine gg ?_
      | refine Two.mk (fun hq => ?_) fun hq => ?_
      | (with_reducible refine Y7 ?_; refine gc rfl rfl rfl ent_37 (hvx _) ?_)
      | (exfalso; omega)
     all_goals first | (exfalso; omega) | exact ⟨.inr rfl, endD (r := .v (.bool false)) hl0 rfl (by simp) (by simp) rfl (by rw [low]; trivial) ⟨rfl, rfl⟩⟩
   · rw [hb] at hvx ho'
     rw [Zi] at ho'
     have F : _ ∧ _ ∧ _ ∧ _ := ⟨Y5 x, e0, e3, wk⟩
     repeat' first
      | (with_reducible refine Yc ?_; first | refine Yq ?_ | refine Yd ?_ | refine Yy ?_ | refine We rfl ?_ | refine Wh rfl ?_ | refine Xi ?_ | refine W4 ?_ | refine Xl ?_)
      | (with_reducible refine Ws ?_; first | refine Yt ?_ | refine Wf ?_)
      | (with_reducible refine Jq ?_; first | refine Yo4 ?_ | refine Jk ?_)
      | refine gg ?_
      | refine Two.mk (fun hq => ?_) fun hq => ?_
      | (with_reducible refine Y7 ?_; refine gc rfl rfl rfl ent_37 (hvx _) ?_)
      | (exfalso; omega)
     all_goals first | (exfalso; omega) | exact ⟨rfl, L.length - (k + 1), by omega, k + 1, hlt, rfl, ho', rfl, e0, rfl⟩
 obtain rfl : k = L.length := by omega
 have hd : L.drop L.length = [] := List.drop_length
 rw [ho, hd]
 have F : _ ∧ _ := ⟨e0, e3⟩
 repeat' first
  | (with_reducible refine Yc ?_; first | refine Yq ?_ | refine Yd ?_ | refine Yy ?_ | refine We rfl ?_ | refine Wh rfl ?_ | refine Xi ?_ | refine W4 ?_ | refine Xl ?_)
  | (with_reducible refine Ws ?_; first | refine Yt ?_ | refine Wf ?_)
  | (with_reducible refine Jq ?_; refine Jk ?_)
  | refine gg ?_
  | refine Two.mk (fun hq => ?_) fun hq => ?_
  | refine Evry.mk fun x hx => ?_
  | (exfalso; omega)
 all_goals first | (exfalso; omega) | exact ⟨.inr rfl, endD (r := .v (.bool true)) hl0 rfl (by simp) (by simp) rfl (by rw [low]; trivial) ⟨rfl, rfl⟩⟩
end
section
def SingleOk (G : Nat → D) : Prop := ∀ (l : Lat) (v : Val), l.kind = 10 → Sm l → chkE l = 0 → VSm v → Ya l v = true → ∀ h : List Ob, Does Z2 G 119 h [.agg (latX l), .sl 1 (v.names.map strX)] (fun h' r => h' = h ∧ r = .v (.bool (Yk3 l.names l.rules v.names)))
theorem irrV_eq (l : Lat) (v : Val) : irrV l v = if l.kind = 4 then decide (v.names.length = 1) else if l.kind = 9 then decide (v.entries.length = 1)
   else if l.kind = 8 then decide (v.n = 1 ∨ (v.n = 2 ∧ l.names.length = 1)) else if l.kind = 10 then Yk3 l.names l.rules v.names
   else if l.kind = 5 then decide (v.names.length = 1) && Yh9 l.parts v.parts else if l.kind = 6 then irrs l.parts v.parts
   else if l.kind = 7 then irrLex l.parts v.parts else !decide (valC v (botV l) = 0) := by
 obtain ⟨k, lo, hi, ns, ps, rs⟩ := l
 rw [irrV]; rfl
variable (G : Nat → D) (hG : ∀ g, low 0 (G g))
include hG
attribute [local go_sem] Bool.false_eq_true Z3 Zd Ze Z8 Zc Z9 Za Z5 Z7 Zb
theorem irr_d (f : Nat) : ∀ l v, SizeOf.sizeOf l ≤ f → Sm l → chkE l = 0 → VSm v → Ya l v = true → (W3 l = true ∨ SingleOk G) → ∀ h : List Ob, Does Z2 G 62 h [.agg (latX l), .agg (vaX v)] (fun h' r => h' = h ∧ r = .v (.bool (irrV l v))) := by
 induction f with
 | zero => intro l v hn; cases l; simp at hn
 | succ f ih =>
 intro l v hn hsm hc hv he hx h
 refine Y9 G hG (by simp only [lowL, low]; exact ⟨Yp _ l, Yb _ v, trivial⟩) (by rw [low]; trivial) ?_ h
 clear h
 have hwf := Ut hc
 obtain ⟨hk0, hk5, hk7, hk6, _⟩ := hwf.kinds
 have hpp : ∀ p ∈ l.parts, ∀ x ∈ v.parts, Ya p x = true → ∀ h, Does Z2 G 62 h [.agg (latX p), .agg (vaX x)] (fun h' r => h' = h ∧ r = .v (.bool (irrV p x))) := fun p hp x hx' hex => ih p x (by have := Yu hp; omega) (hsm.part p hp) (chk_part hc hp) (hv.part x hx') hex (hx.imp (fun h => (Zj4 h).2 p hp) id)
 have hib : ∀ p ∈ l.parts, ∀ x ∈ v.parts, ∀ h, Does Z2 G 84 h [.agg (latX p), .agg (vaX x)] (fun h' r => h' = h ∧ r = .v (.bool (decide (valC x (botV p) = 0)))) := fun p hp x hx' h => by
  have q := Yh7 G hG p (hsm.part p hp) x (hv.part x hx') h
  rw [show Yh8 p x = decide (valC x (botV p) = 0) by unfold Yh8; rw [chk_part hc hp]; simp] at q
  exact q
 rw [irrV_eq]
 by_cases h4 : l.kind = 4
 · simp only [h4, if_true]
   refine Y6 Tryz.func62 rfl (Z0 rfl) hG fun hl0 _ => ?_
   simp only [Tryz.ntmps62]
   have F : _ ∧ _ ∧ _ := ⟨Y4 l, Y5 v, h4⟩
   repeat' first
    | refine gg ?_
    | refine Two.mk (fun hq => ?_) fun hq => ?_
   all_goals first | (exfalso; omega) | exact ⟨.inr rfl, endD (r := .v (.bool _)) hl0 rfl (by simp) (by simp) rfl (by rw [low]; trivial) ⟨rfl, by congr 2; rw [Zj]; simp; omega⟩⟩
 by_cases h9 : l.kind = 9
 · simp only [h9, if_true, Z3, if_false]
   refine Y6 Tryz.func62 rfl (Z0 rfl) hG fun hl0 _ => ?_
   simp only [Tryz.ntmps62]
   have F : _ ∧ _ ∧ _ := ⟨Y4 l, Y5 v, h9⟩
   repeat' first
    | refine gg ?_
    | refine Two.mk (fun hq => ?_) fun hq => ?_
   all_goals first | (exfalso; omega) | exact ⟨.inr rfl, endD (r := .v (.bool _)) hl0 rfl (by simp) (by simp) rfl (by rw [low]; trivial) ⟨rfl, by congr 2; rw [Zj]; simp; omega⟩⟩
 by_cases h8 : l.kind = 8
 · simp only [h8, if_true, Z3, if_false]
   refine Y6 Tryz.func62 rfl (Z0 rfl) hG fun hl0 _ => ?_
   simp only [Tryz.ntmps62]
   have F : _ ∧ _ ∧ _ := ⟨Y4 l, Y5 v, h8⟩
   repeat' first
    | refine gg ?_
    | refine Two.mk (fun hq => ?_) fun hq => ?_
   all_goals first | (exfalso; omega) | exact ⟨.inr rfl, endD (r := .v (.bool _)) hl0 rfl (by simp) (by simp) rfl (by rw [low]; trivial) ⟨rfl, by congr 2; rw [Zj]; simp; omega⟩⟩
 by_cases h10 : l.kind = 10
 · have hs := (hx.resolve_left fun h => (Zj4 h).1.2 h10) l v h10 hsm hc hv he
   simp only [h10, if_true, Z3, if_false]
   generalize Yk3 l.names l.rules v.names = B at *
   simp only [Y4 l, h10] at hs
   refine Y6 Tryz.func62 rfl (Z0 rfl) hG fun hl0 _ => ?_
   simp only [Tryz.ntmps62]
   have F : _ ∧ _ ∧ _ := ⟨Y4 l, Y5 v, h10⟩
   repeat' first
    | refine g0 ?_
    | (with_reducible refine Y7 ?_; refine gc rfl rfl rfl ent_119 (hs _) ?_)
   all_goals first | (exfalso; omega) | exact ⟨.inr rfl, endD (r := .v (.bool B)) hl0 rfl (by simp) (by simp) rfl (by rw [low]; trivial) ⟨rfl, rfl⟩⟩
 have hk123 : l.kind = 1 ∨ l.kind = 2 ∨ l.kind = 3 ∨ l.kind = 5 ∨ l.kind = 6 ∨ l.kind = 7 := by omega
 by_cases h123 : l.kind = 1 ∨ l.kind = 2 ∨ l.kind = 3
 · have q := Yh7 G hG l hsm v hv
   rw [show Yh8 l v = decide (valC v (botV l) = 0) by unfold Yh8; rw [hc]; simp] at q
   generalize decide (valC v (botV l) = 0) = B at *
   simp only [Y4 l, Y5 v] at q
   refine Y6 Tryz.func62 rfl (Z0 rfl) hG fun hl0 _ => ?_
   simp only [Tryz.ntmps62]
   rcases h123 with e | e | e
   all_goals
    simp only [e, if_true, Z3, if_false] at q ⊢
    have F : _ ∧ _ ∧ _ := ⟨Y4 l, Y5 v, e⟩
    repeat' first
     | refine g0 ?_
     | (with_reducible refine Y7 ?_; refine gc rfl rfl rfl Yc6 (q _) ?_)
    all_goals first | (exfalso; omega) | exact ⟨.inr rfl, endD (r := .v (.bool (!B))) hl0 rfl (by simp) (by simp) rfl (by rw [low]; trivial) ⟨rfl, rfl⟩⟩
 by_cases h5 : l.kind = 5
 · obtain ⟨p, hp⟩ := List.length_eq_one_iff.1 (hk5 h5)
   have hpm : p ∈ l.parts := by rw [hp]; simp
   have hx0 : l.parts[0]? = some p := by rw [hp]; rfl
   have hl1 : l.parts.length = 1 := by rw [hp]; rfl
   have hmp := Vh.1 (show Ya (.mk 5 l.lo l.hi l.names [p] l.rules) v = true by rw [← hp, ← h5]; cases l; exact he)
   simp only [h5, if_true, Z3, if_false]
   have hpr := hpp p hpm
   by_cases h1 : v.names.length = 1
   · have hv1 : v.parts.length = 1 := by rw [← hmp.2.1]; exact h1
     obtain ⟨x, hxe⟩ := List.length_eq_one_iff.1 hv1
     have hxm : x ∈ v.parts := by rw [hxe]; simp
     have hy0 : v.parts[0]? = some x := by rw [hxe]; rfl
     have hr := hpr x hxm (hmp.2.2.2 x hxm).1
     rw [hp, hxe, Yh9, decide_eq_true h1, Zi]
     generalize irrV p x = B at *
     clear hp hxe
     simp only [Y4 p, Y5 x] at hr
     refine Y6 Tryz.func62 rfl (Z0 rfl) hG fun hl0 _ => ?_
     simp only [Tryz.ntmps62]
     have F : _ ∧ _ ∧ _ ∧ _ ∧ _ ∧ _ ∧ _ ∧ _ := ⟨Y4 l, Y4 p, Y5 v, Y5 x, h5, h1, hl1, hv1⟩
     repeat' first
      | (with_reducible refine Yc ?_; refine Y8 mixd (by kernel_rfl) ?_)
      | ((with_reducible refine X6 ?_); first | (refine aq1 rfl rfl fun K HK => ?_; (first | refine Yi rfl ?_ | skip); simp only [go_sem, F]; (first | refine Ym (fun hq => ?_) (fun hq => ?_) | (refine ⟨by omega, ?_⟩; refine Yo (by assumption) ?_) | skip) <;> (refine HK _ _ rfl ?_; clear HK K)))
      | refine gg ?_
      | refine Two.mk (fun hq => ?_) fun hq => ?_
      | (with_reducible refine X6 ?_; refine aq2 rfl rfl rfl ent_62 (hr _) ?_)
      | (exfalso; omega)
     all_goals first | (exfalso; omega) | exact ⟨.inr rfl, endD (r := .v (.bool B)) hl0 rfl (by simp) (by simp) rfl (by rw [low]; trivial) ⟨rfl, rfl⟩⟩
   · rw [decide_eq_false h1, Zf]
     have h1' : ¬ (v.names.length : Int) = 1 := by omega
     refine Y6 Tryz.func62 rfl (Z0 rfl) hG fun hl0 _ => ?_
     simp only [Tryz.ntmps62]
     have F : _ ∧ _ ∧ _ ∧ _ := ⟨Y4 l, Y5 v, h5, h1'⟩
     repeat' first
      | (with_reducible refine Yc ?_; refine Y8 mixd (by kernel_rfl) ?_)
      | refine g0 ?_
      | fail
     all_goals first | (exfalso; omega) | exact ⟨.inr rfl, endD (r := .v (.bool false)) hl0 rfl (by simp) (by simp) rfl (by rw [low]; trivial) ⟨rfl, rfl⟩⟩
 by_cases h7 : l.kind = 7
 · obtain ⟨p, q, a, w, hpq, hab, ha, hw, _⟩ := Zp5 hwf h7 he
   have hx0 : l.parts[0]? = some p := by rw [hpq]; rfl
   have hx1 : l.parts[1]? = some q := by rw [hpq]; rfl
   have hl2 : l.parts.length = 2 := by rw [hpq]; rfl
   have hy0 : v.parts[0]? = some a := by rw [hab]; rfl
   have hy1 : v.parts[1]? = some w := by rw [hab]; rfl
   have hv2 : v.parts.length = 2 := by rw [hab]; rfl
   have b0 := hib p (by rw [hpq]; simp) a (by rw [hab]; simp)
   have b1 := hib q (by rw [hpq]; simp) w (by rw [hab]; simp)
   have b2 := hpp q (by rw [hpq]; simp) w (by rw [hab]; simp) hw
   simp only [h7, if_true, Z3, if_false]
   rw [hpq, hab, irrLex, irrLex2]
   clear hpq hab
   generalize irrV q w = B at *
   generalize decide (valC a (botV p) = 0) = Z at *
   simp only [Y4 p, Y4 q, Y5 a, Y5 w] at b0 b1 b2
   refine Y6 Tryz.func62 rfl (Z0 rfl) hG fun hl0 _ => ?_
   simp only [Tryz.ntmps62]
   by_cases hz : valC w (botV q) = 0
   · rw [decide_eq_true hz] at b1
     rw [if_pos hz]
     have F : _ ∧ _ ∧ _ ∧ _ ∧ _ ∧ _ ∧ _ ∧ _ ∧ _ := ⟨Y4 l, Y4 p, Y4 q, Y5 v, Y5 a, Y5 w, h7, hl2, hv2⟩
     repeat' first
      | (with_reducible refine Yc ?_; refine Y8 mixd (by kernel_rfl) ?_)
      | ((with_reducible refine X6 ?_); first | (refine aq1 rfl rfl fun K HK => ?_; simp only [go_sem, F]; (first | (refine ⟨by omega, ?_⟩; refine Yo (by assumption) ?_) | skip) <;> (refine HK _ _ rfl ?_; clear HK K)))
      | refine g0 ?_
      | (with_reducible refine X6 ?_; first | refine aq2 rfl rfl rfl Yc6 (b1 _) ?_ | refine aq2 rfl rfl rfl Yc6 (b0 _) ?_)
     all_goals first | (exfalso; omega) | exact ⟨.inr rfl, endD (r := .v (.bool (!Z))) hl0 rfl (by simp) (by simp) rfl (by rw [low]; trivial) ⟨rfl, rfl⟩⟩
   · rw [decide_eq_false hz] at b1
     rw [if_neg hz]
     have F : _ ∧ _ ∧ _ ∧ _ ∧ _ ∧ _ ∧ _ ∧ _ ∧ _ := ⟨Y4 l, Y4 p, Y4 q, Y5 v, Y5 a, Y5 w, h7, hl2, hv2⟩
     repeat' first
      | (with_reducible refine Yc ?_; refine Y8 mixd (by kernel_rfl) ?_)
      | ((with_reducible refine X6 ?_); first | (refine aq1 rfl rfl fun K HK => ?_; simp only [go_sem, F]; (first | (refine ⟨by omega, ?_⟩; refine Yo (by assumption) ?_) | skip) <;> (refine HK _ _ rfl ?_; clear HK K)))
      | refine g0 ?_
      | (with_reducible refine X6 ?_; first | refine aq2 rfl rfl rfl Yc6 (b1 _) ?_ | refine aq2 rfl rfl rfl ent_62 (b2 _) ?_)
     all_goals first | (exfalso; omega) | exact ⟨.inr rfl, endD (r := .v (.bool B)) hl0 rfl (by simp) (by simp) rfl (by rw [low]; trivial) ⟨rfl, rfl⟩⟩
 have h6 : l.kind = 6 := by omega
 have hpe := (el67 (k := 6) (lo := l.lo) (hi := l.hi) (ns := l.names) (ps := l.parts) (rs := l.rules) (v := v) (.inl rfl)).1 (by rw [← h6]; cases l; exact he)
 have hcl : v.parts.length = l.parts.length := hpe.1.1
 have hel := (Ue l.parts v.parts hpe.1.1).1 hpe.1.2
 have hp8 := Zw4 hwf
 simp only [h6, if_true, Z3, if_false]
 obtain ⟨B, hB⟩ : ∃ B, irrs l.parts v.parts = B := ⟨_, rfl⟩
 rw [hB]
 refine Y6 Tryz.func62 rfl (Z0 rfl) hG fun hl0 _ => ?_
 simp only [Tryz.ntmps62]
 have F : _ ∧ _ ∧ _ := ⟨Y4 l, Y5 v, h6⟩
 repeat' first
  | refine g0 ?_
  | fail
 all_goals first | (exfalso; omega) | skip
 refine Yh (fun m e h' => ∃ (k : Nat) (f : Int), k ≤ l.parts.length ∧ m = l.parts.length - k ∧ h' = [.cells (latX l), .cells (vaX v)] ∧ (f = -1 ∧ irrs (l.parts.drop k) (v.parts.drop k) = B ∨ ∃ (j : Nat) (p : Lat) (x : Val), f = j ∧ l.parts[j]? = some p ∧ v.parts[j]? = some x ∧ (irrV p x && botsB (l.parts.drop k) (v.parts.drop k)) = B) ∧ e 2 = .ptr 0 0 ∧ e 3 = .ptr 1 0 ∧ e 5 = .v (.int .i64 f) ∧ e 36 = .v (.int .i64 l.parts.length) ∧ e 37 = .v (.int .i64 k)) l.parts.length ⟨0, -1, Zh _, rfl, by rw [Y4 l, Y5 v, h6], .inl ⟨rfl, hB⟩, rfl, rfl, rfl, rfl, rfl⟩ ?_
 rintro m e h' ⟨k, f, hk, rfl, rfl, hf, e2, e3, e5, e36, e37⟩
 by_cases hlt : k < l.parts.length
 rotate_left
 · obtain rfl : k = l.parts.length := by omega
   rw [List.drop_length, List.drop_of_length_le (by omega)] at hf
   rcases hf with ⟨rfl, hf⟩ | ⟨j, p, x, rfl, hp, hx', hf⟩
   · rw [irrs] at hf
     have F : _ ∧ _ ∧ _ ∧ _ ∧ _ ∧ _ ∧ _ ∧ _ := ⟨Y4 l, Y5 v, h6, e2, e3, e5, e36, e37⟩
     repeat' first
      | (with_reducible refine Yc ?_; refine Y8 mixd (by kernel_rfl) ?_)
      | refine gg ?_
      | refine Two.mk (fun hq => ?_) fun hq => ?_
      | refine Evry.mk fun x hx => ?_
      | (exfalso; omega)
     all_goals first | (exfalso; omega) | exact ⟨.inr rfl, endD (r := .v (.bool false)) hl0 rfl (by simp) (by simp) rfl (by rw [low]; trivial) ⟨rfl, by rw [← hf]⟩⟩
   · rw [botsB, Bool.and_true] at hf
     obtain ⟨q1, z1⟩ := Zg.1 hp
     obtain ⟨q2, z2⟩ := Zg.1 hx'
     have hee := hel j q1 q2
     rw [z1, z2] at hee
     have hr := hpp p (List.mem_of_getElem? hp) x (List.mem_of_getElem? hx') hee
     rw [hf] at hr
     clear z1 z2
     simp only [Y4 p, Y5 x] at hr
     have F : _ ∧ _ ∧ _ ∧ _ ∧ _ ∧ _ ∧ _ ∧ _ ∧ _ ∧ _ := ⟨Y4 l, Y4 p, Y5 v, Y5 x, h6, e2, e3, e5, e36, e37⟩
     repeat' first
      | (with_reducible refine Yc ?_; refine Y8 mixd (by kernel_rfl) ?_)
      | refine gg ?_
      | refine Two.mk (fun hq => ?_) fun hq => ?_
      | refine Evry.mk fun x hx => ?_
      | (with_reducible refine X6 ?_; refine aq2 rfl rfl rfl ent_62 (hr _) ?_)
      | (exfalso; omega)
     all_goals first | (exfalso; omega) | exact ⟨.inr rfl, endD (r := .v (.bool B)) hl0 rfl (by simp) (by simp) rfl (by rw [low]; trivial) ⟨rfl, rfl⟩⟩
 have hlp : k < v.parts.length := by omega
 have hs : l.parts[k]? = some l.parts[k] := Z1 hlt
 have hxk : v.parts[k]? = some v.parts[k] := Z1 hlp
 have hd1 : l.parts.drop k = l.parts[k] :: l.parts.drop (k + 1) := Z4 hlt
 have hd2 : v.parts.drop k = v.parts[k] :: v.parts.drop (k + 1) := Z4 hlp
 have hb := hib _ (Z6 hlt) _ (Z6 hlp)
 have wk : IntKind.i64.wrap ((k : Int) + 1) = (k : Int) + 1 := IntWalk.i64_in _ (by omega)
 rw [hd1, hd2, irrs, botsB] at hf
 generalize l.parts[k] = p at *
 generalize v.parts[k] = x at *
 simp only [Y4 p, Y5 x] at hb
 by_cases hz : valC x (botV p) = 0
 · rw [decide_eq_true hz] at hb
   simp only [hz, if_true, decide_true, Zi] at hf
   have F : _ ∧ _ ∧ _ ∧ _ ∧ _ ∧ _ ∧ _ ∧ _ ∧ _ ∧ _ ∧ _ := ⟨Y4 l, Y4 p, Y5 v, Y5 x, h6, e2, e3, e5, e36, e37, wk⟩
   repeat' first
    | (with_reducible refine Yc ?_; refine Y8 mixd (by kernel_rfl) ?_)
    | refine gg ?_
    | refine Two.mk (fun hq => ?_) fun hq => ?_
    | refine Evry.mk fun x hx => ?_
    | (with_reducible refine X6 ?_; refine aq2 rfl rfl rfl Yc6 (hb _) ?_)
    | (exfalso; omega)
   all_goals first | (exfalso; omega) | exact ⟨rfl, l.parts.length - (k + 1), by omega, k + 1, f, hlt, rfl, by rw [Y4 l, Y5 v, h6], hf, e2, e3, e5, e36, rfl⟩
 rw [decide_eq_false hz] at hb
 simp only [hz, if_false, decide_false, Zf, Bool.and_false] at hf
 rcases hf with ⟨rfl, hf⟩ | ⟨j, p', x', rfl, hp, hx', hf⟩
 · skip
   have F : _ ∧ _ ∧ _ ∧ _ ∧ _ ∧ _ ∧ _ ∧ _ ∧ _ ∧ _ ∧ _ := ⟨Y4 l, Y4 p, Y5 v, Y5 x, h6, e2, e3, e5, e36, e37, wk⟩
   repeat' first
    | (with_reducible refine Yc ?_; refine Y8 mixd (by kernel_rfl) ?_)
    | refine gg ?_
    | refine Two.mk (fun hq => ?_) fun hq => ?_
    | (with_reducible refine X6 ?_; refine aq2 rfl rfl rfl Yc6 (hb _) ?_)
    | (exfalso; omega)
   all_goals first | (exfalso; omega) | exact ⟨rfl, l.parts.length - (k + 1), by omega, k + 1, (k : Int), hlt, rfl, by rw [Y4 l, Y5 v, h6], .inr ⟨k, p, x, rfl, hs, hxk, hf⟩, e2, e3, rfl, e36, rfl⟩
 · have hj0 : (0 : Int) ≤ (j : Int) := by omega
   have F : _ ∧ _ ∧ _ ∧ _ ∧ _ ∧ _ ∧ _ ∧ _ ∧ _ ∧ _ ∧ _ ∧ _ := ⟨Y4 l, Y4 p, Y5 v, Y5 x, h6, hj0, e2, e3, e5, e36, e37, wk⟩
   repeat' first
    | (with_reducible refine Yc ?_; refine Y8 mixd (by kernel_rfl) ?_)
    | refine gg ?_
    | refine Two.mk (fun hq => ?_) fun hq => ?_
    | (with_reducible refine X6 ?_; refine aq2 rfl rfl rfl Yc6 (hb _) ?_)
    | (exfalso; omega)
   all_goals first | (exfalso; omega) | exact ⟨.inr rfl, endD (r := .v (.bool false)) hl0 rfl (by simp) (by simp) rfl (by rw [low]; trivial) ⟨rfl, by rw [← hf]⟩⟩
end
section
variable (G : Nat → D) (hG : ∀ g, low 0 (G g))
include hG
attribute [local go_sem] Z3 Zd Ze Z9 Za Z5 Z7 Zb
theorem iirr_d (l : Lat) (hsm : Sm l) (v : Val) (hv : VSm v) (hx : errF l [v] = 0 → W3 l = true ∨ SingleOk G) (h : List Ob) : Does Z2 G 28 h [.agg (latX l), .agg (vaX v)] (fun h' r => h' = h ∧ r = .tup [.v (.bool (decide (errF l [v] = 0) && irrV l v)), .v (.int .i64 (errF l [v]))]) := by
 refine Y9 G hG (by simp only [lowL, low]; exact ⟨Yp _ l, Yb _ v, trivial⟩) (by simp only [low, lowL]; exact ⟨trivial, trivial, trivial⟩) ?_ h
 clear h
 have hck : ∀ (h : List Ob) (i : Nat), h[i]? = some (.buf 30 4 [vaX v]) → Does Z2 G 40 h [.agg (latX l), .buf i 1] (fun h' r => h' = h ∧ r = .v (.int .i64 (errF l [v]))) := fun h i hi => Does.borrow2 hG hi rfl (by rw [low]; exact Yp _ l) (Wz [v]) (Yo5 G hG l hsm [v] (fun x hx => by rw [List.mem_singleton.1 hx]; exact hv) (by simp) [])
 simp only [Y4 l, Y5 v] at hck
 by_cases h0 : errF l [v] = 0
 rotate_left
 · rw [decide_eq_false h0, Zf]
   generalize errF l [v] = E at *
   refine Y6 Tryz.func28 rfl (Z0 rfl) hG fun hl0 _ => ?_
   simp only [Tryz.ntmps28]
   repeat' first
    | (with_reducible first | refine sA rfl ?_ | refine sI rfl rfl ?_ | refine sT rfl ?_)
    | (with_reducible refine Y7 ?_; first | refine Yn ?_ | (refine ao1 rfl rfl fun K HK => ?_; simp only [go_sem, Y4 l, Y5 v, h0, not_false_eq_true, ne_eq] <;> (refine HK _ _ ?_; clear HK K)) | (refine ao2 rfl rfl rfl Yc7 (hck _ _ rfl) ?_; rintro _ _ ⟨rfl, rfl⟩))
   all_goals first | (exfalso; omega) | exact ⟨.inr rfl, endD (r := .tup [.v (.bool false), .v (.int .i64 E)]) hl0 rfl (by simp) (by simp) rfl (by simp only [low, lowL]; trivial) ⟨rfl, rfl⟩⟩
 obtain ⟨hc, hev⟩ := Zt0.1 h0
 have hi := irr_d G hG _ l v (Nat.le_refl _) hsm hc hv (hev v (by simp)) (hx h0)
 rw [decide_eq_true h0, Zi, h0]
 rw [h0] at hck
 generalize irrV l v = B at *
 simp only [Y4 l, Y5 v] at hi
 refine Y6 Tryz.func28 rfl (Z0 rfl) hG fun hl0 _ => ?_
 simp only [Tryz.ntmps28]
 have F : _ ∧ _ := ⟨Y4 l, Y5 v⟩
 repeat' first
  | refine g0 ?_
  | (with_reducible refine Y7 ?_; first | refine gc rfl rfl rfl Yc7 (hck _ _ rfl) ?_ | refine gc rfl rfl rfl ent_62 (hi _) ?_)
 all_goals first | (exfalso; omega) | exact ⟨.inr rfl, endD (r := .tup [.v (.bool B), .v (.int .i64 0)]) hl0 rfl (by simp) (by simp) rfl (by simp only [low, lowL]; trivial) ⟨rfl, rfl⟩⟩
end
section
theorem getT_ext : ∀ {a b : List Tk} {lo : Int}, Yx lo a = true → Yx lo b = true → (∀ p, getT a p = getT b p) → a = b
 | [], [], _, _, _, _ => rfl
 | x :: a, [], lo, ha, _, h => by
  rw [Xb] at ha
  have := h x.process
  rw [Xh, if_pos rfl] at this
  have e : getT [] x.process = 0 := rfl
  omega
 | [], y :: b, lo, _, hb, h => by
  rw [Xb] at hb
  have := h y.process
  rw [Xh, if_pos rfl] at this
  have e : getT [] y.process = 0 := rfl
  omega
 | x :: a, y :: b, lo, ha, hb, h => by
  rw [Xb] at ha hb
  have h1 := h x.process
  have h2 := h y.process
  rw [Xh, if_pos rfl, Xh] at h1
  rw [Xh, Xh, if_pos rfl] at h2
  have hpq : x.process = y.process := by
   rcases Int.lt_trichotomy x.process y.process with q | q | q
   · rw [if_neg (by omega), Vq hb.2 (by omega)] at h1; omega
   · exact q
   · rw [if_neg (by omega), Vq ha.2 (by omega)] at h2; omega
  rw [if_pos hpq.symm] at h1
  have e1 : x = y := by
   obtain ⟨xp, xn⟩ := x
   obtain ⟨yp, yn⟩ := y
   simp only at hpq h1
   subst hpq; subst h1; rfl
  subst e1
  congr 1
  refine getT_ext ha.2 hb.2 fun p => ?_
  have := h p
  rw [Xh, Xh] at this
  by_cases hp : x.process = p
  · rw [Vq ha.2 (by omega), Vq hb.2 (by omega)]
  · rwa [if_neg hp, if_neg hp] at this
theorem clockC_zero {a b : List Tk} (ha : X2 a = true) (hb : X2 b = true) : Xx a b = 0 ↔ a = b := by
 have h1 : leqT a b = true ↔ (Vw a b).length = 0 := by rw [Zp9 ha hb, List.length_eq_zero_iff]
 have h2 : leqT b a = true ↔ (Vw b a).length = 0 := by rw [Zp9 hb ha, List.length_eq_zero_iff]
 have key : Xx a b = 0 ↔ (Vw a b).length = 0 ∧ (Vw b a).length = 0 := by
  unfold Xx
  rw [ha, hb, if_neg (by simp)]
  by_cases q : (Vw a b).length = 0 ∧ (Vw b a).length = 0
  · rw [if_pos q]; exact ⟨fun _ => q, fun _ => rfl⟩
  · rw [if_neg q]
    refine ⟨fun h => ?_, fun h => absurd h q⟩
    split at h
    · omega
    · split at h <;> omega
 rw [key, ← h1, ← h2]
 constructor
 · rintro ⟨q1, q2⟩
   rw [Yn5] at q1 q2
   refine getT_ext (lo := -1) ha hb fun p => ?_
   by_cases hp : p ≤ -1
   · rw [Vq (show Yx (-1) a = true from ha) hp, Vq (show Yx (-1) b = true from hb) hp]
   · by_cases hq : 63 < p
     · rw [Zw7 (show Yx (-1) a = true from ha) hq, Zw7 (show Yx (-1) b = true from hb) hq]
     · have r1 := q1 p.toNat (by omega)
       have r2 := q2 p.toNat (by omega)
       unfold Zj8 at r1 r2
       rw [if_pos ha, if_pos hb, show ((p.toNat : Nat) : Int) = p by omega] at r1
       rw [if_pos ha, if_pos hb, show ((p.toNat : Nat) : Int) = p by omega] at r2
       omega
 · rintro rfl
   have : leqT a a = true := Yn5.2 fun p _ => Int.le_refl _
   exact ⟨this, this⟩
def ESm (e : En) : Prop := e.clock.length ≤ 9223372036854775807
def TellsE (G : Nat → D) (g : FuncId) (caps : List D) (p : En → Bool) (l : List En) (h : List Ob) : Prop := ∀ c ∈ l, Does Z2 G g h (.agg (enX c) :: caps) (fun h' r => h' = h ∧ r = .v (.bool (p c)))
variable (G : Nat → D) (hG : ∀ g, low 0 (G g))
attribute [local go_sem] Z3 Zd Ze Z8 Zc Z9 Za Z5 Z7 Zb
theorem indexE_s (l : List En) (p : En → Bool) (g : FuncId) (caps : List D) (he : entB Z2 g = true) (hsz : l.length ≤ 9223372036854775807) (h : List Ob) (ht : TellsE G g caps p l h) :
 Does Z2 G 227 h [.sl 2 (l.map enX), .fn g caps] (fun h' r => h' = h ∧ ∃ z, r = .v (.int .i64 z) ∧ decide (0 ≤ z) = l.any p) := by
 refine Vo Tryz.func227 rfl (Z0 rfl) ?_
 simp only [Tryz.ntmps227]
 repeat' first
  | refine g0 ?_
  | fail
 refine Yh (fun m e h' => ∃ k : Nat, k ≤ l.length ∧ m = l.length - k ∧ l.any p = (l.drop k).any p ∧ h' = h ∧ e 0 = .sl 2 (l.map enX) ∧ e 1 = .fn g caps ∧ e 7 = .v (.int .i64 l.length) ∧ e 8 = .v (.int .i64 k)) l.length ⟨0, Zh _, rfl, rfl, rfl, rfl, rfl, rfl, rfl⟩ ?_
 rintro m e h' ⟨k, hk, rfl, ha, rfl, e0, e1, e7, e8⟩
 by_cases hlt : k < l.length
 · have hx : l[k]? = some l[k] := Z1 hlt
   have hd : l.drop k = l[k] :: l.drop (k + 1) := Z4 hlt
   have hc := ht _ (Z6 hlt)
   generalize l[k] = x at hx hd hc
   rw [hd, List.any_cons] at ha
   have wk : IntKind.i64.wrap ((k : Int) + 1) = (k : Int) + 1 := IntWalk.i64_in _ (by omega)
   simp only [X1 x] at hc
   cases hpx : p x
   · rw [hpx] at hc ha
     have F : _ ∧ _ ∧ _ ∧ _ ∧ _ ∧ _ := ⟨e0, e1, e7, e8, X1 x, wk⟩
     repeat' first
      | (with_reducible refine Y7 ?_; (refine Za0 rfl rfl rfl he hc ?_; rintro _ _ ⟨rfl, rfl⟩))
      | refine gg ?_
      | refine Two.mk (fun hq => ?_) fun hq => ?_
      | (exfalso; omega)
     exact ⟨rfl, l.length - (k + 1), by omega, k + 1, by omega, rfl, ha, rfl, e0, e1, e7, rfl⟩
   · rw [hpx] at hc ha
     have F : _ ∧ _ ∧ _ ∧ _ ∧ _ ∧ _ := ⟨e0, e1, e7, e8, X1 x, wk⟩
     repeat' first
      | (with_reducible refine Y7 ?_; (refine Za0 rfl rfl rfl he hc ?_; rintro _ _ ⟨rfl, rfl⟩))
      | refine gg ?_
      | refine Two.mk (fun hq => ?_) fun hq => ?_
      | (exfalso; omega)
     exact ⟨.inr rfl, [.v (.int .i64 k)], rfl, rfl, _, rfl, by rw [ha, decide_eq_true (by omega)]; rfl⟩
 · skip
   have F : _ ∧ _ ∧ _ ∧ _ := ⟨e0, e1, e7, e8⟩
   repeat' first
    | refine gg ?_
    | refine Two.mk (fun hq => ?_) fun hq => ?_
    | refine Evry.mk fun x hx => ?_
    | (exfalso; omega)
   exact ⟨.inr rfl, [.v (.int .i64 (-1))], rfl, rfl, _, rfl, by rw [ha, List.drop_eq_nil_of_le (by omega)]; rfl⟩
theorem Yd7 (l : List En) (p : En → Bool) (g : FuncId) (caps : List D) (he : entB Z2 g = true) (hsz : l.length ≤ 9223372036854775807) (h : List Ob) (ht : TellsE G g caps p l h) :
 Does Z2 G 184 h [.sl 2 (l.map enX), .fn g caps] (fun h' r => h' = h ∧ r = .v (.bool (l.any p))) := by
 have hi := indexE_s G l p g caps he hsz h ht
 refine Vo Tryz.func184 rfl (Z0 rfl) ?_
 simp only [Tryz.ntmps184]
 repeat' first
  | refine gg ?_
  | refine Two.mk (fun hq => ?_) fun hq => ?_
  | (with_reducible refine Y7 ?_; (refine ao2 rfl rfl rfl ent_227 (hi) ?_; rintro _ _ ⟨rfl, z, rfl, hz⟩))
 all_goals exact ⟨.inr rfl, [.v (.bool (l.any p))], (by simp only [resD, Tryz.results184, go_sem, ↓reduceIte, Z5, hq]; rw [← hz]; first | rfl | simp [hq]), rfl, rfl⟩
include hG
theorem under_d (p q : En) (sp : ESm p) (sq : ESm q) (hp : X2 p.clock = true) (hq : X2 q.clock = true) (h : List Ob) : Does Z2 G 186 h [.agg (enX p), .agg (enX q)] (fun h' r => h' = h ∧ r = .v (.bool (undE p q))) := by
 refine Y9 G hG (by rw [lowL, lowL, lowL, low, low]; exact ⟨Zu5 0 p, Zu5 0 q, trivial⟩) (by rw [low]; trivial) ?_ h
 clear h
 have hc := Zj5 G hG p.clock q.clock sp sq
 obtain ⟨hb1, hb2⟩ := Um hp hq
 have hz := clockC_zero hp hq
 have hn : undE p q = if Xx p.clock q.clock = 1 then true else if Xx p.clock q.clock = 0 then decide (p.name = q.name) else false := by
  unfold undE belE
  rw [← hb1]
  by_cases h1 : Xx p.clock q.clock = 1
  · rw [if_pos h1, h1]; simp
  · rw [if_neg h1, show (Xx p.clock q.clock == 1) = false by rw [beq_eq_false_iff_ne]; exact h1, Bool.or_false]
    by_cases h0 : Xx p.clock q.clock = 0
    · rw [if_pos h0, decide_eq_decide, Vn]
      have e := hz.1 h0
      exact ⟨fun h => by rw [h], fun h => by obtain ⟨pc, pn⟩ := p; obtain ⟨qc, qn⟩ := q; simp only at e h; rw [e, h]⟩
    · rw [if_neg h0, decide_eq_false]
      rw [Vn]
      exact fun h => h0 (hz.2 (by rw [h]))
 have hr : Xx p.clock q.clock = 0 ∨ Xx p.clock q.clock = 1 ∨ Xx p.clock q.clock = 2 ∨ Xx p.clock q.clock = 3 := by
  unfold Xx
  split
  · exact .inr (.inr (.inr rfl))
  split
  · exact .inl rfl
  split
  · exact .inr (.inl rfl)
  split
  · exact .inr (.inr (.inl rfl))
  · exact .inr (.inr (.inr rfl))
 rw [hn]
 clear hn hz hb1 hb2
 refine Y6 Tryz.func186 rfl (Z0 rfl) hG fun hl0 _ => ?_
 simp only [Tryz.ntmps186]
 rcases hr with e | e | e | e
 all_goals
  rw [e] at hc ⊢
  have F : _ ∧ _ := ⟨X1 p, X1 q⟩
  repeat' first
   | refine gg ?_
   | refine Two.mk (fun hq => ?_) fun hq => ?_
   | (with_reducible refine Y7 ?_; refine gc rfl rfl rfl Yp3 (hc _) ?_)
  all_goals first | (exfalso; omega) | exact ⟨.inr rfl, endD (r := .v (.bool _)) hl0 rfl (by simp) (by simp) rfl (by rw [low]; trivial) ⟨rfl, by first | rfl | (simp; done) | (simp [hq]; done)⟩⟩
theorem cov1_d (p q : En) (sp : ESm p) (sq : ESm q) (hp : X2 p.clock = true) (hq : X2 q.clock = true) : Does Z2 G 185 [.cells (enX p)] [.agg (enX q), .ptr 0 0] (fun h' r => h' = [.cells (enX p)] ∧ r = .v (.bool (undE p q))) := by
 have hu := under_d G hG p q sp sq hp hq
 simp only [X1 p, X1 q] at hu
 refine Y6 Tryz.func185 rfl (Z0 rfl) hG fun hl0 _ => ?_
 simp only [Tryz.ntmps185]
 have F : _ ∧ _ := ⟨X1 p, X1 q⟩
 repeat' first
  | refine g0 ?_
  | (with_reducible refine Y7 ?_; refine gc rfl rfl rfl ent_186 (hu _) ?_)
 all_goals first | (exfalso; omega) | exact ⟨.inr rfl, endD (r := .v (.bool _)) hl0 rfl (by simp [X1]) (by simp) rfl (by rw [low]; trivial) ⟨rfl, rfl⟩⟩
theorem covered_d (p : En) (l : List En) (sp : ESm p) (sl : ∀ q ∈ l, ESm q) (hl : l.length ≤ 9223372036854775807) (hp : X2 p.clock = true) (hq : ∀ q ∈ l, X2 q.clock = true) (h : List Ob) : Does Z2 G 125 h [.agg (enX p), .sl 2 (l.map enX)] (fun h' r => h' = h ∧ r = .v (.bool (l.any fun q => undE p q))) := by
 refine Y9 G hG (by rw [lowL, lowL, lowL, low]; exact ⟨Zu5 0 p, Zm4 (m := 0) l, trivial⟩) (by rw [low]; trivial) ?_ h
 clear h
 have hc := Yd7 G l (fun q => undE p q) 185 [.ptr 0 0] ent_185 hl [.cells (enX p)] (fun q hm => cov1_d G hG p q sp (sl q hm) hp (hq q hm))
 simp only [X1 p] at hc
 refine Y6 Tryz.func125 rfl (Z0 rfl) hG fun hl0 _ => ?_
 simp only [Tryz.ntmps125]
 have F := X1 p
 repeat' first
  | (with_reducible refine Y7 ?_; (refine ao_mkf rfl rfl ?_))
  | refine g0 ?_
  | (with_reducible refine Y7 ?_; refine gc rfl rfl rfl ent_184 (hc) ?_)
 all_goals first | (exfalso; omega) | exact ⟨.inr rfl, endD (r := .v (.bool _)) hl0 rfl (by simp) (by simp) rfl (by rw [low]; trivial) ⟨rfl, rfl⟩⟩
end
end Go.Proofs.YtbhkcbidcfofiaaGreat
