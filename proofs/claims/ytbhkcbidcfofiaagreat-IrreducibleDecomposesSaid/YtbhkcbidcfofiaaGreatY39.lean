/-
  What the statements of the chapter share, part 39: CLD, QA12, QL1, QD11, QD10, QE1, QE2, QE3, QE4, QE5, QE6, QE7, QLD.
-/
import Derived.Test.YtbhkcbidcfofiaaGreatY14
import Derived.Test.YtbhkcbidcfofiaaGreatY17
import Derived.Test.YtbhkcbidcfofiaaGreatY23
import Derived.Test.YtbhkcbidcfofiaaGreatY25
import Derived.Test.YtbhkcbidcfofiaaGreatY27
import Derived.Test.YtbhkcbidcfofiaaGreatY31
import Derived.Test.YtbhkcbidcfofiaaGreatY32
import Derived.Test.YtbhkcbidcfofiaaGreatY33
import Derived.Test.YtbhkcbidcfofiaaGreatY36
import Derived.Test.YtbhkcbidcfofiaaGreatY37
import Derived.Test.YtbhkcbidcfofiaaGreatY38
import Derived.Below
import Derived.ChangeOld
import Derived.OpenShut
import Derived.ProofKit
import Derived.ShutString
import Derived.WalkKit
set_option linter.unusedVariables false
set_option linter.unusedSimpArgs false
set_option maxRecDepth 100000
set_option maxHeartbeats 8000000
namespace Go.Proofs.YtbhkcbidcfofiaaGreat
open _root_.And renaming intro → Y2
open _root_.Bool renaming not_false → Zi, not_true → Zl, false_eq_true → Zo
open _root_.Int renaming toNat_natCast → Z7, reduceEq → Zf, reduceLE → Zj, reduceLT → Zk
open _root_.List renaming length_map → Z0, getElem?_eq_getElem → Z2, length_append → Z3, length_cons → Z4, cons_append → Z8, length_nil → Z9, map_append → Za, nil_append → Zb, append_assoc → Zg, take_add_one → Zm, take_length → Zn, reverse_cons → Zq, reverse_nil → Zs, getElem_mem → Zt, length_take → Zu, range → Zv, mem_of_getElem? → Zw, map_nil → Y0, mem_singleton → Y3, append_nil → Ys6
open _root_.Nat renaming le_of_ble_eq_true → Z1, reduceEqDiff → Z5, reduceLeDiff → Z6, reduceAdd → Zc, reduceBEq → Zd, reduceMul → Ze, zero_le → Zp, le_refl → Zr, min_eq_left → Zy, le_trans → Y1
open _root_.Option renaming bind_some → Zx, map_some → Zz
open _root_.Go.Proofs.Tryz renaming prog → Zh
open Go.RowKit
section
namespace Go.Proofs.YtbhkcbidcfofiaaGreat.irreducibleDecomposes
open Go.ChangeShapes Go.WideShapes Go.ChangeAt Go.RowKit
set_option linter.unusedVariables false
theorem closed : joinedFacts Tryz.pinned.checked.prog 3 Tryz.f3 Rows.irreducibleDecomposesSpec Rows.irreducibleDecomposesRow = true := by kernel_rfl
end Go.Proofs.YtbhkcbidcfofiaaGreat.irreducibleDecomposes
end
section
attribute [local irreducible] on aOp
attribute [local go_sem] decide_true decide_false Zl Zi
attribute [local simp] byD_len
def cksN (l : List En) : Nat := l.length + (l.map fun e => e.clock.length).sum
theorem cksN_take {l : List En} {k : Nat} {x : En} (hx : l[k]? = some x) : cksN (l.take (k + 1)) = cksN (l.take k) + (1 + x.clock.length) := by
 unfold cksN
 rw [Zm, hx]
 simp only [Option.toList_some, Z3, Za, List.sum_append, Z4, Z9, List.map_cons, Y0, List.sum_cons, List.sum_nil]
 omega
theorem cksN_le (l : List En) (k : Nat) : cksN (l.take k) ≤ cksN l := by
 have : cksN l = cksN (l.take k) + cksN (l.drop k) := by
  unfold cksN
  conv => lhs; rw [← List.take_append_drop k l]
  simp only [Z3, Za, List.sum_append]
  omega
 omega
theorem Zm5 : ∀ a b : List Val, Ys (a ++ b) = Ys a + Ys b
 | [], b => by rw [Zb, Ys]; omega
 | x :: a, b => by rw [Z8, Ys, Ys, Zm5 a b]; omega
theorem nodesNs_take {l : List Val} {k : Nat} {x : Val} (hx : l[k]? = some x) : Ys (l.take (k + 1)) = Ys (l.take k) + W6 x := by
 rw [Zm, hx, Zm5]
 simp [Ys]
theorem nodesNs_le (l : List Val) (k : Nat) : Ys (l.take k) ≤ Ys l := by
 have : Ys l = Ys (l.take k) + Ys (l.drop k) := by
  conv => lhs; rw [← List.take_append_drop k l]
  exact Zm5 _ _
 omega
variable (G : Nat → D) (hG : ∀ g, low 0 (G g))
include hG
attribute [local go_sem] Zf Zj Zk Z7 Z0 Zc Zd Z5 Z6 Ze
attribute [local go_sem ↓] reduceIte
theorem room_d (f : Nat) : ∀ (v : Val) (m : Int), SizeOf.sizeOf v ≤ f → VSm v → 0 ≤ m → m ≤ 1000000 → ∀ h : List Ob, Does Zh G 76 h [.agg (vaX v), .v (.int .i64 m)] (fun h' r => h' = h ∧ r = .v (.int .i64 (Ze8 v m))) := by
 induction f with
 | zero => intro v m hn; cases v; simp at hn
 | succ f ih =>
 intro v m hn hv hm0 hm1 h
 refine Y9 G hG (by simp only [lowL, low]; exact ⟨Yd _ v, trivial, trivial⟩) (by rw [low]; trivial) ?_ h
 clear h
 have hT := V1 v
 have hvn := hv.names
 have hve := hv.entries
 have hvp := hv.parts
 have hsz : ∀ x ∈ v.parts, SizeOf.sizeOf x ≤ f := fun x hx => by
  obtain ⟨n, ns, ps, es⟩ := v
  have := List.sizeOf_lt_of_mem (show x ∈ ps from hx)
  simp at hn
  omega
 have hro : ∀ x ∈ v.parts, ∀ c : Int, 0 ≤ c → c ≤ 1000000 → ∀ h, Does Zh G 76 h [.agg (vaX x), .v (.int .i64 c)] (fun h' r => h' = h ∧ r = .v (.int .i64 (Ze8 x c))) := fun x hx c c0 c1 => ih x c (hsz x hx) (hv.part x hx) c0 c1
 have hck : v.entries.length + (v.entries.map fun e => e.clock.length).sum = cksN v.entries := rfl
 refine Y6 Tryz.func76 rfl (Z1 rfl) hG fun hl0 _ => ?_
 simp only [Tryz.ntmps76]
 by_cases hbad : m < 1 ∨ m - 1 < v.names.length
 · have hr : Ze8 v m = -1 := by unfold Ze8; rw [if_neg (by omega)]
   rw [hr]
   have w1 : IntKind.i64.wrap (m - 1) = m - 1 := IntWalk.i64_in _ (by omega)
   have F : _ ∧ _ := ⟨Y5 v, w1⟩
   repeat' first
    | (with_reducible refine Ya ?_; first | refine Yv ?_ | refine Ye ?_ | refine X0 ?_ | refine Wp rfl ?_ | refine Wu rfl ?_ | refine Xw ?_ | refine Xx ?_)
    | (with_reducible refine Wx ?_; first | refine Yw ?_ | refine Vn ?_)
    | refine gg ?_
    | refine Two.mk (fun hq => ?_) fun hq => ?_
    | (exfalso; omega)
   all_goals first | (exfalso; omega) | exact ⟨.inr rfl, endD (r := .v (.int .i64 (-1))) hl0 rfl (by simp) (by simp) rfl (by rw [low]; trivial) ⟨rfl, rfl⟩⟩
 have w1 : IntKind.i64.wrap (m - 1) = m - 1 := IntWalk.i64_in _ (by omega)
 have w2 : IntKind.i64.wrap (1 + (v.names.length : Int)) = 1 + v.names.length := IntWalk.i64_in _ (by omega)
 have w3 : IntKind.i64.wrap (m - (1 + (v.names.length : Int))) = m - (1 + v.names.length) := IntWalk.i64_in _ (by omega)
 have F : _ ∧ _ ∧ _ ∧ _ := ⟨Y5 v, w1, w2, w3⟩
 repeat' first
  | (with_reducible refine Ya ?_; first | refine Yv ?_ | refine Ye ?_ | refine X0 ?_ | refine Wp rfl ?_ | refine Wu rfl ?_ | refine Xw ?_ | refine Xx ?_)
  | (with_reducible refine Wx ?_; first | refine Yw ?_ | refine Vn ?_)
  | refine gg ?_
  | refine Two.mk (fun hq => ?_) fun hq => ?_
  | (exfalso; omega)
 all_goals first | (exfalso; omega) | skip
 refine Yf (fun c e h' => ∃ (k : Nat), k ≤ v.entries.length ∧ c = v.entries.length - k ∧ h' = [.cells (vaX v)] ∧ e 2 = .ptr 0 0 ∧ 0 ≤ m - (1 + v.names.length) - cksN (v.entries.take k) ∧ e 1 = .v (.int .i64 (m - (1 + v.names.length) - cksN (v.entries.take k))) ∧ e 5 = .v (.int .i64 k)) v.entries.length ⟨0, Zp _, rfl, by rw [Y5 v], rfl, by simp [cksN]; omega, by simp [cksN, go_sem], rfl⟩ ?_
 rintro c e h' ⟨k, hk, rfl, rfl, e2, hc0, e1, e5⟩
 by_cases hlt : k < v.entries.length
 · have hx : v.entries[k]? = some v.entries[k] := Z2 hlt
   have hxm := Zt hlt
   have wk : IntKind.i64.wrap ((k : Int) + 1) = ((k + 1 : Nat) : Int) := IntWalk.i64_in _ (by omega)
   have hts := cksN_take hx
   have hle := cksN_le v.entries (k + 1)
   have hcl := (hv.ents _ hxm).1
   generalize v.entries[k] = x at hx hts hcl hxm
   generalize hC : m - (1 + (v.names.length : Int)) - cksN (v.entries.take k) = C at *
   have w4 : IntKind.i64.wrap (C - 1) = C - 1 := IntWalk.i64_in _ (by omega)
   by_cases hb2 : C < 1 ∨ C - 1 < x.clock.length
   · have hr : Ze8 v m = -1 := by unfold Ze8; rw [if_neg (by omega)]
     rw [hr]
     have F : _ ∧ _ ∧ _ ∧ _ ∧ _ ∧ _ ∧ _ := ⟨Y5 v, Vc x, e1, e2, e5, w4, wk⟩
     repeat' first
      | (with_reducible refine Ya ?_; first | refine Yv ?_ | refine Ye ?_ | refine X0 ?_ | refine Wp rfl ?_ | refine Wu rfl ?_ | refine Xw ?_ | refine Wi ?_ | refine Xx ?_)
      | (with_reducible refine Wx ?_; first | refine Yw ?_ | refine Wl ?_ | refine Vn ?_)
      | (with_reducible refine Jy ?_; first | refine inB_n ?_ | refine Yh1 ?_ | refine Jm ?_)
      | refine gg ?_
      | refine Two.mk (fun hq => ?_) fun hq => ?_
      | (exfalso; omega)
     all_goals first | (exfalso; omega) | exact ⟨.inr rfl, endD (r := .v (.int .i64 (-1))) hl0 rfl (by simp) (by simp) rfl (by rw [low]; trivial) ⟨rfl, rfl⟩⟩
   · have w5 : IntKind.i64.wrap (1 + (x.clock.length : Int)) = 1 + x.clock.length := IntWalk.i64_in _ (by omega)
     have w6 : IntKind.i64.wrap (C - (1 + (x.clock.length : Int))) = C - (1 + x.clock.length) := IntWalk.i64_in _ (by omega)
     have F : _ ∧ _ ∧ _ ∧ _ ∧ _ ∧ _ ∧ _ ∧ _ ∧ _ := ⟨Y5 v, Vc x, e1, e2, e5, w4, w5, w6, wk⟩
     repeat' first
      | (with_reducible refine Ya ?_; first | refine Yv ?_ | refine Ye ?_ | refine X0 ?_ | refine Wp rfl ?_ | refine Wu rfl ?_ | refine Xw ?_ | refine Wi ?_ | refine Xx ?_)
      | (with_reducible refine Wx ?_; first | refine Yw ?_ | refine Wl ?_ | refine Vn ?_)
      | (with_reducible refine Jy ?_; first | refine inB_n ?_ | refine Yh1 ?_ | refine Jm ?_)
      | refine gg ?_
      | refine Two.mk (fun hq => ?_) fun hq => ?_
      | (exfalso; omega)
     all_goals first | (exfalso; omega) | exact ⟨rfl, v.entries.length - (k + 1), by omega, k + 1, hlt, rfl, (by rw [Y5 v]), e2, by omega, (by show D.v (.int .i64 _) = _; congr 2; omega), rfl⟩
 obtain rfl : k = v.entries.length := by omega
 rw [Zn] at hc0 e1
 generalize hC : m - (1 + (v.names.length : Int)) - cksN v.entries = C at *
 have F : _ ∧ _ ∧ _ ∧ _ := ⟨Y5 v, e1, e2, e5⟩
 repeat' first
  | (with_reducible refine Ya ?_; first | refine Yv ?_ | refine Ye ?_ | refine X0 ?_ | refine Wp rfl ?_ | refine Wu rfl ?_ | refine Xw ?_ | refine Wi ?_ | refine Xx ?_)
  | (with_reducible refine Wx ?_; first | refine Yw ?_ | refine Wl ?_ | refine Vn ?_)
  | (with_reducible refine Jy ?_; first | refine Yh1 ?_ | refine Jm ?_)
  | refine gg ?_
  | refine Two.mk (fun hq => ?_) fun hq => ?_
  | refine Evry.mk fun x hx => ?_
  | (exfalso; omega)
 all_goals first | (exfalso; omega) | skip
 refine Yf (fun c e h' => ∃ (k : Nat), k ≤ v.parts.length ∧ c = v.parts.length - k ∧ h' = [.cells (vaX v)] ∧ e 2 = .ptr 0 0 ∧ 0 ≤ C - Ys (v.parts.take k) ∧ e 1 = .v (.int .i64 (C - Ys (v.parts.take k))) ∧ e 6 = .v (.int .i64 k)) v.parts.length ⟨0, Zp _, rfl, by rw [Y5 v], e2, by simp [Ys]; omega, (by rw [List.take_zero, Ys]; simpa [go_sem] using e1), rfl⟩ ?_
 rintro c e' h' ⟨k, hk', rfl, rfl, e2, hc0, e1, e6⟩
 by_cases hlt : k < v.parts.length
 · have hx : v.parts[k]? = some v.parts[k] := Z2 hlt
   have hxm := Zt hlt
   have wk : IntKind.i64.wrap ((k : Int) + 1) = ((k + 1 : Nat) : Int) := IntWalk.i64_in _ (by omega)
   have hts := nodesNs_take hx
   have hle := nodesNs_le v.parts (k + 1)
   generalize v.parts[k] = x at hx hts hxm
   have hrx := hro x hxm (C - Ys (v.parts.take k)) (by omega) (by omega)
   simp only [Y5 x] at hrx
   by_cases hb2 : C - Ys (v.parts.take k) < W6 x
   · have hr : Ze8 v m = -1 := by unfold Ze8; rw [if_neg (by omega)]
     rw [hr]
     have hr2 : Ze8 x (C - Ys (v.parts.take k)) = -1 := by unfold Ze8; rw [if_neg (by omega)]
     rw [hr2] at hrx
     have F : _ ∧ _ ∧ _ ∧ _ ∧ _ ∧ _ := ⟨Y5 v, Y5 x, e1, e2, e6, wk⟩
     repeat' first
      | (with_reducible refine Ya ?_; first | refine Yv ?_ | refine Ye ?_ | refine X0 ?_ | refine Wp rfl ?_ | refine Wu rfl ?_ | refine Xw ?_ | refine Wi ?_ | refine Xx ?_)
      | (with_reducible refine Wx ?_; first | refine Yw ?_ | refine Wl ?_ | refine Vn ?_)
      | (with_reducible refine Jy ?_; first | refine Yh1 ?_ | refine Jm ?_)
      | refine gg ?_
      | refine Two.mk (fun hq => ?_) fun hq => ?_
      | (with_reducible refine Y7 ?_; refine gc rfl rfl rfl ent_76 (hrx _) ?_)
      | (exfalso; omega)
     all_goals first | (exfalso; omega) | exact ⟨.inr rfl, endD (r := .v (.int .i64 (-1))) hl0 rfl (by simp) (by simp) rfl (by rw [low]; trivial) ⟨rfl, rfl⟩⟩
   · have hr2 : Ze8 x (C - Ys (v.parts.take k)) = C - Ys (v.parts.take (k + 1)) := by unfold Ze8; rw [if_pos (by omega)]; omega
     rw [hr2] at hrx
     have F : _ ∧ _ ∧ _ ∧ _ ∧ _ ∧ _ := ⟨Y5 v, Y5 x, e1, e2, e6, wk⟩
     repeat' first
      | (with_reducible refine Ya ?_; first | refine Yv ?_ | refine Ye ?_ | refine X0 ?_ | refine Wp rfl ?_ | refine Wu rfl ?_ | refine Xw ?_ | refine Wi ?_ | refine Xx ?_)
      | (with_reducible refine Wx ?_; first | refine Yw ?_ | refine Wl ?_ | refine Vn ?_)
      | (with_reducible refine Jy ?_; first | refine inB_n ?_ | refine Yh1 ?_ | refine Jm ?_)
      | refine gg ?_
      | refine Two.mk (fun hq => ?_) fun hq => ?_
      | (with_reducible refine Y7 ?_; refine gc rfl rfl rfl ent_76 (hrx _) ?_)
      | (exfalso; omega)
     all_goals first | (exfalso; omega) | exact ⟨rfl, v.parts.length - (k + 1), by omega, k + 1, hlt, rfl, (by rw [Y5 v]), e2, by omega, rfl, rfl⟩
 obtain rfl : k = v.parts.length := by omega
 rw [Zn] at hc0 e1
 have hr : Ze8 v m = C - Ys v.parts := by unfold Ze8; rw [if_pos (by omega)]; omega
 rw [hr]
 have F : _ ∧ _ ∧ _ ∧ _ := ⟨Y5 v, e1, e2, e6⟩
 repeat' first
  | (with_reducible refine Ya ?_; first | refine Yv ?_ | refine Ye ?_ | refine X0 ?_ | refine Wp rfl ?_ | refine Wu rfl ?_ | refine Xw ?_ | refine Wi ?_ | refine Xx ?_)
  | (with_reducible refine Wx ?_; first | refine Yw ?_ | refine Wl ?_)
  | (with_reducible refine Jy ?_; refine Jm ?_)
  | refine gg ?_
  | refine Two.mk (fun hq => ?_) fun hq => ?_
  | refine Evry.mk fun x hx => ?_
  | (exfalso; omega)
 all_goals first | (exfalso; omega) | exact ⟨.inr rfl, endD (r := .v _) hl0 rfl (by simp) (by simp) rfl (by rw [low]; trivial) ⟨rfl, rfl⟩⟩
theorem rSmall_d (v : Val) (hv : VSm v) (m : Int) (hm0 : 0 ≤ m) (hm1 : m ≤ 1000000) (h : List Ob) : Does Zh G 37 h [.agg (vaX v), .v (.int .i64 m)] (fun h' r => h' = h ∧ r = .v (.bool (decide ((W6 v : Int) ≤ m)))) := by
 refine Y9 G hG (by simp only [lowL, low]; exact ⟨Yd _ v, trivial, trivial⟩) (by rw [low]; trivial) ?_ h
 clear h
 have hro := room_d G hG _ v m (Zr _) hv hm0 hm1
 have hd : decide ((W6 v : Int) ≤ m) = decide (0 ≤ Ze8 v m) := by
  unfold Ze8; split <;> simp <;> omega
 rw [hd]
 simp only [Y5 v] at hro
 generalize Ze8 v m = R at *
 refine Y6 Tryz.func37 rfl (Z1 rfl) hG fun hl0 _ => ?_
 simp only [Tryz.ntmps37]
 have F := Y5 v
 repeat' first
  | (with_reducible refine Ya ?_; first | refine Yv ?_ | refine Ye ?_ | refine Xx ?_)
  | (with_reducible refine Wx ?_; refine Yw ?_)
  | refine gg ?_
  | refine Two.mk (fun hq => ?_) fun hq => ?_
  | (with_reducible refine Y7 ?_; refine gc rfl rfl rfl ent_76 (hro _) ?_)
 all_goals first | (exfalso; omega) | exact ⟨.inr rfl, endD (r := .v (.bool _)) hl0 rfl (by simp) (by simp) rfl (by rw [low]; trivial) ⟨rfl, by first | rfl | simp_all⟩⟩
end
section
attribute [local irreducible] on aOp
attribute [local go_sem] decide_true decide_false Zl Zi
attribute [local simp] byD_len
def Zv2 (L : List Val) : Bool := L.all fun v => decide ((W6 v : Int) ≤ 40)
variable (G : Nat → D) (hG : ∀ g, low 0 (G g))
include hG
attribute [local go_sem] Zo Zf Zj Zk Z7 Z0 Zc Zd Z5 Z6 Ze
attribute [local go_sem ↓] reduceIte
theorem small12_d (L : List Val) (hL : ∀ v ∈ L, VSm v) (hl : L.length ≤ 1000000) (h : List Ob) : Does Zh G 16 h [.sl 4 (L.map vaX)] (fun h' r => h' = h ∧ r = .v (.bool (Zv2 L))) := by
 refine Y9 G hG (by simp only [lowL]; exact ⟨U6 L, trivial⟩) (by rw [low]; trivial) ?_ h
 clear h
 refine Y6 Tryz.func16 rfl (Z1 rfl) hG fun hl0 _ => ?_
 simp only [Tryz.ntmps16]
 repeat' first
  | (with_reducible refine Ya ?_; first | refine Yv ?_ | refine Ye ?_ | refine X0 ?_)
  | (with_reducible refine Wx ?_; refine Yw ?_)
  | refine g0 ?_
  | fail
 refine Yf (fun m e h' => ∃ (k : Nat), k ≤ L.length ∧ m = L.length - k ∧ Zv2 L = Zv2 (L.drop k) ∧ h' = [] ∧ e 0 = .sl 4 (L.map vaX) ∧ e 3 = .v (.int .i64 k)) L.length ⟨0, Zp _, rfl, rfl, rfl, rfl, rfl⟩ ?_
 rintro m e h' ⟨k, hk, rfl, ho, rfl, e0, e3⟩
 by_cases hlt : k < L.length
 · have hx : L[k]? = some L[k] := Z2 hlt
   have hd : L.drop k = L[k] :: L.drop (k + 1) := List.drop_eq_getElem_cons hlt
   have hvx := rSmall_d G hG _ (hL _ (Zt hlt)) 40 (by decide) (by decide)
   generalize L[k] = x at hx hd hvx
   have wk : IntKind.i64.wrap ((k : Int) + 1) = ((k + 1 : Nat) : Int) := IntWalk.i64_in _ (by omega)
   have ho' : Zv2 L = (decide ((W6 x : Int) ≤ 40) && Zv2 (L.drop (k + 1))) := by rw [ho, hd]; rfl
   simp only [Y5 x] at hvx
   cases hb : decide ((W6 x : Int) ≤ 40)
   · rw [hb] at hvx ho'
     rw [ho', Bool.false_and]
     have F : _ ∧ _ ∧ _ ∧ _ := ⟨Y5 x, e0, e3, wk⟩
     repeat' first
      | (with_reducible refine Ya ?_; first | refine Yv ?_ | refine Ye ?_ | refine X0 ?_ | refine Wp rfl ?_ | refine Wu rfl ?_ | refine Xw ?_ | refine Wi ?_ | refine Xx ?_)
      | (with_reducible refine Wx ?_; first | refine Yw ?_ | refine Wl ?_ | refine Vn ?_)
      | (with_reducible refine Jy ?_; first | refine Yh1 ?_ | refine Jm ?_)
      | refine gg ?_
      | refine Two.mk (fun hq => ?_) fun hq => ?_
      | (with_reducible refine Y7 ?_; refine gc rfl rfl rfl ent_37 (hvx _) ?_)
      | (exfalso; omega)
     all_goals first | (exfalso; omega) | exact ⟨.inr rfl, endD (r := .v (.bool false)) hl0 rfl (by simp) (by simp) rfl (by rw [low]; trivial) ⟨rfl, rfl⟩⟩
   · rw [hb] at hvx ho'
     rw [Bool.true_and] at ho'
     have F : _ ∧ _ ∧ _ ∧ _ := ⟨Y5 x, e0, e3, wk⟩
     repeat' first
      | (with_reducible refine Ya ?_; first | refine Yv ?_ | refine Ye ?_ | refine X0 ?_ | refine Wp rfl ?_ | refine Wu rfl ?_ | refine Xw ?_ | refine Wi ?_ | refine Xx ?_)
      | (with_reducible refine Wx ?_; first | refine Yw ?_ | refine Wl ?_)
      | (with_reducible refine Jy ?_; first | refine inB_n ?_ | refine Jm ?_)
      | refine gg ?_
      | refine Two.mk (fun hq => ?_) fun hq => ?_
      | (with_reducible refine Y7 ?_; refine gc rfl rfl rfl ent_37 (hvx _) ?_)
      | (exfalso; omega)
     all_goals first | (exfalso; omega) | exact ⟨rfl, L.length - (k + 1), by omega, k + 1, hlt, rfl, ho', rfl, e0, rfl⟩
 obtain rfl : k = L.length := by omega
 have hd : L.drop L.length = [] := List.drop_length
 rw [ho, hd]
 have F : _ ∧ _ := ⟨e0, e3⟩
 repeat' first
  | (with_reducible refine Ya ?_; first | refine Yv ?_ | refine Ye ?_ | refine X0 ?_ | refine Wp rfl ?_ | refine Wu rfl ?_ | refine Xw ?_ | refine Wi ?_ | refine Xx ?_)
  | (with_reducible refine Wx ?_; first | refine Yw ?_ | refine Wl ?_)
  | (with_reducible refine Jy ?_; refine Jm ?_)
  | refine gg ?_
  | refine Two.mk (fun hq => ?_) fun hq => ?_
  | refine Evry.mk fun x hx => ?_
  | (exfalso; omega)
 all_goals first | (exfalso; omega) | exact ⟨.inr rfl, endD (r := .v (.bool true)) hl0 rfl (by simp) (by simp) rfl (by rw [low]; trivial) ⟨rfl, rfl⟩⟩
end
section
attribute [local irreducible] on aOp
attribute [local go_sem] decide_true decide_false Zl Zi
attribute [local simp] byD_len
variable (G : Nat → D) (hG : ∀ g, low 0 (G g))
include hG
attribute [local go_sem] Zf Zj Zk Z7 Z0 Zc Zd Z5 Z6 Ze
attribute [local go_sem ↓] reduceIte
theorem same12_d (L : List Val) (hL : ∀ v ∈ L, VSm v) (hl : L.length ≤ 1000000) (h : List Ob) : Does Zh G 20 h [.sl 4 (L.map vaX), .sl 4 (L.map vaX)] (fun h' r => h' = h ∧ r = .v (.bool true)) := by
 refine Y9 G hG (by simp only [lowL]; exact ⟨U6 L, U6 L, trivial⟩) (by rw [low]; trivial) ?_ h
 clear h
 have heq : ∀ v ∈ L, ∀ h, Does Zh G 23 h [.agg (vaX v), .agg (vaX v)] (fun h' r => h' = h ∧ r = .v (.bool true)) := fun v hv h => by
  have := Zp0 G hG v v (hL v hv) (hL v hv) h
  rw [Zz6] at this
  exact this
 refine Y6 Tryz.func20 rfl (Z1 rfl) hG fun hl0 _ => ?_
 simp only [Tryz.ntmps20]
 repeat' first
  | refine g0 ?_
  | fail
 all_goals first | (exfalso; omega) | skip
 refine Yf (fun m e h' => ∃ (k : Nat), k ≤ L.length ∧ m = L.length - k ∧ h' = [] ∧ e 0 = .sl 4 (L.map vaX) ∧ e 1 = .sl 4 (L.map vaX) ∧ e 5 = .v (.int .i64 k)) L.length ⟨0, Zp _, rfl, rfl, rfl, rfl, rfl⟩ ?_
 rintro m e h' ⟨k, hk, rfl, rfl, e0, e1, e5⟩
 by_cases hlt : k < L.length
 · have hx : L[k]? = some L[k] := Z2 hlt
   have hr := heq _ (Zt hlt)
   generalize L[k] = x at hx hr
   have wk : IntKind.i64.wrap ((k : Int) + 1) = ((k + 1 : Nat) : Int) := IntWalk.i64_in _ (by omega)
   simp only [Y5 x] at hr
   have F : _ ∧ _ ∧ _ ∧ _ ∧ _ := ⟨Y5 x, e0, e1, e5, wk⟩
   repeat' first
    | (with_reducible refine Ya ?_; refine X7 mixd (by kernel_rfl) ?_)
    | ((with_reducible refine Uf ?_); first | (refine aS1 rfl rfl fun K HK => ?_; simp only [go_sem, F]; (first | refine Yt (fun hq => ?_) (fun hq => ?_) | (refine ⟨by omega, by omega, ?_⟩; refine Xf (by assumption) ?_) | skip) <;> (refine HK _ _ rfl ?_; clear HK K)) | refine Wv (by simp only [Zq, Zs, Zb, Z8, Wc, chk1]; repeat' (first | exact trivial | refine Y2 ?_ ?_ | exact .inr Yq)) ?_ | refine Xd rfl rfl rfl Zh5 (fun h2 => hr _) ?_)
    | refine gg ?_
    | refine Two.mk (fun hq => ?_) fun hq => ?_
    | (exfalso; omega)
   all_goals first | (exfalso; omega) | exact ⟨rfl, L.length - (k + 1), by omega, k + 1, hlt, rfl, rfl, e0, e1, rfl⟩
 obtain rfl : k = L.length := by omega
 have F : _ ∧ _ ∧ _ := ⟨e0, e1, e5⟩
 repeat' first
  | (with_reducible refine Ya ?_; refine Y8 mixd (by kernel_rfl) ?_)
  | refine gg ?_
  | refine Two.mk (fun hq => ?_) fun hq => ?_
  | refine Evry.mk fun x hx => ?_
  | (exfalso; omega)
 all_goals first | (exfalso; omega) | exact ⟨.inr rfl, endD (r := .v (.bool true)) hl0 rfl (by simp) (by simp) rfl (by rw [low]; trivial) ⟨rfl, rfl⟩⟩
end
section
attribute [local irreducible] on aOp
attribute [local go_sem] decide_true decide_false Zl Zi
attribute [local simp] byD_len
variable (G : Nat → D) (hG : ∀ g, low 0 (G g))
include hG
attribute [local go_sem] Zf Zj Zk Zc Zd Z5 Z6 Ze
attribute [local go_sem ↓] reduceIte
theorem rBottom_d (l : Lat) (hsm : Sm l) (hc : chkE l = 0) (h : List Ob) : Does Zh G 109 h [.agg (latX l)] (fun h' r => h' = h ∧ r = .tup [.agg (vaX (botV l)), .v (.int .i64 0)]) := by
 refine Y9 G hG (Xy 0 l) (by rw [low, lowL, lowL, lowL, low, low]; exact ⟨Yd _ _, trivial, trivial⟩) ?_ h
 clear h
 have hck := Yo1 G hG l hsm
 rw [hc] at hck
 have hb := least_d G hG _ l (Zr _) (Wt hc)
 have hlv := Yd 0 (botV l)
 generalize botV l = b at *
 simp only [Y4 l, Y5 b] at hck hb hlv ⊢
 refine Y6 Tryz.func109 rfl (Z1 rfl) hG fun hl0 _ => ?_
 simp only [Tryz.ntmps109]
 have F : _ ∧ _ := ⟨Y4 l, Y5 b⟩
 repeat' first
  | refine g0 ?_
  | (with_reducible refine Y7 ?_; first | refine gc rfl rfl rfl ent_38 (hck _) ?_ | refine gc rfl rfl rfl ent_68 (hb _) ?_)
 all_goals first | (exfalso; omega) | exact ⟨.inr rfl, endD (ds := [.agg [.v (.int .i64 b.n), .sl 1 (b.names.map strX), .sl 4 (b.parts.map vaX), .sl 2 (b.entries.map enX)], .v (.int .i64 0)]) (r := .tup [.agg [.v (.int .i64 b.n), .sl 1 (b.names.map strX), .sl 4 (b.parts.map vaX), .sl 2 (b.entries.map enX)], .v (.int .i64 0)]) hl0 (by simp only [resD, Tryz.results109, go_sem, ↓reduceIte, Z5, Zc, Z6]; try rfl) (by simp) (by simp) (by simp [outD, cvD, cv1]) (by rw [low, lowL, lowL, lowL, low, low]; exact ⟨hlv, trivial, trivial⟩) ⟨rfl, rfl⟩⟩
theorem Zc1 (l : Lat) (hsm : Sm l) (hc : chkE l = 0) (h : List Ob) : Does Zh G 51 h [.agg (latX l)] (fun h' r => h' = h ∧ r = .agg (vaX (botV l))) := by
 refine Y9 G hG (Xy 0 l) (by rw [low]; exact Yd _ _) ?_ h
 clear h
 have hb := rBottom_d G hG l hsm hc
 have hlv := Yd 0 (botV l)
 generalize botV l = b at *
 simp only [Y4 l, Y5 b] at hb hlv ⊢
 refine Y6 Tryz.func51 rfl (Z1 rfl) hG fun hl0 _ => ?_
 simp only [Tryz.ntmps51]
 have F : _ ∧ _ := ⟨Y4 l, Y5 b⟩
 repeat' first
  | refine g0 ?_
  | (with_reducible refine Y7 ?_; refine gc rfl rfl rfl ent_109 (hb _) ?_)
 all_goals first | (exfalso; omega) | exact ⟨.inr rfl, endD (ds := [.agg [.v (.int .i64 b.n), .sl 1 (b.names.map strX), .sl 4 (b.parts.map vaX), .sl 2 (b.entries.map enX)]]) (r := .agg [.v (.int .i64 b.n), .sl 1 (b.names.map strX), .sl 4 (b.parts.map vaX), .sl 2 (b.entries.map enX)]) hl0 (by simp only [resD, Tryz.results51, go_sem, ↓reduceIte, Z5, Zc, Z6]; try rfl) (by simp) (by simp) (by simp [outD, cvD, cv1]) (by rw [low]; exact hlv) ⟨rfl, rfl⟩⟩
end
section
attribute [local irreducible] on aOp
attribute [local go_sem] decide_true decide_false Zl Zi
attribute [local simp] byD_len
theorem dec_bot {l : Lat} {v : Val} (hwf : WfL l) (hd : W4 l = true) (hv : Yb l v = true) (h : v = botV l) : decV l v = [] := by
 cases e : decV l v with
 | nil => rfl
 | cons x t =>
  obtain ⟨h1, h2, h3⟩ := (hwf.dc hd hv).mem x (by rw [e]; simp)
  rw [h] at h3
  exact absurd ((hwf.jl.is_bot h1).1 h3) (Yd3 hwf h1 h2)
def PcOk (G : Nat → D) (l : Lat) (v : Val) : Prop := Does Zh G 45 [] [.agg (latX l), .agg (vaX v)] (fun h' r => h' = dB l v ∧ r = .buf 2 (decV l v).length)
variable (G : Nat → D) (hG : ∀ g, low 0 (G g))
include hG
theorem PcOk.own {l : Lat} {v : Val} (q : PcOk G l v) (h : List Ob) : Does Zh G 45 h [.agg (latX l), .agg (vaX v)] (fun h' r => h' = h ++ dB l v ∧ r = .buf (h.length + 2) (decV l v).length) :=
 (Zi1 hG 3 (by simp only [lowL, low]; exact ⟨Yy _ l, Yd _ v, trivial⟩) (fun M r q => by rw [q.1]; rfl) q h).mono fun h' r ⟨M, r0, ⟨e1, e2⟩, e3, e4⟩ => by
  subst e1 e2
  rw [ren_dB] at e3
  rw [ren] at e4
  rw [Nat.add_comm h.length 2]
  exact ⟨e3, e4⟩
theorem PcOk.read {l : Lat} {v : Val} (q : PcOk G l v) (h : List Ob) : Does Zh G 45 h [.agg (latX l), .agg (vaX v)] (fun h' r => h' = h ∧ r = .sl 4 ((decV l v).map vaX)) :=
 Does.gaveM hG (j := 2) rfl (Wf 0 _) (by simp only [lowL, low]; exact ⟨Yy _ l, Yd _ v, trivial⟩) (Z0 _) q h
theorem eqBot (l : Lat) (hsm : Sm l) (v : Val) (hv : VSm v) (h : List Ob) : Does Zh G 23 h [.agg (vaX v), .agg (vaX (botV l))] (fun h' r => h' = h ∧ r = .v (.bool (decide (v = botV l)))) := by
 have := Zp0 G hG v (botV l) hv (Zz3 _ l (Zr _) hsm) h
 rw [decide_eq_decide.2 (Yo v (botV l))] at this
 exact this
attribute [local go_sem] Zf Zj Zk Z8 Z4 Z0 Z9 Zb Zc Zd Z5 Z6 Ze
attribute [local go_sem ↓] reduceIte
theorem pc_bot (l : Lat) (hsm : Sm l) (hc : chkE l = 0) (v : Val) (hv : VSm v) (hb : v = botV l) (hd : decV l v = []) : PcOk G l v := by
 unfold PcOk
 have heq := eqBot G hG l hsm v hv
 rw [decide_eq_true hb] at heq
 have hle := Zc1 G hG l hsm hc
 have hlow := Za7 3 l v
 unfold dB at hlow ⊢
 rw [hd] at *
 clear hb
 generalize botV l = w at *
 simp only [Y4 l, Y5 v, Y5 w] at heq hle
 refine Y6 Tryz.func45 rfl (Z1 rfl) hG fun hl0 _ => ?_
 simp only [Tryz.ntmps45]
 have F : _ ∧ _ ∧ _ := ⟨Y4 l, Y5 v, Y5 w⟩
 repeat' first
  | (with_reducible refine Ya ?_; refine Y8 mixd (by kernel_rfl) ?_)
  | refine g0 ?_
  | (with_reducible refine Xv ?_; first | refine aq2 rfl rfl rfl Zw3 (hle _) ?_ | refine aq2 rfl rfl rfl Zh5 (heq _) ?_)
 all_goals first | (exfalso; omega) | exact ⟨.inr rfl, endX [.buf 2 0] _ [] (.buf 2 0) rfl (by simp only [Y4 l, Y5 v]; rfl) (by simp) hlow (by rw [low]; simp) (by simp [outD, cvD, cv1]) ⟨rfl, rfl⟩⟩
end
section
attribute [local irreducible] on aOp
attribute [local go_sem] decide_true decide_false Zl Zi
attribute [local simp] byD_len
variable (G : Nat → D) (hG : ∀ g, low 0 (G g))
include hG
attribute [local go_sem] Zo Zf Zj Zk Z7 Zg Z8 Z3 Z4 Z0 Z9 Zb Zc Zd Z5 Z6 Ze n3_0 n3_1 n3_2 Zl0 n3_l Ja n3_p1 n3_p2 Yh0 Yg9 Xt
attribute [local go_sem ↓] reduceIte
theorem pc_num (l : Lat) (v : Val) (hsm : Sm l) (hc : chkE l = 0) (hv : VSm v) (hb : v ≠ botV l) (h123 : l.kind = 1 ∨ l.kind = 2 ∨ l.kind = 3) : PcOk G l v := by
 unfold PcOk
 have heq := eqBot G hG l hsm v hv
 rw [decide_eq_false hb] at heq
 have hle := Zc1 G hG l hsm hc
 have hd : decV l v = [v] := by
  rw [ne_eq, ← Yo] at hb
  obtain ⟨k, lo, hi, ns, ps, rs⟩ := l
  simp only [Lat.kind] at h123
  rw [decV, if_neg (by omega), if_neg (by omega), if_neg (by omega), if_neg (by omega), if_neg (by omega), if_neg hb]
 have hlow := Za7 3 l v
 unfold dB at hlow ⊢
 rw [hd] at *
 have hro := Zw9 v
 clear hb
 generalize botV l = w at *
 simp only [Y4 l, Y5 v, Y5 w] at heq hle hlow hro ⊢
 refine Y6 Tryz.func45 rfl (Z1 rfl) hG fun hl0 _ => ?_
 simp only [Tryz.ntmps45]
 rcases h123 with e | e | e
 all_goals
  simp only [e] at hle hlow ⊢
  have F : _ ∧ _ ∧ _ ∧ _ := ⟨Y4 l, Y5 v, Y5 w, e⟩
  repeat' first
   | (with_reducible refine Ya ?_; refine Y8 mixd (by kernel_rfl) ?_)
   | (with_reducible refine Y7 ?_; refine W1 rfl rfl rfl rfl (by (simp only [go_sem, F]; rfl)) (by simp) (by simp only [go_sem, F]; rfl) (by (simp only [go_sem, F]; rfl)) (by simp) (by assumption) (by (simp; done)) ?_)
   | refine g0 ?_
   | (with_reducible refine Xv ?_; first | refine aq2 rfl rfl rfl Zw3 (hle _) ?_ | refine aq2 rfl rfl rfl Zh5 (heq _) ?_)
  all_goals first | (exfalso; omega) | exact ⟨.inr rfl, endX [.buf 2 1] _ [.buf 30 4 [vaX v]] (.buf 2 1) rfl (by simp only [List.map_cons, Y0, Y5 v]; rfl) (by simp) hlow (by rw [low]; simp) (by simp [outD, cvD, cv1]) ⟨rfl, rfl⟩⟩
theorem pc_set (l : Lat) (v : Val) (h4 : l.kind = 4) (hsm : Sm l) (hc : chkE l = 0) (hv : VSm v) (hb : v ≠ botV l) (hno : W6 v ≤ 1000) : PcOk G l v := by
 unfold PcOk
 have heq := eqBot G hG l hsm v hv
 rw [decide_eq_false hb] at heq
 have hle := Zc1 G hG l hsm hc
 have hN := V1 v
 have hd : decV l v = v.names.map fun n => .mk 0 [n] [] [] := by
  obtain ⟨k, lo, hi, ns, ps, rs⟩ := l
  simp only [Lat.kind] at h4
  subst h4
  exact dec_4
 have hlow := Za7 3 l v
 unfold dB at hlow ⊢
 rw [hd, Z0] at *
 clear hb
 generalize botV l = w at *
 simp only [Y4 l, Y5 v, Y5 w, h4] at heq hle
 refine Y6 Tryz.func45 rfl (Z1 rfl) hG fun hl0 _ => ?_
 simp only [Tryz.ntmps45]
 have F : _ ∧ _ ∧ _ ∧ _ := ⟨Y4 l, Y5 v, Y5 w, h4⟩
 repeat' first
  | (with_reducible refine Ya ?_; refine Y8 mixd (by kernel_rfl) ?_)
  | refine g0 ?_
  | (with_reducible refine Xv ?_; first | refine aq2 rfl rfl rfl Zw3 (hle _) ?_ | refine aq2 rfl rfl rfl Zh5 (heq _) ?_)
 all_goals first | (exfalso; omega) | skip
 refine Yf (fun m e h' => ∃ (k : Nat) (T : List Ob), k ≤ v.names.length ∧ m = v.names.length - k ∧ h' = n3 (.cells (latX l)) (.cells (vaX v)) (.buf 30 4 (((v.names.take k).map fun n => Val.mk 0 [n] [] []).map vaX)) T ∧ e 3 = .ptr 1 0 ∧ e 5 = .buf 2 k ∧ e 6 = .v (.int .i64 k)) v.names.length ⟨0, [], Zp _, rfl, by rw [Y4 l, Y5 v, h4]; rfl, rfl, rfl, rfl⟩ ?_
 rintro m e h' ⟨k, T, hk, rfl, rfl, e3, e5, e6⟩
 by_cases hlt : k < v.names.length
 rotate_left
 · obtain rfl : k = v.names.length := by omega
   rw [Zn]
   have F : _ ∧ _ ∧ _ ∧ _ ∧ _ := ⟨Y4 l, Y5 v, e3, e5, e6⟩
   repeat' first
    | refine gg ?_
    | refine Two.mk (fun hq => ?_) fun hq => ?_
    | refine Evry.mk fun x hx => ?_
    | (exfalso; omega)
   all_goals first | (exfalso; omega) | exact ⟨.inr rfl, endX [.buf 2 v.names.length] [.cells (latX l), .cells (vaX v), .buf 30 4 ((v.names.map fun n => Val.mk 0 [n] [] []).map vaX)] T (.buf 2 v.names.length) rfl (by simp only [Y4 l, Y5 v, h4]; rfl) (by simp) hlow (by rw [low]; simp) (by simp [outD, cvD, cv1]) ⟨rfl, rfl⟩⟩
 have hx : v.names[k]? = some v.names[k] := Z2 hlt
 have wk : IntKind.i64.wrap ((k : Int) + 1) = (k : Int) + 1 := IntWalk.i64_in _ (by omega)
 have htk : ((v.names.take (k + 1)).map fun n => Val.mk 0 [n] [] []).map vaX = ((v.names.take k).map fun n => Val.mk 0 [n] [] []).map vaX ++ [[.v (.int .i64 0), .sl 1 [[.v (.string v.names[k])]], .sl 4 [], .sl 2 []]] := by
  rw [Zm, hx, Za, Za]
  simp [Y5, Val.n, Val.names, Val.parts, Val.entries, Xt]
 generalize v.names[k] = s at hx htk
 have hlr : (((v.names.take k).map fun n => Val.mk 0 [n] [] []).map vaX).length = k := by rw [Z0, Z0, Zu, Zy hk]
 have hro : X3 4 [[D.v (.int .i64 0), .sl 1 [[D.v (.string s)]], .sl 4 [], .sl 2 []]] := fun row hr => by rw [Y3.1 hr]; exact ⟨rfl, fun d hd => by simp at hd; rcases hd with rfl | rfl | rfl | rfl <;> rfl⟩
 have F : _ ∧ _ ∧ _ ∧ _ ∧ _ ∧ _ := ⟨Y4 l, Y5 v, e3, e5, e6, wk⟩
 repeat' first
  | (with_reducible refine Y7 ?_; first | (refine Zw7 44 (.agg [.v (.int .i64 0), .sl 1 [[.v (.string s)]], .v (.slice none 0 0), .v (.slice none 0 0)]) (.agg [.v (.int .i64 0), .sl 1 [[.v (.string s)]], .sl 4 [], .sl 2 []]) (by with_unfolding_all rfl) (Us (X6 _) Yn Yn) ?_) | (refine Ys3 rfl (by (simp only [go_sem, F]; rfl)) (by simp) ?_) | (refine W1 rfl rfl rfl rfl (by (simp only [go_sem, F]; rfl)) hlr (by simp only [go_sem, F]; rfl) (by (simp only [go_sem, F]; rfl)) (by simp) hro (by first | omega | (simp; omega)) ?_))
  | refine gg ?_
  | refine Two.mk (fun hq => ?_) fun hq => ?_
  | (exfalso; omega)
 all_goals first | (exfalso; omega) | exact ⟨rfl, v.names.length - (k + 1), by omega, k + 1, _, hlt, rfl, (by rw [Y4 l, Y5 v, htk]), e3, rfl, rfl⟩
theorem pc_reg (l : Lat) (v : Val) (h9 : l.kind = 9) (hsm : Sm l) (hc : chkE l = 0) (hv : VSm v) (hb : v ≠ botV l) (hno : W6 v ≤ 1000) : PcOk G l v := by
 unfold PcOk
 have heq := eqBot G hG l hsm v hv
 rw [decide_eq_false hb] at heq
 have hle := Zc1 G hG l hsm hc
 have hN := V1 v
 have hd : decV l v = v.entries.map fun x => .mk 0 [] [] [x] := by
  obtain ⟨k, lo, hi, ns, ps, rs⟩ := l
  simp only [Lat.kind] at h9
  subst h9
  exact dec_9
 have hlow := Za7 3 l v
 unfold dB at hlow ⊢
 rw [hd, Z0] at *
 clear hb
 generalize botV l = w at *
 simp only [Y4 l, Y5 v, Y5 w, h9] at heq hle
 refine Y6 Tryz.func45 rfl (Z1 rfl) hG fun hl0 _ => ?_
 simp only [Tryz.ntmps45]
 have F : _ ∧ _ ∧ _ ∧ _ := ⟨Y4 l, Y5 v, Y5 w, h9⟩
 repeat' first
  | (with_reducible refine Ya ?_; refine Y8 mixd (by kernel_rfl) ?_)
  | refine g0 ?_
  | (with_reducible refine Xv ?_; first | refine aq2 rfl rfl rfl Zw3 (hle _) ?_ | refine aq2 rfl rfl rfl Zh5 (heq _) ?_)
 all_goals first | (exfalso; omega) | skip
 refine Yf (fun m e h' => ∃ (k : Nat) (T : List Ob), k ≤ v.entries.length ∧ m = v.entries.length - k ∧ h' = n3 (.cells (latX l)) (.cells (vaX v)) (.buf 30 4 (((v.entries.take k).map fun x => Val.mk 0 [] [] [x]).map vaX)) T ∧ e 3 = .ptr 1 0 ∧ e 5 = .buf 2 k ∧ e 7 = .v (.int .i64 k)) v.entries.length ⟨0, [], Zp _, rfl, by rw [Y4 l, Y5 v, h9]; rfl, rfl, rfl, rfl⟩ ?_
 rintro m e h' ⟨k, T, hk, rfl, rfl, e3, e5, e7⟩
 by_cases hlt : k < v.entries.length
 rotate_left
 · obtain rfl : k = v.entries.length := by omega
   rw [Zn]
   have F : _ ∧ _ ∧ _ ∧ _ ∧ _ := ⟨Y4 l, Y5 v, e3, e5, e7⟩
   repeat' first
    | refine gg ?_
    | refine Two.mk (fun hq => ?_) fun hq => ?_
    | refine Evry.mk fun x hx => ?_
    | (exfalso; omega)
   all_goals first | (exfalso; omega) | exact ⟨.inr rfl, endX [.buf 2 v.entries.length] [.cells (latX l), .cells (vaX v), .buf 30 4 ((v.entries.map fun x => Val.mk 0 [] [] [x]).map vaX)] T (.buf 2 v.entries.length) rfl (by simp only [Y4 l, Y5 v, h9]; rfl) (by simp) hlow (by rw [low]; simp) (by simp [outD, cvD, cv1]) ⟨rfl, rfl⟩⟩
 have hx : v.entries[k]? = some v.entries[k] := Z2 hlt
 have wk : IntKind.i64.wrap ((k : Int) + 1) = (k : Int) + 1 := IntWalk.i64_in _ (by omega)
 have htk : ((v.entries.take (k + 1)).map fun x => Val.mk 0 [] [] [x]).map vaX = ((v.entries.take k).map fun x => Val.mk 0 [] [] [x]).map vaX ++ [[.v (.int .i64 0), .sl 1 [], .sl 4 [], .sl 2 [enX v.entries[k]]]] := by
  rw [Zm, hx, Za, Za]
  simp [Y5, Val.n, Val.names, Val.parts, Val.entries]
 generalize v.entries[k] = x at hx htk
 rw [Vc x] at htk
 have hlr : (((v.entries.take k).map fun x => Val.mk 0 [] [] [x]).map vaX).length = k := by rw [Z0, Z0, Zu, Zy hk]
 have hro : X3 4 [[D.v (.int .i64 0), .sl 1 [], .sl 4 [], .sl 2 [[.sl 2 (x.clock.map tkX), .v (.string x.name)]]]] := fun row hr => by rw [Y3.1 hr]; exact ⟨rfl, fun d hd => by simp at hd; rcases hd with rfl | rfl | rfl | rfl <;> rfl⟩
 have F : _ ∧ _ ∧ _ ∧ _ ∧ _ ∧ _ ∧ _ := ⟨Y4 l, Y5 v, Vc x, e3, e5, e7, wk⟩
 repeat' first
  | (with_reducible refine Y7 ?_; first | (refine Zw7 63 (.agg [.v (.int .i64 0), .v (.slice none 0 0), .v (.slice none 0 0), .sl 2 [[.sl 2 (x.clock.map tkX), .v (.string x.name)]]]) (.agg [.v (.int .i64 0), .sl 1 [], .sl 4 [], .sl 2 [[.sl 2 (x.clock.map tkX), .v (.string x.name)]]]) (by with_unfolding_all rfl) (Us Yn Yn (X6 _)) ?_) | (refine Ys3 rfl (by (simp only [go_sem, F]; rfl)) (by simp) ?_) | (refine W1 rfl rfl rfl rfl (by (simp only [go_sem, F]; rfl)) hlr (by simp only [go_sem, F]; rfl) (by (simp only [go_sem, F]; rfl)) (by simp) hro (by first | omega | (simp; omega)) ?_))
  | refine gg ?_
  | refine Two.mk (fun hq => ?_) fun hq => ?_
  | (exfalso; omega)
 all_goals first | (exfalso; omega) | exact ⟨rfl, v.entries.length - (k + 1), by omega, k + 1, _, hlt, rfl, (by rw [Y4 l, Y5 v, htk]), e3, rfl, rfl⟩
end
section
attribute [local irreducible] on aOp
attribute [local go_sem] decide_true decide_false Zl Zi
attribute [local simp] byD_len
section
variable {A B C a b c w : Ob} {T l : List Ob}
theorem n3_g1 : (n3 A B C (T ++ [a, b, c]))[T.length + 3]? = some a := by simp [n3]
theorem n3_g2 : (n3 A B C (T ++ [a, b, c]))[T.length + 1 + 3]? = some b := by simp [n3]
theorem n3_g3 : (n3 A B C (T ++ [a, b, c]))[T.length + 2 + 3]? = some c := by simp [n3]
theorem n3_h1 : (n3 A B C (T ++ [a, b, c])).set (T.length + 3) w = n3 A B C (T ++ [w, b, c]) := by simp [n3]
theorem n3_h2 : (n3 A B C (T ++ [a, b, c])).set (T.length + 1 + 3) w = n3 A B C (T ++ [a, w, c]) := by simp [n3]
theorem n3_h3 : (n3 A B C (T ++ [a, b, c])).set (T.length + 2 + 3) w = n3 A B C (T ++ [a, b, w]) := by simp [n3]
end
variable (G : Nat → D) (hG : ∀ g, low 0 (G g))
include hG
attribute [local go_sem] Zo Zf Zj Zk Z7 Zg Z8 Z3 Z4 Z0 Z9 Zb Zc Zd Z5 Z6 Ze holes_3 n3_0 n3_1 n3_2 Zl0 n3_g1 n3_g2 n3_g3 n3_h1 n3_h2 n3_h3 n3_l Ja Yh0 Yg9 Xt
attribute [local go_sem ↓] reduceIte
theorem pc_map (l : Lat) (v : Val) (h5 : l.kind = 5) (hsm : Sm l) (hc : chkE l = 0) (hv : VSm v) (he : Yb l v = true) (hb : v ≠ botV l) (hno : W6 v ≤ 1000) (ih : ∀ p ∈ l.parts, ∀ x ∈ v.parts, PcOk G p x) : PcOk G l v := by
 unfold PcOk
 have heq := eqBot G hG l hsm v hv
 rw [decide_eq_false hb] at heq
 have hle0 := Zc1 G hG l hsm hc
 have hwf := Wt hc
 have hN := V1 v
 have hlen := Ua l v
 obtain ⟨p, hp⟩ := List.length_eq_one_iff.1 (hwf.kinds.2.1 h5)
 have hpm : p ∈ l.parts := by rw [hp]; simp
 have hx0 : l.parts[0]? = some p := by rw [hp]; rfl
 have hl1 : l.parts.length = 1 := by rw [hp]; rfl
 have hcl : v.names.length = v.parts.length := by
  have : Yb (.mk 5 l.lo l.hi l.names [p] l.rules) v = true := by rw [← hp, ← h5]; cases l; exact he
  exact (V5.1 this).2.1
 have hd : decV l v = (v.names.zip v.parts).flatMap (mapF p) := by
  obtain ⟨k, lo, hi, ns, ps, rs⟩ := l
  simp only [Lat.kind, Lat.parts] at h5 hp
  subst h5 hp
  exact dec_5
 have hl1000 : ((v.names.zip v.parts).flatMap (mapF p)).length ≤ 1000 := by rw [← hd]; omega
 have hre := fun x hx => (ih p hpm x hx).read G hG
 have hlow := Za7 3 l v
 unfold dB at hlow ⊢
 rw [hd] at *
 have hlz : (v.names.zip v.parts).length = v.names.length := by rw [List.length_zip]; omega
 clear ih hp hb
 simp only [Y4 p] at hre
 generalize botV l = wb at *
 simp only [Y4 l, Y5 v, Y5 wb, h5] at heq hle0
 refine Y6 Tryz.func45 rfl (Z1 rfl) hG fun hl0 _ => ?_
 simp only [Tryz.ntmps45]
 have F : _ ∧ _ ∧ _ ∧ _ := ⟨Y4 l, Y5 v, Y5 wb, h5⟩
 repeat' first
  | (with_reducible refine Ya ?_; refine Y8 mixd (by kernel_rfl) ?_)
  | refine g0 ?_
  | (with_reducible refine Xv ?_; first | refine aq2 rfl rfl rfl Zw3 (hle0 _) ?_ | refine aq2 rfl rfl rfl Zh5 (heq _) ?_)
 all_goals first | (exfalso; omega) | skip
 refine Yf (fun m e h' => ∃ (k : Nat) (T : List Ob), k ≤ v.names.length ∧ m = v.names.length - k ∧ h' = n3 (.cells (latX l)) (.cells (vaX v)) (.buf 30 4 ((((v.names.zip v.parts).take k).flatMap (mapF p)).map vaX)) T ∧ e 2 = .ptr 0 0 ∧ e 3 = .ptr 1 0 ∧ e 5 = .buf 2 (((v.names.zip v.parts).take k).flatMap (mapF p)).length ∧ e 8 = .v (.int .i64 k)) v.names.length ⟨0, [], Zp _, rfl, by rw [Y4 l, Y5 v, h5]; rfl, rfl, rfl, rfl, rfl⟩ ?_
 rintro m e h' ⟨k, T, hk, rfl, rfl, e2, e3, e5, e8⟩
 by_cases hlt : k < v.names.length
 rotate_left
 · obtain rfl : k = v.names.length := by omega
   rw [List.take_of_length_le (by omega)] at *
   have F : _ ∧ _ ∧ _ ∧ _ ∧ _ ∧ _ := ⟨Y4 l, Y5 v, e2, e3, e5, e8⟩
   repeat' first
    | (with_reducible refine Ya ?_; refine Y8 mixd (by kernel_rfl) ?_)
    | refine gg ?_
    | refine Two.mk (fun hq => ?_) fun hq => ?_
    | (exfalso; omega)
   all_goals first | (exfalso; omega) | exact ⟨.inr rfl, endX [.buf 2 ((v.names.zip v.parts).flatMap (mapF p)).length] [.cells (latX l), .cells (vaX v), .buf 30 4 (((v.names.zip v.parts).flatMap (mapF p)).map vaX)] T (.buf 2 ((v.names.zip v.parts).flatMap (mapF p)).length) rfl (by simp only [Y4 l, Y5 v, h5]; rfl) (by simp) hlow (by rw [low]; simp) (by simp [outD, cvD, cv1]) ⟨rfl, rfl⟩⟩
 have hlp : k < v.parts.length := by omega
 have hs : v.names[k]? = some v.names[k] := Z2 hlt
 have hx : v.parts[k]? = some v.parts[k] := Z2 hlp
 have hz : (v.names.zip v.parts)[k]? = some (v.names[k], v.parts[k]) := by
  rw [Z2 (by omega), List.getElem_zip]
 have hrx := hre _ (Zt hlp)
 have htk := Zy5 (F := mapF p) hz
 have hle := fmV_le (v.names.zip v.parts) (mapF p) (k + 1)
 generalize v.names[k] = s at *
 generalize v.parts[k] = x at *
 have hmF : mapF p (s, x) = (decV p x).map (mapD s) := rfl
 rw [htk, Z3, hmF, Z0] at hle
 have hle2 := Y1 hle hl1000
 rw [hmF] at htk
 generalize decV p x = L at *
 generalize ((v.names.zip v.parts).take k).flatMap (mapF p) = R at *
 have wk : IntKind.i64.wrap ((k : Int) + 1) = (k : Int) + 1 := IntWalk.i64_in _ (by omega)
 simp only [Y5 x] at hrx
 have F : _ ∧ _ ∧ _ ∧ _ ∧ _ ∧ _ ∧ _ ∧ _ ∧ _ ∧ _ := ⟨Y4 l, Y4 p, Y5 v, Y5 x, h5, hl1, e2, e3, e5, e8⟩
 repeat' first
  | (with_reducible refine Ya ?_; refine X7 mixd (by kernel_rfl) ?_)
  | ((with_reducible refine Uf ?_); first | (refine aS1 rfl rfl fun K HK => ?_; simp only [go_sem, F]; (first | refine Yt (fun hq => ?_) (fun hq => ?_) | (refine ⟨by omega, by omega, ?_⟩; refine Xf (by assumption) ?_) | (refine ⟨by omega, ?_⟩; refine Xf (by assumption) ?_) | skip) <;> (refine HK _ _ rfl ?_; clear HK K)) | refine Xq rfl rfl rfl (by (simp only [go_sem, F]; rfl)) (by rw [getD_one (by simp only [go_sem, F])]; rfl) ?_ | refine Wv (by simp only [Zq, Zs, Zb, Z8, Wc, chk1]; repeat' (first | exact trivial | refine Y2 ?_ ?_ | exact .inr Yq | exact .inr Yx | exact .inr X9)) ?_ | refine Xd rfl rfl rfl ent_45 (fun h2 => hrx _) ?_)
  | refine gg ?_
  | refine Two.mk (fun hq => ?_) fun hq => ?_
  | (exfalso; omega)
 all_goals first | (exfalso; omega) | skip
 refine Yf (fun m e h' => ∃ (i : Nat) (T : List Ob), i ≤ L.length ∧ m = L.length - i ∧ h' = n3 (.cells (latX l)) (.cells (vaX v)) (.buf 30 4 ((R ++ (L.take i).map (mapD s)).map vaX)) T ∧ e 2 = .ptr 0 0 ∧ e 3 = .ptr 1 0 ∧ e 5 = .buf 2 (R.length + i) ∧ e 8 = .v (.int .i64 k) ∧ e 9 = .sl 4 (L.map vaX) ∧ e 10 = .v (.int .i64 i)) L.length ⟨0, T, Zp _, rfl, by rw [Y4 l, Y5 v, h5, List.take_zero, Y0, Ys6], e2, e3, e5, e8, rfl, rfl⟩ ?_
 rintro m e h' ⟨i, T, hi, rfl, rfl, e2, e3, e5, e8, e9, e10⟩
 by_cases hli : i < L.length
 rotate_left
 · obtain rfl : i = L.length := by omega
   rw [Zn] at *
   have F : _ ∧ _ ∧ _ ∧ _ ∧ _ ∧ _ ∧ _ ∧ _ ∧ _ := ⟨Y4 l, Y5 v, e2, e3, e5, e8, e9, e10, wk⟩
   repeat' first
    | (with_reducible refine Ya ?_; refine Y8 mixd (by kernel_rfl) ?_)
    | refine gg ?_
    | refine Two.mk (fun hq => ?_) fun hq => ?_
    | refine Evry.mk fun x hx => ?_
    | (exfalso; omega)
   all_goals first | (exfalso; omega) | exact ⟨rfl, v.names.length - (k + 1), by omega, k + 1, T, hlt, rfl, (by rw [htk, Y4 l, Y5 v]), e2, e3, (by rw [htk, Z3, Z0]; exact e5), rfl⟩
 have hLi : L[i]? = some L[i] := Z2 hli
 have wi : IntKind.i64.wrap ((i : Int) + 1) = (i : Int) + 1 := IntWalk.i64_in _ (by omega)
 have hti : (R ++ (L.take (i + 1)).map (mapD s)).map vaX = (R ++ (L.take i).map (mapD s)).map vaX ++ [vaX (mapD s L[i])] := by
  rw [Zm, hLi, Za, Za, Za, Za, Zg]; rfl
 generalize L[i] = d at hLi hti
 rw [Yl8] at hti
 have hlr : ((R ++ (L.take i).map (mapD s)).map vaX).length = R.length + i := by rw [Z0, Z3, Z0, Zu, Zy hi]
 have hlv0 : lowL 0 [D.agg (vaX d)] := by rw [lowL, lowL, low]; exact ⟨Yd 0 d, trivial⟩
 have hlv1 : low 0 (.sl 4 [vaX d]) := Xp 0 [d] fun x _ => Yd 0 x
 have hlw0 : lowL 0 [D.agg (vaX (mapD s d))] := by rw [lowL, lowL, low]; exact ⟨Yd 0 _, trivial⟩
 have hlw1 : low 0 (.sl 4 [vaX (mapD s d)]) := Xp 0 [mapD s d] fun x _ => Yd 0 x
 have hro := Zw9 (mapD s d)
 have hls : lowL 0 [D.v (.string s)] := by simp [lowL, low]
 rw [Yl8] at hlw0 hlw1 hro
 simp only [Y5 d] at hlv0 hlv1 hlw0 hlw1 hro hti
 have F : _ ∧ _ ∧ _ ∧ _ ∧ _ ∧ _ ∧ _ ∧ _ ∧ _ ∧ _ ∧ _ := ⟨Y4 l, Y5 v, Y5 d, h5, e2, e3, e5, e8, e9, e10, wi⟩
 repeat' first
  | (with_reducible refine Ya ?_; refine Zk3 3 mixd (by kernel_rfl) ?_)
  | ((with_reducible refine gd_bS ?_); first | (refine Ju (i := T.length + 3) hG rfl rfl (by simp only [litD, X1, go_sem, Z4, Z9, Zz, Zx, and_self, Xt, Y5 d, ↓reduceIte, Z5, Zc, Z6, Zd, Ze]; rfl) (by (first | (simp only [go_sem, F]; rfl) | (simp only [go_sem, F]; done))) (by show lowL 0 [ev G _ (.tmp 96)]; simp only [go_sem, F]; exact hls) (by exact low_strs0 [s]) ?_) | (refine Ju (i := T.length + 1 + 3) hG rfl rfl (by simp only [litD, X1, go_sem, Z4, Z9, Zz, Zx, and_self, Xt, Y5 d, ↓reduceIte, Z5, Zc, Z6, Zd, Ze]; rfl) (by (first | (simp only [go_sem, F]; rfl) | (simp only [go_sem, F]; done))) (by show lowL 0 [ev G _ (.tmp 101)]; simp only [go_sem, F]; exact hlv0) (by exact hlv1) ?_) | (refine bS_bld2w rfl rfl rfl rfl (by omega) (by decide) (by (first | (simp only [go_sem, F]; rfl) | (simp only [go_sem, F]; done))) (by (first | (simp only [go_sem, F]; rfl) | (simp only [go_sem, F]; done))) (by simp) (by simp) fun K HK => ?_; simp only [go_sem, F]; refine HK _ _ rfl ⟨_, Us (X6 _) (X6 _) Yn, ?_⟩; clear HK K) | (refine Ju (i := T.length + 2 + 3) hG rfl rfl (by simp only [litD, X1, go_sem, Z4, Z9, Zz, Zx, and_self, Xt, Y5 d, ↓reduceIte, Z5, Zc, Z6, Zd, Ze]; rfl) (by (first | (simp only [go_sem, F]; rfl) | (simp only [go_sem, F]; done))) (by show lowL 0 [ev G _ (.tmp 103)]; simp only [go_sem, F]; exact hlw0) (by exact hlw1) ?_) | (refine Yf7 rfl rfl rfl rfl (by (first | (simp only [go_sem, F]; rfl) | (simp only [go_sem, F]; done))) hlr (by simp only [go_sem, F]; rfl) (by (first | (simp only [go_sem, F]; rfl) | (simp only [go_sem, F]; done))) (by simp) hro (by first | omega | (simp; omega)) ?_) | (refine bS1 rfl rfl fun K HK => ?_; simp only [go_sem, F]; (first | refine Yt (fun hq => ?_) (fun hq => ?_) | (refine ⟨by omega, by omega, ?_⟩; refine Xf (by assumption) ?_) | skip) <;> (refine HK _ _ rfl ?_; clear HK K)) | refine Zd4 rfl rfl rfl (by (first | (simp only [go_sem, F]; rfl) | (simp only [go_sem, F]; done))) (by rw [getD_one (by simp only [go_sem, F])]; rfl) ?_ | refine Yl2 (by simp only [Zq, Zs, Zb, Z8, cpFA, cpF1]; repeat' (first | exact trivial | refine Y2 ?_ ?_ | exact .inr Yf3 | exact .inr Yk9 | exact .inr (Yf2 (by omega)) | exact .inr (Yk8 (by omega)) | (refine .inr ?_; simp [compF, reF, wrF, puF, nopF, Ja] <;> omega) | exact .inl (by kernel_rfl))) ?_)
  | refine gg ?_
  | refine Two.mk (fun hq => ?_) fun hq => ?_
  | (exfalso; omega)
 all_goals first | (exfalso; omega) | exact ⟨rfl, L.length - (i + 1), by omega, i + 1, _, hli, rfl, (by rw [Y4 l, Y5 v, hti, h5]), e2, e3, rfl, e8, e9, rfl⟩
end
section
attribute [local irreducible] on aOp
attribute [local go_sem] decide_true decide_false Zl Zi
attribute [local simp] byD_len
variable (G : Nat → D) (hG : ∀ g, low 0 (G g))
include hG
attribute [local go_sem] Zo Zf Zj Zk Z7 Zg Z8 Z3 Z4 Z0 Z9 Zb Zc Zd Z5 Z6 Ze n3_0 n3_1 n3_2 Zl0 n3_l Ja Yh0 Yg9
attribute [local go_sem ↓] reduceIte
theorem pc_prd (l : Lat) (v : Val) (h6 : l.kind = 6) (hsm : Sm l) (hc : chkE l = 0) (hv : VSm v) (he : Yb l v = true) (hb : v ≠ botV l) (hno : W6 v ≤ 1000) (ih : ∀ (k : Nat) (p : Lat) (x : Val), l.parts[k]? = some p → v.parts[k]? = some x → PcOk G p x) : PcOk G l v := by
 unfold PcOk
 have heq := eqBot G hG l hsm v hv
 rw [decide_eq_false hb] at heq
 have hle0 := Zc1 G hG l hsm hc
 have hwf := Wt hc
 have hN := V1 v
 have hlen := Ua l v
 have hcl : v.parts.length = l.parts.length := ((el67 (k := 6) (lo := l.lo) (hi := l.hi) (ns := l.names) (ps := l.parts) (rs := l.rules) (v := v) (.inl rfl)).1 (by rw [← h6]; cases l; exact he)).1.1
 have hp8 := Zy0 hwf
 have hbv : botV l = .mk 0 [] (l.parts.map botV) [] := by
  obtain ⟨k, lo, hi, ns, ps, rs⟩ := l
  simp only [Lat.kind] at h6
  subst h6
  exact bot67 (.inl rfl)
 have hd : decV l v = (Zv l.parts.length).flatMap (prdF l v) := by
  obtain ⟨k, lo, hi, ns, ps, rs⟩ := l
  simp only [Lat.kind] at h6
  subst h6
  exact dec_6 hcl
 have hl1000 : ((Zv l.parts.length).flatMap (prdF l v)).length ≤ 1000 := by rw [← hd]; omega
 have hre := fun k p x h1 h2 => (ih k p x h1 h2).read G hG
 have hlow := Za7 3 l v
 unfold dB at hlow ⊢
 rw [hd] at *
 clear ih hb
 rw [hbv] at heq hle0
 have hwb : vaX (.mk 0 [] (l.parts.map botV) []) = [.v (.int .i64 0), .sl 1 [], .sl 4 (bPs l), .sl 2 []] := by rw [Y5]; rfl
 have hput : ∀ (k : Nat) (y x : Val), (l.parts.map botV)[k]? = some y → ∀ h, Does Zh G 94 h [.agg [.v (.int .i64 0), .sl 1 [], .sl 4 (bPs l), .sl 2 []], .v (.int .i64 k), .agg (vaX x)] (fun h' r => h' = h ∧ r = .agg (vaX (.mk 0 [] ((l.parts.map botV).set k x) []))) := fun k y x hy h => by
  have := put_d G hG (.mk 0 [] (l.parts.map botV) []) x y k hy (by simp [Val.names]) (by simp [Val.parts]; omega) h
  rw [hwb] at this
  exact this
 rw [hwb] at heq hle0
 simp only [Y4 l, Y5 v, h6] at heq hle0
 refine Y6 Tryz.func45 rfl (Z1 rfl) hG fun hl0 _ => ?_
 simp only [Tryz.ntmps45]
 have F : _ ∧ _ ∧ _ := ⟨Y4 l, Y5 v, h6⟩
 repeat' first
  | (with_reducible refine Ya ?_; refine Y8 mixd (by kernel_rfl) ?_)
  | refine g0 ?_
  | (with_reducible refine Xv ?_; first | refine aq2 rfl rfl rfl Zw3 (hle0 _) ?_ | refine aq2 rfl rfl rfl Zh5 (heq _) ?_)
 all_goals first | (exfalso; omega) | skip
 refine Yf (fun m e h' => ∃ (k : Nat) (T : List Ob), k ≤ l.parts.length ∧ m = l.parts.length - k ∧ h' = n3 (.cells (latX l)) (.cells (vaX v)) (.buf 30 4 ((((Zv l.parts.length).take k).flatMap (prdF l v)).map vaX)) T ∧ e 2 = .ptr 0 0 ∧ e 3 = .ptr 1 0 ∧ e 5 = .buf 2 (((Zv l.parts.length).take k).flatMap (prdF l v)).length ∧ e 11 = .v (.int .i64 k)) l.parts.length ⟨0, [], Zp _, rfl, by rw [Y4 l, Y5 v, h6]; rfl, rfl, rfl, rfl, rfl⟩ ?_
 rintro m e h' ⟨k, T, hk, rfl, rfl, e2, e3, e5, e11⟩
 by_cases hlt : k < l.parts.length
 rotate_left
 · obtain rfl : k = l.parts.length := by omega
   rw [List.take_of_length_le (by simp)] at *
   have F : _ ∧ _ ∧ _ ∧ _ ∧ _ ∧ _ ∧ _ := ⟨Y4 l, Y5 v, e2, e3, e5, e11, hcl⟩
   repeat' first
    | (with_reducible refine Ya ?_; refine Y8 mixd (by kernel_rfl) ?_)
    | refine gg ?_
    | refine Two.mk (fun hq => ?_) fun hq => ?_
    | refine Evry.mk fun x hx => ?_
    | (exfalso; omega)
   all_goals first | (exfalso; omega) | exact ⟨.inr rfl, endX [.buf 2 ((Zv l.parts.length).flatMap (prdF l v)).length] [.cells (latX l), .cells (vaX v), .buf 30 4 (((Zv l.parts.length).flatMap (prdF l v)).map vaX)] T (.buf 2 ((Zv l.parts.length).flatMap (prdF l v)).length) rfl (by simp only [Y4 l, Y5 v, h6]; rfl) (by simp) hlow (by rw [low]; simp) (by simp [outD, cvD, cv1]) ⟨rfl, rfl⟩⟩
 have hlp : k < v.parts.length := by omega
 have hs : l.parts[k]? = some l.parts[k] := Z2 hlt
 have hx : v.parts[k]? = some v.parts[k] := Z2 hlp
 have hz : (Zv l.parts.length)[k]? = some k := by rw [List.getElem?_range hlt]
 have hrx := hre k _ _ hs hx
 have hpu := fun x => hput k (botV l.parts[k]) x (by rw [List.getElem?_map, hs]; rfl)
 have htk := Zy5 (F := prdF l v) hz
 have hle := fmV_le (Zv l.parts.length) (prdF l v) (k + 1)
 have hmF : prdF l v k = (decV l.parts[k] v.parts[k]).map fun d => .mk 0 [] ((l.parts.map botV).set k d) [] := by unfold prdF; rw [hs, hx]
 rw [htk, Z3, hmF, Z0] at hle
 have hle2 := Y1 hle hl1000
 rw [hmF] at htk
 generalize l.parts[k] = p at *
 generalize v.parts[k] = x at *
 generalize decV p x = L at *
 generalize ((Zv l.parts.length).take k).flatMap (prdF l v) = R at *
 have wk : IntKind.i64.wrap ((k : Int) + 1) = (k : Int) + 1 := IntWalk.i64_in _ (by omega)
 simp only [Y4 p, Y5 x] at hrx
 have F : _ ∧ _ ∧ _ ∧ _ ∧ _ ∧ _ ∧ _ ∧ _ ∧ _ ∧ _ := ⟨Y4 l, Y4 p, Y5 v, Y5 x, h6, e2, e3, e5, e11, hcl⟩
 repeat' first
  | (with_reducible refine Ya ?_; refine X7 mixd (by kernel_rfl) ?_)
  | ((with_reducible refine Uf ?_); first | (refine aS1 rfl rfl fun K HK => ?_; simp only [go_sem, F]; (first | refine Yt (fun hq => ?_) (fun hq => ?_) | (refine ⟨by omega, by omega, ?_⟩; refine Xf (by assumption) ?_) | skip) <;> (refine HK _ _ rfl ?_; clear HK K)) | refine Xq rfl rfl rfl (by (simp only [go_sem, F]; rfl)) (by rw [getD_one (by simp only [go_sem, F])]; rfl) ?_ | refine Wv (by simp only [Zq, Zs, Zb, Z8, Wc, chk1]; repeat' (first | exact trivial | refine Y2 ?_ ?_ | exact .inr Yq | exact .inr Yx | exact .inr X9)) ?_ | refine Xd rfl rfl rfl ent_45 (fun h2 => hrx _) ?_)
  | refine gg ?_
  | refine Two.mk (fun hq => ?_) fun hq => ?_
  | (exfalso; omega)
 all_goals first | (exfalso; omega) | skip
 refine Yf (fun m e h' => ∃ (i : Nat) (T : List Ob), i ≤ L.length ∧ m = L.length - i ∧ h' = n3 (.cells (latX l)) (.cells (vaX v)) (.buf 30 4 ((R ++ (L.take i).map fun d => Val.mk 0 [] ((l.parts.map botV).set k d) []).map vaX)) T ∧ e 2 = .ptr 0 0 ∧ e 3 = .ptr 1 0 ∧ e 5 = .buf 2 (R.length + i) ∧ e 11 = .v (.int .i64 k) ∧ e 12 = .sl 4 (L.map vaX) ∧ e 13 = .v (.int .i64 i)) L.length ⟨0, T, Zp _, rfl, by rw [Y4 l, Y5 v, h6, List.take_zero, Y0, Ys6], e2, e3, e5, e11, rfl, rfl⟩ ?_
 rintro m e h' ⟨i, T, hi, rfl, rfl, e2, e3, e5, e11, e12, e13⟩
 by_cases hli : i < L.length
 rotate_left
 · obtain rfl : i = L.length := by omega
   rw [Zn] at *
   have F : _ ∧ _ ∧ _ ∧ _ ∧ _ ∧ _ ∧ _ ∧ _ ∧ _ := ⟨Y4 l, Y5 v, e2, e3, e5, e11, e12, e13, wk⟩
   repeat' first
    | (with_reducible refine Ya ?_; refine Y8 mixd (by kernel_rfl) ?_)
    | refine gg ?_
    | refine Two.mk (fun hq => ?_) fun hq => ?_
    | (exfalso; omega)
   all_goals first | (exfalso; omega) | exact ⟨rfl, l.parts.length - (k + 1), by omega, k + 1, T, hlt, rfl, (by rw [htk, Y4 l, Y5 v]), e2, e3, (by rw [htk, Z3, Z0]; exact e5), rfl⟩
 have hLi : L[i]? = some L[i] := Z2 hli
 have wi : IntKind.i64.wrap ((i : Int) + 1) = (i : Int) + 1 := IntWalk.i64_in _ (by omega)
 have hti : (R ++ (L.take (i + 1)).map fun d => Val.mk 0 [] ((l.parts.map botV).set k d) []).map vaX = (R ++ (L.take i).map fun d => Val.mk 0 [] ((l.parts.map botV).set k d) []).map vaX ++ [vaX (.mk 0 [] ((l.parts.map botV).set k L[i]) [])] := by
  rw [Zm, hLi, Za, Za, Za, Za, Zg]; rfl
 generalize L[i] = d at hLi hti
 have hpd := hpu d
 generalize hgy : Val.mk 0 [] ((l.parts.map botV).set k d) [] = y at hpd hti
 have hlr : ((R ++ (L.take i).map fun d => Val.mk 0 [] ((l.parts.map botV).set k d) []).map vaX).length = R.length + i := by rw [Z0, Z3, Z0, Zu, Zy hi]
 have hro := Zw9 y
 have hlw0 : lowL 0 [D.agg (vaX y)] := by rw [lowL, lowL, low]; exact ⟨Yd 0 _, trivial⟩
 have hlw1 : low 0 (.sl 4 [vaX y]) := Xp 0 [y] fun x _ => Yd 0 x
 simp only [Y5 d, Y5 y] at hpd hti hro hlw0 hlw1
 have F : _ ∧ _ ∧ _ ∧ _ ∧ _ ∧ _ ∧ _ ∧ _ ∧ _ ∧ _ ∧ _ ∧ _ ∧ _ := ⟨Y4 l, Y5 v, Y5 d, Y5 y, h6, e2, e3, e5, e11, e12, e13, hcl, wi⟩
 repeat' first
  | (with_reducible refine Ya ?_; refine X7 mixd (by kernel_rfl) ?_)
  | ((with_reducible refine Uf ?_); first | (refine Jz rfl rfl rfl rfl (by (simp only [go_sem, F]; rfl)) hlr (by simp only [go_sem, F]; rfl) (by (simp only [go_sem, F]; rfl)) (by simp) hro (by first | omega | (simp; omega)) ?_) | (refine Xq rfl rfl (by first | rfl | (simp only [go_sem, F]; rfl)) (by (simp only [go_sem, F]; rfl)) (by rw [getD_agg' aggT_26, szT_26]; rfl) ?_) | (refine aS1 rfl rfl fun K HK => ?_; simp only [go_sem, F]; (first | refine Yt (fun hq => ?_) (fun hq => ?_) | (refine ⟨by omega, by omega, ?_⟩; refine Xf (by assumption) ?_) | skip) <;> (refine HK _ _ rfl ?_; clear HK K)) | refine Jj rfl rfl (by simp only [litD, X1, go_sem, Z4, Z9, Zz, Zx, and_self, ↓reduceIte, Z5, Zc, Z6, Zd, Ze, Zf, Zk, Zj, Y4 l, Y5 v, Y5 d, Y5 y, h6, e2, e3, e5, e11, e12, e13, hcl, Z0, Z7, wi, n3_0, n3_1, n3_2, Yh0, Ja, Zl0, n3_l, Yg9, Zg, Z8, Zb, Z3, Z4, Z9]; rfl) ?_ | refine Wv (by simp only [Zq, Zs, Zb, Z8, Wc, chk1]; repeat' (first | exact trivial | refine Y2 ?_ ?_ | exact .inr Yq | exact .inr Yx | (refine .inr ?_; simp [compat, We, Wg, Va, nop, Ja] <;> omega) | exact .inl (by kernel_rfl))) ?_ | refine Xd rfl rfl rfl Zw3 (fun h2 => hle0 _) ?_ | refine Xd rfl rfl rfl ent_94 (fun h2 => hpd _) ?_)
  | refine gg ?_
  | refine Two.mk (fun hq => ?_) fun hq => ?_
  | (exfalso; omega)
 all_goals first | (exfalso; omega) | exact ⟨rfl, L.length - (i + 1), by omega, i + 1, _, hli, rfl, (by rw [Y4 l, Y5 v, hti, h6]), e2, e3, rfl, e11, e12, rfl⟩
end
section
attribute [local irreducible] on aOp
attribute [local go_sem] decide_true decide_false Zl Zi
attribute [local simp] byD_len
theorem dec_7b {l p q : Lat} {v a w : Val} (hwf : WfL l) (h7 : l.kind = 7) (hdi : W4 l = true) (he : Yb l v = true) (hpq : l.parts = [p, q]) (hab : v.parts = [a, w]) (hw : Yb q w = true) (hb : v ≠ botV l) : decV l v = if decV q w = [] then [v] else (decV q w).map (lexD a) := by
 have hdq := (Zu1 hdi).2 q (by rw [hpq]; simp)
 have hwq := hwf.part (p := q) (by rw [hpq]; simp)
 obtain ⟨k, lo, hi, ns, ps, rs⟩ := l
 simp only [Lat.kind, Lat.parts] at h7 hpq
 subst h7 hpq
 have hv := ((el67 (.inr rfl)).1 he).2
 rw [dec_7 hab]
 by_cases h0 : decV q w = []
 · have hwb := (hwq.dc hdq hw).nil hwq.jl hw h0
   have ha : valC a (botV p) ≠ 0 := fun e => hb (by rw [← hv, hab, (Yo a _).1 e, hwb, bot67 (.inr rfl)]; rfl)
   rw [h0, if_pos rfl, if_pos (by simp [ha])]
   show [lexD a (botV q)] = [v]
   rw [← hv, hab, hwb]; rfl
 · rw [if_neg h0, if_neg (by simp [h0])]
variable (G : Nat → D) (hG : ∀ g, low 0 (G g))
include hG
attribute [local go_sem] Zo Zf Zj Zk Z7 Zg Z8 Z3 Z4 Z0 Z9 Y0 Zb Zc Zd Z5 Z6 Ze n3_0 n3_1 n3_2 Zl0 n3_l Ja Yh0 Yg9
attribute [local go_sem ↓] reduceIte
theorem pc_lex (l : Lat) (v : Val) (h7 : l.kind = 7) (hsm : Sm l) (hc : chkE l = 0) (hdi : W4 l = true) (hv : VSm v) (he : Yb l v = true) (hb : v ≠ botV l) (hno : W6 v ≤ 1000) (ih : ∀ (k : Nat) (p : Lat) (x : Val), l.parts[k]? = some p → v.parts[k]? = some x → PcOk G p x) : PcOk G l v := by
 unfold PcOk
 have heq := eqBot G hG l hsm v hv
 rw [decide_eq_false hb] at heq
 have hle0 := Zc1 G hG l hsm hc
 have hwf := Wt hc
 have hlen : (decV l v).length ≤ 1000 := Y1 (Ua l v) hno
 obtain ⟨p, q, a, w, hpq, hab, ha, hw, _⟩ := Zg3 hwf h7 he
 have hx1 : l.parts[1]? = some q := by rw [hpq]; rfl
 have hl2 : l.parts.length = 2 := by rw [hpq]; rfl
 have hy1 : v.parts[1]? = some w := by rw [hab]; rfl
 have hv2 : v.parts.length = 2 := by rw [hab]; rfl
 have hre := (ih 1 q w hx1 hy1).read G hG
 have hd := dec_7b hwf h7 hdi he hpq hab hw hb
 have hL0 : (decV q w).length ≤ 1000 := by
  have e1 := Ua q w
  have e2 := V1 v
  rw [hab] at e2
  simp only [Ys] at e2
  omega
 have hvn : v.names = [] := by
  have : Yb (.mk 7 l.lo l.hi l.names l.parts l.rules) v = true := by rw [← h7]; cases l; exact he
  rw [← ((el67 (.inr rfl)).1 this).2]; rfl
 have hput : ∀ (d : Val) h, Does Zh G 94 h [.agg (vaX v), .v (.int .i64 1), .agg (vaX d)] (fun h' r => h' = h ∧ r = .agg (vaX (lexD a d))) := fun d h => by
  have := put_d G hG v d w 1 hy1 (by rw [hvn]; simp) (by omega) h
  rw [hvn, hab] at this
  exact this
 have hlow := Za7 3 l v
 unfold dB at hlow ⊢
 rw [hd] at *
 have hrov := Zw9 v
 clear ih hpq hab hb
 generalize botV l = wb at *
 generalize decV q w = L0 at *
 simp only [Y4 q, Y5 w] at hre
 simp only [Y4 l, Y5 v, Y5 wb, h7] at heq hle0
 simp only [Y5 v] at hput hrov
 refine Y6 Tryz.func45 rfl (Z1 rfl) hG fun hl0 _ => ?_
 simp only [Tryz.ntmps45]
 have F : _ ∧ _ ∧ _ ∧ _ ∧ _ ∧ _ ∧ _ ∧ _ := ⟨Y4 l, Y4 q, Y5 v, Y5 wb, Y5 w, h7, hl2, hv2⟩
 repeat' first
  | (with_reducible refine Ya ?_; refine Y8 mixd (by kernel_rfl) ?_)
  | ((with_reducible refine Xv ?_); first | (refine aq1 rfl rfl fun K HK => ?_; simp only [go_sem, F]; (first | (refine ⟨by omega, ?_⟩; refine Xf (by assumption) ?_) | skip) <;> (refine HK _ _ rfl ?_; clear HK K)))
  | refine g0 ?_
  | (with_reducible refine Xv ?_; first | refine aq2 rfl rfl rfl Zw3 (hle0 _) ?_ | refine aq2 rfl rfl rfl Zh5 (heq _) ?_ | refine aq2 rfl rfl rfl ent_45 (hre _) ?_)
 all_goals first | (exfalso; omega) | skip
 refine Yf (fun m e h' => ∃ (i : Nat) (T : List Ob), i ≤ L0.length ∧ m = L0.length - i ∧ h' = n3 (.cells (latX l)) (.cells (vaX v)) (.buf 30 4 (((L0.take i).map (lexD a)).map vaX)) T ∧ e 3 = .ptr 1 0 ∧ e 5 = .buf 2 i ∧ e 14 = .sl 4 (L0.map vaX) ∧ e 15 = .v (.int .i64 i)) L0.length ⟨0, [], Zp _, rfl, by rw [Y4 l, Y5 v, h7]; rfl, rfl, rfl, rfl, rfl⟩ ?_
 rintro m e h' ⟨i, T, hi, rfl, rfl, e3, e5, e14, e15⟩
 by_cases hli : i < L0.length
 rotate_left
 · obtain rfl : i = L0.length := by omega
   rw [Zn] at *
   by_cases h0 : L0 = []
   · subst h0
     rw [if_pos rfl] at *
     have hn0 : ([] : List Val).length = 0 := rfl
     have F : _ ∧ _ ∧ _ ∧ _ ∧ _ ∧ _ := ⟨Y4 l, Y5 v, e3, e5, e14, e15⟩
     repeat' first
      | (with_reducible refine Ya ?_; refine Y8 mixd (by kernel_rfl) ?_)
      | (with_reducible refine Y7 ?_; first | (refine ao1 rfl rfl fun K HK => ?_; simp only [go_sem, F]; (first | refine Yt (fun hq => ?_) (fun hq => ?_) | (refine ⟨by omega, by omega, ?_⟩; intro row hrow) | skip) <;> (refine HK _ _ ?_; clear HK K)) | refine W1 rfl rfl rfl rfl (by (simp only [go_sem, F]; rfl)) (by simp) (by simp only [go_sem, F]; rfl) (by (simp only [go_sem, F]; rfl)) (by simp) (by assumption) (by (simp; done)) ?_)
      | (with_reducible refine Xv ?_; (refine aq1 rfl rfl fun K HK => ?_; simp only [go_sem, F]; (first | refine Yt (fun hq => ?_) (fun hq => ?_) | (refine ⟨by omega, by omega, ?_⟩; intro row hrow) | skip) <;> (refine HK _ _ rfl ?_; clear HK K)))
      | refine gg ?_
      | (exfalso; omega)
     all_goals first | (exfalso; omega) | exact ⟨.inr rfl, endX [.buf 2 1] [.cells (latX l), .cells (vaX v), .buf 30 4 [vaX v]] (T ++ [.buf 30 4 [vaX v]]) (.buf 2 1) rfl (by simp only [Y4 l, Y5 v, h7]; rfl) (by simp) hlow (by rw [low]; simp) (by simp [outD, cvD, cv1]) ⟨rfl, rfl⟩⟩
   · rw [if_neg h0] at *
     have hn0 : L0.length ≠ 0 := fun h => h0 (List.length_eq_zero_iff.1 h)
     have F : _ ∧ _ ∧ _ ∧ _ ∧ _ ∧ _ := ⟨Y4 l, Y5 v, e3, e5, e14, e15⟩
     repeat' first
      | (with_reducible refine Ya ?_; refine Y8 mixd (by kernel_rfl) ?_)
      | refine gg ?_
      | refine Two.mk (fun hq => ?_) fun hq => ?_
      | refine Evry.mk fun x hx => ?_
      | (exfalso; omega)
     all_goals first | (exfalso; omega) | exact ⟨.inr rfl, endX [.buf 2 L0.length] [.cells (latX l), .cells (vaX v), .buf 30 4 ((L0.map (lexD a)).map vaX)] T (.buf 2 L0.length) rfl (by simp only [Y4 l, Y5 v, h7]; rfl) (by simp) hlow (by rw [low]; simp) (by simp [outD, cvD, cv1]) ⟨rfl, by rw [Z0]⟩⟩
 have hLi : L0[i]? = some L0[i] := Z2 hli
 have wi : IntKind.i64.wrap ((i : Int) + 1) = (i : Int) + 1 := IntWalk.i64_in _ (by omega)
 have hti : ((L0.take (i + 1)).map (lexD a)).map vaX = ((L0.take i).map (lexD a)).map vaX ++ [vaX (lexD a L0[i])] := by
  rw [Zm, hLi, Za, Za]; rfl
 generalize L0[i] = d at hLi hti
 have hdl : decide ((i : Int) < (L0.length : Int)) = true := decide_eq_true (by omega)
 have hpd := hput d
 generalize lexD a d = y at hpd hti
 have hlr : (((L0.take i).map (lexD a)).map vaX).length = i := by rw [Z0, Z0, Zu, Zy hi]
 have hro := Zw9 y
 have hlw0 : lowL 0 [D.agg (vaX y)] := by rw [lowL, lowL, low]; exact ⟨Yd 0 _, trivial⟩
 have hlw1 : low 0 (.sl 4 [vaX y]) := Xp 0 [y] fun x _ => Yd 0 x
 simp only [Y5 d, Y5 y] at hpd hti hro hlw0 hlw1
 have F : _ ∧ _ ∧ _ ∧ _ ∧ _ ∧ _ ∧ _ ∧ _ ∧ _ ∧ _ ∧ _ := ⟨Y4 l, Y5 v, Y5 d, Y5 y, h7, hdl, e3, e5, e14, e15, wi⟩
 repeat' first
  | (with_reducible refine Ya ?_; refine X7 mixd (by kernel_rfl) ?_)
  | ((with_reducible refine Uf ?_); first | (refine Jz rfl rfl rfl rfl (by (simp only [go_sem, F]; rfl)) hlr (by simp only [go_sem, F]; rfl) (by (simp only [go_sem, F]; rfl)) (by simp) hro (by first | omega | (simp; omega)) ?_) | (refine Xq rfl rfl (by first | rfl | (simp only [go_sem, F]; rfl)) (by (simp only [go_sem, F]; rfl)) (by rw [getD_agg' aggT_30, szT_30]; rfl) ?_) | (refine aS1 rfl rfl fun K HK => ?_; simp only [go_sem, F]; (first | (refine ⟨by omega, by omega, ?_⟩; refine Xf (by assumption) ?_) | skip) <;> (refine HK _ _ rfl ?_; clear HK K)) | refine Jj rfl rfl (by simp only [litD, X1, go_sem, Z4, Z9, Zz, Zx, and_self, ↓reduceIte, Z5, Zc, Z6, Zd, Ze, Zf, Zk, Zj, Y4 l, Y5 v, Y5 d, Y5 y, h7, hdl, e3, e5, e14, e15, Z0, Z7, wi, n3_0, n3_1, n3_2, Yh0, Ja, Zl0, n3_l, Yg9, Zg, Z8, Zb, Z3, Z4, Z9]; rfl) ?_ | refine Wv (by simp only [Zq, Zs, Zb, Z8, Wc, chk1]; repeat' (first | exact trivial | refine Y2 ?_ ?_ | exact .inr Yq | exact .inr Yx | (refine .inr ?_; simp [compat, We, Wg, Va, nop, Ja] <;> omega) | exact .inl (by kernel_rfl))) ?_ | refine Xd rfl rfl rfl ent_94 (fun h2 => hpd _) ?_)
  | refine g0 ?_
  | fail
 all_goals first | (exfalso; omega) | exact ⟨rfl, L0.length - (i + 1), by omega, i + 1, _, hli, rfl, (by rw [Y4 l, Y5 v, hti, h7]), e3, rfl, e14, rfl⟩
end
section
variable (G : Nat → D) (hG : ∀ g, low 0 (G g))
include hG
theorem pieces_d (f : Nat) : ∀ (l : Lat) (v : Val), SizeOf.sizeOf l ≤ f → Sm l → chkE l = 0 → W4 l = true → VSm v → Yb l v = true → W6 v ≤ 1000 → PcOk G l v := by
 induction f with
 | zero => intro l v hn; cases l; simp at hn
 | succ f ih =>
 intro l v hn hsm hc hd hv he hno
 have hwf := Wt hc
 obtain ⟨hk, hk5, hk7, hk6, _⟩ := hwf.kinds
 obtain ⟨⟨n8, n10⟩, hdp⟩ := Zu1 hd
 by_cases hb : v = botV l
 · exact pc_bot G hG l hsm hc v hv hb (dec_bot hwf hd he hb)
 have hpp : ∀ p ∈ l.parts, ∀ x ∈ v.parts, Yb p x = true → PcOk G p x := fun p hp x hx hex => ih p x (by have := Yz hp; omega) (hsm.part p hp) (Zy7 hc hp) (hdp p hp) (hv.part x hx) hex (Y1 (nodes_mem hx) hno)
 by_cases h123 : l.kind = 1 ∨ l.kind = 2 ∨ l.kind = 3
 · exact pc_num G hG l v hsm hc hv hb h123
 by_cases h4 : l.kind = 4
 · exact pc_set G hG l v h4 hsm hc hv hb hno
 by_cases h5 : l.kind = 5
 · refine pc_map G hG l v h5 hsm hc hv he hb hno fun p hp x hx => hpp p hp x hx ?_
   obtain ⟨q, hq⟩ := List.length_eq_one_iff.1 (hk5 h5)
   have hpq : p = q := by rw [hq] at hp; simpa using hp
   have : Yb (.mk 5 l.lo l.hi l.names [q] l.rules) v = true := by rw [← hq, ← h5]; cases l; exact he
   rw [hpq]
   exact ((V5.1 this).2.2.2 x hx).1
 by_cases h6 : l.kind = 6
 · have hpe := (el67 (k := 6) (lo := l.lo) (hi := l.hi) (ns := l.names) (ps := l.parts) (rs := l.rules) (v := v) (.inl rfl)).1 (by rw [← h6]; cases l; exact he)
   refine pc_prd G hG l v h6 hsm hc hv he hb hno fun k p x h1 h2 => ?_
   obtain ⟨q1, e1⟩ := List.getElem?_eq_some_iff.1 h1
   obtain ⟨q2, e2⟩ := List.getElem?_eq_some_iff.1 h2
   have := (Zb0 l.parts v.parts hpe.1.1).1 hpe.1.2 k q1 q2
   rw [e1, e2] at this
   exact hpp p (Zw h1) x (Zw h2) this
 by_cases h7 : l.kind = 7
 · obtain ⟨p, q, a, w, hpq, hab, ha, hw, _⟩ := Zg3 hwf h7 he
   refine pc_lex G hG l v h7 hsm hc hd hv he hb hno fun k p' x h1 h2 => ?_
   rw [hpq] at h1
   rw [hab] at h2
   refine hpp p' (by rw [hpq]; exact Zw h1) x (by rw [hab]; exact Zw h2) ?_
   match k with
   | 0 => cases h1; cases h2; exact ha
   | 1 => cases h1; cases h2; exact hw
   | k + 2 => simp at h1
 · exact pc_reg G hG l v (by omega) hsm hc hv hb hno
end
section
attribute [local irreducible] on aOp
attribute [local go_sem] decide_true decide_false Zl Zi
attribute [local simp] byD_len
def m5 (l : Lat) (v : Val) (rows : List (List D)) : List Ob := [.cells (latX l), .cells (vaX v), .cells (latX l), .cells (vaX v), .buf 30 4 rows]
section
variable {l : Lat} {v : Val} {rows r2 : List (List D)} {o : Ob}
theorem m5_4 : (m5 l v rows)[4]? = some (.buf 30 4 rows) := rfl
theorem m5_s : (m5 l v rows).set 4 (.buf 30 4 r2) = m5 l v r2 := rfl
end
theorem swap_va (t b R : List Val) (x z : Val) : (((t ++ [z] ++ x :: b ++ R).map vaX).set t.length (vaX x)).set (t ++ [z]).length (vaX z) = (t ++ x :: (z :: b) ++ R).map vaX := by
 simp [List.set_append]
variable (G : Nat → D) (hG : ∀ g, low 0 (G g))
include hG
attribute [local go_sem] Zf Zj Zk Zc Zd Z5 Z6 Ze
attribute [local go_sem ↓] reduceIte
theorem rdecompose_d (l : Lat) (hsm : Sm l) (hc : chkE l = 0) (hdi : W4 l = true) (v : Val) (hv : VSm v) (he : Yb l v = true) (hno : W6 v ≤ 1000) (h : List Ob) : Does Zh G 21 h [.agg (latX l), .agg (vaX v)] (fun h' r => h' = h ∧ r = .sl 4 ((srtV (decV l v)).map vaX)) := by
 refine Y9 G hG (by simp only [lowL, low]; exact ⟨Yy _ l, Yd _ v, trivial⟩) (Wf 0 _) ?_ h
 clear h
 have hown := (pieces_d G hG _ l v (Zr _) hsm hc hdi hv he hno).own G hG
 unfold dB at hown
 have hvs := dec_vsm _ l v (Zr _) hsm (Wt hc) hv he
 have hsz := Y1 (Ua l v) hno
 generalize decV l v = L at *
 simp only [Y4 l, Y5 v] at hown
 refine Y6 Tryz.func21 rfl (Z1 rfl) hG fun hl0 _ => ?_
 simp only [Tryz.ntmps21]
 repeat' first
  | (with_reducible first | refine sA rfl ?_ | refine sT rfl ?_)
  | (with_reducible refine Y7 ?_; first | refine Yp ?_ | (refine ao1 rfl rfl fun K HK => ?_; simp only [go_sem, Y4 l, Y5 v, Zo, Z8, Zb, Z4, Z9] <;> (refine HK _ _ ?_; clear HK K)) | (refine ao2 rfl rfl rfl ent_45 (hown _) ?_; rintro _ _ ⟨rfl, rfl⟩))
 all_goals first | (exfalso; omega) | skip
 refine Yf (fun m e h' => ∃ (k : Nat), k ≤ L.length ∧ m = L.length - k ∧ h' = m5 l v ((srtV (L.take k) ++ L.drop k).map vaX) ∧ e 5 = .buf 4 L.length ∧ e 6 = .v (.int .i64 k)) L.length ⟨0, Zp _, rfl, by rw [m5, Y4 l, Y5 v]; rfl, rfl, rfl⟩ ?_
 rintro m e h' ⟨k, hk, rfl, rfl, e5, e6⟩
 by_cases hlt : k < L.length
 rotate_left
 · obtain rfl : k = L.length := by omega
   rw [Zn, List.drop_length, Ys6]
   have hll : (srtV L).length = L.length := (U1 _).length_eq
   have hlo := Wf 0 (srtV L)
   generalize srtV L = M at *
   repeat' first
    | (with_reducible first | refine sA rfl ?_ | refine sI rfl rfl ?_ | refine sT rfl ?_ | refine sB rfl ?_)
    | (with_reducible refine Y7 ?_; first | refine Yp ?_ | (refine ao1 rfl rfl fun K HK => ?_; simp only [go_sem, e5, e6, m5_4]; (first | refine Yt (fun hq => ?_) (fun hq => ?_) | skip) <;> (refine HK _ _ ?_; clear HK K)))
    | (exfalso; omega)
   all_goals first | (exfalso; omega) | exact ⟨.inr rfl, endD (ds := [.buf 4 L.length]) (r := .sl 4 (M.map vaX)) hl0 rfl (by simp) (by simp) (by simp [outD, cvD, cv1, hll, m5]) hlo ⟨rfl, rfl⟩⟩
 have hx : L[k]? = some L[k] := Z2 hlt
 have hdr : L.drop k = L[k] :: L.drop (k + 1) := List.drop_eq_getElem_cons hlt
 have htk : L.take (k + 1) = L.take k ++ [L[k]] := by rw [Zm, hx]; rfl
 have hof := srt_snoc (L.take k) L[k]
 rw [← htk] at hof
 have hxs := hvs _ (Zt hlt)
 have hss : ∀ y ∈ srtV (L.take k), VSm y := fun y hy => hvs y (List.mem_of_mem_take ((U1 _).mem_iff.1 hy))
 have hso := Zb6 (L.take k)
 have hsl : (srtV (L.take k)).length = k := by rw [(U1 _).length_eq, Zu]; omega
 have hdl : (L.drop (k + 1)).length = L.length - (k + 1) := List.length_drop
 rw [hdr]
 generalize L[k] = x at *
 generalize srtV (L.take k) = s at *
 generalize hR : L.drop (k + 1) = R at *
 have wk : IntKind.i64.wrap ((k : Int) + 1) = (k : Int) + 1 := IntWalk.i64_in _ (by omega)
 have F : _ ∧ _ := ⟨e5, e6⟩
 repeat' first
  | refine gg ?_
  | refine Two.mk (fun hq => ?_) fun hq => ?_
  | (exfalso; omega)
 all_goals first | (exfalso; omega) | skip
 refine Yf (fun m e h' => ∃ (a b : List Val), a ++ b = s ∧ m = a.length ∧ (∀ y ∈ b, valC y x > 0) ∧ h' = m5 l v ((a ++ x :: b ++ R).map vaX) ∧ e 5 = .buf 4 L.length ∧ e 6 = .v (.int .i64 k) ∧ e 7 = .v (.int .i64 a.length)) s.length
  ⟨s, [], by simp, rfl, by simp, by simp, e5, e6, by rw [hsl]; rfl⟩ ?_
 clear e5 e6
 rintro m e h' ⟨a, b, rfl, rfl, hgt, rfl, e5, e6, e7⟩
 have hrl : ((a ++ x :: b ++ R).map vaX).length = L.length := by simp only [Z0, Z3, Z4] at *; omega
 have hla : a.length ≤ k := by rw [Z3] at hsl; omega
 rcases List.eq_nil_or_concat a with rfl | ⟨t, z, hz⟩
 · have hi := insV_at (A := []) hso hgt (by simp)
   have h00 : (([] : List Val).length : Int) = 0 := rfl
   have F : _ ∧ _ ∧ _ ∧ _ ∧ _ := ⟨e5, e6, e7, wk, h00⟩
   repeat' first
    | (with_reducible refine Ya ?_; refine Y8 mixd (by kernel_rfl) ?_)
    | refine gg ?_
    | refine Two.mk (fun hq => ?_) fun hq => ?_
    | (exfalso; omega)
   all_goals first | (exfalso; omega) | exact ⟨rfl, L.length - (k + 1), by omega, k + 1, by omega, rfl, by rw [hof, hi, hR]; simp, e5, rfl⟩
 rw [List.concat_eq_append] at hz; subst hz
 have hcm := rcmp_va G hG _ z x (Zr _) (hss z (by simp)) hxs
 have w1 : IntKind.i64.wrap (((t ++ [z]).length : Int) - 1) = (t.length : Int) := by rw [show (((t ++ [z]).length : Int) - 1) = (t.length : Int) by simp]; exact IntWalk.i64_in _ (by rw [Z3] at hla; omega)
 have hzr : ((t ++ [z] ++ x :: b ++ R).map vaX)[(t.length : Int).toNat]? = some (vaX z) := by rw [Z7]; simp
 have hxr : ((t ++ [z] ++ x :: b ++ R).map vaX)[((t ++ [z]).length : Int).toNat]? = some (vaX x) := by rw [Z7, List.getElem?_map, Zg, List.getElem?_append_right (Zr _)]; simp
 have hpos : (0 : Int) < ((t ++ [z]).length : Int) := by rw [Z3]; simp only [Z4, Z9]; omega
 have hlt3 : ((t ++ [z]).length : Int) < (L.length : Int) := by simp only [Z3, Z4, Z9] at *; omega
 have hlt4 : (t.length : Int) < (L.length : Int) := by simp only [Z3, Z4, Z9] at *; omega
 have hn1 : t.length + 1 = (t ++ [z]).length := by simp
 have hsw := swap_va t b R x z
 generalize (t ++ [z]).length = n1 at *
 generalize hrw : (t ++ [z] ++ x :: b ++ R).map vaX = rows at *
 have hne : t.length ≠ n1 := by omega
 have hxr2 : ∀ y, (rows.set (t.length : Int).toNat y)[(n1 : Int).toNat]? = some (vaX x) := fun y => by rw [List.getElem?_set_ne (by rw [Z7, Z7]; exact hne)]; exact hxr
 have hls : ∀ y, (rows.set (t.length : Int).toNat y).length = L.length := fun y => by rw [List.length_set]; exact hrl
 simp only [Y5 z, Y5 x] at hcm hzr hxr hxr2 hsw
 generalize hC : valC z x = C at *
 have F : _ ∧ _ ∧ _ ∧ _ ∧ _ ∧ _ ∧ _ ∧ _ := ⟨e5, e6, e7, wk, w1, hpos, Y5 x, Y5 z⟩
 repeat' first
  | (with_reducible refine Ya ?_; refine X7 mixd (by kernel_rfl) ?_)
  | ((with_reducible refine Uf ?_); first | (refine aS_idxB rfl rfl rfl rfl m5_4 hrl (by rw [elT_27]; exact szT_30) (by omega) (by omega) ?_) | (refine aS_idxB rfl rfl rfl rfl rfl (hls _) (by rw [elT_27]; exact szT_30) (by omega) (by omega) ?_) | (refine Zz1 rfl rfl rfl m5_4 hrl hzr (by rw [getD_agg' aggT_30, szT_30]; rfl) ?_) | (refine Zz1 rfl rfl rfl m5_4 hrl hxr (by rw [getD_agg' aggT_30, szT_30]; rfl) ?_) | (refine aS_storeB rfl rfl m5_4 hrl hzr rfl (by rw [szT_30]; rfl) (Zr 4) ?_) | (refine aS_storeB rfl rfl rfl (hls _) (hxr2 _) rfl (by rw [szT_30]; rfl) (Zr 4) ?_) | (refine aS1 rfl rfl fun K HK => ?_; (first | refine Ym rfl ?_ | skip); simp only [go_sem, F]; (first | refine Yt (fun hq => ?_) (fun hq => ?_) | skip) <;> (refine HK _ _ rfl ?_; clear HK K)) | refine Wv (by simp only [Zq, Zs, Zb, Z8, Wc, chk1]; repeat' (first | exact trivial | refine Y2 ?_ ?_ | exact .inr Yq | exact .inr Yx | exact .inr X9 | exact .inl (by kernel_rfl))) ?_ | refine Xd rfl rfl rfl ent_46 (fun h2 => hcm _) ?_)
  | refine gg ?_
  | refine Two.mk (fun hq => ?_) fun hq => ?_
 · refine ⟨rfl, t.length, by omega, t, z :: b, by simp, rfl, fun y hy => ?_, ?_, e5, e6, rfl⟩
   · rcases List.mem_cons.1 hy with rfl | hy
     · omega
     · exact hgt y hy
   · show (m5 l v rows).set 4 (.buf 30 4 ((rows.set (t.length : Int).toNat _).set (n1 : Int).toNat _)) = _
     rw [m5_s, Z7, Z7, hsw]
 · have hi := insV_at (A := t ++ [z]) hso hgt (fun y hy => by simp at hy; rw [← hy]; omega)
   exact ⟨rfl, L.length - (k + 1), by omega, k + 1, by omega, rfl, by rw [hof, hi, hR, ← hrw], e5, rfl⟩
end
section
attribute [local irreducible] on aOp
attribute [local go_sem] decide_true decide_false Zl Zi
attribute [local simp] byD_len
theorem errF_14 {l : Lat} {L : List Val} (h : errF l L ≠ 0) : errF l L = 1 ∨ errF l L = 4 := by
 unfold errF at h ⊢
 by_cases hc : chkE l ≠ 0
 · rw [if_pos hc]; exact .inl rfl
 · rw [if_neg hc] at h ⊢
   by_cases ha : L.all (Yb l) = true
   · rw [if_pos ha] at h; exact absurd rfl h
   · rw [if_neg ha]; exact .inr rfl
variable (G : Nat → D) (hG : ∀ g, low 0 (G g))
include hG
attribute [local go_sem] Zo Zf Zj Zk Zc Zd Z5 Z6 Ze
attribute [local go_sem ↓] reduceIte
theorem lawDec (aw : ∀ h : List Ob, Does Zh G 15 h [] (fun h' r => h' = h ∧ r = .v (.bool true))) (l : Lat) (hsm : Sm l) (v : Val) (hv : VSm v) (h : List Ob) : Does Zh G 3 h [.agg (latX l), .agg (vaX v)] (fun h' r => h' = h ∧ r = .v (.bool true)) := by
 refine Y9 G hG (by simp only [lowL, low]; exact ⟨Yy _ l, Yd _ v, trivial⟩) (by rw [low]; trivial) ?_ h
 clear h
 have h1 : ∀ x ∈ [v], VSm x := fun x hx => by rw [Y3.1 hx]; exact hv
 have hsl : ∀ (h : List Ob) (i : Nat), h[i]? = some (.buf 30 4 [vaX v]) → Does Zh G 16 h [.buf i 1] (fun h' r => h' = h ∧ r = .v (.bool (Zv2 [v]))) := fun h i hi => Does.borrow hG hi rfl (by rw [lowL]; trivial) (U6 [v]) (small12_d G hG [v] h1 (by simp) [])
 have hfa : ∀ (h : List Ob) (i : Nat), h[i]? = some (.buf 30 4 [vaX v]) → Does Zh G 17 h [.agg (latX l), .buf i 1] (fun h' r => h' = h ∧ r = .v (.int .i64 (errF l [v]))) := fun h i hi => Does.borrow2 hG hi rfl (by rw [low]; exact Yy _ l) (U6 [v]) (fault_d G hG l hsm [v] h1 (by simp) [])
 cases hs : Zv2 [v]
 · rw [hs] at hsl
   simp only [Y4 l, Y5 v] at hsl
   refine Y6 Tryz.func3 rfl (Z1 rfl) hG fun hl0 _ => ?_
   simp only [Tryz.ntmps3]
   have F : _ ∧ _ := ⟨Y4 l, Y5 v⟩
   repeat' first
    | refine g0 ?_
    | (with_reducible refine Y7 ?_; first | refine gc rfl rfl rfl ent_15 (aw _) ?_ | refine gc rfl rfl rfl ent_16 (hsl _ _ rfl) ?_)
   all_goals first | (exfalso; omega) | exact ⟨.inr rfl, endD (r := .v (.bool true)) hl0 rfl (by simp) (by simp) rfl (by rw [low]; trivial) ⟨rfl, rfl⟩⟩
 rw [hs] at hsl
 have hnd : (W6 v : Int) ≤ 40 := by simpa [Zv2] using hs
 have hir := Zw1 G hG l hsm v hv (by omega)
 unfold decE at hir
 by_cases h0 : errF l [v] = 0
 rotate_left
 · rw [if_pos h0, if_neg h0] at hir
   simp only [Y4 l, Y5 v] at hsl hfa hir
   refine Y6 Tryz.func3 rfl (Z1 rfl) hG fun hl0 _ => ?_
   simp only [Tryz.ntmps3]
   rcases errF_14 h0 with e | e
   all_goals
    rw [e] at hir hfa
    have F : _ ∧ _ := ⟨Y4 l, Y5 v⟩
    repeat' first
     | refine g0 ?_
     | (with_reducible refine Y7 ?_; first | refine gc rfl rfl rfl ent_15 (aw _) ?_ | refine gc rfl rfl rfl ent_16 (hsl _ _ rfl) ?_ | refine gc rfl rfl rfl ent_17 (hfa _ _ rfl) ?_ | refine gc rfl rfl rfl ent_19 (hir _) ?_)
    all_goals first | (exfalso; omega) | exact ⟨.inr rfl, endD (r := .v (.bool true)) hl0 rfl (by simp) (by simp) rfl (by rw [low]; trivial) ⟨rfl, rfl⟩⟩
 simp only [h0, ne_eq, not_true_eq_false, if_false] at hir
 rw [h0] at hfa
 obtain ⟨hc, hev⟩ := errF_ok.1 h0
 have hel := hev v (by simp)
 have hwf := Wt hc
 have hrr := rdist_d G hG _ l (Zr _) hwf
 simp only [Y4 l] at hrr
 cases hr : W4 l
 · rw [hr] at hrr
   simp only [hr, if_true, Zf, if_false] at hir
   simp only [Y4 l, Y5 v] at hsl hfa hir
   refine Y6 Tryz.func3 rfl (Z1 rfl) hG fun hl0 _ => ?_
   simp only [Tryz.ntmps3]
   have F : _ ∧ _ := ⟨Y4 l, Y5 v⟩
   repeat' first
    | refine g0 ?_
    | (with_reducible refine Y7 ?_; first | refine gc rfl rfl rfl ent_15 (aw _) ?_ | refine gc rfl rfl rfl ent_16 (hsl _ _ rfl) ?_ | refine gc rfl rfl rfl ent_17 (hfa _ _ rfl) ?_ | refine gc rfl rfl rfl ent_18 (hrr _) ?_ | refine gc rfl rfl rfl ent_19 (hir _) ?_)
   all_goals first | (exfalso; omega) | exact ⟨.inr rfl, endD (r := .v (.bool true)) hl0 rfl (by simp) (by simp) rfl (by rw [low]; trivial) ⟨rfl, rfl⟩⟩
 rw [hr] at hrr
 simp only [hr, Bool.true_eq_false, if_false, if_true] at hir
 have hrd := rdecompose_d G hG l hsm hc hr v hv hel (by omega)
 have hsa := same12_d G hG (srtV (decV l v)) (fun x hx => dec_vsm _ l v (Zr _) hsm hwf hv hel x ((U1 _).mem_iff.1 hx)) (by rw [(U1 _).length_eq]; have := Ua l v; omega)
 generalize srtV (decV l v) = M at *
 simp only [Y4 l, Y5 v] at hsl hfa hir hrd
 refine Y6 Tryz.func3 rfl (Z1 rfl) hG fun hl0 _ => ?_
 simp only [Tryz.ntmps3]
 have F : _ ∧ _ := ⟨Y4 l, Y5 v⟩
 repeat' first
  | refine g0 ?_
  | (with_reducible refine Y7 ?_; first | refine gc rfl rfl rfl ent_15 (aw _) ?_ | refine gc rfl rfl rfl ent_16 (hsl _ _ rfl) ?_ | refine gc rfl rfl rfl ent_17 (hfa _ _ rfl) ?_ | refine gc rfl rfl rfl ent_18 (hrr _) ?_ | refine gc rfl rfl rfl ent_19 (hir _) ?_ | refine gc rfl rfl rfl ent_21 (hrd _) ?_ | refine gc rfl rfl rfl ent_20 (hsa _) ?_)
 all_goals first | (exfalso; omega) | exact ⟨.inr rfl, endD (r := .v (.bool true)) hl0 rfl (by simp) (by simp) rfl (by rw [low]; trivial) ⟨rfl, rfl⟩⟩
end
end Go.Proofs.YtbhkcbidcfofiaaGreat
