/-
  What the statements of the chapter share, part 16: SH4, CM3, CM4.
-/
import Derived.Test.YtgkjcmglcnhpaaaGreatDoorR14
import Derived.Test.YtgkjcmglcnhpaaaGreatDoorR15
set_option linter.unusedVariables false
set_option linter.unusedSimpArgs false
set_option maxRecDepth 100000
set_option maxHeartbeats 8000000
namespace Go.Proofs.YtgkjcmglcnhpaaaGreatDoor
open _root_.Bool renaming not_false → Zb, not_true → Zc
open _root_.Int renaming reduceEq → Z7, reduceLT → Z8, reduceLE → Z9
open _root_.List renaming length_append → Z3
open _root_.Nat renaming le_of_ble_eq_true → Z0, reduceEqDiff → Z1, reduceLeDiff → Z2, reduceAdd → Z4, reduceBEq → Z5, reduceMul → Z6
open _root_.Go.Proofs.Tryz renaming prog → Za
open Go.RowKit
section
attribute [local irreducible] on aOp
attribute [local go_sem] decide_true decide_false Zc Zb
attribute [local simp] byD_len
def keyS : ByteArray := ⟨#[107, 101, 121]⟩
def Up (master : List UInt8) (p ht : Int) : List UInt8 := tagZ master (Yv keyS ++ (intE p ++ intE ht))
def Xm (master : List UInt8) (p ht : Int) (m : List UInt8) : List UInt8 := tagZ (Up master p ht) m
theorem Jz (master : List UInt8) (p ht : Int) (m : List UInt8) : (Xm master p ht m).length = 32 := tagZ_len _ _
theorem Ze2 (master : List UInt8) (p ht : Int) : (Up master p ht).length = 32 := tagZ_len _ _
def X4 (master : List UInt8) (p ht : Int) : Ob := .cells [.sl 1 (byD master), .v (.int .i64 p), .v (.int .i64 ht)]
theorem Ya7 (master : List UInt8) (p ht : Int) : X4 master p ht = .cells [.sl 1 (byD master), .v (.int .i64 p), .v (.int .i64 ht)] := rfl
theorem Zr3 (m : Nat) (master : List UInt8) (p ht : Int) : Zl8 m (X4 master p ht) := ⟨Yb m _, by simp [lowL, low]⟩
theorem keyM_len {p ht : Int} (hp : I64 p) (hh : I64 ht) : (Yv keyS ++ (intE p ++ intE ht)).length ≤ 40 := by
 have h1 := Xq hp
 have h2 := Xq hh
 have h3 : (Yv keyS).length = 4 := by unfold Yv; rw [Wg (show keyS.size < 128 by decide)]; rfl
 simp only [Z3]; omega
theorem keyM_ne {p ht : Int} : (Yv keyS ++ (intE p ++ intE ht)) ≠ [] := by
 unfold Yv; simp [keyS]
variable (G : Nat → D) (hG : ∀ g, low 0 (G g)) (hK : G 1 = .rp (shaK.map zD))
include hG hK
theorem derive_d (master : List UInt8) (p ht : Int) (hp : I64 p) (hh : I64 ht) (hm : master.length ≤ 1000000) (h : List Ob) : Does Za G 96 h [.sl 1 (byD master), .v (.int .i64 p), .v (.int .i64 ht)] (fun h' r => h' = h ∧ r = .sl 1 (byD (Up master p ht))) := by
 refine Yf G hG (by rw [lowL]; exact ⟨Yb _ _, by simp [lowL, low]⟩) (Yb _ _) ?_ h
 have hl := keyM_len hp hh
 have hne := keyM_ne (p := p) (ht := ht)
 have h1 := Xq hp
 have h3 : (Yv keyS).length = 4 := by unfold Yv; rw [Wg (show keyS.size < 128 by decide)]; rfl
 refine Y5 Tryz.func96 rfl (Z0 rfl) hG fun hl0 _ => ?_
 simp only [Tryz.ntmps96]
 repeat' first
  | (refine Zc2 5 1 0 [] [] rfl ?_)
  | refine sA rfl ?_
  | refine Y4 ?_
  | (refine ao1 rfl rfl fun K HK => ?_; simp only [go_sem, ↓reduceIte, Z1, Z4, Z2, Z5, Z6, Z7, Z8, Z9] <;> (refine HK _ _ ?_; clear HK K))
  | (refine ao2 rfl rfl rfl ent_55 (Zx8 G hG [] keyS (by decide) (by simp)) ?_; rintro _ _ ⟨rfl, rfl⟩)
  | (refine ao2 rfl rfl rfl Zl3 (wInt_d G hG (Yv keyS) p hp (by omega)) ?_; rintro _ _ ⟨rfl, rfl⟩)
  | (refine ao2 rfl rfl rfl Zl3 (wInt_d G hG (Yv keyS ++ intE p) ht hh (by rw [Z3]; omega)) ?_; rintro _ _ ⟨rfl, rfl⟩)
  | (refine ao2 rfl rfl rfl ent_46 (wData_d G hG (Yv keyS ++ (intE p ++ intE ht)) (by omega)) ?_; rintro _ _ ⟨rfl, rfl⟩)
  | (refine ao2 rfl rfl rfl ent_95 (tag_d G hG master (Yv keyS ++ (intE p ++ intE ht)) hne hm (by omega) hK _) ?_; rintro _ _ ⟨rfl, rfl⟩)
 exact ⟨.inr rfl, endD (r := .sl 1 (byD (Up master p ht))) hl0 rfl (by simp) (by simp) rfl (Yb _ _) ⟨rfl, rfl⟩⟩
theorem mSign_d (i : Nat) (master : List UInt8) (p ht : Int) (m : List UInt8) (hp : I64 p) (hm : master.length ≤ 1000000) (hml : m.length ≤ 80000000) (hne : m ≠ []) (h : List Ob) (hi : h[i]? = some (X4 master p ht)) (hh : ht ≤ 0) :
 Does Za G 72 h [.ptr i 0, .v (.int .i64 0), .sl 1 (byD m)] (fun h' r => h' = h ∧ r = .tup [.sl 1 (byD (Xm master p 0 m)), .v (.int .i64 0)]) := by
 rw [Ya7] at hi
 have hd := Ze2 master p 0
 have hn : ¬ (0 : Int) < ht := by omega
 refine Y5 Tryz.func72 rfl (Z0 rfl) hG fun hl0 _ => ?_
 simp only [Tryz.ntmps72]
 repeat' first
  | (refine ao1 rfl rfl fun K HK => ?_; refine Yy (by first | rfl | (simp only [go_sem, hi]; rfl)) (by assumption) (by rw [getD_one (by first | (simp only [go_sem]; rfl) | (simp only [go_sem]; done))]; rfl) ?_; refine HK _ _ ?_; clear HK K)
  | (refine aq1 rfl rfl fun K HK => ?_; refine Yy (by first | rfl | (simp only [go_sem, hi]; rfl)) (by assumption) (by rw [getD_one (by first | (simp only [go_sem]; rfl) | (simp only [go_sem]; done))]; rfl) ?_; refine HK _ _ rfl ?_; clear HK K)
  | refine sA rfl ?_ | refine sI rfl rfl ?_ | refine sT rfl ?_
  | refine Y4 ?_
  | ((first | refine ao1 rfl rfl fun K HK => ?_ | refine aq1 rfl rfl fun K HK => ?_); simp only [go_sem, ↓reduceIte, Z1, Z4, Z2, Z5, Z6, Z7, Z8, Z9, hi]; (first | refine Y6 (fun hq => ?_) (fun hq => ?_) | skip) <;> ((first | refine HK _ _ ?_ | refine HK _ _ rfl ?_); clear HK K))
  | refine X2 ?_
  | (refine Ya mixd (by kernel_rfl) ?_)
  | refine aq2 rfl rfl rfl ent_96 (derive_d G hG hK master p 0 hp (by simp [I64]) hm _) ?_
  | refine aq2 rfl rfl rfl ent_95 (tag_d G hG (Up master p 0) m hne (by omega) (by omega) hK _) ?_
  | (exfalso; omega)
 all_goals first
 | (exfalso; omega)
 | exact ⟨.inr rfl, endD (r := .tup [.sl 1 (byD (Xm master p 0 m)), .v (.int .i64 0)]) hl0 rfl (by simp) (by simp) rfl (by rw [low, lowL, lowL, lowL]; exact ⟨Yb _ _, by rw [low]; trivial, trivial⟩) ⟨rfl, rfl⟩⟩
omit hK in
theorem mProcess_d (i : Nat) (master : List UInt8) (p ht : Int) (h : List Ob) (hi : h[i]? = some (X4 master p ht)) : Does Za G 71 h [.ptr i 0] (fun h' r => h' = h ∧ r = .v (.int .i64 p)) := by
 rw [Ya7] at hi
 refine Y5 Tryz.func71 rfl (Z0 rfl) hG fun hl0 _ => ?_
 simp only [Tryz.ntmps71]
 repeat' first
  | refine sA rfl ?_
  | refine Y4 ?_
  | (refine ao1 rfl rfl fun K HK => ?_; simp only [go_sem, ↓reduceIte, Z1, Z4, Z2, Z5, Z6, Z7, Z8, Z9, hi] <;> (refine HK _ _ ?_; clear HK K))
 exact ⟨.inr rfl, endD (r := .v (.int .i64 p)) hl0 rfl (by simp) (by simp) rfl (by simp [low]) ⟨rfl, rfl⟩⟩
omit hK in
theorem equal_d (a b : List UInt8) (h : List Ob) : Does Za G 94 h [.sl 1 (byD a), .sl 1 (byD b)] (fun h' r => h' = h ∧ r = .v (.bool (decide (a = b)))) := by
 refine Y5 Tryz.func94 rfl (Z0 rfl) hG fun hl0 _ => ?_
 simp only [Tryz.ntmps94]
 repeat' first
  | (refine ao1 rfl rfl fun K HK => ?_; refine aOp_bsl rfl (by simp only [go_sem]) (by simp only [go_sem]) ?_; refine HK _ _ ?_; clear HK K)
  | refine sA rfl ?_
  | refine Y4 ?_
  | (refine ao1 rfl rfl fun K HK => ?_; simp only [go_sem, ↓reduceIte, Z1, Z4, Z2, Z5, Z6, Z7, Z8, Z9]; (first | refine Y6 (fun hq => ?_) (fun hq => ?_) | skip) <;> (refine HK _ _ ?_; clear HK K))
 all_goals first
 | (have e : a = b := by (simpa using hq)
    rw [decide_eq_true e]
    exact ⟨.inr rfl, endD (r := .v (.bool true)) hl0 rfl (by simp) (by simp) rfl (by rw [low]; trivial) ⟨rfl, rfl⟩⟩)
 | (have e : ¬ a = b := fun e => hq (by rw [e])
    rw [decide_eq_false e]
    exact ⟨.inr rfl, endD (r := .v (.bool false)) hl0 rfl (by simp) (by simp) rfl (by rw [low]; trivial) ⟨rfl, rfl⟩⟩)
omit hK in
theorem equal_e {a b : List UInt8} {bb : Bool} (q : decide (a = b) = bb) (h : List Ob) : Does Za G 94 h [.sl 1 (byD a), .sl 1 (byD b)] (fun h' r => h' = h ∧ r = .v (.bool bb)) := q ▸ equal_d G hG a b h
theorem mVerify_d (i : Nat) (master : List UInt8) (p0 ht0 p ht : Int) (m tag : List UInt8) (hp : I64 p) (hh : I64 ht) (hm : master.length ≤ 1000000) (hml : m.length ≤ 80000000) (hne : m ≠ []) (h : List Ob) (hi : h[i]? = some (X4 master p0 ht0)) :
 Does Za G 65 h [.ptr i 0, .v (.int .i64 p), .v (.int .i64 ht), .sl 1 (byD m), .sl 1 (byD tag)] (fun h' r => h' = h ∧ r = .v (.bool (decide (tag = Xm master p ht m)))) := by
 rw [Ya7] at hi
 have hd := Ze2 master p ht
 generalize hbb : decide (tag = Xm master p ht m) = bb
 refine Y5 Tryz.func65 rfl (Z0 rfl) hG fun hl0 _ => ?_
 simp only [Tryz.ntmps65]
 repeat' first
  | (refine ao1 rfl rfl fun K HK => ?_; refine Yy (by first | rfl | (simp only [go_sem, hi]; rfl)) (by assumption) (by rw [getD_one (by first | (simp only [go_sem]; rfl) | (simp only [go_sem]; done))]; rfl) ?_; refine HK _ _ ?_; clear HK K)
  | refine sA rfl ?_
  | refine Y4 ?_
  | (refine ao1 rfl rfl fun K HK => ?_; simp only [go_sem, ↓reduceIte, Z1, Z4, Z2, Z5, Z6, Z7, Z8, Z9, hi] <;> (refine HK _ _ ?_; clear HK K))
  | (refine ao2 rfl rfl rfl ent_96 (derive_d G hG hK master p ht hp hh hm _) ?_; rintro _ _ ⟨rfl, rfl⟩)
  | (refine ao2 rfl rfl rfl ent_95 (tag_d G hG (Up master p ht) m hne (by omega) (by omega) hK _) ?_; rintro _ _ ⟨rfl, rfl⟩)
  | (refine ao2 rfl rfl rfl ent_94 (equal_e G hG hbb _) ?_; rintro _ _ ⟨rfl, rfl⟩)
 exact ⟨.inr rfl, endD (r := .v (.bool bb)) hl0 rfl (by simp) (by simp) rfl (by rw [low]; trivial) ⟨rfl, rfl⟩⟩
end
section
attribute [local irreducible] on aOp
attribute [local go_sem] decide_true decide_false Zc Zb
attribute [local simp] byD_len
def cmdS : ByteArray := ⟨#[99, 111, 109, 109, 97, 110, 100]⟩
def Zu1 : ByteArray := ⟨#[114, 101, 97, 100]⟩
def V5 (c : Cmd) : List UInt8 := Yv cmdS ++ Ww c
def Yd (client number : Int) : List UInt8 := Yv Zu1 ++ (intE client ++ intE number)
theorem Yc4 : (Yv cmdS).length = 8 := by unfold Yv; rw [Wg (show cmdS.size < 128 by decide)]; rfl
theorem Zf1 : (Yv Zu1).length = 5 := by unfold Yv; rw [Wg (show Zu1.size < 128 by decide)]; rfl
theorem Zt3 (c : Cmd) (hc : c.Ok) : (V5 c).length ≤ 60062000 := by
 have := Zh9 c hc
 unfold V5; rw [Z3, Yc4]; omega
theorem bodyZ_ne (c : Cmd) : V5 c ≠ [] := fun h => by
 have := congrArg List.length h
 unfold V5 at this
 rw [Z3, Yc4] at this; simp at this
theorem Wz {a b : Int} (ha : I64 a) (hb : I64 b) : (Yd a b).length ≤ 25 := by
 have h1 := Xq ha
 have h2 := Xq hb
 unfold Yd; simp only [Z3, Zf1]; omega
theorem Zk7 (a b : Int) : Yd a b ≠ [] := fun h => by
 have := congrArg List.length h
 unfold Yd at this
 rw [Z3, Zf1] at this; simp at this
variable (G : Nat → D) (hG : ∀ g, low 0 (G g))
include hG
theorem e_text0 (c : Cmd) (s : ByteArray) (hs : s.size ≤ 10000000) : Does Za G 55 (hE c 0 []) [.ptr 1 0, .v (.string s)] (fun h' r => h' = hE c (Yv s).length (byD (Yv s)) ∧ r = .tup []) :=
 w_at G hG (l := []) (l2 := Yv s) (by rw [lowL, lowL]; exact ⟨by rw [low]; trivial, trivial⟩) (by simp [low, lowL]) (Zx8 G hG [] s hs (by simp)) (i := 1) (j := 2) rfl rfl
theorem e_write1 (l : List UInt8) (hl : l.length ≤ 1000000) (c : Cmd) (hc : c.Ok) : Does Za G 44 (hE c l.length (byD l)) [.ptr 1 0, .agg (cmdX c)] (fun h' r => h' = hE c (l ++ Ww c).length (byD (l ++ Ww c)) ∧ r = .tup []) :=
 w_at G hG (l := l) (l2 := l ++ Ww c) (by rw [lowL, lowL]; exact ⟨W0 _ _, trivial⟩) (by simp [low, lowL]) (write_d G hG l c hc hl) (i := 1) (j := 2) rfl rfl
theorem body_d (c : Cmd) (hc : c.Ok) (h : List Ob) : Does Za G 21 h [.agg (cmdX c)] (fun h' r => h' = h ∧ r = .sl 1 (byD (V5 c))) := by
 refine Yf G hG (by rw [lowL, lowL]; exact ⟨W0 _ _, trivial⟩) (Yb _ _) ?_ h
 have hl := Zt3 c hc
 refine Y5 Tryz.func21 rfl (Z0 rfl) hG fun hl0 _ => ?_
 simp only [Tryz.ntmps21]
 repeat' first
  | (with_reducible first | refine sA rfl ?_ | refine sT rfl ?_)
  | (with_reducible refine Y8 ?_; first | (refine Zc2 5 1 1 [] [] rfl ?_) | refine Y4 ?_ | (refine ao1 rfl rfl fun K HK => ?_; simp only [go_sem, ↓reduceIte, Z1, Z4, Z2, Z5, Z6, Z7, Z8, Z9, hE_0, Yi] <;> (refine HK _ _ ?_; clear HK K)) | (refine ao2 rfl rfl rfl ent_44 (e_write1 G hG (Yv cmdS) (by rw [Yc4]; decide) c hc) ?_; rintro _ _ ⟨rfl, rfl⟩))
  | ((with_reducible refine Y8 ?_); first | (refine ao2 rfl rfl rfl ent_55 (e_text0 G hG c cmdS (by decide)) ?_; rintro _ _ ⟨rfl, rfl⟩) | (refine ao2 rfl rfl rfl ent_46 (e_data G hG c (V5 c) (by omega)) ?_; rintro _ _ ⟨rfl, rfl⟩))
 exact ⟨.inr rfl, endD (r := .sl 1 (byD (V5 c))) hl0 rfl (by simp) (by simp) rfl (Yb _ _) ⟨rfl, rfl⟩⟩
theorem Zv5 (a b : Int) (ha : I64 a) (hb : I64 b) (h : List Ob) : Does Za G 73 h [.v (.int .i64 a), .v (.int .i64 b)] (fun h' r => h' = h ∧ r = .sl 1 (byD (Yd a b))) := by
 refine Yf G hG (by simp [lowL, low]) (Yb _ _) ?_ h
 have hl := Wz ha hb
 have h1 := Xq ha
 have h3 := Zf1
 refine Y5 Tryz.func73 rfl (Z0 rfl) hG fun hl0 _ => ?_
 simp only [Tryz.ntmps73]
 repeat' first
  | (with_reducible first | refine sA rfl ?_ | refine sT rfl ?_)
  | (with_reducible refine Y8 ?_; first | (refine Zc2 5 1 0 [] [] rfl ?_) | refine Y4 ?_ | (refine ao1 rfl rfl fun K HK => ?_; simp only [go_sem, ↓reduceIte, Z1, Z4, Z2, Z5, Z6, Z7, Z8, Z9] <;> (refine HK _ _ ?_; clear HK K)) | (refine ao2 rfl rfl rfl Zl3 (wInt_d G hG (Yv Zu1) a ha (by omega)) ?_; rintro _ _ ⟨rfl, rfl⟩))
  | ((with_reducible refine Y8 ?_); first | (refine ao2 rfl rfl rfl ent_55 (Zx8 G hG [] Zu1 (by decide) (by simp)) ?_; rintro _ _ ⟨rfl, rfl⟩) | (refine ao2 rfl rfl rfl Zl3 (wInt_d G hG (Yv Zu1 ++ intE a) b hb (by rw [Z3]; omega)) ?_; rintro _ _ ⟨rfl, rfl⟩) | (refine ao2 rfl rfl rfl ent_46 (wData_d G hG (Yv Zu1 ++ intE a ++ intE b) (by simp only [Z3]; simp only [Yd, Z3] at hl; omega)) ?_; rintro _ _ ⟨rfl, rfl⟩))
 exact ⟨.inr rfl, endD (r := .sl 1 (byD (Yd a b))) hl0 rfl (by simp) (by simp) (by unfold Yd; first | rfl | (rw [← List.append_assoc]; rfl)) (Yb _ _) ⟨rfl, rfl⟩⟩
end
section
attribute [local irreducible] on aOp
attribute [local go_sem] decide_true decide_false Zc Zb
attribute [local simp] byD_len
theorem Wv (m : Nat) (master : List UInt8) (p ht : Int) : lowH m [X4 master p ht] := fun x hx => by
 simp at hx; subst hx; exact Zr3 m master p ht
section
variable {P : Program} {G : Nat → D}
theorem Zn1 (hG : ∀ g, low 0 (G g)) {f : FuncId} {ob : Ob} {args : List D} {r0 : D} (hob : ∀ π, Xv π ob = ob) (lob : Zl8 1 ob) (la : lowL 1 args) (lr : low 0 r0) (q : Does P G f [ob] args (fun h' r => h' = [ob] ∧ r = r0)) {h : List Ob} {i : Nat} (hi : h[i]? = some ob) {args' : List D} (he : renL (fun _ => i) args = args') : Does P G f h args' (fun h' r => h' = h ∧ r = r0) := by
 have L : Lies (fun _ => i) [ob] h := by
  refine ⟨fun k ob' hk => ?_, fun a b ha hb _ => ?_, ?_⟩
  · rcases k with _ | k
    · cases hk; rw [hob]; exact hi
    · simp at hk
  · simp at ha hb; omega
  · intro x hx
    simp at hx; subst hx; exact lob
 have F := Does.frame hG L (args := args) la (K1 := fun h' r => h' = [ob] ∧ r = r0) (by
  rintro _ _ ⟨rfl, _⟩
  refine ⟨fun a b ha hb _ => ?_, fun k h1 h2 => ?_⟩
  · simp at ha hb; omega
  · have h1 : 1 ≤ k := h1
    have h2 : k < 1 := h2
    omega) q
 rw [he] at F
 refine F.mono ?_
 rintro _ _ ⟨_, _, ⟨rfl, rfl⟩, rfl, rfl⟩
 refine ⟨?_, U7 _ _ lr⟩
 simp only [List.map_cons, List.map_nil, plc, hob]
 apply List.ext_getElem?
 intro k
 by_cases hk : i = k
 · subst hk
   rw [List.getElem?_set_self (List.getElem?_eq_some_iff.1 hi).1, hi]
 · rw [List.getElem?_set_ne hk]
end
theorem Zp6 (π : Nat → Nat) (master : List UInt8) (p ht : Int) : Xv π (X4 master p ht) = X4 master p ht := by
 unfold X4
 simp only [Xv, renL, ren, Zp7]
variable (G : Nat → D) (hG : ∀ g, low 0 (G g)) (hK : G 1 = .rp (shaK.map zD))
include hG
theorem new0 (master : List UInt8) (p : Int) (hm : master.length ≤ 1000000) : Does Za G 24 [] [.sl 1 (byD master), .v (.int .i64 p)] (fun h' r => h' = [.dead, X4 master p 0] ∧ r = .ptr 1 0) := by
 refine Does.gaveIn (K := fun h' r => h' = [.buf 5 1 (byD master), .cells [.buf 0 master.length, .v (.int .i64 p), .v (.int .i64 0)]] ∧ r = .ptr 1 0) ?_ ?_
 rotate_left
 · rintro _ _ ⟨rfl, rfl⟩
   exact ⟨1, 0, _, by decide, rfl, by simp [cvD, cv1, X4, byD_len], rfl⟩
 refine Y5 Tryz.func24 rfl (Z0 rfl) hG fun hl0 _ => ?_
 simp only [Tryz.ntmps24]
 repeat' first
  | (with_reducible first | refine sA rfl ?_ | refine sT rfl ?_)
  | (with_reducible refine Y8 ?_; first | (refine ao_make (m := master.length) (el := 5) (k := 1) (by' := 1) (zs := [.v (.int .u8 0)]) rfl rfl rfl rfl (by simp only [go_sem]) (by kernel_rfl) rfl (by omega) hm ?_) | (refine W2 rfl rfl (tri_cpBuf (E := 5) rfl rfl (by simp only [go_sem, Option.bind_some]) rfl (by simp) byD_len (X0 _)) ?_) | refine Y4 ?_ | (refine ao1 rfl rfl fun K HK => ?_; simp only [go_sem, ↓reduceIte, Z1, Z4, Z2, Z5, Z6, Z7, Z8, Z9] <;> (refine HK _ _ ?_; clear HK K)))
 exact ⟨.inr rfl, endX [.ptr 1 0] [.buf 5 1 (byD master), .cells [.buf 0 master.length, .v (.int .i64 p), .v (.int .i64 0)]] [] (.ptr 1 0) rfl rfl (Nat.zero_le _) (fun x hx => by
  simp at hx
  rcases hx with rfl | rfl
  · exact Yb 2 master
  · simp [Zl8, lowL, low]) (by simp [low]) rfl ⟨rfl, rfl⟩⟩
include hK
theorem cSign0 (master : List UInt8) (p ht : Int) (hp : I64 p) (hm : master.length ≤ 1000000) (hh : ht ≤ 0) (c : Cmd) (hc : c.Ok) : Does Za G 32 [X4 master p ht] [.ptr 0 0, .agg (cmdX c)] (fun h' r => h' = [X4 master p ht] ∧ r = .tup [.agg (cmdX { c with tag := Xm master p 0 (V5 c) }), .v (.int .i64 0)]) := by
 have hl := Zt3 c hc
 refine Y5 Tryz.func32 rfl (Z0 rfl) hG fun hl0 _ => ?_
 simp only [Tryz.ntmps32]
 repeat' first
  | (with_reducible first | refine sA rfl ?_ | refine sI rfl rfl ?_ | refine sT rfl ?_)
  | (with_reducible refine Y8 ?_; first | refine Y4 ?_ | (refine ao1 rfl rfl fun K HK => ?_; simp only [go_sem, ↓reduceIte, Z1, Z4, Z2, Z5, Z6, Z7, Z8, Z9, Yi] <;> (refine HK _ _ ?_; clear HK K)) | (refine ao2 rfl rfl rfl ent_21 (body_d G hG c hc _) ?_; rintro _ _ ⟨rfl, rfl⟩) | (refine ao2 rfl rfl rfl ent_72 (mSign_d G hG hK 0 master p ht (V5 c) hp hm (by omega) (bodyZ_ne c) _ rfl hh) ?_; rintro _ _ ⟨rfl, rfl⟩) | (refine ao1' rfl fun K HK => ?_; simp only [go_sem, ↓reduceIte, Z1, Z4, Z2, Z5, Z6, Z7, Z8, Z9, Yi]; refine HK _ _ ?_; clear HK K))
 exact ⟨.inr rfl, endX [.agg (cmdX { c with tag := Xm master p 0 (V5 c) }), .v (.int .i64 0)] [X4 master p ht] [.cells (cmdX { c with tag := Xm master p 0 (V5 c) }), .cells (cmdX { c with tag := Xm master p 0 (V5 c) })] (.tup [.agg (cmdX { c with tag := Xm master p 0 (V5 c) }), .v (.int .i64 0)]) rfl rfl (Nat.le_refl _) (Wv _ _ _ _) (by rw [low, lowL, lowL, lowL]; exact ⟨W0 _ _, by rw [low]; trivial, trivial⟩) rfl ⟨rfl, rfl⟩⟩
theorem cSignRead0 (master : List UInt8) (p ht n : Int) (hp : I64 p) (hp2 : I64 (p - 16)) (hn : I64 n) (hm : master.length ≤ 1000000) (hh : ht ≤ 0) : Does Za G 28 [X4 master p ht] [.ptr 0 0, .v (.int .i64 n)] (fun h' r => h' = [X4 master p ht] ∧ r = .tup [.agg [.v (.int .i64 (p - 16)), .v (.int .i64 n), .sl 1 (byD (Xm master p 0 (Yd (p - 16) n)))], .v (.int .i64 0)]) := by
 have hl := Wz hp2 hn
 have wp : IntKind.i64.wrap (p - 16) = p - 16 := IntWalk.i64_in _ hp2
 refine Y5 Tryz.func28 rfl (Z0 rfl) hG fun hl0 _ => ?_
 simp only [Tryz.ntmps28]
 repeat' first
  | (with_reducible first | refine sA rfl ?_ | refine sI rfl rfl ?_ | refine sT rfl ?_)
  | (with_reducible refine Y8 ?_; first | refine Y4 ?_ | (refine ao1 rfl rfl fun K HK => ?_; simp only [go_sem, ↓reduceIte, Z1, Z4, Z2, Z5, Z6, Z7, Z8, Z9, wp] <;> (refine HK _ _ ?_; clear HK K)) | (refine ao2 rfl rfl rfl ent_71 (mProcess_d G hG 0 master p ht _ rfl) ?_; rintro _ _ ⟨rfl, rfl⟩) | (refine ao2 rfl rfl rfl ent_73 (Zv5 G hG (p - 16) n hp2 hn _) ?_; rintro _ _ ⟨rfl, rfl⟩) | (refine ao2 rfl rfl rfl ent_72 (mSign_d G hG hK 0 master p ht (Yd (p - 16) n) hp hm (by omega) (Zk7 _ _) _ rfl hh) ?_; rintro _ _ ⟨rfl, rfl⟩) | (refine ao1' rfl fun K HK => ?_; simp only [go_sem, ↓reduceIte, Z1, Z4, Z2, Z5, Z6, Z7, Z8, Z9, wp]; refine HK _ _ ?_; clear HK K))
 exact ⟨.inr rfl, endX [.agg [.v (.int .i64 (p - 16)), .v (.int .i64 n), .sl 1 (byD (Xm master p 0 (Yd (p - 16) n)))], .v (.int .i64 0)] [X4 master p ht] [_] (.tup [.agg [.v (.int .i64 (p - 16)), .v (.int .i64 n), .sl 1 (byD (Xm master p 0 (Yd (p - 16) n)))], .v (.int .i64 0)]) rfl rfl (Nat.le_refl _) (Wv _ _ _ _) (by simp only [low, lowL]; exact ⟨⟨trivial, trivial, by have := Yb 1 (Xm master p 0 (Yd (p - 16) n)); rwa [low] at this, trivial⟩, trivial, trivial⟩) rfl ⟨rfl, rfl⟩⟩
end
end Go.Proofs.YtgkjcmglcnhpaaaGreatDoor
