/-
  What the statements of the chapter share, part 15: CX, CY, RB2, AL3, SH1, SH2, SH3.
-/
import Derived.Test.YtgkjcmglcnhpaaaGreatDoorR10
import Derived.Test.YtgkjcmglcnhpaaaGreatDoorR13
import Derived.Test.YtgkjcmglcnhpaaaGreatDoorR14
import Derived.Laws.Externs
set_option linter.unusedVariables false
set_option linter.unusedSimpArgs false
set_option maxRecDepth 100000
set_option maxHeartbeats 8000000
namespace Go.Proofs.YtgkjcmglcnhpaaaGreatDoor
open _root_.And renaming intro → Zt
open _root_.Bool renaming not_false → Zl, not_true → Zm
open _root_.Int renaming reduceEq → Z5, reduceLT → Z6, reduceLE → Z7, toNat_natCast → Z8, reduceBEq → Zn
open _root_.List renaming getElem?_eq_getElem → Z9, replicate → Zb, length_append → Zd, cons_append → Zf, take_of_length_le → Zg, getD_eq_getElem?_getD → Zh, reverse_cons → Zi, reverse_nil → Zj, nil_append → Zk, length_map → Zo, getElem?_map → Zp, length_take → Zr, map_cons → Zs
open _root_.Nat renaming reduceEqDiff → Z0, reduceLeDiff → Z1, reduceAdd → Z2, reduceBEq → Z3, reduceMul → Z4, le_of_ble_eq_true → Za, sub_self → Zu
open _root_.Option renaming bind_some → Ze, getD_some → Zq
open _root_.Go.Proofs.Tryz renaming prog → Zc
open Go.RowKit
section
attribute [local irreducible] on aOp
attribute [local go_sem] decide_true decide_false Zm Zl
attribute [local simp] byD_len
theorem cmpX : CmpX Zc 121 := fun a b w => by
 rw [run_callFunc_extern (e := Extern.BytealgCompare.compare) Tryz.func121 (by kernel_rfl) (by kernel_rfl) (by kernel_rfl) (by kernel_rfl)]
 rw [Lib.run_compareString]; rfl
theorem loadD_bp {P : Program} {h : List Ob} {t e k i n r j : Nat} {xs : List (List D)} {row : List D} (hi : h[i]? = some (.buf e k xs)) (hn : xs.length = n) (hr : xs[r]? = some row) : U4 P h t (.bp i n r j) = getD P t row j := by
 simp only [U4, hi, hr, if_pos hn, Ze]
def cmpI (a b : Int) : Int := if a < b then -1 else if b < a then 1 else 0
def orI : List Int → Int
 | [] => 0
 | x :: t => if x = 0 then orI t else x
def intX (x : Int) : List D := [.v (.int .i64 x)]
theorem Ze0 (x : Int) : intX x = [.v (.int .i64 x)] := rfl
variable (G : Nat → D) (hG : ∀ g, low 0 (G g))
include hG
theorem isNaN_d (a : Int) (h : List Ob) : Does Zc G 99 h [.v (.int .i64 a)] (fun h' r => h' = h ∧ r = .v (.bool false)) := by
 refine Y5 Tryz.func99 rfl (Za rfl) hG fun hl0 _ => ?_
 simp only [Tryz.ntmps99]
 repeat' first
  | refine sA rfl ?_
  | refine Y4 ?_
  | (refine ao1 rfl rfl fun K HK => ?_; simp only [go_sem, ↓reduceIte, Z0, Z2, Z1, Z3, Z4, Z5, Z6, Z7] <;> (refine HK _ _ ?_; clear HK K))
 all_goals first
 | exact ⟨by simp, endV hl0 rfl rfl ⟨rfl, rfl⟩⟩
 | (exfalso; simp at *; done)
theorem cmpInt_d (a b : Int) (h : List Ob) : Does Zc G 69 h [.v (.int .i64 a), .v (.int .i64 b)] (fun h' r => h' = h ∧ r = .v (.int .i64 (cmpI a b))) := by
 refine Y5 Tryz.func69 rfl (Za rfl) hG fun hl0 _ => ?_
 simp only [Tryz.ntmps69]
 repeat' first
  | refine sA rfl ?_ | refine sI rfl rfl ?_ | refine sT rfl ?_
  | refine Y4 ?_
  | (refine ao1 rfl rfl fun K HK => ?_; simp only [go_sem, ↓reduceIte, Z0, Z2, Z1, Z3, Z4, Z5, Z6, Z7]; (first | refine Y6 (fun hq => ?_) (fun hq => ?_) | skip) <;> (refine HK _ _ ?_; clear HK K))
  | (refine ao2 rfl rfl rfl ent_99 (isNaN_d G hG _ _) ?_; rintro _ _ ⟨rfl, rfl⟩)
 all_goals
  refine ⟨by simp, endV hl0 rfl rfl ⟨rfl, ?_⟩⟩
  unfold cmpI
  simp [*]
theorem bcmp_d (a b : ByteArray) (h : List Ob) : Does Zc G 100 h [.v (.string a), .v (.string b)] (fun h' r => h' = h ∧ r = .v (.int .i64 (Lib.compareBytes a.data.toList b.data.toList))) := by
 refine Y5 Tryz.func100 rfl (Za rfl) hG fun hl0 _ => ?_
 simp only [Tryz.ntmps100]
 have X : ExtTri Zc 121 [.v (.string a), .v (.string b)] (.v (.int .i64 (Lib.compareBytes a.data.toList b.data.toList))) := fun w hd h2 W vs hv => by
  rw [rdL] at hv; obtain ⟨u, t, rfl, h3, hv⟩ := hv
  rw [rdL] at hv; obtain ⟨u2, t, rfl, h4, hv⟩ := hv
  rw [rdL] at hv; subst hv
  rw [rd] at h3 h4; subst h3; subst h4
  exact ⟨_, cmpX _ _ w, by rw [rd]⟩
 repeat' first
  | (refine Zx3 rfl (Zu8 (cap := []) (xs := [.v (.string a), .v (.string b)]) X) ?_)
  | refine sA rfl ?_
  | refine Y4 ?_
  | (refine ao1 rfl rfl fun K HK => ?_; simp only [go_sem, ↓reduceIte, Z0, Z2, Z1, Z3, Z4, Z5, Z6, Z7] <;> (refine HK _ _ ?_; clear HK K))
 all_goals exact ⟨by simp, endV hl0 rfl rfl ⟨rfl, rfl⟩⟩
theorem scmp_d (a b : ByteArray) (h : List Ob) : Does Zc G 70 h [.v (.string a), .v (.string b)] (fun h' r => h' = h ∧ r = .v (.int .i64 (Lib.compareBytes a.data.toList b.data.toList))) := by
 refine Y5 Tryz.func70 rfl (Za rfl) hG fun hl0 _ => ?_
 simp only [Tryz.ntmps70]
 repeat' first
  | refine sA rfl ?_
  | refine Y4 ?_
  | (refine ao1 rfl rfl fun K HK => ?_; simp only [go_sem, ↓reduceIte, Z0, Z2, Z1, Z3, Z4, Z5, Z6, Z7] <;> (refine HK _ _ ?_; clear HK K))
  | (refine ao2 rfl rfl rfl ent_100 (bcmp_d G hG _ _ _) ?_; rintro _ _ ⟨rfl, rfl⟩)
 all_goals exact ⟨by simp, endV hl0 rfl rfl ⟨rfl, rfl⟩⟩
theorem or_b (l : List Int) (hl : l.length ≤ 1000) (h : List Ob) (i : Nat) (hi : h[i]? = some (.buf 3 1 (l.map intX))) : Does Zc G 68 h [.buf i l.length] (fun h' r => h' = h ∧ r = .v (.int .i64 (orI l))) := by
 refine Y5 Tryz.func68 rfl (Za rfl) hG fun hl0 _ => ?_
 simp only [Tryz.ntmps68]
 repeat' first
  | refine sA rfl ?_
  | refine Y4 ?_
  | (refine ao1 rfl rfl fun K HK => ?_; simp only [go_sem, ↓reduceIte, Z0, Z2, Z1, Z3, Z4, Z5, Z6, Z7, hi] <;> (refine HK _ _ ?_; clear HK K))
 refine Yr (fun m e h' => ∃ k : Nat, k ≤ l.length ∧ m = l.length - k ∧ orI l = orI (l.drop k) ∧ h' = h ∧ e 3 = .v (.int .i64 0) ∧ e 6 = .buf i l.length ∧ e 7 = .v (.int .i64 l.length) ∧ e 8 = .v (.int .i64 k)) l.length ⟨0, Nat.zero_le _, rfl, rfl, rfl, rfl, rfl, rfl, rfl⟩ ?_
 rintro m e h' ⟨k, hk, rfl, ho, rfl, e3, e6, e7, e8⟩
 by_cases hlt : k < l.length
 · have hx : l[k]? = some l[k] := Z9 hlt
   have hd : l.drop k = l[k] :: l.drop (k + 1) := List.drop_eq_getElem_cons hlt
   generalize l[k] = x at hx hd
   have wk : IntKind.i64.wrap ((k : Int) + 1) = (k : Int) + 1 := IntWalk.i64_in _ (by omega)
   rw [hd, orI] at ho
   have hrow : (l.map intX)[k]? = some [.v (.int .i64 x)] := by rw [Zp, hx]; rfl
   repeat' first
    | (refine ao1 rfl rfl fun K HK => ?_; simp only [go_sem, e6, e8]; refine ⟨_, _, _, hi, by simp, by simp only [go_sem], by omega, by omega, ?_⟩; refine HK _ _ ?_; clear HK K)
    | refine sA rfl ?_ | refine sI rfl rfl ?_ | refine sT rfl ?_ | refine sB rfl ?_
    | refine Y4 ?_
    | (refine ao1 rfl rfl fun K HK => ?_; simp only [go_sem, ↓reduceIte, Z0, Z2, Z1, Z3, Z4, Z5, Z6, Z7, hi, e3, e6, e7, e8, Ze0, wk, loadD_bp hi (Zo _) hrow, Zo, Z8]; (first | refine Y6 (fun hq => ?_) (fun hq => ?_) | refine W7 (fun hq => ?_) (fun hq => ?_) | skip) <;> (refine HK _ _ ?_; clear HK K))
    | (exfalso; omega)
   · exact ⟨rfl, l.length - (k + 1), by omega, k + 1, hlt, rfl, by rw [ho, if_pos hq], rfl, e3, e6, e7, rfl⟩
   · exact ⟨by simp, endV hl0 rfl rfl ⟨rfl, by rw [ho, if_neg hq]⟩⟩
 · skip
   repeat' first
    | refine sA rfl ?_ | refine sI rfl rfl ?_
    | refine Y4 ?_
    | (refine ao1 rfl rfl fun K HK => ?_; simp only [go_sem, ↓reduceIte, Z0, Z2, Z1, Z3, Z4, Z5, Z6, Z7, hi, e3, e6, e7, e8, Zo]; (first | refine Y6 (fun hq => ?_) (fun hq => ?_) | skip) <;> (refine HK _ _ ?_; clear HK K))
    | (exfalso; omega)
   exact ⟨by simp, endV hl0 rfl rfl ⟨rfl, by rw [ho, List.drop_eq_nil_of_le (by omega)]; rfl⟩⟩
end
section
attribute [local irreducible] on aOp
attribute [local go_sem] decide_true decide_false Zm Zl
attribute [local simp] byD_len
def cmpC (a b : Cmd) : Int := orI [cmpI a.client b.client, cmpI a.seq b.seq, Lib.compareBytes (encC a) (encC b)]
variable (G : Nat → D) (hG : ∀ g, low 0 (G g))
include hG
theorem or_s (l : List Int) (hl : l.length ≤ 1000) (h : List Ob) (i : Nat) (hi : h[i]? = some (.buf 3 1 (l.map intX))) : Does Zc G 68 h [.buf i l.length] (fun h' r => h' = h.set i (.buf 3 1 (l.map intX)) ∧ r = .v (.int .i64 (orI l))) := by
 rw [J9 hi]; exact or_b G hG l hl h i hi
theorem compare_d (a b : Cmd) (ha : a.Ok) (hb : b.Ok) (h : List Ob) : Does Zc G 27 h [.agg (cmdX a), .agg (cmdX b)] (fun h' r => h' = h ∧ r = .v (.int .i64 (cmpC a b))) := by
 refine Yf G hG (by rw [lowL, lowL, lowL]; exact ⟨W0 _ _, W0 _ _, trivial⟩) (by rw [low]; trivial) ?_ h
 have la := Zh2 a ha
 have lb := Zh2 b hb
 refine Y5 Tryz.func27 rfl (Za rfl) hG fun hl0 _ => ?_
 simp only [Tryz.ntmps27]
 repeat' first
  | (refine Vj rfl rfl rfl (by (simp only [go_sem, ↓reduceIte, Z0, Z2, Z1, Z3, Z4, Z5, Z6, Z7, Yi]; rfl)) (by rw [getD_agg' aggT_40, szT_40]; rfl) ?_)
  | (refine aS1 rfl rfl fun K HK => ?_; simp only [go_sem]; refine bst_by (n := 1) (h := []) byT_38 strT_9 ?_; refine HK _ _ rfl ?_; clear HK K)
  | refine sA rfl ?_
  | refine Y4 ?_
  | ((first | refine ao1 rfl rfl fun K HK => ?_ | refine aS1 rfl rfl fun K HK => ?_); simp only [go_sem, ↓reduceIte, Z0, Z2, Z1, Z3, Z4, Z5, Z6, Z7, Yi] <;> ((first | refine HK _ _ ?_ | refine HK _ _ rfl ?_); clear HK K))
  | (refine Wq mixd (by kernel_rfl) ?_)
  | refine Vj rfl rfl rfl (by (simp only [go_sem, ↓reduceIte, Z0, Z2, Z1, Z3, Z4, Z5, Z6, Z7, Yi]; rfl)) (by rw [getD_one (by simp only [go_sem, ↓reduceIte, Z0, Z2, Z1, Z3, Z4, Z5, Z6, Z7, Yi])]; rfl) ?_
  | refine aS_lit rfl rfl (by simp only [litD, Um, go_sem, List.length_cons, List.length_nil, Option.map_some, Ze, and_self, ↓reduceIte, Z0, Z2, Z1, Z3, Z4, Z5, Z6, Z7, Yi]; rfl) ?_
  | refine Jw (by simp only [Zi, Zj, Zk, Zf, Vh, chk1]; repeat' (first | exact trivial | refine Zt ?_ ?_ | exact .inr Xr | exact .inr Wn | exact .inr U1 | exact .inr (Zh3 (by omega)) | (refine .inr ?_; simp [compat, Za2, J1, Jf, nop] <;> omega) | exact .inl (by kernel_rfl))) ?_
  | refine Vt rfl rfl rfl ent_69 (fun h2 => cmpInt_d G hG _ _ _) ?_
  | refine Vt rfl rfl rfl ent_17 (fun h2 => Yc0 G hG a ha _) ?_
  | refine Vt rfl rfl rfl ent_17 (fun h2 => Yc0 G hG b hb _) ?_
  | refine Vt rfl rfl rfl ent_70 (fun h2 => scmp_d G hG _ _ _) ?_
  | refine aS_call1 rfl rfl rfl ent_68 (by (simp only [go_sem, ↓reduceIte, Z0, Z2, Z1, Z3, Z4, Z5, Z6, Z7, Yi]; rfl)) (fun h2 k2 => or_s G hG [cmpI a.client b.client, cmpI a.seq b.seq, Lib.compareBytes (encC a) (encC b)] (by simp) h2 2 k2) ?_
 exact ⟨.inr rfl, endV hl0 rfl rfl ⟨rfl, rfl⟩⟩
end
section
attribute [local irreducible] on aOp
attribute [local go_sem] decide_true decide_false Zm Zl
attribute [local simp] byD_len
theorem Does.arg0 {P : Program} {G : Nat → D} {f : FuncId} {h : List Ob} {d d' : D} {args : List D} {K : List Ob → D → Prop} (q : Does P G f h (d' :: args) K) (k : ∀ hd hh W u, rd hd hh W d u → rd hd hh W d' u) : Does P G f h (d :: args) K := fun w hd p vs o ha => by
 rw [rdL] at ha
 obtain ⟨u, t, rfl, h1, h2⟩ := ha
 exact q w hd p _ o (by rw [rdL]; exact ⟨u, t, rfl, k _ _ _ _ h1, h2⟩)
variable (G : Nat → D) (hG : ∀ g, low 0 (G g))
include hG
theorem sInt (l : List UInt8) {n : Int} (hn : I64 n) (hl : l.length ≤ 100000000) (h : List Ob) : Does Zc G 86 h [.sl 1 (byD l), .v (.int .i64 n)] (fun h' r => h' = h ∧ r = .sl 1 (byD (l ++ intE n))) :=
 Zs7 hG (by rw [lowL, lowL, lowL]; exact ⟨Yb _ _, by simp [low], trivial⟩) rfl (rInt0 G hG l n hn hl) h
theorem sText (l : List UInt8) {s : ByteArray} (hs : s.size ≤ 10000000) (hl : l.length ≤ 80000000) (h : List Ob) : Does Zc G 56 h [.sl 1 (byD l), .v (.string s)] (fun h' r => h' = h ∧ r = .sl 1 (byD (l ++ Yv s))) :=
 Zs7 hG (by rw [lowL, lowL, lowL]; exact ⟨Yb _ _, by simp [low], trivial⟩) rfl (rText0 G hG l s hs hl) h
end
section
def kC (l : List UInt8) : List D := l.map fun b => .v (.int .u8 b.toNat)
theorem Zg7 (l : List UInt8) : (kC l).length = l.length := Zo ..
theorem all_kC : ∀ l : List UInt8, (kC l).all D.one = true
 | [] => rfl
 | a :: l => by unfold kC; rw [Zs, List.all_cons]; have := all_kC l; unfold kC at this; rw [this]; rfl
theorem low_kC (m : Nat) : ∀ l : List UInt8, lowL m (kC l)
 | [] => by unfold kC; rw [List.map_nil, lowL]; trivial
 | a :: l => by unfold kC; rw [Zs, lowL]; exact ⟨by rw [low]; trivial, low_kC m l⟩
theorem kC_rows (l : List UInt8) : (kC l).map (fun d => [d]) = byD l := by simp [kC, byD]
theorem byD_flatten (l : List UInt8) : (byD l).flatten = kC l := by
 induction l with
 | nil => rfl
 | cons a t ih => simp only [byD, kC, Zs, List.flatten_cons] at ih ⊢; rw [ih]; rfl
theorem putL_kb {W : List UInt8} {k : Nat} {b : UInt8} {z : Int} (h : k < W.length) (hz : z = (b.toNat : Int)) : putL (kC W) (0 + k) [.v (.int .u8 z)] = kC (W.set k b) := by
 subst hz
 rw [Nat.zero_add]
 apply List.ext_getElem?
 intro i
 unfold kC
 rw [Zf7 (by simp; omega), Zp, Zp, List.getElem?_set]
 by_cases hi : i = k
 · subst hi; simp [h]
 · rw [if_neg (by simp; omega), if_neg (fun e => hi e.symm)]
theorem putL_k0 {W k : List UInt8} (h : k.length ≤ W.length) : putL (kC W) 0 (byD k).flatten = kC (k ++ W.drop k.length) := by
 rw [byD_flatten]
 unfold putL kC
 simp [List.map_drop]
section
variable {P : Program} {G : Nat → D} {e : Nat → D} {h : List Ob} {K : List Ob → D → Prop} {u : TypeId} {x y : Operand} {i n m k : Nat}
theorem getD_kb {W : List UInt8} {b : UInt8} (ha : aggT P u = some false) (hx : W[k]? = some b) : getD P u (kC W) (0 + k) = some (.v (.int .u8 b.toNat)) := by
 rw [getD_one ha, Nat.zero_add]; unfold kC; rw [Zp, hx]; rfl
theorem getD_ka {W : List UInt8} (ha : aggT P u = some true) (hs : szT P u = some n) (hl : W.length = n) : getD P u (kC W) 0 = some (.agg (kC W)) := by
 rw [Yb4 ha hs (by rw [Zg7]; omega), List.drop_zero, Zg (by rw [Zg7]; omega)]
theorem aOp_alc {ds : List D} (hz : Xs P u = some ds) (q : K (h ++ [.cells ds]) (.ptr h.length 0)) : aOp P G e h K (.alloc u) := by
 have e1 : aOp P G e h K (.alloc u) = on (Xs P u) fun ds => K (h ++ [.cells ds]) (.ptr h.length 0) := rfl
 rw [e1, hz]; exact q
end
theorem aOp_bsl {P : Program} {G : Nat → D} {e : Nat → D} {h : List Ob} {K : List Ob → D → Prop} {t u : TypeId} {x : Operand} {bs : List UInt8} (hx : ev G e x = .sl 1 (byD bs)) (h1 : byT P t = true) (h2 : strT P u = true) (q : K h (.v (.string ⟨bs.toArray⟩))) : aOp P G e h K (.convert t u x) := by
 have e1 : aOp P G e h K (.convert t u x) = cvA P h t u (ev G e x) K := rfl
 rw [e1, hx]
 exact ⟨h1, h2, bs, rfl, q⟩
theorem Zx5 (w x : UInt8) : IntKind.u8.wrap ((BitVec.ofInt 8 (w.toNat : Int) ^^^ BitVec.ofInt 8 (x.toNat : Int)).toNat : Int) = ((w ^^^ x).toNat : Int) := by
 have e : ∀ w : UInt8, BitVec.ofInt 8 (w.toNat : Int) = w.toBitVec := fun w => by
  apply BitVec.eq_of_toNat_eq
  have := w.toNat_lt
  simp
 rw [e, e, Zx6]
 have := (w ^^^ x).toNat_lt
 have h2 : (w.toBitVec ^^^ x.toBitVec).toNat = (w ^^^ x).toNat := rfl
 rw [h2]; omega
theorem ao_mkfc {P : Program} {G : Nat → D} {n : Nat} {e : Nat → D} {h : List Ob} {ops : Array Oper} {rest : List Oper} {Q : S → Prop} {t : Nat} {ty : TypeId} {pos : String} {aft : Array Edge} {gd : Option (Nat × Bool)} {f : FuncId} {caps : Array Operand} (hw : Yc ops gd e = some true) (ht : decide (t < n) = true)
 (q : ao P G ops rest Q ⟨n, upd e t (.fn f (caps.toList.map (ev G e))), h⟩) : ao P G ops (⟨some t, .makeFunc (.func f) #[] caps, ty, pos, aft, gd⟩ :: rest) Q ⟨n, e, h⟩ := by
 have hN : nF P G e h (.makeFunc (.func f) #[] caps) = some (h, .fn f (caps.toList.map (ev G e))) := rfl
 exact ao_nFc hw ht hN q
section
variable {P : Program} {G : Nat → D} {n : Nat} {e : Nat → D} {h : List Ob} {ops : Array Oper} {rest : List Oper} {Q : S → Prop} {t : Nat} {ty : TypeId} {pos : String} {aft : Array Edge} {gd : Option (Nat × Bool)}
theorem W2 {op : Op} {h' : List Ob} {d : D} (hw : Yc ops gd e = some true) (ht : decide (t < n) = true) (q : OpTri P G ⟨some t, op, ty, pos, aft, gd⟩ ((opds op).map (ev G e)) h (fun h1 d1 => h1 = h' ∧ d1 = d)) (k : ao P G ops rest Q ⟨n, upd e t d, h'⟩) : ao P G ops (⟨some t, op, ty, pos, aft, gd⟩ :: rest) Q ⟨n, e, h⟩ := by
 refine Zx3 hw q ?_
 unfold putE
 simp only [if_pos (of_decide_eq_true ht)]
 exact k
end
theorem Does.give1c {P : Program} {G : Nat → D} {f : FuncId} {h : List Ob} {i E k n : Nat} {rows : List (List D)} {K : List Ob → D → Prop} (hi : h[i]? = some (.buf E k rows)) (hn : rows.length = n) (q : Does P G f (h.set i .dead) [.sl k rows] K) : Does P G f h [.buf i n] K := fun w hd p vs ok ha => by
 rw [rdL] at ha
 obtain ⟨u, t, rfl, hu, ht⟩ := ha
 rw [rdL] at ht; subst ht
 obtain ⟨p', o', ev, cv⟩ := ok.give (fun j => j == i)
 have hr := cv _ _ hu
 have e : cvD (fun j => j == i) h (.buf i n) = .sl k rows := by simp [cvD, cv1, hi, hn]
 rw [e] at hr
 rw [Zg6] at o' ev hr
 refine (q w hd p' [u] o' (by rw [rdL]; exact ⟨u, [], rfl, hr, by rw [rdL]⟩)).mono ?_
 rintro e w' ⟨v, hd', h', r, p2, rfl, hK, ok2, hr2, ev2⟩
 exact ⟨v, hd', h', r, p2, rfl, hK, ok2, hr2, ev.trans ev2⟩
end
section
set_option maxHeartbeats 16000000
attribute [local irreducible] on aOp
attribute [local go_sem] decide_true decide_false Zm Zl
attribute [local simp] byD_len
variable (G : Nat → D) (hG : ∀ g, low 0 (G g))
include hG
theorem Zc5 (x : Int) (n : Nat) (hn : n ≤ 32) (h : List Ob) : Does Zc G 190 h [.v (.int .u32 x), .v (.int .u64 n)] (fun h' r => h' = h ∧ r = .v (.int .u32 (Zf0 x n))) := by
 refine Y5 Tryz.func190 rfl (Za rfl) hG fun hl0 _ => ?_
 simp only [Tryz.ntmps190]
 have w1 : IntKind.u64.wrap (32 - (n : Int)) = ((32 - n : Nat) : Int) := by rw [IntKind.wrap_u64]; omega
 have w2 : decide (0 ≤ (n : Int)) = true := decide_eq_true (by omega)
 have w3 : decide (0 ≤ ((32 - n : Nat) : Int)) = true := decide_eq_true (by omega)
 repeat' first
  | refine sA rfl ?_
  | refine Y4 ?_
  | (refine ao1 rfl rfl fun K HK => ?_; simp only [go_sem, ↓reduceIte, Z0, Z2, Z1, Z3, Z4, Z5, Z6, Z7, w1, w2, w3, Z8] <;> (refine HK _ _ ?_; clear HK K))
 exact ⟨by simp, endD (r := .v (.int .u32 (Zf0 x n))) hl0 rfl (by simp) (by simp) rfl (by rw [low]; trivial) ⟨rfl, rfl⟩⟩
theorem initial_d (h : List Ob) : Does Zc G 181 h [] (fun h' r => h' = h ∧ r = .agg (J8.ls.map zD)) := by
 refine Yf G hG (by simp [lowL]) (Zl0 0 _) ?_ h
 refine Y5 Tryz.func181 rfl (Za rfl) hG fun hl0 _ => ?_
 simp only [Tryz.ntmps181]
 repeat' first
  | refine sA rfl ?_
  | refine Y4 ?_
  | (refine ao1 rfl rfl fun K HK => ?_; simp only [go_sem, ↓reduceIte, Z0, Z2, Z1, Z3, Z4, Z5, Z6, Z7] <;> (refine HK _ _ ?_; clear HK K))
  | (refine ao1' rfl fun K HK => ?_; simp only [go_sem, ↓reduceIte, Z0, Z2, Z1, Z3, Z4, Z5, Z6, Z7]; refine HK _ _ ?_; clear HK K)
 exact ⟨.inr rfl, endD (r := .agg (J8.ls.map zD)) hl0 rfl (by simp) (by simp) rfl (Zl0 _ _) ⟨rfl, rfl⟩⟩
theorem block_d (v : W8) (b : List UInt8) (hb : b.length = 64) (hK : G 1 = .rp (shaK.map zD)) (h : List Ob) :
 Does Zc G 182 h [.agg (v.ls.map zD), .sl 1 (byD b)] (fun h' r => h' = h ∧ r = .agg ((blkZ v b).ls.map zD)) := by
 refine Yf G hG (by rw [lowL, lowL, lowL]; exact ⟨Zl0 _ _, Yb _ _, trivial⟩) (Zl0 _ _) ?_ h
 refine Y5 Tryz.func182 rfl (Za rfl) hG fun hl0 _ => ?_
 simp only [Tryz.ntmps182]
 repeat' first
  | refine sA rfl ?_
  | refine Y4 ?_
  | (refine ao1 rfl rfl fun K HK => ?_; simp only [go_sem, ↓reduceIte, Z0, Z2, Z1, Z3, Z4, Z5, Z6, Z7] <;> (refine HK _ _ ?_; clear HK K))
 refine Yr (fun m e h' => ∃ (k : Nat) (W : List Int), k ≤ 16 ∧ m = 16 - k ∧ W.length = 64 ∧ sch1 b (16 - k) W = sch1 b 16 (Zb 64 0) ∧ h' = [.cells (v.ls.map zD), .cells (Zb 8 (zD 0)), .cells (W.map zD)] ∧ e 1 = .sl 1 (byD b) ∧ e 2 = .ptr 0 0 ∧ e 4 = .ptr 1 0 ∧ e 5 = .ptr 2 0 ∧ e 23 = .v (.int .i64 k)) 16 ⟨0, Zb 64 0, by omega, rfl, rfl, rfl, rfl, rfl, rfl, rfl, rfl, rfl⟩ ?_
 rintro m e h' ⟨k, W, hk, rfl, hW, hS, rfl, e1, e2, e4, e5, e23⟩
 by_cases hlt : k < 16
 · have hx0 : b[4 * k]? = some b[4 * k] := Z9 (by omega)
   have hx1 : b[4 * k + 1]? = some b[4 * k + 1] := Z9 (by omega)
   have hx2 : b[4 * k + 2]? = some b[4 * k + 2] := Z9 (by omega)
   have hx3 : b[4 * k + 3]? = some b[4 * k + 3] := Z9 (by omega)
   have hS' : sch1 b (16 - (k + 1)) (W.set k (be4 b[4 * k] b[4 * k + 1] b[4 * k + 2] b[4 * k + 3])) = sch1 b (16 - k) W := by
    obtain ⟨n, hn⟩ : ∃ n, 16 - k = n + 1 := ⟨15 - k, by omega⟩
    rw [hn, sch1, show 16 - (k + 1) = n by omega, show 15 - n = k by omega]
    simp only [Zh, hx0, hx1, hx2, hx3, Zq]
   generalize b[4 * k] = x0 at hx0 hS'
   generalize b[4 * k + 1] = x1 at hx1 hS'
   generalize b[4 * k + 2] = x2 at hx2 hS'
   generalize b[4 * k + 3] = x3 at hx3 hS'
   have w0 : IntKind.i64.wrap (4 * (k : Int)) = ((4 * k : Nat) : Int) := IntWalk.i64_in _ (by omega)
   have w1 : IntKind.i64.wrap (((4 * k : Nat) : Int) + 1) = ((4 * k + 1 : Nat) : Int) := IntWalk.i64_in _ (by omega)
   have w2 : IntKind.i64.wrap (((4 * k : Nat) : Int) + 2) = ((4 * k + 2 : Nat) : Int) := IntWalk.i64_in _ (by omega)
   have w3 : IntKind.i64.wrap (((4 * k : Nat) : Int) + 3) = ((4 * k + 3 : Nat) : Int) := IntWalk.i64_in _ (by omega)
   have wk : IntKind.i64.wrap ((k : Int) + 1) = ((k + 1 : Nat) : Int) := IntWalk.i64_in _ (by omega)
   repeat' first
    | (refine aS1 rfl rfl fun K HK => ?_; refine Ve (by first | rfl | (simp only [go_sem, e1, e2, e4, e5, e23, w0, w1, w2, w3, wk, Z8]; rfl)) (by first | rfl | (simp only [go_sem, e1, e2, e4, e5, e23, w0, w1, w2, w3, wk, Z8]; rfl)) (by first | (simp only [go_sem]; rfl) | (simp only [go_sem]; done)) (by first | (simp only [go_sem]; rfl) | (simp only [go_sem]; done)) (by omega) ?_; refine HK _ _ rfl ?_; clear HK K)
    | (refine Vs rfl rfl (by (simp only [go_sem, ↓reduceIte, Z0, Z2, Z1, Z3, Z4, Z5, Z6, Z7, e1, e2, e4, e5, e23, w0, w1, w2, w3, wk, Z8]; rfl)) rfl (by simp only [go_sem]) (by simp [hW]; omega) ?_)
    | refine sA rfl ?_ | refine sI rfl rfl ?_ | refine sT rfl ?_
    | refine Y4 ?_
    | ((first | refine ao1 rfl rfl fun K HK => ?_ | refine aS1 rfl rfl fun K HK => ?_); simp only [go_sem, ↓reduceIte, Z0, Z2, Z1, Z3, Z4, Z5, Z6, Z7, e1, e2, e4, e5, e23, w0, w1, w2, w3, wk, Z8]; (first | refine Y6 (fun hq => ?_) (fun hq => ?_) | (refine ⟨by omega, by omega, ?_⟩; refine Yg (by assumption) ?_) | skip) <;> ((first | refine HK _ _ ?_ | refine HK _ _ rfl ?_); clear HK K))
    | (refine Wq mixd (by kernel_rfl) ?_)
    | refine Jw (by simp only [Zi, Zj, Zk, Zf, Vh, chk1]; repeat' (first | exact trivial | refine Zt ?_ ?_ | exact .inr Xr)) ?_
    | (exfalso; omega)
   refine ⟨rfl, 16 - (k + 1), by omega, k + 1, W.set k (be4 x0 x1 x2 x3), by omega, rfl, by simp [hW], by rw [hS']; exact hS, ?_, ?_, ?_, ?_, ?_, ?_⟩
   · exact congrArg (fun x => [Ob.cells (v.ls.map zD), .cells (Zb 8 (zD 0)), .cells x]) (Jd (W := W) (k := k) (z := be4 x0 x1 x2 x3) (by omega))
   all_goals first | rfl | (simp [upd, e1, e2, e4, e5]; done)
 have hk16 : k = 16 := by omega
 subst hk16
 repeat' first
  | refine sA rfl ?_ | refine sI rfl rfl ?_
  | refine Y4 ?_
  | ((first | refine ao1 rfl rfl fun K HK => ?_ | refine aq1 rfl rfl fun K HK => ?_); simp only [go_sem, ↓reduceIte, Z0, Z2, Z1, Z3, Z4, Z5, Z6, Z7, e1, e2, e4, e5, e23]; (first | refine Y6 (fun hq => ?_) (fun hq => ?_) | (refine ⟨by omega, by omega, ?_⟩; intro row hrow; obtain ⟨x, hx, rfl⟩ := Yn hrow; clear hrow) | skip) <;> ((first | refine HK _ _ ?_ | refine HK _ _ rfl ?_); clear HK K))
  | (refine Ya mixd (by kernel_rfl) ?_)
  | (exfalso; omega)
 have hSc : sch2 (64 - 16) W = schZ b := by
  rw [Zu, sch1] at hS
  rw [hS]; unfold schZ; rw [show 64 - 16 = 48 from rfl]
 refine Yr (fun m e h' => ∃ (k : Nat) (W : List Int), 16 ≤ k ∧ k ≤ 64 ∧ m = 64 - k ∧ W.length = 64 ∧ sch2 (64 - k) W = schZ b ∧ h' = [.cells (v.ls.map zD), .cells (Zb 8 (zD 0)), .cells (W.map zD)] ∧ e 2 = .ptr 0 0 ∧ e 4 = .ptr 1 0 ∧ e 5 = .ptr 2 0 ∧ e 7 = .v (.int .i64 k)) 48 ⟨16, W, by omega, by omega, rfl, hW, hSc, rfl, e2, e4, e5, rfl⟩ ?_
 clear hSc hS hW W hk hlt e1 e2 e4 e5 e23 e
 rintro m e h' ⟨k, W, hk, hk2, rfl, hW, hS, rfl, e2, e4, e5, e7⟩
 by_cases hlt : k < 64
 · have hx0 : W[k - 15]? = some W[k - 15] := Z9 (by omega)
   have hx1 : W[k - 2]? = some W[k - 2] := Z9 (by omega)
   have hx2 : W[k - 7]? = some W[k - 7] := Z9 (by omega)
   have hx3 : W[k - 16]? = some W[k - 16] := Z9 (by omega)
   have hS' : sch2 (64 - (k + 1)) (W.set k (sgZ W[k - 15] W[k - 2] W[k - 7] W[k - 16])) = sch2 (64 - k) W := by
    obtain ⟨n, hn⟩ : ∃ n, 64 - k = n + 1 := ⟨63 - k, by omega⟩
    rw [hn, sch2, show 64 - (k + 1) = n by omega, show 63 - n = k by omega]
    simp only [Zh, hx0, hx1, hx2, hx3, Zq]
   generalize W[k - 15] = x15 at hx0 hS'
   generalize W[k - 2] = x2 at hx1 hS'
   generalize W[k - 7] = x7 at hx2 hS'
   generalize W[k - 16] = x16 at hx3 hS'
   have w0 : IntKind.i64.wrap ((k : Int) - 15) = ((k - 15 : Nat) : Int) := (IntWalk.i64_in _ (by omega)).trans (by omega)
   have w1 : IntKind.i64.wrap ((k : Int) - 2) = ((k - 2 : Nat) : Int) := (IntWalk.i64_in _ (by omega)).trans (by omega)
   have w2 : IntKind.i64.wrap ((k : Int) - 7) = ((k - 7 : Nat) : Int) := (IntWalk.i64_in _ (by omega)).trans (by omega)
   have w3 : IntKind.i64.wrap ((k : Int) - 16) = ((k - 16 : Nat) : Int) := (IntWalk.i64_in _ (by omega)).trans (by omega)
   have wk : IntKind.i64.wrap ((k : Int) + 1) = ((k + 1 : Nat) : Int) := IntWalk.i64_in _ (by omega)
   repeat' first
    | (refine aS1 rfl rfl fun K HK => ?_; refine Ve (by first | rfl | (simp only [go_sem, e2, e4, e5, e7, w0, w1, w2, w3, wk, Z8]; rfl)) (by first | rfl | (simp only [go_sem, e2, e4, e5, e7, w0, w1, w2, w3, wk, Z8]; rfl)) (by first | (simp only [go_sem]; rfl) | (simp only [go_sem]; done)) (by first | (simp only [go_sem]; rfl) | (simp only [go_sem]; done)) (by omega) ?_; refine HK _ _ rfl ?_; clear HK K)
    | (refine Vj rfl rfl rfl (by (simp only [go_sem, ↓reduceIte, Z0, Z2, Z1, Z3, Z4, Z5, Z6, Z7, e2, e4, e5, e7, w0, w1, w2, w3, wk, Z8]; rfl)) (Ze1 (by first | (simp only [go_sem]; rfl) | (simp only [go_sem]; done)) (by assumption)) ?_)
    | (refine Vs rfl rfl (by (simp only [go_sem, ↓reduceIte, Z0, Z2, Z1, Z3, Z4, Z5, Z6, Z7, e2, e4, e5, e7, w0, w1, w2, w3, wk, Z8]; rfl)) rfl (by simp only [go_sem]) (by simp [hW]; omega) ?_)
    | refine sA rfl ?_ | refine sI rfl rfl ?_ | refine sT rfl ?_
    | refine Y4 ?_
    | ((first | refine ao1 rfl rfl fun K HK => ?_ | refine aS1 rfl rfl fun K HK => ?_); simp only [go_sem, ↓reduceIte, Z0, Z2, Z1, Z3, Z4, Z5, Z6, Z7, e2, e4, e5, e7, w0, w1, w2, w3, wk, Z8]; (first | refine Y6 (fun hq => ?_) (fun hq => ?_) | skip) <;> ((first | refine HK _ _ ?_ | refine HK _ _ rfl ?_); clear HK K))
    | (refine Wq mixd (by kernel_rfl) ?_)
    | refine Jw (by simp only [Zi, Zj, Zk, Zf, Vh, chk1]; repeat' (first | exact trivial | refine Zt ?_ ?_ | exact .inr Xr | exact .inr Wn | exact .inr U1 | exact .inl (by kernel_rfl))) ?_
    | (refine ao2 rfl rfl rfl Un (Zc5 G hG _ 7 (by omega) _) ?_; rintro _ _ ⟨rfl, rfl⟩)
    | (refine ao2 rfl rfl rfl Un (Zc5 G hG _ 17 (by omega) _) ?_; rintro _ _ ⟨rfl, rfl⟩)
    | (refine ao2 rfl rfl rfl Un (Zc5 G hG _ 18 (by omega) _) ?_; rintro _ _ ⟨rfl, rfl⟩)
    | (refine ao2 rfl rfl rfl Un (Zc5 G hG _ 19 (by omega) _) ?_; rintro _ _ ⟨rfl, rfl⟩)
    | (exfalso; omega)
   refine ⟨rfl, 64 - (k + 1), by omega, k + 1, W.set k (sgZ x15 x2 x7 x16), by omega, by omega, rfl, by simp [hW], by rw [hS']; exact hS, ?_, ?_, ?_, ?_, ?_⟩
   · exact congrArg (fun x => [Ob.cells (v.ls.map zD), .cells (Zb 8 (zD 0)), .cells x]) (Jd (W := W) (k := k) (z := sgZ x15 x2 x7 x16) (by omega))
   all_goals first | rfl | (simp [upd, e2, e4, e5]; done)
 have hk64 : k = 64 := by omega
 subst hk64
 rw [Zu, sch2] at hS
 subst hS
 generalize hWe : schZ b = W at hW ⊢
 repeat' first
  | (refine ao1 rfl rfl fun K HK => ?_; refine Yy (by first | rfl | (simp only [go_sem, e2, e4, e5, e7]; rfl)) (by (simp only [go_sem, ↓reduceIte, Z0, Z2, Z1, Z3, Z4, Z5, Z6, Z7, e2, e4, e5, e7]; rfl)) (Jk (by first | (simp only [go_sem]; rfl) | (simp only [go_sem]; done)) (by first | (simp only [go_sem]; rfl) | (simp only [go_sem]; done))) ?_; refine HK _ _ ?_; clear HK K)
  | (refine ao1' rfl fun K HK => ?_; refine Ze4 (by first | rfl | (simp only [go_sem, e2, e4, e5, e7]; rfl)) (by (simp only [go_sem, ↓reduceIte, Z0, Z2, Z1, Z3, Z4, Z5, Z6, Z7, e2, e4, e5, e7]; rfl)) rfl (by first | (simp only [go_sem]; rfl) | (simp only [go_sem]; done)) rfl ?_; refine HK _ _ ?_; clear HK K)
  | refine sA rfl ?_ | refine sI rfl rfl ?_
  | refine Y4 ?_
  | ((first | refine ao1 rfl rfl fun K HK => ?_ | refine aq1 rfl rfl fun K HK => ?_); simp only [go_sem, ↓reduceIte, Z0, Z2, Z1, Z3, Z4, Z5, Z6, Z7, e2, e4, e5, e7]; (first | refine Y6 (fun hq => ?_) (fun hq => ?_) | skip) <;> ((first | refine HK _ _ ?_ | refine HK _ _ rfl ?_); clear HK K))
  | (refine Ya mixd (by kernel_rfl) ?_)
  | (exfalso; omega)
 refine Yr (fun m e h' => ∃ (k : Nat) (u : W8), k ≤ 64 ∧ m = 64 - k ∧ Zd2 shaK W (64 - k) u = Zd2 shaK W 64 v ∧ h' = [.cells (v.ls.map zD), .cells (Zb 8 (zD 0)), .cells (W.map zD), .cells (u.ls.map zD)] ∧ e 2 = .ptr 0 0 ∧ e 4 = .ptr 1 0 ∧ e 5 = .ptr 2 0 ∧ e 12 = .ptr 3 0 ∧ e 106 = .v (.int .i64 k)) 64 ⟨0, v, by omega, rfl, by rw [Nat.sub_zero], rfl, e2, e4, e5, rfl, rfl⟩ ?_
 clear hk hk2 hlt e2 e4 e5 e7 e
 rintro m e h' ⟨k, u, hk, rfl, hS, rfl, e2, e4, e5, e12, e106⟩
 by_cases hlt : k < 64
 · have hx0 : W[k]? = some W[k] := Z9 (by omega)
   have hx1 : shaK[k]? = some (shaK[k]'hlt) := Z9 hlt
   have hS' : Zd2 shaK W (64 - (k + 1)) (rndZ (shaK[k]'hlt) W[k] u) = Zd2 shaK W (64 - k) u := by
    obtain ⟨n, hn⟩ : ∃ n, 64 - k = n + 1 := ⟨63 - k, by omega⟩
    rw [hn, Zd2, show 64 - (k + 1) = n by omega, show 63 - n = k by omega]
    simp only [Zh, hx0, hx1, Zq]
   generalize W[k] = wv at hx0 hS'
   generalize (shaK[k]'hlt) = kv at hx1 hS'
   have wk : IntKind.i64.wrap ((k : Int) + 1) = ((k + 1 : Nat) : Int) := IntWalk.i64_in _ (by omega)
   repeat' first
    | (refine aq1 rfl rfl fun K HK => ?_; refine Ve (by first | rfl | (simp only [go_sem, e2, e4, e5, e12, e106, wk, Z8]; rfl)) (by first | rfl | (simp only [go_sem, e2, e4, e5, e12, e106, wk, Z8]; rfl)) (by first | (simp only [go_sem]; rfl) | (simp only [go_sem]; done)) (by first | (simp only [go_sem]; rfl) | (simp only [go_sem]; done)) (by omega) ?_; refine HK _ _ rfl ?_; clear HK K)
    | (refine aq1 rfl rfl fun K HK => ?_; refine Yy (by first | rfl | (simp only [go_sem, e2, e4, e5, e12, e106, wk, Z8]; rfl)) (by (simp only [go_sem, ↓reduceIte, Z0, Z2, Z1, Z3, Z4, Z5, Z6, Z7, e2, e4, e5, e12, e106, wk, Z8]; rfl)) (Ze1 (by first | (simp only [go_sem]; rfl) | (simp only [go_sem]; done)) (by assumption)) ?_; refine HK _ _ rfl ?_; clear HK K)
    | (refine aq1 rfl rfl fun K HK => ?_; refine Zn4 (by first | rfl | (simp only [go_sem, e2, e4, e5, e12, e106, wk, Z8]; rfl)) (by first | rfl | (simp only [go_sem, e2, e4, e5, e12, e106, wk, Z8]; rfl)) (by first | (simp only [go_sem]; rfl) | (simp only [go_sem]; done)) (by first | (simp only [go_sem]; rfl) | (simp only [go_sem]; done)) (by decide) (by decide) ?_; refine HK _ _ rfl ?_; clear HK K)
    | (refine aq1 rfl rfl fun K HK => ?_; refine aOp_irp (by first | exact hK | (simp only [go_sem, e2, e4, e5, e12, e106, wk, Z8]; exact hK)) (by first | rfl | (simp only [go_sem, e2, e4, e5, e12, e106, wk, Z8]; rfl)) (by first | (simp only [go_sem]; rfl) | (simp only [go_sem]; done)) (by first | (simp only [go_sem]; rfl) | (simp only [go_sem]; done)) (by omega) ?_; refine HK _ _ rfl ?_; clear HK K)
    | (refine aq1 rfl rfl fun K HK => ?_; refine aOp_lrp rfl (getD_zd (by first | (simp only [go_sem]; rfl) | (simp only [go_sem]; done)) (by assumption)) ?_; refine HK _ _ rfl ?_; clear HK K)
    | (refine aq1 rfl rfl fun K HK => ?_; refine aOp_unx rfl ?_; refine HK _ _ rfl ?_; clear HK K)
    | (refine aq1 rfl rfl fun K HK => ?_; refine aOp_lz (by first | rfl | (simp only [go_sem, e2, e4, e5, e12, e106, wk, Z8]; rfl)) (by (simp only [go_sem, ↓reduceIte, Z0, Z2, Z1, Z3, Z4, Z5, Z6, Z7, e2, e4, e5, e12, e106, wk, Z8]; rfl)) (by rw [getD_one (by first | (simp only [go_sem]; rfl) | (simp only [go_sem]; done))]; rfl) ?_; refine HK _ _ rfl ?_; clear HK K)
    | (refine ao1 rfl rfl fun K HK => ?_; refine Zn4 (by first | rfl | (simp only [go_sem, e2, e4, e5, e12, e106, wk, Z8]; rfl)) (by first | rfl | (simp only [go_sem, e2, e4, e5, e12, e106, wk, Z8]; rfl)) (by first | (simp only [go_sem]; rfl) | (simp only [go_sem]; done)) (by first | (simp only [go_sem]; rfl) | (simp only [go_sem]; done)) (by decide) (by decide) ?_; refine HK _ _ ?_; clear HK K)
    | (refine ao1 rfl rfl fun K HK => ?_; refine aOp_lz (by first | rfl | (simp only [go_sem, e2, e4, e5, e12, e106, wk, Z8]; rfl)) (by (simp only [go_sem, ↓reduceIte, Z0, Z2, Z1, Z3, Z4, Z5, Z6, Z7, e2, e4, e5, e12, e106, wk, Z8]; rfl)) (by rw [getD_one (by first | (simp only [go_sem]; rfl) | (simp only [go_sem]; done))]; rfl) ?_; refine HK _ _ ?_; clear HK K)
    | (refine ao1' rfl fun K HK => ?_; refine Ze4 (by first | rfl | (simp only [go_sem, e2, e4, e5, e12, e106, wk, Z8]; rfl)) (by (simp only [go_sem, ↓reduceIte, Z0, Z2, Z1, Z3, Z4, Z5, Z6, Z7, e2, e4, e5, e12, e106, wk, Z8]; rfl)) (v := rndZ kv wv u) rfl (by first | (simp only [go_sem]; rfl) | (simp only [go_sem]; done)) rfl ?_; refine HK _ _ ?_; clear HK K)
    | refine sA rfl ?_ | refine sI rfl rfl ?_ | refine sT rfl ?_
    | refine Y4 ?_
    | ((first | refine ao1 rfl rfl fun K HK => ?_ | refine aq1 rfl rfl fun K HK => ?_); simp only [go_sem, ↓reduceIte, Z0, Z2, Z1, Z3, Z4, Z5, Z6, Z7, e2, e4, e5, e12, e106, wk, Z8]; (first | refine Y6 (fun hq => ?_) (fun hq => ?_) | skip) <;> ((first | refine HK _ _ ?_ | refine HK _ _ rfl ?_); clear HK K))
    | (refine Ya mixd (by kernel_rfl) ?_)
    | (refine ao2 rfl rfl rfl Un (Zc5 G hG _ 2 (by omega) _) ?_; rintro _ _ ⟨rfl, rfl⟩)
    | refine aq2 rfl rfl rfl Un (Zc5 G hG _ 6 (by omega) _) ?_
    | refine aq2 rfl rfl rfl Un (Zc5 G hG _ 11 (by omega) _) ?_
    | (refine ao2 rfl rfl rfl Un (Zc5 G hG _ 13 (by omega) _) ?_; rintro _ _ ⟨rfl, rfl⟩)
    | (refine ao2 rfl rfl rfl Un (Zc5 G hG _ 22 (by omega) _) ?_; rintro _ _ ⟨rfl, rfl⟩)
    | refine aq2 rfl rfl rfl Un (Zc5 G hG _ 25 (by omega) _) ?_
    | (exfalso; omega)
   refine ⟨rfl, 64 - (k + 1), by omega, k + 1, rndZ kv wv u, by omega, rfl, by rw [hS']; exact hS, rfl, ?_, ?_, ?_, ?_, rfl⟩
   all_goals first | rfl | (simp [upd, e2, e4, e5, e12]; done)
 have hk64 : k = 64 := by omega
 subst hk64
 rw [Zu, Zd2] at hS
 repeat' first
  | refine sA rfl ?_ | refine sI rfl rfl ?_
  | refine Y4 ?_
  | ((first | refine ao1 rfl rfl fun K HK => ?_ | refine aq1 rfl rfl fun K HK => ?_); simp only [go_sem, ↓reduceIte, Z0, Z2, Z1, Z3, Z4, Z5, Z6, Z7, e2, e4, e5, e12, e106]; (first | refine Y6 (fun hq => ?_) (fun hq => ?_) | skip) <;> (refine HK _ _ ?_; clear HK K))
  | (refine Ya mixd (by kernel_rfl) ?_)
  | (exfalso; omega)
 refine Yr (fun m e h' => ∃ (k : Nat) (U : List Int), k ≤ 8 ∧ m = 8 - k ∧ U.length = 8 ∧ addJ v.ls (8 - k) U = (u.add v).ls ∧ h' = [.cells (v.ls.map zD), .cells (Zb 8 (zD 0)), .cells (W.map zD), .cells (U.map zD)] ∧ e 2 = .ptr 0 0 ∧ e 4 = .ptr 1 0 ∧ e 12 = .ptr 3 0 ∧ e 184 = .v (.int .i64 k)) 8 ⟨0, u.ls, by omega, rfl, rfl, by rw [Nat.sub_zero]; exact addJ_eq u v, rfl, e2, e4, e12, rfl⟩ ?_
 clear hk hlt e2 e4 e5 e12 e106 e
 rintro m e h' ⟨k, U, hk, rfl, hU, hT, rfl, e2, e4, e12, e184⟩
 by_cases hlt : k < 8
 · have hx0 : U[k]? = some U[k] := Z9 (by omega)
   have hvl : v.ls.length = 8 := rfl
   have hx1 : v.ls[k]? = some (v.ls[k]'(by omega)) := Z9 (by omega)
   have hS' : addJ v.ls (8 - (k + 1)) (U.set k (Xw U[k] (v.ls[k]'(by omega)))) = addJ v.ls (8 - k) U := by
    obtain ⟨n, hn⟩ : ∃ n, 8 - k = n + 1 := ⟨7 - k, by omega⟩
    rw [hn, addJ, show 8 - (k + 1) = n by omega, show 7 - n = k by omega]
    simp only [Zh, hx0, hx1, Zq]
   generalize U[k] = x at hx0 hS'
   generalize (v.ls[k]'(by omega)) = y at hx1 hS'
   have wk : IntKind.i64.wrap ((k : Int) + 1) = ((k + 1 : Nat) : Int) := IntWalk.i64_in _ (by omega)
   repeat' first
    | (refine aS1 rfl rfl fun K HK => ?_; refine Ve (by first | rfl | (simp only [go_sem, e2, e4, e12, e184, wk, Z8]; rfl)) (by first | rfl | (simp only [go_sem, e2, e4, e12, e184, wk, Z8]; rfl)) (by first | (simp only [go_sem]; rfl) | (simp only [go_sem]; done)) (by first | (simp only [go_sem]; rfl) | (simp only [go_sem]; done)) (by omega) ?_; refine HK _ _ rfl ?_; clear HK K)
    | (refine Vj rfl rfl rfl (by (simp only [go_sem, ↓reduceIte, Z0, Z2, Z1, Z3, Z4, Z5, Z6, Z7, e2, e4, e12, e184, wk, Z8]; rfl)) (Ze1 (by first | (simp only [go_sem]; rfl) | (simp only [go_sem]; done)) (by assumption)) ?_)
    | (refine Vs rfl rfl (by (simp only [go_sem, ↓reduceIte, Z0, Z2, Z1, Z3, Z4, Z5, Z6, Z7, e2, e4, e12, e184, wk, Z8]; rfl)) rfl (by simp only [go_sem]) (by simp [hU]; omega) ?_)
    | refine sA rfl ?_ | refine sI rfl rfl ?_ | refine sT rfl ?_
    | refine Y4 ?_
    | ((first | refine ao1 rfl rfl fun K HK => ?_ | refine aS1 rfl rfl fun K HK => ?_); simp only [go_sem, ↓reduceIte, Z0, Z2, Z1, Z3, Z4, Z5, Z6, Z7, e2, e4, e12, e184, wk, Z8]; (first | refine Y6 (fun hq => ?_) (fun hq => ?_) | skip) <;> ((first | refine HK _ _ ?_ | refine HK _ _ rfl ?_); clear HK K))
    | (refine Wq mixd (by kernel_rfl) ?_)
    | refine Jw (by simp only [Zi, Zj, Zk, Zf, Vh, chk1]; repeat' (first | exact trivial | refine Zt ?_ ?_ | exact .inr Xr | exact .inr Wn | exact .inr U1 | exact .inr (Zh3 (by omega)) | exact .inl (by kernel_rfl))) ?_
    | (exfalso; omega)
   refine ⟨rfl, 8 - (k + 1), by omega, k + 1, U.set k (Xw x y), by omega, rfl, by simp [hU], by rw [hS']; exact hT, ?_, ?_, ?_, ?_, rfl⟩
   · exact congrArg (fun z => [Ob.cells (v.ls.map zD), .cells (Zb 8 (zD 0)), .cells (W.map zD), .cells z]) (by first | exact putL_set0 (W := U) (k := k) (z := Xw x y) (by omega) | exact Jd (W := U) (k := k) (z := Xw x y) (by omega))
   all_goals first | rfl | (simp [upd, e2, e4, e12]; done)
 have hk8 : k = 8 := by omega
 subst hk8
 rw [Zu, addJ] at hT
 have hB : (blkZ v b).ls = U := by rw [hT]; unfold blkZ; rw [hWe, ← hS]
 rw [hB]
 rw [hT]
 repeat' first
  | (refine ao1 rfl rfl fun K HK => ?_; refine Yy (by first | rfl | (simp only [go_sem, e2, e4, e12, e184]; rfl)) (by (simp only [go_sem, ↓reduceIte, Z0, Z2, Z1, Z3, Z4, Z5, Z6, Z7, e2, e4, e12, e184]; rfl)) (Jk (by first | (simp only [go_sem]; rfl) | (simp only [go_sem]; done)) (by first | (simp only [go_sem]; rfl) | (simp only [go_sem]; done))) ?_; refine HK _ _ ?_; clear HK K)
  | (refine ao1' rfl fun K HK => ?_; refine Ze4 (by first | rfl | (simp only [go_sem, e2, e4, e12, e184]; rfl)) (by (simp only [go_sem, ↓reduceIte, Z0, Z2, Z1, Z3, Z4, Z5, Z6, Z7, e2, e4, e12, e184]; rfl)) rfl (by first | (simp only [go_sem]; rfl) | (simp only [go_sem]; done)) rfl ?_; refine HK _ _ ?_; clear HK K)
  | refine sA rfl ?_ | refine sI rfl rfl ?_
  | refine Y4 ?_
  | ((first | refine ao1 rfl rfl fun K HK => ?_ | refine aq1 rfl rfl fun K HK => ?_); simp only [go_sem, ↓reduceIte, Z0, Z2, Z1, Z3, Z4, Z5, Z6, Z7, e2, e4, e12, e184]; (first | refine Y6 (fun hq => ?_) (fun hq => ?_) | skip) <;> ((first | refine HK _ _ ?_ | refine HK _ _ rfl ?_); clear HK K))
  | (refine Ya mixd (by kernel_rfl) ?_)
  | (exfalso; omega)
 exact ⟨.inr rfl, endD (ds := [.agg ((u.add v).ls.map zD)]) (r := .agg ((u.add v).ls.map zD)) hl0 (Zi9 (i := 1) (o := 0) (by simp [upd, e4]) rfl (Jk (by simp only [go_sem]) (by simp only [go_sem]))) (by simp) (by simp) (cvD_zs _ _ _) (Zl0 _ _) ⟨rfl, rfl⟩⟩
end
section
attribute [local irreducible] on aOp
attribute [local go_sem] decide_true decide_false Zm Zl
attribute [local simp] byD_len
theorem low_mem2 (v : W8) (q : List UInt8) (n : Nat) : lowH 2 [.cells (stL v (.buf 1 q.length) n), .buf 5 1 (byD q)] := fun x hx => by
 simp at hx
 rcases hx with rfl | rfl
 · exact low_stL (by simp [low])
 · exact Yb 2 q
variable (G : Nat → D) (hG : ∀ g, low 0 (G g))
include hG
theorem shNew0 : Does Zc G 161 [] [] (fun h' r => h' = [.cells (stL J8 (.v (.slice none 0 0)) 0)] ∧ r = .ptr 0 0) := by
 refine Y5 Tryz.func161 rfl (Za rfl) hG fun hl0 _ => ?_
 simp only [Tryz.ntmps161]
 repeat' first
  | (refine ao1 rfl rfl fun K HK => ?_; refine aOp_bld0 rfl (by simp only [go_sem]) (by simp only [go_sem]; rfl) (by simp only [go_sem]) rfl rfl rfl ?_; refine HK _ _ ?_; clear HK K)
  | refine sA rfl ?_
  | refine Y4 ?_
  | (refine ao1 rfl rfl fun K HK => ?_; simp only [go_sem, ↓reduceIte, Z0, Z2, Z1, Z3, Z4, Z5, Z6, Z7] <;> (refine HK _ _ ?_; clear HK K))
  | (refine ao2 rfl rfl rfl ent_181 (initial_d G hG _) ?_; rintro _ _ ⟨rfl, rfl⟩)
 exact ⟨.inr rfl, [.ptr 0 0], 1, rfl, by simp, by simp, fun x hx => by (simp at hx; subst hx; exact low_stL (by rw [low]; trivial)), by simp [outD, cvD, cv1, low], rfl, rfl⟩
theorem shWrite0 (b : List UInt8) (hb : b.length ≤ 100000000) (hK : G 1 = .rp (shaK.map zD)) : Does Zc G 162 [.cells (stL J8 (.v (.slice none 0 0)) 0)] [.ptr 0 0, .sl 1 (byD b)] (fun h' r => h' = [.cells (stL (Wt J8 b) (.buf 1 (U3 b).length) b.length), .buf 5 1 (byD (U3 b))] ∧ r = .tup []) := by
 have wb : IntKind.i64.wrap (((0 : Nat) : Int) + (b.length : Int)) = (b.length : Int) := (IntWalk.i64_in _ (by omega)).trans (by omega)
 refine Y5 Tryz.func162 rfl (Za rfl) hG fun hl0 _ => ?_
 simp only [Tryz.ntmps162]
 repeat' first
  | (refine ao1 rfl rfl fun K HK => ?_; refine Yy (by first | rfl | (simp only [go_sem, wb]; rfl)) (by (simp only [go_sem, ↓reduceIte, Z0, Z2, Z1, Z3, Z4, Z5, Z6, Z7, wb]; rfl)) (getD_rS (by first | (simp only [go_sem]; rfl) | (simp only [go_sem]; done))) ?_; refine HK _ _ ?_; clear HK K)
  | (refine ao1 rfl rfl fun K HK => ?_; refine Yy (by first | rfl | (simp only [go_sem, wb]; rfl)) (by (simp only [go_sem, ↓reduceIte, Z0, Z2, Z1, Z3, Z4, Z5, Z6, Z7, wb]; rfl)) (getD_nS (by first | (simp only [go_sem]; rfl) | (simp only [go_sem]; done))) ?_; refine HK _ _ ?_; clear HK K)
  | (refine ao1' rfl fun K HK => ?_; refine aOp_stn8 (by first | rfl | (simp only [go_sem, wb]; rfl)) (by (simp only [go_sem, ↓reduceIte, Z0, Z2, Z1, Z3, Z4, Z5, Z6, Z7, wb]; rfl)) rfl (by first | (simp only [go_sem]; rfl) | (simp only [go_sem]; done)) ?_; refine HK _ _ ?_; clear HK K)
  | refine sA rfl ?_ | refine sI rfl rfl ?_
  | refine Y4 ?_
  | (refine ao1 rfl rfl fun K HK => ?_; simp only [go_sem, ↓reduceIte, Z0, Z2, Z1, Z3, Z4, Z5, Z6, Z7, wb] <;> (refine HK _ _ ?_; clear HK K))
 refine Yr (fun m e h' => ∃ (v : W8) (c : List UInt8), m = c.length ∧ c.length ≤ b.length ∧ Wt v c = Wt J8 b ∧ U3 c = U3 b ∧ h' = [.cells (stL v (.v (.slice none 0 0)) b.length)] ∧ e 0 = .ptr 0 0 ∧ e 1 = .sl 1 (byD c)) b.length ⟨J8, b, rfl, Nat.le_refl _, rfl, rfl, rfl, rfl, rfl⟩ ?_
 rintro m e h' ⟨v, c, rfl, hcl, hB, hR, rfl, e0, e1⟩
 by_cases hlt : 64 ≤ c.length
 · have hx : ((byD c).take (Int.toNat 64)).drop (Int.toNat 0) = byD (c.take 64) := by rw [Za9]; rfl
   have hy : ((byD c).take c.length).drop (Int.toNat 64) = byD (c.drop 64) := by rw [Za9, Zg (Nat.le_refl _)]; rfl
   have hl64 : (c.take 64).length = 64 := by rw [Zr]; omega
   repeat' first
    | (refine Vj rfl rfl (by first | rfl | (simp only [go_sem, e0, e1]; rfl)) (by (simp only [go_sem, ↓reduceIte, Z0, Z2, Z1, Z3, Z4, Z5, Z6, Z7, e0, e1]; rfl)) (getD_wS (by first | (simp only [go_sem]; rfl) | (simp only [go_sem]; done)) (by first | (simp only [go_sem]; rfl) | (simp only [go_sem]; done))) ?_)
    | (refine aS1 rfl rfl fun K HK => ?_; refine Zt6 (c := c) (by first | rfl | (simp only [go_sem, e0, e1]; rfl)) (by simp only [go_sem, Ze]) hlt ?_; refine HK _ _ rfl ?_; clear HK K)
    | (refine ao1 rfl rfl fun K HK => ?_; refine Zt7 (c := c) (by first | rfl | (simp only [go_sem, e0, e1]; rfl)) (by simp only [go_sem, Ze]) hlt ?_; refine HK _ _ ?_; clear HK K)
    | (refine Vs (es := (blkZ v (c.take 64)).ls.map zD) rfl (by first | rfl | (simp only [go_sem, e0, e1]; rfl)) (by (simp only [go_sem, ↓reduceIte, Z0, Z2, Z1, Z3, Z4, Z5, Z6, Z7, e0, e1]; rfl)) rfl (by rw [all_zs]; simp only [go_sem]; rfl) (by simp [stL, W8.ls]) ?_)
    | refine sA rfl ?_ | refine sI rfl rfl ?_ | refine sT rfl ?_ | refine sB rfl ?_
    | refine Y4 ?_
    | ((first | refine ao1 rfl rfl fun K HK => ?_ | refine aS1 rfl rfl fun K HK => ?_); simp only [go_sem, ↓reduceIte, Z0, Z2, Z1, Z3, Z4, Z5, Z6, Z7, e0, e1]; (first | refine Y6 (fun hq => ?_) (fun hq => ?_) | skip) <;> ((first | refine HK _ _ ?_ | refine HK _ _ rfl ?_); clear HK K))
    | (refine Wq mixd (by kernel_rfl) ?_)
    | refine Js rfl rfl rfl (by (simp only [go_sem, ↓reduceIte, Z0, Z2, Z1, Z3, Z4, Z5, Z6, Z7, e0, e1]; rfl)) (by simp) (by simp only [go_sem]; rfl) rfl (by exact X0 _) (by omega) ?_
    | refine Jw (by simp only [Zi, Zj, Zk, Zf, Vh, chk1]; repeat' (first | exact trivial | refine Zt ?_ ?_ | exact .inr Xr | exact .inr Wn | exact .inl (by kernel_rfl))) ?_
    | refine Vt rfl rfl rfl ent_182 (fun h2 => block_d G hG v (c.take 64) hl64 hK _) ?_
    | (exfalso; omega)
   exact ⟨rfl, (c.drop 64).length, by simp; omega, blkZ v (c.take 64), c.drop 64, rfl, by simp; omega, by rw [← Zh6 hlt]; exact hB, by rw [restZ_ge hlt]; exact hR, rfl, by simp [upd, e0], rfl⟩
 · skip
   repeat' first
    | (refine ao1' rfl fun K HK => ?_; refine aOp_str8 (by first | rfl | (simp only [go_sem, e0, e1]; rfl)) (by (simp only [go_sem, ↓reduceIte, Z0, Z2, Z1, Z3, Z4, Z5, Z6, Z7, e0, e1]; rfl)) rfl rfl (by first | (simp only [go_sem]; rfl) | (simp only [go_sem]; done)) ?_; refine HK _ _ ?_; clear HK K)
    | refine sA rfl ?_ | refine sI rfl rfl ?_
    | refine Y4 ?_
    | ((first | refine ao1 rfl rfl fun K HK => ?_ | refine aq1 rfl rfl fun K HK => ?_); simp only [go_sem, ↓reduceIte, Z0, Z2, Z1, Z3, Z4, Z5, Z6, Z7, e0, e1]; (first | refine Y6 (fun hq => ?_) (fun hq => ?_) | skip) <;> ((first | refine HK _ _ ?_ | refine HK _ _ rfl ?_); clear HK K))
    | (refine Ya mixd (by kernel_rfl) ?_)
    | refine Js rfl rfl rfl (by (simp only [go_sem, ↓reduceIte, Z0, Z2, Z1, Z3, Z4, Z5, Z6, Z7, e0, e1]; rfl)) (by simp) (by simp only [go_sem]; rfl) rfl (by exact X0 _) (by (simp; omega)) ?_
    | (exfalso; omega)
   rw [Zh5 (by omega)] at hB
   rw [restZ_lt (by omega)] at hR
   subst hB hR
   have e3 : 0 + (byD (U3 b)).length = (U3 b).length := by rw [byD_len, Nat.zero_add]
   exact ⟨.inl rfl, endX [] [.cells (stL (Wt J8 b) (.buf 1 (U3 b).length) b.length), .buf 5 1 (byD (U3 b))] [] (.tup []) rfl (congrArg (fun m => [Ob.cells (stL (Wt J8 b) (.buf 1 m) b.length), .buf 5 1 (byD (U3 b))]) e3) (by simp) (low_mem2 _ _ _) (by simp [low, lowL]) rfl ⟨rfl, rfl⟩⟩
theorem shSum0 (v : W8) (q : List UInt8) (n : Nat) (hql : q.length < 64) (hn : n ≤ 100000000) (hK : G 1 = .rp (shaK.map zD)) : Does Zc G 163 [.cells (stL v (.buf 1 q.length) n), .buf 5 1 (byD q)] [.ptr 0 0] (fun h' r => h' = [.cells (stL v (.buf 1 q.length) n), .buf 5 1 (byD q)] ∧ r = .v (.string ⟨(outZ (Wt v (padZ q n))).toArray⟩)) := by
 generalize hA : Ob.cells (stL v (.buf 1 q.length) n) = A
 generalize hBq : Ob.buf 5 1 (byD q) = B
 refine Y5 Tryz.func163 rfl (Za rfl) hG fun hl0 _ => ?_
 simp only [Tryz.ntmps163]
 repeat' first
  | (refine ao1 rfl rfl fun K HK => ?_; refine Yy (by first | rfl | (simp only [go_sem, go_sem]; rfl)) (by first | exact congrArg some hA.symm | (simp only [sM_0, sM_1, sM_2, Xk, Xj, Xi, Xg, Xh, Yq, Xb]; exact congrArg some hA.symm)) (getD_rS (by first | (simp only [go_sem]; rfl) | (simp only [go_sem]; done))) ?_; refine HK _ _ ?_; clear HK K)
  | (refine Wf rfl rfl rfl rfl (by first | rfl | (simp only [← hA, ← hBq]; done) | (simp only [← hA, ← hBq]; rfl)) (by simp) (by simp only [go_sem]; rfl) (by first | rfl | (simp only [← hA, ← hBq]; done) | (simp only [← hA, ← hBq]; rfl)) (by simp) (by first | assumption | exact rowsOk_nil _ | exact X0 _ | (simp [X9, D.one, Value.oneCell']; done)) (by first | omega | (simp; done) | (simp; omega) | (simp [byD]; omega)) ?_)
  | refine sA rfl ?_
  | refine Y4 ?_
  | (refine ao1 rfl rfl fun K HK => ?_; simp only [go_sem, ↓reduceIte, Z0, Z2, Z1, Z3, Z4, Z5, Z6, Z7] <;> (refine HK _ _ ?_; clear HK K))
 refine Yr (fun m e h' => ∃ (k : Nat) (cur : List UInt8) (T : List Ob), k ≤ zc q.length ∧ m = zc q.length - k ∧ cur = q ++ [128] ++ Zb k 0 ∧ h' = sM A B (.buf 5 1 (byD cur)) T ∧ e 0 = .ptr 0 0 ∧ e 3 = .buf 2 cur.length) (zc q.length) ⟨0, q ++ [128], [.buf 5 1 (byD [128])], Nat.zero_le _, rfl, by simp, ?_, rfl, ?_⟩ ?_
 · exact congrArg (fun x => [A, B, Ob.buf 5 1 x, .buf 5 1 [[.v (.int .u8 128)]]]) (by simp [byD] : byD q ++ [[D.v (.int .u8 128)]] = byD (q ++ [128]))
 · simp [upd]
 rintro m e h' ⟨k, cur, T, hk, rfl, hcur, rfl, e0, e3⟩
 have hcl : cur.length = q.length + 1 + k := by rw [hcur]; simp; omega
 have hz : zc q.length = (119 - q.length % 64) % 64 := rfl
 have wr : (cur.length : Int).tmod 64 = ((cur.length % 64 : Nat) : Int) := by rw [Int.tmod_eq_emod_of_nonneg (by omega)]; rfl
 by_cases hlt : k < zc q.length
 · skip
   repeat' first
    | refine sA rfl ?_ | refine sI rfl rfl ?_ | refine sT rfl ?_ | refine sB rfl ?_
    | refine Y4 ?_
    | (refine ao1 rfl rfl fun K HK => ?_; simp only [go_sem, ↓reduceIte, Z0, Z2, Z1, Z3, Z4, Z5, Z6, Z7, e0, e3, wr, sM_0, sM_1, sM_2, Xk, Xj, Xi, Xg, Xh, Yq, Xb, sM_l, Xn, Zn]; (first | refine W7 (fun hq => ?_) (fun hq => ?_) | skip) <;> (refine HK _ _ ?_; clear HK K))
    | refine Wf rfl rfl rfl rfl (by (simp only [go_sem, ↓reduceIte, Z0, Z2, Z1, Z3, Z4, Z5, Z6, Z7, e0, e3, wr, sM_0, sM_1, sM_2, Xk, Xj, Xi, Xg, Xh, Yq, Xb, sM_l, Xn, Zn]; rfl)) (by simp) (by simp only [go_sem]; rfl) (by (simp only [go_sem, ↓reduceIte, Z0, Z2, Z1, Z3, Z4, Z5, Z6, Z7, e0, e3, wr, sM_0, sM_1, sM_2, Xk, Xj, Xi, Xg, Xh, Yq, Xb, sM_l, Xn, Zn]; rfl)) (by simp) (by (simp [X9, D.one, Value.oneCell']; done)) (by (simp; omega)) ?_
    | (exfalso; omega)
   · refine ⟨rfl, zc q.length - (k + 1), by omega, k + 1, cur ++ [0], T ++ [.buf 5 1 [[.v (.int .u8 0)]]], by omega, rfl, by rw [hcur]; simp [List.replicate_succ'], ?_, by simp [upd, e0], by simp [upd]⟩
     exact congrArg (fun x => sM A B (.buf 5 1 x) (T ++ [.buf 5 1 [[.v (.int .u8 0)]]])) (by simp [byD] : byD cur ++ [[D.v (.int .u8 0)]] = byD (cur ++ [0]))
   all_goals (exfalso; omega)
 have hkz : k = zc q.length := by omega
 have wn : IntKind.u64.wrap (n : Int) = (n : Int) := by rw [IntKind.wrap_u64]; omega
 have w8 : IntKind.u64.wrap ((n : Int) * 8) = ((8 * n : Nat) : Int) := by rw [IntKind.wrap_u64]; omega
 repeat' first
  | (refine ao1 rfl rfl fun K HK => ?_; refine Yy (by first | rfl | (simp only [go_sem, e0, e3]; rfl)) (by first | exact congrArg some hA.symm | (simp only [sM_0, sM_1, sM_2, Xk, Xj, Xi, Xg, Xh, Yq, Xb]; exact congrArg some hA.symm)) (getD_nS (by first | (simp only [go_sem]; rfl) | (simp only [go_sem]; done))) ?_; refine HK _ _ ?_; clear HK K)
  | refine sA rfl ?_ | refine sI rfl rfl ?_ | refine sT rfl ?_ | refine sB rfl ?_
  | refine Y4 ?_
  | (refine ao1 rfl rfl fun K HK => ?_; simp only [go_sem, ↓reduceIte, Z0, Z2, Z1, Z3, Z4, Z5, Z6, Z7, e0, e3, wr, wn, w8, sM_0, sM_1, sM_2, Xk, Xj, Xi, Xg, Xh, Yq, Xb, sM_l, Xn, Zn]; (first | refine W7 (fun hq => ?_) (fun hq => ?_) | skip) <;> (refine HK _ _ ?_; clear HK K))
  | refine Wf rfl rfl rfl rfl (by (simp only [go_sem, ↓reduceIte, Z0, Z2, Z1, Z3, Z4, Z5, Z6, Z7, e0, e3, wr, wn, w8, sM_0, sM_1, sM_2, Xk, Xj, Xi, Xg, Xh, Yq, Xb, sM_l, Xn, Zn]; rfl)) (by simp) (by simp only [go_sem]; rfl) (by (simp only [go_sem, ↓reduceIte, Z0, Z2, Z1, Z3, Z4, Z5, Z6, Z7, e0, e3, wr, wn, w8, sM_0, sM_1, sM_2, Xk, Xj, Xi, Xg, Xh, Yq, Xb, sM_l, Xn, Zn]; rfl)) (by simp) (by (simp [X9, D.one, Value.oneCell']; done)) (by omega) ?_
  | (exfalso; omega)
 rotate_left
 all_goals try (exfalso; omega)
 refine Yr (fun m e h' => ∃ (j : Nat) (T : List Ob), j ≤ 8 ∧ m = 8 - j ∧ h' = sM A B (.buf 5 1 (byD (cur ++ (be8 (8 * n)).take j))) T ∧ e 0 = .ptr 0 0 ∧ e 3 = .buf 2 (cur.length + j) ∧ e 4 = .v (.int .u64 ((8 * n : Nat) : Int)) ∧ e 5 = .v (.int .i64 (56 - 8 * (j : Int)))) 8 ⟨0, T, by omega, rfl, by simp, by simp [upd, e0], by simp [upd, e3], rfl, rfl⟩ ?_
 clear hlt e0 e3 wr T e
 rintro m e h' ⟨j, T, hj, rfl, rfl, e0, e3, e4, e5⟩
 have hbl : (be8 (8 * n)).length = 8 := by simp [be8]
 have hcj : (cur ++ (be8 (8 * n)).take j).length = cur.length + j := by rw [Zd, Zr, hbl]; omega
 by_cases hlt : j < 8
 · have ws : decide ((0 : Int) ≤ 56 - 8 * (j : Int)) = true := decide_eq_true (by omega)
   have wt : (56 - 8 * (j : Int)).toNat = 56 - 8 * j := by omega
   have hv := be8_val (8 * n) (56 - 8 * j) (by omega)
   have w5 : IntKind.i64.wrap (56 - 8 * (j : Int) - 8) = 56 - 8 * ((j + 1 : Nat) : Int) := (IntWalk.i64_in _ (by omega)).trans (by omega)
   generalize hP : cur ++ (be8 (8 * n)).take j = P at hcj
   rw [← hcj] at e3
   repeat' first
    | refine sA rfl ?_ | refine sI rfl rfl ?_ | refine sT rfl ?_
    | refine Y4 ?_
    | (refine ao1 rfl rfl fun K HK => ?_; simp only [go_sem, ↓reduceIte, Z0, Z2, Z1, Z3, Z4, Z5, Z6, Z7, e0, e3, e4, e5, ws, wt, hv, w5, sM_0, sM_1, sM_2, Xk, Xj, Xi, Xg, Xh, Yq, Xb, sM_l, Xn] <;> (refine HK _ _ ?_; clear HK K))
    | refine Wf rfl rfl rfl rfl (by (simp only [go_sem, ↓reduceIte, Z0, Z2, Z1, Z3, Z4, Z5, Z6, Z7, e0, e3, e4, e5, ws, wt, hv, w5, sM_0, sM_1, sM_2, Xk, Xj, Xi, Xg, Xh, Yq, Xb, sM_l, Xn]; rfl)) (by simp) (by simp only [go_sem]; rfl) (by (simp only [go_sem, ↓reduceIte, Z0, Z2, Z1, Z3, Z4, Z5, Z6, Z7, e0, e3, e4, e5, ws, wt, hv, w5, sM_0, sM_1, sM_2, Xk, Xj, Xi, Xg, Xh, Yq, Xb, sM_l, Xn]; rfl)) (by simp) (by (simp [X9, D.one, Value.oneCell']; done)) (by (simp; omega)) ?_
   · refine ⟨rfl, 8 - (j + 1), by omega, j + 1, T ++ [.buf 5 1 [[.v (.int .u8 ((UInt8.ofNat (8 * n / 2 ^ (56 - 8 * j))).toNat : Int))]]], by omega, rfl, ?_, by simp [upd, e0], ?_, by simp [upd, e4], rfl⟩
     · rw [be8_take (8 * n) hlt, ← List.append_assoc, hP]
       exact congrArg (fun x => sM A B (.buf 5 1 x) (T ++ [.buf 5 1 [[.v (.int .u8 ((UInt8.ofNat (8 * n / 2 ^ (56 - 8 * j))).toNat : Int))]]])) (by simp [byD] : byD P ++ [[D.v (.int .u8 ((UInt8.ofNat (8 * n / 2 ^ (56 - 8 * j))).toNat : Int))]] = byD (P ++ [UInt8.ofNat (8 * n / 2 ^ (56 - 8 * j))]))
     · simp [upd]; omega
   all_goals (exfalso; omega)
 have hj8 : j = 8 := by omega
 subst hj8
 have hP : cur ++ (be8 (8 * n)).take 8 = padZ q n := by
  rw [Zg (by omega), hcur, hkz]; rfl
 rw [hP] at hcj ⊢
 rw [← hcj] at e3
 have hPm := padZ_len q n
 have hPl : (padZ q n).length ≤ 200 := by rw [hcj, hcl]; omega
 generalize padZ q n = P at hPm hPl e3 ⊢
 have ws : decide ((0 : Int) ≤ 56 - 8 * ((8 : Nat) : Int)) = false := decide_eq_false (by omega)
 repeat' first
  | (refine ao1 rfl rfl fun K HK => ?_; refine Yy (by first | rfl | (simp only [go_sem, e0, e3]; rfl)) (by first | exact congrArg some hA.symm | (simp only [sM_0, sM_1, sM_2, Xk, Xj, Xi, Xg, Xh, Yq, Xb]; exact congrArg some hA.symm)) (getD_wS (by first | (simp only [go_sem]; rfl) | (simp only [go_sem]; done)) (by first | (simp only [go_sem]; rfl) | (simp only [go_sem]; done))) ?_; refine HK _ _ ?_; clear HK K)
  | (refine ao1' rfl fun K HK => ?_; refine Ze4 (by first | rfl | (simp only [go_sem, e0]; rfl)) (by (simp only [go_sem, ↓reduceIte, Z0, Z2, Z1, Z3, Z4, Z5, Z6, Z7, e0, e3, e4, e5, ws, sM_0, sM_1, sM_2, Xk, Xj, Xi, Xg, Xh, Yq, Xb, sM_l, Xn]; rfl)) rfl (by first | (simp only [go_sem]; rfl) | (simp only [go_sem]; done)) rfl ?_; refine HK _ _ ?_; clear HK K)
  | refine sA rfl ?_ | refine sI rfl rfl ?_
  | refine Y4 ?_
  | (refine ao1 rfl rfl fun K HK => ?_; simp only [go_sem, ↓reduceIte, Z0, Z2, Z1, Z3, Z4, Z5, Z6, Z7, e0, e3, e4, e5, ws, sM_0, sM_1, sM_2, Xk, Xj, Xi, Xg, Xh, Yq, Xb, sM_l, Xn] <;> (refine HK _ _ ?_; clear HK K))
 all_goals try (exfalso; omega)
 refine aw_give 2 3 ?_
 refine Yr (fun m e h' => ∃ (v' : W8) (c : List UInt8), m = c.length ∧ c.length % 64 = 0 ∧ c.length ≤ 200 ∧ Wt v' c = Wt v P ∧ h' = sM A B .dead (T ++ [.cells (v'.ls.map zD)]) ∧ e 3 = .sl 1 (byD c) ∧ e 6 = .ptr (T.length + 3) 0) P.length ⟨v, P, rfl, hPm, hPl, rfl, ?_, ?_, ?_⟩ ?_
 · simp [sM]
 · simp [upd, e3, cvD, cv1, sM]
 · simp [upd]
 clear e0 e3 e4 e5 ws hlt e
 rintro m e h' ⟨v', c, rfl, hm, hcl2, hB, rfl, e3, e6⟩
 by_cases h0 : 0 < c.length
 · have h64 : 64 ≤ c.length := by omega
   have hl64 : (c.take 64).length = 64 := by rw [Zr]; omega
   repeat' first
    | (refine aS1 rfl rfl fun K HK => ?_; refine Zt6 (c := c) (by first | rfl | (simp only [go_sem, e3, e6]; rfl)) (by simp only [go_sem, Ze]) h64 ?_; refine HK _ _ rfl ?_; clear HK K)
    | (refine ao1 rfl rfl fun K HK => ?_; refine Zt7 (c := c) (by first | rfl | (simp only [go_sem, e3, e6]; rfl)) (by simp only [go_sem, Ze]) h64 ?_; refine HK _ _ ?_; clear HK K)
    | (refine Vj rfl rfl (by first | rfl | (simp only [go_sem, e3, e6]; rfl)) (by (simp only [go_sem, ↓reduceIte, Z0, Z2, Z1, Z3, Z4, Z5, Z6, Z7, e3, e6, sM_0, sM_1, sM_2, Xk, Xj, Xi, Xg, Xh, Yq, Xb, sM_l, Xn]; rfl)) (Jk (by first | (simp only [go_sem]; rfl) | (simp only [go_sem]; done)) (by first | (simp only [go_sem]; rfl) | (simp only [go_sem]; done))) ?_)
    | (refine Vs (es := (blkZ v' (c.take 64)).ls.map zD) rfl (by first | rfl | (simp only [go_sem, e3, e6]; rfl)) (by (simp only [go_sem, ↓reduceIte, Z0, Z2, Z1, Z3, Z4, Z5, Z6, Z7, e3, e6, sM_0, sM_1, sM_2, Xk, Xj, Xi, Xg, Xh, Yq, Xb, sM_l, Xn]; rfl)) rfl (by rw [all_zs]; simp only [go_sem]; rfl) (by simp [W8.ls]) ?_)
    | refine sA rfl ?_ | refine sI rfl rfl ?_ | refine sT rfl ?_
    | refine Y4 ?_
    | ((first | refine ao1 rfl rfl fun K HK => ?_ | refine aS1 rfl rfl fun K HK => ?_); simp only [go_sem, ↓reduceIte, Z0, Z2, Z1, Z3, Z4, Z5, Z6, Z7, e3, e6, sM_0, sM_1, sM_2, Xk, Xj, Xi, Xg, Xh, Yq, Xb, sM_l, Xn]; (first | refine Y6 (fun hq => ?_) (fun hq => ?_) | skip) <;> ((first | refine HK _ _ ?_ | refine HK _ _ rfl ?_); clear HK K))
    | (refine Wq mixd (by kernel_rfl) ?_)
    | refine Jw (by simp only [Zi, Zj, Zk, Zf, Vh, chk1]; repeat' (first | exact trivial | refine Zt ?_ ?_ | exact .inr Xr | exact .inr Wn | exact .inl (by kernel_rfl))) ?_
    | refine Vt rfl rfl rfl ent_182 (fun h2 => block_d G hG v' (c.take 64) hl64 hK _) ?_
    | (exfalso; omega)
   exact ⟨rfl, (c.drop 64).length, by simp; omega, blkZ v' (c.take 64), c.drop 64, rfl, by simp; omega, by simp; omega, by rw [← Zh6 h64]; exact hB, rfl, rfl, by simp [upd, e6]⟩
 obtain rfl : c = [] := List.eq_nil_of_length_eq_zero (by omega)
 rw [Zh5 (by simp)] at hB
 subst hB
 generalize Wt v P = v'
 repeat' first
  | (refine ao_make0 (m := 32) (el := 5) (k := 1) (by' := 1) (zs := [.v (.int .u8 0)]) rfl rfl rfl rfl (by simp only [go_sem]) (by kernel_rfl) rfl (by decide) (by decide) ?_)
  | (refine ao1 rfl rfl fun K HK => ?_; refine Yy (by first | rfl | (simp only [go_sem, e3, e6]; rfl)) (by (simp only [go_sem, ↓reduceIte, Z0, Z2, Z1, Z3, Z4, Z5, Z6, Z7, e3, e6, sM_0, sM_1, sM_2, Xk, Xj, Xi, Xg, Xh, Yq, Xb, sM_l, Xn, sM_ma, sM_m]; rfl)) (Jk (by first | (simp only [go_sem]; rfl) | (simp only [go_sem]; done)) (by first | (simp only [go_sem]; rfl) | (simp only [go_sem]; done))) ?_; refine HK _ _ ?_; clear HK K)
  | refine sA rfl ?_ | refine sI rfl rfl ?_
  | refine Y4 ?_
  | ((first | refine ao1 rfl rfl fun K HK => ?_ | refine aq1 rfl rfl fun K HK => ?_); simp only [go_sem, ↓reduceIte, Z0, Z2, Z1, Z3, Z4, Z5, Z6, Z7, e3, e6, sM_0, sM_1, sM_2, Xk, Xj, Xi, Xg, Xh, Yq, Xb, sM_l, Xn, sM_ma, sM_m]; (first | refine Y6 (fun hq => ?_) (fun hq => ?_) | skip) <;> (refine HK _ _ ?_; clear HK K))
  | (refine Ya mixd (by kernel_rfl) ?_)
  | (exfalso; omega)
 generalize hT2 : T ++ [Ob.cells (v'.ls.map zD)] = T2
 refine Yr (fun m e h' => ∃ (k : Nat) (out : List UInt8) (U : List Ob), k ≤ 8 ∧ m = 8 - k ∧ out = ((v'.ls.take k).map outW).flatten ∧ h' = sM A B .dead (T2 ++ .buf 5 1 (byD out) :: U) ∧ e 7 = .buf (T2.length + 3) out.length ∧ e 56 = .agg (v'.ls.map zD) ∧ e 57 = .v (.int .i64 k)) 8 ⟨0, [], [], by omega, rfl, rfl, rfl, ?_, ?_, rfl⟩ ?_
 · simp [upd, ← hT2, sM]
 · simp [upd]
 clear e3 e6 e
 rintro m e h' ⟨k, out, U, hk8, rfl, ho, rfl, e7, e56, e57⟩
 have hvl : v'.ls.length = 8 := rfl
 have hol : out.length = 4 * k := by
  rw [ho, List.length_flatten, List.map_map]
  have : ∀ l : List Int, (l.map (List.length ∘ outW)).sum = 4 * l.length := fun l => by
   induction l with
   | nil => rfl
   | cons a t ih => rw [Zs, List.sum_cons, ih]; simp [outW]; omega
  rw [this, Zr, hvl]; omega
 by_cases h0 : k < 8
 · have hz : v'.ls[k]? = some (v'.ls[k]'(by omega)) := Z9 (by omega)
   generalize (v'.ls[k]'(by omega)) = z at hz
   have wk : IntKind.i64.wrap ((k : Int) + 1) = ((k + 1 : Nat) : Int) := IntWalk.i64_in _ (by omega)
   repeat' first
    | (refine ao1 rfl rfl fun K HK => ?_; refine aOp_ind8 (by first | rfl | (simp only [go_sem, e7, e56, e57]; rfl)) (by first | rfl | (simp only [go_sem, e7, e56, e57]; rfl)) (by first | (simp only [go_sem]; rfl) | (simp only [go_sem]; done)) (by first | (simp only [go_sem]; rfl) | (simp only [go_sem]; done)) (by first | (simp only [go_sem]; rfl) | (simp only [go_sem]; done)) (by omega) hz ?_; refine HK _ _ ?_; clear HK K)
    | refine sA rfl ?_ | refine sI rfl rfl ?_ | refine sT rfl ?_
    | refine Y4 ?_
    | (refine ao1 rfl rfl fun K HK => ?_; simp only [go_sem, ↓reduceIte, Z0, Z2, Z1, Z3, Z4, Z5, Z6, Z7, e7, e56, e57, wk, sM_0, sM_1, sM_2, Xk, Xj, Xi, Xg, Xh, Yq, Xb, sM_l, Xn, sM_m, sM_ma, sM_ms, sM_mas, sM_mll]; (first | refine Y6 (fun hq => ?_) (fun hq => ?_) | skip) <;> (refine HK _ _ ?_; clear HK K))
    | refine Wf rfl rfl rfl rfl (by (simp only [go_sem, ↓reduceIte, Z0, Z2, Z1, Z3, Z4, Z5, Z6, Z7, e7, e56, e57, wk, sM_0, sM_1, sM_2, Xk, Xj, Xi, Xg, Xh, Yq, Xb, sM_l, Xn, sM_m, sM_ma, sM_ms, sM_mas, sM_mll]; rfl)) (by simp) (by simp only [go_sem]; rfl) (by (simp only [go_sem, ↓reduceIte, Z0, Z2, Z1, Z3, Z4, Z5, Z6, Z7, e7, e56, e57, wk, sM_0, sM_1, sM_2, Xk, Xj, Xi, Xg, Xh, Yq, Xb, sM_l, Xn, sM_m, sM_ma, sM_ms, sM_mas, sM_mll]; rfl)) (by simp) (by (simp [X9, D.one, Value.oneCell']; done)) (by (simp; omega)) ?_
    | (exfalso; omega)
   refine ⟨rfl, 8 - (k + 1), by omega, k + 1, out ++ outW z, _, by omega, rfl, ?_, congrArg (fun x => sM A B .dead (T2 ++ .buf 5 1 x :: (U ++ [_]))) (?_ : byD out ++ _ = _), ?_, ?_, rfl⟩
   · rw [ho, List.take_add_one, hz]; simp
   · rw [outW_rows]; simp [byD]
   · simp [upd, outW]
   · simp [upd, e56]
 have hk88 : k = 8 := by omega
 subst hk88
 have hoz : out = outZ v' := by rw [ho]; rfl
 repeat' first
  | (refine ao1 rfl rfl fun K HK => ?_; refine aOp_bst (bs := out) (by simp only [go_sem, e7]; rfl) sM_m rfl (by simp only [go_sem]) (by simp only [go_sem]) ?_; refine HK _ _ ?_; clear HK K)
  | refine sA rfl ?_ | refine sI rfl rfl ?_
  | refine Y4 ?_
  | (refine ao1 rfl rfl fun K HK => ?_; simp only [go_sem, ↓reduceIte, Z0, Z2, Z1, Z3, Z4, Z5, Z6, Z7, e7, e56, e57, sM_0, sM_1, sM_2, Xk, Xj, Xi, Xg, Xh, Yq, Xb, sM_l, Xn, sM_m, sM_ma, sM_ms, sM_mas, sM_mll]; (first | refine Y6 (fun hq => ?_) (fun hq => ?_) | skip) <;> (refine HK _ _ ?_; clear HK K))
  | (exfalso; omega)
 rw [hoz]
 exact ⟨.inr rfl, endX [.v (.string ⟨(outZ v').toArray⟩)] [A, B] (.dead :: (T2 ++ .buf 5 1 (byD (outZ v')) :: U)) (.v (.string ⟨(outZ v').toArray⟩)) rfl rfl (Nat.le_refl _) hl0 (by rw [low]; trivial) rfl ⟨rfl, rfl⟩⟩
theorem shaSum (b : List UInt8) (hb : b.length ≤ 100000000) (hK : G 1 = .rp (shaK.map zD)) (h : List Ob) : Does Zc G 141 h [.sl 1 (byD b)] (fun h' r => h' = h ∧ r = .v (.string ⟨(sumZ b).toArray⟩)) := by
 refine Yf G hG (by rw [lowL, lowL]; exact ⟨Yb _ _, trivial⟩) (by rw [low]; trivial) ?_ h
 rw [sumZ_cut]
 refine Y5 Tryz.func141 rfl (Za rfl) hG fun hl0 _ => ?_
 simp only [Tryz.ntmps141]
 repeat' first
  | refine sA rfl ?_
  | refine Y4 ?_
  | (refine ao1 rfl rfl fun K HK => ?_; simp only [go_sem, ↓reduceIte, Z0, Z2, Z1, Z3, Z4, Z5, Z6, Z7] <;> (refine HK _ _ ?_; clear HK K))
  | (refine ao2 rfl rfl rfl ent_161 (shNew0 G hG) ?_; rintro _ _ ⟨rfl, rfl⟩)
  | (refine ao2 rfl rfl rfl ent_162 (shWrite0 G hG b hb hK) ?_; rintro _ _ ⟨rfl, rfl⟩)
  | (refine ao2 rfl rfl rfl ent_163 (shSum0 G hG _ (U3 b) b.length (restZ_len b) hb hK) ?_; rintro _ _ ⟨rfl, rfl⟩)
 exact ⟨.inr rfl, endD (r := .v (.string ⟨(outZ (Wt (Wt J8 b) (padZ (U3 b) b.length))).toArray⟩)) hl0 rfl (by simp) (by simp) rfl (by rw [low]; trivial) ⟨rfl, rfl⟩⟩
theorem digest_d (b : List UInt8) (hb : b.length ≤ 100000000) (hK : G 1 = .rp (shaK.map zD)) (h : List Ob) : Does Zc G 115 h [.sl 1 (byD b)] (fun h' r => h' = h ∧ r = .sl 1 (byD (sumZ b))) := by
 refine Yf G hG (by rw [lowL, lowL]; exact ⟨Yb _ _, trivial⟩) (Yb _ _) ?_ h
 refine Y5 Tryz.func115 rfl (Za rfl) hG fun hl0 _ => ?_
 simp only [Tryz.ntmps115]
 repeat' first
  | (refine ao1 rfl rfl fun K HK => ?_; refine aOp_cvs rfl (by simp only [go_sem]) (by kernel_rfl) (by rw [W3]; decide) ?_; refine HK _ _ ?_; clear HK K)
  | refine sA rfl ?_
  | refine Y4 ?_
  | (refine ao1 rfl rfl fun K HK => ?_; simp only [go_sem, ↓reduceIte, Z0, Z2, Z1, Z3, Z4, Z5, Z6, Z7] <;> (refine HK _ _ ?_; clear HK K))
  | (refine ao2 rfl rfl rfl ent_141 (shaSum G hG b hb hK _) ?_; rintro _ _ ⟨rfl, rfl⟩)
 exact ⟨.inr rfl, endD (r := .sl 1 (byD (sumZ b))) hl0 rfl (by simp) (by simp) rfl (Yb _ _) ⟨rfl, rfl⟩⟩
end
section
attribute [local irreducible] on aOp
attribute [local go_sem] decide_true decide_false Zm Zl
attribute [local simp] byD_len
theorem mix_step (f : UInt8 → UInt8) : ∀ (l : List UInt8) (k : Nat) (h : k < l.length), ((l.take k).map f ++ l.drop k).set k (f l[k]) = (l.take (k + 1)).map f ++ l.drop (k + 1)
 | [], k, h => by simp at h
 | a :: l, 0, h => by simp
 | a :: l, k + 1, h => by
  have := mix_step f l k (by simpa using h)
  simp only [List.take_succ_cons, Zs, Zf, List.drop_succ_cons, List.set_cons_succ, List.getElem_cons_succ] at this ⊢
  rw [this]
theorem Vo (x : UInt8) (l : List UInt8) : (xorB x l).length = l.length := Zo ..
theorem rows_k {a b : List UInt8} (h : a.length = 64) : (((kC a).drop 0).take 64).map (fun d => [d]) ++ byD b = byD (a ++ b) := by
 rw [List.drop_zero, Zg (by rw [Zg7]; omega), kC_rows]; simp [byD]
theorem low_T0 : ∀ m, lowH m ([] : List Ob) := fun m x hx => by simp at hx
theorem low_T1 (a : List UInt8) : ∀ m, lowH m ([] ++ [Ob.cells (kC a)]) := fun m x hx => by
 simp at hx; subst hx; exact low_kC m a
theorem sumZ_ne (l : List UInt8) : sumZ l ≠ [] := fun h => by have := W3 l; rw [h] at this; cases this
theorem low_cT {T : List Ob} (hT : ∀ m, lowH m T) (a b : List UInt8) {m : Nat} : lowH m (.cells (kC a) :: (T ++ [.cells (kC b)])) := fun x hx => by
 rcases List.mem_cons.1 hx with rfl | hx
 · exact low_kC m a
 · rcases List.mem_append.1 hx with hx | hx
   · exact hT m x hx
   · simp at hx; subst hx; exact low_kC m b
theorem byD_ne {l : List UInt8} (h : l ≠ []) : byD l ≠ [] := by cases l with
 | nil => exact absurd rfl h
 | cons a t => simp [byD]
theorem Uv {A x : Ob} {T : List Ob} : (A :: (T ++ [x]))[T.length + 1]? = some x := by simp
theorem Zk0 {A x : Ob} {T : List Ob} : (A :: T ++ [x])[(A :: T).length]? = some x := by simp
theorem Zs8 {A x y : Ob} {T : List Ob} : (A :: (T ++ [x])).set (T.length + 1) y = A :: (T ++ [y]) := by simp
theorem Zs9 {A : Ob} {T : List Ob} : (A :: T).length = T.length + 1 := rfl
variable (G : Nat → D) (hG : ∀ g, low 0 (G g))
include hG
theorem pad_d (kk : List UInt8) (hkl : kk.length = 64) (x : UInt8) (T : List Ob) (hT : ∀ m, lowH m T) : Does Zc G 116 (.cells (kC kk) :: T) [.v (.int .u8 x.toNat), .ptr 0 0] (fun h' r => h' = .cells (kC kk) :: (T ++ [.cells (kC (xorB x kk))]) ∧ r = .arr (T.length + 1) 0 64 64 1) := by
 have hT0 : (.cells (kC kk) :: T : List Ob)[0]? = some (.cells (kC kk)) := rfl
 refine Y5 Tryz.func116 rfl (Za rfl) hG fun hl0 _ => ?_
 simp only [Tryz.ntmps116]
 repeat' first
  | (refine ao1 rfl rfl fun K HK => ?_; refine Yy (by first | rfl | (simp only [go_sem, hT0]; rfl)) (by first | rfl | assumption) (getD_ka (by first | (simp only [go_sem]; rfl) | (simp only [go_sem]; done)) (by first | (simp only [go_sem]; rfl) | (simp only [go_sem]; done)) hkl) ?_; refine HK _ _ ?_; clear HK K)
  | (refine ao1 rfl rfl fun K HK => ?_; refine aOp_alc (ds := kC (Zb 64 0)) (by kernel_rfl) ?_; refine HK _ _ ?_; clear HK K)
  | (refine ao1' rfl fun K HK => ?_; refine Yd3 (by first | rfl | (simp only [go_sem, hT0]; rfl)) (by first | exact Zk0 | exact Uv) rfl (by rw [all_kC, Zg7, hkl]; first | (simp only [go_sem]; done) | (simp only [go_sem]; rfl)) (by rw [Zg7, Zg7, hkl]; rfl) ?_; refine HK _ _ ?_; clear HK K)
  | refine sA rfl ?_
  | refine Y4 ?_
  | (refine ao1 rfl rfl fun K HK => ?_; simp only [go_sem, ↓reduceIte, Z0, Z2, Z1, Z3, Z4, Z5, Z6, Z7, Zs8, Zs9, Uv, Zf] <;> (refine HK _ _ ?_; clear HK K))
 refine Yr (fun m e h' => ∃ (k : Nat), k ≤ 64 ∧ m = 64 - k ∧ h' = .cells (kC kk) :: (T ++ [.cells (kC ((kk.take k).map (· ^^^ x) ++ kk.drop k))]) ∧ e 0 = .v (.int .u8 x.toNat) ∧ e 4 = .ptr (T.length + 1) 0 ∧ e 7 = .v (.int .i64 k)) 64 ⟨0, by omega, rfl, ?_, rfl, ?_, rfl⟩ ?_
 · simp
 · simp [upd]
 rintro m e h' ⟨k, hk, rfl, rfl, e0, e4, e7⟩
 by_cases hlt : k < 64
 · generalize hW : (kk.take k).map (· ^^^ x) ++ kk.drop k = W
   have hWl : W.length = 64 := by rw [← hW]; simp; omega
   have hx : W[k]? = some (kk[k]'(by omega)) := by
    rw [← hW, List.getElem?_append_right (by simp; omega)]
    have : k - (List.map (· ^^^ x) (List.take k kk)).length = 0 := by simp; omega
    rw [this, List.getElem?_drop, Nat.add_zero, Z9 (by omega)]
   have hN : W.set k (kk[k]'(by omega) ^^^ x) = (kk.take (k + 1)).map (· ^^^ x) ++ kk.drop (k + 1) := by
    rw [← hW]; exact mix_step (· ^^^ x) kk k (by omega)
   generalize (kk[k]'(by omega)) = w at hx hN
   have wk : IntKind.i64.wrap ((k : Int) + 1) = ((k + 1 : Nat) : Int) := IntWalk.i64_in _ (by omega)
   repeat' first
    | (refine ao1 rfl rfl fun K HK => ?_; refine Ve (by first | rfl | (simp only [go_sem, e0, e4, e7]; rfl)) (by first | rfl | (simp only [go_sem, e0, e4, e7]; rfl)) (by first | (simp only [go_sem]; rfl) | (simp only [go_sem]; done)) (by first | (simp only [go_sem]; rfl) | (simp only [go_sem]; done)) (by omega) ?_; refine HK _ _ ?_; clear HK K)
    | (refine ao1 rfl rfl fun K HK => ?_; refine Yy (by first | rfl | (simp only [go_sem, e0, e4, e7]; rfl)) (by first | exact Uv | exact Zk0) (getD_kb (by first | (simp only [go_sem]; rfl) | (simp only [go_sem]; done)) hx) ?_; refine HK _ _ ?_; clear HK K)
    | (refine ao1' rfl fun K HK => ?_; refine aOp_stA (es := [.v (.int .u8 _)]) (by first | rfl | (simp only [go_sem, e0, e4, e7]; rfl)) (by first | exact Uv | exact Zk0) rfl (by first | (simp only [go_sem]; done) | (simp only [go_sem]; rfl)) (by rw [Zg7]; simp only [List.length_cons, List.length_nil]; omega) (putL_kb (by omega) (Zx5 w x)) ?_; refine HK _ _ ?_; clear HK K)
    | refine sA rfl ?_ | refine sI rfl rfl ?_ | refine sT rfl ?_
    | refine Y4 ?_
    | (refine ao1 rfl rfl fun K HK => ?_; simp only [go_sem, ↓reduceIte, Z0, Z2, Z1, Z3, Z4, Z5, Z6, Z7, e0, e4, e7, wk, Zs8, Zs9, Uv]; (first | refine Y6 (fun hq => ?_) (fun hq => ?_) | skip) <;> (refine HK _ _ ?_; clear HK K))
    | (exfalso; omega)
   exact ⟨rfl, 64 - (k + 1), by omega, k + 1, by omega, rfl, congrArg (fun z => Ob.cells (kC kk) :: (T ++ [Ob.cells (kC z)])) hN, by simp [upd, e0], by simp [upd, e4], rfl⟩
 have hk64 : k = 64 := by omega
 subst hk64
 repeat' first
  | (refine W2 rfl rfl (Zi6 (n := 64) (el := 5) (k := 1) (by first | rfl | (simp only [go_sem, e0, e4, e7]; rfl)) (by simp only [go_sem]) (by simp only [go_sem])) ?_)
  | refine sA rfl ?_ | refine sI rfl rfl ?_
  | refine Y4 ?_
  | (refine ao1 rfl rfl fun K HK => ?_; simp only [go_sem, ↓reduceIte, Z0, Z2, Z1, Z3, Z4, Z5, Z6, Z7, e0, e4, e7, Zs8, Zs9, Uv]; (first | refine Y6 (fun hq => ?_) (fun hq => ?_) | skip) <;> (refine HK _ _ ?_; clear HK K))
  | (exfalso; omega)
 have hxb : (kk.take 64).map (· ^^^ x) ++ kk.drop 64 = xorB x kk := by
  rw [Zg (by omega), List.drop_of_length_le (by omega), List.append_nil]; rfl
 rw [hxb]
 exact ⟨.inr rfl, endX [.arr (T.length + 1) 0 64 64 1] (.cells (kC kk) :: (T ++ [.cells (kC (xorB x kk))])) [] (.arr (T.length + 1) 0 64 64 1) rfl (by simp) (by simp) (low_cT hT _ _) (by simp [low]) rfl ⟨rfl, rfl⟩⟩
theorem Zn2 (b : List UInt8) (hb : b.length ≤ 100000000) (hK : G 1 = .rp (shaK.map zD)) {h : List Ob} {i E n : Nat} {rows : List (List D)} (hi : h[i]? = some (.buf E 1 rows)) (hr : rows = byD b) (hn : n = b.length) : Does Zc G 115 h [.buf i n] (fun h' r => h' = h.set i .dead ∧ r = .sl 1 (byD (sumZ b))) := by
 subst hr hn
 exact Does.give1c hi byD_len (digest_d G hG b hb hK _)
theorem tag_l (key m : List UInt8) (hlong : 64 < key.length) (hm : m ≠ []) (hk : key.length ≤ 1000000) (hml : m.length ≤ 90000000) (hK : G 1 = .rp (shaK.map zD)) : Does Zc G 95 [] [.sl 1 (byD key), .sl 1 (byD m)] (fun h' r => h' = [] ∧ r = .sl 1 (byD (tagZ key m))) := by
 have hs := W3 key
 have hkz : sumZ key ++ (Zb 64 (0 : UInt8)).drop (sumZ key).length = keyZ key := by
  unfold keyZ; simp only [if_pos hlong]; rw [List.drop_replicate]
 have hkl := Zm9 key
 have hT : tagZ key m = sumZ (xorB 92 (keyZ key) ++ sumZ (xorB 54 (keyZ key) ++ m)) := by unfold tagZ; rfl
 refine Y5 Tryz.func95 rfl (Za rfl) hG fun hl0 _ => ?_
 simp only [Tryz.ntmps95]
 repeat' first
  | (refine ao1 rfl rfl fun K HK => ?_; refine aOp_alc (ds := kC (Zb 64 0)) (by kernel_rfl) ?_; refine HK _ _ ?_; clear HK K)
  | (refine W2 rfl rfl (Zi6 (n := 64) (el := 5) (k := 1) rfl (by simp only [go_sem]) (by simp only [go_sem])) ?_)
  | (refine W2 rfl rfl (tri_cpArr rfl rfl (by simp only [go_sem, Ze]) rfl (by rw [byD_len]; omega) (by simp [kC]) (X0 _)) ?_)
  | (refine ao_mkfc rfl rfl ?_)
  | refine sA rfl ?_ | refine sI rfl rfl ?_
  | refine Y4 ?_
  | (refine ao1 rfl rfl fun K HK => ?_; simp only [go_sem, ↓reduceIte, Z0, Z2, Z1, Z3, Z4, Z5, Z6, Z7]; (first | refine Y6 (fun hq => ?_) (fun hq => ?_) | skip) <;> (refine HK _ _ ?_; clear HK K))
  | (refine ao2 rfl rfl rfl Zs5 (digest_d G hG key (by omega) hK _) ?_; rintro _ _ ⟨rfl, rfl⟩)
  | (exfalso; omega)
 rw [putL_k0 (by simp; omega), hkz]
 generalize hKK : keyZ key = KK at hkl hT ⊢
 have hx1 := Vo 54 KK
 have hx2 := Vo 92 KK
 repeat' first
  | (refine W2 rfl rfl (tri_apArr rfl rfl (by simp only [go_sem]; rfl) rfl (byD_ne (by first | assumption | exact sumZ_ne _)) (by rw [Zg7]; omega) (X0 _) (by rw [byD_len]; first | omega | (rw [W3]; omega))) ?_)
  | refine Y4 ?_
  | (refine ao1 rfl rfl fun K HK => ?_; simp only [go_sem, ↓reduceIte, Z0, Z2, Z1, Z3, Z4, Z5, Z6, Z7] <;> (refine HK _ _ ?_; clear HK K))
  | (refine ao2 rfl rfl rfl Yb9 (pad_d G hG KK hkl 92 [] low_T0) ?_; rintro _ _ ⟨rfl, rfl⟩)
  | (refine ao2 rfl rfl rfl Yb9 (pad_d G hG KK hkl 54 _ (low_T1 _)) ?_; rintro _ _ ⟨rfl, rfl⟩)
  | (refine ao2 rfl rfl rfl Zs5 (Zn2 G hG (xorB 54 KK ++ m) (by rw [Zd]; omega) hK rfl (rows_k (by omega)) (by rw [byD_len, Zd]; omega)) ?_; rintro _ _ ⟨rfl, rfl⟩)
  | (refine ao2 rfl rfl rfl Zs5 (Zn2 G hG (xorB 92 KK ++ sumZ (xorB 54 KK ++ m)) (by rw [Zd, W3]; omega) hK rfl (rows_k (by omega)) (by rw [byD_len, Zd]; omega)) ?_; rintro _ _ ⟨rfl, rfl⟩)
  | refine sA rfl ?_
 rw [hT]
 exact ⟨.inr rfl, endD (r := .sl 1 (byD (sumZ (xorB 92 KK ++ sumZ (xorB 54 KK ++ m))))) hl0 rfl (by simp) (by simp) rfl (Yb _ _) ⟨rfl, rfl⟩⟩
theorem tag_s (key m : List UInt8) (hlong : ¬ 64 < key.length) (hm : m ≠ []) (hml : m.length ≤ 90000000) (hK : G 1 = .rp (shaK.map zD)) : Does Zc G 95 [] [.sl 1 (byD key), .sl 1 (byD m)] (fun h' r => h' = [] ∧ r = .sl 1 (byD (tagZ key m))) := by
 have hkz : key ++ (Zb 64 (0 : UInt8)).drop key.length = keyZ key := by
  unfold keyZ; simp only [if_neg hlong]; rw [List.drop_replicate]
 have hkl := Zm9 key
 have hT : tagZ key m = sumZ (xorB 92 (keyZ key) ++ sumZ (xorB 54 (keyZ key) ++ m)) := by unfold tagZ; rfl
 refine Y5 Tryz.func95 rfl (Za rfl) hG fun hl0 _ => ?_
 simp only [Tryz.ntmps95]
 repeat' first
  | (refine ao1 rfl rfl fun K HK => ?_; refine aOp_alc (ds := kC (Zb 64 0)) (by kernel_rfl) ?_; refine HK _ _ ?_; clear HK K)
  | (refine W2 rfl rfl (Zi6 (n := 64) (el := 5) (k := 1) rfl (by simp only [go_sem]) (by simp only [go_sem])) ?_)
  | (refine W2 rfl rfl (tri_cpArr rfl rfl (by simp only [go_sem, Ze]) rfl (by rw [byD_len]; omega) (by simp [kC]) (X0 _)) ?_)
  | (refine ao_mkfc rfl rfl ?_)
  | refine sA rfl ?_ | refine sI rfl rfl ?_
  | refine Y4 ?_
  | (refine ao1 rfl rfl fun K HK => ?_; simp only [go_sem, ↓reduceIte, Z0, Z2, Z1, Z3, Z4, Z5, Z6, Z7]; (first | refine Y6 (fun hq => ?_) (fun hq => ?_) | skip) <;> (refine HK _ _ ?_; clear HK K))
  | (exfalso; omega)
 rw [putL_k0 (by simp; omega), hkz]
 generalize hKK : keyZ key = KK at hkl hT ⊢
 have hx1 := Vo 54 KK
 have hx2 := Vo 92 KK
 repeat' first
  | (refine W2 rfl rfl (tri_apArr rfl rfl (by simp only [go_sem]; rfl) rfl (byD_ne (by first | assumption | exact sumZ_ne _)) (by rw [Zg7]; omega) (X0 _) (by rw [byD_len]; first | omega | (rw [W3]; omega))) ?_)
  | refine Y4 ?_
  | (refine ao1 rfl rfl fun K HK => ?_; simp only [go_sem, ↓reduceIte, Z0, Z2, Z1, Z3, Z4, Z5, Z6, Z7] <;> (refine HK _ _ ?_; clear HK K))
  | (refine ao2 rfl rfl rfl Yb9 (pad_d G hG KK hkl 92 [] low_T0) ?_; rintro _ _ ⟨rfl, rfl⟩)
  | (refine ao2 rfl rfl rfl Yb9 (pad_d G hG KK hkl 54 _ (low_T1 _)) ?_; rintro _ _ ⟨rfl, rfl⟩)
  | (refine ao2 rfl rfl rfl Zs5 (Zn2 G hG (xorB 54 KK ++ m) (by rw [Zd]; omega) hK rfl (rows_k (by omega)) (by rw [byD_len, Zd]; omega)) ?_; rintro _ _ ⟨rfl, rfl⟩)
  | (refine ao2 rfl rfl rfl Zs5 (Zn2 G hG (xorB 92 KK ++ sumZ (xorB 54 KK ++ m)) (by rw [Zd, W3]; omega) hK rfl (rows_k (by omega)) (by rw [byD_len, Zd]; omega)) ?_; rintro _ _ ⟨rfl, rfl⟩)
  | refine sA rfl ?_
 rw [hT]
 exact ⟨.inr rfl, endD (r := .sl 1 (byD (sumZ (xorB 92 KK ++ sumZ (xorB 54 KK ++ m))))) hl0 rfl (by simp) (by simp) rfl (Yb _ _) ⟨rfl, rfl⟩⟩
theorem tag_d (key m : List UInt8) (hm : m ≠ []) (hk : key.length ≤ 1000000) (hml : m.length ≤ 90000000) (hK : G 1 = .rp (shaK.map zD)) (h : List Ob) : Does Zc G 95 h [.sl 1 (byD key), .sl 1 (byD m)] (fun h' r => h' = h ∧ r = .sl 1 (byD (tagZ key m))) := by
 refine Yf G hG (by rw [lowL, lowL, lowL]; exact ⟨Yb _ _, Yb _ _, trivial⟩) (Yb _ _) ?_ h
 by_cases hlong : 64 < key.length
 · exact tag_l G hG key m hlong hm hk hml hK
 · exact tag_s G hG key m hlong hm hml hK
end
end Go.Proofs.YtgkjcmglcnhpaaaGreatDoor
