/-
  What the statements of the chapter share, part 25: NM, AWI, VN1, RV1, AL3, RV2, RV3, RV4, RV5, RV6.
-/
import Derived.Test.YtbhkcbidcfofiaaGreatY11
import Derived.Test.YtbhkcbidcfofiaaGreatY13
import Derived.Test.YtbhkcbidcfofiaaGreatY14
import Derived.Test.YtbhkcbidcfofiaaGreatY15
import Derived.Test.YtbhkcbidcfofiaaGreatY16
import Derived.Test.YtbhkcbidcfofiaaGreatY17
import Derived.Test.YtbhkcbidcfofiaaGreatY21
import Derived.Test.YtbhkcbidcfofiaaGreatY22
import Derived.Test.YtbhkcbidcfofiaaGreatY24
set_option linter.unusedVariables false
set_option linter.unusedSimpArgs false
set_option maxRecDepth 100000
set_option maxHeartbeats 8000000
namespace Go.Proofs.YtbhkcbidcfofiaaGreat
open _root_.Array renaming getElem?_eq_getElem → Zp
open _root_.Bool renaming false_eq_true → Z8, not_false → Zd, not_true → Zf
open _root_.Int renaming toNat_natCast → Z7, reduceEq → Zj, reduceLE → Zk, reduceLT → Zl
open _root_.List renaming getElem?_eq_getElem → Z0, drop_eq_getElem_cons → Z2, length_map → Z4, drop_eq_nil_of_le → Z5, getElem_mem → Z9, getElem?_eq_some_iff → Zc, take_of_length_le → Ze, getElem?_take_of_lt → Zm, length_take → Zn, all_cons → Zo, pairwise_iff_getElem → Zq, take_add_one → Zr, getElem?_map → Zs
open _root_.Nat renaming le_of_ble_eq_true → Z1, zero_le → Z6, reduceEqDiff → Za, reduceLeDiff → Zb, reduceAdd → Zg, reduceBEq → Zh, reduceMul → Zi
open _root_.Go.Proofs.Tryz renaming prog → Z3
open Go.RowKit
section
section
variable {P : Program} {G : Nat → D}
noncomputable def callM (P : Program) (G : Nat → D) (cx jx : FuncId) (jn : List D → List Ob → Option (List Ob × D)) (K : Nat) (k : Nat) : Cal := @Nat.rec (fun _ => Cal) (fun _ _ _ => none) (fun _ cal => fun f args h => bc (Nat.beq f jx) (jn args h) (callBK P G cx K cal f args h)) k
theorem callM_ok {cx jx : FuncId} {jn : List D → List Ob → Option (List Ob × D)} (hG : ∀ g, low 0 (G g)) (hm : P.follows .mixedOrders = true) (hx : CmpX P cx) (he : entB P jx = true) (hj : ∀ args h d, jn args h = some d → Does P G jx h args (fun h' r => h' = d.1 ∧ r = d.2)) (K : Nat) : ∀ k, Yc1 P G (callM P G cx jx jn K k)
 | 0 => fun _ _ _ _ _ q => by cases q
 | k + 1 => fun f args h h' r q => by
  have q : bc (Nat.beq f jx) (jn args h) (callBK P G cx K (callM P G cx jx jn K k) f args h) = some (h', r) := q
  rw [V2] at q
  cases hb : Nat.beq f jx
  · rw [hb] at q
    exact callBK_ok hG hm hx K (callM_ok hG hm hx he hj K k) f args h h' r q
  · rw [hb] at q
    rw [bqT hb]
    exact .inl ⟨he, hj _ _ _ q⟩
theorem does_runM {cx jx : FuncId} {jn : List D → List Ob → Option (List Ob × D)} (hG : ∀ g, low 0 (G g)) (hm : P.follows .mixedOrders = true) (hx : CmpX P cx) (hje : entB P jx = true) (hj : ∀ args h d, jn args h = some d → Does P G jx h args (fun h' r => h' = d.1 ∧ r = d.2)) {f : FuncId} (he : entB P f = true) {K k : Nat} {x : Value} (q : callM P G cx jx jn K k f [] [] = some ([], .v x)) (h : List Ob) : Does P G f h [] (fun h' r => h' = h ∧ r = .v x) := by
 have D1 : Does P G f [] [] (fun h1 r1 => h1 = [] ∧ r1 = .v x) := by
  rcases callM_ok hG hm hx hje hj K k f [] [] [] (.v x) q with ⟨_, h1⟩ | ⟨h1, _⟩
  · exact h1
  · rw [he] at h1; cases h1
 have L : Lies (fun i => i) [] h := ⟨fun i ob q => by simp at q, fun i j q => by simp at q, fun ob q => by simp at q⟩
 refine (Does.frame (args := []) (K1 := fun h1 r1 => h1 = [] ∧ r1 = .v x) hG L (by rw [lowL]; trivial) ?_ D1).mono ?_
 · rintro _ _ ⟨rfl, _⟩
   exact ⟨fun i j hi => by simp at hi, fun j _ hj => by simp at hj⟩
 · rintro _ _ ⟨_, _, ⟨rfl, rfl⟩, rfl, rfl⟩
   exact ⟨rfl, by rw [ren]⟩
end
def rkAddJ (args : List D) (h : List Ob) : Option (List Ob × D) := match args with
 | [.v (.int .i64 m), .ptr i 0] => match h[i]? with
  | some (.cells [.v (.int .i64 n)]) => if (0 ≤ n ∧ n ≤ ov) ∧ 0 ≤ m ∧ m ≤ 9000000000000000000 then some (h.set i (.cells [.v (.int .i64 (min (n + m) ov))]), .tup []) else none
  | _ => none
 | _ => none
theorem rkAddJ_d (G : Nat → D) (args : List D) (h : List Ob) (d : List Ob × D) (q : rkAddJ args h = some d) : Does Z3 G 117 h args (fun h' r => h' = d.1 ∧ r = d.2) := by
 unfold rkAddJ at q
 split at q
 · split at q
   · rename_i hi
     split at q
     · rename_i hb
       cases q
       exact add_d G hb.1 hb.2 hi
     · cases q
   · cases q
 · cases q
end
section
def G0 : Nat → D := fun _ => .any
theorem G0_low : ∀ g, low 0 (G0 g) := fun g => by unfold G0; rw [low]; trivial
theorem mixdB : Z3.follows .mixedOrders = true := by kernel_rfl
theorem awake_run : callM Z3 G0 242 117 rkAddJ 100000 100 15 [] [] = some ([], .v (.bool true)) := by kernel_rfl
theorem awake0 (h : List Ob) : Does Z3 G0 15 h [] (fun h' r => h' = h ∧ r = .v (.bool true)) := does_runM G0_low mixdB cmpX (by kernel_rfl) (rkAddJ_d G0) (by kernel_rfl) awake_run h
theorem ok0 (w : World) : Ok G0 w [] [] (fun k => decide (k < w.heap.size)) :=
 ⟨rfl, fun i ob u q => by simp at q, fun i j oi oj ui uj b q => by simp at q, fun g => by unfold G0; rw [rd]; trivial, fun g ds q => by cases q⟩
end
section
attribute [local irreducible] on aOp
attribute [local go_sem] decide_true decide_false Zf Zd
attribute [local simp] byD_len
def wC (n : Nat) (rows : List (List D)) (A B : Ob) (T : List Ob) : List Ob := wB n rows A (B :: T)
section
variable {n m : Nat} {rows r2 : List (List D)} {T l : List Ob} {A B x y : Ob}
theorem wB_box : wB n rows A [] ++ [x] = wC n rows A x [] := rfl
theorem wC_2 : (wC n rows A B T)[2]? = some A := rfl
theorem wC_3 : (wC n rows A B T)[3]? = some B := rfl
theorem wC_len : (wC n rows A B T).length = T.length + 4 := rfl
theorem wC_app : wC n rows A B T ++ l = wC n rows A B (T ++ l) := rfl
theorem wC_l : (wC n rows A B (T ++ [x]))[T.length + 4]? = some x := by simp [wC, wB, wG]
theorem wC_sl : (wC n rows A B (T ++ [x])).set (T.length + 4) y = wC n rows A B (T ++ [y]) := by simp [wC, wB, wG]
end
@[simp] def writE2 (i j : Nat) (ob ob' oc oc' : Ob) (d : D) : Eff := ⟨[(i, ob), (j, oc)], [(i, ob'), (j, oc')], [], fun _ => d⟩
theorem aS_call2 {P : Program} {G : Nat → D} {n m0 : Nat} {ops : Array Oper} {done : List Eff} {rest : List Oper} {Q : (Nat → D) → List Ob → Prop} {e : Nat → D} {h : List Ob} {t : Nat} {ty : TypeId} {pos : String} {aft : Array Edge} {gd : Option (Nat × Bool)} {x : Operand} {args : Array Operand} {tys : Array TypeId} {f : FuncId} {cap : List D} {d : D} {i j : Nat} {ob ob' oc oc' : Ob} (hw : Yc ops gd e = some true) (ht : decide (t < n) = true) (hx : ev G e x = .fn f cap) (he : entB P f = true) (hi : h[i]? = some ob) (hj : h[j]? = some oc)
 (hc : ∀ h2, h2[i]? = some ob → h2[j]? = some oc → Does P G f h2 (args.toList.map (ev G e) ++ cap) (fun h' r => h' = (h2.set i ob').set j oc' ∧ r = d))
 (k : aeS P G n m0 ops Q (writE2 i j ob ob' oc oc' d :: done) rest (upd e t d) ((h.set i ob').set j oc')) : aeS P G n m0 ops Q done (⟨some t, .call ⟨.value x, args, tys⟩, ty, pos, aft, gd⟩ :: rest) e h := by
 have hh : ∀ h, (writE2 i j ob ob' oc oc' d).heap h = (h.set i ob').set j oc' := fun h => by simp [Eff.heap, Yv]
 exact aS_call (E := writE2 i j ob ob' oc oc' d) hw ht hx he ⟨by simp, fun _ _ _ => rfl⟩ (by simp [Eff.ok, hi, hj]) (fun h2 k2 => by rw [hh]; exact hc h2 (k2 (i, ob) (by simp)) (k2 (j, oc) (by simp))) (by rw [hh]; exact k)
theorem wC_s {n n2 : Nat} {rows r2 : List (List D)} {A B : Ob} {T : List Ob} : ((wC n rows A B T).set 0 (.cells [.buf 1 n2])).set 1 (.buf 5 1 r2) = wC n2 r2 A B T := rfl
theorem wC_m {n : Nat} {rows : List (List D)} {A B x : Ob} {T U : List Ob} : (wC n rows A B (T ++ x :: U))[T.length + 4]? = some x := by simp [wC, wB, wG]
theorem wC_n {n : Nat} {rows : List (List D)} {A B x y : Ob} {T U : List Ob} : (wC n rows A B (T ++ x :: (U ++ [y])))[T.length + (U.length + 1) + 4]? = some y := by
 have : (T ++ x :: (U ++ [y])) = (T ++ x :: U) ++ [y] := by simp
 rw [this, show T.length + (U.length + 1) + 4 = (T ++ x :: U).length + 4 by simp]; exact wC_l
theorem wC_ns {n : Nat} {rows : List (List D)} {A B x y z : Ob} {T U : List Ob} : (wC n rows A B (T ++ x :: (U ++ [y]))).set (T.length + (U.length + 1) + 4) z = wC n rows A B (T ++ x :: (U ++ [z])) := by
 have h1 : ∀ w, (T ++ x :: (U ++ [w])) = (T ++ x :: U) ++ [w] := fun w => by simp
 rw [h1, h1, show T.length + (U.length + 1) + 4 = (T ++ x :: U).length + 4 by simp]; exact wC_sl
variable (G : Nat → D) (hG : ∀ g, low 0 (G g))
include hG
attribute [local go_sem] Z8 Zj Zk Zl Z7 Int.toNat_zero List.append_assoc List.cons_append List.length_append List.length_cons Z4 List.length_nil List.nil_append Zg Zh Za Zb Zi wB_box wB_len wC_2 wC_3 wC_app wC_l wC_len wC_m wC_n wC_ns wC_s wC_sl wG_0 wG_1 wG_a0 wG_a1 wG_b0 wG_b1 wG_s0 wG_s1 wH_box wH_len
attribute [local go_sem ↓] reduceIte
def WriteD (l : Lat) (v : Val) : Prop := ∀ acc : List UInt8, acc.length + (putV l v).length ≤ 1000000 → Does Z3 G 99 (wH acc) [.ptr 0 0, .agg (latX l), .agg (vaX v)] (fun h' r => h' = wH (acc ++ putV l v) ∧ r = .tup [])
def tkE (t : Tk) : List UInt8 := Zl2 t.process.toNat ++ Zl2 t.n.toNat
omit hG in
end
section
attribute [local irreducible] on aOp
attribute [local go_sem] decide_true decide_false Zf Zd
attribute [local simp] byD_len
variable (G : Nat → D) (hG : ∀ g, low 0 (G g))
include hG
attribute [local go_sem] Z8 Zj Zk Zl Z7 Z4 Zg Zh Za Zb Zi
attribute [local go_sem ↓] reduceIte
theorem letter_d (c : Nat) (h : List Ob) : Does Z3 G 238 h [.v (.int .u8 c)] (fun h' r => h' = h ∧ r = .v (.bool (Zk9 c))) := by
 refine Y5 Tryz.func238 rfl (Z1 rfl) hG fun hl0 _ => ?_
 simp only [Tryz.ntmps238]
 repeat' first
  | refine gg ?_
  | refine Two.mk (fun hq => ?_) fun hq => ?_
  | (exfalso; omega)
 all_goals first
 | (exfalso; omega)
 | exact ⟨.inr rfl, endD (r := .v (.bool true)) hl0 rfl (by simp) (by simp) rfl (by rw [low]; trivial) ⟨rfl, by rw [show Zk9 c = true from decide_eq_true (by omega)]⟩⟩
 | exact ⟨.inr rfl, endD (r := .v (.bool false)) hl0 rfl (by simp) (by simp) rfl (by rw [low]; trivial) ⟨rfl, by rw [show Zk9 c = false from decide_eq_false (by omega)]⟩⟩
theorem sValid_d (s : ByteArray) (hs : s.size ≤ 9223372036854775807) (h : List Ob) : Does Z3 G 199 h [.v (.string s)] (fun h' r => h' = h ∧ r = .v (.bool (Xz s))) := by
 refine Y5 Tryz.func199 rfl (Z1 rfl) hG fun hl0 _ => ?_
 simp only [Tryz.ntmps199]
 by_cases hsz : 1 ≤ s.size ∧ s.size ≤ 16
 rotate_left
 · have e1 := Zg8 (s := s) (fun h => hsz h.1)
   repeat' first
    | refine gg ?_
    | refine Two.mk (fun hq => ?_) fun hq => ?_
    | (exfalso; omega)
   all_goals exact ⟨.inr rfl, endD (r := .v (.bool false)) hl0 rfl (by simp) (by simp) rfl (by rw [low]; trivial) ⟨rfl, by rw [e1]⟩⟩
 obtain ⟨b0, hb0⟩ : ∃ b, s.data[0]? = some b := ⟨s.data[0]'(by show 0 < s.size; omega), Zp _⟩
 have g0 := Zy5 hb0
 by_cases hb : 97 ≤ b0.toNat ∧ b0.toNat ≤ 122
 rotate_left
 · have e1 := Zg8 (s := s) (fun h => hb (by rw [← g0]; exact h.2))
   repeat' first
    | (with_reducible refine Y7 ?_; (refine ao1 rfl rfl fun K HK => ?_; simp only [go_sem]; refine Vz (by simp only [go_sem]) hb0 (by first | rfl | omega) ?_; refine HK _ _ ?_; clear HK K))
    | refine gg ?_
    | refine Two.mk (fun hq => ?_) fun hq => ?_
    | (exfalso; omega)
   all_goals first | (exfalso; omega) | exact ⟨.inr rfl, endD (r := .v (.bool false)) hl0 rfl (by simp) (by simp) rfl (by rw [low]; trivial) ⟨rfl, by rw [e1]⟩⟩
 have e1 := Zx0 (s := s) ⟨hsz, by rw [g0]; exact hb⟩
 repeat' first
  | (with_reducible refine Y7 ?_; (refine ao1 rfl rfl fun K HK => ?_; simp only [go_sem]; refine Vz (by simp only [go_sem]) hb0 (by first | rfl | omega) ?_; refine HK _ _ ?_; clear HK K))
  | refine gg ?_
  | refine Two.mk (fun hq => ?_) fun hq => ?_
  | (exfalso; omega)
 all_goals try (exfalso; omega)
 refine Yh (fun m e h' => ∃ k : Nat, k ≤ s.size ∧ m = s.size - k ∧ Xz s = (s.data.toList.drop k).all (fun c => Zk9 c.toNat) ∧ h' = h ∧ e 0 = .v (.string s) ∧ e 3 = .v (.int .i64 k)) s.size ⟨0, Z6 _, rfl, e1, rfl, rfl, rfl⟩ ?_
 rintro m e h' ⟨k, hk, rfl, ho, rfl, e0, e3⟩
 by_cases hlt : k < s.size
 · obtain ⟨c, hc⟩ : ∃ b, s.data[k]? = some b := ⟨s.data[k]'hlt, Zp _⟩
   have wk : IntKind.i64.wrap ((k : Int) + 1) = (k : Int) + 1 := IntWalk.i64_in _ (by omega)
   have hlet := letter_d G hG c.toNat
   rw [Yk4 hc, Zo] at ho
   generalize Zk9 c.toNat = wb at hlet ho
   cases wb
   all_goals
    have F : _ ∧ _ ∧ _ := ⟨e0, e3, wk⟩
    repeat' first
     | (with_reducible refine Y7 ?_; (refine ao1 rfl rfl fun K HK => ?_; simp only [go_sem, F]; refine Vz (by simp only [go_sem, F]) hc (by first | rfl | omega) ?_; refine HK _ _ ?_; clear HK K))
     | refine gg ?_
     | refine Two.mk (fun hq => ?_) fun hq => ?_
     | (with_reducible refine Y7 ?_; refine gc rfl rfl rfl ent_238 (hlet _) ?_)
     | (exfalso; omega)
    first
    | exact ⟨rfl, s.size - (k + 1), by omega, k + 1, hlt, rfl, by rw [ho]; rfl, rfl, e0, rfl⟩
    | exact ⟨.inr rfl, endD (r := .v (.bool false)) hl0 rfl (by simp) (by simp) rfl (by rw [low]; trivial) ⟨rfl, by rw [ho]; rfl⟩⟩
 · skip
   have F : _ ∧ _ := ⟨e0, e3⟩
   repeat' first
    | refine gg ?_
    | refine Two.mk (fun hq => ?_) fun hq => ?_
    | (exfalso; omega)
   exact ⟨.inr rfl, endD (r := .v (.bool true)) hl0 rfl (by simp) (by simp) rfl (by rw [low]; trivial) ⟨rfl, by rw [ho, Z5 (by show s.data.toList.length ≤ k; rw [Array.length_toList]; show s.size ≤ k; omega)]; rfl⟩⟩
theorem sHas_d (l : List ByteArray) (a : ByteArray) (hl : l.length ≤ 9223372036854775807) (h : List Ob) : Does Z3 G 110 h [.sl 1 (l.map strX), .v (.string a)] (fun h' r => h' = h ∧ r = .v (.bool (hasS l a))) := by
 refine Y5 Tryz.func110 rfl (Z1 rfl) hG fun hl0 _ => ?_
 simp only [Tryz.ntmps110]
 repeat' first
  | refine g0 ?_
  | fail
 refine Yh (fun m e h' => ∃ k : Nat, k ≤ l.length ∧ m = l.length - k ∧ hasS l a = hasS (l.drop k) a ∧ h' = h ∧ e 0 = .sl 1 (l.map strX) ∧ e 1 = .v (.string a) ∧ e 5 = .v (.int .i64 k)) l.length ⟨0, Z6 _, rfl, rfl, rfl, rfl, rfl, rfl⟩ ?_
 rintro m e h' ⟨k, hk, rfl, ho, rfl, e0, e1, e5⟩
 by_cases hlt : k < l.length
 · have hx : l[k]? = some l[k] := Z0 hlt
   have hd : l.drop k = l[k] :: l.drop (k + 1) := Z2 hlt
   generalize l[k] = x at hx hd
   have wk : IntKind.i64.wrap ((k : Int) + 1) = (k : Int) + 1 := IntWalk.i64_in _ (by omega)
   rw [hd, hasS] at ho
   have F : _ ∧ _ ∧ _ ∧ _ ∧ _ := ⟨e0, e1, e5, U9, wk⟩
   repeat' first
    | refine gg ?_
    | refine Two.mk (fun hq => ?_) fun hq => ?_
    | (exfalso; omega)
   · exact ⟨.inr rfl, endV hl0 rfl rfl ⟨rfl, by rw [ho, decide_eq_true hq]; rfl⟩⟩
   · exact ⟨rfl, l.length - (k + 1), by omega, k + 1, hlt, rfl, by rw [ho, decide_eq_false hq]; rfl, rfl, e0, e1, rfl⟩
 · skip
   have F : _ ∧ _ ∧ _ := ⟨e0, e1, e5⟩
   repeat' first
    | refine gg ?_
    | refine Two.mk (fun hq => ?_) fun hq => ?_
    | refine Evry.mk fun x hx => ?_
    | (exfalso; omega)
   exact ⟨by simp, endV hl0 rfl rfl ⟨rfl, by rw [ho, Z5 (by omega)]; rfl⟩⟩
end
section
def kC (l : List UInt8) : List D := l.map fun b => .v (.int .u8 b.toNat)
section
variable {P : Program} {G : Nat → D} {e : Nat → D} {h : List Ob} {K : List Ob → D → Prop} {u : TypeId} {x y : Operand} {i n m k : Nat}
end
section
variable {P : Program} {G : Nat → D} {n : Nat} {e : Nat → D} {h : List Ob} {ops : Array Oper} {rest : List Oper} {Q : S → Prop} {t : Nat} {ty : TypeId} {pos : String} {aft : Array Edge} {gd : Option (Nat × Bool)}
end
theorem Does.give1c {P : Program} {G : Nat → D} {f : FuncId} {h : List Ob} {i E k n : Nat} {rows : List (List D)} {K : List Ob → D → Prop} (hi : h[i]? = some (.buf E k rows)) (hn : rows.length = n) (q : Does P G f (h.set i .dead) [.sl k rows] K) : Does P G f h [.buf i n] K := fun w hd p vs ok ha => by
 rw [rdL] at ha
 obtain ⟨u, t, rfl, hu, ht⟩ := ha
 rw [rdL] at ht; subst ht
 obtain ⟨p', o', ev, cv⟩ := ok.give (fun j => j == i)
 have hr := cv _ _ hu
 have e : cvD (fun j => j == i) h (.buf i n) = .sl k rows := by simp [cvD, cv1, hi, hn]
 rw [e] at hr
 rw [Zx7] at o' ev hr
 refine (q w hd p' [u] o' (by rw [rdL]; exact ⟨u, [], rfl, hr, by rw [rdL]⟩)).mono ?_
 rintro e w' ⟨v, hd', h', r, p2, rfl, hK, ok2, hr2, ev2⟩
 exact ⟨v, hd', h', r, p2, rfl, hK, ok2, hr2, ev.trans ev2⟩
end
section
attribute [local irreducible] on aOp
attribute [local go_sem] decide_true decide_false Zf Zd
attribute [local simp] byD_len
def nG (rows : List (List D)) (T : List Ob) : List Ob := .buf 9 1 rows :: T
section
variable {rows r2 : List (List D)} {T : List Ob} {x y : Ob}
theorem nG_0 : (nG rows T)[0]? = some (.buf 9 1 rows) := rfl
theorem nG_s0 : (nG rows T).set 0 (.buf 9 1 r2) = nG r2 T := rfl
theorem nG_app : nG rows T ++ [x] = nG rows (T ++ [x]) := rfl
theorem nG_len : (nG rows T).length = T.length + 1 := rfl
theorem nG_last : (nG rows (T ++ [x]))[T.length + 1]? = some x := by simp [nG]
end
theorem bl_eqV : ∀ (x y : List UInt8), Op.bytesLess x y = decide (x < y)
 | [], [] => by simp [Op.bytesLess]
 | _ :: _, [] => by simp [Op.bytesLess]
 | [], _ :: _ => by simp [Op.bytesLess]
 | a :: x, b :: y => by
  rw [Op.bytesLess, bl_eqV x y]
  by_cases h : a < b <;> by_cases h2 : a = b <;> simp [List.cons_lt_cons_iff, h, h2]
def Ris (l : List ByteArray) : Prop := l.Pairwise fun a b => Ue a b = true
theorem Zl6 {a b : ByteArray} : Ue a b = true ↔ a.toList < b.toList := by rw [Ue, bl_eqV, decide_eq_true_eq]
theorem Yh7 : ∀ (l : List ByteArray) (p : ByteArray), X5 p l = true → (∀ x ∈ l, Ue p x = true) ∧ Ris l
 | [], _, _ => ⟨fun x hx => by simp at hx, List.Pairwise.nil⟩
 | y :: t, p, h => by
  rw [X5, Bool.and_eq_true] at h
  have ih := Yh7 t y h.2
  refine ⟨fun x hx => ?_, List.Pairwise.cons ih.1 ih.2⟩
  rcases List.mem_cons.1 hx with rfl | hx
  · exact h.1
  · exact Zl6.2 (List.lt_trans (Zl6.1 h.1) (Zl6.1 (ih.1 x hx)))
theorem ris_of {l : List ByteArray} (h : Xk l = true) : Ris l := by
 cases l with
 | nil => exact List.Pairwise.nil
 | cons x t => exact List.Pairwise.cons (Yh7 t x h).1 (Yh7 t x h).2
theorem Ris.at {l : List ByteArray} (h : Ris l) {i j : Nat} {x y : ByteArray} (hx : l[i]? = some x) (hy : l[j]? = some y) (hij : i < j) : (Op.bytesLess x.toList y.toList || decide (x = y)) = true := by
 obtain ⟨hi, rfl⟩ := Zc.1 hx
 obtain ⟨hj, rfl⟩ := Zc.1 hy
 have := Zq.1 h i j hi hj hij
 rw [Ue] at this
 rw [this]; rfl
theorem Ris.new {l : List ByteArray} (h : Ris l) {k : Nat} {x : ByteArray} (hx : l[k]? = some x) : hasS (l.take k) x = false := by
 cases e : hasS (l.take k) x
 · rfl
 obtain ⟨i, hi, hix⟩ := List.getElem_of_mem ((Yu _ _).1 e)
 have hik : i < k := by simp at hi; omega
 have hy : l[i]? = some x := by rw [← Zm hik, Z0 hi, hix]
 obtain ⟨h1, h2⟩ := Zc.1 hy
 obtain ⟨h3, h4⟩ := Zc.1 hx
 have := Zl6.1 (Zq.1 h i k h1 h3 hik)
 rw [h2, h4] at this
 exact absurd this (List.lt_irrefl _)
def Vj (a b : List ByteArray) : List ByteArray := a.filter fun s => !hasS b s
theorem minusS_ris {a : List ByteArray} (b : List ByteArray) (h : Ris a) : Ris (Vj a b) := List.Pairwise.filter _ h
theorem Ye2 (a b : List ByteArray) : decide ((Vj a b).length = 0) = X8 a b := by
 unfold Vj X8
 induction a with
 | nil => rfl
 | cons x t ih =>
  rw [List.filter_cons, Zo, ← ih]
  cases hasS b x <;> simp
theorem getS1 (s : ByteArray) : getD Z3 9 (strX s) 0 = some (.v (.string s)) := by rw [getD_one aggT_9]; rfl
variable (G : Nat → D) (hG : ∀ g, low 0 (G g))
include hG
attribute [local go_sem] Z8 Zj Zk Zl Z7 Z4 Zg Zh Za Zb Zi nG_0 nG_app nG_last nG_len nG_s0 U9
attribute [local go_sem ↓] reduceIte
theorem sSorted_d (l : List ByteArray) (hl : l.length ≤ 9223372036854775807) (h : List Ob) : Does Z3 G 200 h [.sl 1 (l.map strX)] (fun h' r => h' = h ∧ r = .v (.bool (Xk l))) := by
 by_cases hsh : l.length ≤ 1
 · rw [Zr1 l hsh]
   refine Y5 Tryz.func200 rfl (Z1 rfl) hG fun hl0 _ => ?_
   simp only [Tryz.ntmps200]
   repeat' first
    | refine g0 ?_
    | fail
   refine Yh (fun m e h' => h' = h ∧ e 0 = .sl 1 (l.map strX) ∧ e 3 = .v (.int .i64 1)) l.length ⟨rfl, rfl, rfl⟩ ?_
   rintro m e h' ⟨rfl, e0, e3⟩
   have F : _ ∧ _ := ⟨e0, e3⟩
   repeat' first
    | (with_reducible refine Yf ?_; refine Y9 mixd (by kernel_rfl) ?_)
    | refine gg ?_
    | refine Two.mk (fun hq => ?_) fun hq => ?_
    | refine Evry.mk fun x hx => ?_
    | (exfalso; omega)
   all_goals first | (exfalso; omega) | exact ⟨.inr rfl, endV hl0 rfl rfl ⟨rfl, rfl⟩⟩
 obtain ⟨x0, t, rfl⟩ : ∃ x t, l = x :: t := by
  cases l with
  | nil => simp at hsh
  | cons x t => exact ⟨x, t, rfl⟩
 generalize hll : x0 :: t = l at *
 have h0 : Xk l = X5 (l[0]'(by omega)) (l.drop 1) := by subst hll; rfl
 refine Y5 Tryz.func200 rfl (Z1 rfl) hG fun hl0 _ => ?_
 simp only [Tryz.ntmps200]
 repeat' first
  | refine g0 ?_
  | fail
 refine Yh (fun m e h' => ∃ (k : Nat) (hk : k < l.length), m = l.length - k ∧ Xk l = X5 l[k] (l.drop (k + 1)) ∧ h' = h ∧ e 0 = .sl 1 (l.map strX) ∧ e 3 = .v (.int .i64 ((k : Int) + 1))) l.length ⟨0, by omega, rfl, h0, rfl, rfl, rfl⟩ ?_
 rintro m e h' ⟨k, hk, rfl, ho, rfl, e0, e3⟩
 by_cases hlt : k + 1 < l.length
 · have hx : l[k]? = some l[k] := Z0 (by omega)
   have hy : l[k + 1]? = some l[k + 1] := Z0 hlt
   rw [Zv3 l k hlt] at ho
   have wk : IntKind.i64.wrap ((k : Int) + 1 + 1) = (k : Int) + 1 + 1 := IntWalk.i64_in _ (by omega)
   have wm : IntKind.i64.wrap ((k : Int) + 1 - 1) = (k : Int) := by rw [show (k : Int) + 1 - 1 = (k : Int) by omega]; exact IntWalk.i64_in _ (by omega)
   have tk : ((k : Int) + 1).toNat = k + 1 := by omega
   unfold Ue at ho
   cases hlt2 : Op.bytesLess l[k].toList l[k + 1].toList
   · generalize l[k] = x at *
     generalize l[k + 1] = y at *
     have F : _ ∧ _ ∧ _ ∧ _ ∧ _ ∧ _ := ⟨e0, e3, wk, wm, tk, hlt2⟩
     repeat' first
      | (with_reducible refine Yf ?_; refine Y9 mixd (by kernel_rfl) ?_)
      | refine gg ?_
      | refine Two.mk (fun hq => ?_) fun hq => ?_
      | (exfalso; omega)
     exact ⟨by simp, endV hl0 rfl rfl ⟨rfl, by rw [ho, hlt2]; rfl⟩⟩
   · rw [hlt2, Bool.true_and] at ho
     generalize l[k] = x at *
     have hy' := hy
     generalize hyl : l[k + 1] = y at hy hlt2
     have F : _ ∧ _ ∧ _ ∧ _ ∧ _ ∧ _ := ⟨e0, e3, wk, wm, tk, hlt2⟩
     repeat' first
      | (with_reducible refine Yf ?_; refine Y9 mixd (by kernel_rfl) ?_)
      | refine gg ?_
      | refine Two.mk (fun hq => ?_) fun hq => ?_
      | (exfalso; omega)
     exact ⟨rfl, l.length - (k + 1), by omega, k + 1, hlt, rfl, ho, rfl, e0, rfl⟩
 · skip
   have F : _ ∧ _ := ⟨e0, e3⟩
   repeat' first
    | (with_reducible refine Yf ?_; refine Y9 mixd (by kernel_rfl) ?_)
    | refine gg ?_
    | refine Two.mk (fun hq => ?_) fun hq => ?_
    | refine Evry.mk fun x hx => ?_
    | (exfalso; omega)
   exact ⟨by simp, endV hl0 rfl rfl ⟨rfl, by rw [ho, Z5 (by omega)]; rfl⟩⟩
theorem sHas_b (l : List ByteArray) (c : ByteArray) (hl : l.length ≤ 1000000) {h : List Ob} {i n : Nat} (hi : h[i]? = some (.buf 9 1 (l.map strX))) (hn : l.length = n) : Does Z3 G 110 h [.buf i n, .v (.string c)] (fun h' r => h' = h ∧ r = .v (.bool (hasS l c))) :=
 Does.borrow hG hi (by rw [Z4]; exact hn) (by simp [lowL, low]) (Xq _ _) (sHas_d G hG l c (by omega) [])
theorem sOf0 (l : List ByteArray) (hr : Ris l) (hsz : l.length ≤ 1000000) : Does Z3 G 111 [] [.sl 1 (l.map strX)] (fun h' r => h' = [.buf 9 1 (l.map strX)] ∧ r = .buf 0 l.length) := by
 refine Does.only0 hG (Xq _ _) (K := fun h' r => ∃ i, h'[i]? = some (.buf 9 1 (l.map strX)) ∧ r = .buf i l.length) ?_ (fun _ _ h => h)
 refine Vl Tryz.func111 rfl (Z1 rfl) ?_
 simp only [Tryz.ntmps111]
 repeat' first
  | refine g0 ?_
  | fail
 refine Yh (fun m e h' => ∃ (k : Nat) (T : List Ob), k ≤ l.length ∧ m = l.length - k ∧ h' = nG ((l.take k).map strX) T ∧ e 0 = .sl 1 (l.map strX) ∧ e 3 = .buf 0 (l.take k).length ∧ e 4 = .v (.int .i64 k)) l.length ⟨0, [], Z6 _, rfl, rfl, rfl, rfl, rfl⟩ ?_
 rintro m e h' ⟨k, T, hk, rfl, rfl, e0, e3, e4⟩
 by_cases hlt : k < l.length
 rotate_left
 · obtain rfl : k = l.length := by omega
   rw [Ze (Nat.le_refl _)] at e3 ⊢
   have F : _ ∧ _ ∧ _ := ⟨e0, e3, e4⟩
   repeat' first
    | refine gg ?_
    | refine Two.mk (fun hq => ?_) fun hq => ?_
    | refine Evry.mk fun x hx => ?_
    | (exfalso; omega)
   exact ⟨.inr rfl, [.buf 0 l.length], rfl, 0, rfl, rfl⟩
 have hx : l[k]? = some l[k] := Z0 hlt
 generalize l[k] = x at hx
 have htk : (l.take (k + 1)).map strX = (l.take k).map strX ++ [strX x] := by rw [Zr, hx]; simp
 have hno := hr.new hx
 have hkl : (l.take k).length = k := by rw [Zn]; omega
 have wk : IntKind.i64.wrap ((k : Int) + 1) = (k : Int) + 1 := IntWalk.i64_in _ (by omega)
 have w5 : IntKind.i64.wrap (((k + 1 : Nat) : Int) - 1) = (k : Int) := by rw [show (((k + 1 : Nat) : Int) - 1) = (k : Int) by omega]; exact IntWalk.i64_in _ (by omega)
 have hb : ∀ T, Does Z3 G 110 (nG ((l.take k).map strX) T) [.buf 0 (l.take k).length, .v (.string x)] (fun h' r => h' = nG ((l.take k).map strX) T ∧ r = .v (.bool false)) := fun T => hno ▸ sHas_b G hG (l.take k) x (by omega) nG_0 rfl
 generalize hP : l.take k = P at *
 have F : _ ∧ _ ∧ _ ∧ _ := ⟨e0, e3, e4, wk⟩
 repeat' first
  | (with_reducible refine Y7 ?_; refine Wd rfl rfl rfl rfl (by (simp only [go_sem, F]; rfl)) (by simp) (by simp only [go_sem, F]; rfl) (by (simp only [go_sem, F]; rfl)) (by simp) (by (simp [Yr, D.one, Value.oneCell']; done)) (by (simp; omega)) ?_)
  | refine gg ?_
  | refine Two.mk (fun hq => ?_) fun hq => ?_
  | (with_reducible refine Y7 ?_; refine gc rfl rfl rfl Zk1 (hb _) ?_)
  | (exfalso; omega)
 refine Yh (fun m e h' => ∃ U : List Ob, h' = nG ((l.take (k + 1)).map strX) U ∧ e 0 = .sl 1 (l.map strX) ∧ e 3 = .buf 0 (k + 1) ∧ e 4 = .v (.int .i64 k) ∧ e 5 = .v (.int .i64 k)) 0 ⟨_, by rw [htk]; rfl, e0, by show D.buf 0 (P.length + 1) = _; rw [hkl], e4, by show D.v (.int .i64 (IntKind.i64.wrap (((P.length + 1 : Nat) : Int) - 1))) = _; rw [hkl, w5]⟩ ?_
 clear e0 e3 e4 w5
 rintro m e h' ⟨U, rfl, e0, e3, e4, e5⟩
 have hrl : ((l.take (k + 1)).map strX).length = k + 1 := by rw [Z4, Zn]; omega
 rcases Nat.eq_zero_or_pos k with h0 | h0
 · subst h0
   have F : _ ∧ _ ∧ _ ∧ _ := ⟨e0, e3, e4, e5⟩
   repeat' first
    | (with_reducible refine Yf ?_; refine Y9 mixd (by kernel_rfl) ?_)
    | refine gg ?_
    | refine Two.mk (fun hq => ?_) fun hq => ?_
    | (exfalso; omega)
   all_goals first | (exfalso; omega) | exact ⟨rfl, l.length - 1, by omega, 1, U, by omega, rfl, rfl, e0, by show e 3 = _; rw [e3, ← hrl, Z4], rfl⟩
 obtain ⟨j, rfl⟩ : ∃ j, k = j + 1 := ⟨k - 1, by omega⟩
 have hy : l[j]? = some l[j] := Z0 (by omega)
 generalize l[j] = y at hy
 have hless := hr.at hy hx (Nat.lt_succ_self j)
 have gp : decide ((0 : Int) < ((j + 1 : Nat) : Int)) = true := decide_eq_true (by omega)
 have wm : IntKind.i64.wrap (((j + 1 : Nat) : Int) - 1) = (j : Int) := by rw [show ((j + 1 : Nat) : Int) - 1 = (j : Int) by omega]; exact IntWalk.i64_in _ (by omega)
 have hyr : ((l.take (j + 1 + 1)).map strX)[((j : Nat) : Int).toNat]? = some (strX y) := by rw [Z7, Zs, Zm (by omega), hy]; rfl
 have hxr : ((l.take (j + 1 + 1)).map strX)[((j + 1 : Nat) : Int).toNat]? = some (strX x) := by rw [Z7, Zs, Zm (by omega), hx]; rfl
 have hlq : (l.take (j + 1 + 1)).length = j + 1 + 1 := by rw [Z4] at hrl; exact hrl
 generalize hrw : (l.take (j + 1 + 1)).map strX = rows at *
 have F : _ ∧ _ ∧ _ ∧ _ ∧ _ ∧ _ ∧ _ ∧ _ := ⟨e0, e3, e4, e5, wk, wm, gp, hless⟩
 repeat' first
  | (with_reducible refine Yf ?_; refine Xu mixd (by kernel_rfl) ?_)
  | ((with_reducible refine Ze7 ?_); first | (refine aS_idxB rfl rfl rfl rfl nG_0 hrl (by rw [elT_22]; exact szT_9) (by omega) (by omega) ?_) | (refine aS_loadB rfl rfl rfl nG_0 hrl hyr (getS1 _) ?_) | (refine aS_loadB rfl rfl rfl nG_0 hrl hxr (getS1 _) ?_) | (refine aS1 rfl rfl fun K HK => ?_; (first | refine Yo rfl ?_ | skip); simp only [go_sem, F] <;> (refine HK _ _ rfl ?_; clear HK K)) | refine U7 (by simp only [List.reverse_cons, List.reverse_nil, List.nil_append, List.cons_append, Ww, chk1]; repeat' (first | exact trivial | refine And.intro ?_ ?_ | exact .inr X7 | exact .inr Xe | exact .inr Xd)) ?_)
  | refine g0 ?_
  | fail
 exact ⟨rfl, l.length - (j + 1 + 1), by omega, j + 1 + 1, U, by omega, rfl, hrw.symm ▸ rfl, e0, by show e 3 = _; rw [e3, hlq], rfl⟩
end
section
attribute [local irreducible] on aOp
attribute [local go_sem] decide_true decide_false Zf Zd
attribute [local simp] byD_len
theorem minusS_step {a b : List ByteArray} {k : Nat} {x : ByteArray} (hx : a[k]? = some x) : Vj (a.take (k + 1)) b = Vj (a.take k) b ++ (if hasS b x then [] else [x]) := by
 unfold Vj
 rw [Zr, hx, Option.toList_some, List.filter_append]
 cases h : hasS b x <;> simp [h]
theorem Ye3 (a b : List ByteArray) : (Vj a b).length ≤ a.length := List.length_filter_le _ _
variable (G : Nat → D) (hG : ∀ g, low 0 (G g))
include hG
theorem sOf_b (l : List ByteArray) (hr : Ris l) (hsz : l.length ≤ 1000000) {h : List Ob} {i n : Nat} (hi : h[i]? = some (.buf 9 1 (l.map strX))) (hn : l.length = n) : Does Z3 G 111 h [.buf i n] (fun h' r => h' = h.set i .dead ++ [.buf 9 1 (l.map strX)] ∧ r = .buf (h.set i .dead).length l.length) :=
 Does.give1c hi (by rw [Z4]; exact hn) (does_newR hG (Xq _ _) (by rw [lowL, lowL]; exact ⟨Xq _ _, trivial⟩) (sOf0 G hG l hr hsz) _)
attribute [local go_sem] Z8 Zj Zk Zl Z7 Z4 Zg Zh Za Zb Zi nG_0 nG_app nG_last nG_len nG_s0 Zg3 U9
attribute [local go_sem ↓] reduceIte
theorem sMinus0 (a b : List ByteArray) (hr : Ris a) (ha : a.length ≤ 1000000) (hb : b.length ≤ 1000000) : Does Z3 G 52 [] [.sl 1 (a.map strX), .sl 1 (b.map strX)] (fun h' r => h' = [.buf 9 1 ((Vj a b).map strX)] ∧ r = .buf 0 (Vj a b).length) := by
 refine Does.only0 hG (Xq _ _) (K := fun h' r => ∃ i, h'[i]? = some (.buf 9 1 ((Vj a b).map strX)) ∧ r = .buf i (Vj a b).length) ?_ (fun _ _ h => h)
 refine Vl Tryz.func52 rfl (Z1 rfl) ?_
 simp only [Tryz.ntmps52]
 repeat' first
  | refine g0 ?_
  | fail
 refine Yh (fun m e h' => ∃ (k : Nat) (T : List Ob), k ≤ a.length ∧ m = a.length - k ∧ h' = nG ((Vj (a.take k) b).map strX) T ∧ e 0 = .sl 1 (a.map strX) ∧ e 1 = .sl 1 (b.map strX) ∧ e 5 = .buf 0 (Vj (a.take k) b).length ∧ e 6 = .v (.int .i64 k)) a.length ⟨0, [], Z6 _, rfl, rfl, rfl, rfl, rfl, rfl⟩ ?_
 rintro m e h' ⟨k, T, hk, rfl, rfl, e0, e1, e5, e6⟩
 by_cases hlt : k < a.length
 rotate_left
 · have hml := Ye3 a b
   rw [Ze (by omega)] at e5 ⊢
   have hof := fun T => sOf_b G hG (Vj a b) (minusS_ris b hr) (by omega) (h := nG ((Vj a b).map strX) T) nG_0 rfl
   have F : _ ∧ _ ∧ _ ∧ _ := ⟨e0, e1, e5, e6⟩
   repeat' first
    | refine gg ?_
    | refine Two.mk (fun hq => ?_) fun hq => ?_
    | refine Evry.mk fun x hx => ?_
    | (with_reducible refine Y7 ?_; refine gc rfl rfl rfl ent_111 (hof _) ?_)
    | (exfalso; omega)
   exact ⟨.inr rfl, [.buf ((nG ((Vj a b).map strX) T).set 0 .dead).length (Vj a b).length], rfl, ((nG ((Vj a b).map strX) T).set 0 .dead).length, by simp, rfl⟩
 have hx : a[k]? = some a[k] := Z0 hlt
 generalize a[k] = x at hx
 have hst := minusS_step (b := b) hx
 have hh := sHas_d G hG b x (by omega)
 have wk : IntKind.i64.wrap ((k : Int) + 1) = (k : Int) + 1 := IntWalk.i64_in _ (by omega)
 have hpl := Ye3 (a.take k) b
 rw [Zn] at hpl
 generalize Vj (a.take k) b = p at *
 cases hxb : hasS b x <;> rw [hxb] at hh hst
 · skip
   have F : _ ∧ _ ∧ _ ∧ _ ∧ _ := ⟨e0, e1, e5, e6, wk⟩
   repeat' first
    | (with_reducible refine Y7 ?_; refine Wd rfl rfl rfl rfl (by (simp only [go_sem, F]; rfl)) (by simp) (by simp only [go_sem, F]; rfl) (by (simp only [go_sem, F]; rfl)) (by simp) (by (simp [Yr, D.one, Value.oneCell']; done)) (by (simp; omega)) ?_)
    | refine gg ?_
    | refine Two.mk (fun hq => ?_) fun hq => ?_
    | (with_reducible refine Y7 ?_; refine gc rfl rfl rfl Zk1 (hh _) ?_)
    | (exfalso; omega)
   exact ⟨rfl, a.length - (k + 1), by omega, k + 1, _, hlt, rfl, by rw [hst, if_neg (by simp), List.map_append]; rfl, e0, e1, by rw [hst, if_neg (by simp)]; simp [upd], rfl⟩
 · skip
   have F : _ ∧ _ ∧ _ ∧ _ ∧ _ := ⟨e0, e1, e5, e6, wk⟩
   repeat' first
    | refine gg ?_
    | refine Two.mk (fun hq => ?_) fun hq => ?_
    | (with_reducible refine Y7 ?_; refine gc rfl rfl rfl Zk1 (hh _) ?_)
    | (exfalso; omega)
   exact ⟨rfl, a.length - (k + 1), by omega, k + 1, _, hlt, rfl, by rw [hst, if_pos rfl, List.append_nil], e0, e1, by rw [hst, if_pos rfl, List.append_nil]; exact e5, rfl⟩
theorem sSubset_d (a b : List ByteArray) (hr : Ris a) (ha : a.length ≤ 1000000) (hb : b.length ≤ 1000000) (h : List Ob) : Does Z3 G 108 h [.sl 1 (a.map strX), .sl 1 (b.map strX)] (fun h' r => h' = h ∧ r = .v (.bool (X8 a b))) := by
 have hm := Does.gave0 hG (Xq _ _) (by rw [lowL, lowL, lowL]; exact ⟨Xq _ _, Xq _ _, trivial⟩) (by rw [Z4]) (sMinus0 G hG a b hr ha hb)
 refine Y5 Tryz.func108 rfl (Z1 rfl) hG fun hl0 _ => ?_
 simp only [Tryz.ntmps108]
 repeat' first
  | refine gg ?_
  | refine Two.mk (fun hq => ?_) fun hq => ?_
  | (with_reducible refine Y7 ?_; refine gc rfl rfl rfl ent_52 (hm _) ?_)
 · exact ⟨.inr rfl, endV hl0 rfl rfl ⟨rfl, by rw [← Ye2, decide_eq_true (by omega)]⟩⟩
 · exact ⟨.inr rfl, endV hl0 rfl rfl ⟨rfl, by rw [← Ye2, decide_eq_false (by omega)]⟩⟩
theorem rmembers_d (only list : List ByteArray) (ho : only.length ≤ 9223372036854775807) (hl : list.length ≤ 9223372036854775807) (hs : ∀ s ∈ list, s.size ≤ 9223372036854775807) (h : List Ob) : Does Z3 G 135 h [.sl 1 (only.map strX), .sl 1 (list.map strX)] (fun h' r => h' = h ∧ r = .v (.bool (Ye only list))) := by
 refine Ya G hG (by simp only [lowL]; exact ⟨Xq _ only, Xq _ list, trivial⟩) (by rw [low]; trivial) ?_ h
 clear h
 unfold Ye
 have hso := sSorted_d G hG list hl
 refine Y5 Tryz.func135 rfl (Z1 rfl) hG fun hl0 _ => ?_
 simp only [Tryz.ntmps135]
 repeat' first
  | refine g0 ?_
  | fail
 refine Yh (fun m e h' => ∃ k : Nat, k ≤ list.length ∧ m = list.length - k ∧ list.all (memB only) = (list.drop k).all (memB only) ∧ h' = [] ∧ e 0 = .sl 1 (only.map strX) ∧ e 1 = .sl 1 (list.map strX) ∧ e 5 = .v (.int .i64 k)) list.length ⟨0, Z6 _, rfl, rfl, rfl, rfl, rfl, rfl⟩ ?_
 rintro m e h' ⟨k, hk, rfl, hh, rfl, e0, e1, e5⟩
 by_cases hlt : k < list.length
 · have hx : list[k]? = some list[k] := Z0 hlt
   have wk : IntKind.i64.wrap ((k : Int) + 1) = ((k + 1 : Nat) : Int) := IntWalk.i64_in _ (by omega)
   rw [Z2 hlt, Zo] at hh
   have hn := sValid_d G hG list[k] (hs _ (Z9 hlt))
   generalize list[k] = x at hx hn hh
   have hha := sHas_d G hG only x ho
   have em : memB only x = (Xz x && (decide (only.length = 0) || hasS only x)) := rfl
   cases hnb : Xz x <;> rw [hnb] at hn em
   · rw [em] at hh
     rw [hh]
     have F : _ ∧ _ ∧ _ ∧ _ := ⟨e0, e1, e5, wk⟩
     repeat' first
      | refine gg ?_
      | refine Two.mk (fun hq => ?_) fun hq => ?_
      | (with_reducible refine Y7 ?_; refine gc rfl rfl rfl Zf0 (hn _) ?_)
      | (exfalso; omega)
     exact ⟨.inr rfl, endV hl0 rfl rfl ⟨rfl, by simp⟩⟩
   by_cases hz : only.length = 0
   · rw [em, decide_eq_true hz] at hh
     have F : _ ∧ _ ∧ _ ∧ _ := ⟨e0, e1, e5, wk⟩
     repeat' first
      | refine gg ?_
      | refine Two.mk (fun hq => ?_) fun hq => ?_
      | (with_reducible refine Y7 ?_; refine gc rfl rfl rfl Zf0 (hn _) ?_)
      | (exfalso; omega)
     all_goals first | (exfalso; omega) | exact ⟨rfl, list.length - (k + 1), by omega, k + 1, hlt, rfl, hh, rfl, e0, e1, rfl⟩
   · rw [em, decide_eq_false hz] at hh
     cases hhb : hasS only x <;> rw [hhb] at hha hh
     · rw [hh]
       have F : _ ∧ _ ∧ _ ∧ _ := ⟨e0, e1, e5, wk⟩
       repeat' first
        | refine gg ?_
        | refine Two.mk (fun hq => ?_) fun hq => ?_
        | (with_reducible refine Y7 ?_; first | refine gc rfl rfl rfl Zf0 (hn _) ?_ | refine gc rfl rfl rfl Zk1 (hha _) ?_)
        | (exfalso; omega)
       all_goals first | (exfalso; omega) | exact ⟨.inr rfl, endV hl0 rfl rfl ⟨rfl, by simp⟩⟩
     · skip
       have F : _ ∧ _ ∧ _ ∧ _ := ⟨e0, e1, e5, wk⟩
       repeat' first
        | refine gg ?_
        | refine Two.mk (fun hq => ?_) fun hq => ?_
        | (with_reducible refine Y7 ?_; first | refine gc rfl rfl rfl Zf0 (hn _) ?_ | refine gc rfl rfl rfl Zk1 (hha _) ?_)
        | (exfalso; omega)
       all_goals first | (exfalso; omega) | exact ⟨rfl, list.length - (k + 1), by omega, k + 1, hlt, rfl, hh, rfl, e0, e1, rfl⟩
 · rw [Z5 (by omega)] at hh
   rw [hh]
   have F : _ ∧ _ ∧ _ := ⟨e0, e1, e5⟩
   repeat' first
    | refine gg ?_
    | refine Two.mk (fun hq => ?_) fun hq => ?_
    | refine Evry.mk fun x hx => ?_
    | (with_reducible refine Y7 ?_; refine gc rfl rfl rfl ent_200 (hso _) ?_)
    | (exfalso; omega)
   exact ⟨.inr rfl, endV hl0 rfl rfl ⟨rfl, by simp⟩⟩
theorem rclosed_d (rs : List Rl) (list : List ByteArray) (hr : rs.length ≤ 9223372036854775807) (hc : ∀ r ∈ rs, Ris r.cond ∧ r.cond.length ≤ 1000000) (hl : list.length ≤ 1000000) (h : List Ob) : Does Z3 G 137 h [.sl 2 (rs.map Zp4), .sl 1 (list.map strX)] (fun h' r => h' = h ∧ r = .v (.bool (W0 rs list))) := by
 refine Ya G hG (by simp only [lowL]; exact ⟨Zx5 _ rs, Xq _ list, trivial⟩) (by rw [low]; trivial) ?_ h
 clear h
 unfold W0
 refine Y5 Tryz.func137 rfl (Z1 rfl) hG fun hl0 _ => ?_
 simp only [Tryz.ntmps137]
 repeat' first
  | refine g0 ?_
  | fail
 refine Yh (fun m e h' => ∃ (k : Nat), k ≤ rs.length ∧ m = rs.length - k ∧ (rs.all fun r => !X8 r.cond list || hasS list r.concl) = ((rs.drop k).all fun r => !X8 r.cond list || hasS list r.concl) ∧ h' = [] ∧ e 0 = .sl 2 (rs.map Zp4) ∧ e 1 = .sl 1 (list.map strX) ∧ e 5 = .v (.int .i64 k)) rs.length ⟨0, Z6 _, rfl, rfl, rfl, rfl, rfl, rfl⟩ ?_
 rintro m e h' ⟨k, hk, rfl, hh, rfl, e0, e1, e5⟩
 by_cases hlt : k < rs.length
 · have hx : rs[k]? = some rs[k] := Z0 hlt
   have wk : IntKind.i64.wrap ((k : Int) + 1) = ((k + 1 : Nat) : Int) := IntWalk.i64_in _ (by omega)
   rw [Z2 hlt, Zo] at hh
   have hc := hc _ (Z9 hlt)
   generalize rs[k] = x at hx hh hc
   have hsu := sSubset_d G hG x.cond list hc.1 hc.2 hl
   have hha := sHas_d G hG list x.concl (by omega)
   cases hb1 : X8 x.cond list <;> rw [hb1] at hsu hh
   · skip
     have F : _ ∧ _ ∧ _ ∧ _ := ⟨e0, e1, e5, wk⟩
     repeat' first
      | refine gg ?_
      | refine Two.mk (fun hq => ?_) fun hq => ?_
      | (with_reducible refine Y7 ?_; refine gc rfl rfl rfl ent_108 (hsu _) ?_)
      | (exfalso; omega)
     exact ⟨rfl, rs.length - (k + 1), by omega, k + 1, hlt, rfl, hh, rfl, e0, e1, rfl⟩
   · cases hb2 : hasS list x.concl <;> rw [hb2] at hha hh
     · rw [hh]
       have F : _ ∧ _ ∧ _ ∧ _ := ⟨e0, e1, e5, wk⟩
       repeat' first
        | refine gg ?_
        | refine Two.mk (fun hq => ?_) fun hq => ?_
        | (with_reducible refine Y7 ?_; first | refine gc rfl rfl rfl ent_108 (hsu _) ?_ | refine gc rfl rfl rfl Zk1 (hha _) ?_)
        | (exfalso; omega)
       exact ⟨.inr rfl, endV hl0 rfl rfl ⟨rfl, rfl⟩⟩
     · skip
       have F : _ ∧ _ ∧ _ ∧ _ := ⟨e0, e1, e5, wk⟩
       repeat' first
        | refine gg ?_
        | refine Two.mk (fun hq => ?_) fun hq => ?_
        | (with_reducible refine Y7 ?_; first | refine gc rfl rfl rfl ent_108 (hsu _) ?_ | refine gc rfl rfl rfl Zk1 (hha _) ?_)
        | (exfalso; omega)
       exact ⟨rfl, rs.length - (k + 1), by omega, k + 1, hlt, rfl, hh, rfl, e0, e1, rfl⟩
 · rw [Z5 (by omega)] at hh
   rw [hh]
   have F : _ ∧ _ ∧ _ := ⟨e0, e1, e5⟩
   repeat' first
    | refine gg ?_
    | refine Two.mk (fun hq => ?_) fun hq => ?_
    | refine Evry.mk fun x hx => ?_
    | (exfalso; omega)
   exact ⟨.inr rfl, endV hl0 rfl rfl ⟨rfl, rfl⟩⟩
end
section
attribute [local irreducible] on aOp
attribute [local go_sem] decide_true decide_false Zf Zd
attribute [local simp] byD_len
def iG (rows : List (List D)) (T : List Ob) : List Ob := .buf 2 1 rows :: T
section
variable {rows r2 : List (List D)} {T : List Ob} {x y : Ob}
theorem iG_0 : (iG rows T)[0]? = some (.buf 2 1 rows) := rfl
theorem iG_s0 : (iG rows T).set 0 (.buf 2 1 r2) = iG r2 T := rfl
theorem iG_app : iG rows T ++ [x] = iG rows (T ++ [x]) := rfl
theorem iG_len : (iG rows T).length = T.length + 1 := rfl
theorem iG_last : (iG rows (T ++ [x]))[T.length + 1]? = some x := by simp [iG]
end
theorem low_ints2 (m : Nat) (l : List Int) : low m (.sl 1 (l.map intX)) := Vk m l fun x _ => by simp [intX, lowL, low]
theorem Zb3 (m : Nat) (l : List Tk) : low m (.sl 2 (l.map tkX)) := Vk m l fun t _ => by simp [tkX, lowL, low]
theorem intX_eq2 (z : Int) : intX z = [.v (.int .i64 z)] := rfl
theorem Zu3 (c : List Tk) : (allT c).length = 64 := by unfold allT; simp
theorem allT_at (c : List Tk) {k : Nat} (h : k < 64) : (allT c)[k]? = some (Zi7 c k) := by unfold allT; rw [Zs, List.getElem?_range h]; rfl
theorem range_drop {k : Nat} (h : k < 64) : (List.range 64).drop k = k :: (List.range 64).drop (k + 1) := by
 rw [Z2 (by simpa using h), List.getElem_range]
variable (G : Nat → D) (hG : ∀ g, low 0 (G g))
include hG
attribute [local go_sem] Z8 Zj Zk Zl Z7 Z4 Zg Zh Za Zb Zi iG_0 iG_app iG_last iG_len iG_s0 intX_eq2 Zv1
attribute [local go_sem ↓] reduceIte
theorem Zu2 (c : List Tk) (hl : c.length ≤ 9223372036854775807) (h : List Ob) : Does Z3 G 201 h [.sl 2 (c.map tkX)] (fun h' r => h' = h ∧ r = .v (.bool (X9 c))) := by
 unfold X9
 refine Y5 Tryz.func201 rfl (Z1 rfl) hG fun hl0 _ => ?_
 simp only [Tryz.ntmps201]
 repeat' first
  | refine g0 ?_
  | fail
 refine Yh (fun m e h' => ∃ (k : Nat) (p : Int), k ≤ c.length ∧ m = c.length - k ∧ -1 ≤ p ∧ X3 (-1) c = X3 p (c.drop k) ∧ (k = 0 → p = -1) ∧ (∀ j y, k = j + 1 → c[j]? = some y → p = y.process) ∧ h' = h ∧ e 0 = .sl 2 (c.map tkX) ∧ e 3 = .v (.int .i64 k)) c.length ⟨0, -1, Z6 _, rfl, Int.le_refl _, rfl, fun _ => rfl, fun j y hj => by omega, rfl, rfl, rfl⟩ ?_
 rintro m e h' ⟨k, p, hk, rfl, hp, ho, hp0, hp1, rfl, e0, e3⟩
 by_cases hlt : k < c.length
 · have hx : c[k]? = some c[k] := Z0 hlt
   rw [clock_go (Z2 hlt)] at ho
   generalize c[k] = x at hx ho
   have wk : IntKind.i64.wrap ((k : Int) + 1) = ((k + 1 : Nat) : Int) := IntWalk.i64_in _ (by omega)
   have hnx : ∀ j y, k + 1 = j + 1 → c[j]? = some y → x.process = y.process := fun j y hj hy => by
    obtain rfl : j = k := by omega
    rw [hx] at hy; cases hy; rfl
   rcases Nat.eq_zero_or_pos k with h0 | h0
   · subst h0
     obtain rfl := hp0 rfl
     have F : _ ∧ _ ∧ _ := ⟨e0, e3, wk⟩
     repeat' first
      | (with_reducible refine Yf ?_; refine Y9 mixd (by kernel_rfl) ?_)
      | refine gg ?_
      | refine Two.mk (fun hq => ?_) fun hq => ?_
      | refine Evry.mk fun x hx => ?_
      | (exfalso; omega)
     all_goals first
     | exact ⟨.inr rfl, endD (r := .v (.bool false)) hl0 rfl (by simp) (by simp) rfl (by rw [low]; trivial) ⟨rfl, by rw [ho, show Yb5 (-1) x = false from decide_eq_false (by omega)]; rfl⟩⟩
     | exact ⟨rfl, c.length - 1, by omega, 1, x.process, hlt, rfl, by omega, by rw [ho, show Yb5 (-1) x = true from decide_eq_true (by omega)]; rfl, fun h => by omega, hnx, rfl, e0, rfl⟩
   · obtain ⟨j, rfl⟩ : ∃ j, k = j + 1 := ⟨k - 1, by omega⟩
     have hy : c[j]? = some c[j] := Z0 (by omega)
     have hpy := hp1 j _ rfl hy
     generalize c[j] = y at hy hpy
     subst hpy
     have wm : IntKind.i64.wrap (((j + 1 : Nat) : Int) - 1) = (j : Int) := by rw [show ((j + 1 : Nat) : Int) - 1 = (j : Int) by omega]; exact IntWalk.i64_in _ (by omega)
     have gp : decide ((0 : Int) < ((j + 1 : Nat) : Int)) = true := decide_eq_true (by omega)
     have F : _ ∧ _ ∧ _ ∧ _ ∧ _ := ⟨e0, e3, wk, wm, gp⟩
     repeat' first
      | (with_reducible refine Yf ?_; refine Y9 mixd (by kernel_rfl) ?_)
      | refine gg ?_
      | refine Two.mk (fun hq => ?_) fun hq => ?_
      | (exfalso; omega)
     all_goals first
     | exact ⟨.inr rfl, endD (r := .v (.bool false)) hl0 rfl (by simp) (by simp) rfl (by rw [low]; trivial) ⟨rfl, by rw [ho, show Yb5 y.process x = false from decide_eq_false (by omega)]; rfl⟩⟩
     | exact ⟨rfl, c.length - (j + 1 + 1), by omega, j + 1 + 1, x.process, hlt, rfl, by omega, by rw [ho, show Yb5 y.process x = true from decide_eq_true (by omega)]; rfl, fun h => by omega, hnx, rfl, e0, rfl⟩
 · skip
   have F : _ ∧ _ := ⟨e0, e3⟩
   repeat' first
    | refine gg ?_
    | refine Two.mk (fun hq => ?_) fun hq => ?_
    | refine Evry.mk fun x hx => ?_
    | (exfalso; omega)
   exact ⟨.inr rfl, endD (r := .v (.bool true)) hl0 rfl (by simp) (by simp) rfl (by rw [low]; trivial) ⟨rfl, by rw [ho, Z5 (by omega)]; rfl⟩⟩
theorem cGet_d (c : List Tk) (p : Int) (hl : c.length ≤ 9223372036854775807) (h : List Ob) : Does Z3 G 266 h [.sl 2 (c.map tkX), .v (.int .i64 p)] (fun h' r => h' = h ∧ r = .v (.int .i64 (Zi7 c p))) := by
 refine Ya G hG (by rw [lowL, lowL, lowL]; exact ⟨Zb3 _ _, by rw [low]; trivial, trivial⟩) (by rw [low]; trivial) ?_ h
 clear h
 have hv := Zu2 G hG c hl
 refine Y5 Tryz.func266 rfl (Z1 rfl) hG fun hl0 _ => ?_
 simp only [Tryz.ntmps266]
 unfold Zi7
 cases hcb : X9 c <;> rw [hcb] at hv
 · skip
   repeat' first
    | refine g0 ?_
    | (with_reducible refine Y7 ?_; refine gc rfl rfl rfl Zb8 (hv _) ?_)
   exact ⟨.inr rfl, endD (r := .v (.int .i64 0)) hl0 rfl (by simp) (by simp) rfl (by rw [low]; trivial) ⟨rfl, rfl⟩⟩
 repeat' first
  | refine g0 ?_
  | (with_reducible refine Y7 ?_; refine gc rfl rfl rfl Zb8 (hv _) ?_)
 refine Yh (fun m e h' => ∃ k : Nat, k ≤ c.length ∧ m = c.length - k ∧ getT c p = getT (c.drop k) p ∧ h' = [] ∧ e 0 = .sl 2 (c.map tkX) ∧ e 1 = .v (.int .i64 p) ∧ e 5 = .v (.int .i64 k)) c.length ⟨0, Z6 _, rfl, rfl, rfl, rfl, rfl, rfl⟩ ?_
 rintro m e h' ⟨k, hk, rfl, ho, rfl, e0, e1, e5⟩
 by_cases hlt : k < c.length
 · have hx : c[k]? = some c[k] := Z0 hlt
   rw [Z2 hlt, Wn] at ho
   generalize c[k] = x at hx ho
   have wk : IntKind.i64.wrap ((k : Int) + 1) = ((k + 1 : Nat) : Int) := IntWalk.i64_in _ (by omega)
   have F : _ ∧ _ ∧ _ ∧ _ := ⟨e0, e1, e5, wk⟩
   repeat' first
    | refine gg ?_
    | refine Two.mk (fun hq => ?_) fun hq => ?_
    | (exfalso; omega)
   all_goals first
   | exact ⟨.inr rfl, endD (r := .v (.int .i64 _)) hl0 rfl (by simp) (by simp) rfl (by rw [low]; trivial) ⟨rfl, by rw [if_pos rfl, ho, if_pos (by omega)]⟩⟩
   | exact ⟨rfl, c.length - (k + 1), by omega, k + 1, hlt, rfl, by rw [ho, if_neg (by omega)], rfl, e0, e1, rfl⟩
 · skip
   have F : _ ∧ _ ∧ _ := ⟨e0, e1, e5⟩
   repeat' first
    | refine gg ?_
    | refine Two.mk (fun hq => ?_) fun hq => ?_
    | refine Evry.mk fun x hx => ?_
    | (exfalso; omega)
   exact ⟨.inr rfl, endD (r := .v (.int .i64 0)) hl0 rfl (by simp) (by simp) rfl (by rw [low]; trivial) ⟨rfl, by rw [if_pos rfl, ho, Z5 (by omega)]; rfl⟩⟩
theorem cAll0 (c : List Tk) (hl : c.length ≤ 9223372036854775807) : Does Z3 G 245 [] [.sl 2 (c.map tkX)] (fun h' r => h' = [.buf 2 1 ((allT c).map intX)] ∧ r = .buf 0 64) := by
 refine Does.only0 hG (low_ints2 _ _) (K := fun h' r => ∃ i, h'[i]? = some (.buf 2 1 ((allT c).map intX)) ∧ r = .buf i 64) ?_ (fun _ _ h => h)
 have hal := Zu3 c
 refine Vl Tryz.func245 rfl (Z1 rfl) ?_
 simp only [Tryz.ntmps245]
 repeat' first
  | refine g0 ?_
  | fail
 refine aw_niltmp 2 1 3 rfl ?_
 refine Yh (fun m e h' => ∃ (k : Nat) (T : List Ob), k ≤ 64 ∧ m = 64 - k ∧ h' = iG (((allT c).take k).map intX) T ∧ e 0 = .sl 2 (c.map tkX) ∧ e 3 = .buf 0 ((allT c).take k).length ∧ e 4 = .v (.int .i64 k)) 64 ⟨0, [], by omega, rfl, rfl, rfl, rfl, rfl⟩ ?_
 rintro m e h' ⟨k, T, hk, rfl, rfl, e0, e3, e4⟩
 by_cases hlt : k < 64
 rotate_left
 · obtain rfl : k = 64 := by omega
   rw [Ze (by omega), hal] at e3
   rw [Ze (by omega)]
   have F : _ ∧ _ ∧ _ := ⟨e0, e3, e4⟩
   repeat' first
    | refine gg ?_
    | refine Two.mk (fun hq => ?_) fun hq => ?_
    | (exfalso; omega)
   all_goals first | (exfalso; omega) | exact ⟨.inr rfl, [.buf 0 64], rfl, 0, rfl, rfl⟩
 have hx := allT_at c hlt
 have hg := cGet_d G hG c k hl
 have htk : (allT c).take (k + 1) = (allT c).take k ++ [Zi7 c k] := by rw [Zr, hx]; rfl
 have wk : IntKind.i64.wrap ((k : Int) + 1) = ((k + 1 : Nat) : Int) := IntWalk.i64_in _ (by omega)
 generalize Zi7 c k = z at hg htk
 have hpl : ((allT c).take k).length ≤ 64 := by rw [Zn]; omega
 generalize (allT c).take k = p at *
 have F : _ ∧ _ ∧ _ ∧ _ := ⟨e0, e3, e4, wk⟩
 repeat' first
  | (with_reducible refine Y7 ?_; refine Wd rfl rfl rfl rfl (by (simp only [go_sem, F]; rfl)) (by simp) (by simp only [go_sem, F]; rfl) (by (simp only [go_sem, F]; rfl)) (by simp) (by (simp [Yr, D.one, Value.oneCell']; done)) (by (simp; omega)) ?_)
  | refine gg ?_
  | refine Two.mk (fun hq => ?_) fun hq => ?_
  | (with_reducible refine Y7 ?_; refine gc rfl rfl rfl ent_266 (hg _) ?_)
  | (exfalso; omega)
 all_goals first | (exfalso; omega) | exact ⟨rfl, 64 - (k + 1), by omega, k + 1, _, hlt, rfl, by rw [htk, List.map_append]; rfl, e0, by rw [htk]; simp [upd], rfl⟩
theorem cAll_d (c : List Tk) (hl : c.length ≤ 9223372036854775807) (h : List Ob) : Does Z3 G 245 h [.sl 2 (c.map tkX)] (fun h' r => h' = h ∧ r = .sl 1 ((allT c).map intX)) :=
 Does.gave0 hG (low_ints2 _ _) (by rw [lowL, lowL]; exact ⟨Zb3 _ _, trivial⟩) (by rw [Z4, Zu3]) (cAll0 G hG c hl) h
theorem cLeq_d (a b : List Tk) (ha : a.length ≤ 9223372036854775807) (hb : b.length ≤ 9223372036854775807) (h : List Ob) : Does Z3 G 224 h [.sl 2 (a.map tkX), .sl 2 (b.map tkX)] (fun h' r => h' = h ∧ r = .v (.bool (leqT a b))) := by
 refine Ya G hG (by rw [lowL, lowL, lowL]; exact ⟨Zb3 _ _, Zb3 _ _, trivial⟩) (by rw [low]; trivial) ?_ h
 clear h
 have h1 := cAll_d G hG a ha
 have h2 := cAll_d G hG b hb
 have hal := Zu3 a
 refine Y5 Tryz.func224 rfl (Z1 rfl) hG fun hl0 _ => ?_
 simp only [Tryz.ntmps224]
 repeat' first
  | refine g0 ?_
  | (with_reducible refine Y7 ?_; first | refine gc rfl rfl rfl ent_245 (h1 _) ?_ | refine gc rfl rfl rfl ent_245 (h2 _) ?_)
 refine Yh (fun m e h' => ∃ k : Nat, k ≤ 64 ∧ m = 64 - k ∧ leqT a b = ((List.range 64).drop k).all (fun p : Nat => decide (Zi7 a p ≤ Zi7 b p)) ∧ h' = [] ∧ e 5 = .sl 1 ((allT a).map intX) ∧ e 6 = .sl 1 ((allT b).map intX) ∧ e 7 = .v (.int .i64 k)) 64 ⟨0, by omega, rfl, rfl, rfl, rfl, rfl, rfl⟩ ?_
 rintro m e h' ⟨k, hk, rfl, ho, rfl, e5, e6, e7⟩
 by_cases hlt : k < 64
 · have hx := allT_at a hlt
   have hy := allT_at b hlt
   rw [range_drop hlt, Zo] at ho
   have wk : IntKind.i64.wrap ((k : Int) + 1) = ((k + 1 : Nat) : Int) := IntWalk.i64_in _ (by omega)
   generalize Zi7 a k = x at hx ho
   generalize Zi7 b k = y at hy ho
   have hbl : (allT b).length = 64 := Zu3 b
   have F : _ ∧ _ ∧ _ ∧ _ ∧ _ ∧ _ := ⟨e5, e6, e7, hal, hbl, wk⟩
   repeat' first
    | (with_reducible refine Yf ?_; refine Y9 mixd (by kernel_rfl) ?_)
    | refine gg ?_
    | refine Two.mk (fun hq => ?_) fun hq => ?_
    | (exfalso; omega)
   all_goals first
   | (exfalso; omega)
   | exact ⟨.inr rfl, endD (r := .v (.bool false)) hl0 rfl (by simp) (by simp) rfl (by rw [low]; trivial) ⟨rfl, by rw [ho, decide_eq_false (by omega)]; rfl⟩⟩
   | exact ⟨rfl, 64 - (k + 1), by omega, k + 1, hlt, rfl, by rw [ho, decide_eq_true (by omega)]; rfl, rfl, e5, e6, rfl⟩
 · skip
   have F : _ ∧ _ ∧ _ ∧ _ := ⟨e5, e6, e7, hal⟩
   repeat' first
    | (with_reducible refine Yf ?_; refine Y9 mixd (by kernel_rfl) ?_)
    | refine gg ?_
    | refine Two.mk (fun hq => ?_) fun hq => ?_
    | refine Evry.mk fun x hx => ?_
    | (exfalso; omega)
   all_goals first | (exfalso; omega) | exact ⟨.inr rfl, endD (r := .v (.bool true)) hl0 rfl (by simp) (by simp) rfl (by rw [low]; trivial) ⟨rfl, by rw [ho, Z5 (by simp; omega)]; rfl⟩⟩
theorem cBelow_d (a b : List Tk) (ha : a.length ≤ 9223372036854775807) (hb : b.length ≤ 9223372036854775807) (h : List Ob) : Does Z3 G 174 h [.sl 2 (a.map tkX), .sl 2 (b.map tkX)] (fun h' r => h' = h ∧ r = .v (.bool (Wg a b))) := by
 have h1 := Zu2 G hG a ha
 have h2 := Zu2 G hG b hb
 have h3 := cLeq_d G hG a b ha hb
 have h4 := cLeq_d G hG b a hb ha
 unfold Wg
 generalize X9 a = x1 at *
 generalize X9 b = x2 at *
 generalize leqT a b = x3 at *
 generalize leqT b a = x4 at *
 refine Y5 Tryz.func174 rfl (Z1 rfl) hG fun hl0 _ => ?_
 simp only [Tryz.ntmps174]
 cases x1
 rotate_left
 cases x2
 rotate_left
 cases x3
 rotate_left
 cases x4
 all_goals
  repeat' first
   | refine g0 ?_
   | (with_reducible refine Y7 ?_; first | refine gc rfl rfl rfl Zb8 (h1 _) ?_ | refine gc rfl rfl rfl Zb8 (h2 _) ?_ | refine gc rfl rfl rfl ent_224 (h3 _) ?_ | refine gc rfl rfl rfl ent_224 (h4 _) ?_)
  all_goals exact ⟨.inr rfl, endD (r := .v (.bool _)) hl0 rfl (by simp) (by simp) rfl (by rw [low]; trivial) ⟨rfl, rfl⟩⟩
end
section
attribute [local irreducible] on aOp
attribute [local go_sem] decide_true decide_false Zf Zd
attribute [local simp] byD_len
def lenI (m n : Nat) : Int := if m = n then 0 else if m < n then -1 else 1
theorem Yj5 {α : Type} (c : α → α → Int) {A B : List α} {k : Nat} (h1 : k ≤ A.length) (h2 : k ≤ B.length) (h : A.length ≤ k ∨ B.length ≤ k) : lexC c (A.drop k) (B.drop k) = lenI A.length B.length := by
 unfold lenI
 by_cases ha : A.length ≤ k
 · rw [Zn7 c A B k ha]
   by_cases hb : k < B.length
   · rw [if_pos hb, if_neg (by omega), if_pos (by omega)]
   · rw [if_neg hb, if_pos (by omega)]
 · rw [Zn6 c A B k (by omega) (by omega), if_neg (by omega), if_neg (by omega)]
theorem cmpI_ne {a b : Int} (h : ¬ a = b) : cmpI a b = if a < b then -1 else 1 := by
 unfold cmpI
 by_cases hl : a < b
 · rw [if_pos hl, if_pos hl]
 · rw [if_neg hl, if_neg hl, if_pos (by omega)]
theorem Yl9 {a b : Int} (h : a = b) : cmpI a b = 0 := by unfold cmpI; rw [if_neg (by omega), if_neg (by omega)]
theorem tick_1 {x y : Tk} (h : ¬ x.process = y.process) : Vf x y = if x.process < y.process then -1 else 1 := by
 unfold Vf; simp only [orI, cmpI_ne h]; by_cases hl : x.process < y.process <;> simp [hl]
theorem tick_2 {x y : Tk} (h : x.process = y.process) (h2 : ¬ x.n = y.n) : Vf x y = if x.n < y.n then -1 else 1 := by
 unfold Vf; simp only [orI, Yl9 h, cmpI_ne h2]; by_cases hl : x.n < y.n <;> simp [hl]
theorem tick_3 {x y : Tk} (h : x.process = y.process) (h2 : x.n = y.n) : Vf x y = 0 := by
 unfold Vf; simp only [orI, Yl9 h, Yl9 h2]; rfl
theorem ite_ne {P : Prop} [Decidable P] (z : Int) : (if (if P then (-1 : Int) else 1) ≠ 0 then (if P then (-1 : Int) else 1) else z) = if P then -1 else 1 := by by_cases h : P <;> simp [h]
theorem strC_ne {a b : ByteArray} (h : ¬ a = b) : strC a b = if Ue a b then -1 else 1 := by unfold strC; rw [if_neg h]
theorem strC_self (a : ByteArray) : strC a a = 0 := by
 unfold strC
 have : Ue a a = false := by rw [Ue, bl_eqV, decide_eq_false_iff_not]; exact List.lt_irrefl _
 rw [this]; simp
theorem ent_1 {a b : En} (h : ¬ a.name = b.name) : entC a b = if Ue a.name b.name then -1 else 1 := by
 unfold entC; simp only [orI, strC_ne h]; cases Ue a.name b.name <;> rfl
theorem ent_2 {a b : En} (h : a.name = b.name) : entC a b = lexC Vf a.clock b.clock := by
 unfold entC; simp only [orI, h, strC_self]; split <;> simp_all
variable (G : Nat → D) (hG : ∀ g, low 0 (G g))
include hG
attribute [local go_sem] Z8 Zj Zk Zl Z7 Z4 Zg Zh Za Zb Zi Zd0 Zv1
attribute [local go_sem ↓] reduceIte
theorem Yc8 (b : Bool) (h : List Ob) : Does Z3 G 95 h [.v (.bool b)] (fun h' r => h' = h ∧ r = .v (.int .i64 (if b then -1 else 1))) := by
 refine Y5 Tryz.func95 rfl (Z1 rfl) hG fun hl0 _ => ?_
 simp only [Tryz.ntmps95]
 cases b
 all_goals
  repeat' first
   | refine g0 ?_
   | fail
  exact ⟨.inr rfl, endD (r := .v (.int .i64 _)) hl0 rfl (by simp) (by simp) rfl (by rw [low]; trivial) ⟨rfl, rfl⟩⟩
theorem lens_d (m n : Nat) (h : List Ob) : Does Z3 G 96 h [.v (.int .i64 m), .v (.int .i64 n)] (fun h' r => h' = h ∧ r = .v (.int .i64 (lenI m n))) := by
 refine Y5 Tryz.func96 rfl (Z1 rfl) hG fun hl0 _ => ?_
 simp only [Tryz.ntmps96]
 unfold lenI
 repeat' first
  | refine gg ?_
  | refine Two.mk (fun hq => ?_) fun hq => ?_
  | (with_reducible refine Y7 ?_; refine gc rfl rfl rfl Yf1 (Yc8 G hG _ _) ?_)
 all_goals first
 | (exfalso; omega)
 | exact ⟨.inr rfl, endD (r := .v (.int .i64 0)) hl0 rfl (by simp) (by simp) rfl (by rw [low]; trivial) ⟨rfl, by rw [if_pos (by omega)]⟩⟩
 | exact ⟨.inr rfl, endD (r := .v (.int .i64 (-1))) hl0 rfl (by simp) (by simp) rfl (by rw [low]; trivial) ⟨rfl, by rw [if_neg (by omega), if_pos (by omega)]⟩⟩
 | exact ⟨.inr rfl, endD (r := .v (.int .i64 1)) hl0 rfl (by simp) (by simp) rfl (by rw [low]; trivial) ⟨rfl, by rw [if_neg (by omega), if_neg (by omega)]⟩⟩
theorem ticks_d (a b : List Tk) (ha : a.length ≤ 9223372036854775807) (hb : b.length ≤ 9223372036854775807) (h : List Ob) : Does Z3 G 156 h [.sl 2 (a.map tkX), .sl 2 (b.map tkX)] (fun h' r => h' = h ∧ r = .v (.int .i64 (lexC Vf a b))) := by
 refine Ya G hG (by rw [lowL, lowL, lowL]; exact ⟨Zb3 _ _, Zb3 _ _, trivial⟩) (by rw [low]; trivial) ?_ h
 clear h
 refine Y5 Tryz.func156 rfl (Z1 rfl) hG fun hl0 _ => ?_
 simp only [Tryz.ntmps156]
 repeat' first
  | refine g0 ?_
  | fail
 refine Yh (fun m e h' => ∃ k : Nat, k ≤ a.length ∧ k ≤ b.length ∧ m = a.length - k ∧ lexC Vf a b = lexC Vf (a.drop k) (b.drop k) ∧ h' = [] ∧ e 0 = .sl 2 (a.map tkX) ∧ e 1 = .sl 2 (b.map tkX) ∧ e 5 = .v (.int .i64 k)) a.length ⟨0, Z6 _, Z6 _, rfl, rfl, rfl, rfl, rfl, rfl⟩ ?_
 rintro m e h' ⟨k, hka, hkb, rfl, ho, rfl, e0, e1, e5⟩
 by_cases hlt : k < a.length ∧ k < b.length
 · have hx : a[k]? = some (a[k]'hlt.1) := Z0 hlt.1
   have hy : b[k]? = some (b[k]'hlt.2) := Z0 hlt.2
   rw [Zr8 (Z2 hlt.1) (Z2 hlt.2)] at ho
   generalize (a[k]'hlt.1) = x at hx ho
   generalize (b[k]'hlt.2) = y at hy ho
   have wk : IntKind.i64.wrap ((k : Int) + 1) = ((k + 1 : Nat) : Int) := IntWalk.i64_in _ (by omega)
   by_cases hp : x.process = y.process
   · by_cases hn : x.n = y.n
     · rw [tick_3 hp hn] at ho
       have F : _ ∧ _ ∧ _ ∧ _ ∧ _ ∧ _ := ⟨e0, e1, e5, wk, hp, hn⟩
       repeat' first
        | (with_reducible refine Yf ?_; refine Y9 mixd (by kernel_rfl) ?_)
        | refine gg ?_
        | refine Two.mk (fun hq => ?_) fun hq => ?_
        | (exfalso; omega)
       all_goals first | (exfalso; omega) | exact ⟨rfl, a.length - (k + 1), by omega, k + 1, by omega, by omega, rfl, ho, rfl, e0, e1, rfl⟩
     · rw [tick_2 hp hn, ite_ne] at ho
       have F : _ ∧ _ ∧ _ ∧ _ ∧ _ ∧ _ := ⟨e0, e1, e5, wk, hp, hn⟩
       repeat' first
        | (with_reducible refine Yf ?_; refine Y9 mixd (by kernel_rfl) ?_)
        | refine gg ?_
        | refine Two.mk (fun hq => ?_) fun hq => ?_
        | (with_reducible refine Xf ?_; refine aq2 rfl rfl rfl Yf1 (Yc8 G hG _ _) ?_)
        | (exfalso; omega)
       all_goals first | (exfalso; omega) | (rw [if_pos (by omega)] at ho; exact ⟨.inr rfl, endD (r := .v (.int .i64 (-1))) hl0 rfl (by simp) (by simp) rfl (by rw [low]; trivial) ⟨rfl, by rw [ho]⟩⟩) | (rw [if_neg (by omega)] at ho; exact ⟨.inr rfl, endD (r := .v (.int .i64 1)) hl0 rfl (by simp) (by simp) rfl (by rw [low]; trivial) ⟨rfl, by rw [ho]⟩⟩)
   · rw [tick_1 hp, ite_ne] at ho
     have F : _ ∧ _ ∧ _ ∧ _ ∧ _ := ⟨e0, e1, e5, wk, hp⟩
     repeat' first
      | (with_reducible refine Yf ?_; refine Y9 mixd (by kernel_rfl) ?_)
      | refine gg ?_
      | refine Two.mk (fun hq => ?_) fun hq => ?_
      | (with_reducible refine Xf ?_; refine aq2 rfl rfl rfl Yf1 (Yc8 G hG _ _) ?_)
      | (exfalso; omega)
     all_goals first | (exfalso; omega) | (rw [if_pos (by omega)] at ho; exact ⟨.inr rfl, endD (r := .v (.int .i64 (-1))) hl0 rfl (by simp) (by simp) rfl (by rw [low]; trivial) ⟨rfl, by rw [ho]⟩⟩) | (rw [if_neg (by omega)] at ho; exact ⟨.inr rfl, endD (r := .v (.int .i64 1)) hl0 rfl (by simp) (by simp) rfl (by rw [low]; trivial) ⟨rfl, by rw [ho]⟩⟩)
 · rw [Yj5 Vf hka hkb (by omega)] at ho
   have F : _ ∧ _ ∧ _ := ⟨e0, e1, e5⟩
   repeat' first
    | (with_reducible refine Yf ?_; refine Y9 mixd (by kernel_rfl) ?_)
    | refine gg ?_
    | refine Two.mk (fun hq => ?_) fun hq => ?_
    | refine Evry.mk fun x hx => ?_
    | (with_reducible refine Y7 ?_; refine gc rfl rfl rfl ent_96 (lens_d G hG a.length b.length _) ?_)
    | (exfalso; omega)
   all_goals first | (exfalso; omega) | exact ⟨.inr rfl, endD (r := .v (.int .i64 (lenI a.length b.length))) hl0 rfl (by simp) (by simp) rfl (by rw [low]; trivial) ⟨rfl, by rw [ho]⟩⟩
theorem ents_d (a b : En) (ha : a.clock.length ≤ 9223372036854775807) (hb : b.clock.length ≤ 9223372036854775807) (h : List Ob) : Does Z3 G 97 h [.agg (enX a), .agg (enX b)] (fun h' r => h' = h ∧ r = .v (.int .i64 (entC a b))) := by
 have hl1 : ∀ e : En, lowL 0 (enX e) := fun e => by rw [enX, lowL, lowL, lowL]; exact ⟨Zb3 _ _, by rw [low]; trivial, trivial⟩
 refine Ya G hG (by rw [lowL, lowL, lowL, low, low]; exact ⟨hl1 a, hl1 b, trivial⟩) (by rw [low]; trivial) ?_ h
 clear h hl1
 have ht := ticks_d G hG a.clock b.clock ha hb
 refine Y5 Tryz.func97 rfl (Z1 rfl) hG fun hl0 _ => ?_
 simp only [Tryz.ntmps97]
 by_cases hn : a.name = b.name
 · rw [ent_2 hn]
   have F := hn
   repeat' first
    | refine g0 ?_
    | (with_reducible refine Y7 ?_; refine gc rfl rfl rfl ent_156 (ht _) ?_)
   exact ⟨.inr rfl, endD (r := .v (.int .i64 _)) hl0 rfl (by simp) (by simp) rfl (by rw [low]; trivial) ⟨rfl, rfl⟩⟩
 · rw [ent_1 hn]
   unfold Ue
   cases hlt : Op.bytesLess a.name.toList b.name.toList
   all_goals
    have F : _ ∧ _ := ⟨hn, hlt⟩
    repeat' first
     | refine g0 ?_
     | (with_reducible refine Y7 ?_; refine gc rfl rfl rfl Yf1 (Yc8 G hG _ _) ?_)
    exact ⟨.inr rfl, endD (r := .v (.int .i64 _)) hl0 rfl (by simp) (by simp) rfl (by rw [low]; trivial) ⟨rfl, rfl⟩⟩
end
section
set_option maxHeartbeats 16000000
attribute [local irreducible] on aOp
attribute [local go_sem] decide_true decide_false Zf Zd
attribute [local simp] byD_len
theorem lenI_ne {m n : Nat} (h : ¬ m = n) : lenI m n ≠ 0 := by unfold lenI; rw [if_neg h]; split <;> decide
variable (G : Nat → D) (hG : ∀ g, low 0 (G g))
include hG
attribute [local go_sem] Z8 Zj Zk Zl Z7 Z4 Zg Zh Za Zb Zi Zd0 U9
attribute [local go_sem ↓] reduceIte
theorem rcmp_va (n : Nat) : ∀ (a b : Val), SizeOf.sizeOf a ≤ n → VSm a → VSm b → ∀ (h : List Ob), Does Z3 G 46 h [.agg (vaX a), .agg (vaX b)] (fun h' r => h' = h ∧ r = .v (.int .i64 (valC a b))) := by
 induction n with
 | zero => intro a b hn; cases a; simp at hn
 | succ n ih =>
 intro a b hsz sa sb h
 refine Ya G hG (by rw [lowL, lowL, lowL, low, low]; exact ⟨Ys _ a, Ys _ b, trivial⟩) (by rw [low]; trivial) ?_ h
 clear h
 have hpp : ∀ x ∈ a.parts, ∀ y ∈ b.parts, ∀ h, Does Z3 G 46 h [.agg (vaX x), .agg (vaX y)] (fun h' r => h' = h ∧ r = .v (.int .i64 (valC x y))) := fun x hx y hy => ih x y (by
   have := List.sizeOf_lt_of_mem hx
   cases a with
   | mk m ns ps es => simp only [Val.parts] at this; simp only [Val.mk.sizeOf_spec] at hsz; omega) (sa.part x hx) (sb.part y hy)
 have hee : ∀ x ∈ a.entries, ∀ y ∈ b.entries, ∀ h, Does Z3 G 97 h [.agg (enX x), .agg (enX y)] (fun h' r => h' = h ∧ r = .v (.int .i64 (entC x y))) := fun x hx y hy => ents_d G hG x y (sa.ents x hx).1 (sb.ents y hy).1
 have sn1 := sa.names
 have sn2 := sb.names
 have sp1 := sa.parts
 have sp2 := sb.parts
 have se1 := sa.entries
 have se2 := sb.entries
 rw [Y6 a, Y6 b, valC_eq a b]
 generalize a.n = p
 generalize b.n = q
 refine Y5 Tryz.func46 rfl (Z1 rfl) hG fun hl0 _ => ?_
 simp only [Tryz.ntmps46]
 by_cases hn : p = q
 rotate_left
 · rw [cmpI_ne hn, ite_ne]
   have F := hn
   repeat' first
    | refine gg ?_
    | refine Two.mk (fun hq => ?_) fun hq => ?_
    | (with_reducible refine Y7 ?_; refine gc rfl rfl rfl Yf1 (Yc8 G hG _ _) ?_)
   all_goals first | (exfalso; omega) | exact ⟨.inr rfl, endD (r := .v (.int .i64 (-1))) hl0 rfl (by simp) (by simp) rfl (by rw [low]; trivial) ⟨rfl, by rw [if_pos (by omega)]⟩⟩ | exact ⟨.inr rfl, endD (r := .v (.int .i64 1)) hl0 rfl (by simp) (by simp) rfl (by rw [low]; trivial) ⟨rfl, by rw [if_neg (by omega)]⟩⟩
 subst hn
 have hnz : ¬ cmpI p p ≠ 0 := fun q => q (Yl9 rfl)
 rw [if_neg hnz]
 repeat' first
  | refine g0 ?_
  | fail
 refine Yh (fun m e h' => ∃ k : Nat, k ≤ a.names.length ∧ k ≤ b.names.length ∧ m = a.names.length - k ∧ lexC strC a.names b.names = lexC strC (a.names.drop k) (b.names.drop k) ∧ h' = [.cells [.v (.int .i64 p), .sl 1 (a.names.map strX), .sl 4 (a.parts.map vaX), .sl 2 (a.entries.map enX)], .cells [.v (.int .i64 p), .sl 1 (b.names.map strX), .sl 4 (b.parts.map vaX), .sl 2 (b.entries.map enX)]] ∧ e 2 = .ptr 0 0 ∧ e 3 = .ptr 1 0 ∧ e 5 = .v (.int .i64 k)) a.names.length ⟨0, Z6 _, Z6 _, rfl, rfl, rfl, rfl, rfl, rfl⟩ ?_
 clear hnz
 rintro m e h' ⟨k, hka, hkb, rfl, ho, rfl, e2, e3, e5⟩
 by_cases hlt : k < a.names.length ∧ k < b.names.length
 · have hx : a.names[k]? = some (a.names[k]'hlt.1) := Z0 hlt.1
   have hy : b.names[k]? = some (b.names[k]'hlt.2) := Z0 hlt.2
   have hxm : (a.names[k]'hlt.1) ∈ a.names := Z9 _
   have hym : (b.names[k]'hlt.2) ∈ b.names := Z9 _
   rw [Zr8 (Z2 hlt.1) (Z2 hlt.2)] at ho
   generalize (a.names[k]'hlt.1) = x at hx hxm ho
   generalize (b.names[k]'hlt.2) = y at hy hym ho
   have wk : IntKind.i64.wrap ((k : Int) + 1) = ((k + 1 : Nat) : Int) := IntWalk.i64_in _ (by omega)
   by_cases hq1 : x = y
   · subst hq1
     rw [strC_self, if_neg (by simp)] at ho
     have F : _ ∧ _ ∧ _ ∧ _ := ⟨e2, e3, e5, wk⟩
     repeat' first
      | (with_reducible refine Yf ?_; refine Y9 mixd (by kernel_rfl) ?_)
      | refine gg ?_
      | refine Two.mk (fun hq => ?_) fun hq => ?_
      | (exfalso; omega)
     all_goals first | (exfalso; omega) | exact ⟨rfl, a.names.length - (k + 1), by omega, k + 1, by omega, by omega, rfl, ho, rfl, e2, e3, rfl⟩
   · rw [strC_ne hq1] at ho
     unfold Ue at ho
     cases hlq : Op.bytesLess x.toList y.toList <;> rw [hlq] at ho
     all_goals
      have F : _ ∧ _ ∧ _ ∧ _ ∧ _ ∧ _ := ⟨e2, e3, e5, wk, hq1, hlq⟩
      repeat' first
       | (with_reducible refine Yf ?_; refine Y9 mixd (by kernel_rfl) ?_)
       | refine gg ?_
       | refine Two.mk (fun hq => ?_) fun hq => ?_
       | (with_reducible refine Xf ?_; refine aq2 rfl rfl rfl Yf1 (Yc8 G hG _ _) ?_)
       | (exfalso; omega)
      all_goals first | (exfalso; omega) | exact ⟨.inr rfl, endD (r := .v (.int .i64 _)) hl0 rfl (by simp) (by simp) rfl (by rw [low]; trivial) ⟨rfl, by rw [ho]; rfl⟩⟩
 rw [Yj5 strC hka hkb (by omega)] at ho
 by_cases hl : a.names.length = b.names.length
 rotate_left
 · have hne := lenI_ne hl
   have hli : ¬ (a.names.length : Int) = (b.names.length : Int) := by omega
   rw [ho, if_pos hne]
   have F : _ ∧ _ ∧ _ ∧ _ := ⟨e2, e3, e5, hli⟩
   repeat' first
    | (with_reducible refine Yf ?_; refine Y9 mixd (by kernel_rfl) ?_)
    | refine gg ?_
    | refine Two.mk (fun hq => ?_) fun hq => ?_
    | refine Evry.mk fun x hx => ?_
    | (with_reducible refine Y7 ?_; refine gc rfl rfl rfl ent_96 (lens_d G hG a.names.length b.names.length _) ?_)
    | (exfalso; omega)
   all_goals first | (exfalso; omega) | exact ⟨.inr rfl, endD (r := .v (.int .i64 (lenI a.names.length b.names.length))) hl0 rfl (by simp) (by simp) rfl (by rw [low]; trivial) ⟨rfl, rfl⟩⟩
 have hli : (a.names.length : Int) = (b.names.length : Int) := by omega
 have hz : lenI a.names.length b.names.length = 0 := by unfold lenI; rw [if_pos hl]
 rw [ho, hz, if_neg (by simp)]
 have F : _ ∧ _ ∧ _ ∧ _ := ⟨e2, e3, e5, hli⟩
 repeat' first
  | (with_reducible refine Yf ?_; refine Y9 mixd (by kernel_rfl) ?_)
  | refine gg ?_
  | refine Two.mk (fun hq => ?_) fun hq => ?_
  | refine Evry.mk fun x hx => ?_
  | (exfalso; omega)
 all_goals try (exfalso; omega)
 refine Yh (fun m e h' => ∃ k : Nat, k ≤ a.parts.length ∧ k ≤ b.parts.length ∧ m = a.parts.length - k ∧ lexC valC a.parts b.parts = lexC valC (a.parts.drop k) (b.parts.drop k) ∧ h' = [.cells [.v (.int .i64 p), .sl 1 (a.names.map strX), .sl 4 (a.parts.map vaX), .sl 2 (a.entries.map enX)], .cells [.v (.int .i64 p), .sl 1 (b.names.map strX), .sl 4 (b.parts.map vaX), .sl 2 (b.entries.map enX)]] ∧ e 2 = .ptr 0 0 ∧ e 3 = .ptr 1 0 ∧ e 6 = .v (.int .i64 k)) a.parts.length ⟨0, Z6 _, Z6 _, rfl, rfl, rfl, e2, e3, rfl⟩ ?_
 (try clear F); clear hlt ho hka hkb hl hli hz e2 e3 e5 e
 rintro m e h' ⟨k, hka, hkb, rfl, ho, rfl, e2, e3, e6⟩
 by_cases hlt : k < a.parts.length ∧ k < b.parts.length
 · have hx : a.parts[k]? = some (a.parts[k]'hlt.1) := Z0 hlt.1
   have hy : b.parts[k]? = some (b.parts[k]'hlt.2) := Z0 hlt.2
   have hxm : (a.parts[k]'hlt.1) ∈ a.parts := Z9 _
   have hym : (b.parts[k]'hlt.2) ∈ b.parts := Z9 _
   rw [Zr8 (Z2 hlt.1) (Z2 hlt.2)] at ho
   generalize (a.parts[k]'hlt.1) = x at hx hxm ho
   generalize (b.parts[k]'hlt.2) = y at hy hym ho
   have wk : IntKind.i64.wrap ((k : Int) + 1) = ((k + 1 : Nat) : Int) := IntWalk.i64_in _ (by omega)
   have hpc := hpp x hxm y hym
   generalize valC x y = c at hpc ho
   simp only [Y6 x, Y6 y] at hpc
   by_cases hq1 : c = 0
   · rw [if_neg (by simp [hq1])] at ho
     have F : _ ∧ _ ∧ _ ∧ _ ∧ _ ∧ _ ∧ _ := ⟨e2, e3, e6, Y6 x, Y6 y, wk, hq1⟩
     repeat' first
      | (with_reducible refine Yf ?_; refine Y9 mixd (by kernel_rfl) ?_)
      | refine gg ?_
      | refine Two.mk (fun hq => ?_) fun hq => ?_
      | (with_reducible refine Xf ?_; refine aq2 rfl rfl rfl ent_46 (hpc _) ?_)
      | (exfalso; omega)
     all_goals first | (exfalso; omega) | exact ⟨rfl, a.parts.length - (k + 1), by omega, k + 1, by omega, by omega, rfl, ho, rfl, e2, e3, rfl⟩
   · rw [if_pos hq1] at ho
     have F : _ ∧ _ ∧ _ ∧ _ ∧ _ ∧ _ ∧ _ := ⟨e2, e3, e6, Y6 x, Y6 y, wk, hq1⟩
     repeat' first
      | (with_reducible refine Yf ?_; refine Y9 mixd (by kernel_rfl) ?_)
      | refine gg ?_
      | refine Two.mk (fun hq => ?_) fun hq => ?_
      | (with_reducible refine Xf ?_; refine aq2 rfl rfl rfl ent_46 (hpc _) ?_)
      | (exfalso; omega)
     all_goals first | (exfalso; omega) | exact ⟨.inr rfl, endD (r := .v (.int .i64 c)) hl0 rfl (by simp) (by simp) rfl (by rw [low]; trivial) ⟨rfl, by rw [ho, if_pos hq1]⟩⟩
 rw [Yj5 valC hka hkb (by omega)] at ho
 by_cases hl : a.parts.length = b.parts.length
 rotate_left
 · have hne := lenI_ne hl
   have hli : ¬ (a.parts.length : Int) = (b.parts.length : Int) := by omega
   rw [ho, if_pos hne]
   have F : _ ∧ _ ∧ _ ∧ _ := ⟨e2, e3, e6, hli⟩
   repeat' first
    | (with_reducible refine Yf ?_; refine Y9 mixd (by kernel_rfl) ?_)
    | refine gg ?_
    | refine Two.mk (fun hq => ?_) fun hq => ?_
    | refine Evry.mk fun x hx => ?_
    | (with_reducible refine Y7 ?_; refine gc rfl rfl rfl ent_96 (lens_d G hG a.parts.length b.parts.length _) ?_)
    | (exfalso; omega)
   all_goals first | (exfalso; omega) | exact ⟨.inr rfl, endD (r := .v (.int .i64 (lenI a.parts.length b.parts.length))) hl0 rfl (by simp) (by simp) rfl (by rw [low]; trivial) ⟨rfl, rfl⟩⟩
 have hli : (a.parts.length : Int) = (b.parts.length : Int) := by omega
 have hz : lenI a.parts.length b.parts.length = 0 := by unfold lenI; rw [if_pos hl]
 rw [ho, hz, if_neg (by simp)]
 have F : _ ∧ _ ∧ _ ∧ _ := ⟨e2, e3, e6, hli⟩
 repeat' first
  | (with_reducible refine Yf ?_; refine Y9 mixd (by kernel_rfl) ?_)
  | refine gg ?_
  | refine Two.mk (fun hq => ?_) fun hq => ?_
  | refine Evry.mk fun x hx => ?_
  | (exfalso; omega)
 all_goals try (exfalso; omega)
 refine Yh (fun m e h' => ∃ k : Nat, k ≤ a.entries.length ∧ k ≤ b.entries.length ∧ m = a.entries.length - k ∧ lexC entC a.entries b.entries = lexC entC (a.entries.drop k) (b.entries.drop k) ∧ h' = [.cells [.v (.int .i64 p), .sl 1 (a.names.map strX), .sl 4 (a.parts.map vaX), .sl 2 (a.entries.map enX)], .cells [.v (.int .i64 p), .sl 1 (b.names.map strX), .sl 4 (b.parts.map vaX), .sl 2 (b.entries.map enX)]] ∧ e 2 = .ptr 0 0 ∧ e 3 = .ptr 1 0 ∧ e 8 = .v (.int .i64 k)) a.entries.length ⟨0, Z6 _, Z6 _, rfl, rfl, rfl, e2, e3, rfl⟩ ?_
 (try clear F); clear hlt ho hka hkb hl hli hz e2 e3 e6 e
 rintro m e h' ⟨k, hka, hkb, rfl, ho, rfl, e2, e3, e8⟩
 by_cases hlt : k < a.entries.length ∧ k < b.entries.length
 · have hx : a.entries[k]? = some (a.entries[k]'hlt.1) := Z0 hlt.1
   have hy : b.entries[k]? = some (b.entries[k]'hlt.2) := Z0 hlt.2
   have hxm : (a.entries[k]'hlt.1) ∈ a.entries := Z9 _
   have hym : (b.entries[k]'hlt.2) ∈ b.entries := Z9 _
   rw [Zr8 (Z2 hlt.1) (Z2 hlt.2)] at ho
   generalize (a.entries[k]'hlt.1) = x at hx hxm ho
   generalize (b.entries[k]'hlt.2) = y at hy hym ho
   have wk : IntKind.i64.wrap ((k : Int) + 1) = ((k + 1 : Nat) : Int) := IntWalk.i64_in _ (by omega)
   have hpc := hee x hxm y hym
   generalize entC x y = c at hpc ho
   simp only [Zd0] at hpc
   by_cases hq1 : c = 0
   · rw [if_neg (by simp [hq1])] at ho
     have F : _ ∧ _ ∧ _ ∧ _ ∧ _ := ⟨e2, e3, e8, wk, hq1⟩
     repeat' first
      | (with_reducible refine Yf ?_; refine Y9 mixd (by kernel_rfl) ?_)
      | refine gg ?_
      | refine Two.mk (fun hq => ?_) fun hq => ?_
      | (with_reducible refine Xf ?_; refine aq2 rfl rfl rfl ent_97 (hpc _) ?_)
      | (exfalso; omega)
     all_goals first | (exfalso; omega) | exact ⟨rfl, a.entries.length - (k + 1), by omega, k + 1, by omega, by omega, rfl, ho, rfl, e2, e3, rfl⟩
   · rw [if_pos hq1] at ho
     have F : _ ∧ _ ∧ _ ∧ _ ∧ _ := ⟨e2, e3, e8, wk, hq1⟩
     repeat' first
      | (with_reducible refine Yf ?_; refine Y9 mixd (by kernel_rfl) ?_)
      | refine gg ?_
      | refine Two.mk (fun hq => ?_) fun hq => ?_
      | (with_reducible refine Xf ?_; refine aq2 rfl rfl rfl ent_97 (hpc _) ?_)
      | (exfalso; omega)
     all_goals first | (exfalso; omega) | exact ⟨.inr rfl, endD (r := .v (.int .i64 c)) hl0 rfl (by simp) (by simp) rfl (by rw [low]; trivial) ⟨rfl, by rw [ho]⟩⟩
 rw [Yj5 entC hka hkb (by omega)] at ho
 rw [ho]
 have F : _ ∧ _ ∧ _ := ⟨e2, e3, e8⟩
 repeat' first
  | (with_reducible refine Yf ?_; refine Y9 mixd (by kernel_rfl) ?_)
  | refine gg ?_
  | refine Two.mk (fun hq => ?_) fun hq => ?_
  | refine Evry.mk fun x hx => ?_
  | (with_reducible refine Y7 ?_; refine gc rfl rfl rfl ent_96 (lens_d G hG a.entries.length b.entries.length _) ?_)
  | (exfalso; omega)
 all_goals first | (exfalso; omega) | exact ⟨.inr rfl, endD (r := .v (.int .i64 (lenI a.entries.length b.entries.length))) hl0 rfl (by simp) (by simp) rfl (by rw [low]; trivial) ⟨rfl, rfl⟩⟩
theorem requal_va (a b : Val) (sa : VSm a) (sb : VSm b) (h : List Ob) : Does Z3 G 23 h [.agg (vaX a), .agg (vaX b)] (fun h' r => h' = h ∧ r = .v (.bool (decide (valC a b = 0)))) := by
 refine Ya G hG (by rw [lowL, lowL, lowL, low, low]; exact ⟨Ys _ a, Ys _ b, trivial⟩) (by rw [low]; trivial) ?_ h
 clear h
 have hc := rcmp_va G hG _ a b (Nat.le_refl _) sa sb
 generalize valC a b = c at *
 simp only [Y6] at hc
 refine Y5 Tryz.func23 rfl (Z1 rfl) hG fun hl0 _ => ?_
 simp only [Tryz.ntmps23]
 have F := Y6
 repeat' first
  | refine gg ?_
  | refine Two.mk (fun hq => ?_) fun hq => ?_
  | (with_reducible refine Y7 ?_; refine gc rfl rfl rfl ent_46 (hc _) ?_)
 all_goals exact ⟨.inr rfl, endV hl0 rfl rfl ⟨rfl, by first | rw [decide_eq_true hq] | rw [decide_eq_false hq] | rfl⟩⟩
end
end Go.Proofs.YtbhkcbidcfofiaaGreat
