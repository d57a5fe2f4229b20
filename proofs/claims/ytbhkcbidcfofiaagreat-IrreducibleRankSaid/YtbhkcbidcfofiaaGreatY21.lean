/-
  What the statements of the chapter share, part 21: LB3, RR0, SHS, AL, AR, AL2, LB4, WK, VA5, RT0, RR1, RR2, RR3, RR4, RR5, RR6, VA7, QC1, LR2.
-/
import Derived.Test.YtbhkcbidcfofiaaGreatY11
import Derived.Test.YtbhkcbidcfofiaaGreatY13
import Derived.Test.YtbhkcbidcfofiaaGreatY15
import Derived.Test.YtbhkcbidcfofiaaGreatY16
import Derived.Test.YtbhkcbidcfofiaaGreatY17
import Derived.Test.YtbhkcbidcfofiaaGreatY19
import Derived.Test.YtbhkcbidcfofiaaGreatY20
import Derived.Laws.CopyRow
set_option linter.unusedVariables false
set_option linter.unusedSimpArgs false
set_option maxRecDepth 100000
set_option maxHeartbeats 8000000
namespace Go.Proofs.YtbhkcbidcfofiaaGreat
open _root_.Bool renaming not_false → Z4, and_eq_true → Za, not_true → Zb, false_eq_true → Zi, true_and → Zn
open _root_.Int renaming reduceEq → Z7, reduceLE → Z8, reduceLT → Z9, toNat_natCast → Zf
open _root_.List renaming getElem?_eq_getElem → Zd, length_map → Ze, cons_append → Zg, length_cons → Zh, drop_eq_nil_of_le → Zj, length_nil → Zk, nil_append → Zl, getElem?_append_right → Zm, getElem_mem → Zp, length_append → Zq, append_assoc → Zr, replicate → Zs
open _root_.Nat renaming reduceEqDiff → Z0, reduceLeDiff → Z1, reduceAdd → Z2, le_of_ble_eq_true → Z3, reduceBEq → Z5, reduceMul → Z6, zero_le → Zo
open _root_.Go.Proofs.Tryz renaming prog → Zc
open Go.RowKit
section
attribute [local irreducible] on aOp
attribute [local go_sem] decide_true decide_false Zb Z4
attribute [local simp] byD_len
variable (G : Nat → D) (hG : ∀ g, low 0 (G g))
include hG
attribute [local go_sem] Zi Z7 Z8 Z9 Zf Ze Z2 Z5 Z0 Z1 Z6 gM_0 gM_app gM_l gM_len gM_sl Zg3 U9
attribute [local go_sem ↓] reduceIte
theorem spelling_d (l : Lat) (hsm : Sm l) (h : List Ob) : Does Zc G 205 h [.agg (latX l)] (fun h' r => h' = h ∧ r = .v (.int .i64 (U8 (Zd5 l) 3))) := by
 refine Ya G hG (Wf _ l) (by rw [low]; trivial) ?_ h
 clear h
 have hnl := hsm.names
 have hrl := hsm.rules
 have htx := hsm.texts
 have hcd := hsm.conds
 have hso := Zv4 G hG l.names hnl
 obtain ⟨six, hsix⟩ : ∃ b : Bool, (l.kind == 6) = b := ⟨_, rfl⟩
 have hkd : decide (l.kind = 6) = six := by rw [← hsix]; rfl
 unfold Zd5
 rw [hsix]
 refine Y5 Tryz.func205 rfl (Z3 rfl) hG fun hl0 _ => ?_
 simp only [Tryz.ntmps205]
 have F := Y4 l
 repeat' first
  | refine g0 ?_
  | fail
 refine Yh (fun m e h' => ∃ k : Nat, k ≤ l.names.length ∧ m = l.names.length - k ∧ nmGo six l.names 0 l.names = nmGo six l.names k (l.names.drop k) ∧ h' = [.cells (latX l)] ∧ e 1 = .ptr 0 0 ∧ e 8 = .sl 1 (l.names.map strX) ∧ e 9 = .v (.int .i64 l.names.length) ∧ e 10 = .v (.int .i64 k)) l.names.length ⟨0, Zo _, rfl, rfl, (by rw [Y4 l]), rfl, rfl, rfl, rfl⟩ ?_
 rintro m e h' ⟨k, hk, rfl, ho, rfl, e1, e8, e9, e10⟩
 by_cases hlt : k < l.names.length
 · have hx : l.names[k]? = some l.names[k] := Zd hlt
   have wk : IntKind.i64.wrap ((k : Int) + 1) = (k : Int) + 1 := IntWalk.i64_in _ (by omega)
   rw [nmGo_step six l.names k hlt] at ho
   have hn := Zj5 G hG l.names[k] (htx _ (Zp hlt))
   generalize l.names[k] = x at hx hn ho
   have hin := contS_d G hG (l.names.take k) x (by rw [List.length_take]; omega)
   have hin2 : ∀ (b : Bool), hasS (l.names.take k) x = b → ∀ h, Does Zc G 101 h [.sl 1 (List.drop (Int.toNat 0) (List.take (Int.toNat (k : Int)) (l.names.map strX))), .v (.string x)] (fun h' r => h' = h ∧ r = .v (.bool b)) := fun b hb h => by
    have := hin h
    rw [hb, List.map_take] at this
    exact this
   clear hin
   cases hnb : Xz x <;> rw [hnb] at hn ho
   · have e0 : (nmGo six l.names 0 l.names) = false := by rw [ho]; rfl
     rw [e0]
     have F : _ ∧ _ ∧ _ ∧ _ ∧ _ ∧ _ := ⟨Y4 l, e1, e8, e9, e10, wk⟩
     repeat' first
      | refine gg ?_
      | refine Two.mk (fun hq => ?_) fun hq => ?_
      | (with_reducible refine Y7 ?_; refine gc rfl rfl rfl Ub (hn _) ?_)
      | (exfalso; omega)
     exact ⟨.inr rfl, endD (r := .v (.int .i64 3)) hl0 rfl (by simp) (by simp) rfl (by rw [low]; trivial) ⟨rfl, rfl⟩⟩
   · cases six
     · rw [Bool.false_and, Z4] at ho
       have F : _ ∧ _ ∧ _ ∧ _ ∧ _ ∧ _ ∧ _ := ⟨Y4 l, e1, e8, e9, e10, hkd, wk⟩
       repeat' first
        | refine gg ?_
        | refine Two.mk (fun hq => ?_) fun hq => ?_
        | (with_reducible refine Y7 ?_; refine gc rfl rfl rfl Ub (hn _) ?_)
        | (exfalso; omega)
       exact ⟨rfl, l.names.length - (k + 1), by omega, k + 1, hlt, rfl, by rw [ho]; rfl, by rw [Y4 l], e1, e8, e9, rfl⟩
     · cases hib : hasS (l.names.take k) x <;> rw [hib] at ho
       · skip
         have F : _ ∧ _ ∧ _ ∧ _ ∧ _ ∧ _ ∧ _ := ⟨Y4 l, e1, e8, e9, e10, hkd, wk⟩
         repeat' first
          | refine gg ?_
          | refine Two.mk (fun hq => ?_) fun hq => ?_
          | (with_reducible refine Y7 ?_; first | refine gc rfl rfl rfl Ub (hn _) ?_ | refine gc rfl rfl rfl ent_101 (hin2 _ hib _) ?_)
          | (exfalso; omega)
         exact ⟨rfl, l.names.length - (k + 1), by omega, k + 1, hlt, rfl, by rw [ho]; rfl, by rw [Y4 l], e1, e8, e9, rfl⟩
       · have e0 : (nmGo true l.names 0 l.names) = false := by rw [ho]; rfl
         rw [e0]
         have F : _ ∧ _ ∧ _ ∧ _ ∧ _ ∧ _ ∧ _ := ⟨Y4 l, e1, e8, e9, e10, hkd, wk⟩
         repeat' first
          | refine gg ?_
          | refine Two.mk (fun hq => ?_) fun hq => ?_
          | (with_reducible refine Y7 ?_; first | refine gc rfl rfl rfl Ub (hn _) ?_ | refine gc rfl rfl rfl ent_101 (hin2 _ hib _) ?_)
          | (exfalso; omega)
         exact ⟨.inr rfl, endD (r := .v (.int .i64 3)) hl0 rfl (by simp) (by simp) rfl (by rw [low]; trivial) ⟨rfl, rfl⟩⟩
 have e0 : (nmGo six l.names 0 l.names) = true := by rw [ho, Zj (by omega)]; rfl
 rw [e0, Zn]
 clear ho e0
 by_cases hbad : six = false ∧ Xk l.names = false
 · obtain ⟨rfl, hsb⟩ := hbad
   rw [hsb] at hso ⊢
   have F : _ ∧ _ ∧ _ ∧ _ ∧ _ ∧ _ := ⟨Y4 l, e1, e8, e9, e10, hkd⟩
   repeat' first
    | refine gg ?_
    | refine Two.mk (fun hq => ?_) fun hq => ?_
    | refine Evry.mk fun x hx => ?_
    | (with_reducible refine Y7 ?_; refine gc rfl rfl rfl Ze9 (hso _) ?_)
    | (exfalso; omega)
   exact ⟨.inr rfl, endD (r := .v (.int .i64 3)) hl0 rfl (by simp) (by simp) rfl (by rw [low]; trivial) ⟨rfl, rfl⟩⟩
 have e0 : (six || Xk l.names) = true := by
  cases six
  · cases hsb : Xk l.names
    · exact absurd ⟨rfl, hsb⟩ hbad
    · rfl
  · rfl
 rw [e0, Zn]
 have hso2 : six = false → ∀ h, Does Zc G 216 h [.sl 1 (l.names.map strX)] (fun h' r => h' = h ∧ r = .v (.bool true)) := fun q h => by
  subst q
  have := hso h
  rw [Bool.false_or] at e0
  rwa [e0] at this
 have step : ∃ u : Unit, True := ⟨(), trivial⟩
 clear step hso e0
 cases six
 all_goals
  skip
  have F : _ ∧ _ ∧ _ ∧ _ ∧ _ ∧ _ := ⟨Y4 l, e1, e8, e9, e10, hkd⟩
  repeat' first
   | refine gg ?_
   | refine Two.mk (fun hq => ?_) fun hq => ?_
   | refine Evry.mk fun x hx => ?_
   | (with_reducible refine Y7 ?_; refine gc rfl rfl rfl Ze9 (hso2 rfl _) ?_)
   | (exfalso; omega)
  refine Yh (fun m e h' => ∃ (k : Nat) (T : List Ob), k ≤ l.rules.length ∧ m = l.rules.length - k ∧ J6 l.names l.rules = J6 l.names (l.rules.drop k) ∧ h' = gM (.cells (latX l)) T ∧ e 1 = .ptr 0 0 ∧ e 42 = .sl 2 (l.rules.map Zp4) ∧ e 43 = .v (.int .i64 l.rules.length) ∧ e 44 = .v (.int .i64 k)) l.rules.length ⟨0, [], Zo _, rfl, rfl, (by rw [Y4 l]; rfl), e1, rfl, rfl, rfl⟩ ?_
  clear e1 e8 e9 e10
  rintro m e h' ⟨k, T, hk, rfl, ho, rfl, e1, e42, e43, e44⟩
  by_cases hlt : k < l.rules.length
  rotate_left
  · have e0 : J6 l.names l.rules = true := by rw [ho, Zj (by omega)]; rfl
    rw [e0]
    have F : _ ∧ _ ∧ _ ∧ _ ∧ _ := ⟨Y4 l, e1, e42, e43, e44⟩
    repeat' first
     | refine gg ?_
     | refine Two.mk (fun hq => ?_) fun hq => ?_
     | refine Evry.mk fun x hx => ?_
     | (exfalso; omega)
    exact ⟨.inr rfl, endD (r := .v (.int .i64 0)) hl0 rfl (by simp) (by simp) rfl (by rw [low]; trivial) ⟨rfl, rfl⟩⟩
  have hx : l.rules[k]? = some l.rules[k] := Zd hlt
  have wk : IntKind.i64.wrap ((k : Int) + 1) = (k : Int) + 1 := IntWalk.i64_in _ (by omega)
  rw [rulesB_step _ _ k hlt] at ho
  obtain ⟨hcl, hcs⟩ := hcd _ (Zp hlt)
  generalize l.rules[k] = x at hx ho hcl hcs
  have hsx := Zv4 G hG x.cond hcl
  have hsu := subsetS_d G hG x.cond l.names hcl hnl
  have hha := hasS_d G hG l.names x.concl hnl
  have er : Yh1 l.names x = (decide (x.cond.length ≠ 0) && Xk x.cond && X8 x.cond l.names && hasS l.names x.concl) := rfl
  by_cases hz : x.cond.length = 0
  · have e0 : J6 l.names l.rules = false := by rw [ho, er, decide_eq_false (by omega)]; rfl
    rw [e0]
    have F : _ ∧ _ ∧ _ ∧ _ ∧ _ ∧ _ ∧ _ := ⟨Y4 l, e1, e42, e43, e44, wk, hz⟩
    repeat' first
     | refine gg ?_
     | refine Two.mk (fun hq => ?_) fun hq => ?_
     | (exfalso; omega)
    all_goals first | (exfalso; omega) | exact ⟨.inr rfl, endD (r := .v (.int .i64 3)) hl0 rfl (by simp) (by simp) rfl (by rw [low]; trivial) ⟨rfl, rfl⟩⟩
  rw [decide_eq_true (by omega), Zn] at er
  cases hb1 : Xk x.cond <;> rw [hb1] at hsx er
  · have e0 : J6 l.names l.rules = false := by rw [ho, er]; rfl
    rw [e0]
    have F : _ ∧ _ ∧ _ ∧ _ ∧ _ ∧ _ := ⟨Y4 l, e1, e42, e43, e44, wk⟩
    repeat' first
     | refine gg ?_
     | refine Two.mk (fun hq => ?_) fun hq => ?_
     | (with_reducible refine Y7 ?_; refine gc rfl rfl rfl Ze9 (hsx _) ?_)
     | (exfalso; omega)
    all_goals first | (exfalso; omega) | exact ⟨.inr rfl, endD (r := .v (.int .i64 3)) hl0 rfl (by simp) (by simp) rfl (by rw [low]; trivial) ⟨rfl, rfl⟩⟩
  cases hb2 : X8 x.cond l.names <;> rw [hb2] at hsu er
  · have e0 : J6 l.names l.rules = false := by rw [ho, er]; rfl
    rw [e0]
    have F : _ ∧ _ ∧ _ ∧ _ ∧ _ ∧ _ := ⟨Y4 l, e1, e42, e43, e44, wk⟩
    repeat' first
     | refine gg ?_
     | refine Two.mk (fun hq => ?_) fun hq => ?_
     | (with_reducible refine Y7 ?_; first | refine gc rfl rfl rfl Ze9 (hsx _) ?_ | refine gc rfl rfl rfl Zq7 (hsu _) ?_)
     | (exfalso; omega)
    all_goals first | (exfalso; omega) | exact ⟨.inr rfl, endD (r := .v (.int .i64 3)) hl0 rfl (by simp) (by simp) rfl (by rw [low]; trivial) ⟨rfl, rfl⟩⟩
  cases hb3 : hasS l.names x.concl <;> rw [hb3] at hha er
  · have e0 : J6 l.names l.rules = false := by rw [ho, er]; rfl
    rw [e0]
    have F : _ ∧ _ ∧ _ ∧ _ ∧ _ ∧ _ := ⟨Y4 l, e1, e42, e43, e44, wk⟩
    repeat' first
     | refine gg ?_
     | refine Two.mk (fun hq => ?_) fun hq => ?_
     | (with_reducible refine Y7 ?_; first | refine gc rfl rfl rfl Ze9 (hsx _) ?_ | refine gc rfl rfl rfl Zq7 (hsu _) ?_ | refine gc rfl rfl rfl Zf1 (hha _) ?_)
     | (exfalso; omega)
    all_goals first | (exfalso; omega) | exact ⟨.inr rfl, endD (r := .v (.int .i64 3)) hl0 rfl (by simp) (by simp) rfl (by rw [low]; trivial) ⟨rfl, rfl⟩⟩
  · rw [er, Zn, Zn, Zn] at ho
    have F : _ ∧ _ ∧ _ ∧ _ ∧ _ ∧ _ := ⟨Y4 l, e1, e42, e43, e44, wk⟩
    repeat' first
     | refine gg ?_
     | refine Two.mk (fun hq => ?_) fun hq => ?_
     | (with_reducible refine Y7 ?_; first | refine gc rfl rfl rfl Ze9 (hsx _) ?_ | refine gc rfl rfl rfl Zq7 (hsu _) ?_ | refine gc rfl rfl rfl Zf1 (hha _) ?_)
     | (exfalso; omega)
    all_goals first | (exfalso; omega) | exact ⟨rfl, l.rules.length - (k + 1), by omega, k + 1, _, hlt, rfl, ho, by rw [Y4 l], e1, e42, e43, rfl⟩
end
section
def Zm3 (s : RS) : Ob := .cells [.sl 1 (byD s.data), .v (.int .i64 s.pos), .v (.int .i64 s.item), .v (.int .i64 s.err)]
theorem rdrOb_eq (s : RS) : Zm3 s = .cells [.sl 1 (byD s.data), .v (.int .i64 s.pos), .v (.int .i64 s.item), .v (.int .i64 s.err)] := rfl
theorem low_rdr (m : Nat) (s : RS) : lowOb m (Zm3 s) := ⟨low_by m _, by simp [lowL, low]⟩
def rawJ (p i acc : Nat) : List UInt8 → D
 | [] => .tup [.v (.int .u64 (0 : Int)), .v (.int .i64 (0 : Int)), .v (.bool false)]
 | b :: t => if 10 ≤ i then .tup [.v (.int .u64 (0 : Int)), .v (.int .i64 (0 : Int)), .v (.bool false)]
   else if i = 9 ∧ 1 < b.toNat then .tup [.v (.int .u64 (0 : Int)), .v (.int .i64 (0 : Int)), .v (.bool false)]
   else if b.toNat < 128 then .tup [.v (.int .u64 ((acc + b.toNat % 128 * 2 ^ (7 * i) : Nat) : Int)), .v (.int .i64 ((p + i + 1 : Nat) : Int)), .v (.bool (decide (b.toNat ≠ 0 ∨ i = 0)))]
   else rawJ p (i + 1) (acc + b.toNat % 128 * 2 ^ (7 * i)) t
def RS.rawN (s : RS) : D := rawJ s.pos 0 0 (s.data.drop s.pos)
end
section
def w32 (z : Int) : Int := IntKind.u32.wrap z
def Zc6 (a b : Int) : Int := IntKind.u32.wrap (a + b)
def Zu5 (a b : Int) : Int := IntKind.u32.wrap ((BitVec.ofInt 32 a ^^^ BitVec.ofInt 32 b).toNat : Int)
def and32 (a b : Int) : Int := IntKind.u32.wrap ((BitVec.ofInt 32 a &&& BitVec.ofInt 32 b).toNat : Int)
def or32 (a b : Int) : Int := IntKind.u32.wrap ((BitVec.ofInt 32 a ||| BitVec.ofInt 32 b).toNat : Int)
def not32 (a : Int) : Int := IntKind.u32.wrap ((BitVec.ofInt 32 4294967295 ^^^ BitVec.ofInt 32 a).toNat : Int)
def shr32 (a : Int) (n : Nat) : Int := a.fdiv (2 ^ n)
def shl32 (a : Int) (n : Nat) : Int := IntKind.u32.wrap (a * 2 ^ n)
def Yb8 (x : Int) (n : Nat) : Int := or32 (x.fdiv (2 ^ min n 32)) (IntKind.u32.wrap (x * 2 ^ min (32 - n) 32))
def zD (z : Int) : D := .v (.int .u32 z)
def be4 (a b c d : UInt8) : Int := or32 (or32 (or32 (shl32 (w32 a.toNat) 24) (shl32 (w32 b.toNat) 16)) (shl32 (w32 c.toNat) 8)) (w32 d.toNat)
def sgZ (x15 x2 x7 x16 : Int) : Int :=
 Zc6 (Zc6 (Zc6 (Zu5 (Zu5 (Yb8 x2 17) (Yb8 x2 19)) (shr32 x2 10)) x7) (Zu5 (Zu5 (Yb8 x15 7) (Yb8 x15 18)) (shr32 x15 3))) x16
structure W8 where
 a : Int
 b : Int
 c : Int
 d : Int
 e : Int
 f : Int
 g : Int
 h : Int
def W8.ls (x : W8) : List Int := [x.a, x.b, x.c, x.d, x.e, x.f, x.g, x.h]
def W8.add (x y : W8) : W8 := ⟨Zc6 x.a y.a, Zc6 x.b y.b, Zc6 x.c y.c, Zc6 x.d y.d, Zc6 x.e y.e, Zc6 x.f y.f, Zc6 x.g y.g, Zc6 x.h y.h⟩
def t1Z (u : W8) (k w : Int) : Int := Zc6 (Zc6 (Zc6 (Zc6 u.h (Zu5 (Zu5 (Yb8 u.e 6) (Yb8 u.e 11)) (Yb8 u.e 25))) (Zu5 (and32 u.e u.f) (and32 (not32 u.e) u.g))) k) w
def s0Z (u : W8) : Int := Zu5 (Zu5 (Yb8 u.a 2) (Yb8 u.a 13)) (Yb8 u.a 22)
def majZ (u : W8) : Int := Zu5 (Zu5 (and32 u.a u.b) (and32 u.a u.c)) (and32 u.b u.c)
def rndZ (k w : Int) (u : W8) : W8 := ⟨Zc6 (t1Z u k w) (Zc6 (s0Z u) (majZ u)), u.a, u.b, u.c, Zc6 u.d (t1Z u k w), u.e, u.f, u.g⟩
def sch1 (b : List UInt8) : Nat → List Int → List Int
 | 0, W => W
 | n + 1, W => sch1 b n (W.set (15 - n) (be4 (b.getD (4 * (15 - n)) 0) (b.getD (4 * (15 - n) + 1) 0) (b.getD (4 * (15 - n) + 2) 0) (b.getD (4 * (15 - n) + 3) 0)))
def sch2 : Nat → List Int → List Int
 | 0, W => W
 | n + 1, W => sch2 n (W.set (63 - n) (sgZ (W.getD (63 - n - 15) 0) (W.getD (63 - n - 2) 0) (W.getD (63 - n - 7) 0) (W.getD (63 - n - 16) 0)))
def rndsZ (K W : List Int) : Nat → W8 → W8
 | 0, u => u
 | n + 1, u => rndsZ K W n (rndZ (K.getD (63 - n) 0) (W.getD (63 - n) 0) u)
def shaK : List Int := [0x428a2f98, 0x71374491, 0xb5c0fbcf, 0xe9b5dba5, 0x3956c25b, 0x59f111f1, 0x923f82a4, 0xab1c5ed5,
 0xd807aa98, 0x12835b01, 0x243185be, 0x550c7dc3, 0x72be5d74, 0x80deb1fe, 0x9bdc06a7, 0xc19bf174,
 0xe49b69c1, 0xefbe4786, 0x0fc19dc6, 0x240ca1cc, 0x2de92c6f, 0x4a7484aa, 0x5cb0a9dc, 0x76f988da,
 0x983e5152, 0xa831c66d, 0xb00327c8, 0xbf597fc7, 0xc6e00bf3, 0xd5a79147, 0x06ca6351, 0x14292967,
 0x27b70a85, 0x2e1b2138, 0x4d2c6dfc, 0x53380d13, 0x650a7354, 0x766a0abb, 0x81c2c92e, 0x92722c85,
 0xa2bfe8a1, 0xa81a664b, 0xc24b8b70, 0xc76c51a3, 0xd192e819, 0xd6990624, 0xf40e3585, 0x106aa070,
 0x19a4c116, 0x1e376c08, 0x2748774c, 0x34b0bcb5, 0x391c0cb3, 0x4ed8aa4a, 0x5b9cca4f, 0x682e6ff3,
 0x748f82ee, 0x78a5636f, 0x84c87814, 0x8cc70208, 0x90befffa, 0xa4506ceb, 0xbef9a3f7, 0xc67178f2]
def shaIV : W8 := ⟨0x6a09e667, 0xbb67ae85, 0x3c6ef372, 0xa54ff53a, 0x510e527f, 0x9b05688c, 0x1f83d9ab, 0x5be0cd19⟩
def schZ (b : List UInt8) : List Int := sch2 48 (sch1 b 16 (Zs 64 0))
def blkZ (v : W8) (b : List UInt8) : W8 := (rndsZ shaK (schZ b) 64 v).add v
def blksZ (v : W8) (l : List UInt8) : W8 := if l.length < 64 then v else blksZ (blkZ v (l.take 64)) (l.drop 64)
termination_by l.length
decreasing_by simp; omega
def zc (m : Nat) : Nat := (119 - m % 64) % 64
def be8 (n : Nat) : List UInt8 := (List.range 8).map fun j => UInt8.ofNat (n / 2 ^ (56 - 8 * j))
def padZ (b : List UInt8) (n : Nat) : List UInt8 := b ++ [128] ++ Zs (zc b.length) 0 ++ be8 (8 * n)
def byZ (z : Int) : UInt8 := UInt8.ofNat (IntKind.u8.wrap z).toNat
def outW (z : Int) : List UInt8 := [byZ (z.fdiv (2 ^ 24)), byZ (z.fdiv (2 ^ 16)), byZ (z.fdiv (2 ^ 8)), byZ z]
def outZ (v : W8) : List UInt8 := (v.ls.map outW).flatten
def sumZ (b : List UInt8) : List UInt8 := outZ (blksZ shaIV (padZ b b.length))
def restZ (b : List UInt8) : List UInt8 := b.drop (64 * (b.length / 64))
/-! Keyed digests. -/
def keyZ (k : List UInt8) : List UInt8 := let k' := if 64 < k.length then sumZ k else k
 k' ++ Zs (64 - k'.length) 0
def xorB (x : UInt8) (k : List UInt8) : List UInt8 := k.map (· ^^^ x)
def tagZ (k m : List UInt8) : List UInt8 := sumZ (xorB 0x5c (keyZ k) ++ sumZ (xorB 0x36 (keyZ k) ++ m))
attribute [irreducible] schZ rndsZ blkZ sumZ tagZ
end
section
theorem aOp_larr {P : Program} {G : Nat → D} {e : Nat → D} {h : List Ob} {K : List Ob → D → Prop} {u : TypeId} {x : Operand} {i o : Nat} {ds : List D} {d : D} (hx : ev G e x = .ptr i o) (hi : h[i]? = some (.cells ds)) (hg : getD P u ds o = some d) (q : K h d) : aOp P G e h K (.load u x) := by
 rw [aOp_load, hx]
 simp only [Ug, hi, hg]
 rw [on_some]; exact q
def addJ (V : List Int) : Nat → List Int → List Int
 | 0, U => U
 | n + 1, U => addJ V n (U.set (7 - n) (Zc6 (U.getD (7 - n) 0) (V.getD (7 - n) 0)))
end
section
section
variable {P : Program} {G : Nat → D} {e : Nat → D} {h : List Ob}
theorem cvL {hd : List Value} {w w' : World} {p p' : Nat → Bool} {h h' : List Ob} {g : D → D} (c : ∀ d u, rd hd h (only p w) d u → rd hd h' (only p' w') (g d) u) {ds : List D} {us : List Value} (q : rdL hd h (only p w) ds us) : rdL hd h' (only p' w') (ds.map g) us := by
 obtain ⟨h1, h2⟩ := (Yx _ _).1 q
 refine (Yx _ _).2 ⟨by simpa using h1, fun j d hd' => ?_⟩
 rw [List.getElem?_map, Option.map_eq_some_iff] at hd'
 obtain ⟨d0, hd0, rfl⟩ := hd'
 obtain ⟨u, hu, hr⟩ := h2 j d0 hd0
 exact ⟨u, hu, c _ _ hr⟩
end
end
section
def stL (v : W8) (r : D) (n : Nat) : List D := v.ls.map zD ++ [r, .v (.int .i64 n)]
section
variable {P : Program} {G : Nat → D} {e : Nat → D} {h : List Ob} {K : List Ob → D → Prop} {u : TypeId} {x y : Operand} {i n m : Nat} {v v' : W8} {r r' : D}
end
section
variable {P : Program} {G : Nat → D} {n : Nat} {e : Nat → D} {h : List Ob} {ops : Array Oper} {rest : List Oper} {Q : S → Prop} {t : Nat} {ty : TypeId} {pos : String} {aft : Array Edge} {gd : Option (Nat × Bool)}
end
theorem endX {P : Program} {res : Array ResultVar} {m0 : Nat} {K : List Ob → D → Prop} {s : S} (ds : List D) (M T : List Ob) (r : D) (h1 : resD P s res.toList = some ds) (h2 : s.h = M ++ T) (h0 : m0 ≤ M.length) (lM : lowH M.length M) (lr : low M.length r) (hr : cvD (fun i => decide (M.length ≤ i)) (M ++ T) (outD ds) = r) (hK : K M r) : EndD P res m0 K s := by
 have e : s.h.take M.length = M := by rw [h2]; simp
 refine ⟨ds, M.length, h1, h0, by rw [h2]; simp, by rw [e]; exact lM, by rw [h2, hr]; exact lr, by rw [e, h2, hr]; exact hK⟩
def sM (A B x : Ob) (T : List Ob) : List Ob := A :: B :: x :: T
section
variable {A B x y : Ob} {T l : List Ob}
end
theorem Yb0 {P : Program} {G : Nat → D} {n : Nat} {e : Nat → D} {h : List Ob} {ops : Array Oper} {rest : List Oper} {Q : S → Prop} {t : Nat} {ty : TypeId} {pos : String} {aft : Array Edge} {gd : Option (Nat × Bool)} {u : TypeId} {x : Operand} {i j o : Nat} {ds : List D} {d d' : D} (hw : Yc ops gd e = some true) (ht : decide (t < n) = true) (hx : ev G e x = .ptr i o) (hi : h[i]? = some (.cells ds)) (hg : getD P u ds o = some d) (hc : cvD (fun y => y == j) h d = d')
 (q : ao P G ops rest Q ⟨n, upd e t d', h.set j .dead⟩) : ao P G ops (⟨some t, .load u x, ty, pos, aft, gd⟩ :: rest) Q ⟨n, e, h⟩ := by
 refine ao1 hw ht fun K HK => ?_
 refine aOp_larr hx hi hg ?_
 refine HK _ _ ?_
 refine ao_give j t ?_
 have e1 : upd (upd e t d) t (cvD (fun i => i == j) h (upd e t d t)) = upd e t d' := by
  funext k
  unfold upd
  by_cases hk : k = t
  · simp [hk, hc]
  · simp [hk]
 rw [e1]; exact q
end
section
attribute [local irreducible] on aOp
attribute [local go_sem] decide_true decide_false Zb Z4
attribute [local simp] byD_len
def ctr (n : Nat) : Ob := .cells [.v (.int .i64 n)]
def cM (h : List Ob) (i n : Nat) (T : List Ob) : List Ob := h.set i (ctr n) ++ T
section
variable {h T l : List Ob} {i n m : Nat} {y z y' : Ob}
theorem cM_0 (hi : i < h.length) : (cM h i n T)[i]? = some (.cells [.v (.int .i64 n)]) := by
 unfold cM; rw [List.getElem?_append_left (by simpa using hi), List.getElem?_set_self hi]; rfl
theorem cM_s (hi : i < h.length) : (cM h i n T).set i (.cells [.v (.int .i64 ((m : Nat) : Int))]) = cM h i m T := by
 unfold cM; rw [List.set_append_left _ _ (by simpa using hi), List.set_set]; rfl
theorem cM_s' (hi : i < h.length) : (cM h i n T).set i (ctr m) = cM h i m T := cM_s hi
theorem cM_len : (cM h i n T).length = h.length + T.length := by unfold cM; simp
theorem cM_app : cM h i n T ++ l = cM h i n (T ++ l) := by unfold cM; rw [Zr]
theorem cM_b : (cM h i n (y :: T))[h.length]? = some y := by unfold cM; rw [Zm (by simp)]; simp
theorem cM_b1 : (cM h i n (y :: z :: T))[h.length + 1]? = some z := by unfold cM; rw [Zm (by simp)]; simp
theorem cM_b1s : (cM h i n (y :: z :: T)).set (h.length + 1) y' = cM h i n (y :: y' :: T) := by unfold cM; rw [List.set_append_right _ _ (by simp)]; simp
theorem cM_ext (hi : i < h.length) : cM (h ++ T) i n [] = cM h i n T := by unfold cM; rw [List.set_append_left _ _ hi, List.append_nil]
theorem cM_l : (cM h i n (y :: (T ++ [z])))[h.length + (T.length + 1)]? = some z := by unfold cM; rw [Zm (by simp)]; simp
theorem cM_sl : (cM h i n (y :: (T ++ [z]))).set (h.length + (T.length + 1)) y' = cM h i n (y :: (T ++ [y'])) := by unfold cM; rw [List.set_append_right _ _ (by simp)]; simp
end
theorem endC {P : Program} {res : Array ResultVar} {h T : List Ob} {i n m : Nat} {K : List Ob → D → Prop} {s : S} {x : Value} (hi : i < h.length) (hl : lowH (cM h i n []).length (cM h i n [])) (h1 : resD P s res.toList = some [.v x]) (h2 : s.h = cM h i m T) (hK : K (cM h i m []) (.v x)) : EndD P res (cM h i n []).length K s := by
 have e : cM h i m [] = (cM h i n []).set i (ctr m) := (cM_s' hi).symm
 have hlen : (cM h i m []).length = (cM h i n []).length := by rw [cM_len, cM_len]
 refine endX [.v x] (cM h i m []) T (.v x) h1 (by rw [h2, cM_app]; rfl) (by rw [hlen]; exact Nat.le_refl _) ?_ (by rw [low]; trivial) rfl hK
 rw [hlen, e]
 exact lowH_set hl (by simp [ctr, lowOb, lowL, low])
theorem whenI_f (e : Int) : U8 false e = 0 := rfl
theorem whenI_t (e : Int) : U8 true e = e := rfl
theorem visit_succ (f : Nat) (l : Lat) (n : Nat) : Yt (f + 1) l n = if 64 ≤ n then (6, n) else if W4 l then (1, n + 1) else if latE l ≠ 0 then (latE l, n + 1) else goL (Yt f) l.parts (n + 1) := rfl
theorem latE_eq (l : Lat) : latE l = orI [U8 (Jj l) 6, U8 (Zd5 l) 3, U8 (Zd9 l) 5, U8 (Wp l) 4] := rfl
variable (G : Nat → D) (hG : ∀ g, low 0 (G g))
include hG
attribute [local go_sem] Z7 Z8 Z9 Zf Zg Zh Ze Zk Zl Nat.add_zero Z2 Z5 Z0 Z1 Z6 cM_app cM_b cM_b1 cM_b1s cM_l cM_len cM_sl
attribute [local go_sem ↓] reduceIte
theorem orE4_b (l : List Int) (hl : l.length ≤ 1000) (h : List Ob) (i : Nat) (hi : h[i]? = some (.buf 33 1 (l.map intX))) : Does Zc G 203 h [.buf i l.length] (fun h' r => h' = h ∧ r = .v (.int .i64 (orI l))) := by
 refine Y5 Tryz.func203 rfl (Z3 rfl) hG fun hl0 _ => ?_
 simp only [Tryz.ntmps203]
 repeat' first
  | (with_reducible first | refine sA rfl ?_ | refine sT rfl ?_)
  | (with_reducible refine Y7 ?_; first | refine Xi ?_ | (refine ao1 rfl rfl fun K HK => ?_; simp only [go_sem, hi] <;> (refine HK _ _ ?_; clear HK K)))
 refine Yh (fun m e h' => ∃ k : Nat, k ≤ l.length ∧ m = l.length - k ∧ orI l = orI (l.drop k) ∧ h' = h ∧ e 3 = .v (.int .i64 0) ∧ e 6 = .buf i l.length ∧ e 7 = .v (.int .i64 l.length) ∧ e 8 = .v (.int .i64 k)) l.length ⟨0, Zo _, rfl, rfl, rfl, rfl, rfl, rfl, rfl⟩ ?_
 rintro m e h' ⟨k, hk, rfl, ho, rfl, e3, e6, e7, e8⟩
 by_cases hlt : k < l.length
 · have hx : l[k]? = some l[k] := Zd hlt
   have hd : l.drop k = l[k] :: l.drop (k + 1) := List.drop_eq_getElem_cons hlt
   generalize l[k] = x at hx hd
   have wk : IntKind.i64.wrap ((k : Int) + 1) = (k : Int) + 1 := IntWalk.i64_in _ (by omega)
   rw [hd, orI] at ho
   have hrow : (l.map intX)[k]? = some [.v (.int .i64 x)] := by rw [List.getElem?_map, hx]; rfl
   repeat' first
    | (with_reducible first | refine sA rfl ?_ | refine sI rfl rfl ?_ | refine sT rfl ?_ | refine sB rfl ?_)
    | (with_reducible refine Y7 ?_; first | (refine ao1 rfl rfl fun K HK => ?_; simp only [go_sem, e6, e8]; refine ⟨_, _, _, hi, by simp, by simp only [go_sem], by omega, by omega, ?_⟩; refine HK _ _ ?_; clear HK K) | refine Xi ?_ | (refine ao1 rfl rfl fun K HK => ?_; simp only [go_sem, hi, loadD_bp hi (Ze _) hrow, e3, e6, e7, e8, intX_eq, wk]; (first | refine X1 (fun hq => ?_) (fun hq => ?_) | refine Zh4 (fun hq => ?_) (fun hq => ?_) | skip) <;> (refine HK _ _ ?_; clear HK K)))
    | (exfalso; omega)
   · exact ⟨rfl, l.length - (k + 1), by omega, k + 1, hlt, rfl, by rw [ho, if_pos hq], rfl, e3, e6, e7, rfl⟩
   · exact ⟨by simp, endV hl0 rfl rfl ⟨rfl, by rw [ho, if_neg hq]⟩⟩
 · skip
   repeat' first
    | (with_reducible first | refine sA rfl ?_ | refine sI rfl rfl ?_ | refine sT rfl ?_ | refine sB rfl ?_)
    | (with_reducible refine Y7 ?_; first | refine Xi ?_ | (refine ao1 rfl rfl fun K HK => ?_; simp only [go_sem, hi, e3, e6, e7, e8]; (first | refine X1 (fun hq => ?_) (fun hq => ?_) | skip) <;> (refine HK _ _ ?_; clear HK K)))
    | (exfalso; omega)
   exact ⟨by simp, endV hl0 rfl rfl ⟨rfl, by rw [ho, Zj (by omega)]; rfl⟩⟩
theorem orE4_s (a b c d : Int) (o : Int) (ho : orI [a, b, c, d] = o) (h : List Ob) (i : Nat) (hi : h[i]? = some (.buf 33 1 [[.v (.int .i64 a)], [.v (.int .i64 b)], [.v (.int .i64 c)], [.v (.int .i64 d)]])) : Does Zc G 203 h [.buf i 4] (fun h' r => h' = h.set i (.buf 33 1 [[.v (.int .i64 a)], [.v (.int .i64 b)], [.v (.int .i64 c)], [.v (.int .i64 d)]]) ∧ r = .v (.int .i64 o)) := by
 rw [set_same hi, ← ho]; exact orE4_b G hG [a, b, c, d] (by simp) h i hi
theorem visit_c : ∀ (f : Nat) (l : Lat) (n : Nat) (d : Int), f ≤ 6 → d = 7 - f → Sm l → n ≤ 64 → ∀ (h : List Ob) (i : Nat), i < h.length → Does Zc G 138 (cM h i n []) [.ptr i 0, .agg (latX l), .v (.int .i64 d)] (fun h' r => h' = cM h i (Yt f l n).2 [] ∧ r = .v (.int .i64 (Yt f l n).1)) := by
 intro f
 induction f with
 | zero =>
   intro l n d hf hd hsm hn h i hi
   obtain rfl : d = 7 := by omega
   refine Y5 Tryz.func138 rfl (Z3 rfl) hG fun hl0 _ => ?_
   simp only [Tryz.ntmps138]
   repeat' first
    | (with_reducible first | refine sA rfl ?_ | refine sI rfl rfl ?_ | refine sT rfl ?_)
    | (with_reducible refine Y7 ?_; first | refine Xi ?_ | (refine ao1 rfl rfl fun K HK => ?_; (first | refine Yo rfl ?_ | skip); simp only [go_sem, Y4 l] <;> (refine HK _ _ ?_; clear HK K)) | refine ao0 rfl rfl ?_)
   exact ⟨.inr rfl, endC (x := .int .i64 6) (m := n) hi hl0 rfl rfl ⟨rfl, rfl⟩⟩
 | succ f ih =>
   intro l n d hf hd hsm hn h i hi
   obtain rfl : d = 6 - f := by omega
   have hsh := shape_d G hG l hsm
   have hli := limits_d G hG l hsm
   have hsp := spelling_d G hG l hsm
   have hra := ranges_d G hG l
   have hcs := chains_d G hG l hsm
   have hpl := hsm.parts
   have h7 := Yc9 l
   rw [visit_succ, latE_eq]
   simp only [Y4 l] at hsh hli hsp hra hcs
   generalize U8 (Jj l) 6 = v1 at *
   generalize U8 (Zd5 l) 3 = v2 at *
   generalize U8 (Zd9 l) 5 = v3 at *
   generalize U8 (Wp l) 4 = v4 at *
   generalize W4 l = sb at *
   by_cases h64 : 64 ≤ n
   · rw [if_pos h64]
     refine Y5 Tryz.func138 rfl (Z3 rfl) hG fun hl0 _ => ?_
     simp only [Tryz.ntmps138]
     repeat' first
      | (with_reducible first | refine sA rfl ?_ | refine sI rfl rfl ?_ | refine sT rfl ?_)
      | (with_reducible refine Y7 ?_; first | refine Xi ?_ | (refine ao1 rfl rfl fun K HK => ?_; (first | refine Yo rfl ?_ | skip); simp only [go_sem, Y4 l, cM_0 hi]; (first | refine X1 (fun hq => ?_) (fun hq => ?_) | skip) <;> (refine HK _ _ ?_; clear HK K)) | refine ao0 rfl rfl ?_ | (refine ao1' rfl fun K HK => ?_; simp only [go_sem, Y4 l, cM_0 hi]; refine HK _ _ ?_; clear HK K))
      | (exfalso; omega)
     all_goals first | (exfalso; omega) | exact ⟨.inr rfl, endC (x := .int .i64 6) (m := n) hi hl0 rfl rfl ⟨rfl, rfl⟩⟩
   rw [if_neg h64]
   have wn : IntKind.i64.wrap ((n : Int) + 1) = ((n + 1 : Nat) : Int) := IntWalk.i64_in _ (by omega)
   refine Y5 Tryz.func138 rfl (Z3 rfl) hG fun hl0 _ => ?_
   simp only [Tryz.ntmps138]
   cases sb
   all_goals simp only [whenI_f, whenI_t] at hsh
   rotate_left
   · rw [if_pos rfl]
     repeat' first
      | (with_reducible first | refine sA rfl ?_ | refine sI rfl rfl ?_ | refine sT rfl ?_)
      | (with_reducible refine Y7 ?_; first | refine Xi ?_ | (refine ao1 rfl rfl fun K HK => ?_; (first | refine Yo rfl ?_ | skip); simp only [go_sem, Y4 l, cM_0 hi, cM_s hi, wn]; (first | refine X1 (fun hq => ?_) (fun hq => ?_) | skip) <;> (refine HK _ _ ?_; clear HK K)) | refine ao0 rfl rfl ?_ | (refine ao2 rfl rfl rfl ent_202 (hsh _) ?_; rintro _ _ ⟨rfl, rfl⟩) | (refine ao1' rfl fun K HK => ?_; simp only [go_sem, Y4 l, cM_0 hi, cM_s hi, wn]; refine HK _ _ ?_; clear HK K))
      | (exfalso; omega)
     all_goals first | (exfalso; omega) | exact ⟨.inr rfl, endC (x := .int .i64 1) (m := n + 1) hi hl0 rfl rfl ⟨rfl, rfl⟩⟩
   rw [if_neg Bool.false_ne_true]
   have hcs := hcs (h7 rfl)
   generalize hor : orI [v1, v2, v3, v4] = o at *
   have hor2 := orE4_s G hG v1 v2 v3 v4 o hor
   repeat' first
    | (with_reducible first | refine sA rfl ?_ | refine sI rfl rfl ?_ | refine sT rfl ?_)
    | (with_reducible refine Yf ?_; first | refine Xu mixd (by kernel_rfl) ?_)
    | (with_reducible refine Y7 ?_; first | refine Xi ?_ | (refine ao1 rfl rfl fun K HK => ?_; (first | refine Yo rfl ?_ | skip); simp only [go_sem, Y4 l, cM_0 hi, cM_s hi, wn]; (first | refine X1 (fun hq => ?_) (fun hq => ?_) | refine Zh4 (fun hq => ?_) (fun hq => ?_) | skip) <;> (refine HK _ _ ?_; clear HK K)) | refine ao0 rfl rfl ?_ | (refine ao2 rfl rfl rfl ent_202 (hsh _) ?_; rintro _ _ ⟨rfl, rfl⟩) | (refine ao1' rfl fun K HK => ?_; simp only [go_sem, Y4 l, cM_0 hi, cM_s hi, wn]; refine HK _ _ ?_; clear HK K))
    | ((with_reducible refine Ze7 ?_); first | (refine Xl rfl rfl rfl (by (first | (simp only [go_sem, Y4 l, cM_0 hi, cM_s hi, wn]; rfl) | (simp only [go_sem, Y4 l, cM_0 hi, cM_s hi, wn]; done))) (by rw [getD_agg' aggT_26, szT_26]; rfl) ?_) | (refine aS1 rfl rfl fun K HK => ?_; (first | refine Yo rfl ?_ | skip); simp only [go_sem, Y4 l, cM_0 hi, cM_s hi, wn]; (first | refine X1 (fun hq => ?_) (fun hq => ?_) | refine Zh4 (fun hq => ?_) (fun hq => ?_) | skip) <;> (refine HK _ _ rfl ?_; clear HK K)) | refine Yb2 rfl rfl (by simp only [litD, V0, go_sem, Zh, Zk, Option.map_some, Option.bind_some, and_self, ↓reduceIte, Z0, Z2, Z1, Z5, Z6, Z7, Z9, Z8, Y4 l, cM_0 hi, cM_app, cM_len, cM_s hi, cM_b, cM_b1, cM_b1s, Zl, Zg, Zk, Zh, Nat.add_zero, wn]; rfl) ?_ | refine U7 (by simp only [List.reverse_cons, List.reverse_nil, Zl, Zg, Ww, chk1]; repeat' (first | exact trivial | refine And.intro ?_ ?_ | exact .inr X7 | exact .inr Xe | exact .inr Xd | exact .inl (by kernel_rfl))) ?_ | refine Yj rfl rfl rfl ent_204 (fun h2 => hli _) ?_ | refine Yj rfl rfl rfl ent_205 (fun h2 => hsp _) ?_ | refine Yj rfl rfl rfl ent_206 (fun h2 => hra _) ?_ | refine Yj rfl rfl rfl ent_207 (fun h2 => hcs _) ?_ | refine Uj rfl rfl rfl ent_203 (by (first | (simp only [go_sem, Y4 l, cM_0 hi, cM_s hi, wn]; rfl) | (simp only [go_sem, Y4 l, cM_0 hi, cM_s hi, wn]; done))) (fun h2 k2 => hor2 h2 _ k2) ?_)
    | (exfalso; omega)
   · obtain rfl : o = 0 := by assumption
     rw [if_neg (fun q => q rfl)]
     refine Yh (fun m e h' => ∃ (k c : Nat) (T : List Ob), k ≤ l.parts.length ∧ m = l.parts.length - k ∧ c ≤ 64 ∧ goL (Yt f) l.parts (n + 1) = goL (Yt f) (l.parts.drop k) c ∧ h' = cM h i c (.cells (latX l) :: T) ∧ e 0 = .ptr i 0 ∧ e 2 = .v (.int .i64 (6 - f)) ∧ e 47 = .sl 6 (l.parts.map latX) ∧ e 48 = .v (.int .i64 l.parts.length) ∧ e 49 = .v (.int .i64 k)) l.parts.length ⟨0, n + 1, _, Zo _, rfl, by omega, rfl, (by rw [Y4 l]), rfl, rfl, rfl, rfl, rfl⟩ ?_
     clear hsh hli hsp hra hcs hor2
     rintro m e h' ⟨k, c, T, hk, rfl, hc, ho, rfl, e0, e2, e47, e48, e49⟩
     by_cases hlt : k < l.parts.length
     rotate_left
     · have e1 : goL (Yt f) l.parts (n + 1) = (0, c) := by rw [ho, Zj (by omega)]; rfl
       rw [e1]
       repeat' first
        | (with_reducible first | refine sA rfl ?_ | refine sI rfl rfl ?_ | refine sT rfl ?_ | refine sB rfl ?_)
        | (with_reducible refine Y7 ?_; first | refine Xi ?_ | (refine ao1 rfl rfl fun K HK => ?_; simp only [go_sem, e0, e2, e47, e48, e49]; (first | refine X1 (fun hq => ?_) (fun hq => ?_) | (refine ⟨by omega, by omega, ?_⟩; intro row hrow; obtain ⟨x, hx, rfl⟩ := Vt hrow; clear hrow) | skip) <;> (refine HK _ _ ?_; clear HK K)))
        | (exfalso; omega)
       exact ⟨.inr rfl, endC (x := .int .i64 0) (m := c) hi hl0 rfl rfl ⟨rfl, rfl⟩⟩
     have hx : l.parts[k]? = some l.parts[k] := Zd hlt
     have wk : IntKind.i64.wrap ((k : Int) + 1) = (k : Int) + 1 := IntWalk.i64_in _ (by omega)
     have wd : IntKind.i64.wrap (6 - (f : Int) + 1) = 6 - (f : Int) + 1 := IntWalk.i64_in _ (by omega)
     rw [goL_step _ _ k _ hlt] at ho
     have hr := fun TT : List Ob => ih l.parts[k] c (6 - (f : Int) + 1) (by omega) (by omega) (hsm.part _ (Zp hlt)) hc (h ++ TT) i (by rw [Zq]; omega)
     simp only [cM_ext hi] at hr
     have hle := visit_le f l.parts[k] c hc
     generalize l.parts[k] = x at hx ho hr hle
     generalize Yt f x c = y at *
     obtain ⟨y1, y2⟩ := y
     simp only at ho hr hle
     simp only [Y4 x] at hr
     by_cases hy : y1 = 0
     · rw [if_neg (fun q => q hy)] at ho
       repeat' first
        | (with_reducible first | refine sA rfl ?_ | refine sI rfl rfl ?_ | refine sT rfl ?_ | refine sB rfl ?_)
        | (with_reducible refine Y7 ?_; first | refine Xi ?_ | (refine ao1 rfl rfl fun K HK => ?_; simp only [go_sem, Y4 x, Y4 l, e0, e2, e47, e48, e49, wk, wd, hy]; (first | refine X1 (fun hq => ?_) (fun hq => ?_) | (refine ⟨by omega, by omega, ?_⟩; refine Yn (by assumption) ?_) | skip) <;> (refine HK _ _ ?_; clear HK K)) | (refine ao2 rfl rfl rfl ent_138 (hr _) ?_; rintro _ _ ⟨rfl, rfl⟩) | (refine ao1' rfl fun K HK => ?_; simp only [go_sem, Y4 x, Y4 l, e0, e2, e47, e48, e49, wk, wd, hy]; refine HK _ _ ?_; clear HK K))
        | (exfalso; omega)
       exact ⟨rfl, l.parts.length - (k + 1), by omega, k + 1, y2, _, hlt, rfl, hle, ho, (by rw [Y4 l]), e0, e2, e47, e48, rfl⟩
     · rw [if_pos hy] at ho
       rw [ho]
       repeat' first
        | (with_reducible first | refine sA rfl ?_ | refine sI rfl rfl ?_ | refine sT rfl ?_ | refine sB rfl ?_)
        | (with_reducible refine Y7 ?_; first | refine Xi ?_ | (refine ao1 rfl rfl fun K HK => ?_; simp only [go_sem, Y4 x, Y4 l, e0, e2, e47, e48, e49, wk, wd, hy]; (first | refine X1 (fun hq => ?_) (fun hq => ?_) | (refine ⟨by omega, by omega, ?_⟩; refine Yn (by assumption) ?_) | skip) <;> (refine HK _ _ ?_; clear HK K)) | (refine ao2 rfl rfl rfl ent_138 (hr _) ?_; rintro _ _ ⟨rfl, rfl⟩) | (refine ao1' rfl fun K HK => ?_; simp only [go_sem, Y4 x, Y4 l, e0, e2, e47, e48, e49, wk, wd, hy]; refine HK _ _ ?_; clear HK K))
        | (exfalso; omega)
       exact ⟨.inr rfl, endC (x := .int .i64 y1) (m := y2) hi hl0 rfl rfl ⟨rfl, rfl⟩⟩
   · rw [if_pos (by assumption)]
     exact ⟨.inr rfl, endC (x := .int .i64 o) (m := n + 1) hi hl0 rfl rfl ⟨rfl, rfl⟩⟩
theorem check_d (l : Lat) (hsm : Sm l) (h : List Ob) : Does Zc G 79 h [.agg (latX l)] (fun h' r => h' = h ∧ r = .v (.int .i64 (chkE l))) := by
 refine Ya G hG (Wf _ l) (by rw [low]; trivial) ?_ h
 clear h
 have hr : Does Zc G 138 [.cells (latX l), .cells [.v (.int .i64 0)]] [.ptr 1 0, .agg (latX l), .v (.int .i64 1)] (fun h' r => h' = [.cells (latX l), .cells [.v (.int .i64 ((Yt 6 l 0).2 : Nat))]] ∧ r = .v (.int .i64 (chkE l))) := visit_c G hG 6 l 0 1 (by omega) (by omega) hsm (by omega) [.cells (latX l), .dead] 1 (by simp)
 simp only [Y4 l] at hr
 generalize (Yt 6 l 0).2 = m at *
 generalize chkE l = e at *
 refine Y5 Tryz.func79 rfl (Z3 rfl) hG fun hl0 _ => ?_
 simp only [Tryz.ntmps79]
 repeat' first
  | (with_reducible first | refine sA rfl ?_ | refine sT rfl ?_)
  | (with_reducible refine Y7 ?_; first | refine Xi ?_ | (refine ao1 rfl rfl fun K HK => ?_; simp only [go_sem, Y4 l] <;> (refine HK _ _ ?_; clear HK K)) | (refine ao2 rfl rfl rfl ent_138 (hr) ?_; rintro _ _ ⟨rfl, rfl⟩) | (refine ao1' rfl fun K HK => ?_; simp only [go_sem, Y4 l]; refine HK _ _ ?_; clear HK K))
 exact ⟨.inr rfl, endV hl0 rfl rfl ⟨rfl, rfl⟩⟩
end
section
def Wk (d d' : D) : Prop := ∀ hd hh W u, rd hd hh W d u → rd hd hh W d' u
def WkL (d d' : List D) : Prop := ∀ hd hh W u, rdL hd hh W d u → rdL hd hh W d' u
theorem Xa (d : D) : Wk d d := fun _ _ _ _ q => q
theorem Wu {k : Nat} : Wk (.v (.slice none 0 0)) (.sl k []) := nil_sl
theorem Wy : WkL [] [] := fun _ _ _ _ q => q
theorem Yi {d d' : D} {l l' : List D} (q : Wk d d') (r : WkL l l') : WkL (d :: l) (d' :: l') := fun hd hh W u k => by
 rw [rdL] at k ⊢
 obtain ⟨a, t, h1, h2, h3⟩ := k
 exact ⟨a, t, h1, q _ _ _ _ h2, r _ _ _ _ h3⟩
theorem wk_agg {l l' : List D} (q : WkL l l') : Wk (.agg l) (.agg l') := fun hd hh W u k => by
 rw [rd] at k ⊢
 obtain ⟨cs, h1, h2⟩ := k
 exact ⟨cs, h1, q _ _ _ _ h2⟩
theorem J1 {l l' : List D} (q : WkL l l') : Wk (.tup l) (.tup l') := fun hd hh W u k => by
 rw [rd] at k ⊢
 obtain ⟨cs, h1, h2⟩ := k
 exact ⟨cs, h1, q _ _ _ _ h2⟩
end
section
attribute [local irreducible] on aOp
attribute [local go_sem] decide_true decide_false Zb Z4
attribute [local simp] byD_len
def kM (A Z V B : Ob) (T : List Ob) : List Ob := A :: Z :: V :: B :: T
section
variable {A Z V B y y' : Ob} {T l : List Ob}
theorem kM_0 : (kM A Z V B T)[0]? = some A := rfl
theorem kM_1 : (kM A Z V B T)[1]? = some Z := rfl
theorem kM_2 : (kM A Z V B T)[2]? = some V := rfl
theorem kM_3 : (kM A Z V B T)[3]? = some B := rfl
theorem kM_s1 : (kM A Z V B T).set 1 y = kM A y V B T := rfl
theorem kM_s2 : (kM A Z V B T).set 2 y = kM A Z y B T := rfl
theorem kM_s3 : (kM A Z V B T).set 3 y = kM A Z V y T := rfl
theorem Zr9 : (kM A Z V B T).length = T.length + 4 := rfl
theorem Ye8 : kM A Z V B T ++ l = kM A Z V B (T ++ l) := rfl
theorem kM_l : (kM A Z V B (T ++ [y]))[T.length + 4]? = some y := by simp [kM]
theorem kM_sl : (kM A Z V B (T ++ [y])).set (T.length + 4) y' = kM A Z V B (T ++ [y']) := by simp [kM]
theorem kM_l2 {z : Ob} : (kM A Z V B (T ++ [y, z]))[T.length + 4]? = some y := by simp [kM]
theorem kM_l3 {z : Ob} : (kM A Z V B (T ++ [y, z]))[T.length + 1 + 4]? = some z := by simp [kM]
end
def nilV : List D := [.v (.int .i64 0), .v (.slice none 0 0), .v (.slice none 0 0), .v (.slice none 0 0)]
theorem bot_2 {l : Lat} (h : l.kind = 2) : botV l = .mk l.lo [] [] [] := by cases l; simp only [Lat.kind] at h; subst h; rfl
theorem bot_3 {l : Lat} (h : l.kind = 3) : botV l = .mk l.hi [] [] [] := by cases l; simp only [Lat.kind] at h; subst h; rfl
theorem bot_67 {l : Lat} (h : l.kind = 6 ∨ l.kind = 7) : botV l = .mk 0 [] (l.parts.map botV) [] := by
 cases l; simp only [Lat.kind] at h
 rw [botV, if_neg (by omega), if_neg (by omega), if_pos h, Zh2]; rfl
theorem bot_0 {l : Lat} (h2 : l.kind ≠ 2) (h3 : l.kind ≠ 3) (h6 : l.kind ≠ 6) (h7 : l.kind ≠ 7) : botV l = .mk 0 [] [] [] := by
 cases l; simp only [Lat.kind] at h2 h3 h6 h7
 rw [botV, if_neg h2, if_neg h3, if_neg (by omega)]; rfl
theorem Vr (n : Int) (ps : List (List D)) (d : D) (hd : Wk d (.sl 4 ps)) : Wk (.agg [.v (.int .i64 n), .v (.slice none 0 0), d, .v (.slice none 0 0)]) (.agg [.v (.int .i64 n), .sl 1 [], .sl 4 ps, .sl 2 []]) :=
 wk_agg (Yi (Xa _) (Yi Wu (Yi hd (Yi Wu Wy))))
theorem Zf9 (v : Val) : (vaX v).all D.one = true := by rw [Y6]; rfl
theorem Yb3 (n : Int) (ps : List Val) : vaX (.mk n [] ps []) = [.v (.int .i64 n), .sl 1 [], .sl 4 (ps.map vaX), .sl 2 []] := by rw [Y6]; rfl
theorem vsm_bot (f : Nat) : ∀ l : Lat, SizeOf.sizeOf l ≤ f → Sm l → VSm (botV l) := by
 induction f with
 | zero => intro l hn; cases l; simp at hn
 | succ f ih =>
  intro l hn hs
  have flat : ∀ n : Int, VSm (.mk n [] [] []) := fun n => .mk _ (by simp [Val.names]) (by simp [Val.parts]) (by simp [Val.entries]) (by simp [Val.names]) (by simp [Val.entries]) (by simp [Val.parts])
  by_cases h2 : l.kind = 2
  · rw [bot_2 h2]; exact flat _
  by_cases h3 : l.kind = 3
  · rw [bot_3 h3]; exact flat _
  by_cases h6 : l.kind = 6 ∨ l.kind = 7
  · rw [bot_67 h6]
    refine .mk _ (by simp [Val.names]) (by simpa [Val.parts] using hs.parts) (by simp [Val.entries]) (by simp [Val.names]) (by simp [Val.entries]) (fun p hp => ?_)
    obtain ⟨q, hq, rfl⟩ := List.mem_map.1 (show p ∈ l.parts.map botV from hp)
    exact ih q (by have := Yb hq; omega) (hs.part q hq)
  · rw [bot_0 h2 h3 (by omega) (by omega)]; exact flat _
section
variable {l : Lat} {v : Val}
theorem el_1 (h : l.kind = 1) : Y8 l v = (Wz v true false false false && decide (v.n = 0 ∨ v.n = 1)) := by cases l; simp only [Lat.kind] at h; subst h; rw [Y8, if_pos rfl]
theorem el_23 (h : l.kind = 2 ∨ l.kind = 3) : Y8 l v = (Wz v true false false false && decide (l.lo ≤ v.n ∧ v.n ≤ l.hi)) := by cases l; simp only [Lat.kind] at h; rw [Y8, if_neg (by omega), if_pos h]; rfl
theorem el_4 (h : l.kind = 4) : Y8 l v = (Wz v false true false false && Ye l.names v.names) := by cases l; simp only [Lat.kind] at h; subst h; rw [Y8, if_neg (by decide), if_neg (by decide), if_pos rfl]; rfl
theorem el_10 (h : l.kind = 10) : Y8 l v = (Wz v false true false false && Ye l.names v.names && W0 l.rules v.names) := by cases l; simp only [Lat.kind] at h; subst h; rw [Y8, if_neg (by decide), if_neg (by decide), if_neg (by decide), if_pos rfl]; rfl
theorem el_8 (h : l.kind = 8) : Y8 l v = (if v.n = 0 ∨ v.n = 2 then Wz v true false false false else if v.n = 1 then Wz v true true false false && decide (v.names.length = 1) && Ye l.names v.names else false) := by cases l; simp only [Lat.kind] at h; subst h; rw [Y8, if_neg (by decide), if_neg (by decide), if_neg (by decide), if_neg (by decide), if_pos rfl]; rfl
theorem el_9 (h : l.kind = 9) : Y8 l v = (Wz v false false false true && regB v.entries) := by cases l; simp only [Lat.kind] at h; subst h; rw [Y8, if_neg (by decide), if_neg (by decide), if_neg (by decide), if_neg (by decide), if_neg (by decide), if_pos rfl]
theorem el_5 (h : l.kind = 5) : Y8 l v = (Wz v false true true false && decide (v.names.length = v.parts.length) && Ye l.names v.names && mapB l.parts v.parts) := by cases l; simp only [Lat.kind] at h; subst h; rw [Y8, if_neg (by decide), if_neg (by decide), if_neg (by decide), if_neg (by decide), if_neg (by decide), if_neg (by decide), if_pos rfl]; rfl
theorem el_67 (h : l.kind = 6 ∨ l.kind = 7) : Y8 l v = (Wz v false false true false && decide (v.parts.length = l.parts.length) && W2 l.parts v.parts) := by cases l; simp only [Lat.kind] at h; rw [Y8, if_neg (by omega), if_neg (by omega), if_neg (by omega), if_neg (by omega), if_neg (by omega), if_neg (by omega), if_neg (by omega)]; rfl
theorem map_one (p : Lat) (vs : List Val) : mapB [p] vs = vs.all fun v => Y8 p v && decide (valC v (botV p) ≠ 0) := by rw [mapB]
theorem els_go {ps : List Lat} {vs : List Val} {k : Nat} {p : Lat} {v : Val} (hp : ps.drop k = p :: ps.drop (k + 1)) (hv : vs.drop k = v :: vs.drop (k + 1)) : W2 (ps.drop k) (vs.drop k) = (Y8 p v && W2 (ps.drop (k + 1)) (vs.drop (k + 1))) := by rw [hp, hv, W2]
theorem els_nil (vs : List Val) : W2 [] vs = true := by rw [W2]
end
variable (G : Nat → D) (hG : ∀ g, low 0 (G g))
include hG
attribute [local go_sem] Z7 Z8 Z9 Zf Zr Zg Zq Zh Ze Zk Zl Z2 Z5 Z0 Z1 Z6 kM_0 kM_1 kM_2 kM_3 Ye8 kM_l kM_l2 kM_l3 Zr9 kM_s1 kM_s2 kM_s3 kM_sl Wa J2
attribute [local go_sem ↓] reduceIte
theorem bottom_d (f : Nat) : ∀ l : Lat, SizeOf.sizeOf l ≤ f → WfL l → ∀ h : List Ob, Does Zc G 140 h [.agg (latX l)] (fun h' r => h' = h ∧ r = .agg (vaX (botV l))) := by
 induction f with
 | zero => intro l hn; cases l; simp at hn
 | succ f ih =>
 intro l hn hwf h
 refine Ya G hG (Wf _ l) (by rw [low]; exact Ys _ _) ?_ h
 clear h
 obtain ⟨hk0, hk5, hk7, hk6, _⟩ := hwf.kinds
 have hpl : l.kind = 6 ∨ l.kind = 7 → l.parts.length ≤ 8 := fun q => by rcases q with q | q; have := hk6 q; omega; have := hk7 q; omega
 have hpp : ∀ p ∈ l.parts, ∀ h, Does Zc G 140 h [.agg (latX p)] (fun h' r => h' = h ∧ r = .agg (vaX (botV p))) := fun p hp => ih p (by have := Yb hp; omega) (hwf.part hp)
 apply Does.weak
 refine Y5 Tryz.func140 rfl (Z3 rfl) hG fun hl0 _ => ?_
 simp only [Tryz.ntmps140]
 by_cases h6 : l.kind = 6 ∨ l.kind = 7
 rotate_left
 · have hb : ∃ n : Int, botV l = .mk n [] [] [] ∧ (l.kind = 2 → n = l.lo) ∧ (l.kind = 3 → n = l.hi) ∧ (l.kind ≠ 2 → l.kind ≠ 3 → n = 0) := by
    by_cases h2 : l.kind = 2
    · exact ⟨_, bot_2 h2, fun _ => rfl, fun q => by omega, fun q => absurd h2 q⟩
    by_cases h3 : l.kind = 3
    · exact ⟨_, bot_3 h3, fun q => by omega, fun _ => rfl, fun _ q => absurd h3 q⟩
    · exact ⟨_, bot_0 h2 h3 (by omega) (by omega), fun q => by omega, fun q => by omega, fun _ _ => rfl⟩
   obtain ⟨n, hb, b2, b3, b0⟩ := hb
   rw [hb, Yb3]
   have h6a : ¬ l.kind = 6 := by omega
   have h7a : ¬ l.kind = 7 := by omega
   by_cases h2 : l.kind = 2
   · obtain rfl := b2 h2
     have F : _ ∧ _ := ⟨Y4 l, h2⟩
     repeat' first
      | refine g0 ?_
      | fail
     all_goals exact ⟨.inr rfl, endD (ds := [.agg [.v (.int .i64 l.lo), .v (.slice none 0 0), .v (.slice none 0 0), .v (.slice none 0 0)]]) (r := .agg [.v (.int .i64 l.lo), .v (.slice none 0 0), .v (.slice none 0 0), .v (.slice none 0 0)]) hl0 (by simp only [resD, Tryz.results140, go_sem, ↓reduceIte, Z0, Z2, Z1]; try rfl) (by simp) (by simp) (by simp [outD, cvD, cv1]) (by simp [low, lowL]) ⟨_, ⟨rfl, rfl⟩, Vr _ _ _ Wu⟩⟩
   by_cases h3 : l.kind = 3
   · obtain rfl := b3 h3
     have F : _ ∧ _ := ⟨Y4 l, h3⟩
     repeat' first
      | refine g0 ?_
      | fail
     all_goals exact ⟨.inr rfl, endD (ds := [.agg [.v (.int .i64 l.hi), .v (.slice none 0 0), .v (.slice none 0 0), .v (.slice none 0 0)]]) (r := .agg [.v (.int .i64 l.hi), .v (.slice none 0 0), .v (.slice none 0 0), .v (.slice none 0 0)]) hl0 (by simp only [resD, Tryz.results140, go_sem, ↓reduceIte, Z0, Z2, Z1]; try rfl) (by simp) (by simp) (by simp [outD, cvD, cv1]) (by simp [low, lowL]) ⟨_, ⟨rfl, rfl⟩, Vr _ _ _ Wu⟩⟩
   · obtain rfl := b0 h2 h3
     have F : _ ∧ _ ∧ _ ∧ _ ∧ _ := ⟨Y4 l, h2, h3, h6a, h7a⟩
     repeat' first
      | refine g0 ?_
      | fail
     all_goals exact ⟨.inr rfl, endD (ds := [.agg nilV]) (r := .agg nilV) hl0 (by simp only [resD, Tryz.results140, go_sem, ↓reduceIte, Z0, Z2, Z1]; rfl) (by simp) (by simp) (by simp [outD, cvD, cv1, nilV]) (by simp [low, lowL, nilV]) ⟨_, ⟨rfl, rfl⟩, Vr _ _ _ Wu⟩⟩
 have hpl := hpl h6
 rw [bot_67 h6, Yb3]
 have h2a : ¬ l.kind = 2 := by omega
 have h3a : ¬ l.kind = 3 := by omega
 rcases h6 with h6 | h6
 all_goals
  skip
  have F : _ ∧ _ := ⟨Y4 l, h6⟩
  repeat' first
   | refine g0 ?_
   | fail
  refine Vv 30 4 2 [.v (.int .i64 0), .v (.slice none 0 0)] [.v (.slice none 0 0)] rfl ?_
  refine Yh (fun m e h' => ∃ (k : Nat) (T : List Ob), k ≤ l.parts.length ∧ m = l.parts.length - k ∧ h' = kM (.cells (latX l)) (.cells nilV) (.cells [.v (.int .i64 0), .v (.slice none 0 0), .buf 3 k, .v (.slice none 0 0)]) (.buf 30 4 (((l.parts.take k).map botV).map vaX)) T ∧ e 1 = .ptr 0 0 ∧ e 2 = .ptr 1 0 ∧ e 3 = .ptr 2 0 ∧ e 22 = .sl 6 (l.parts.map latX) ∧ e 23 = .v (.int .i64 l.parts.length) ∧ e 24 = .v (.int .i64 k)) l.parts.length ⟨0, [], Zo _, rfl, by rw [Y4 l, h6]; rfl, rfl, rfl, rfl, rfl, rfl, rfl⟩ ?_
  rintro m e h' ⟨k, T, hk, rfl, rfl, e1, e2, e3, e22, e23, e24⟩
  by_cases hlt : k < l.parts.length
  rotate_left
  · obtain rfl : k = l.parts.length := by omega
    rw [List.take_length]
    repeat' first
     | (with_reducible first | refine sA rfl ?_ | refine sI rfl rfl ?_ | refine sT rfl ?_ | refine sB rfl ?_)
     | (with_reducible refine Y7 ?_; first | refine Xi ?_ | (refine ao1 rfl rfl fun K HK => ?_; simp only [go_sem, Y4 l, e1, e2, e3, e22, e23, e24, nilV]; (first | refine X1 (fun hq => ?_) (fun hq => ?_) | (refine ⟨by omega, by omega, ?_⟩; intro row hrow; obtain ⟨x, hx, rfl⟩ := Vt hrow; clear hrow) | skip) <;> (refine HK _ _ ?_; clear HK K)) | (refine ao1' rfl fun K HK => ?_; simp only [go_sem, Y4 l, e1, e2, e3, e22, e23, e24, nilV]; refine HK _ _ ?_; clear HK K))
     | (exfalso; omega)
    exact ⟨.inr rfl, endD (ds := [.agg [.v (.int .i64 0), .v (.slice none 0 0), .buf 3 l.parts.length, .v (.slice none 0 0)]]) (r := .agg [.v (.int .i64 0), .v (.slice none 0 0), .sl 4 ((l.parts.map botV).map vaX), .v (.slice none 0 0)]) hl0 (by simp only [resD, Tryz.results140, go_sem, ↓reduceIte, Z0, Z2, Z1, e2, kM_1]; try rfl) (by simp) (by simp) (by simp [outD, cvD, cv1, kM]) (by rw [low]; simp only [lowL]; exact ⟨by simp [low], by simp [low], Jt _ _, by simp [low], trivial⟩) ⟨_, ⟨rfl, rfl⟩, Vr _ _ _ (Xa _)⟩⟩
  have hx : l.parts[k]? = some l.parts[k] := Zd hlt
  have wk : IntKind.i64.wrap ((k : Int) + 1) = ((k + 1 : Nat) : Int) := IntWalk.i64_in _ (by omega)
  have htk : (l.parts.take (k + 1)).map botV = (l.parts.take k).map botV ++ [botV l.parts[k]] := by rw [List.take_add_one, hx, List.map_append]; rfl
  have hbp := hpp _ (Zp hlt)
  generalize l.parts[k] = x at hx hbp htk
  have hlr : (((l.parts.take k).map botV).map vaX).length = k := by rw [Ze, Ze, List.length_take, Nat.min_eq_left hk]
  simp only [Y4 x] at hbp
  generalize botV x = bx at hbp htk
  have hro : Yr 4 [vaX bx] := fun row hr => by simp only [List.mem_singleton] at hr; subst hr; exact ⟨Wa bx, List.all_eq_true.1 (Zf9 bx)⟩
  have F : _ ∧ _ ∧ _ ∧ _ ∧ _ ∧ _ ∧ _ ∧ _ ∧ _ := ⟨Y4 x, Y4 l, e1, e2, e3, e22, e23, e24, wk⟩
  repeat' first
   | (with_reducible refine Yf ?_; refine Xu mixd (by kernel_rfl) ?_)
   | ((with_reducible refine Ze7 ?_); first | (refine aS_appB rfl rfl rfl rfl (by (simp only [go_sem, F]; rfl)) hlr (by simp only [go_sem, F]; rfl) (by (simp only [go_sem, F]; rfl)) (by simp) hro (by first | omega | (simp; omega)) ?_) | (refine Xl rfl rfl rfl (by (simp only [go_sem, F]; rfl)) (by rw [getD_agg' aggT_26, szT_26]; rfl) ?_) | (refine aS1 rfl rfl fun K HK => ?_; simp only [go_sem, F]; (first | refine X1 (fun hq => ?_) (fun hq => ?_) | (refine ⟨by omega, by omega, ?_⟩; refine Yn (by assumption) ?_) | skip) <;> (refine HK _ _ rfl ?_; clear HK K)) | refine Xl rfl rfl rfl (by (simp only [go_sem, F]; rfl)) (by rw [getD_one (by simp only [go_sem, F])]; rfl) ?_ | refine Zu4 rfl rfl (by (simp only [go_sem, F]; rfl)) rfl (by simp only [go_sem, F]) (by simp) ?_ | refine Yb2 rfl rfl (by simp only [litD, V0, go_sem, Zh, Zk, Option.map_some, Option.bind_some, and_self, ↓reduceIte, Z0, Z2, Z1, Z5, Z6, Z7, Z9, Z8, Y4 x, Y4 l, e1, e2, e3, e22, e23, e24, Ze, Zf, wk, kM_0, kM_1, kM_2, kM_3, kM_s1, kM_s2, kM_s3, Zr9, Ye8, kM_l, kM_sl, kM_l2, kM_l3, Wa, J2, Zr, Zg, Zl, Zq, Zh, Zk]; rfl) ?_ | refine U7 (by simp only [List.reverse_cons, List.reverse_nil, Zl, Zg, Ww, chk1]; repeat' (first | exact trivial | refine And.intro ?_ ?_ | exact .inr X7 | exact .inr Xe | exact .inr Xd | exact .inr (W6 (by omega)) | (refine .inr ?_; simp [compat, Wq, Uz, J0, nop, Zr9, Wa] <;> omega) | exact .inl (by kernel_rfl))) ?_ | refine Yj rfl rfl rfl ent_140 (fun h2 => hbp _) ?_)
   | refine gg ?_
   | refine Two.mk (fun hq => ?_) fun hq => ?_
   | (exfalso; omega)
  exact ⟨rfl, l.parts.length - (k + 1), by omega, k + 1, _, hlt, rfl, (by rw [Y4 l, htk, List.map_append]; rfl), e1, e2, e3, e22, e23, rfl⟩
end
section

end
section
attribute [local irreducible] on aOp
attribute [local go_sem] decide_true decide_false Zb Z4
attribute [local simp] byD_len
variable (G : Nat → D) (hG : ∀ g, low 0 (G g))
include hG
attribute [local go_sem] Z7 Z8 Z9 Zf Z2 Z5 Z0 Z1 Z6
attribute [local go_sem ↓] reduceIte
end
section
attribute [local irreducible] on aOp
attribute [local go_sem] decide_true decide_false Zb Z4
attribute [local simp] byD_len
variable (G : Nat → D) (hG : ∀ g, low 0 (G g))
include hG
attribute [local go_sem] Z7 Z8 Z9 Z2 Z5 Z0 Z1 Z6
attribute [local go_sem ↓] reduceIte
end
section
attribute [local irreducible] on aOp
attribute [local go_sem] decide_true decide_false Zb Z4
attribute [local simp] byD_len
variable (G : Nat → D) (hG : ∀ g, low 0 (G g))
include hG
attribute [local go_sem] Zi Z7 Z8 Z9 Z2 Z5 Z0 Z1 Z6
attribute [local go_sem ↓] reduceIte
end
section
attribute [local irreducible] on aOp
attribute [local go_sem] decide_true decide_false Zb Z4
attribute [local simp] byD_len
variable (G : Nat → D) (hG : ∀ g, low 0 (G g))
include hG
attribute [local go_sem] Zi Z7 Z8 Z9 Z2 Z5 Z0 Z1 Z6
attribute [local go_sem ↓] reduceIte
end
section
attribute [local irreducible] on aOp
attribute [local go_sem] decide_true decide_false Zb Z4
attribute [local simp] byD_len
section
variable {P : Program} {G : Nat → D} {n : Nat} {e : Nat → D} {h : List Ob} {ops : Array Oper} {rest : List Oper} {Q : S → Prop} {t : Option Nat} {ty : TypeId} {pos : String} {aft : Array Edge}
end
variable (G : Nat → D) (hG : ∀ g, low 0 (G g))
include hG
attribute [local go_sem] Zi Z7 Z8 Z9 Zf Z2 Z5 Z0 Z1 Z6
attribute [local go_sem ↓] reduceIte
end
section
attribute [local irreducible] on aOp
attribute [local go_sem] decide_true decide_false Zb Z4
attribute [local simp] byD_len
variable (G : Nat → D) (hG : ∀ g, low 0 (G g))
def rdSm (m : Nat) (s : RS) : Nat × RS := (if m < (Zc7 s).1 then 0 else (Zc7 s).1, if m < (Zc7 s).1 then (Zc7 s).2.fail else (Zc7 s).2)
include hG
attribute [local go_sem] Z7 Z8 Z9 Z2 Z5 Z0 Z1 Z6
attribute [local go_sem ↓] reduceIte
end
section
attribute [local irreducible] on aOp
attribute [local go_sem] decide_true decide_false Zb Z4
attribute [local simp] byD_len
def q4 (R A Z V : Ob) (T : List Ob) : List Ob := R :: A :: Z :: V :: T
section
variable {R A Z V y y' z z' : Ob} {T l : List Ob}
end
def q5 (R A Z V B : Ob) (T : List Ob) : List Ob := R :: A :: Z :: V :: B :: T
section
variable {R A Z V B y y' z z' : Ob} {T l : List Ob}
theorem q5_0 : (q5 R A Z V B T)[0]? = some R := rfl
theorem q5_s0 : (q5 R A Z V B T).set 0 y = q5 y A Z V B T := rfl
theorem q5_1 : (q5 R A Z V B T)[1]? = some A := rfl
theorem q5_s1 : (q5 R A Z V B T).set 1 y = q5 R y Z V B T := rfl
theorem q5_2 : (q5 R A Z V B T)[2]? = some Z := rfl
theorem q5_s2 : (q5 R A Z V B T).set 2 y = q5 R A y V B T := rfl
theorem q5_3 : (q5 R A Z V B T)[3]? = some V := rfl
theorem q5_s3 : (q5 R A Z V B T).set 3 y = q5 R A Z y B T := rfl
theorem q5_4 : (q5 R A Z V B T)[4]? = some B := rfl
theorem q5_s4 : (q5 R A Z V B T).set 4 y = q5 R A Z V y T := rfl
theorem q5_len : (q5 R A Z V B T).length = T.length + 5 := rfl
theorem q5_app : q5 R A Z V B T ++ l = q5 R A Z V B (T ++ l) := rfl
theorem q5_l : (q5 R A Z V B (T ++ [y]))[T.length + 5]? = some y := by simp [q5]
theorem q5_sl : (q5 R A Z V B (T ++ [y])).set (T.length + 5) y' = q5 R A Z V B (T ++ [y']) := by simp [q5]
theorem q5_l2 : (q5 R A Z V B (T ++ [y, z]))[T.length + 5]? = some y := by simp [q5]
theorem q5_sl2 : (q5 R A Z V B (T ++ [y, z])).set (T.length + 5) y' = q5 R A Z V B (T ++ [y', z]) := by simp [q5]
theorem q5_l3 : (q5 R A Z V B (T ++ [y, z]))[T.length + 1 + 5]? = some z := by simp [q5]
theorem q5_sl3 : (q5 R A Z V B (T ++ [y, z])).set (T.length + 1 + 5) z' = q5 R A Z V B (T ++ [y, z']) := by simp [q5]
end
def q6 (R A Z V B C : Ob) (T : List Ob) : List Ob := R :: A :: Z :: V :: B :: C :: T
section
variable {R A Z V B C y y' z z' : Ob} {T l : List Ob}
theorem q6_0 : (q6 R A Z V B C T)[0]? = some R := rfl
theorem q6_s0 : (q6 R A Z V B C T).set 0 y = q6 y A Z V B C T := rfl
theorem q6_1 : (q6 R A Z V B C T)[1]? = some A := rfl
theorem q6_s1 : (q6 R A Z V B C T).set 1 y = q6 R y Z V B C T := rfl
theorem q6_2 : (q6 R A Z V B C T)[2]? = some Z := rfl
theorem q6_s2 : (q6 R A Z V B C T).set 2 y = q6 R A y V B C T := rfl
theorem q6_3 : (q6 R A Z V B C T)[3]? = some V := rfl
theorem q6_s3 : (q6 R A Z V B C T).set 3 y = q6 R A Z y B C T := rfl
theorem q6_4 : (q6 R A Z V B C T)[4]? = some B := rfl
theorem q6_s4 : (q6 R A Z V B C T).set 4 y = q6 R A Z V y C T := rfl
theorem q6_5 : (q6 R A Z V B C T)[5]? = some C := rfl
theorem q6_s5 : (q6 R A Z V B C T).set 5 y = q6 R A Z V B y T := rfl
theorem q6_len : (q6 R A Z V B C T).length = T.length + 6 := rfl
theorem q6_app : q6 R A Z V B C T ++ l = q6 R A Z V B C (T ++ l) := rfl
theorem q6_l : (q6 R A Z V B C (T ++ [y]))[T.length + 6]? = some y := by simp [q6]
theorem q6_sl : (q6 R A Z V B C (T ++ [y])).set (T.length + 6) y' = q6 R A Z V B C (T ++ [y']) := by simp [q6]
theorem q6_l2 : (q6 R A Z V B C (T ++ [y, z]))[T.length + 6]? = some y := by simp [q6]
theorem q6_sl2 : (q6 R A Z V B C (T ++ [y, z])).set (T.length + 6) y' = q6 R A Z V B C (T ++ [y', z]) := by simp [q6]
theorem q6_l3 : (q6 R A Z V B C (T ++ [y, z]))[T.length + 1 + 6]? = some z := by simp [q6]
theorem q6_sl3 : (q6 R A Z V B C (T ++ [y, z])).set (T.length + 1 + 6) z' = q6 R A Z V B C (T ++ [y, z']) := by simp [q6]
end
theorem wk_va {n : Int} {d1 d2 d3 : D} {a b c : List (List D)} (h1 : Wk d1 (.sl 1 a)) (h2 : Wk d2 (.sl 4 b)) (h3 : Wk d3 (.sl 2 c)) : Wk (.agg [.v (.int .i64 n), d1, d2, d3]) (.agg [.v (.int .i64 n), .sl 1 a, .sl 4 b, .sl 2 c]) :=
 wk_agg (Yi (Xa _) (Yi h1 (Yi h2 (Yi h3 Wy))))
theorem rdrOb_ren (π : Nat → Nat) (s : RS) : Va π (Zm3 s) = Zm3 s := by
 rw [rdrOb_eq]; simp only [Va, renL, ren, renR_by]
theorem rdr_at {P : Program} {G : Nat → D} (hG : ∀ g, low 0 (G g)) {f : FuncId} {s s' : RS} {xs : List D} {r0 : D} (lx : lowL 0 xs) (lr : low 0 r0) (q : Does P G f [Zm3 s] (.ptr 0 0 :: xs) (fun h' r => h' = [Zm3 s'] ∧ r = r0)) {h : List Ob} {i : Nat} (hi : h[i]? = some (Zm3 s)) : Does P G f h (.ptr i 0 :: xs) (fun h' r => h' = h.set i (Zm3 s') ∧ r = r0) := by
 have L : Lies (fun _ => i) [Zm3 s] h := by
  refine ⟨fun k ob' hk => ?_, fun a b ha hb _ => ?_, ?_⟩
  · rcases k with _ | k
    · cases hk; rw [rdrOb_ren]; exact hi
    · simp at hk
  · simp at ha hb; omega
  · intro x hx
    simp at hx; subst hx; exact low_rdr _ s
 have F := Does.frame hG L (args := .ptr 0 0 :: xs) (by rw [lowL, low]; exact ⟨Nat.zero_lt_succ _, Ut (Zo _) _ lx⟩) (K1 := fun h' r => h' = [Zm3 s'] ∧ r = r0) (by
  rintro _ _ ⟨rfl, _⟩
  refine ⟨fun a b ha hb _ => ?_, fun k h1 h2 => ?_⟩
  · simp at ha hb; omega
  · have h1 : 1 ≤ k := h1
    have h2 : k < 1 := h2
    omega) q
 rw [renL, ren, W5 _ _ lx] at F
 refine F.mono ?_
 rintro _ _ ⟨_, _, ⟨rfl, rfl⟩, rfl, rfl⟩
 refine ⟨?_, J8 _ _ lr⟩
 simp only [List.map_cons, List.map_nil, plc, rdrOb_ren]
def ReadD (G : Nat → D) (l : Lat) : Prop := ∀ s : RS, s.Ok → s.data.length ≤ 1000000 → Does Zc G 106 [Zm3 s] [.ptr 0 0, .agg (latX l)] (fun h' r => h' = [Zm3 (Zw5 l s).2] ∧ r = .agg (vaX (Zw5 l s).1))
theorem ReadD.at {G : Nat → D} (hG : ∀ g, low 0 (G g)) {l : Lat} (q : ReadD G l) {s : RS} (ho : s.Ok) (hl : s.data.length ≤ 1000000) {h : List Ob} {i : Nat} (hi : h[i]? = some (Zm3 s)) : Does Zc G 106 h [.ptr i 0, .agg (latX l)] (fun h' r => h' = h.set i (Zm3 (Zw5 l s).2) ∧ r = .agg (vaX (Zw5 l s).1)) :=
 rdr_at hG (Wf _ l) (by rw [low]; exact Ys _ _) (q s ho hl) hi
section
variable {l : Lat}
end
variable (G : Nat → D) (hG : ∀ g, low 0 (G g))
include hG
attribute [local go_sem] Zi Z7 Z8 Z9 Z2 Z5 Z0 Z1 Z6
attribute [local go_sem ↓] reduceIte
end
section
attribute [local irreducible] on aOp
attribute [local go_sem] decide_true decide_false Zb Z4
attribute [local simp] byD_len
theorem endBk {res : Array ResultVar} {K : List Ob → D → Prop} {e k n n' : Nat} {rows rows' : List (List D)} {T : List Ob} {s : S} (h1 : resD Zc s res.toList = some [.buf 0 n']) (h2 : s.h = .buf e k rows' :: T) (h3 : n' = n) (h4 : rows' = rows) (hl : lowR 1 rows) (hK : K [.buf e k rows] (.buf 0 n)) : EndD Zc res 0 K s := by
 subst h3 h4
 have e1 : s.h.take 1 = [.buf e k rows'] := by rw [h2]; rfl
 refine ⟨[.buf 0 n'], 1, h1, Zo _, by rw [h2]; exact Nat.le_add_left 1 T.length, ?_, ?_, ?_⟩
 · rw [e1]
   intro x hx
   rw [List.mem_singleton.1 hx]
   exact hl
 · simp [outD, cvD, cv1, low]
 · rw [e1]; simpa [outD, cvD, cv1] using hK
theorem Us (l : List ByteArray) : low 0 (.sl 1 (l.map strX)) := Xq 0 l
theorem lowR_strs (m : Nat) (l : List ByteArray) : lowR m (l.map strX) := by have := Xq m l; rwa [low] at this
theorem Zi6 (l : List ByteArray) : Yr 1 (l.map strX) := fun row hr => by
 obtain ⟨c, _, rfl⟩ := List.mem_map.1 hr
 exact ⟨rfl, fun d hd => by simp [strX] at hd; subst hd; rfl⟩
variable (G : Nat → D) (hG : ∀ g, low 0 (G g))
include hG
attribute [local go_sem] Z7 Z8 Z9 Z2 Z5 Z0 Z1 Z6
attribute [local go_sem ↓] reduceIte
theorem cloneS0 (l : List ByteArray) (hl : l.length ≤ 100000) :
 Does Zc G 128 [] [.sl 1 (l.map strX)] (fun h' r => h' = [.buf 9 1 (l.map strX)] ∧ r = .buf 0 l.length) := by
 refine Does.nilbuf (K := fun h' r => (h' = [.buf 9 1 (l.map strX)] ∧ r = .buf 0 l.length) ∨ (l = [] ∧ h' = [] ∧ r = .v (.slice none 0 0))) 9 1 ?_ ?_
 rotate_left
 · rintro h' r (h | ⟨rfl, rfl, rfl⟩)
   · exact .inl h
   · exact .inr ⟨rfl, rfl, rfl⟩
 have hro := Zi6 l
 refine Y5 Tryz.func128 rfl (Z3 rfl) hG fun hl0 _ => ?_
 simp only [Tryz.ntmps128]
 repeat' first
  | (with_reducible refine Yf ?_; refine Y9 mixd (by kernel_rfl) ?_)
  | (with_reducible refine Y7 ?_; first | (refine ao_ex rfl (tri_nil (k := 1) (xs := l.map strX) (by kernel_rfl)) ?_; rintro _ _ ⟨rfl, ⟨rfl, hnil⟩ | rfl⟩) | (refine ao1 rfl rfl fun K HK => ?_; (first | (refine Yo rfl ?_) | (skip)); simp only [go_sem]; (first | (refine X1 (fun hq => ?_) (fun hq => ?_)) | (refine Zh4 (fun hq => ?_) (fun hq => ?_)) | (refine Zr3 (by simp only [go_sem]) rfl rfl (by first | omega | simp) (by first | omega | simp) (by simp only [go_sem]; omega) ?_) | (refine ⟨by omega, by omega, ?_⟩; refine Yn (by assumption) ?_) | (refine ⟨by omega, by omega, ?_⟩; intro row hrow; obtain ⟨x, hx, rfl⟩ := Vt hrow; clear hrow) | (refine ⟨by omega, by omega, ?_⟩; intro row hrow) | (refine ⟨by omega, ?_⟩; refine Yn (by assumption) ?_) | (skip)) <;> (refine HK _ _ ?_; clear HK K)) | refine Wd rfl rfl rfl rfl (by (first | (assumption) | ((simp only [go_sem]; rfl)) | ((simp only [go_sem]; done)))) (by simp) (by simp only [go_sem]; rfl) (by (first | (assumption) | ((simp only [go_sem]; rfl)) | ((simp only [go_sem]; done)))) (by simp) (by (first | (assumption) | (exact Vb _) | (exact Xn _) | ((rw [Zf6]; exact Xn _)) | ((simp [Yr, D.one, Value.oneCell']; done)))) (by (first | (omega) | ((simp; done)) | ((simp; omega)) | ((simp [byD]; omega)))) ?_ | refine ao_appNB rfl rfl rfl rfl (by simp only [go_sem]; rfl) (by (first | (assumption) | ((simp only [go_sem]; rfl)) | ((simp only [go_sem]; done)))) (by simp) (by (first | (assumption) | (exact Vb _) | (exact Xn _) | ((rw [Zf6]; exact Xn _)) | ((simp [Yr, D.one, Value.oneCell']; done)))) (by (first | (omega) | ((simp; done)) | ((simp; omega)) | ((simp [byD]; omega)))) ?_ | refine ao_appR rfl rfl rfl (by (first | (assumption) | ((simp only [go_sem]; rfl)) | ((simp only [go_sem]; done)))) (by simp) (by simp only [go_sem]; rfl) rfl (by (first | (assumption) | (exact Vb _) | (exact Xn _) | ((rw [Zf6]; exact Xn _)) | ((simp [Yr, D.one, Value.oneCell']; done)))) (by (first | (omega) | ((simp; done)) | ((simp; omega)) | ((simp [byD]; omega)))) ?_ | refine Ym5 rfl rfl rfl (by simp only [go_sem]; rfl) rfl (by (first | (assumption) | (exact Vb _) | (exact Xn _) | ((rw [Zf6]; exact Xn _)) | ((simp [Yr, D.one, Value.oneCell']; done)))) (by (first | (omega) | ((simp; done)) | ((simp; omega)) | ((simp [byD]; omega)))) ?_)
  | (with_reducible refine Xf ?_; (refine aq1 rfl rfl fun K HK => ?_; (first | (refine Yo rfl ?_) | (skip)); simp only [go_sem]; (first | (refine X1 (fun hq => ?_) (fun hq => ?_)) | (refine Zh4 (fun hq => ?_) (fun hq => ?_)) | (refine Zr3 (by simp only [go_sem]) rfl rfl (by first | omega | simp) (by first | omega | simp) (by simp only [go_sem]; omega) ?_) | (refine ⟨by omega, by omega, ?_⟩; refine Yn (by assumption) ?_) | (refine ⟨by omega, by omega, ?_⟩; intro row hrow; obtain ⟨x, hx, rfl⟩ := Vt hrow; clear hrow) | (refine ⟨by omega, by omega, ?_⟩; intro row hrow) | (refine ⟨by omega, ?_⟩; refine Yn (by assumption) ?_) | (skip)) <;> (refine HK _ _ rfl ?_; clear HK K)))
  | ((with_reducible refine Yf ?_); first | refine Vp ?_ | refine Xs ?_ | refine V9 ?_ | refine Zd1 rfl ?_ | refine Za1 rfl ?_ | refine Ux ?_ | refine Zk6 ?_ | refine Zh8 ?_ | refine Y9 mixd (by kernel_rfl) ?_)
  | ((with_reducible refine Y7 ?_); first | (refine ao_ex rfl (tri_nil (k := 1) (xs := l.map strX) (by kernel_rfl)) ?_; rintro _ _ ⟨rfl, ⟨rfl, hnil⟩ | rfl⟩) | refine Xi ?_ | (refine ao1 rfl rfl fun K HK => ?_; (first | (refine Yo rfl ?_) | (skip)); simp only [go_sem]; (first | (refine X1 (fun hq => ?_) (fun hq => ?_)) | (refine Zh4 (fun hq => ?_) (fun hq => ?_)) | (refine Zr3 (by simp only [go_sem]) rfl rfl (by first | omega | simp) (by first | omega | simp) (by simp only [go_sem]; omega) ?_) | (refine ⟨by omega, by omega, ?_⟩; refine Yn (by assumption) ?_) | (refine ⟨by omega, by omega, ?_⟩; intro row hrow; obtain ⟨x, hx, rfl⟩ := Vt hrow; clear hrow) | (refine ⟨by omega, by omega, ?_⟩; intro row hrow) | (refine ⟨by omega, ?_⟩; refine Yn (by assumption) ?_) | (skip)) <;> (refine HK _ _ ?_; clear HK K)) | refine ao0 rfl rfl ?_ | refine Wd rfl rfl rfl rfl (by (first | (assumption) | ((simp only [go_sem]; rfl)) | ((simp only [go_sem]; done)))) (by simp) (by simp only [go_sem]; rfl) (by (first | (assumption) | ((simp only [go_sem]; rfl)) | ((simp only [go_sem]; done)))) (by simp) (by (first | (assumption) | (exact Vb _) | (exact Xn _) | ((rw [Zf6]; exact Xn _)) | ((simp [Yr, D.one, Value.oneCell']; done)))) (by (first | (omega) | ((simp; done)) | ((simp; omega)) | ((simp [byD]; omega)))) ?_ | refine ao_appNB rfl rfl rfl rfl (by simp only [go_sem]; rfl) (by (first | (assumption) | ((simp only [go_sem]; rfl)) | ((simp only [go_sem]; done)))) (by simp) (by (first | (assumption) | (exact Vb _) | (exact Xn _) | ((rw [Zf6]; exact Xn _)) | ((simp [Yr, D.one, Value.oneCell']; done)))) (by (first | (omega) | ((simp; done)) | ((simp; omega)) | ((simp [byD]; omega)))) ?_ | refine ao_appR rfl rfl rfl (by (first | (assumption) | ((simp only [go_sem]; rfl)) | ((simp only [go_sem]; done)))) (by simp) (by simp only [go_sem]; rfl) rfl (by (first | (assumption) | (exact Vb _) | (exact Xn _) | ((rw [Zf6]; exact Xn _)) | ((simp [Yr, D.one, Value.oneCell']; done)))) (by (first | (omega) | ((simp; done)) | ((simp; omega)) | ((simp [byD]; omega)))) ?_ | refine Ym5 rfl rfl rfl (by simp only [go_sem]; rfl) rfl (by (first | (assumption) | (exact Vb _) | (exact Xn _) | ((rw [Zf6]; exact Xn _)) | ((simp [Yr, D.one, Value.oneCell']; done)))) (by (first | (omega) | ((simp; done)) | ((simp; omega)) | ((simp [byD]; omega)))) ?_ | (refine ao1' rfl fun K HK => ?_; simp only [go_sem]; refine HK _ _ ?_; clear HK K) | refine ao0' rfl ?_)
  | ((with_reducible refine Xf ?_); first | (refine aq1 rfl rfl fun K HK => ?_; (first | (refine Yo rfl ?_) | (skip)); simp only [go_sem]; (first | (refine X1 (fun hq => ?_) (fun hq => ?_)) | (refine Zh4 (fun hq => ?_) (fun hq => ?_)) | (refine Zr3 (by simp only [go_sem]) rfl rfl (by first | omega | simp) (by first | omega | simp) (by simp only [go_sem]; omega) ?_) | (refine ⟨by omega, by omega, ?_⟩; refine Yn (by assumption) ?_) | (refine ⟨by omega, by omega, ?_⟩; intro row hrow; obtain ⟨x, hx, rfl⟩ := Vt hrow; clear hrow) | (refine ⟨by omega, by omega, ?_⟩; intro row hrow) | (refine ⟨by omega, ?_⟩; refine Yn (by assumption) ?_) | (skip)) <;> (refine HK _ _ rfl ?_; clear HK K)) | refine aq0 rfl rfl ?_ | refine aq_nil ?_)
  | refine gg ?_
  | (exfalso; omega)
 · exact ⟨.inr rfl, endV hl0 rfl rfl (.inr ⟨by simpa using hnil, rfl, rfl⟩)⟩
 · exact ⟨.inr rfl, endBk (n := l.length) (rows := l.map strX) rfl (T := []) rfl (by simp) (by simp) (lowR_strs 1 l) (.inl ⟨rfl, rfl⟩)⟩
theorem clone_g (l : List ByteArray) (hl : l.length ≤ 100000) (h : List Ob) : Does Zc G 128 h [.sl 1 (l.map strX)] (fun h' r => h' = h ∧ r = .sl 1 (l.map strX)) := 
 Does.gave0 hG (Us l) (by rw [lowL, lowL]; exact ⟨Us l, trivial⟩) (by simp) (cloneS0 G hG l hl) h
end
section
def ov : Int := 1000000000000001
theorem Zi4 {a b : Int} (ha : 0 ≤ a) (hb : 0 ≤ b) : min (min a ov + min b ov) ov = min (a + b) ov := by unfold ov; omega
theorem sat_big {a t w : Int} (ha : 0 ≤ a) (ht : 0 ≤ t) (hw : 0 ≤ w) (h1 : 0 < min a ov) (h2 : 1000000000000000 / min a ov < min t ov + 1) : min (a * (t + 1) + w) ov = ov := by
 have h3 : 1000000000000000 < (min t ov + 1) * min a ov := (Int.ediv_lt_iff_lt_mul h1).1 h2
 have h4 : (min t ov + 1) * min a ov ≤ (t + 1) * a := Int.mul_le_mul (by omega) (by omega) (by omega) (by omega)
 rw [Int.mul_comm a (t + 1)]
 generalize (t + 1) * a = x at *
 generalize (min t ov + 1) * min a ov = y at *
 unfold ov; omega
theorem sat_small {a t : Int} (ha : 0 ≤ a) (ht : 0 ≤ t) (h : ¬ (0 < min a ov ∧ 1000000000000000 / min a ov < min t ov + 1)) : min a ov * (min t ov + 1) = a * (t + 1) ∧ a * (t + 1) ≤ 1000000000000000 := by
 by_cases h1 : 0 < min a ov
 · have h2 : min t ov + 1 ≤ 1000000000000000 / min a ov := by
    rcases Int.lt_or_le (1000000000000000 / min a ov) (min t ov + 1) with q | q
    · exact absurd ⟨h1, q⟩ h
    · exact q
   have h3 : (min t ov + 1) * min a ov ≤ 1000000000000000 := (Int.le_ediv_iff_mul_le h1).1 h2
   have h4 : (min t ov + 1) * 1 ≤ (min t ov + 1) * min a ov := Int.mul_le_mul_of_nonneg_left (by omega) (by unfold ov; omega)
   have h5 : 1 * min a ov ≤ (min t ov + 1) * min a ov := Int.mul_le_mul_of_nonneg_right (by unfold ov; omega) (by omega)
   have h6 : min t ov = t := by unfold ov at *; omega
   have h7 : min a ov = a := by unfold ov at *; omega
   rw [h6, h7] at h3 ⊢
   exact ⟨rfl, by rw [Int.mul_comm]; exact h3⟩
 · have : a = 0 := by unfold ov at h1; omega
   subst this
   have e : min 0 ov = 0 := by unfold ov; omega
   rw [e, Int.zero_mul, Int.zero_mul]
   exact ⟨rfl, by decide⟩
theorem sum_nn : ∀ l : List Int, (∀ x ∈ l, 0 ≤ x) → 0 ≤ l.sum
 | [], _ => by simp
 | x :: t, h => by
  have h1 := h x (by simp)
  have h2 := sum_nn t fun y hy => h y (by simp [hy])
  rw [List.sum_cons]; omega
theorem len_two {α : Type} {l : List α} (h : l.length = 2) : ∃ a b, l = [a, b] := by
 match l, h with
 | [a, b], _ => exact ⟨a, b, rfl⟩
theorem Zl9 : ∀ qs : List Lat, Zs6 qs = true → ∀ p ∈ qs, rkdR p = true
 | [], _, p, hp => by cases hp
 | q :: t, h, p, hp => by
  rw [Zs6, Za] at h
  rcases List.mem_cons.1 hp with rfl | hp
  · exact h.1
  · exact Zl9 t h.2 p hp
theorem Zz0 : ∀ qs : List Lat, finBs qs = true → ∀ p ∈ qs, finB p = true
 | [], _, p, hp => by cases hp
 | q :: t, h, p, hp => by
  rw [finBs, Za] at h
  rcases List.mem_cons.1 hp with rfl | hp
  · exact h.1
  · exact Zz0 t h.2 p hp
theorem Vu (f : Nat) : ∀ l : Lat, SizeOf.sizeOf l ≤ f → WfL l → rkdR l = true → finB l = true → (topV l).2 = true := by
 induction f with
 | zero => intro l hn; cases l; simp at hn
 | succ f ih =>
  intro l hn hwf hr hf
  have hk := hwf.kinds
  have hpart : ∀ p ∈ l.parts, rkdR p = true → finB p = true → (topV p).2 = true := fun p hp => ih p (by have := Yb hp; omega) (hwf.part hp)
  obtain ⟨k, lo, hi, ns, ps, rs⟩ := l
  simp only [Lat.kind, Lat.names, Lat.parts] at hk hpart
  rw [rkdR, Za] at hr
  rw [finB, Za] at hf
  have hrs := Zl9 ps hr.2
  have hfs := Zz0 ps hf.2
  have hr1 := hr.1
  have hf1 := hf.1
  have hkk : k = 1 ∨ k = 2 ∨ k = 3 ∨ k = 4 ∨ k = 5 ∨ (k = 6 ∨ k = 7) ∨ k = 8 ∨ k = 9 ∨ k = 10 := by omega
  rcases hkk with rfl | rfl | rfl | rfl | rfl | h67 | rfl | rfl | rfl
  · rw [topV]; rfl
  · rw [topV]; rfl
  · rw [topV]; rfl
  · rw [show topV (.mk 4 lo hi ns ps rs) = (.mk 0 ns [] [], decide (0 < ns.length)) by rw [topV]; rfl]
    simp at hf1
    exact decide_eq_true (List.length_pos_iff.2 hf1)
  · obtain ⟨p, rfl⟩ := List.length_eq_one_iff.1 (hk.2.1 rfl)
    rw [show topV (.mk 5 lo hi ns [p] rs) = Ve ns [p] by rw [topV]; rfl, Ve]
    have ht := hpart p (by simp) (hrs p (by simp)) (hfs p (by simp))
    simp at hf1
    cases V4 p
    · rw [if_neg (by decide), if_neg]
      rintro (q | q)
      · rw [ht] at q; cases q
      · exact hf1 (List.eq_nil_of_length_eq_zero q)
    · rfl
  · have e : (topV (.mk k lo hi ns ps rs)) = if Zd4 ps then (.mk 0 [] (Yb4 ps) [], true) else (Wx, false) := by rcases h67 with rfl | rfl <;> (rw [topV]; rfl)
    rw [e, if_pos ((Uo ps).2 fun p hp => hpart p hp (hrs p hp) (hfs p hp))]
  · simp at hr1
  · simp at hr1
  · simp at hr1
theorem Zs7 (f : Nat) : ∀ (l : Lat) (v : Val), SizeOf.sizeOf l ≤ f → WfL l → rkdR l = true → Y8 l v = true → 0 ≤ rkI l v := by
 induction f with
 | zero => intro l v hn; cases l; simp at hn
 | succ f ih =>
  intro l v hn hwf hr he
  have hk := hwf.kinds
  have hpart : ∀ p ∈ l.parts, rkdR p = true → ∀ x, Y8 p x = true → 0 ≤ rkI p x := fun p hp hq x hx => ih p x (by have := Yb hp; omega) (hwf.part hp) hq hx
  obtain ⟨k, lo, hi, ns, ps, rs⟩ := l
  simp only [Lat.kind, Lat.names, Lat.parts] at hk hpart
  have hrs : Zs6 ps = true := by rw [rkdR, Za] at hr; exact hr.2
  have hpp := Zl9 ps hrs
  rw [rkI]
  by_cases h1 : k = 1
  · subst h1; rw [if_pos rfl]; have := (isE_1.1 he).1; omega
  rw [if_neg h1]
  by_cases h2 : k = 2
  · subst h2; rw [if_pos rfl]; have := ((Zy1 (.inl rfl)).1 he).1; omega
  rw [if_neg h2]
  by_cases h3 : k = 3
  · subst h3; rw [if_pos rfl]; have := ((Zy1 (.inr rfl)).1 he).1; omega
  rw [if_neg h3]
  by_cases h4 : k = 4
  · subst h4; rw [if_pos rfl]; omega
  rw [if_neg h4]
  by_cases h5 : k = 5
  · subst h5
    rw [if_pos rfl]
    obtain ⟨p, rfl⟩ := List.length_eq_one_iff.1 (hk.2.1 rfl)
    have hm := (isE_5.1 he).2.2.2
    rw [rkMap]
    refine sum_nn _ fun x hx => ?_
    obtain ⟨y, hy, rfl⟩ := List.mem_map.1 hx
    exact hpart p (by simp) (hpp p (by simp)) y ((Zt8 p _).1 hm y hy).1
  rw [if_neg h5]
  have hE : k = 6 ∨ k = 7 → v.parts.length = ps.length ∧ W2 ps v.parts = true := fun q => ((isE_67 q).1 he).2
  have hS : ∀ (qs : List Lat) (vs : List Val), (∀ p ∈ qs, p ∈ ps) → W2 qs vs = true → vs.length = qs.length → 0 ≤ Xv qs vs := by
   intro qs
   induction qs with
   | nil => intro vs _ _ _; rw [Xv]; exact Int.le_refl _
   | cons p t iq =>
    intro vs hm h hl
    cases vs with
    | nil => simp at hl
    | cons x t' =>
     rw [W2, Za] at h
     have a := hpart p (hm p (by simp)) (hpp p (hm p (by simp))) x h.1
     have b := iq t' (fun q hq => hm q (by simp [hq])) h.2 (by simpa using hl)
     rw [Xv]; omega
  by_cases h6 : k = 6
  · subst h6
    rw [if_pos rfl]
    have := hE (.inl rfl)
    exact hS ps v.parts (fun _ h => h) this.2 this.1
  rw [if_neg h6]
  by_cases h7 : k = 7
  · subst h7
    rw [if_pos rfl]
    have hE := hE (.inr rfl)
    obtain ⟨p, q, rfl⟩ : ∃ p q, ps = [p, q] := len_two (hk.2.2.1 rfl)
    obtain ⟨x, y, hv⟩ : ∃ x y, v.parts = [x, y] := len_two hE.1
    rw [hv, W2, W2, Za, Za] at hE
    rw [hv, Zw2, Zw1]
    have hfq : finB q = true := by
     rw [rkdR, Za] at hr
     have := hr.1
     simpa [Uv] using this
    have hwq : WfL q := hwf.part (by simp [Lat.parts])
    have ht := Vu _ q (Nat.le_refl _) hwq (hpp q (by simp)) hfq
    have a := hpart p (by simp) (hpp p (by simp)) x hE.2.1
    have b := hpart q (by simp) (hpp q (by simp)) y hE.2.2.1
    have d := hpart q (by simp) (hpp q (by simp)) _ (J3 _ q (Nat.le_refl _) hwq ht)
    have := Int.mul_nonneg a (show 0 ≤ rkI q (topV q).1 + 1 by omega)
    omega
  · rw [if_neg h7]; exact Int.le_refl _
end
end Go.Proofs.YtbhkcbidcfofiaaGreat
