/-
  What the statements of the chapter share, part 39: QN4, QV3.
-/
import Derived.Test.YtbhkcbidcfofiaaGreatY14
import Derived.Test.YtbhkcbidcfofiaaGreatY26
import Derived.Test.YtbhkcbidcfofiaaGreatY29
import Derived.Test.YtbhkcbidcfofiaaGreatY37
import Derived.Test.YtbhkcbidcfofiaaGreatY38
set_option linter.unusedVariables false
set_option linter.unusedSimpArgs false
set_option maxRecDepth 100000
set_option maxHeartbeats 8000000
namespace Go.Proofs.YtbhkcbidcfofiaaGreat
open _root_.List renaming getElem?_eq_some_iff → Z5, length_cons → Z7, mem_of_getElem? → Z8, length_nil → Za, getElem?_eq_getElem → Zb, cons_append → Zc, length_map → Zd, nil_append → Ze
open _root_.Nat renaming le_refl → Z0, le_of_ble_eq_true → Z1, reduceEqDiff → Z2, reduceLeDiff → Z3, le_trans → Z4, reduceAdd → Z6, zero_le → Z9
open Go.RowKit
attribute [local irreducible] on aOp
attribute [local simp] byD_len
attribute [local go_sem] decide_true decide_false Bool.not_true Bool.not_false
attribute [local go_sem ↓] reduceIte
section
theorem holes_1 : holes 1 = [.hole] := rfl
theorem joinV_7' (l p q : Lat) (a b a0 a1 b0 b1 : Val) (h : l.kind = 7) (hp : l.parts = [p, q]) (ha : a.parts = [a0, a1]) (hb : b.parts = [b0, b1]) (he : valC a0 b0 = 0) : Xa l a b = .mk 0 [] [a0, Xa q a1 b1] [] := by
 obtain ⟨k, lo, hi, ns, ps, rs⟩ := l
 simp only [Lat.kind, Lat.parts] at h hp
 subst h hp
 rw [joinV_7 (by rw [ha, hb]; show decide (valC a0 b0 = 0) = true; rw [decide_eq_true he])]
 show Val.mk 0 [] (Uo [p, q] a.parts b.parts) [] = _
 rw [ha, hb, Uo, Zc3]
variable (G : Nat → D) (hG : ∀ g, low 0 (G g))
include hG
attribute [local go_sem] Bool.false_eq_true Int.reduceEq Int.reduceLE Int.reduceLT Zc Z7 Zd Za Ze Z6 Nat.reduceBEq Z2 Z3 Nat.reduceMul holes_1
theorem jn_lex (l p q : Lat) (a b a0 a1 b0 b1 : Val) (h7 : l.kind = 7) (hpq : l.parts = [p, q]) (hpa : a.parts = [a0, a1]) (hpb : b.parts = [b0, b1]) (hwf : WfL l) (sa : VSm a) (sb : VSm b) (ea : Ya l a = true) (eb : Ya l b = true) (hq : JnOk G q a1 b1) : JnOk G l a b := fun h => by
 have hx0 : l.parts[0]? = some p := by rw [hpq]; rfl
 have hx1 : l.parts[1]? = some q := by rw [hpq]; rfl
 have hl2 : l.parts.length = 2 := by rw [hpq]; rfl
 have hy0 : a.parts[0]? = some a0 := by rw [hpa]; rfl
 have hy1 : a.parts[1]? = some a1 := by rw [hpa]; rfl
 have hva : a.parts.length = 2 := by rw [hpa]; rfl
 have hz0 : b.parts[0]? = some b0 := by rw [hpb]; rfl
 have hz1 : b.parts[1]? = some b1 := by rw [hpb]; rfl
 have hvb : b.parts.length = 2 := by rw [hpb]; rfl
 have heq := Zq8 G hG a0 b0 (sa.part a0 (by rw [hpa]; simp)) (sb.part b0 (by rw [hpb]; simp))
 simp only [Y5 a0, Y5 b0] at heq
 by_cases hv : valC a0 b0 = 0
 · rw [decide_eq_true hv] at heq
   rw [joinV_7' l p q a b a0 a1 b0 b1 h7 hpq hpa hpb hv]
   refine Y9 G hG (by simp only [lowL, low]; exact ⟨Yp _ l, Yb _ a, Yb _ b, trivial⟩) (by rw [low]; exact Yb _ _) ?_ h
   clear h hpq hpa hpb
   unfold JnOk at hq
   have hlo := Yb 0 (.mk 0 [] [a0, Xa q a1 b1] [])
   rw [va_parts] at hlo ⊢
   simp only [List.map_cons, List.map_nil] at hlo ⊢
   have hli : low 0 (.sl 4 [vaX a0, vaX (Xa q a1 b1)]) := Vj 0 [a0, Xa q a1 b1] fun x _ => Yb 0 x
   have hlj : lowL 0 [D.agg (vaX a0), D.agg (vaX (Xa q a1 b1))] := by rw [lowL, lowL, lowL, low, low]; exact ⟨Yb 0 _, Yb 0 _, trivial⟩
   generalize Xa q a1 b1 = z at *
   simp only [Y4 q, Y5 a0, Y5 a1, Y5 b1, Y5 z] at hq hlo hli hlj ⊢
   refine Y6 Tryz.func75 rfl (Z1 rfl) hG fun hl0 _ => ?_
   simp only [Tryz.ntmps75]
   have F : _ ∧ _ ∧ _ ∧ _ ∧ _ ∧ _ ∧ _ ∧ _ ∧ _ ∧ _ ∧ _ ∧ _ := ⟨Y4 l, Y4 q, Y5 a, Y5 b, Y5 a0, Y5 a1, Y5 b0, Y5 b1, h7, hl2, hva, hvb⟩
   repeat' first
    | (with_reducible refine Yc ?_; refine aw_drawS 1 mixd (by kernel_rfl) ?_)
    | ((with_reducible refine gd_bS ?_); first | (refine bS_lit (i := 4) hG rfl rfl (by simp only [litD, Wb, go_sem, Z7, Za, Option.map_some, Option.bind_some, and_self, Y5 a0, Y5 z, ↓reduceIte, Z2, Z6, Z3, Nat.reduceBEq, Nat.reduceMul]; rfl) (by (first | (simp only [go_sem, F]; rfl) | (simp only [go_sem, F]; done))) (by show lowL 0 [ev G _ (.tmp 166), ev G _ (.tmp 179)]; simp only [go_sem, F]; exact hlj) (by exact hli) ?_) | (refine bS_bld1w rfl rfl rfl (by (first | (simp only [go_sem, F]; rfl) | (simp only [go_sem, F]; done))) (by simp) fun K HK => ?_; simp only [go_sem, F]; refine HK _ _ rfl ⟨_, Zj7 X7 (W7 _) X7, ?_⟩; clear HK K) | (refine bS1 rfl rfl fun K HK => ?_; simp only [go_sem, F]; (first | (refine ⟨by omega, ?_⟩; refine Yo (by assumption) ?_) | skip) <;> (refine HK _ _ rfl ?_; clear HK K)) | refine bS_load rfl rfl rfl (by (first | (simp only [go_sem, F]; rfl) | (simp only [go_sem, F]; done))) (by rw [getD_one (by simp only [go_sem, F])]; rfl) ?_ | refine bS_store rfl rfl (by (first | (simp only [go_sem, F]; rfl) | (simp only [go_sem, F]; done))) rfl (by simp only [go_sem, F]) (by simp) ?_ | refine bS_nil (by simp only [List.reverse_cons, List.reverse_nil, Ze, Zc, cpFA, cpF1]; repeat' (first | exact trivial | refine And.intro ?_ ?_ | exact .inr cmF_pl | exact .inr cmF_pr | exact .inr cmF_rr | exact .inr (cmF_rw (by omega)) | exact .inr (cmF_ww (by omega)) | exact .inl (by kernel_rfl))) ?_ | refine bS_call0 rfl rfl rfl Zc7 (fun h2 => heq _) ?_ | refine bS_call0 rfl rfl rfl ent_75 (fun h2 => hq _) ?_)
    | refine g0 ?_
    | fail
   all_goals first | (exfalso; omega) | exact ⟨.inr rfl, endD (r := .agg _) hl0 rfl (by simp) (by simp) rfl (by rw [low]; exact hlo) ⟨rfl, rfl⟩⟩
 · rw [decide_eq_false hv] at heq
   rw [joinV_e' l a b (.inr (.inr (.inr (.inr ⟨h7, by rw [hpa, hpb]; show decide (valC a0 b0 = 0) = false; rw [decide_eq_false hv]⟩))))]
   refine Y9 G hG (by simp only [lowL, low]; exact ⟨Yp _ l, Yb _ a, Yb _ b, trivial⟩) (by rw [low]; exact Yb _ _) ?_ h
   have q1 := leq_d G hG _ l a b (Z0 _) hwf sa sb ea eb
   have q2 := leq_d G hG _ l b a (Z0 _) hwf sb sa eb ea
   have hc12 : leqV l a b = true ∨ leqV l b a = true := by
    have hch : Wc p = true := by
     obtain ⟨p', q', e1, e2⟩ := hwf.chain h7
     rw [hpq] at e1; cases e1; exact e2
    have w1 := ((el67 (k := 7) (lo := l.lo) (hi := l.hi) (ns := l.names) (ps := l.parts) (rs := l.rules) (v := a) (.inr rfl)).1 (by rw [← h7]; cases l; exact ea)).1
    have w2 := ((el67 (k := 7) (lo := l.lo) (hi := l.hi) (ns := l.names) (ps := l.parts) (rs := l.rules) (v := b) (.inr rfl)).1 (by rw [← h7]; cases l; exact eb)).1
    rw [hpq, hpa] at w1
    rw [hpq, hpb] at w2
    obtain ⟨_, _, e1, x1, _⟩ := Yj.1 w1
    obtain ⟨_, _, e2, x2, _⟩ := Yj.1 w2
    cases e1; cases e2
    have := Zx7 _ p (Z0 _) hch a0 b0 x1 x2
    obtain ⟨kk, lo, hi, ns, ps, rs⟩ := l
    simp only [Lat.kind, Lat.parts] at h7 hpq
    subst h7 hpq
    have e1 : leqV (.mk 7 lo hi ns [p, q] rs) a b = leqV p a0 b0 := by rw [leqV_7, hpa, hpb, Yb1, if_neg hv]
    have e2 : leqV (.mk 7 lo hi ns [p, q] rs) b a = leqV p b0 a0 := by rw [leqV_7, hpa, hpb, Yb1, if_neg (fun e => hv (by rw [Vm]; omega))]
    rw [e1, e2]
    exact this
   clear h hpq hpa hpb hq
   have hla := Yb 0 a
   have hlb := Yb 0 b
   simp only [Y5 a, Y5 b] at hla hlb
   simp only [Y4 l, Y5 a, Y5 b, h7] at q1 q2
   refine Y6 Tryz.func75 rfl (Z1 rfl) hG fun hl0 _ => ?_
   simp only [Tryz.ntmps75]
   cases c1 : leqV l a b
   · rw [c1] at q1 hc12
     have c2 := hc12.resolve_left (by decide)
     rw [c2] at q2
     rw [if_neg (by decide), if_pos c2, Y5 a]
     have F : _ ∧ _ ∧ _ ∧ _ ∧ _ ∧ _ ∧ _ ∧ _ ∧ _ := ⟨Y4 l, Y5 a, Y5 b, Y5 a0, Y5 b0, h7, hl2, hva, hvb⟩
     repeat' first
      | (with_reducible refine Yc ?_; refine Y8 mixd (by kernel_rfl) ?_)
      | ((with_reducible refine X6 ?_); first | (refine aq1 rfl rfl fun K HK => ?_; simp only [go_sem, F]; (first | (refine ⟨by omega, ?_⟩; refine Yo (by assumption) ?_) | skip) <;> (refine HK _ _ rfl ?_; clear HK K)))
      | refine g0 ?_
      | (with_reducible refine Y7 ?_; first | refine gc rfl rfl rfl Uz (q1 _) ?_ | refine gc rfl rfl rfl Uz (q2 _) ?_)
      | (with_reducible refine X6 ?_; refine aq2 rfl rfl rfl Zc7 (heq _) ?_)
     all_goals first | (exfalso; omega) | exact ⟨.inr rfl, endD (r := .agg _) hl0 rfl (by simp) (by simp) rfl (by rw [low]; exact hla) ⟨rfl, rfl⟩⟩
   · rw [c1] at q1
     rw [if_pos rfl, Y5 b]
     have F : _ ∧ _ ∧ _ ∧ _ ∧ _ ∧ _ ∧ _ ∧ _ ∧ _ := ⟨Y4 l, Y5 a, Y5 b, Y5 a0, Y5 b0, h7, hl2, hva, hvb⟩
     repeat' first
      | (with_reducible refine Yc ?_; refine Y8 mixd (by kernel_rfl) ?_)
      | ((with_reducible refine X6 ?_); first | (refine aq1 rfl rfl fun K HK => ?_; simp only [go_sem, F]; (first | (refine ⟨by omega, ?_⟩; refine Yo (by assumption) ?_) | skip) <;> (refine HK _ _ rfl ?_; clear HK K)))
      | refine g0 ?_
      | (with_reducible refine Y7 ?_; refine gc rfl rfl rfl Uz (q1 _) ?_)
      | (with_reducible refine X6 ?_; refine aq2 rfl rfl rfl Zc7 (heq _) ?_)
     all_goals first | (exfalso; omega) | exact ⟨.inr rfl, endD (r := .agg _) hl0 rfl (by simp) (by simp) rfl (by rw [low]; exact hlb) ⟨rfl, rfl⟩⟩
theorem join_d {n : Nat} (hn : n ≤ 10000) (f : Nat) : ∀ l a b, SizeOf.sizeOf l ≤ f → Sm l → WfL l → (W3 l = true ∨ Yr1 G) → Ya l a = true → Ya l b = true → Bd n a → Bd n b → JnOk G l a b := by
 induction f with
 | zero => intro l a b hk; cases l; simp at hk
 | succ f ih =>
 intro l a b hk hsm hwf hd ea eb ba bb
 have sa := vsm_bd (by omega) _ l a (Z0 _) hwf ea ba
 have sb := vsm_bd (by omega) _ l b (Z0 _) hwf eb bb
 obtain ⟨hk0, hk5, hk7, hk6, _⟩ := hwf.kinds
 have hpp : ∀ p ∈ l.parts, ∀ x ∈ a.parts, ∀ y ∈ b.parts, Ya p x = true → Ya p y = true → JnOk G p x y := fun p hp x hx' y hy ex ey => ih p x y (by have := Yu hp; omega) (hsm.part p hp) (hwf.part hp) (hd.imp (fun h => (Zj4 h).2 p hp) id) ex ey (ba.part x hx') (bb.part y hy)
 by_cases h1 : l.kind = 1 ∨ l.kind = 2 ∨ l.kind = 3 ∨ l.kind = 8
 · exact jn_num G hG l a b h1 hwf sa sb ea eb
 by_cases h4 : l.kind = 4
 · have e1 : Ya (.mk 4 l.lo l.hi l.names l.parts l.rules) a = true := by rw [← h4]; cases l; exact ea
   have e2 : Ya (.mk 4 l.lo l.hi l.names l.parts l.rules) b = true := by rw [← h4]; cases l; exact eb
   exact jn_set G hG l a b h4 (Yv.1 (isE_4.1 e1).2).1 (Yv.1 (isE_4.1 e2).2).1 (Z4 ba.names hn) (Z4 bb.names hn)
 by_cases h10 : l.kind = 10
 · have e1 : Ya (.mk 10 l.lo l.hi l.names l.parts l.rules) a = true := by rw [← h10]; cases l; exact ea
   have e2 : Ya (.mk 10 l.lo l.hi l.names l.parts l.rules) b = true := by rw [← h10]; cases l; exact eb
   exact jn_clo G hG l a b h10 hsm hwf (hd.resolve_left fun h => (Zj4 h).1.2 h10) (isE_410 (.inr rfl) e1).2 (isE_410 (.inr rfl) e2).2 (Z4 ba.names hn) (Z4 bb.names hn)
 by_cases h9 : l.kind = 9
 · have e1 : Ya (.mk 9 l.lo l.hi l.names l.parts l.rules) a = true := by rw [← h9]; cases l; exact ea
   have e2 : Ya (.mk 9 l.lo l.hi l.names l.parts l.rules) b = true := by rw [← h9]; cases l; exact eb
   exact jn_reg G hG l a b h9 (Yo2.1 e1).2 (Yo2.1 e2).2 sa sb (Z4 ba.entries hn) (Z4 bb.entries hn)
 by_cases h5 : l.kind = 5
 · obtain ⟨p, hp⟩ := List.length_eq_one_iff.1 (hk5 h5)
   have e1 := Vh.1 (show Ya (.mk 5 l.lo l.hi l.names [p] l.rules) a = true by rw [← hp, ← h5]; cases l; exact ea)
   have e2 := Vh.1 (show Ya (.mk 5 l.lo l.hi l.names [p] l.rules) b = true by rw [← hp, ← h5]; cases l; exact eb)
   exact jn_map G hG l p a b h5 hp (Yv.1 e1.2.2.1).1 (Yv.1 e2.2.2.1).1 e1.2.1.symm e2.2.1.symm (Z4 ba.names hn) (Z4 bb.names hn) fun x hx' y hy => hpp p (by rw [hp]; simp) x hx' y hy (e1.2.2.2 x hx').1 (e2.2.2.2 y hy).1
 have w1 := fun (k : Int) (h : l.kind = k) (h' : k = 6 ∨ k = 7) => (el67 (k := k) (lo := l.lo) (hi := l.hi) (ns := l.names) (ps := l.parts) (rs := l.rules) (v := a) h').1 (by rw [← h]; cases l; exact ea)
 have w2 := fun (k : Int) (h : l.kind = k) (h' : k = 6 ∨ k = 7) => (el67 (k := k) (lo := l.lo) (hi := l.hi) (ns := l.names) (ps := l.parts) (rs := l.rules) (v := b) h').1 (by rw [← h]; cases l; exact eb)
 by_cases h6 : l.kind = 6
 · have p1 := (w1 6 h6 (.inl rfl)).1
   have p2 := (w2 6 h6 (.inl rfl)).1
   refine jn_prd G hG l a b h6 (by have := hk6 h6; omega) p1.1 p2.1 fun k p x y h1 h2 h3 => ?_
   obtain ⟨q1, r1⟩ := Z5.1 h1
   obtain ⟨q2, r2⟩ := Z5.1 h2
   obtain ⟨q3, r3⟩ := Z5.1 h3
   have t1 := (Ue l.parts a.parts p1.1).1 p1.2 k q1 q2
   have t2 := (Ue l.parts b.parts p2.1).1 p2.2 k q1 q3
   rw [r1, r2] at t1
   rw [r1, r3] at t2
   exact hpp p (Z8 h1) x (Z8 h2) y (Z8 h3) t1 t2
 · have h7 : l.kind = 7 := by omega
   obtain ⟨p, q, a0, a1, hpq, hpa, _, ha1, _⟩ := Zp5 hwf h7 ea
   obtain ⟨p', q', b0, b1, hpq', hpb, _, hb1, _⟩ := Zp5 hwf h7 eb
   rw [hpq] at hpq'
   cases hpq'
   exact jn_lex G hG l p q a b a0 a1 b0 b1 h7 hpq hpa hpb hwf sa sb ea eb (hpp q (by rw [hpq]; simp) a1 (by rw [hpa]; simp) b1 (by rw [hpb]; simp) ha1 hb1)
end
section
theorem ao_gv {P : Program} {G : Nat → D} {n : Nat} {e : Nat → D} {h : List Ob} {ops : Array Oper} {l : List Oper} {Q : S → Prop} (t' j : Nat) {n1 E1 k1 : Nat} {xs : List (List D)} (hx : e t' = .buf j n1) (hj : h[j]? = some (.buf E1 k1 xs)) (hn : xs.length = n1)
 (q : ao P G ops l Q ⟨n, upd e t' (.sl k1 xs), h.set j .dead⟩) : ao P G ops l Q ⟨n, e, h⟩ := by
 refine ao_give j t' ?_
 have e1 : cvD (fun i => i == j) h (e t') = .sl k1 xs := by rw [hx]; simp [cvD, cv1, hj, hn]
 rw [e1]
 exact q
theorem n3_s1 {A B C y : Ob} {T : List Ob} : (n3 A B C T).set 1 y = n3 A y C T := rfl
theorem bd_bot : ∀ (k : Nat) (l : Lat), SizeOf.sizeOf l ≤ k → WfL l → Bd 64 (botV l)
 | 0, l, hk, _ => by cases l; simp at hk
 | k + 1, l, hk, hw => by
  have hpp := fun p (hp : p ∈ l.parts) => bd_bot k p (by have := Yu hp; omega) (hw.part hp)
  obtain ⟨_, _, hk7, hk6, _⟩ := hw.kinds
  have flat : ∀ z : Int, Bd 64 (.mk z [] [] []) := fun z => .mk _ (Z9 _) (Z9 _) (Z9 _) (fun e he => by cases he) fun p hp => by cases hp
  obtain ⟨kd, lo, hi, ns, ps, rs⟩ := l
  simp only [Lat.kind, Lat.parts, Lat.names] at hpp hk7 hk6
  by_cases h2 : kd = 2
  · rw [botV, if_pos h2]; exact flat _
  by_cases h3 : kd = 3
  · rw [botV, if_neg h2, if_pos h3]; exact flat _
  by_cases h67 : kd = 6 ∨ kd = 7
  · rw [bot67 h67]
    refine .mk _ (Z9 _) ?_ (Z9 _) (fun e he => by cases he) fun p hp => ?_
    · show (ps.map botV).length ≤ 64
      rw [Zd]
      rcases h67 with h | h
      · have := hk6 h; omega
      · have := hk7 h; omega
    · obtain ⟨q, hq, rfl⟩ := List.mem_map.1 (show p ∈ ps.map botV from hp)
      exact hpp q hq
  · rw [bot_else h2 h3 (fun h => h67 (.inl h)) (fun h => h67 (.inr h))]; exact flat 0
def jaD (l : Lat) (L : List Val) : D := if errF l L = 0 then .tup [.agg (vaX (Zg5 l L)), .v (.int .i64 0)] else .tup [.agg (vaX Ub), .v (.int .i64 (errF l L))]
theorem low_jaD (l : Lat) (L : List Val) : low 0 (jaD l L) := by
 unfold jaD
 split
 · simp only [low, lowL]; exact ⟨Yb _ _, trivial, trivial⟩
 · simp only [low, lowL]; exact ⟨Yb _ _, trivial, trivial⟩
theorem Yh5 {l : Lat} {L : List Val} {k : Nat} {x : Val} (hx : L[k]? = some x) : Zg5 l (L.take (k + 1)) = Xa l (Zg5 l (L.take k)) x := by
 unfold Zg5
 rw [List.take_add_one, hx, List.foldl_append]; rfl
variable (G : Nat → D) (hG : ∀ g, low 0 (G g))
include hG
attribute [local go_sem] Int.reduceEq Int.reduceLE Int.reduceLT Int.toNat_natCast Zc Z7 Zd Za Ze Z6 Nat.reduceBEq Z2 Z3 Nat.reduceMul n3_0 n3_1 n3_2 Yh0 n3_l Yg9 n3_s1 n3_s2 n3_sl
theorem joinAll_d (l : Lat) (hsm : Sm l) (hd : chkE l = 0 → W3 l = true ∨ Yr1 G) (L : List Val) {m : Nat} (hL : ∀ v ∈ L, VSm v) (hB : ∀ v ∈ L, Bd m v) (hm : 64 + L.length * m ≤ 10000) (hl : L.length ≤ 10000) (h : List Ob) : Does Tryz.prog G 36 h [.agg (latX l), .sl 4 (L.map vaX)] (fun h' r => h' = h ∧ r = jaD l L) := by
 refine Y9 G hG (by simp only [lowL]; exact ⟨by rw [low]; exact Yp _ l, Wz L, trivial⟩) (low_jaD l L) ?_ h
 clear h
 have hck := jcheck_d G hG l hsm L hL (by omega)
 simp only [Y4 l] at hck
 have hlz := Yb 0 Ub
 rw [show vaX Ub = [.v (.int .i64 0), .sl 1 [], .sl 4 [], .sl 2 []] from va_n 0] at hlz
 unfold jaD
 by_cases h0 : errF l L = 0
 rotate_left
 · rw [if_neg h0, show vaX Ub = [.v (.int .i64 0), .sl 1 [], .sl 4 [], .sl 2 []] from va_n 0]
   generalize errF l L = E at *
   refine Y6 Tryz.func36 rfl (Z1 rfl) hG fun hl0 _ => ?_
   simp only [Tryz.ntmps36]
   have F : _ ∧ _ := ⟨Y4 l, h0⟩
   repeat' first
    | (with_reducible refine Y7 ?_; (refine Ze1 15 (.agg [.v (.int .i64 0), .v (.slice none 0 0), .v (.slice none 0 0), .v (.slice none 0 0)]) (.agg [.v (.int .i64 0), .sl 1 [], .sl 4 [], .sl 2 []]) (by with_unfolding_all rfl) (Zj7 X7 X7 X7) ?_))
    | refine g0 ?_
    | (with_reducible refine Y7 ?_; refine gc rfl rfl rfl ent_66 (hck _) ?_)
   all_goals first | (exfalso; omega) | exact ⟨.inr rfl, endD (ds := [.agg [.v (.int .i64 0), .sl 1 [], .sl 4 [], .sl 2 []], .v (.int .i64 E)]) (r := .tup [.agg [.v (.int .i64 0), .sl 1 [], .sl 4 [], .sl 2 []], .v (.int .i64 E)]) hl0 (by simp only [resD, Tryz.results36, go_sem, ↓reduceIte, Z2, Z6, Z3]; try rfl) (by simp) (by simp) (by simp [outD, cvD, cv1]) (by simp only [low, lowL]; exact ⟨hlz, trivial, trivial⟩) ⟨rfl, rfl⟩⟩
 rw [if_pos h0]
 rw [h0] at hck
 obtain ⟨hc, hev⟩ := Zt0.1 h0
 have hwf := Ut hc
 have hle := jleast_d G hG l hsm hc
 have hJ : ∀ k, Ya l (Zg5 l (L.take k)) = true := fun k => hwf.jl.fold_mem _ _ hwf.jl.bmem fun x hx => hev x (List.mem_of_mem_take hx)
 have hW : ∀ k, k ≤ L.length → Bd (64 + k * m) (Zg5 l (L.take k)) := fun k => by
  induction k with
  | zero => intro _; exact (bd_bot _ l (Z0 _) hwf).up (by omega)
  | succ k ih =>
   intro hk
   have hx : L[k]? = some L[k] := Zb hk
   rw [Yh5 hx]
   exact (bd_join (by omega) _ l _ _ (Z0 _) hwf (ih (by omega)) (hB _ (List.getElem_mem hk))).up (by rw [Nat.succ_mul]; omega)
 have hjn : ∀ k x, k < L.length → x ∈ L → JnOk G l (Zg5 l (L.take k)) x := fun k x hk hx => join_d G hG (n := 10000) (Z0 _) _ l _ _ (Z0 _) hsm hwf (hd hc) (hJ k) (hev x hx) ((hW k (by omega)).up (by have := Nat.mul_le_mul_right m (show k ≤ L.length by omega); omega)) ((hB x hx).up (by have := Nat.mul_le_mul_right m (show 1 ≤ L.length by omega); omega))
 have hcp := copied_d G hG (n := 10000) (by omega) _ (Zg5 l L) (Z0 _) (by have := hW L.length (Z0 _); rw [List.take_length] at this; exact this.up hm)
 have hlo := Yb 0 (Zg5 l L)
 have hb0 : Zg5 l (L.take 0) = botV l := rfl
 simp only [Y4 l] at hle
 refine Y6 Tryz.func36 rfl (Z1 rfl) hG fun hl0 _ => ?_
 simp only [Tryz.ntmps36]
 rw [← hb0] at hle
 obtain ⟨V0, hV0⟩ : ∃ V, Zg5 l (L.take 0) = V := ⟨_, rfl⟩
 rw [hV0] at hle
 simp only [Y5 V0] at hle
 have F : _ ∧ _ := ⟨Y4 l, Y5 V0⟩
 repeat' first
  | refine g0 ?_
  | (with_reducible refine Y7 ?_; first | refine gc rfl rfl rfl ent_66 (hck _) ?_ | refine gc rfl rfl rfl ent_74 (hle _) ?_)
 all_goals first | (exfalso; omega) | skip
 refine Yh (fun m e h' => ∃ (k : Nat) (T : List Ob), k ≤ L.length ∧ m = L.length - k ∧ h' = n3 (.cells (latX l)) (.cells [.v (.int .i64 0), .v (.slice none 0 0), .v (.slice none 0 0), .v (.slice none 0 0)]) (.cells (vaX (Zg5 l (L.take k)))) T ∧ e 2 = .ptr 0 0 ∧ e 4 = .ptr 1 0 ∧ e 7 = .ptr 2 0 ∧ e 19 = .sl 4 (L.map vaX) ∧ e 20 = .v (.int .i64 L.length) ∧ e 21 = .v (.int .i64 k)) L.length ⟨0, [], Z9 _, rfl, by rw [hV0, Y4 l, Y5 V0]; rfl, rfl, rfl, rfl, rfl, rfl, rfl⟩ ?_
 rintro m' e h' ⟨k, T, hk, rfl, rfl, e2, e4, e7, e19, e20, e21⟩
 by_cases hlt : k < L.length
 · have hx : L[k]? = some L[k] := Zb hlt
   have hj := hjn k _ hlt (List.getElem_mem hlt)
   unfold JnOk at hj
   have hst := Yh5 (l := l) hx
   generalize L[k] = x at hx hj hst
   generalize Zg5 l (L.take k) = v at *
   obtain ⟨z, hz⟩ : ∃ z, Xa l v x = z := ⟨_, rfl⟩
   rw [hz] at hj hst
   have wk : IntKind.i64.wrap ((k : Int) + 1) = (k : Int) + 1 := IntWalk.i64_in _ (by omega)
   simp only [Y4 l, Y5 v, Y5 x, Y5 z] at hj
   have F : _ ∧ _ ∧ _ ∧ _ ∧ _ ∧ _ ∧ _ ∧ _ ∧ _ ∧ _ ∧ _ := ⟨Y4 l, Y5 v, Y5 x, Y5 z, e2, e4, e7, e19, e20, e21, wk⟩
   repeat' first
    | refine gg ?_
    | refine Two.mk (fun hq => ?_) fun hq => ?_
    | (with_reducible refine Y7 ?_; refine gc rfl rfl rfl ent_75 (hj _) ?_)
    | (exfalso; omega)
   all_goals first | (exfalso; omega) | exact ⟨rfl, L.length - (k + 1), by omega, k + 1, _, hlt, rfl, (by rw [hst, Y4 l, Y5 z]), e2, e4, e7, e19, e20, rfl⟩
 obtain rfl : k = L.length := by omega
 rw [List.take_length] at *
 generalize Zg5 l L = v at *
 simp only [Y5 v] at hcp hlo ⊢
 have F : _ ∧ _ ∧ _ ∧ _ ∧ _ ∧ _ ∧ _ ∧ _ := ⟨Y4 l, Y5 v, e2, e4, e7, e19, e20, e21⟩
 repeat' first
  | refine gg ?_
  | refine Two.mk (fun hq => ?_) fun hq => ?_
  | refine Evry.mk fun x hx => ?_
  | (with_reducible refine Y7 ?_; refine gc rfl rfl rfl ent_72 (hcp _) ?_)
  | (exfalso; omega)
 all_goals first | (exfalso; omega) | exact ⟨.inr rfl, endD (ds := [.agg [.v (.int .i64 v.n), .sl 1 (v.names.map strX), .sl 4 (v.parts.map vaX), .sl 2 (v.entries.map enX)], .v (.int .i64 0)]) (r := .tup [.agg [.v (.int .i64 v.n), .sl 1 (v.names.map strX), .sl 4 (v.parts.map vaX), .sl 2 (v.entries.map enX)], .v (.int .i64 0)]) hl0 (by simp only [resD, Tryz.results36, go_sem, ↓reduceIte, Z2, Z6, Z3, e4, n3_1]; try rfl) (by simp) (by simp) (by simp [outD, cvD, cv1]) (by simp only [low, lowL]; exact ⟨hlo, trivial, trivial⟩) ⟨rfl, rfl⟩⟩
theorem Join_d (l : Lat) (hsm : Sm l) (hd : chkE l = 0 → W3 l = true ∨ Yr1 G) (a b : Val) (sa : VSm a) (sb : VSm b) {m : Nat} (ba : Bd m a) (bb : Bd m b) (hm : m ≤ 4000) (h : List Ob) : Does Tryz.prog G 30 h [.agg (latX l), .agg (vaX a), .agg (vaX b)] (fun h' r => h' = h ∧ r = jaD l [a, b]) := by
 refine Y9 G hG (by simp only [lowL, low]; exact ⟨Yp _ l, Yb _ a, Yb _ b, trivial⟩) (low_jaD l [a, b]) ?_ h
 clear h
 have h2 : ∀ x ∈ [a, b], VSm x := fun x hx => by rcases List.mem_cons.1 hx with rfl | hx; exact sa; rw [List.mem_singleton.1 hx]; exact sb
 have b2 : ∀ x ∈ [a, b], Bd m x := fun x hx => by rcases List.mem_cons.1 hx with rfl | hx; exact ba; rw [List.mem_singleton.1 hx]; exact bb
 have hja := joinAll_d G hG l hsm hd [a, b] h2 b2 (by simp only [Z7, Za]; omega) (by simp)
 have hlo := low_jaD l [a, b]
 obtain ⟨v, E, hv⟩ : ∃ v E, jaD l [a, b] = .tup [.agg (vaX v), .v (.int .i64 E)] := by
  unfold jaD; split
  · exact ⟨_, _, rfl⟩
  · exact ⟨_, _, rfl⟩
 rw [hv] at hja hlo ⊢
 simp only [low, lowL] at hlo
 simp only [List.map_cons, List.map_nil, Y4 l, Y5 a, Y5 b, Y5 v] at hja hlo ⊢
 refine Y6 Tryz.func30 rfl (Z1 rfl) hG fun hl0 _ => ?_
 simp only [Tryz.ntmps30]
 have F : _ ∧ _ ∧ _ ∧ _ := ⟨Y4 l, Y5 a, Y5 b, Y5 v⟩
 repeat' first
  | (with_reducible refine Y7 ?_; (refine ao_gv 11 4 (by with_unfolding_all rfl) (by (simp only [go_sem, F]; rfl)) (by simp) ?_))
  | refine g0 ?_
  | (with_reducible refine Y7 ?_; refine gc rfl rfl rfl ent_36 (hja _) ?_)
 all_goals first | (exfalso; omega) | exact ⟨.inr rfl, endD (ds := [.agg [.v (.int .i64 v.n), .sl 1 (v.names.map strX), .sl 4 (v.parts.map vaX), .sl 2 (v.entries.map enX)], .v (.int .i64 E)]) (r := .tup [.agg [.v (.int .i64 v.n), .sl 1 (v.names.map strX), .sl 4 (v.parts.map vaX), .sl 2 (v.entries.map enX)], .v (.int .i64 E)]) hl0 (by simp only [resD, Tryz.results30, go_sem, ↓reduceIte, Z2, Z6, Z3]; try rfl) (by simp) (by simp) (by simp [outD, cvD, cv1]) (by simp only [low, lowL]; exact ⟨hlo.1, trivial, trivial⟩) ⟨rfl, rfl⟩⟩
end
end Go.Proofs.YtbhkcbidcfofiaaGreat
