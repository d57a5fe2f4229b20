/-
  What the statements of the chapter share, part 16: LR1, QA2, QA3, QA4, QA5, CY, VA1.
-/
import Derived.Test.YtbhkcbidcfofiaaGreatY13
import Derived.Test.YtbhkcbidcfofiaaGreatY14
import Derived.Test.YtbhkcbidcfofiaaGreatY15
set_option linter.unusedVariables false
set_option linter.unusedSimpArgs false
set_option maxRecDepth 100000
set_option maxHeartbeats 8000000
namespace Go.Proofs.YtbhkcbidcfofiaaGreat
open _root_.Bool renaming not_false → Z5, true_and → Za, not_true → Zh, false_or → Zo, and_eq_true → Zq, or_true → Zw
open _root_.Int renaming reduceEq → Ze, reduceLE → Zf, reduceLT → Zg, toNat_natCast → Zp
open _root_.List renaming drop_eq_getElem_cons → Z1, getElem?_eq_getElem → Z2, getElem_mem → Z4, drop_eq_nil_of_le → Z9, all_eq_true → Zi, cons_append → Zj, length_cons → Zk, length_map → Zl, length_nil → Zm, nil_append → Zn, reverse_cons → Zr, reverse_nil → Zt, all_cons → Zu
open _root_.Nat renaming le_of_ble_eq_true → Z0, reduceEqDiff → Z6, reduceLeDiff → Z7, zero_le → Z8, reduceAdd → Zb, reduceBEq → Zc, reduceMul → Zd, le_refl → Zx
open _root_.Option renaming bind_some → Zs, map_some → Zv
open _root_.Go.Proofs.Tryz renaming prog → Z3
open Go.RowKit
section
mutual
def V4 : Lat → Bool
 | .mk k lo hi _ ps _ => if k = 2 ∨ k = 3 then decide (lo = hi) else if k = 5 ∨ k = 6 ∨ k = 7 then Zd3 ps else false
def Zd3 : List Lat → Bool
 | [] => true
 | p :: t => V4 p && Zd3 t
end
mutual
def topV : Lat → Val × Bool
 | .mk k lo hi ns ps _ => if k = 1 then (.mk 1 [] [] [], true) else if k = 2 then (.mk hi [] [] [], true) else if k = 3 then (.mk lo [] [] [], true) else if k = 8 then (.mk 2 [] [] [], true)
   else if k = 4 ∨ k = 10 then (.mk 0 ns [] [], decide (0 < ns.length)) else if k = 9 then (Wx, false)
   else if k = 5 then Ve ns ps else if Zd4 ps then (.mk 0 [] (Yb4 ps) [], true) else (Wx, false)
def Ve : List ByteArray → List Lat → Val × Bool
 | _, [] => (Wx, true)
 | ns, p :: _ => if V4 p then (Wx, true) else if (topV p).2 = false ∨ ns.length = 0 then (Wx, false) else (.mk 0 ns (List.replicate ns.length (topV p).1) [], true)
def Yb4 : List Lat → List Val
 | [] => []
 | p :: t => (topV p).1 :: Yb4 t
def Zd4 : List Lat → Bool
 | [] => true
 | p :: t => (topV p).2 && Zd4 t
end
theorem Za6 : ∀ l, Yb4 l = l.map fun p => (topV p).1
  | [] => by rw [Yb4]; rfl
  | p :: t => by rw [Yb4, Za6 t]; rfl
theorem topOk_eq : ∀ l, Zd4 l = l.all fun p => (topV p).2
  | [] => by rw [Zd4]; rfl
  | p :: t => by rw [Zd4, topOk_eq t]; rfl
theorem botV_eq (k lo hi : Int) (ns : List ByteArray) (ps : List Lat) (rs : List Rl) : botV (.mk k lo hi ns ps rs) = if k = 2 then .mk lo [] [] [] else if k = 3 then .mk hi [] [] [] else if k = 6 ∨ k = 7 then .mk 0 [] (ps.map botV) [] else Wx := by
 rw [botV, Zh2]
theorem WfL.named {l : Lat} (h : WfL l) (h6 : l.kind ≠ 6) : l.names.all Xz = true ∧ Xk l.names = true ∧ ∀ r ∈ l.rules, hasS l.names r.concl = true := by
 have h1 := h.spell
 have e6 : (l.kind == 6) = false := by simpa using h6
 unfold Zd5 at h1
 rw [Bool.not_eq_false', e6, Zt5, Zo, Zq, Zq] at h1
 refine ⟨h1.1.1, h1.1.2, fun r hr => ?_⟩
 have h3 := Zi.1 h1.2 r hr
 unfold Yh1 at h3
 simp only [Zq] at h3
 exact h3.2
theorem Zf7 {ns : List ByteArray} (h1 : ns.all Xz = true) (h2 : Xk ns = true) : Ye ns ns = true := by
 unfold Ye
 rw [h2, Za, Zi]
 intro s hs
 unfold memB
 rw [Zi.1 h1 s hs, (Yu ns s).2 hs, Zw]
 rfl
theorem closed_all {ns : List ByteArray} {rs : List Rl} (h : ∀ r ∈ rs, hasS ns r.concl = true) : W0 rs ns = true := by
 unfold W0
 rw [Zi]
 intro r hr
 rw [h r hr, Zw]
theorem Zg0 : ∀ ps : List Lat, Zd3 ps = true ↔ ∀ p ∈ ps, V4 p = true
 | [] => by rw [Zd3]; simp
 | p :: t => by rw [Zd3, Zq, Zg0 t]; simp
theorem Uo (ps : List Lat) : Zd4 ps = true ↔ ∀ p ∈ ps, (topV p).2 = true := by rw [topOk_eq, Zi]
theorem top_triv (f : Nat) : ∀ l : Lat, SizeOf.sizeOf l ≤ f → WfL l → (topV l).2 = true → (topV l).1 = botV l → V4 l = true := by
 induction f with
 | zero => intro l hn; cases l; simp at hn
 | succ f ih =>
  intro l hn hwf
  have hk := hwf.kinds
  have hpart : ∀ p ∈ l.parts, (topV p).2 = true → (topV p).1 = botV p → V4 p = true := fun p hp => ih p (by have := Yb hp; omega) (hwf.part hp)
  obtain ⟨k, lo, hi, ns, ps, rs⟩ := l
  simp only [Lat.kind, Lat.lo, Lat.hi, Lat.names, Lat.parts, Lat.rules] at hk hpart
  have hkk : k = 1 ∨ k = 2 ∨ k = 3 ∨ k = 4 ∨ k = 5 ∨ (k = 6 ∨ k = 7) ∨ k = 8 ∨ k = 9 ∨ k = 10 := by omega
  rw [botV_eq, V4]
  rcases hkk with rfl | rfl | rfl | rfl | rfl | h67 | rfl | rfl | rfl
  · rw [show topV (.mk 1 lo hi ns ps rs) = (.mk 1 [] [] [], true) by rw [topV]; rfl]; intro _ h; exact absurd (show (1 : Int) = 0 from congrArg Val.n h) (by decide)
  · rw [show topV (.mk 2 lo hi ns ps rs) = (.mk hi [] [] [], true) by rw [topV]; rfl]; intro _ h; exact decide_eq_true (congrArg Val.n h).symm
  · rw [show topV (.mk 3 lo hi ns ps rs) = (.mk lo [] [] [], true) by rw [topV]; rfl]; intro _ h; exact decide_eq_true (congrArg Val.n h)
  · rw [show topV (.mk 4 lo hi ns ps rs) = (.mk 0 ns [] [], decide (0 < ns.length)) by rw [topV]; rfl]; intro h1 h
    have h2 : ns = [] := congrArg Val.names h
    have h3 : 0 < ns.length := of_decide_eq_true h1
    rw [h2] at h3; exact absurd h3 (by decide)
  · obtain ⟨p, rfl⟩ := List.length_eq_one_iff.1 (hk.2.1 rfl)
    rw [show topV (.mk 5 lo hi ns [p] rs) = Ve ns [p] by rw [topV]; rfl]
    show (Ve ns [p]).2 = true → (Ve ns [p]).1 = Wx → Zd3 [p] = true
    rw [Ve]
    cases ht : V4 p
    · rw [if_neg (by decide)]
      by_cases hc : (topV p).2 = false ∨ ns.length = 0
      · rw [if_pos hc]; intro h; exact absurd h (by decide)
      · rw [if_neg hc]; intro _ h
        have h2 : ns = [] := congrArg Val.names h
        exact absurd (.inr (by rw [h2]; rfl)) hc
    · intro _ _
      exact (Zg0 [p]).2 (by intro q hq; rw [List.mem_singleton.1 hq]; exact ht)
  · have e : (topV (.mk k lo hi ns ps rs)) = if Zd4 ps then (.mk 0 [] (Yb4 ps) [], true) else (Wx, false) := by rcases h67 with rfl | rfl <;> (rw [topV]; rfl)
    have e2 : (if k = 2 then Val.mk lo [] [] [] else if k = 3 then .mk hi [] [] [] else if k = 6 ∨ k = 7 then .mk 0 [] (ps.map botV) [] else Wx) = .mk 0 [] (ps.map botV) [] := by rw [if_neg (by omega), if_neg (by omega), if_pos h67]
    have e3 : (if k = 2 ∨ k = 3 then decide (lo = hi) else if k = 5 ∨ k = 6 ∨ k = 7 then Zd3 ps else false) = Zd3 ps := by rw [if_neg (by omega), if_pos (.inr h67)]
    rw [e, e2, e3]
    cases ho : Zd4 ps
    · rw [if_neg (by decide)]; intro h; exact absurd (show false = true from h) (by decide)
    · rw [if_pos rfl, Za6]
      intro _ h
      have h2 : ps.map (fun p => (topV p).1) = ps.map botV := congrArg Val.parts h
      exact (Zg0 ps).2 fun p hp => hpart p hp ((Uo ps).1 ho p hp) (by
        have := List.map_inj_left.1 h2 p hp
        exact this)
  · rw [show topV (.mk 8 lo hi ns ps rs) = (.mk 2 [] [] [], true) by rw [topV]; rfl]; intro _ h; exact absurd (show (2 : Int) = 0 from congrArg Val.n h) (by decide)
  · rw [show topV (.mk 9 lo hi ns ps rs) = (Wx, false) by rw [topV]; rfl]; intro h; exact absurd h (by decide)
  · rw [show topV (.mk 10 lo hi ns ps rs) = (.mk 0 ns [] [], decide (0 < ns.length)) by rw [topV]; rfl]; intro h1 h
    have h2 : ns = [] := congrArg Val.names h
    have h3 : 0 < ns.length := of_decide_eq_true h1
    rw [h2] at h3; exact absurd h3 (by decide)
theorem J3 (f : Nat) : ∀ l : Lat, SizeOf.sizeOf l ≤ f → WfL l → (topV l).2 = true → Y8 l (topV l).1 = true := by
 induction f with
 | zero => intro l hn; cases l; simp at hn
 | succ f ih =>
  intro l hn hwf
  have hk := hwf.kinds
  have hr := hwf.ranges
  have hna := hwf.named
  have hpart : ∀ p ∈ l.parts, (topV p).2 = true → Y8 p (topV p).1 = true := fun p hp => ih p (by have := Yb hp; omega) (hwf.part hp)
  have htr : ∀ p ∈ l.parts, (topV p).2 = true → (topV p).1 = botV p → V4 p = true := fun p hp => top_triv _ p (Zx _) (hwf.part hp)
  have hlo : l.lo ≤ l.hi := by
   have := of_decide_eq_false hr
   omega
  obtain ⟨k, lo, hi, ns, ps, rs⟩ := l
  have hlo' : lo ≤ hi := hlo
  have hkk : k = 1 ∨ k = 2 ∨ k = 3 ∨ k = 4 ∨ k = 5 ∨ (k = 6 ∨ k = 7) ∨ k = 8 ∨ k = 9 ∨ k = 10 := by
   have h1 : 1 ≤ k := hk.1.1
   have h2 : k ≤ 10 := hk.1.2
   omega
  rcases hkk with rfl | rfl | rfl | rfl | rfl | h67 | rfl | rfl | rfl
  · rw [show topV (.mk 1 lo hi ns ps rs) = (.mk 1 [] [] [], true) by rw [topV]; rfl]; intro _; exact isE_1.2 ⟨.inr rfl, rfl, rfl, rfl⟩
  · rw [show topV (.mk 2 lo hi ns ps rs) = (.mk hi [] [] [], true) by rw [topV]; rfl]; intro _; exact (Zy1 (.inl rfl)).2 ⟨⟨hlo', Int.le_refl _⟩, rfl, rfl, rfl⟩
  · rw [show topV (.mk 3 lo hi ns ps rs) = (.mk lo [] [] [], true) by rw [topV]; rfl]; intro _; exact (Zy1 (.inr rfl)).2 ⟨⟨Int.le_refl _, hlo'⟩, rfl, rfl, rfl⟩
  · have hn := hna (show (4 : Int) ≠ 6 by decide)
    rw [show topV (.mk 4 lo hi ns ps rs) = (.mk 0 ns [] [], decide (0 < ns.length)) by rw [topV]; rfl]; intro _; exact Zy0.2 ⟨⟨rfl, rfl, rfl⟩, Zf7 hn.1 hn.2.1⟩
  · obtain ⟨p, rfl⟩ := List.length_eq_one_iff.1 (hk.2.1 rfl)
    have hn := hna (show (5 : Int) ≠ 6 by decide)
    have hE := ih
    rw [show topV (.mk 5 lo hi ns [p] rs) = Ve ns [p] by rw [topV]; rfl]
    show (Ve ns [p]).2 = true → Y8 (.mk 5 lo hi ns [p] rs) (Ve ns [p]).1 = true
    rw [Ve]
    cases ht : V4 p
    · rw [if_neg (by decide)]
      by_cases hc : (topV p).2 = false ∨ ns.length = 0
      · rw [if_pos hc]; intro h; exact absurd h (by decide)
      · rw [if_neg hc]; intro _
        have h1 : (topV p).2 = true := by
         cases h : (topV p).2
         · exact absurd (.inl h) hc
         · rfl
        have h2 := hpart p (by simp [Lat.parts]) h1
        have h3 : valC (topV p).1 (botV p) ≠ 0 := fun e => by
         have := htr p (by simp [Lat.parts]) h1 ((Yq _ _).1 e)
         rw [ht] at this; exact absurd this (by decide)
        exact isE_5.2 ⟨⟨rfl, rfl⟩, by simp [Val.names, Val.parts], Zf7 hn.1 hn.2.1, (Zt8 p _).2 fun v hv => by rw [List.eq_of_mem_replicate hv]; exact ⟨h2, h3⟩⟩
    · intro _
      rw [if_pos rfl]
      exact isE_5.2 ⟨⟨rfl, rfl⟩, rfl, rfl, (Zt8 p []).2 fun v hv => by cases hv⟩
  · have e : (topV (.mk k lo hi ns ps rs)) = if Zd4 ps then (.mk 0 [] (Yb4 ps) [], true) else (Wx, false) := by rcases h67 with rfl | rfl <;> (rw [topV]; rfl)
    rw [e]
    cases ho : Zd4 ps
    · rw [if_neg (by decide)]; intro h; exact absurd (show false = true from h) (by decide)
    · rw [if_pos rfl, Za6]
      intro _
      have h1 : W2 ps (ps.map fun p => (topV p).1) = true := (Zh1 ps _ (by rw [Zl])).2 fun i h h' => by
       rw [List.getElem_map]
       exact hpart _ (Z4 h) ((Uo ps).1 ho _ (Z4 h))
      exact (isE_67 h67).2 ⟨⟨rfl, rfl, rfl⟩, by simp [Val.parts], h1⟩
  · rw [show topV (.mk 8 lo hi ns ps rs) = (.mk 2 [] [] [], true) by rw [topV]; rfl]; intro _; exact isE_8.2 ⟨rfl, rfl, .inr (.inl ⟨rfl, rfl⟩)⟩
  · rw [show topV (.mk 9 lo hi ns ps rs) = (Wx, false) by rw [topV]; rfl]; intro h; exact absurd h (by decide)
  · have hn := hna (show (10 : Int) ≠ 6 by decide)
    rw [show topV (.mk 10 lo hi ns ps rs) = (.mk 0 ns [] [], decide (0 < ns.length)) by rw [topV]; rfl]; intro _; exact isE_10.2 ⟨⟨rfl, rfl, rfl⟩, Zf7 hn.1 hn.2.1, closed_all hn.2.2⟩
/-! Descriptions that have ranks. -/
mutual
def finB : Lat → Bool
 | .mk k _ _ ns ps _ => !(decide (k = 9) || decide (k = 4 ∨ k = 8 ∨ k = 5) && decide (ns.length = 0)) && finBs ps
def finBs : List Lat → Bool
 | [] => true
 | p :: t => finB p && finBs t
end
mutual
def U4 : Lat → Bool
 | .mk k _ _ _ ps _ => !decide (k = 8 ∨ k = 10) && Vm ps
def Vm : List Lat → Bool
 | [] => true
 | p :: t => U4 p && Vm t
end
def Uv (ps : List Lat) : Bool := match ps with | _ :: q :: _ => finB q | _ => true
mutual
def rkdB : Lat → Bool
 | .mk k _ _ _ ps _ => !(decide (k = 9) || decide (k = 7) && !Uv ps) && Yh6 ps
def Yh6 : List Lat → Bool
 | [] => true
 | p :: t => rkdB p && Yh6 t
end
mutual
def rkdR : Lat → Bool
 | .mk k _ _ _ ps _ => !(decide (k = 9 ∨ k = 8 ∨ k = 10) || decide (k = 7) && !Uv ps) && Zs6 ps
def Zs6 : List Lat → Bool
 | [] => true
 | p :: t => rkdR p && Zs6 t
end
theorem rkdR_eq : ∀ l : Lat, rkdR l = (U4 l && rkdB l)
 | .mk k _ _ _ ps _ => by
  have hs : Zs6 ps = (Vm ps && Yh6 ps) := go ps
  rw [rkdR, U4, rkdB, hs]
  generalize Uv ps = a
  by_cases h9 : k = 9
  · subst h9; simp
  by_cases h8 : k = 8
  · subst h8; simp
  by_cases h10 : k = 10
  · subst h10; simp
  · simp only [h9, h8, h10, or_self, decide_false, Zo, Z5, Za]
    cases (decide (k = 7) && !a) <;> cases Vm ps <;> rfl
where go : ∀ ps : List Lat, Zs6 ps = (Vm ps && Yh6 ps)
 | [] => by rw [Zs6, Vm, Yh6]; rfl
 | p :: t => by
  rw [Zs6, Vm, Yh6, go t, rkdR_eq p]
  cases U4 p <;> cases rkdB p <;> cases Vm t <;> rfl
mutual
def rkI : Lat → Val → Int
 | .mk k lo hi _ ps _, v =>
   if k = 1 then v.n else if k = 2 then v.n - lo else if k = 3 then hi - v.n else if k = 4 then v.names.length
   else if k = 5 then rkMap ps v.parts else if k = 6 then Xv ps v.parts else if k = 7 then Zw2 ps v.parts else 0
def rkMap : List Lat → List Val → Int
 | [], _ => 0
 | p :: _, vs => (vs.map fun v => rkI p v).sum
def Xv : List Lat → List Val → Int
 | p :: ps, v :: vs => rkI p v + Xv ps vs
 | [], _ => 0
 | _ :: _, [] => 0
def Zw2 : List Lat → List Val → Int
 | p :: ps, v :: vs => Zw1 (rkI p v) ps vs
 | [], _ => 0
 | _ :: _, [] => 0
def Zw1 (c : Int) : List Lat → List Val → Int
 | q :: _, w :: _ => c * (rkI q (topV q).1 + 1) + rkI q w
 | [], _ => 0
 | _ :: _, [] => 0
end
end
section
attribute [local irreducible] on aOp
attribute [local go_sem] decide_true decide_false Zh Z5
attribute [local simp] byD_len
def TellsL (G : Nat → D) (g : FuncId) (caps : List D) (p : Lat → Bool) (l : List Lat) (h : List Ob) : Prop := ∀ c ∈ l, Does Z3 G g h (.agg (latX c) :: caps) (fun h' r => h' = h ∧ r = .v (.bool (p c)))
theorem Ya0 : ∀ {ps : List Lat}, Vm ps = true ↔ ∀ p ∈ ps, U4 p = true
 | [] => by rw [Vm]; simp
 | p :: t => by rw [Vm, Zq, Ya0]; simp
theorem Vi {l : Lat} (hwf : WfL l) : l.parts.length ≤ 1000000 := by
 obtain ⟨_, h5, h7, h6, h0, _⟩ := hwf.kinds
 by_cases e5 : l.kind = 5
 · rw [h5 e5]; omega
 by_cases e6 : l.kind = 6
 · have := h6 e6; omega
 by_cases e7 : l.kind = 7
 · rw [h7 e7]; omega
 · rw [h0 e5 e6 e7]; omega
variable (G : Nat → D) (hG : ∀ g, low 0 (G g))
attribute [local go_sem] Ze Zf Zg Zp Zl Zb Zc Z6 Z7 Zd
attribute [local go_sem ↓] reduceIte
theorem indexL_s (l : List Lat) (p : Lat → Bool) (g : FuncId) (caps : List D) (he : entB Z3 g = true) (hsz : l.length ≤ 1000000) (h : List Ob) (ht : TellsL G g caps p l h) :
 Does Z3 G 139 h [.sl 6 (l.map latX), .fn g caps] (fun h' r => h' = h ∧ ∃ z, r = .v (.int .i64 z) ∧ decide (0 ≤ z) = l.any p) := by
 refine Vl Tryz.func139 rfl (Z0 rfl) ?_
 simp only [Tryz.ntmps139]
 repeat' first
  | refine g0 ?_
  | fail
 refine Yh (fun m e h' => ∃ k : Nat, k ≤ l.length ∧ m = l.length - k ∧ l.any p = (l.drop k).any p ∧ h' = h ∧ e 0 = .sl 6 (l.map latX) ∧ e 1 = .fn g caps ∧ e 7 = .v (.int .i64 l.length) ∧ e 8 = .v (.int .i64 k)) l.length ⟨0, Z8 _, rfl, rfl, rfl, rfl, rfl, rfl, rfl⟩ ?_
 rintro m e h' ⟨k, hk, rfl, ha, rfl, e0, e1, e7, e8⟩
 by_cases hlt : k < l.length
 · have hx : l[k]? = some l[k] := Z2 hlt
   have hd : l.drop k = l[k] :: l.drop (k + 1) := Z1 hlt
   have hc := ht _ (Z4 hlt)
   generalize l[k] = x at hx hd hc
   rw [hd, List.any_cons] at ha
   have wk : IntKind.i64.wrap ((k : Int) + 1) = (k : Int) + 1 := IntWalk.i64_in _ (by omega)
   simp only [Y4 x] at hc
   cases hpx : p x
   · rw [hpx] at hc ha
     have F : _ ∧ _ ∧ _ ∧ _ ∧ _ ∧ _ := ⟨e0, e1, e7, e8, Y4 x, wk⟩
     repeat' first
      | (with_reducible refine Y7 ?_; (refine ao_callK rfl rfl rfl he hc ?_; rintro _ _ ⟨rfl, rfl⟩))
      | refine gg ?_
      | refine Two.mk (fun hq => ?_) fun hq => ?_
      | (exfalso; omega)
     exact ⟨rfl, l.length - (k + 1), by omega, k + 1, by omega, rfl, ha, rfl, e0, e1, e7, rfl⟩
   · rw [hpx] at hc ha
     have F : _ ∧ _ ∧ _ ∧ _ ∧ _ ∧ _ := ⟨e0, e1, e7, e8, Y4 x, wk⟩
     repeat' first
      | (with_reducible refine Y7 ?_; (refine ao_callK rfl rfl rfl he hc ?_; rintro _ _ ⟨rfl, rfl⟩))
      | refine gg ?_
      | refine Two.mk (fun hq => ?_) fun hq => ?_
      | (exfalso; omega)
     exact ⟨.inr rfl, [.v (.int .i64 k)], rfl, rfl, _, rfl, by rw [ha, decide_eq_true (by omega)]; rfl⟩
 · skip
   have F : _ ∧ _ ∧ _ ∧ _ := ⟨e0, e1, e7, e8⟩
   repeat' first
    | refine gg ?_
    | refine Two.mk (fun hq => ?_) fun hq => ?_
    | refine Evry.mk fun x hx => ?_
    | (exfalso; omega)
   exact ⟨.inr rfl, [.v (.int .i64 (-1))], rfl, rfl, _, rfl, by rw [ha, Z9 (by omega)]; rfl⟩
theorem Zk3 (l : List Lat) (p : Lat → Bool) (g : FuncId) (caps : List D) (he : entB Z3 g = true) (hsz : l.length ≤ 1000000) (h : List Ob) (ht : TellsL G g caps p l h) :
 Does Z3 G 81 h [.sl 6 (l.map latX), .fn g caps] (fun h' r => h' = h ∧ r = .v (.bool (l.any p))) := by
 have hi := indexL_s G l p g caps he hsz h ht
 refine Vl Tryz.func81 rfl (Z0 rfl) ?_
 simp only [Tryz.ntmps81]
 repeat' first
  | refine gg ?_
  | refine Two.mk (fun hq => ?_) fun hq => ?_
  | (with_reducible refine Y7 ?_; (refine ao2 rfl rfl rfl ent_139 (hi) ?_; rintro _ _ ⟨rfl, z, rfl, hz⟩))
 all_goals exact ⟨.inr rfl, [.v (.bool (l.any p))], (by simp only [resD, Tryz.results81, go_sem, ↓reduceIte, Z6, hq]; rw [← hz]; first | rfl | simp [hq]), rfl, rfl⟩
include hG
theorem nDist_d (c : Lat) {b : Bool} (hc : ∀ h, Does Z3 G 41 h [.agg (latX c)] (fun h' r => h' = h ∧ r = .v (.bool b))) : Does Z3 G 82 [] [.agg (latX c)] (fun h' r => h' = [] ∧ r = .v (.bool (!b))) := by
 simp only [Y4 c] at hc
 refine Y5 Tryz.func82 rfl (Z0 rfl) hG fun hl0 _ => ?_
 simp only [Tryz.ntmps82]
 have F := Y4 c
 repeat' first
  | refine g0 ?_
  | (with_reducible refine Y7 ?_; refine gc rfl rfl rfl ent_41 (hc _) ?_)
 exact ⟨.inr rfl, endV hl0 rfl rfl ⟨rfl, rfl⟩⟩
theorem dist_d (f : Nat) : ∀ l : Lat, SizeOf.sizeOf l ≤ f → WfL l → ∀ h : List Ob, Does Z3 G 41 h [.agg (latX l)] (fun h' r => h' = h ∧ r = .v (.bool (U4 l))) := by
 induction f with
 | zero => intro l hn; cases l; simp at hn
 | succ f ih =>
 intro l hn hwf h
 refine Ya G hG (by rw [lowL, lowL, low]; exact ⟨Yy _ l, trivial⟩) (by rw [low]; trivial) ?_ h
 clear h
 have hpl : l.parts.length ≤ 1000000 := Vi hwf
 have hcf := Zk3 G l.parts (fun c => !U4 c) 82 [] ent_82 hpl [.cells (latX l)] (fun c hc => Ya G hG (by rw [lowL, lowL, low]; exact ⟨Yy _ c, trivial⟩) (by rw [low]; trivial) (nDist_d G hG c (ih c (by have := Yb hc; omega) (hwf.part hc))) _)
 have e1 : U4 l = (!decide (l.kind = 8 ∨ l.kind = 10) && !(l.parts.any fun c => !U4 c)) := by
  obtain ⟨k, lo, hi, ns, ps, rs⟩ := l
  rw [U4]
  show (_ && Vm ps) = (_ && !(ps.any fun c => !U4 c))
  rw [show Vm ps = !(ps.any fun c => !U4 c) by rw [Bool.eq_iff_iff, Ya0, Bool.not_eq_true', List.any_eq_false]; simp]
  rfl
 rw [e1]
 simp only [Y4 l] at hcf
 generalize (l.parts.any fun c => !U4 c) = bb at *
 refine Y5 Tryz.func41 rfl (Z0 rfl) hG fun hl0 _ => ?_
 simp only [Tryz.ntmps41]
 by_cases h8 : l.kind = 8
 · rw [decide_eq_true (.inl h8)]
   have F : _ ∧ _ := ⟨Y4 l, h8⟩
   repeat' first
    | refine g0 ?_
    | fail
   all_goals exact ⟨.inr rfl, endD (r := .v (.bool false)) hl0 rfl (by simp) (by simp) rfl (by rw [low]; trivial) ⟨rfl, rfl⟩⟩
 by_cases h10 : l.kind = 10
 · rw [decide_eq_true (.inr h10)]
   have F : _ ∧ _ := ⟨Y4 l, h10⟩
   repeat' first
    | refine g0 ?_
    | fail
   all_goals exact ⟨.inr rfl, endD (r := .v (.bool false)) hl0 rfl (by simp) (by simp) rfl (by rw [low]; trivial) ⟨rfl, rfl⟩⟩
 rw [decide_eq_false (by omega)]
 repeat' first
  | (with_reducible first | refine sA rfl ?_ | refine sT rfl ?_)
  | (with_reducible refine Y7 ?_; first | refine Xi ?_ | (refine ao1 rfl rfl fun K HK => ?_; (first | refine Yo rfl ?_ | skip); simp only [go_sem, Y4 l, h8, h10, not_false_eq_true] <;> (refine HK _ _ ?_; clear HK K)) | (refine ao2 rfl rfl rfl ent_81 (hcf) ?_; rintro _ _ ⟨rfl, rfl⟩))
 all_goals first | (exfalso; omega) | exact ⟨.inr rfl, endD (r := .v (.bool (!bb))) hl0 rfl (by simp) (by simp) rfl (by rw [low]; trivial) ⟨rfl, rfl⟩⟩
end
section
attribute [local irreducible] on aOp
attribute [local go_sem] decide_true decide_false Zh Z5
attribute [local simp] byD_len
theorem finBs_all : ∀ ps : List Lat, finBs ps = ps.all finB
 | [] => by rw [finBs]; rfl
 | p :: t => by rw [finBs, finBs_all t]; rfl
theorem rkdBs_all : ∀ ps : List Lat, Yh6 ps = ps.all rkdB
 | [] => by rw [Yh6]; rfl
 | p :: t => by rw [Yh6, rkdBs_all t]; rfl
theorem rkdRs_all : ∀ ps : List Lat, Zs6 ps = ps.all rkdR
 | [] => by rw [Zs6]; rfl
 | p :: t => by rw [Zs6, rkdRs_all t]; rfl
theorem Zz1 (l : Lat) : finB l = (!(decide (l.kind = 9) || decide (l.kind = 4 ∨ l.kind = 8 ∨ l.kind = 5) && decide (l.names.length = 0)) && l.parts.all finB) := by
 obtain ⟨k, lo, hi, ns, ps, rs⟩ := l
 rw [finB, finBs_all]; rfl
theorem rkdB_eq (l : Lat) : rkdB l = (!(decide (l.kind = 9) || decide (l.kind = 7) && !Uv l.parts) && l.parts.all rkdB) := by
 obtain ⟨k, lo, hi, ns, ps, rs⟩ := l
 rw [rkdB, rkdBs_all]; rfl
theorem Zm0 (l : Lat) : rkdR l = (!(decide (l.kind = 9 ∨ l.kind = 8 ∨ l.kind = 10) || decide (l.kind = 7) && !Uv l.parts) && l.parts.all rkdR) := by
 obtain ⟨k, lo, hi, ns, ps, rs⟩ := l
 rw [rkdR, rkdRs_all]; rfl
theorem all_not {α : Type} (p : α → Bool) (l : List α) : l.all p = !(l.any fun c => !p c) := by
 rw [Bool.eq_iff_iff, Zi, Bool.not_eq_true', List.any_eq_false]; simp
variable (G : Nat → D) (hG : ∀ g, low 0 (G g))
include hG
attribute [local go_sem] Ze Zf Zg Zp Zj List.getElem?_cons_succ List.getElem?_cons_zero List.length_append Zk Zl Zm Zn List.set_cons_succ List.set_cons_zero Zb Zc Z6 Z7 Zd
attribute [local go_sem ↓] reduceIte
theorem fin_d (f : Nat) : ∀ l : Lat, SizeOf.sizeOf l ≤ f → WfL l → ∀ h : List Ob, Does Z3 G 115 h [.agg (latX l)] (fun h' r => h' = h ∧ r = .v (.bool (finB l))) := by
 induction f with
 | zero => intro l hn; cases l; simp at hn
 | succ f ih =>
 intro l hn hwf h
 refine Ya G hG (by rw [lowL, lowL, low]; exact ⟨Yy _ l, trivial⟩) (by rw [low]; trivial) ?_ h
 clear h
 have hpl : l.parts.length ≤ 1000000 := Vi hwf
 have hpp : ∀ p ∈ l.parts, ∀ (b : Bool), finB p = b → ∀ h, Does Z3 G 115 h [.agg (latX p)] (fun h' r => h' = h ∧ r = .v (.bool b)) := fun p hp b hb => hb ▸ ih p (by have := Yb hp; omega) (hwf.part hp)
 rw [Zz1]
 refine Y5 Tryz.func115 rfl (Z0 rfl) hG fun hl0 _ => ?_
 simp only [Tryz.ntmps115]
 by_cases h9 : l.kind = 9
 · rw [decide_eq_true h9]
   have F : _ ∧ _ := ⟨Y4 l, h9⟩
   repeat' first
    | refine g0 ?_
    | fail
   all_goals exact ⟨.inr rfl, endD (r := .v (.bool false)) hl0 rfl (by simp) (by simp) rfl (by rw [low]; trivial) ⟨rfl, rfl⟩⟩
 by_cases h45 : (l.kind = 4 ∨ l.kind = 8 ∨ l.kind = 5) ∧ l.names.length = 0
 · rw [decide_eq_true h45.1, decide_eq_true h45.2, Bool.and_true, Zw]
   have hn0 := h45.2
   have h9b : ¬ l.kind = 9 := h9
   have F : _ ∧ _ ∧ _ := ⟨Y4 l, h9b, hn0⟩
   repeat' first
    | refine gg ?_
    | refine Two.mk (fun hq => ?_) fun hq => ?_
    | (exfalso; omega)
   all_goals first | (exfalso; omega) | exact ⟨.inr rfl, endD (r := .v (.bool false)) hl0 rfl (by simp) (by simp) rfl (by rw [low]; trivial) ⟨rfl, rfl⟩⟩
 have e0 : (decide (l.kind = 9) || decide (l.kind = 4 ∨ l.kind = 8 ∨ l.kind = 5) && decide (l.names.length = 0)) = false := by rw [decide_eq_false h9, Zo, Bool.and_eq_false_iff, decide_eq_false_iff_not, decide_eq_false_iff_not]; omega
 rw [e0, Z5, Za]
 clear e0
 have hnl := hwf.kinds.2.2.2.2.2.2.2.1
 generalize hnn : l.names.length = nn at *
 have F : _ ∧ _ ∧ _ := ⟨Y4 l, h9, hnn⟩
 repeat' first
  | refine gg ?_
  | refine Two.mk (fun hq => ?_) fun hq => ?_
  | (exfalso; omega)
 all_goals first | (exfalso; omega) | skip
 all_goals
  refine Yh (fun m e h' => ∃ (k : Nat) (T : List Ob), k ≤ l.parts.length ∧ m = l.parts.length - k ∧ l.parts.all finB = (l.parts.drop k).all finB ∧ h' = .cells (latX l) :: T ∧ e 1 = .ptr 0 0 ∧ e 18 = .sl 6 (l.parts.map latX) ∧ e 19 = .v (.int .i64 l.parts.length) ∧ e 20 = .v (.int .i64 k)) l.parts.length ⟨0, [], Z8 _, rfl, rfl, by rw [Y4 l], rfl, rfl, rfl, rfl⟩ ?_
  rintro m e h' ⟨k, T, hk, rfl, ho, rfl, e1, e18, e19, e20⟩
  by_cases hlt : k < l.parts.length
  · have hx : l.parts[k]? = some l.parts[k] := Z2 hlt
    have hd : l.parts.drop k = l.parts[k] :: l.parts.drop (k + 1) := Z1 hlt
    have hc := hpp _ (Z4 hlt)
    generalize l.parts[k] = x at hx hd hc
    rw [hd, Zu] at ho
    have wk : IntKind.i64.wrap ((k : Int) + 1) = (k : Int) + 1 := IntWalk.i64_in _ (by omega)
    simp only [Y4 x] at hc
    cases hpx : finB x
    · have hc := hc _ hpx
      rw [hpx] at ho
      rw [ho]
      have F : _ ∧ _ ∧ _ ∧ _ ∧ _ ∧ _ ∧ _ := ⟨e1, e18, e19, e20, Y4 l, Y4 x, wk⟩
      repeat' first
       | refine gg ?_
       | refine Two.mk (fun hq => ?_) fun hq => ?_
       | (with_reducible refine Y7 ?_; refine gc rfl rfl rfl Yl5 (hc _) ?_)
       | (exfalso; omega)
      exact ⟨.inr rfl, endD (r := .v (.bool false)) hl0 rfl (by simp) (by simp) rfl (by rw [low]; trivial) ⟨rfl, rfl⟩⟩
    · have hc := hc _ hpx
      rw [hpx] at ho
      have F : _ ∧ _ ∧ _ ∧ _ ∧ _ ∧ _ ∧ _ := ⟨e1, e18, e19, e20, Y4 l, Y4 x, wk⟩
      repeat' first
       | refine gg ?_
       | refine Two.mk (fun hq => ?_) fun hq => ?_
       | (with_reducible refine Y7 ?_; refine gc rfl rfl rfl Yl5 (hc _) ?_)
       | (exfalso; omega)
      exact ⟨rfl, l.parts.length - (k + 1), by omega, k + 1, _, hlt, rfl, ho, by rw [Y4 l], e1, e18, e19, rfl⟩
  · have ho : l.parts.all finB = true := by rw [ho, Z9 (by omega)]; rfl
    rw [ho]
    have F : _ ∧ _ ∧ _ ∧ _ ∧ _ := ⟨e1, e18, e19, e20, Y4 l⟩
    repeat' first
     | refine gg ?_
     | refine Two.mk (fun hq => ?_) fun hq => ?_
     | refine Evry.mk fun x hx => ?_
     | (exfalso; omega)
    exact ⟨.inr rfl, endD (r := .v (.bool true)) hl0 rfl (by simp) (by simp) rfl (by rw [low]; trivial) ⟨rfl, rfl⟩⟩
theorem rfin_d (f : Nat) : ∀ l : Lat, SizeOf.sizeOf l ≤ f → WfL l → ∀ h : List Ob, Does Z3 G 55 h [.agg (latX l)] (fun h' r => h' = h ∧ r = .v (.bool (finB l))) := by
 induction f with
 | zero => intro l hn; cases l; simp at hn
 | succ f ih =>
 intro l hn hwf h
 refine Ya G hG (by rw [lowL, lowL, low]; exact ⟨Yy _ l, trivial⟩) (by rw [low]; trivial) ?_ h
 clear h
 have hpl : l.parts.length ≤ 1000000 := Vi hwf
 have hpp : ∀ p ∈ l.parts, ∀ (b : Bool), finB p = b → ∀ h, Does Z3 G 55 h [.agg (latX p)] (fun h' r => h' = h ∧ r = .v (.bool b)) := fun p hp b hb => hb ▸ ih p (by have := Yb hp; omega) (hwf.part hp)
 rw [Zz1]
 refine Y5 Tryz.func55 rfl (Z0 rfl) hG fun hl0 _ => ?_
 simp only [Tryz.ntmps55]
 by_cases h9 : l.kind = 9
 · rw [decide_eq_true h9]
   have F : _ ∧ _ := ⟨Y4 l, h9⟩
   repeat' first
    | refine g0 ?_
    | fail
   all_goals exact ⟨.inr rfl, endD (r := .v (.bool false)) hl0 rfl (by simp) (by simp) rfl (by rw [low]; trivial) ⟨rfl, rfl⟩⟩
 have hnl := hwf.kinds.2.2.2.2.2.2.2.1
 by_cases h45 : (l.kind = 4 ∨ l.kind = 8 ∨ l.kind = 5) ∧ l.names.length = 0
 · rw [decide_eq_true h45.1, decide_eq_true h45.2, Bool.and_true, Zw]
   have hn0 := h45.2
   generalize hnn : l.names.length = nn at *
   have F : _ ∧ _ ∧ _ := ⟨Y4 l, h9, hnn⟩
   repeat' first
    | refine gg ?_
    | refine Two.mk (fun hq => ?_) fun hq => ?_
    | (exfalso; omega)
   all_goals first | (exfalso; omega) | exact ⟨.inr rfl, endD (r := .v (.bool false)) hl0 rfl (by simp) (by simp) rfl (by rw [low]; trivial) ⟨rfl, rfl⟩⟩
 have e0 : (decide (l.kind = 9) || decide (l.kind = 4 ∨ l.kind = 8 ∨ l.kind = 5) && decide (l.names.length = 0)) = false := by rw [decide_eq_false h9, Zo, Bool.and_eq_false_iff, decide_eq_false_iff_not, decide_eq_false_iff_not]; omega
 rw [e0, Z5, Za]
 clear e0
 generalize hnn : l.names.length = nn at *
 have F : _ ∧ _ ∧ _ := ⟨Y4 l, h9, hnn⟩
 repeat' first
  | refine gg ?_
  | refine Two.mk (fun hq => ?_) fun hq => ?_
  | (exfalso; omega)
 all_goals first | (exfalso; omega) | skip
 all_goals
  refine Yh (fun m e h' => ∃ k : Nat, k ≤ l.parts.length ∧ m = l.parts.length - k ∧ l.parts.all finB = (l.parts.drop k).all finB ∧ h' = [.cells (latX l)] ∧ e 1 = .ptr 0 0 ∧ e 3 = .v (.int .i64 k)) l.parts.length ⟨0, Z8 _, rfl, rfl, by rw [Y4 l], rfl, rfl⟩ ?_
  rintro m e h' ⟨k, hk, rfl, ho, rfl, e1, e3⟩
  by_cases hlt : k < l.parts.length
  · have hx : l.parts[k]? = some l.parts[k] := Z2 hlt
    have hd : l.parts.drop k = l.parts[k] :: l.parts.drop (k + 1) := Z1 hlt
    have hc := hpp _ (Z4 hlt)
    generalize l.parts[k] = x at hx hd hc
    rw [hd, Zu] at ho
    have wk : IntKind.i64.wrap ((k : Int) + 1) = (k : Int) + 1 := IntWalk.i64_in _ (by omega)
    simp only [Y4 x] at hc
    cases hpx : finB x
    · have hc := hc _ hpx
      rw [hpx] at ho
      rw [ho]
      have F : _ ∧ _ ∧ _ ∧ _ ∧ _ := ⟨e1, e3, Y4 l, Y4 x, wk⟩
      repeat' first
       | refine gg ?_
       | refine Two.mk (fun hq => ?_) fun hq => ?_
       | (with_reducible refine Y7 ?_; refine gc rfl rfl rfl ent_55 (hc _) ?_)
       | (exfalso; omega)
      exact ⟨.inr rfl, endD (r := .v (.bool false)) hl0 rfl (by simp) (by simp) rfl (by rw [low]; trivial) ⟨rfl, rfl⟩⟩
    · have hc := hc _ hpx
      rw [hpx] at ho
      have F : _ ∧ _ ∧ _ ∧ _ ∧ _ := ⟨e1, e3, Y4 l, Y4 x, wk⟩
      repeat' first
       | refine gg ?_
       | refine Two.mk (fun hq => ?_) fun hq => ?_
       | (with_reducible refine Y7 ?_; refine gc rfl rfl rfl ent_55 (hc _) ?_)
       | (exfalso; omega)
      exact ⟨rfl, l.parts.length - (k + 1), by omega, k + 1, hlt, rfl, ho, by rw [Y4 l], e1, rfl⟩
  · have ho : l.parts.all finB = true := by rw [ho, Z9 (by omega)]; rfl
    rw [ho]
    have F : _ ∧ _ ∧ _ := ⟨e1, e3, Y4 l⟩
    repeat' first
     | refine gg ?_
     | refine Two.mk (fun hq => ?_) fun hq => ?_
     | refine Evry.mk fun x hx => ?_
     | (exfalso; omega)
    exact ⟨.inr rfl, endD (r := .v (.bool true)) hl0 rfl (by simp) (by simp) rfl (by rw [low]; trivial) ⟨rfl, rfl⟩⟩
end
section
attribute [local irreducible] on aOp
attribute [local go_sem] decide_true decide_false Zh Z5
attribute [local simp] byD_len
theorem Zl3 {l : Lat} (h : WfL l) (h7 : l.kind = 7) : ∃ p q, l.parts = [p, q] ∧ True := by
 have h2 := h.kinds.2.2.1 h7
 match hm : l.parts, h2 with
 | [p, q], _ => exact ⟨p, q, rfl, trivial⟩
theorem finAt_two {l : Lat} (hwf : WfL l) (h7 : l.kind = 7) : ∃ p q, l.parts = [p, q] ∧ Uv l.parts = finB q := by
 obtain ⟨p, q, h, _⟩ := Zl3 hwf h7
 exact ⟨p, q, h, by rw [h]; rfl⟩
variable (G : Nat → D) (hG : ∀ g, low 0 (G g))
include hG
attribute [local go_sem] Bool.false_eq_true Ze Zf Zg Zp Zl Zb Zc Z6 Z7 Zd
attribute [local go_sem ↓] reduceIte
theorem nRkd_d (c : Lat) {b : Bool} (hc : ∀ h, Does Z3 G 60 h [.agg (latX c)] (fun h' r => h' = h ∧ r = .v (.bool b))) : Does Z3 G 116 [] [.agg (latX c)] (fun h' r => h' = [] ∧ r = .v (.bool (!b))) := by
 simp only [Y4 c] at hc
 refine Y5 Tryz.func116 rfl (Z0 rfl) hG fun hl0 _ => ?_
 simp only [Tryz.ntmps116]
 have F := Y4 c
 repeat' first
  | refine g0 ?_
  | (with_reducible refine Y7 ?_; refine gc rfl rfl rfl ent_60 (hc _) ?_)
 exact ⟨.inr rfl, endV hl0 rfl rfl ⟨rfl, rfl⟩⟩
theorem ranked_d (f : Nat) : ∀ l : Lat, SizeOf.sizeOf l ≤ f → WfL l → ∀ h : List Ob, Does Z3 G 60 h [.agg (latX l)] (fun h' r => h' = h ∧ r = .v (.bool (rkdB l))) := by
 induction f with
 | zero => intro l hn; cases l; simp at hn
 | succ f ih =>
 intro l hn hwf h
 refine Ya G hG (by rw [lowL, lowL, low]; exact ⟨Yy _ l, trivial⟩) (by rw [low]; trivial) ?_ h
 clear h
 have hpl : l.parts.length ≤ 1000000 := Vi hwf
 have hcf := Zk3 G l.parts (fun c => !rkdB c) 116 [] ent_116 hpl [.cells (latX l)] (fun c hc => Ya G hG (by rw [lowL, lowL, low]; exact ⟨Yy _ c, trivial⟩) (by rw [low]; trivial) (nRkd_d G hG c (ih c (by have := Yb hc; omega) (hwf.part hc))) _)
 rw [rkdB_eq, all_not rkdB]
 simp only [Y4 l] at hcf
 generalize (l.parts.any fun c => !rkdB c) = bb at *
 refine Y5 Tryz.func60 rfl (Z0 rfl) hG fun hl0 _ => ?_
 simp only [Tryz.ntmps60]
 by_cases h9 : l.kind = 9
 · rw [decide_eq_true h9]
   have F : _ ∧ _ := ⟨Y4 l, h9⟩
   repeat' first
    | refine g0 ?_
    | fail
   all_goals exact ⟨.inr rfl, endD (r := .v (.bool false)) hl0 rfl (by simp) (by simp) rfl (by rw [low]; trivial) ⟨rfl, rfl⟩⟩
 rw [decide_eq_false h9, Zo]
 by_cases h7 : l.kind = 7
 · obtain ⟨p, q, hpq, hfa⟩ := finAt_two hwf h7
   have hx1 : l.parts[1]? = some q := by rw [hpq]; rfl
   have hl2 : l.parts.length = 2 := by rw [hpq]; rfl
   have hfq := fin_d G hG _ q (Zx _) (hwf.part (by rw [hpq]; simp))
   rw [hfa, decide_eq_true h7, Za]
   clear hfa hpq
   simp only [Y4 q] at hfq
   simp only [h7] at hcf
   cases hb : finB q
   · rw [hb] at hfq
     have F : _ ∧ _ ∧ _ ∧ _ ∧ _ := ⟨Y4 l, Y4 q, h9, h7, hl2⟩
     repeat' first
      | ((with_reducible refine Y7 ?_); first | (refine ao1 rfl rfl fun K HK => ?_; (first | refine Yo rfl ?_ | skip); simp only [go_sem, F]; (first | (refine ⟨by omega, ?_⟩; refine Yn (by assumption) ?_) | skip) <;> (refine HK _ _ ?_; clear HK K)))
      | refine g0 ?_
      | (with_reducible refine Y7 ?_; refine gc rfl rfl rfl Yl5 (hfq _) ?_)
     all_goals first | (exfalso; omega) | exact ⟨.inr rfl, endD (r := .v (.bool false)) hl0 rfl (by simp) (by simp) rfl (by rw [low]; trivial) ⟨rfl, rfl⟩⟩
   · rw [hb] at hfq
     rw [Zh, Z5, Za]
     have F : _ ∧ _ ∧ _ ∧ _ ∧ _ := ⟨Y4 l, Y4 q, h9, h7, hl2⟩
     repeat' first
      | ((with_reducible refine Y7 ?_); first | (refine ao1 rfl rfl fun K HK => ?_; (first | refine Yo rfl ?_ | skip); simp only [go_sem, F]; (first | (refine ⟨by omega, ?_⟩; refine Yn (by assumption) ?_) | skip) <;> (refine HK _ _ ?_; clear HK K)))
      | refine g0 ?_
      | (with_reducible refine Y7 ?_; first | refine gc rfl rfl rfl Yl5 (hfq _) ?_ | refine gc rfl rfl rfl ent_81 (hcf) ?_)
     all_goals first | (exfalso; omega) | exact ⟨.inr rfl, endD (r := .v (.bool (!bb))) hl0 rfl (by simp) (by simp) rfl (by rw [low]; trivial) ⟨rfl, rfl⟩⟩
 · rw [decide_eq_false h7, Bool.false_and, Z5, Za]
   have F : _ ∧ _ ∧ _ := ⟨Y4 l, h9, h7⟩
   repeat' first
    | refine g0 ?_
    | (with_reducible refine Y7 ?_; refine gc rfl rfl rfl ent_81 (hcf) ?_)
   all_goals first | (exfalso; omega) | exact ⟨.inr rfl, endD (r := .v (.bool (!bb))) hl0 rfl (by simp) (by simp) rfl (by rw [low]; trivial) ⟨rfl, rfl⟩⟩
theorem rranked_d (f : Nat) : ∀ l : Lat, SizeOf.sizeOf l ≤ f → WfL l → ∀ h : List Ob, Does Z3 G 25 h [.agg (latX l)] (fun h' r => h' = h ∧ r = .v (.bool (rkdR l))) := by
 induction f with
 | zero => intro l hn; cases l; simp at hn
 | succ f ih =>
 intro l hn hwf h
 refine Ya G hG (by rw [lowL, lowL, low]; exact ⟨Yy _ l, trivial⟩) (by rw [low]; trivial) ?_ h
 clear h
 have hpl : l.parts.length ≤ 1000000 := Vi hwf
 have hpp : ∀ p ∈ l.parts, ∀ (b : Bool), rkdR p = b → ∀ h, Does Z3 G 25 h [.agg (latX p)] (fun h' r => h' = h ∧ r = .v (.bool b)) := fun p hp b hb => hb ▸ ih p (by have := Yb hp; omega) (hwf.part hp)
 rw [Zm0]
 refine Y5 Tryz.func25 rfl (Z0 rfl) hG fun hl0 _ => ?_
 simp only [Tryz.ntmps25]
 by_cases h9 : l.kind = 9 ∨ l.kind = 8 ∨ l.kind = 10
 · rw [decide_eq_true h9]
   have F := Y4 l
   repeat' first
    | refine gg ?_
    | refine Two.mk (fun hq => ?_) fun hq => ?_
    | (exfalso; omega)
   all_goals first | (exfalso; omega) | exact ⟨.inr rfl, endD (r := .v (.bool false)) hl0 rfl (by simp) (by simp) rfl (by rw [low]; trivial) ⟨rfl, rfl⟩⟩
 rw [decide_eq_false h9, Zo]
 have n9 : ¬ l.kind = 9 := by omega
 have n8 : ¬ l.kind = 8 := by omega
 have n10 : ¬ l.kind = 10 := by omega
 have hfq : l.kind = 7 → ∃ q, l.parts[1]? = some q ∧ l.parts.length = 2 ∧ Uv l.parts = finB q ∧ ∀ h, Does Z3 G 55 h [.agg (latX q)] (fun h' r => h' = h ∧ r = .v (.bool (finB q))) := fun h7 => by
  obtain ⟨p, q, hpq, hfa⟩ := finAt_two hwf h7
  exact ⟨q, by rw [hpq]; rfl, by rw [hpq]; rfl, hfa, rfin_d G hG _ q (Zx _) (hwf.part (by rw [hpq]; simp))⟩
 have key : (decide (l.kind = 7) && !Uv l.parts) = false ∨ ((decide (l.kind = 7) && !Uv l.parts) = true ∧ l.kind = 7 ∧ Uv l.parts = false) := by
  by_cases h7 : l.kind = 7
  · cases hf : Uv l.parts
    · exact .inr ⟨by rw [decide_eq_true h7]; rfl, h7, rfl⟩
    · left; rw [Zh, Bool.and_false]
  · left; rw [decide_eq_false h7]; rfl
 rcases key with key | ⟨key, h7, hf⟩
 rotate_left
 · rw [key]
   obtain ⟨q, hx1, hl2, hfa, hfq⟩ := hfq h7
   rw [hf] at hfa
   rw [← hfa] at hfq
   simp only [Y4 q] at hfq
   clear hfa key hf
   have F : _ ∧ _ ∧ _ ∧ _ ∧ _ ∧ _ ∧ _ := ⟨Y4 l, Y4 q, n9, n8, n10, h7, hl2⟩
   repeat' first
    | ((with_reducible refine Y7 ?_); first | (refine ao1 rfl rfl fun K HK => ?_; (first | refine Yo rfl ?_ | skip); simp only [go_sem, F]; (first | (refine ⟨by omega, ?_⟩; refine Yn (by assumption) ?_) | skip) <;> (refine HK _ _ ?_; clear HK K)))
    | refine g0 ?_
    | (with_reducible refine Y7 ?_; refine gc rfl rfl rfl ent_55 (hfq _) ?_)
   all_goals first | (exfalso; omega) | exact ⟨.inr rfl, endD (r := .v (.bool false)) hl0 rfl (by simp) (by simp) rfl (by rw [low]; trivial) ⟨rfl, rfl⟩⟩
 rw [key, Z5, Za]
 have hstart : ∀ Q : Prop, (l.kind = 7 → Q) → (¬ l.kind = 7 → Q) → Q := fun Q h1 h2 => (Classical.em (l.kind = 7)).elim h1 h2
 by_cases h7 : l.kind = 7
 · obtain ⟨q, hx1, hl2, hfa, hfq⟩ := hfq h7
   have hft : finB q = true := by
    rw [decide_eq_true h7, Za, hfa] at key
    simpa using key
   rw [hft] at hfq
   simp only [Y4 q] at hfq
   clear hfa key
   have F : _ ∧ _ ∧ _ ∧ _ ∧ _ ∧ _ ∧ _ := ⟨Y4 l, Y4 q, n9, n8, n10, h7, hl2⟩
   repeat' first
    | ((with_reducible refine Y7 ?_); first | (refine ao1 rfl rfl fun K HK => ?_; (first | refine Yo rfl ?_ | skip); simp only [go_sem, F]; (first | (refine ⟨by omega, ?_⟩; refine Yn (by assumption) ?_) | skip) <;> (refine HK _ _ ?_; clear HK K)))
    | refine g0 ?_
    | (with_reducible refine Y7 ?_; refine gc rfl rfl rfl ent_55 (hfq _) ?_)
   all_goals first | (exfalso; omega) | skip
   all_goals
    refine Yh (fun m e h' => ∃ k : Nat, k ≤ l.parts.length ∧ m = l.parts.length - k ∧ l.parts.all rkdR = (l.parts.drop k).all rkdR ∧ h' = [.cells (latX l)] ∧ e 1 = .ptr 0 0 ∧ e 3 = .v (.int .i64 k)) l.parts.length ⟨0, Z8 _, rfl, rfl, by rw [Y4 l, h7], rfl, rfl⟩ ?_
    rintro m e h' ⟨k, hk, rfl, ho, rfl, e1, e3⟩
    by_cases hlt : k < l.parts.length
    · have hx : l.parts[k]? = some l.parts[k] := Z2 hlt
      have hd : l.parts.drop k = l.parts[k] :: l.parts.drop (k + 1) := Z1 hlt
      have hc := hpp _ (Z4 hlt)
      generalize l.parts[k] = x at hx hd hc
      rw [hd, Zu] at ho
      have wk : IntKind.i64.wrap ((k : Int) + 1) = (k : Int) + 1 := IntWalk.i64_in _ (by omega)
      simp only [Y4 x] at hc
      cases hpx : rkdR x
      · have hc := hc _ hpx
        rw [hpx] at ho
        rw [ho]
        have F : _ ∧ _ ∧ _ ∧ _ ∧ _ := ⟨e1, e3, Y4 l, Y4 x, wk⟩
        repeat' first
         | refine gg ?_
         | refine Two.mk (fun hq => ?_) fun hq => ?_
         | (with_reducible refine Y7 ?_; refine gc rfl rfl rfl Zz3 (hc _) ?_)
         | (exfalso; omega)
        exact ⟨.inr rfl, endD (r := .v (.bool false)) hl0 rfl (by simp) (by simp) rfl (by rw [low]; trivial) ⟨rfl, rfl⟩⟩
      · have hc := hc _ hpx
        rw [hpx] at ho
        have F : _ ∧ _ ∧ _ ∧ _ ∧ _ := ⟨e1, e3, Y4 l, Y4 x, wk⟩
        repeat' first
         | refine gg ?_
         | refine Two.mk (fun hq => ?_) fun hq => ?_
         | (with_reducible refine Y7 ?_; refine gc rfl rfl rfl Zz3 (hc _) ?_)
         | (exfalso; omega)
        exact ⟨rfl, l.parts.length - (k + 1), by omega, k + 1, hlt, rfl, ho, by rw [Y4 l], e1, rfl⟩
    · have ho : l.parts.all rkdR = true := by rw [ho, Z9 (by omega)]; rfl
      rw [ho]
      have F : _ ∧ _ ∧ _ := ⟨e1, e3, Y4 l⟩
      repeat' first
       | refine gg ?_
       | refine Two.mk (fun hq => ?_) fun hq => ?_
       | refine Evry.mk fun x hx => ?_
       | (exfalso; omega)
      exact ⟨.inr rfl, endD (r := .v (.bool true)) hl0 rfl (by simp) (by simp) rfl (by rw [low]; trivial) ⟨rfl, rfl⟩⟩
 · skip
   clear key hfq
   have F : _ ∧ _ ∧ _ ∧ _ ∧ _ := ⟨Y4 l, n9, n8, n10, h7⟩
   repeat' first
    | refine g0 ?_
    | fail
   all_goals first | (exfalso; omega) | skip
   all_goals
    refine Yh (fun m e h' => ∃ k : Nat, k ≤ l.parts.length ∧ m = l.parts.length - k ∧ l.parts.all rkdR = (l.parts.drop k).all rkdR ∧ h' = [.cells (latX l)] ∧ e 1 = .ptr 0 0 ∧ e 3 = .v (.int .i64 k)) l.parts.length ⟨0, Z8 _, rfl, rfl, by rw [Y4 l], rfl, rfl⟩ ?_
    rintro m e h' ⟨k, hk, rfl, ho, rfl, e1, e3⟩
    by_cases hlt : k < l.parts.length
    · have hx : l.parts[k]? = some l.parts[k] := Z2 hlt
      have hd : l.parts.drop k = l.parts[k] :: l.parts.drop (k + 1) := Z1 hlt
      have hc := hpp _ (Z4 hlt)
      generalize l.parts[k] = x at hx hd hc
      rw [hd, Zu] at ho
      have wk : IntKind.i64.wrap ((k : Int) + 1) = (k : Int) + 1 := IntWalk.i64_in _ (by omega)
      simp only [Y4 x] at hc
      cases hpx : rkdR x
      · have hc := hc _ hpx
        rw [hpx] at ho
        rw [ho]
        have F : _ ∧ _ ∧ _ ∧ _ ∧ _ := ⟨e1, e3, Y4 l, Y4 x, wk⟩
        repeat' first
         | refine gg ?_
         | refine Two.mk (fun hq => ?_) fun hq => ?_
         | (with_reducible refine Y7 ?_; refine gc rfl rfl rfl Zz3 (hc _) ?_)
         | (exfalso; omega)
        exact ⟨.inr rfl, endD (r := .v (.bool false)) hl0 rfl (by simp) (by simp) rfl (by rw [low]; trivial) ⟨rfl, rfl⟩⟩
      · have hc := hc _ hpx
        rw [hpx] at ho
        have F : _ ∧ _ ∧ _ ∧ _ ∧ _ := ⟨e1, e3, Y4 l, Y4 x, wk⟩
        repeat' first
         | refine gg ?_
         | refine Two.mk (fun hq => ?_) fun hq => ?_
         | (with_reducible refine Y7 ?_; refine gc rfl rfl rfl Zz3 (hc _) ?_)
         | (exfalso; omega)
        exact ⟨rfl, l.parts.length - (k + 1), by omega, k + 1, hlt, rfl, ho, by rw [Y4 l], e1, rfl⟩
    · have ho : l.parts.all rkdR = true := by rw [ho, Z9 (by omega)]; rfl
      rw [ho]
      have F : _ ∧ _ ∧ _ := ⟨e1, e3, Y4 l⟩
      repeat' first
       | refine gg ?_
       | refine Two.mk (fun hq => ?_) fun hq => ?_
       | refine Evry.mk fun x hx => ?_
       | (exfalso; omega)
      exact ⟨.inr rfl, endD (r := .v (.bool true)) hl0 rfl (by simp) (by simp) rfl (by rw [low]; trivial) ⟨rfl, rfl⟩⟩
end
section
attribute [local irreducible] on aOp
attribute [local go_sem] decide_true decide_false Zh Z5
attribute [local simp] byD_len
theorem Yc4 : ∀ ps : List Lat, Zd3 ps = ps.all V4
 | [] => by rw [Zd3]; rfl
 | p :: t => by rw [Zd3, Yc4 t]; rfl
theorem trivB_eq (l : Lat) : V4 l = if l.kind = 2 ∨ l.kind = 3 then decide (l.lo = l.hi) else if l.kind = 5 ∨ l.kind = 6 ∨ l.kind = 7 then l.parts.all V4 else false := by
 obtain ⟨k, lo, hi, ns, ps, rs⟩ := l
 rw [V4, Yc4]; rfl
variable (G : Nat → D) (hG : ∀ g, low 0 (G g))
include hG
attribute [local go_sem] Ze Zf Zg Zp Zl Zb Zc Z6 Z7 Zd
attribute [local go_sem ↓] reduceIte
theorem nTriv_d (c : Lat) {b : Bool} (hc : ∀ h, Does Z3 G 225 h [.agg (latX c)] (fun h' r => h' = h ∧ r = .v (.bool b))) : Does Z3 G 246 [] [.agg (latX c)] (fun h' r => h' = [] ∧ r = .v (.bool (!b))) := by
 simp only [Y4 c] at hc
 refine Y5 Tryz.func246 rfl (Z0 rfl) hG fun hl0 _ => ?_
 simp only [Tryz.ntmps246]
 have F := Y4 c
 repeat' first
  | refine g0 ?_
  | (with_reducible refine Y7 ?_; refine gc rfl rfl rfl ent_225 (hc _) ?_)
 exact ⟨.inr rfl, endV hl0 rfl rfl ⟨rfl, rfl⟩⟩
theorem triv_d (f : Nat) : ∀ l : Lat, SizeOf.sizeOf l ≤ f → WfL l → ∀ h : List Ob, Does Z3 G 225 h [.agg (latX l)] (fun h' r => h' = h ∧ r = .v (.bool (V4 l))) := by
 induction f with
 | zero => intro l hn; cases l; simp at hn
 | succ f ih =>
 intro l hn hwf h
 refine Ya G hG (by rw [lowL, lowL, low]; exact ⟨Yy _ l, trivial⟩) (by rw [low]; trivial) ?_ h
 clear h
 have hpl : l.parts.length ≤ 1000000 := Vi hwf
 have hcf := Zk3 G l.parts (fun c => !V4 c) 246 [] ent_246 hpl [.cells (latX l)] (fun c hc => Ya G hG (by rw [lowL, lowL, low]; exact ⟨Yy _ c, trivial⟩) (by rw [low]; trivial) (nTriv_d G hG c (ih c (by have := Yb hc; omega) (hwf.part hc))) _)
 rw [trivB_eq, all_not V4]
 simp only [Y4 l] at hcf
 generalize (l.parts.any fun c => !V4 c) = bb at *
 refine Y5 Tryz.func225 rfl (Z0 rfl) hG fun hl0 _ => ?_
 simp only [Tryz.ntmps225]
 by_cases h23 : l.kind = 2 ∨ l.kind = 3
 · rw [if_pos h23]
   generalize hkk : l.kind = k at *
   have F : _ ∧ _ := ⟨Y4 l, hkk⟩
   repeat' first
    | refine gg ?_
    | refine Two.mk (fun hq => ?_) fun hq => ?_
    | (exfalso; omega)
   all_goals first | (exfalso; omega) | exact ⟨.inr rfl, endD (r := .v (.bool true)) hl0 rfl (by simp) (by simp) rfl (by rw [low]; trivial) ⟨rfl, by rw [decide_eq_true (by assumption)]⟩⟩ | exact ⟨.inr rfl, endD (r := .v (.bool false)) hl0 rfl (by simp) (by simp) rfl (by rw [low]; trivial) ⟨rfl, by rw [decide_eq_false (by assumption)]⟩⟩ | exact ⟨.inr rfl, endD (r := .v (.bool (decide (l.lo = l.hi)))) hl0 rfl (by simp) (by simp) rfl (by rw [low]; trivial) ⟨rfl, rfl⟩⟩
 rw [if_neg h23]
 have n2 : ¬ l.kind = 2 := by omega
 have n3 : ¬ l.kind = 3 := by omega
 by_cases h5 : l.kind = 5 ∨ l.kind = 6 ∨ l.kind = 7
 · rw [if_pos h5]
   rcases h5 with h5 | h5 | h5
   all_goals
    simp only [h5] at hcf
    have F : _ ∧ _ := ⟨Y4 l, h5⟩
    repeat' first
     | refine g0 ?_
     | (with_reducible refine Y7 ?_; refine gc rfl rfl rfl ent_81 (hcf) ?_)
    all_goals first | (exfalso; omega) | exact ⟨.inr rfl, endD (r := .v (.bool (!bb))) hl0 rfl (by simp) (by simp) rfl (by rw [low]; trivial) ⟨rfl, rfl⟩⟩
 · rw [if_neg h5]
   generalize hkk : l.kind = k at *
   have F : _ ∧ _ := ⟨Y4 l, hkk⟩
   repeat' first
    | refine gg ?_
    | refine Two.mk (fun hq => ?_) fun hq => ?_
    | (exfalso; omega)
   all_goals first | (exfalso; omega) | exact ⟨.inr rfl, endD (r := .v (.bool false)) hl0 rfl (by simp) (by simp) rfl (by rw [low]; trivial) ⟨rfl, rfl⟩⟩
theorem rtriv_d (f : Nat) : ∀ l : Lat, SizeOf.sizeOf l ≤ f → WfL l → ∀ h : List Ob, Does Z3 G 175 h [.agg (latX l)] (fun h' r => h' = h ∧ r = .v (.bool (V4 l))) := by
 induction f with
 | zero => intro l hn; cases l; simp at hn
 | succ f ih =>
 intro l hn hwf h
 refine Ya G hG (by rw [lowL, lowL, low]; exact ⟨Yy _ l, trivial⟩) (by rw [low]; trivial) ?_ h
 clear h
 have hpl : l.parts.length ≤ 1000000 := Vi hwf
 have hpp : ∀ p ∈ l.parts, ∀ (b : Bool), V4 p = b → ∀ h, Does Z3 G 175 h [.agg (latX p)] (fun h' r => h' = h ∧ r = .v (.bool b)) := fun p hp b hb => hb ▸ ih p (by have := Yb hp; omega) (hwf.part hp)
 rw [trivB_eq]
 refine Y5 Tryz.func175 rfl (Z0 rfl) hG fun hl0 _ => ?_
 simp only [Tryz.ntmps175]
 by_cases h23 : l.kind = 2 ∨ l.kind = 3
 · rw [if_pos h23]
   generalize hkk : l.kind = k at *
   have F : _ ∧ _ := ⟨Y4 l, hkk⟩
   repeat' first
    | refine gg ?_
    | refine Two.mk (fun hq => ?_) fun hq => ?_
    | (exfalso; omega)
   all_goals first | (exfalso; omega) | exact ⟨.inr rfl, endD (r := .v (.bool (decide (l.lo = l.hi)))) hl0 rfl (by simp) (by simp) rfl (by rw [low]; trivial) ⟨rfl, rfl⟩⟩ | exact ⟨.inr rfl, endD (r := .v (.bool true)) hl0 rfl (by simp) (by simp) rfl (by rw [low]; trivial) ⟨rfl, by rw [decide_eq_true (by assumption)]⟩⟩ | exact ⟨.inr rfl, endD (r := .v (.bool false)) hl0 rfl (by simp) (by simp) rfl (by rw [low]; trivial) ⟨rfl, by rw [decide_eq_false (by assumption)]⟩⟩
 rw [if_neg h23]
 have n2 : ¬ l.kind = 2 := by omega
 have n3 : ¬ l.kind = 3 := by omega
 by_cases h5 : l.kind = 5 ∨ l.kind = 6 ∨ l.kind = 7
 rotate_left
 · rw [if_neg h5]
   generalize hkk : l.kind = k at *
   have F : _ ∧ _ := ⟨Y4 l, hkk⟩
   repeat' first
    | refine gg ?_
    | refine Two.mk (fun hq => ?_) fun hq => ?_
    | (exfalso; omega)
   all_goals first | (exfalso; omega) | exact ⟨.inr rfl, endD (r := .v (.bool false)) hl0 rfl (by simp) (by simp) rfl (by rw [low]; trivial) ⟨rfl, rfl⟩⟩
 rw [if_pos h5]
 rcases h5 with h5 | h5 | h5
 all_goals
  skip
  have F : _ ∧ _ := ⟨Y4 l, h5⟩
  repeat' first
   | refine g0 ?_
   | fail
  refine Yh (fun m e h' => ∃ k : Nat, k ≤ l.parts.length ∧ m = l.parts.length - k ∧ l.parts.all V4 = (l.parts.drop k).all V4 ∧ h' = [.cells (latX l)] ∧ e 1 = .ptr 0 0 ∧ e 3 = .v (.int .i64 k)) l.parts.length ⟨0, Z8 _, rfl, rfl, by rw [Y4 l, h5], rfl, rfl⟩ ?_
  rintro m e h' ⟨k, hk, rfl, ho, rfl, e1, e3⟩
  by_cases hlt : k < l.parts.length
  · have hx : l.parts[k]? = some l.parts[k] := Z2 hlt
    have hd : l.parts.drop k = l.parts[k] :: l.parts.drop (k + 1) := Z1 hlt
    have hc := hpp _ (Z4 hlt)
    generalize l.parts[k] = x at hx hd hc
    rw [hd, Zu] at ho
    have wk : IntKind.i64.wrap ((k : Int) + 1) = (k : Int) + 1 := IntWalk.i64_in _ (by omega)
    simp only [Y4 x] at hc
    cases hpx : V4 x
    · have hc := hc _ hpx
      rw [hpx] at ho
      rw [ho]
      have F : _ ∧ _ ∧ _ ∧ _ ∧ _ := ⟨e1, e3, Y4 l, Y4 x, wk⟩
      repeat' first
       | refine gg ?_
       | refine Two.mk (fun hq => ?_) fun hq => ?_
       | (with_reducible refine Y7 ?_; refine gc rfl rfl rfl Yl3 (hc _) ?_)
       | (exfalso; omega)
      exact ⟨.inr rfl, endD (r := .v (.bool false)) hl0 rfl (by simp) (by simp) rfl (by rw [low]; trivial) ⟨rfl, rfl⟩⟩
    · have hc := hc _ hpx
      rw [hpx] at ho
      have F : _ ∧ _ ∧ _ ∧ _ ∧ _ := ⟨e1, e3, Y4 l, Y4 x, wk⟩
      repeat' first
       | refine gg ?_
       | refine Two.mk (fun hq => ?_) fun hq => ?_
       | (with_reducible refine Y7 ?_; refine gc rfl rfl rfl Yl3 (hc _) ?_)
       | (exfalso; omega)
      exact ⟨rfl, l.parts.length - (k + 1), by omega, k + 1, hlt, rfl, ho, by rw [Y4 l], e1, rfl⟩
  · have ho : l.parts.all V4 = true := by rw [ho, Z9 (by omega)]; rfl
    rw [ho]
    have F : _ ∧ _ ∧ _ := ⟨e1, e3, Y4 l⟩
    repeat' first
     | refine gg ?_
     | refine Two.mk (fun hq => ?_) fun hq => ?_
     | refine Evry.mk fun x hx => ?_
     | (exfalso; omega)
    exact ⟨.inr rfl, endD (r := .v (.bool true)) hl0 rfl (by simp) (by simp) rfl (by rw [low]; trivial) ⟨rfl, rfl⟩⟩
end
section
attribute [local irreducible] on aOp
attribute [local go_sem] decide_true decide_false Zh Z5
attribute [local simp] byD_len
def cmpC (a b : Cmd) : Int := orI [cmpI a.client b.client, cmpI a.seq b.seq, Lib.compareBytes (encC a) (encC b)]
variable (G : Nat → D) (hG : ∀ g, low 0 (G g))
include hG
end
section
attribute [local irreducible] on aOp
attribute [local go_sem] decide_true decide_false Zh Z5
attribute [local simp] byD_len
theorem strXe (s : ByteArray) : strX s = [.v (.string s)] := rfl
theorem Zv1 (t : Tk) : tkX t = [.v (.int .i64 t.process), .v (.int .i64 t.n)] := rfl
theorem Zd0 (e : En) : enX e = [.sl 2 (e.clock.map tkX), .v (.string e.name)] := rfl
theorem low_tk (m : Nat) (t : Tk) : lowL m (tkX t) := by simp [tkX, lowL, low]
theorem low_en (m : Nat) (e : En) : lowL m (enX e) := by
 rw [enX, lowL, lowL, lowL, low]
 exact ⟨Vk m _ fun t _ => low_tk m t, trivial, trivial⟩
theorem Jt (m : Nat) (l : List Val) : low m (.sl 4 (l.map vaX)) := Vk m l fun v _ => Ys m v
def tM (T : List Ob) : List Ob := T
section
variable {y z z' : Ob} {T l : List Ob}
theorem tM_len : (tM T).length = T.length := rfl
theorem tM_app : tM T ++ l = tM (T ++ l) := rfl
theorem tM_l : (tM (T ++ [y]))[T.length]? = some y := by simp [tM]
theorem tM_sl : (tM (T ++ [y])).set T.length z = tM (T ++ [z]) := by simp [tM]
theorem tM_a : (tM (T ++ [y, z]))[T.length]? = some y := by simp [tM]
theorem tM_b : (tM (T ++ [y, z]))[T.length + 1]? = some z := by simp [tM]
theorem tM_sb : (tM (T ++ [y, z])).set (T.length + 1) z' = tM (T ++ [y, z']) := by simp [tM]
end
inductive VSm : Val → Prop
 | mk (v : Val) (h1 : v.names.length ≤ 9223372036854775807) (h2 : v.parts.length ≤ 9223372036854775807) (h3 : v.entries.length ≤ 9223372036854775807) (h4 : ∀ s ∈ v.names, s.size ≤ 9223372036854775807) (h5 : ∀ e ∈ v.entries, e.clock.length ≤ 9223372036854775807 ∧ e.name.size ≤ 9223372036854775807) (h6 : ∀ p ∈ v.parts, VSm p) : VSm v
theorem VSm.names {v : Val} (h : VSm v) : v.names.length ≤ 9223372036854775807 := by cases h; assumption
theorem VSm.parts {v : Val} (h : VSm v) : v.parts.length ≤ 9223372036854775807 := by cases h; assumption
theorem VSm.entries {v : Val} (h : VSm v) : v.entries.length ≤ 9223372036854775807 := by cases h; assumption
theorem VSm.texts {v : Val} (h : VSm v) : ∀ s ∈ v.names, s.size ≤ 9223372036854775807 := by cases h; assumption
theorem VSm.ents {v : Val} (h : VSm v) : ∀ e ∈ v.entries, e.clock.length ≤ 9223372036854775807 ∧ e.name.size ≤ 9223372036854775807 := by cases h; assumption
theorem VSm.part {v : Val} (h : VSm v) : ∀ p ∈ v.parts, VSm p := by cases h; assumption
theorem Zr8 {α : Type} {c : α → α → Int} {a b : List α} {k : Nat} {x y : α} (ha : a.drop k = x :: a.drop (k + 1)) (hb : b.drop k = y :: b.drop (k + 1)) : lexC c (a.drop k) (b.drop k) = if c x y ≠ 0 then c x y else lexC c (a.drop (k + 1)) (b.drop (k + 1)) := by rw [ha, hb, lexC]
theorem strC_cb (a b : ByteArray) : Lib.compareBytes a.data.toList b.data.toList = strC a b := by
 have key : ∀ l m : List UInt8, Lib.compareBytes l m = if Op.bytesLess l m then -1 else if l = m then 0 else 1 := by
  intro l
  induction l with
  | nil => intro m; cases m <;> simp [Lib.compareBytes, Op.bytesLess]
  | cons x t ih =>
   intro m
   cases m with
   | nil => simp [Lib.compareBytes, Op.bytesLess]
   | cons y s =>
    rw [Lib.compareBytes, Op.bytesLess, ih]
    by_cases h1 : x < y
    · simp [h1]
    · by_cases h2 : y < x
      · have hne : x ≠ y := fun q => by subst q; exact h1 h2
        simp [h1, h2, hne]
      · have hxy : x = y := UInt8.le_antisymm (UInt8.not_lt.1 h2) (UInt8.not_lt.1 h1)
        subst hxy
        simp [h1]
 rw [key]
 unfold strC Ue
 rw [Lib.toList_data, Lib.toList_data]
 have : (a.data.toList = b.data.toList) = (a = b) := propext ⟨fun h => ByteArray.ext (Array.toList_inj.1 h), fun h => by rw [h]⟩
 simp only [this]
variable (G : Nat → D) (hG : ∀ g, low 0 (G g))
include hG
attribute [local go_sem] Bool.false_eq_true Zo Bool.or_false Zw Ze Zf Zg Zp List.append_assoc Zj List.length_append Zk Zl Zm Zn Zb Zc Z6 Z7 Zd Zd0 strXe tM_a tM_app tM_b tM_l tM_len tM_sb tM_sl Zv1 Y6
attribute [local go_sem ↓] reduceIte
theorem isNaN64_d (a : Int) (h : List Ob) : Does Z3 G 151 h [.v (.int .i64 a)] (fun h' r => h' = h ∧ r = .v (.bool false)) := by
 refine Y5 Tryz.func151 rfl (Z0 rfl) hG fun hl0 _ => ?_
 simp only [Tryz.ntmps151]
 repeat' first
  | refine g0 ?_
  | fail
 all_goals first
 | exact ⟨by simp, endV hl0 rfl rfl ⟨rfl, rfl⟩⟩
 | (exfalso; simp at *; done)
theorem Yk0 (a : ByteArray) (h : List Ob) : Does Z3 G 213 h [.v (.string a)] (fun h' r => h' = h ∧ r = .v (.bool false)) := by
 refine Y5 Tryz.func213 rfl (Z0 rfl) hG fun hl0 _ => ?_
 simp only [Tryz.ntmps213]
 repeat' first
  | refine g0 ?_
  | fail
 all_goals first
 | exact ⟨by simp, endV hl0 rfl rfl ⟨rfl, rfl⟩⟩
 | (exfalso; simp at *; done)
theorem cmp64_d (a b : Int) (h : List Ob) : Does Z3 G 89 h [.v (.int .i64 a), .v (.int .i64 b)] (fun h' r => h' = h ∧ r = .v (.int .i64 (cmpI a b))) := by
 refine Y5 Tryz.func89 rfl (Z0 rfl) hG fun hl0 _ => ?_
 simp only [Tryz.ntmps89]
 repeat' first
  | refine gg ?_
  | refine Two.mk (fun hq => ?_) fun hq => ?_
  | (with_reducible refine Y7 ?_; refine gc rfl rfl rfl ent_151 (isNaN64_d G hG _ _) ?_)
 all_goals
  refine ⟨by simp, endV hl0 rfl rfl ⟨rfl, ?_⟩⟩
  unfold cmpI
  simp [*]
theorem cmps_d (a b : ByteArray) (h : List Ob) : Does Z3 G 152 h [.v (.string a), .v (.string b)] (fun h' r => h' = h ∧ r = .v (.int .i64 (strC a b))) := by
 unfold strC Ue
 refine Y5 Tryz.func152 rfl (Z0 rfl) hG fun hl0 _ => ?_
 simp only [Tryz.ntmps152]
 cases h1 : Op.bytesLess a.toList b.toList
 · by_cases h2 : a = b
   · subst h2
     have h2 : decide (a = a) = true := decide_eq_true rfl
     have F : _ ∧ _ := ⟨h1, h2⟩
     repeat' first
      | refine g0 ?_
      | (with_reducible refine Y7 ?_; refine gc rfl rfl rfl ent_213 (Yk0 G hG _ _) ?_)
     all_goals exact ⟨by simp, endV hl0 rfl rfl ⟨rfl, by simp [h1]⟩⟩
   · skip
     have F : _ ∧ _ := ⟨h1, h2⟩
     repeat' first
      | refine g0 ?_
      | (with_reducible refine Y7 ?_; refine gc rfl rfl rfl ent_213 (Yk0 G hG _ _) ?_)
     all_goals exact ⟨by simp, endV hl0 rfl rfl ⟨rfl, by simp [h1, h2]⟩⟩
 · skip
   repeat' first
    | (with_reducible first | refine sA rfl ?_ | refine sI rfl rfl ?_ | refine sT rfl ?_)
    | (with_reducible refine Y7 ?_; first | refine Xi ?_ | (refine ao1 rfl rfl fun K HK => ?_; simp only [go_sem, h1, Bool.true_or] <;> (refine HK _ _ ?_; clear HK K)) | (refine ao2 rfl rfl rfl ent_213 (Yk0 G hG _ _) ?_; rintro _ _ ⟨rfl, rfl⟩))
   all_goals exact ⟨by simp, endV hl0 rfl rfl ⟨rfl, by simp [h1]⟩⟩
theorem slicesCmp_d (a b : List ByteArray) (ha : a.length ≤ 9223372036854775807) (hb : b.length ≤ 9223372036854775807) (h : List Ob) : Does Z3 G 90 h [.sl 1 (a.map strX), .sl 1 (b.map strX)] (fun h' r => h' = h ∧ r = .v (.int .i64 (lexC strC a b))) := by
 refine Y5 Tryz.func90 rfl (Z0 rfl) hG fun hl0 _ => ?_
 simp only [Tryz.ntmps90]
 repeat' first
  | refine g0 ?_
  | fail
 refine Yh (fun m e h' => ∃ k : Nat, k ≤ a.length ∧ k ≤ b.length ∧ m = a.length - k ∧ lexC strC a b = lexC strC (a.drop k) (b.drop k) ∧ h' = h ∧ e 0 = .sl 1 (a.map strX) ∧ e 1 = .sl 1 (b.map strX) ∧ e 9 = .sl 1 (a.map strX) ∧ e 10 = .v (.int .i64 a.length) ∧ e 11 = .v (.int .i64 k)) a.length ⟨0, Z8 _, Z8 _, rfl, rfl, rfl, rfl, rfl, rfl, rfl, rfl⟩ ?_
 rintro m e h' ⟨k, hk, hkb, rfl, ho, rfl, e0, e1, e9, e10, e11⟩
 by_cases hlt : k < a.length
 · have hx : a[k]? = some a[k] := Z2 hlt
   have wk : IntKind.i64.wrap ((k : Int) + 1) = ((k + 1 : Nat) : Int) := IntWalk.i64_in _ (by omega)
   by_cases hlb : k < b.length
   · have hy : b[k]? = some b[k] := Z2 hlb
     rw [Zr8 (Z1 hlt) (Z1 hlb)] at ho
     generalize a[k] = x at hx ho
     generalize b[k] = y at hy ho
     have hc := cmps_d G hG x y
     generalize strC x y = c at hc ho
     by_cases hz : c = 0
     · rw [if_neg (fun q => q hz)] at ho
       have F : _ ∧ _ ∧ _ ∧ _ ∧ _ ∧ _ ∧ _ := ⟨e0, e1, e9, e10, e11, hz, wk⟩
       repeat' first
        | refine gg ?_
        | refine Two.mk (fun hq => ?_) fun hq => ?_
        | (with_reducible refine Y7 ?_; refine gc rfl rfl rfl ent_152 (hc _) ?_)
        | (exfalso; omega)
       all_goals first | (exfalso; omega) | exact ⟨rfl, a.length - (k + 1), by omega, k + 1, hlt, hlb, rfl, ho, rfl, e0, e1, e9, e10, rfl⟩
     · rw [if_pos hz] at ho
       have F : _ ∧ _ ∧ _ ∧ _ ∧ _ ∧ _ ∧ _ := ⟨e0, e1, e9, e10, e11, hz, wk⟩
       repeat' first
        | refine gg ?_
        | refine Two.mk (fun hq => ?_) fun hq => ?_
        | (with_reducible refine Y7 ?_; refine gc rfl rfl rfl ent_152 (hc _) ?_)
        | (exfalso; omega)
       all_goals first | (exfalso; omega) | exact ⟨.inr rfl, endV hl0 rfl rfl ⟨rfl, by rw [ho]⟩⟩
   · rw [Zn6 _ _ _ _ hlt (by omega)] at ho
     have F : _ ∧ _ ∧ _ ∧ _ ∧ _ ∧ _ := ⟨e0, e1, e9, e10, e11, wk⟩
     repeat' first
      | refine gg ?_
      | refine Two.mk (fun hq => ?_) fun hq => ?_
      | refine Evry.mk fun x hx => ?_
      | (exfalso; omega)
     all_goals first | (exfalso; omega) | exact ⟨.inr rfl, endV hl0 rfl rfl ⟨rfl, by rw [ho]⟩⟩
 · rw [Zn7 _ _ _ _ (by omega)] at ho
   have F : _ ∧ _ ∧ _ ∧ _ ∧ _ := ⟨e0, e1, e9, e10, e11⟩
   repeat' first
    | refine gg ?_
    | refine Two.mk (fun hq => ?_) fun hq => ?_
    | refine Evry.mk fun x hx => ?_
    | (exfalso; omega)
   all_goals first | (exfalso; omega) | exact ⟨.inr rfl, endV hl0 rfl rfl ⟨rfl, by rw [ho]; first | rw [if_pos (by omega)] | rw [if_neg (by omega)]⟩⟩
theorem or_s2 (a b o : Int) (ho : orI [a, b] = o) (h : List Ob) (i : Nat) (hi : h[i]? = some (.buf 3 1 [[.v (.int .i64 a)], [.v (.int .i64 b)]])) : Does Z3 G 88 h [.buf i 2] (fun h' r => h' = h.set i (.buf 3 1 [[.v (.int .i64 a)], [.v (.int .i64 b)]]) ∧ r = .v (.int .i64 o)) := by
 rw [set_same hi, ← ho]; exact or_b G hG [a, b] (by simp) h i hi
theorem cmpTicks_d (a b : Tk) (h : List Ob) : Does Z3 G 155 h [.agg (tkX a), .agg (tkX b)] (fun h' r => h' = h ∧ r = .v (.int .i64 (Vf a b))) := by
 refine Ya G hG (by rw [lowL, lowL, lowL, low, low]; exact ⟨low_tk _ a, low_tk _ b, trivial⟩) (by rw [low]; trivial) ?_ h
 clear h
 have hor := or_s2 G hG (cmpI a.process b.process) (cmpI a.n b.n) (Vf a b) rfl
 refine Y5 Tryz.func155 rfl (Z0 rfl) hG fun hl0 _ => ?_
 simp only [Tryz.ntmps155]
 repeat' first
  | (with_reducible refine Yf ?_; refine Xu mixd (by kernel_rfl) ?_)
  | ((with_reducible refine Ze7 ?_); first | (refine aS1 rfl rfl fun K HK => ?_; simp only [go_sem] <;> (refine HK _ _ rfl ?_; clear HK K)) | refine Xl rfl rfl rfl (by (first | (simp only [go_sem]; rfl) | (simp only [go_sem]; done))) (by rw [getD_one (by simp only [go_sem])]; rfl) ?_ | refine Yb2 rfl rfl (by simp only [litD, V0, go_sem, Zk, Zm, Zv, Zs, and_self, ↓reduceIte, Z6, Zb, Z7, Zc, Zd, Ze, Zg, Zf, Zv1]; rfl) ?_ | refine U7 (by simp only [Zr, Zt, Zn, Zj, Ww, chk1]; repeat' (first | exact trivial | refine And.intro ?_ ?_ | exact .inr X7 | exact .inr Xe | exact .inr Xd | exact .inr (W6 (by omega)) | (refine .inr ?_; simp [compat, Wq, Uz, J0, nop] <;> omega) | exact .inl (by kernel_rfl))) ?_ | refine Yj rfl rfl rfl ent_215 (fun h2 => cmpInt_d G hG _ _ _) ?_ | refine Yj rfl rfl rfl ent_89 (fun h2 => cmp64_d G hG _ _ _) ?_ | refine Uj rfl rfl rfl ent_88 (by (first | (simp only [go_sem]; rfl) | (simp only [go_sem]; done))) (fun h2 k2 => hor h2 2 k2) ?_)
  | refine g0 ?_
  | fail
 exact ⟨.inr rfl, endV hl0 rfl rfl ⟨rfl, rfl⟩⟩
theorem cfTicks_d (a b : List Tk) (ha : a.length ≤ 9223372036854775807) (hb : b.length ≤ 9223372036854775807)
 (hc : ∀ x ∈ a, ∀ y ∈ b, ∀ h, Does Z3 G 155 h [.agg (tkX x), .agg (tkX y)] (fun h' r => h' = h ∧ r = .v (.int .i64 (Vf x y)))) (h : List Ob) :
 Does Z3 G 154 h [.sl 2 (a.map tkX), .sl 2 (b.map tkX), .fn 155 []] (fun h' r => h' = h ∧ r = .v (.int .i64 (lexC Vf a b))) := by
 have lo : ∀ l : List Tk, low 0 (.sl 2 (l.map tkX)) := fun l => Vk 0 l fun x _ => low_tk 0 x
 refine Ya G hG (by rw [lowL, lowL, lowL, lowL]; exact ⟨lo a, lo b, by simp [low, lowL], trivial⟩) (by rw [low]; trivial) ?_ h
 clear h
 refine Y5 Tryz.func154 rfl (Z0 rfl) hG fun hl0 _ => ?_
 simp only [Tryz.ntmps154]
 repeat' first
  | refine g0 ?_
  | fail
 refine Yh (fun m e h' => ∃ (k : Nat) (T : List Ob), k ≤ a.length ∧ k ≤ b.length ∧ m = a.length - k ∧ lexC Vf a b = lexC Vf (a.drop k) (b.drop k) ∧ h' = tM T ∧ e 0 = .sl 2 (a.map tkX) ∧ e 1 = .sl 2 (b.map tkX) ∧ e 2 = .fn 155 [] ∧ e 11 = .sl 2 (a.map tkX) ∧ e 12 = .v (.int .i64 a.length) ∧ e 13 = .v (.int .i64 k)) a.length ⟨0, [], Z8 _, Z8 _, rfl, rfl, rfl, rfl, rfl, rfl, rfl, rfl, rfl⟩ ?_
 rintro m e h' ⟨k, T, hk, hkb, rfl, ho, rfl, e0, e1, e2, e11, e12, e13⟩
 by_cases hlt : k < a.length
 · have hx : a[k]? = some a[k] := Z2 hlt
   have wk : IntKind.i64.wrap ((k : Int) + 1) = ((k + 1 : Nat) : Int) := IntWalk.i64_in _ (by omega)
   by_cases hlb : k < b.length
   · have hy : b[k]? = some b[k] := Z2 hlb
     have hc := hc a[k] (Z4 hlt) b[k] (Z4 hlb)
     rw [Zr8 (Z1 hlt) (Z1 hlb)] at ho
     generalize a[k] = x at hx ho hc
     generalize b[k] = y at hy ho hc
     generalize Vf x y = c at hc ho
     simp only [Zv1] at hc
     by_cases hz : c = 0
     · rw [if_neg (fun q => q hz)] at ho
       have F : _ ∧ _ ∧ _ ∧ _ ∧ _ ∧ _ ∧ _ ∧ _ := ⟨e0, e1, e2, e11, e12, e13, hz, wk⟩
       repeat' first
        | refine gg ?_
        | refine Two.mk (fun hq => ?_) fun hq => ?_
        | (with_reducible refine Y7 ?_; refine gc rfl rfl rfl ent_155 (hc _) ?_)
        | (exfalso; omega)
       all_goals first | (exfalso; omega) | exact ⟨rfl, a.length - (k + 1), by omega, k + 1, _, hlt, hlb, rfl, ho, rfl, e0, e1, e2, e11, e12, rfl⟩
     · rw [if_pos hz] at ho
       have F : _ ∧ _ ∧ _ ∧ _ ∧ _ ∧ _ ∧ _ ∧ _ := ⟨e0, e1, e2, e11, e12, e13, hz, wk⟩
       repeat' first
        | refine gg ?_
        | refine Two.mk (fun hq => ?_) fun hq => ?_
        | (with_reducible refine Y7 ?_; refine gc rfl rfl rfl ent_155 (hc _) ?_)
        | (exfalso; omega)
       all_goals first | (exfalso; omega) | exact ⟨.inr rfl, endV hl0 rfl rfl ⟨rfl, by rw [ho]⟩⟩
   · rw [Zn6 _ _ _ _ hlt (by omega)] at ho
     have F : _ ∧ _ ∧ _ ∧ _ ∧ _ ∧ _ ∧ _ := ⟨e0, e1, e2, e11, e12, e13, wk⟩
     repeat' first
      | refine gg ?_
      | refine Two.mk (fun hq => ?_) fun hq => ?_
      | refine Evry.mk fun x hx => ?_
      | (exfalso; omega)
     all_goals first | (exfalso; omega) | exact ⟨.inr rfl, endV hl0 rfl rfl ⟨rfl, by rw [ho]⟩⟩
 · rw [Zn7 _ _ _ _ (by omega)] at ho
   have F : _ ∧ _ ∧ _ ∧ _ ∧ _ ∧ _ := ⟨e0, e1, e2, e11, e12, e13⟩
   repeat' first
    | refine gg ?_
    | refine Two.mk (fun hq => ?_) fun hq => ?_
    | refine Evry.mk fun x hx => ?_
    | (exfalso; omega)
   all_goals first | (exfalso; omega) | exact ⟨.inr rfl, endV hl0 rfl rfl ⟨rfl, by rw [ho]; first | rw [if_pos (by omega)] | rw [if_neg (by omega)]⟩⟩
theorem cmpEnts_d (a b : En) (ha : a.clock.length ≤ 9223372036854775807) (hb : b.clock.length ≤ 9223372036854775807) (h : List Ob) : Does Z3 G 93 h [.agg (enX a), .agg (enX b)] (fun h' r => h' = h ∧ r = .v (.int .i64 (entC a b))) := by
 refine Ya G hG (by rw [lowL, lowL, lowL, low, low]; exact ⟨low_en _ a, low_en _ b, trivial⟩) (by rw [low]; trivial) ?_ h
 clear h
 have hor := or_s2 G hG (strC a.name b.name) (lexC Vf a.clock b.clock) (entC a b) rfl
 have hsc := scmp_d G hG a.name b.name
 simp only [strC_cb] at hsc
 have hcf := cfTicks_d G hG a.clock b.clock ha hb (fun x _ y _ h => cmpTicks_d G hG x y h)
 refine Y5 Tryz.func93 rfl (Z0 rfl) hG fun hl0 _ => ?_
 simp only [Tryz.ntmps93]
 repeat' first
  | (with_reducible refine Yf ?_; refine Xu mixd (by kernel_rfl) ?_)
  | ((with_reducible refine Ze7 ?_); first | (refine aS1 rfl rfl fun K HK => ?_; simp only [go_sem] <;> (refine HK _ _ rfl ?_; clear HK K)) | refine Xl rfl rfl rfl (by (first | (simp only [go_sem]; rfl) | (simp only [go_sem]; done))) (by rw [getD_one (by simp only [go_sem])]; rfl) ?_ | refine Yb2 rfl rfl (by simp only [litD, V0, go_sem, Zk, Zm, Zv, Zs, and_self, ↓reduceIte, Z6, Zb, Z7, Zc, Zd, Ze, Zg, Zf, Zd0]; rfl) ?_ | refine U7 (by simp only [Zr, Zt, Zn, Zj, Ww, chk1]; repeat' (first | exact trivial | refine And.intro ?_ ?_ | exact .inr X7 | exact .inr Xe | exact .inr Xd | exact .inr (W6 (by omega)) | (refine .inr ?_; simp [compat, Wq, Uz, J0, nop] <;> omega) | exact .inl (by kernel_rfl))) ?_ | refine Yj rfl rfl rfl ent_153 (fun h2 => hsc _) ?_ | refine Yj rfl rfl rfl ent_154 (fun h2 => hcf _) ?_ | refine Uj rfl rfl rfl ent_88 (by (first | (simp only [go_sem]; rfl) | (simp only [go_sem]; done))) (fun h2 k2 => hor h2 2 k2) ?_)
  | refine g0 ?_
  | fail
 exact ⟨.inr rfl, endV hl0 rfl rfl ⟨rfl, rfl⟩⟩
theorem cfEnts_d (a b : List En) (ha : a.length ≤ 9223372036854775807) (hb : b.length ≤ 9223372036854775807)
 (hc : ∀ x ∈ a, ∀ y ∈ b, ∀ h, Does Z3 G 93 h [.agg (enX x), .agg (enX y)] (fun h' r => h' = h ∧ r = .v (.int .i64 (entC x y)))) (h : List Ob) :
 Does Z3 G 92 h [.sl 2 (a.map enX), .sl 2 (b.map enX), .fn 93 []] (fun h' r => h' = h ∧ r = .v (.int .i64 (lexC entC a b))) := by
 have lo : ∀ l : List En, low 0 (.sl 2 (l.map enX)) := fun l => Vk 0 l fun x _ => low_en 0 x
 refine Ya G hG (by rw [lowL, lowL, lowL, lowL]; exact ⟨lo a, lo b, by simp [low, lowL], trivial⟩) (by rw [low]; trivial) ?_ h
 clear h
 refine Y5 Tryz.func92 rfl (Z0 rfl) hG fun hl0 _ => ?_
 simp only [Tryz.ntmps92]
 repeat' first
  | refine g0 ?_
  | fail
 refine Yh (fun m e h' => ∃ (k : Nat) (T : List Ob), k ≤ a.length ∧ k ≤ b.length ∧ m = a.length - k ∧ lexC entC a b = lexC entC (a.drop k) (b.drop k) ∧ h' = tM T ∧ e 0 = .sl 2 (a.map enX) ∧ e 1 = .sl 2 (b.map enX) ∧ e 2 = .fn 93 [] ∧ e 11 = .sl 2 (a.map enX) ∧ e 12 = .v (.int .i64 a.length) ∧ e 13 = .v (.int .i64 k)) a.length ⟨0, [], Z8 _, Z8 _, rfl, rfl, rfl, rfl, rfl, rfl, rfl, rfl, rfl⟩ ?_
 rintro m e h' ⟨k, T, hk, hkb, rfl, ho, rfl, e0, e1, e2, e11, e12, e13⟩
 by_cases hlt : k < a.length
 · have hx : a[k]? = some a[k] := Z2 hlt
   have wk : IntKind.i64.wrap ((k : Int) + 1) = ((k + 1 : Nat) : Int) := IntWalk.i64_in _ (by omega)
   by_cases hlb : k < b.length
   · have hy : b[k]? = some b[k] := Z2 hlb
     have hc := hc a[k] (Z4 hlt) b[k] (Z4 hlb)
     rw [Zr8 (Z1 hlt) (Z1 hlb)] at ho
     generalize a[k] = x at hx ho hc
     generalize b[k] = y at hy ho hc
     generalize entC x y = c at hc ho
     simp only [Zd0] at hc
     by_cases hz : c = 0
     · rw [if_neg (fun q => q hz)] at ho
       have F : _ ∧ _ ∧ _ ∧ _ ∧ _ ∧ _ ∧ _ ∧ _ := ⟨e0, e1, e2, e11, e12, e13, hz, wk⟩
       repeat' first
        | refine gg ?_
        | refine Two.mk (fun hq => ?_) fun hq => ?_
        | (with_reducible refine Y7 ?_; refine gc rfl rfl rfl ent_93 (hc _) ?_)
        | (exfalso; omega)
       all_goals first | (exfalso; omega) | exact ⟨rfl, a.length - (k + 1), by omega, k + 1, _, hlt, hlb, rfl, ho, rfl, e0, e1, e2, e11, e12, rfl⟩
     · rw [if_pos hz] at ho
       have F : _ ∧ _ ∧ _ ∧ _ ∧ _ ∧ _ ∧ _ ∧ _ := ⟨e0, e1, e2, e11, e12, e13, hz, wk⟩
       repeat' first
        | refine gg ?_
        | refine Two.mk (fun hq => ?_) fun hq => ?_
        | (with_reducible refine Y7 ?_; refine gc rfl rfl rfl ent_93 (hc _) ?_)
        | (exfalso; omega)
       all_goals first | (exfalso; omega) | exact ⟨.inr rfl, endV hl0 rfl rfl ⟨rfl, by rw [ho]⟩⟩
   · rw [Zn6 _ _ _ _ hlt (by omega)] at ho
     have F : _ ∧ _ ∧ _ ∧ _ ∧ _ ∧ _ ∧ _ := ⟨e0, e1, e2, e11, e12, e13, wk⟩
     repeat' first
      | refine gg ?_
      | refine Two.mk (fun hq => ?_) fun hq => ?_
      | refine Evry.mk fun x hx => ?_
      | (exfalso; omega)
     all_goals first | (exfalso; omega) | exact ⟨.inr rfl, endV hl0 rfl rfl ⟨rfl, by rw [ho]⟩⟩
 · rw [Zn7 _ _ _ _ (by omega)] at ho
   have F : _ ∧ _ ∧ _ ∧ _ ∧ _ ∧ _ := ⟨e0, e1, e2, e11, e12, e13⟩
   repeat' first
    | refine gg ?_
    | refine Two.mk (fun hq => ?_) fun hq => ?_
    | refine Evry.mk fun x hx => ?_
    | (exfalso; omega)
   all_goals first | (exfalso; omega) | exact ⟨.inr rfl, endV hl0 rfl rfl ⟨rfl, by rw [ho]; first | rw [if_pos (by omega)] | rw [if_neg (by omega)]⟩⟩
theorem cfVals_d (a b : List Val) (ha : a.length ≤ 9223372036854775807) (hb : b.length ≤ 9223372036854775807)
 (hc : ∀ x ∈ a, ∀ y ∈ b, ∀ h, Does Z3 G 44 h [.agg (vaX x), .agg (vaX y)] (fun h' r => h' = h ∧ r = .v (.int .i64 (valC x y)))) (h : List Ob) :
 Does Z3 G 91 h [.sl 4 (a.map vaX), .sl 4 (b.map vaX), .fn 44 []] (fun h' r => h' = h ∧ r = .v (.int .i64 (lexC valC a b))) := by
 have lo : ∀ l : List Val, low 0 (.sl 4 (l.map vaX)) := fun l => Vk 0 l fun x _ => Ys 0 x
 refine Ya G hG (by rw [lowL, lowL, lowL, lowL]; exact ⟨lo a, lo b, by simp [low, lowL], trivial⟩) (by rw [low]; trivial) ?_ h
 clear h
 refine Y5 Tryz.func91 rfl (Z0 rfl) hG fun hl0 _ => ?_
 simp only [Tryz.ntmps91]
 repeat' first
  | refine g0 ?_
  | fail
 refine Yh (fun m e h' => ∃ (k : Nat) (T : List Ob), k ≤ a.length ∧ k ≤ b.length ∧ m = a.length - k ∧ lexC valC a b = lexC valC (a.drop k) (b.drop k) ∧ h' = tM T ∧ e 0 = .sl 4 (a.map vaX) ∧ e 1 = .sl 4 (b.map vaX) ∧ e 2 = .fn 44 [] ∧ e 11 = .sl 4 (a.map vaX) ∧ e 12 = .v (.int .i64 a.length) ∧ e 13 = .v (.int .i64 k)) a.length ⟨0, [], Z8 _, Z8 _, rfl, rfl, rfl, rfl, rfl, rfl, rfl, rfl, rfl⟩ ?_
 rintro m e h' ⟨k, T, hk, hkb, rfl, ho, rfl, e0, e1, e2, e11, e12, e13⟩
 by_cases hlt : k < a.length
 · have hx : a[k]? = some a[k] := Z2 hlt
   have wk : IntKind.i64.wrap ((k : Int) + 1) = ((k + 1 : Nat) : Int) := IntWalk.i64_in _ (by omega)
   by_cases hlb : k < b.length
   · have hy : b[k]? = some b[k] := Z2 hlb
     have hc := hc a[k] (Z4 hlt) b[k] (Z4 hlb)
     rw [Zr8 (Z1 hlt) (Z1 hlb)] at ho
     generalize a[k] = x at hx ho hc
     generalize b[k] = y at hy ho hc
     generalize valC x y = c at hc ho
     simp only [Y6] at hc
     by_cases hz : c = 0
     · rw [if_neg (fun q => q hz)] at ho
       have F : _ ∧ _ ∧ _ ∧ _ ∧ _ ∧ _ ∧ _ ∧ _ := ⟨e0, e1, e2, e11, e12, e13, hz, wk⟩
       repeat' first
        | refine gg ?_
        | refine Two.mk (fun hq => ?_) fun hq => ?_
        | (with_reducible refine Y7 ?_; refine gc rfl rfl rfl ent_44 (hc _) ?_)
        | (exfalso; omega)
       all_goals first | (exfalso; omega) | exact ⟨rfl, a.length - (k + 1), by omega, k + 1, _, hlt, hlb, rfl, ho, rfl, e0, e1, e2, e11, e12, rfl⟩
     · rw [if_pos hz] at ho
       have F : _ ∧ _ ∧ _ ∧ _ ∧ _ ∧ _ ∧ _ ∧ _ := ⟨e0, e1, e2, e11, e12, e13, hz, wk⟩
       repeat' first
        | refine gg ?_
        | refine Two.mk (fun hq => ?_) fun hq => ?_
        | (with_reducible refine Y7 ?_; refine gc rfl rfl rfl ent_44 (hc _) ?_)
        | (exfalso; omega)
       all_goals first | (exfalso; omega) | exact ⟨.inr rfl, endV hl0 rfl rfl ⟨rfl, by rw [ho]⟩⟩
   · rw [Zn6 _ _ _ _ hlt (by omega)] at ho
     have F : _ ∧ _ ∧ _ ∧ _ ∧ _ ∧ _ ∧ _ := ⟨e0, e1, e2, e11, e12, e13, wk⟩
     repeat' first
      | refine gg ?_
      | refine Two.mk (fun hq => ?_) fun hq => ?_
      | refine Evry.mk fun x hx => ?_
      | (exfalso; omega)
     all_goals first | (exfalso; omega) | exact ⟨.inr rfl, endV hl0 rfl rfl ⟨rfl, by rw [ho]⟩⟩
 · rw [Zn7 _ _ _ _ (by omega)] at ho
   have F : _ ∧ _ ∧ _ ∧ _ ∧ _ ∧ _ := ⟨e0, e1, e2, e11, e12, e13⟩
   repeat' first
    | refine gg ?_
    | refine Two.mk (fun hq => ?_) fun hq => ?_
    | refine Evry.mk fun x hx => ?_
    | (exfalso; omega)
   all_goals first | (exfalso; omega) | exact ⟨.inr rfl, endV hl0 rfl rfl ⟨rfl, by rw [ho]; first | rw [if_pos (by omega)] | rw [if_neg (by omega)]⟩⟩
theorem compare_va (n : Nat) : ∀ (a b : Val), SizeOf.sizeOf a ≤ n → VSm a → VSm b → ∀ (h : List Ob), Does Z3 G 44 h [.agg (vaX a), .agg (vaX b)] (fun h' r => h' = h ∧ r = .v (.int .i64 (valC a b))) := by
 induction n with
 | zero => intro a b hn; cases a; simp at hn
 | succ n ih =>
 intro a b hn sa sb h
 refine Ya G hG (by rw [lowL, lowL, lowL, low, low]; exact ⟨Ys _ a, Ys _ b, trivial⟩) (by rw [low]; trivial) ?_ h
 clear h
 have hor := or_s2 G hG (cmpI a.n b.n) (lexC strC a.names b.names) _ rfl
 have hna := slicesCmp_d G hG a.names b.names sa.names sb.names
 have hpa := cfVals_d G hG a.parts b.parts sa.parts sb.parts (fun x hx y hy h => ih x y (by
   have := List.sizeOf_lt_of_mem hx
   cases a with
   | mk m ns ps es => simp only [Val.parts] at this; simp only [Val.mk.sizeOf_spec] at hn; omega) (sa.part x hx) (sb.part y hy) h)
 have hen := cfEnts_d G hG a.entries b.entries sa.entries sb.entries (fun x hx y hy h => cmpEnts_d G hG x y (sa.ents x hx).1 (sb.ents y hy).1 h)
 have hv : valC a b = if orI [cmpI a.n b.n, lexC strC a.names b.names] ≠ 0 then orI [cmpI a.n b.n, lexC strC a.names b.names] else if lexC valC a.parts b.parts ≠ 0 then lexC valC a.parts b.parts else lexC entC a.entries b.entries := by
  rw [valC_eq]
  by_cases h1 : cmpI a.n b.n = 0
  · by_cases h2 : lexC strC a.names b.names = 0 <;> simp [orI, h1, h2]
  · simp [orI, h1]
 generalize orI [cmpI a.n b.n, lexC strC a.names b.names] = o1 at *
 generalize lexC valC a.parts b.parts = o2 at *
 generalize lexC entC a.entries b.entries = o3 at *
 generalize valC a b = vc at *
 have hc1 := cmp64_d G hG a.n b.n
 generalize cmpI a.n b.n = c1 at *
 generalize lexC strC a.names b.names = c2 at *
 refine Y5 Tryz.func44 rfl (Z0 rfl) hG fun hl0 _ => ?_
 simp only [Tryz.ntmps44]
 by_cases h1 : o1 = 0
 · by_cases h2 : o2 = 0
   all_goals
    skip
    have F : _ ∧ _ := ⟨h1, h2⟩
    repeat' first
     | (with_reducible refine Yf ?_; refine Xu mixd (by kernel_rfl) ?_)
     | ((with_reducible refine Ze7 ?_); first | (refine aS1 rfl rfl fun K HK => ?_; simp only [go_sem, F] <;> (refine HK _ _ rfl ?_; clear HK K)) | refine Xl rfl rfl rfl (by (first | (simp only [go_sem, F]; rfl) | (simp only [go_sem, F]; done))) (by rw [getD_one (by simp only [go_sem, F])]; rfl) ?_ | refine Yb2 rfl rfl (by simp only [litD, V0, go_sem, Zk, Zm, Zv, Zs, and_self, ↓reduceIte, Z6, Zb, Z7, Zc, Zd, Ze, Zg, Zf, Y6, h1, h2]; rfl) ?_ | refine U7 (by simp only [Zr, Zt, Zn, Zj, Ww, chk1]; repeat' (first | exact trivial | refine And.intro ?_ ?_ | exact .inr X7 | exact .inr Xe | exact .inr Xd | exact .inr (W6 (by omega)) | (refine .inr ?_; simp [compat, Wq, Uz, J0, nop] <;> omega) | exact .inl (by kernel_rfl))) ?_ | refine Yj rfl rfl rfl ent_89 (fun h2 => hc1 _) ?_ | refine Yj rfl rfl rfl ent_90 (fun h2 => hna _) ?_ | refine Uj rfl rfl rfl ent_88 (by (first | (simp only [go_sem, F]; rfl) | (simp only [go_sem, F]; done))) (fun h2 k2 => hor h2 2 k2) ?_)
     | refine g0 ?_
     | (with_reducible refine Y7 ?_; first | refine gc rfl rfl rfl ent_91 (hpa _) ?_ | refine gc rfl rfl rfl ent_92 (hen _) ?_)
    exact ⟨.inr rfl, endV hl0 rfl rfl ⟨rfl, by rw [hv]; simp [h1, h2]⟩⟩
 · skip
   have F := h1
   repeat' first
    | (with_reducible refine Yf ?_; refine Xu mixd (by kernel_rfl) ?_)
    | ((with_reducible refine Ze7 ?_); first | (refine aS1 rfl rfl fun K HK => ?_; simp only [go_sem, F] <;> (refine HK _ _ rfl ?_; clear HK K)) | refine Xl rfl rfl rfl (by (first | (simp only [go_sem, F]; rfl) | (simp only [go_sem, F]; done))) (by rw [getD_one (by simp only [go_sem, F])]; rfl) ?_ | refine Yb2 rfl rfl (by simp only [litD, V0, go_sem, Zk, Zm, Zv, Zs, and_self, ↓reduceIte, Z6, Zb, Z7, Zc, Zd, Ze, Zg, Zf, Y6, h1]; rfl) ?_ | refine U7 (by simp only [Zr, Zt, Zn, Zj, Ww, chk1]; repeat' (first | exact trivial | refine And.intro ?_ ?_ | exact .inr X7 | exact .inr Xe | exact .inr Xd | exact .inr (W6 (by omega)) | (refine .inr ?_; simp [compat, Wq, Uz, J0, nop] <;> omega) | exact .inl (by kernel_rfl))) ?_ | refine Yj rfl rfl rfl ent_89 (fun h2 => hc1 _) ?_ | refine Yj rfl rfl rfl ent_90 (fun h2 => hna _) ?_ | refine Uj rfl rfl rfl ent_88 (by (first | (simp only [go_sem, F]; rfl) | (simp only [go_sem, F]; done))) (fun h2 k2 => hor h2 2 k2) ?_)
    | refine g0 ?_
    | fail
   exact ⟨.inr rfl, endV hl0 rfl rfl ⟨rfl, by rw [hv]; simp [h1]⟩⟩
theorem equal_va (a b : Val) (sa : VSm a) (sb : VSm b) (h : List Ob) : Does Z3 G 104 h [.agg (vaX a), .agg (vaX b)] (fun h' r => h' = h ∧ r = .v (.bool (decide (valC a b = 0)))) := by
 refine Ya G hG (by rw [lowL, lowL, lowL, low, low]; exact ⟨Ys _ a, Ys _ b, trivial⟩) (by rw [low]; trivial) ?_ h
 clear h
 have hc := compare_va G hG _ a b (Zx _) sa sb
 generalize valC a b = c at *
 simp only [Y6] at hc
 refine Y5 Tryz.func104 rfl (Z0 rfl) hG fun hl0 _ => ?_
 simp only [Tryz.ntmps104]
 repeat' first
  | refine gg ?_
  | refine Two.mk (fun hq => ?_) fun hq => ?_
  | (with_reducible refine Y7 ?_; refine gc rfl rfl rfl ent_44 (hc _) ?_)
 all_goals exact ⟨.inr rfl, endV hl0 rfl rfl ⟨rfl, by first | rw [decide_eq_true hq] | rw [decide_eq_false hq] | rfl⟩⟩
end
end Go.Proofs.YtbhkcbidcfofiaaGreat
