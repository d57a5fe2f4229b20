/-
  What the statements of the chapter share, part 27: JT6, JT7, LR2, JT8, JT9, JT0, QA1, QA2, QA3, QA4, QA5, QC1, QA6, MX, QP1.
-/
import Derived.Test.YtbhkcbidcfofiaaGreatY14
import Derived.Test.YtbhkcbidcfofiaaGreatY15
import Derived.Test.YtbhkcbidcfofiaaGreatY16
import Derived.Test.YtbhkcbidcfofiaaGreatY21
import Derived.Test.YtbhkcbidcfofiaaGreatY23
import Derived.Test.YtbhkcbidcfofiaaGreatY24
import Derived.Test.YtbhkcbidcfofiaaGreatY25
import Derived.Test.YtbhkcbidcfofiaaGreatY26
set_option linter.unusedVariables false
set_option linter.unusedSimpArgs false
set_option maxRecDepth 100000
set_option maxHeartbeats 8000000
namespace Go.Proofs.YtbhkcbidcfofiaaGreat
open _root_.Bool renaming and_eq_true → Z5, not_eq_true' → Za, not_false → Zd, not_eq_true → Zh, not_true → Zk, false_ne_true → Zt, true_and → Zv, false_eq_true → Zz
open _root_.Int renaming toNat_natCast → Zf, reduceEq → Zp, reduceLE → Zq, reduceLT → Zr
open _root_.List renaming mem_singleton → Z0, mem_map → Z1, length_map → Z3, length_eq_one_iff → Z4, pairwise_map → Z6, pairwise_cons → Zc, drop_eq_getElem_cons → Ze, getElem?_eq_getElem → Zg, length_append → Zi, drop_eq_nil_of_le → Zj, pairwise_append → Zo, map_cons → Zs, getElem_mem → Zu, all_cons → Zw, mem_cons → Zx, mem_append → Zy, exists_mem_of_ne_nil → Y0, all_eq_true → Y1, cons_append → Y2, length_cons → Y3, length_nil → Ys6, nil_append → Ys7
open _root_.Nat renaming le_of_ble_eq_true → Z2, zero_le → Z8, reduceEqDiff → Z9, reduceLeDiff → Zb, reduceAdd → Zl, reduceBEq → Zm, reduceMul → Zn
open _root_.Go.Proofs.Tryz renaming prog → Z7
open Go.RowKit
section
def belowC (ns : List ByteArray) (rs : List Rl) (s : List ByteArray) : List ByteArray := ofS (s.flatMap fun n => if Zb2 ns rs [n] = s then [] else Zb2 ns rs [n])
def singleB (ns : List ByteArray) (rs : List Rl) (s : List ByteArray) : Bool := !decide (Zb2 ns rs (belowC ns rs s) = s) && !decide (s = [])
def botsB : List Lat → List Val → Bool
 | p :: ps, v :: vs => decide (valC v (botV p) = 0) && botsB ps vs
 | [], _ => true
 | _ :: _, [] => true
mutual
def irrV : Lat → Val → Bool
 | .mk k lo hi ns ps rs, v =>
   if k = 4 then decide (v.names.length = 1) else if k = 9 then decide (v.entries.length = 1)
   else if k = 8 then decide (v.n = 1 ∨ (v.n = 2 ∧ ns.length = 1)) else if k = 10 then singleB ns rs v.names
   else if k = 5 then decide (v.names.length = 1) && Yj7 ps v.parts else if k = 6 then irrs ps v.parts
   else if k = 7 then irrLex ps v.parts else !decide (valC v (botV (.mk k lo hi ns ps rs)) = 0)
def Yj7 : List Lat → List Val → Bool
 | p :: _, v :: _ => irrV p v
 | [], _ => false
 | _ :: _, [] => false
def irrs : List Lat → List Val → Bool
 | p :: ps, v :: vs => if valC v (botV p) = 0 then irrs ps vs else irrV p v && botsB ps vs
 | [], _ => false
 | _ :: _, [] => false
def irrLex : List Lat → List Val → Bool
 | p :: ps, v :: vs => irrLex2 (decide (valC v (botV p) = 0)) ps vs
 | [], _ => false
 | _ :: _, [] => false
def irrLex2 (z : Bool) : List Lat → List Val → Bool
 | q :: _, w :: _ => if valC w (botV q) = 0 then !z else irrV q w
 | [], _ => false
 | _ :: _, [] => false
end
theorem Yf6 : ∀ {ps : List Lat} {vs : List Val}, vs.length = ps.length → (botsB ps vs = true ↔ vs = ps.map botV)
 | [], [], _ => by simp [botsB]
 | p :: ps, v :: vs, h => by
  rw [botsB, Z5, decide_eq_true_eq, Yo, Yf6 (by simpa using h), Zs, List.cons.injEq]
 | [], _ :: _, h => by simp at h
 | _ :: _, [], h => by simp at h
section
variable {k lo hi : Int} {ns : List ByteArray} {ps : List Lat} {rs : List Rl} {v : Val}
theorem irrV_4 : irrV (.mk 4 lo hi ns ps rs) v = decide (v.names.length = 1) := by rw [irrV, if_pos (by rfl)]
theorem irrV_9 : irrV (.mk 9 lo hi ns ps rs) v = decide (v.entries.length = 1) := by rw [irrV, if_neg (by decide), if_pos (by rfl)]
theorem irrV_8 : irrV (.mk 8 lo hi ns ps rs) v = decide (v.n = 1 ∨ (v.n = 2 ∧ ns.length = 1)) := by rw [irrV, if_neg (by decide), if_neg (by decide), if_pos (by rfl)]
theorem irrV_10 : irrV (.mk 10 lo hi ns ps rs) v = singleB ns rs v.names := by rw [irrV, if_neg (by decide), if_neg (by decide), if_neg (by decide), if_pos (by rfl)]
theorem irrV_5 {p : Lat} : irrV (.mk 5 lo hi ns [p] rs) v = (decide (v.names.length = 1) && Yj7 [p] v.parts) := by rw [irrV, if_neg (by decide), if_neg (by decide), if_neg (by decide), if_neg (by decide), if_pos (by rfl)]
theorem irrV_6 : irrV (.mk 6 lo hi ns ps rs) v = irrs ps v.parts := by rw [irrV, if_neg (by decide), if_neg (by decide), if_neg (by decide), if_neg (by decide), if_neg (by decide), if_pos (by rfl)]
theorem irrV_7 {p q : Lat} {x : Val × Val} : irrV (.mk 7 lo hi ns [p, q] rs) (ofP x) = if x.2 = botV q then !decide (x.1 = botV p) else irrV q x.2 := by
 rw [irrV, if_neg (by decide), if_neg (by decide), if_neg (by decide), if_neg (by decide), if_neg (by decide), if_neg (by decide), if_pos (by rfl)]
 show irrLex [p, q] [x.1, x.2] = _
 rw [irrLex, irrLex2]
 by_cases h : x.2 = botV q
 · rw [if_pos h, if_pos ((Yo _ _).2 h)]; simp only [Yo]
 · rw [if_neg h, if_neg (fun e => h ((Yo _ _).1 e))]
theorem irrV_n (hk : k = 1 ∨ k = 2 ∨ k = 3) : irrV (.mk k lo hi ns ps rs) v = !decide (v = botV (.mk k lo hi ns ps rs)) := by
 rw [irrV, if_neg (by omega), if_neg (by omega), if_neg (by omega), if_neg (by omega), if_neg (by omega), if_neg (by omega), if_neg (by omega)]
 simp only [Yo]
theorem Zr4 (h2 : k ≠ 2) (h3 : k ≠ 3) (h6 : k ≠ 6) (h7 : k ≠ 7) : botV (.mk k lo hi ns ps rs) = Uy := by rw [botV, if_neg h2, if_neg h3, if_neg (by omega)]
theorem bot67 (h : k = 6 ∨ k = 7) : botV (.mk k lo hi ns ps rs) = .mk 0 [] (ps.map botV) [] := by rw [botV, if_neg (by omega), if_neg (by omega), if_pos h, Zr5]
end
theorem Yp6 : ∀ {ps : List Lat} {vs : List Val}, irrs ps vs = true → vs ≠ ps.map botV
 | [], vs, h, _ => by rw [irrs] at h; cases h
 | _ :: _, [], h, _ => by rw [irrs] at h; cases h
 | p :: ps, v :: vs, h, e => by
  rw [Zs, List.cons.injEq] at e
  rw [irrs, if_pos ((Yo _ _).2 e.1)] at h
  exact Yp6 h e.2
theorem one_map {lo hi : Int} {ns : List ByteArray} {p : Lat} {rs : List Rl} {v : Val} (he : Yb (.mk 5 lo hi ns [p] rs) v = true) (h : irrV (.mk 5 lo hi ns [p] rs) v = true) : ∃ s w, v = .mk 0 [s] [w] [] ∧ irrV p w = true ∧ Yb p w = true ∧ w ≠ botV p := by
 rw [V5] at he
 rw [irrV_5, Z5, decide_eq_true_eq] at h
 obtain ⟨n, nm, pt, es⟩ := v
 obtain ⟨s, e1⟩ := Z4.1 (show nm.length = 1 from h.1)
 obtain ⟨w, e2⟩ := Z4.1 (show pt.length = 1 from (show nm.length = pt.length from he.2.1) ▸ h.1)
 have e3 : n = 0 := he.1.1
 have e4 : es = [] := he.1.2
 subst e1 e2 e3 e4
 have h2 : Yj7 [p] [w] = true := h.2
 rw [Yj7] at h2
 have := he.2.2.2 w (Z0.2 rfl)
 exact ⟨s, w, rfl, h2, this.1, this.2⟩
theorem Yd3 {l : Lat} (hwf : WfL l) {v : Val} (he : Yb l v = true) (h : irrV l v = true) : v ≠ botV l := by
 have hk := hwf.kinds
 have hc := hwf.chain
 obtain ⟨k, lo, hi, ns, ps, rs⟩ := l
 simp only [Lat.kind, Lat.lo, Lat.hi, Lat.names, Lat.parts, Lat.rules] at hk hc
 have hkk : (k = 1 ∨ k = 2 ∨ k = 3) ∨ k = 4 ∨ k = 5 ∨ k = 6 ∨ k = 7 ∨ k = 8 ∨ k = 9 ∨ k = 10 := by omega
 rcases hkk with h1 | rfl | rfl | rfl | rfl | rfl | rfl | rfl
 · rw [irrV_n h1, Za, decide_eq_false_iff_not] at h; exact h
 · rw [irrV_4, decide_eq_true_eq] at h
   rw [Zr4 (by decide) (by decide) (by decide) (by decide)]
   intro e; rw [e] at h; exact absurd h (by decide)
 · obtain ⟨p, rfl⟩ := Z4.1 (hk.2.1 rfl)
   obtain ⟨s, w, rfl, _⟩ := one_map he h
   rw [Zr4 (by decide) (by decide) (by decide) (by decide)]
   intro e; exact absurd (congrArg Val.names e) (by simp [Val.names, Uy])
 · rw [irrV_6] at h
   rw [bot67 (.inl rfl)]
   intro e; exact Yp6 h (congrArg Val.parts e)
 · obtain ⟨p, q, rfl, _⟩ := hc rfl
   have he' := el_7.1 he
   rw [← he'.2] at h ⊢
   rw [irrV_7] at h
   rw [bot67 (.inr rfl)]
   intro e
   have e2 : [(Jw v).1, (Jw v).2] = [botV p, botV q] := congrArg Val.parts e
   simp only [List.cons.injEq, and_true] at e2
   rw [if_pos e2.2, e2.1] at h
   simp at h
 · rw [irrV_8, decide_eq_true_eq] at h
   rw [Zr4 (by decide) (by decide) (by decide) (by decide)]
   intro e; rw [e] at h; exact absurd h (by simp [Val.n, Uy])
 · rw [irrV_9, decide_eq_true_eq] at h
   rw [Zr4 (by decide) (by decide) (by decide) (by decide)]
   intro e; rw [e] at h; exact absurd h (by decide)
 · rw [irrV_10] at h
   unfold singleB at h
   rw [Z5, Za, Za, decide_eq_false_iff_not, decide_eq_false_iff_not] at h
   rw [Zr4 (by decide) (by decide) (by decide) (by decide)]
   intro e; exact h.2 (congrArg Val.names e)
theorem irrs_df : ∀ {ps : List Lat} {vs bs : List Val}, (∀ p ∈ ps, JlV p) → (∀ p ∈ ps, DfV p) → (∀ p ∈ ps, ∀ v a, Yb p v = true → Yb p a = true → irrV p v = true → leqV p v a = true ∨ Wz p v a = v) → PsE ps vs → PsE ps bs → irrs ps vs = true → leqs ps vs bs = true ∨ Zr0 ps vs bs = vs
 | [], _, _, _, _, _, _, _, h => by rw [irrs] at h; cases h
 | p :: ps, vs, bs, HJ, HD, H, hv, hb, h => by
  obtain ⟨v, t, rfl, h1, h2⟩ := Yk.1 hv
  obtain ⟨b, t', rfl, h3, h4⟩ := Yk.1 hb
  have J := HJ p (by simp)
  have D := HD p (by simp)
  have HJ' : ∀ q ∈ ps, JlV q := fun q hq => HJ q (by simp [hq])
  have HD' : ∀ q ∈ ps, DfV q := fun q hq => HD q (by simp [hq])
  have JP := Zy3 ps HJ'
  have DP := Yr1 ps HJ' HD'
  rw [irrs] at h
  rw [leqs, Zr0]
  by_cases e : v = botV p
  · rw [if_pos ((Yo _ _).2 e)] at h
    have hle : leqV p v b = true := by rw [e]; exact J.bot b h3
    rw [hle, Zv, D.botd _ _ h1 h3 hle, ← e, List.cons.injEq]
    exact (irrs_df HJ' HD' (fun q hq => H q (by simp [hq])) h2 h4 h).imp id fun h => ⟨rfl, h⟩
  · rw [if_neg (fun q => e ((Yo _ _).1 q)), Z5, Yf6 h2.1] at h
    have hle : leqs ps t t' = true := by rw [h.2]; exact JP.bot _ h4
    have hd : Zr0 ps t t' = t := by rw [DP.botd _ _ h2 h4 hle]; exact h.2.symm
    rw [hle, Bool.and_true, hd, List.cons.injEq]
    exact (H p (by simp) v b h1 h3 h.1).imp id fun h => ⟨h, rfl⟩
theorem irr_df (f : Nat) : ∀ l : Lat, SizeOf.sizeOf l ≤ f → WfL l → W4 l = true → ∀ v a, Yb l v = true → Yb l a = true → irrV l v = true → leqV l v a = true ∨ Wz l v a = v := by
 induction f with
 | zero => intro l hn; cases l; simp at hn
 | succ f ih =>
  intro l hn hwf hd v a hv ha h
  by_cases hle : leqV l v a = true
  · exact .inl hle
  have hk := hwf.kinds
  have hp : ∀ p ∈ l.parts, W4 p = true → ∀ v a, Yb p v = true → Yb p a = true → irrV p v = true → leqV p v a = true ∨ Wz p v a = v := fun p hp => ih p (by have := Yz hp; omega) (hwf.part hp)
  have hj : ∀ p ∈ l.parts, JlV p := fun p hp => (hwf.part hp).jl
  have hD : ∀ p ∈ l.parts, DfV p := fun p hp => (hwf.part hp).df
  have hc := hwf.chain
  have hdp := Zi2 hd
  obtain ⟨k, lo, hi, ns, ps, rs⟩ := l
  simp only [Lat.kind, Lat.lo, Lat.hi, Lat.names, Lat.parts, Lat.rules] at hk hp hj hD hc hdp
  have hkk : (k = 1 ∨ k = 2 ∨ k = 3) ∨ k = 4 ∨ k = 5 ∨ k = 6 ∨ k = 7 ∨ k = 9 := by omega
  have hle' := hle
  rcases hkk with h1 | rfl | rfl | rfl | rfl | rfl
  · exact .inr (Zu2 (by omega) (by simpa using hle))
  · rw [irrV_4, decide_eq_true_eq] at h
    right
    rw [Wz, if_neg hle, if_pos rfl]
    rw [isE_4] at hv
    obtain ⟨s, hs⟩ := Z4.1 h
    have : minS v.names a.names = v.names := by
     rw [U7 (.inl rfl), Yj, hs] at hle
     rw [hs]
     unfold minS
     refine List.filter_eq_self.2 fun x hx => ?_
     rw [Za, ← Zh, Xs]
     rw [Z0] at hx
     exact fun hm => hle fun y hy => by rw [Z0] at hy; rw [hy, ← hx]; exact hm
    rw [this]; exact el_set'.2 hv.1
  · obtain ⟨p, rfl⟩ := Z4.1 (hk.2.1 rfl)
    obtain ⟨s, w, rfl, h1, h2, h3⟩ := one_map hv h
    right
    rw [Wz, if_neg hle, if_neg (by decide), if_pos rfl, diffMap]
    have J := hj p (by simp)
    have D := hD p (by simp)
    have ha' := V5.1 ha
    have hq : W4 p = true := Uh.1 hdp.2.2 p (by simp)
    have hw : Wz p w ((getM a s).getD (botV p)) = w := by
     cases hg : getM a s with
     | none => exact ((hp p (by simp) hq w _ h2 J.bmem h1).resolve_left fun q => h3 ((J.is_bot h2).1 q))
     | some u =>
      refine (hp p (by simp) hq w u h2 (ha'.get hg).1 h1).resolve_left fun q => hle ?_
      rw [Zv8]
      unfold Zn0
      show ([(s, w)].all _) = true
      rw [Zw, hg, List.all_nil, Bool.and_true]; exact q
    unfold Zd2 J4
    show Val.mk 0 (List.map _ (List.filterMap _ [(s, w)])) (List.map _ (List.filterMap _ [(s, w)])) [] = _
    have e : ([(s, w)].filterMap fun x : ByteArray × Val => if valC (Wz p x.2 ((getM a x.1).getD (botV p))) (botV p) = 0 then none else some (x.1, Wz p x.2 ((getM a x.1).getD (botV p)))) = [(s, w)] := by
     rw [List.filterMap_cons, hw, if_neg (fun q => h3 ((Yo _ _).1 q))]; rfl
    rw [e]; rfl
  · rw [irrV_6] at h
    rw [el67 (.inl rfl)] at hv ha
    have := irrs_df hj hD (fun p hp' => hp p hp' (Uh.1 hdp.2.2 p hp')) hv.1 ha.1 h
    rw [Zg6] at hle
    right
    rw [Wz, if_neg hle', if_neg (by decide), if_neg (by decide), if_pos rfl, this.resolve_left hle]
    exact hv.2
  · obtain ⟨p, q, rfl, h1⟩ := hc rfl
    have hv' := el_7.1 hv
    have ha' := el_7.1 ha
    rw [← hv'.2, ← ha'.2] at hle
    rw [← hv'.2] at h
    rw [← hv'.2, ← ha'.2]
    right
    rw [diffV_lex (by simpa using hle)]
    congr 1
    generalize Jw v = x at *
    generalize Jw a = y at *
    by_cases e : x.1 = y.1
    · rw [if_pos e]
      rw [irrV_7] at h
      rw [Xr, if_pos e] at hle
      by_cases e2 : x.2 = botV q
      · exact absurd (by rw [e2]; exact (hj q (by simp)).bot _ ha'.1.2) hle
      · rw [if_neg e2] at h
        rw [(hp q (by simp) (Uh.1 hdp.2.2 q (by simp)) x.2 y.2 hv'.1.2 ha'.1.2 h).resolve_left hle]
    · rw [if_neg e]
  · rw [irrV_9, decide_eq_true_eq] at h
    right
    rw [Wz, if_neg hle, if_neg (by decide), if_neg (by decide), if_neg (by decide), if_neg (fun h => absurd h.1 (by decide)), if_pos rfl]
    rw [isE_9] at hv
    obtain ⟨s, hs⟩ := Z4.1 h
    have : (v.entries.filter fun x => !a.entries.any fun y => undE x y) = v.entries := by
     rw [Zl2, W3, hs] at hle
     rw [hs]
     refine List.filter_eq_self.2 fun x hx => ?_
     rw [Za, ← Zh, List.any_eq_true]
     rw [Z0] at hx
     exact fun hm => hle fun y hy => by rw [Z0] at hy; rw [hy, ← hx]; exact hm
    rw [this]; exact el9.2 hv.1
theorem prime {l : Lat} (hwf : WfL l) (hd : W4 l = true) {v a b : Val} (hv : Yb l v = true) (ha : Yb l a = true) (hb : Yb l b = true) (h : irrV l v = true) (hle : leqV l v (Vk l a b) = true) : leqV l v a = true ∨ leqV l v b = true := by
 have J := hwf.jl
 have D := hwf.df
 rcases irr_df _ l (Nat.le_refl _) hwf hd v b hv hb h with h1 | h1
 · exact .inr h1
 · have := D.least hd v b a hv hb ha hle
   rw [h1] at this
   exact .inl this
end
section
mutual
def decV : Lat → Val → List Val
 | .mk k lo hi ns ps rs, v =>
   if k = 4 then v.names.map fun n => .mk 0 [n] [] [] else if k = 5 then Yk6 ps v
   else if k = 6 then (decs ps v.parts).map fun l => .mk 0 [] l [] else if k = 7 then Zl4 ps v.parts
   else if k = 9 then v.entries.map fun x => .mk 0 [] [] [x]
   else if valC v (botV (.mk k lo hi ns ps rs)) = 0 then [] else [v]
def Yk6 : List Lat → Val → List Val
 | p :: _, v => (v.names.zip v.parts).flatMap fun x => (decV p x.2).map fun d => .mk 0 [x.1] [d] []
 | [], _ => []
def decs : List Lat → List Val → List (List Val)
 | p :: ps, v :: vs => ((decV p v).map fun d => d :: ps.map botV) ++ (decs ps vs).map fun l => botV p :: l
 | [], _ => []
 | _ :: _, [] => []
def Zl4 : List Lat → List Val → List Val
 | p :: ps, v :: vs => (Zn8 (decide (valC v (botV p) = 0)) ps vs).map fun d => .mk 0 [] [v, d] []
 | [], _ => []
 | _ :: _, [] => []
def Zn8 (z : Bool) : List Lat → List Val → List Val
 | q :: _, w :: _ => if (decV q w).isEmpty && !z then [botV q] else decV q w
 | [], _ => []
 | _ :: _, [] => []
end
structure Dc (l : Lat) (v : Val) : Prop where
 mem : ∀ p ∈ decV l v, Yb l p = true ∧ irrV l p = true ∧ leqV l p v = true
 up : ∀ c, Yb l c = true → (∀ p ∈ decV l v, leqV l p c = true) → leqV l v c = true
 inc : (decV l v).Pairwise fun p q => leqV l p q = false ∧ leqV l q p = false
theorem Dc.nil {l : Lat} {v : Val} (D : Dc l v) (J : JlV l) (hv : Yb l v = true) (h : decV l v = []) : v = botV l :=
 (J.is_bot hv).1 (D.up _ J.bmem fun p hp => by rw [h] at hp; cases hp)
theorem reg_one {es : List En} (h : regB es = true) {x : En} (hx : x ∈ es) : regB [x] = true := by
 rw [Vt] at *
 refine ⟨fun e he => ?_, by simp, fun e he f hf => ?_⟩
 · rw [Z0.1 he]; exact h.1 x hx
 · rw [Z0.1 he, Z0.1 hf]; exact h.2.2 x hx x hx
theorem Yg0 {only s : List ByteArray} (h : Yi only s = true) {x : ByteArray} (hx : x ∈ s) : Yi only [x] = true := by
 rw [Xb] at *
 exact ⟨by simp, fun y hy => by rw [Z0.1 hy]; exact h.2 x hx⟩
section
variable {lo hi : Int} {ns : List ByteArray} {ps : List Lat} {rs : List Rl}
theorem dc_n {k : Int} (hk : k = 1 ∨ k = 2 ∨ k = 3) (J : JlV (.mk k lo hi ns ps rs)) {v : Val} (hv : Yb (.mk k lo hi ns ps rs) v = true) : Dc (.mk k lo hi ns ps rs) v := by
 have e : decV (.mk k lo hi ns ps rs) v = if v = botV (.mk k lo hi ns ps rs) then [] else [v] := by
  rw [decV, if_neg (by omega), if_neg (by omega), if_neg (by omega), if_neg (by omega), if_neg (by omega)]
  by_cases h : v = botV (.mk k lo hi ns ps rs)
  · rw [if_pos h, if_pos ((Yo _ _).2 h)]
  · rw [if_neg h, if_neg (fun q => h ((Yo _ _).1 q))]
 by_cases h : v = botV (.mk k lo hi ns ps rs)
 · rw [if_pos h] at e
   exact ⟨fun p hp => (by rw [e] at hp; cases hp), fun c hc _ => (by rw [h]; exact J.bot c hc), (by rw [e]; exact .nil)⟩
 · rw [if_neg h] at e
   refine ⟨fun p hp => ?_, fun c _ hq => hq v (by rw [e]; simp), (by rw [e]; simp)⟩
   rw [e, Z0] at hp
   rw [hp]
   exact ⟨hv, (by rw [irrV_n hk, decide_eq_false h]; rfl), J.refl v hv⟩
theorem dc_set {v : Val} (hv : Yb (.mk 4 lo hi ns ps rs) v = true) : Dc (.mk 4 lo hi ns ps rs) v := by
 have e : decV (.mk 4 lo hi ns ps rs) v = v.names.map fun n => .mk 0 [n] [] [] := by rw [decV, if_pos (by rfl)]
 rw [isE_4] at hv
 refine ⟨fun p hp => ?_, fun c hc hq => ?_, ?_⟩
 · rw [e] at hp
   obtain ⟨n, hn, rfl⟩ := Z1.1 hp
   refine ⟨isE_4.2 ⟨⟨rfl, rfl, rfl⟩, Yg0 hv.2 hn⟩, by rw [irrV_4]; rfl, ?_⟩
   rw [U7 (.inl rfl)]
   exact Yj.2 fun x hx => by rw [Z0.1 hx]; exact hn
 · rw [U7 (.inl rfl)]
   refine Yj.2 fun x hx => ?_
   have := hq (.mk 0 [x] [] []) (by rw [e]; exact Z1.2 ⟨x, hx, rfl⟩)
   rw [U7 (.inl rfl)] at this
   exact Yj.1 this x (Z0.2 rfl)
 · rw [e, Z6]
   have key : ∀ x y : ByteArray, x ≠ y → leqV (.mk 4 lo hi ns ps rs) (.mk 0 [x] [] []) (.mk 0 [y] [] []) = false := fun x y hxy => by
    rw [U7 (.inl rfl), ← Zh, Yj]
    exact fun h => hxy (Z0.1 (h x (Z0.2 rfl)))
   exact (Xb.1 hv.2).1.imp fun {x y} hxy => ⟨key x y fun h => by rw [h] at hxy; exact Vj _ hxy, key y x fun h => by rw [h] at hxy; exact Vj _ hxy⟩
theorem dc_reg {v : Val} (hv : Yb (.mk 9 lo hi ns ps rs) v = true) : Dc (.mk 9 lo hi ns ps rs) v := by
 have e : decV (.mk 9 lo hi ns ps rs) v = v.entries.map fun n => .mk 0 [] [] [n] := by rw [decV, if_neg (by decide), if_neg (by decide), if_neg (by decide), if_neg (by decide), if_pos (by rfl)]
 rw [isE_9] at hv
 have hr := Vt.1 hv.2
 refine ⟨fun p hp => ?_, fun c hc hq => ?_, ?_⟩
 · rw [e] at hp
   obtain ⟨n, hn, rfl⟩ := Z1.1 hp
   refine ⟨isE_9.2 ⟨⟨rfl, rfl, rfl⟩, reg_one hv.2 hn⟩, by rw [irrV_9]; rfl, ?_⟩
   rw [Zl2]
   exact W3.2 fun x hx => ⟨x, by rw [Z0.1 hx]; exact hn, Uz.2 (.inl rfl)⟩
 · rw [Zl2]
   refine W3.2 fun x hx => ?_
   have := hq (.mk 0 [] [] [x]) (by rw [e]; exact Z1.2 ⟨x, hx, rfl⟩)
   rw [Zl2] at this
   exact W3.1 this x (Z0.2 rfl)
 · rw [e, Z6]
   have key : ∀ x ∈ v.entries, ∀ y ∈ v.entries, x ≠ y → leqV (.mk 9 lo hi ns ps rs) (.mk 0 [] [] [x]) (.mk 0 [] [] [y]) = false := fun x hx y hy hxy => by
    rw [Zl2, ← Zh, W3]
    intro h
    obtain ⟨q, hq, h1⟩ := h x (Z0.2 rfl)
    rw [Z0.1 hq, Uz, hr.2.2 x hx y hy] at h1
    exact hxy (h1.resolve_right (by decide))
   exact hr.2.1.imp_of_mem fun {x y} hx hy hxy => ⟨key x hx y hy fun h => by rw [h] at hxy; exact Za6 _ hxy, key y hy x hx fun h => by rw [h] at hxy; exact Za6 _ hxy⟩
theorem Zt4 {p : Lat} {s : ByteArray} {d b : Val} : leqV (.mk 5 lo hi ns [p] rs) (.mk 0 [s] [d] []) b = match getM b s with
 | some w => leqV p d w
 | none => false := by
 rw [Zv8]
 unfold Zn0
 show ([(s, d)].all _) = _
 rw [Zw, List.all_nil, Bool.and_true]
 rfl
theorem Zy4 (s t : ByteArray) (d : Val) : getM (.mk 0 [s] [d] []) t = if s = t then some d else none := by
 show getL [s] [d] t = _
 rw [getL, getL]
theorem dc_map {p : Lat} (hp : WfL p) (H : ∀ v, Yb p v = true → Dc p v) {v : Val} (hv : Yb (.mk 5 lo hi ns [p] rs) v = true) : Dc (.mk 5 lo hi ns [p] rs) v := by
 have J := hp.jl
 have e : decV (.mk 5 lo hi ns [p] rs) v = (v.names.zip v.parts).flatMap fun x => (decV p x.2).map fun d => .mk 0 [x.1] [d] [] := by rw [decV, if_neg (by decide), if_pos (by rfl), Yk6]
 have hv' := V5.1 hv
 have hz : ∀ x ∈ v.names.zip v.parts, x.1 ∈ v.names ∧ Yb p x.2 = true ∧ x.2 ≠ botV p ∧ getM v x.1 = some x.2 := fun x hx => by
  have h1 := List.of_mem_zip (show (x.1, x.2) ∈ _ from hx)
  have h2 := hv'.2.2.2 _ h1.2
  exact ⟨h1.1, h2.1, h2.2, Jd hv'.sorted hx⟩
 refine ⟨fun q hq => ?_, fun c hc hq => ?_, ?_⟩
 · rw [e] at hq
   obtain ⟨x, hx, hq⟩ := List.mem_flatMap.1 hq
   obtain ⟨d, hd, rfl⟩ := Z1.1 hq
   obtain ⟨x1, x2, x3, x4⟩ := hz x hx
   obtain ⟨d1, d2, d3⟩ := (H _ x2).mem d hd
   refine ⟨V5.2 ⟨⟨rfl, rfl⟩, rfl, Yg0 hv'.2.2.1 x1, fun w hw => ?_⟩, ?_, ?_⟩
   · rw [Z0.1 hw]; exact ⟨d1, Yd3 hp d1 d2⟩
   · rw [irrV_5]
     show (decide ([x.1].length = 1) && Yj7 [p] [d]) = true
     rw [Yj7]; exact d2
   · rw [Zt4, x4]; exact d3
 · rw [Zv8, Xl hv'.sorted]
   intro s w hw
   have hx := hz _ (Zq7 hw)
   have hmem : ∀ d ∈ decV p w, ∃ u, getM c s = some u ∧ leqV p d u = true := fun d hd => by
    have := hq (.mk 0 [s] [d] []) (by rw [e]; exact List.mem_flatMap.2 ⟨(s, w), Zq7 hw, Z1.2 ⟨d, hd, rfl⟩⟩)
    rw [Zt4] at this
    revert this
    cases getM c s with
    | none => intro h; cases h
    | some u => exact fun h => ⟨u, rfl, h⟩
   have hne : decV p w ≠ [] := fun h => hx.2.2.1 ((H w hx.2.1).nil J hx.2.1 h)
   obtain ⟨d, hd⟩ := Y0 _ hne
   obtain ⟨u, hu, _⟩ := hmem d hd
   refine ⟨u, hu, (H w hx.2.1).up u ((V5.1 hc).get hu).1 fun d hd => ?_⟩
   obtain ⟨u', hu', h⟩ := hmem d hd
   rw [hu] at hu'
   rw [Option.some.inj hu']; exact h
 · rw [e, List.pairwise_flatMap]
   refine ⟨fun x hx => ?_, ?_⟩
   · rw [Z6]
     refine (H _ (hz x hx).2.1).inc.imp fun {a b} h => ?_
     rw [Zt4, Zt4, Zy4, Zy4, if_pos rfl, if_pos rfl]
     exact h
   · have hs : (v.names.zip v.parts).Pairwise fun x y => ltS x.1 y.1 := by
      have := hv'.sorted
      rw [← (Zx2 hv'.2.1).1, Z6] at this
      exact this
     refine hs.imp fun {x y} hxy a ha b hb => ?_
     obtain ⟨d, _, rfl⟩ := Z1.1 ha
     obtain ⟨d', _, rfl⟩ := Z1.1 hb
     rw [Zt4, Zt4, Zy4, Zy4, if_neg (fun h => by rw [h] at hxy; exact Vj _ hxy), if_neg (fun h => by rw [h] at hxy; exact Vj _ hxy)]
     exact ⟨rfl, rfl⟩
theorem dc_parts : ∀ {ps : List Lat} {vs : List Val}, (∀ p ∈ ps, WfL p) → (∀ p ∈ ps, ∀ v, Yb p v = true → Dc p v) → PsE ps vs →
  (∀ x ∈ decs ps vs, PsE ps x ∧ irrs ps x = true ∧ leqs ps x vs = true) ∧ (∀ c, PsE ps c → (∀ x ∈ decs ps vs, leqs ps x c = true) → leqs ps vs c = true) ∧ (decs ps vs).Pairwise fun x y => leqs ps x y = false ∧ leqs ps y x = false
 | [], vs, _, _, _ => by
  rw [decs]
  exact ⟨fun x hx => (by cases hx), fun c _ _ => (by rw [leqs]), .nil⟩
 | p :: ps, vs, HW, H, hv => by
  obtain ⟨v, t, rfl, h1, h2⟩ := Yk.1 hv
  have W := HW p (by simp)
  have J := W.jl
  have HJ : ∀ q ∈ ps, JlV q := fun q hq => (HW q (by simp [hq])).jl
  have K := Zy3 ps HJ
  have D := H p (by simp) v h1
  obtain ⟨i1, i2, i3⟩ := dc_parts (fun q hq => HW q (by simp [hq])) (fun q hq => H q (by simp [hq])) h2
  have hb : botsB ps (ps.map botV) = true := (Yf6 (by simp)).2 rfl
  rw [decs]
  refine ⟨fun x hx => ?_, fun c hc hq => ?_, ?_⟩
  · rcases Zy.1 hx with hx | hx
    · obtain ⟨d, hd, rfl⟩ := Z1.1 hx
      obtain ⟨d1, d2, d3⟩ := D.mem d hd
      refine ⟨Yk.2 ⟨_, _, rfl, d1, K.bmem⟩, ?_, ?_⟩
      · rw [irrs, if_neg (fun q => Yd3 W d1 d2 ((Yo _ _).1 q)), d2, hb]; rfl
      · rw [leqs, d3, K.bot _ h2]; rfl
    · obtain ⟨y, hy, rfl⟩ := Z1.1 hx
      obtain ⟨y1, y2, y3⟩ := i1 y hy
      refine ⟨Yk.2 ⟨_, _, rfl, J.bmem, y1⟩, ?_, ?_⟩
      · rw [irrs, if_pos ((Yo _ _).2 rfl)]; exact y2
      · rw [leqs, J.bot _ h1, y3]; rfl
  · obtain ⟨c0, c1, rfl, k1, k2⟩ := Yk.1 hc
    rw [leqs, Z5]
    refine ⟨D.up c0 k1 fun d hd => ?_, i2 c1 k2 fun y hy => ?_⟩
    · have := hq (d :: ps.map botV) (Zy.2 (.inl (Z1.2 ⟨d, hd, rfl⟩)))
      rw [leqs, Z5] at this; exact this.1
    · have := hq (botV p :: y) (Zy.2 (.inr (Z1.2 ⟨y, hy, rfl⟩)))
      rw [leqs, Z5] at this; exact this.2
  · rw [Zo]
    refine ⟨?_, ?_, fun a ha b hb => ?_⟩
    · rw [Z6]
      refine D.inc.imp fun {a b} h => ?_
      rw [leqs, leqs, h.1, h.2]; exact ⟨rfl, rfl⟩
    · rw [Z6]
      refine i3.imp fun {a b} h => ?_
      rw [leqs, leqs, h.1, h.2, Bool.and_false]; exact ⟨rfl, rfl⟩
    · obtain ⟨d, hd, rfl⟩ := Z1.1 ha
      obtain ⟨y, hy, rfl⟩ := Z1.1 hb
      obtain ⟨d1, d2, d3⟩ := D.mem d hd
      obtain ⟨y1, y2, y3⟩ := i1 y hy
      rw [leqs, leqs]
      constructor
      · rw [Bool.and_eq_false_iff]; left
        rw [← Zh, J.is_bot d1]; exact Yd3 W d1 d2
      · rw [Bool.and_eq_false_iff]; right
        rw [← Zh, K.is_bot y1]; exact Yp6 y2
theorem dc_prod (HW : ∀ p ∈ ps, WfL p) (H : ∀ p ∈ ps, ∀ v, Yb p v = true → Dc p v) {v : Val} (hv : Yb (.mk 6 lo hi ns ps rs) v = true) : Dc (.mk 6 lo hi ns ps rs) v := by
 have e : decV (.mk 6 lo hi ns ps rs) v = (decs ps v.parts).map fun l => .mk 0 [] l [] := by rw [decV, if_neg (by decide), if_neg (by decide), if_pos (by rfl)]
 rw [el67 (.inl rfl)] at hv
 obtain ⟨i1, i2, i3⟩ := dc_parts HW H hv.1
 refine ⟨fun q hq => ?_, fun c hc hq => ?_, ?_⟩
 · rw [e] at hq
   obtain ⟨x, hx, rfl⟩ := Z1.1 hq
   obtain ⟨x1, x2, x3⟩ := i1 x hx
   exact ⟨(el67 (.inl rfl)).2 ⟨x1, rfl⟩, by rw [irrV_6]; exact x2, by rw [Zg6]; exact x3⟩
 · rw [el67 (.inl rfl)] at hc
   rw [Zg6]
   refine i2 _ hc.1 fun x hx => ?_
   have := hq (.mk 0 [] x []) (by rw [e]; exact Z1.2 ⟨x, hx, rfl⟩)
   rw [Zg6] at this; exact this
 · rw [e, Z6]
   refine i3.imp fun {a b} h => ?_
   rw [Zg6, Zg6]; exact h
theorem dc_lex {p q : Lat} (hp : WfL p) (hq : WfL q) (H : ∀ v, Yb q v = true → Dc q v) {v : Val} (hv : Yb (.mk 7 lo hi ns [p, q] rs) v = true) : Dc (.mk 7 lo hi ns [p, q] rs) v := by
 have J := hp.jl
 have J' := hq.jl
 obtain ⟨⟨h1, h2⟩, h3⟩ := el_7.1 hv
 generalize Jw v = x at *
 subst h3
 have e : decV (.mk 7 lo hi ns [p, q] rs) (ofP x) = (if decV q x.2 = [] ∧ x.1 ≠ botV p then [botV q] else decV q x.2).map fun d => ofP (x.1, d) := by
  rw [decV, if_neg (by decide), if_neg (by decide), if_neg (by decide), if_pos (by rfl)]
  show Zl4 [p, q] [x.1, x.2] = _
  rw [Zl4, Zn8]
  have e1 : (((decV q x.2).isEmpty && !decide (valC x.1 (botV p) = 0)) = true) ↔ decV q x.2 = [] ∧ x.1 ≠ botV p := by
   rw [Z5, List.isEmpty_iff, Za, decide_eq_false_iff_not, Yo]
  by_cases h : decV q x.2 = [] ∧ x.1 ≠ botV p
  · rw [if_pos h, if_pos (e1.2 h)]; rfl
  · rw [if_neg h, if_neg (fun h' => h (e1.1 h'))]; rfl
 have D := H x.2 h2
 by_cases h : decV q x.2 = [] ∧ x.1 ≠ botV p
 · rw [if_pos h] at e
   have hx2 : x.2 = botV q := D.nil J' h2 h.1
   have e' : decV (.mk 7 lo hi ns [p, q] rs) (ofP x) = [ofP x] := by rw [e, ← hx2]; rfl
   have JL : JlV (.mk 7 lo hi ns [p, q] rs) → Dc (.mk 7 lo hi ns [p, q] rs) (ofP x) := fun JL => by
    refine ⟨fun y hy => ?_, fun c _ hq => hq _ (by rw [e']; simp), (by rw [e']; simp)⟩
    rw [e', Z0] at hy
    rw [hy]
    refine ⟨hv, ?_, JL.refl _ hv⟩
    rw [irrV_7, if_pos hx2, decide_eq_false h.2]; rfl
   refine ⟨fun y hy => ?_, fun c _ hq => hq _ (by rw [e']; simp), (by rw [e']; simp)⟩
   rw [e', Z0] at hy
   rw [hy]
   refine ⟨hv, ?_, ?_⟩
   · rw [irrV_7, if_pos hx2, decide_eq_false h.2]; rfl
   · rw [Xr, if_pos rfl]; exact J'.refl _ h2
 · rw [if_neg h] at e
   refine ⟨fun y hy => ?_, fun c hc hy => ?_, ?_⟩
   · rw [e] at hy
     obtain ⟨d, hd, rfl⟩ := Z1.1 hy
     obtain ⟨d1, d2, d3⟩ := D.mem d hd
     refine ⟨el_7.2 ⟨⟨h1, d1⟩, rfl⟩, ?_, ?_⟩
     · rw [irrV_7, if_neg (Yd3 hq d1 d2)]; exact d2
     · rw [Xr, if_pos rfl]; exact d3
   · obtain ⟨⟨c1, c2⟩, c3⟩ := el_7.1 hc
     generalize Jw c = z at *
     subst c3
     have hy' : ∀ d ∈ decV q x.2, leqV (.mk 7 lo hi ns [p, q] rs) (ofP (x.1, d)) (ofP z) = true := fun d hd => hy _ (by rw [e]; exact Z1.2 ⟨d, hd, rfl⟩)
     rw [Xr]
     by_cases hz : x.1 = z.1
     · rw [if_pos hz]
       refine D.up _ c2 fun d hd => ?_
       have := hy' d hd
       rw [Xr, if_pos (show (x.1, d).1 = z.1 from hz)] at this; exact this
     · rw [if_neg hz]
       by_cases hn : decV q x.2 = []
       · have hb : x.1 = botV p := Classical.byContradiction fun hb => h ⟨hn, hb⟩
         rw [hb]; exact J.bot _ c1
       · obtain ⟨d, hd⟩ := Y0 _ hn
         have := hy' d hd
         rw [Xr, if_neg (show ¬ (x.1, d).1 = z.1 from hz)] at this; exact this
   · rw [e, Z6]
     refine D.inc.imp fun {a b} h => ?_
     rw [Xr, Xr, if_pos rfl, if_pos rfl]; exact h
end
theorem dcV (f : Nat) : ∀ l : Lat, SizeOf.sizeOf l ≤ f → WfL l → W4 l = true → ∀ v, Yb l v = true → Dc l v := by
 induction f with
 | zero => intro l hn; cases l; simp at hn
 | succ f ih =>
  intro l hn hwf hd v hv
  have hk := hwf.kinds
  have hJ := hwf.jl
  have hdp := Zi2 hd
  have hp : ∀ p ∈ l.parts, ∀ v, Yb p v = true → Dc p v := fun p hp => ih p (by have := Yz hp; omega) (hwf.part hp) (Uh.1 hdp.2.2 p hp)
  have hw : ∀ p ∈ l.parts, WfL p := fun p hp => hwf.part hp
  have hc := hwf.chain
  obtain ⟨k, lo, hi, ns, ps, rs⟩ := l
  simp only [Lat.kind, Lat.lo, Lat.hi, Lat.names, Lat.parts, Lat.rules] at hk hp hw hc hdp
  have hkk : (k = 1 ∨ k = 2 ∨ k = 3) ∨ k = 4 ∨ k = 5 ∨ k = 6 ∨ k = 7 ∨ k = 9 := by omega
  rcases hkk with h | rfl | rfl | rfl | rfl | rfl
  · exact dc_n h hJ hv
  · exact dc_set hv
  · obtain ⟨p, rfl⟩ := Z4.1 (hk.2.1 rfl)
    exact dc_map (hw p (by simp)) (hp p (by simp)) hv
  · exact dc_prod hw hp hv
  · obtain ⟨p, q, rfl, _⟩ := hc rfl
    exact dc_lex (hw p (by simp)) (hw q (by simp)) (hp q (by simp)) hv
  · exact dc_reg hv
theorem WfL.dc {l : Lat} (h : WfL l) (hd : W4 l = true) {v : Val} (hv : Yb l v = true) : Dc l v := dcV _ l (Nat.le_refl _) h hd v hv
/-! Irredundant lists. -/
def joinL (l : Lat) (L : List Val) : Val := L.foldl (Vk l) (botV l)
def irdB (l : Lat) (L : List Val) : Bool := (List.range L.length).all fun i => !leqV l (L.getD i Uy) (joinL l (L.take i ++ L.drop (i + 1)))
section
variable {l : Lat} (hwf : WfL l) (hd : W4 l = true)
include hwf
include hd
end
/-! How many pieces there are. -/
mutual
theorem Ua : ∀ (l : Lat) (v : Val), (decV l v).length ≤ W6 v
 | .mk k lo hi ns ps rs, .mk n nm pt es => by
  rw [decV, W6]
  have hp : (Yk6 ps (.mk n nm pt es)).length ≤ Ys pt := by
   match ps with
   | [] => rw [Yk6]; exact Z8 _
   | p :: t =>
    rw [Yk6]
    show ((nm.zip pt).flatMap _).length ≤ _
    exact dec_lens p nm pt
  have hs : (decs ps pt).length ≤ Ys pt := decs_len ps pt
  have hl : (Zl4 ps pt).length ≤ 1 + Ys pt := decLex_len ps pt
  split
  · simp [Val.names]; omega
  split
  · omega
  split
  · rw [Z3]; show (decs ps pt).length ≤ _; omega
  split
  · show (Zl4 ps pt).length ≤ _; omega
  split
  · simp [Val.entries]; omega
  split
  · simp
  · simp; omega
theorem dec_lens : ∀ (p : Lat) (nm : List ByteArray) (pt : List Val), ((nm.zip pt).flatMap fun x => (decV p x.2).map fun d => Val.mk 0 [x.1] [d] []).length ≤ Ys pt
 | _, [], pt => by simp
 | _, _ :: _, [] => by simp
 | p, n :: nm, v :: pt => by
  have h1 := Ua p v
  have h2 := dec_lens p nm pt
  rw [List.zip_cons_cons, List.flatMap_cons, Zi, Z3, Ys]
  show (decV p v).length + _ ≤ _
  omega
theorem decs_len : ∀ (ps : List Lat) (pt : List Val), (decs ps pt).length ≤ Ys pt
 | [], _ => by rw [decs]; exact Z8 _
 | _ :: _, [] => by rw [decs]; exact Z8 _
 | p :: ps, v :: vs => by
  have h1 := Ua p v
  have h2 := decs_len ps vs
  rw [decs, Zi, Z3, Z3, Ys]
  omega
theorem decLex_len : ∀ (ps : List Lat) (pt : List Val), (Zl4 ps pt).length ≤ 1 + Ys pt
 | [], _ => by rw [Zl4]; exact Z8 _
 | _ :: _, [] => by rw [Zl4]; exact Z8 _
 | p :: ps, v :: vs => by
  rw [Zl4, Z3, Ys]
  have := decLex2_len (decide (valC v (botV p) = 0)) ps vs
  omega
theorem decLex2_len : ∀ (z : Bool) (ps : List Lat) (pt : List Val), (Zn8 z ps pt).length ≤ 1 + Ys pt
 | _, [], _ => by rw [Zn8]; exact Z8 _
 | _, _ :: _, [] => by rw [Zn8]; exact Z8 _
 | z, p :: ps, v :: vs => by
  have h1 := Ua p v
  rw [Zn8, Ys]
  split
  · simp
  · omega
end
end
section
def ov : Int := 1000000000000001
end
section
def meetMapF (bot : Val) (mt : Val → Val → Val) (a b : Val) : Val :=
 .mk 0 (((a.names.zip a.parts).filterMap fun x => ((getM b x.1).bind fun w => if valC (mt x.2 w) bot = 0 then none else some (mt x.2 w)).map fun d => (x.1, d)).map Prod.fst)
  (((a.names.zip a.parts).filterMap fun x => ((getM b x.1).bind fun w => if valC (mt x.2 w) bot = 0 then none else some (mt x.2 w)).map fun d => (x.1, d)).map Prod.snd) []
mutual
def meetV : Lat → Val → Val → Val
 | .mk k lo hi ns ps rs, a, b =>
   if k = 4 ∨ k = 10 then .mk 0 (interS a.names b.names) [] []
   else if k = 5 then meetMap ps a b else if k = 6 then .mk 0 [] (meets ps a.parts b.parts) []
   else if k = 7 ∧ Zw2 a.parts b.parts = true then .mk 0 [] (meetLex ps a.parts b.parts) []
   else if leqV (.mk k lo hi ns ps rs) a b then a else if leqV (.mk k lo hi ns ps rs) b a then b else Uy
def meetMap : List Lat → Val → Val → Val
 | [], a, _ => a
 | p :: _, a, b => meetMapF (botV p) (fun v w => meetV p v w) a b
def meets : List Lat → List Val → List Val → List Val
 | p :: ps, a :: s, b :: t => meetV p a b :: meets ps s t
 | [], _, _ => []
 | _ :: _, [], _ => []
 | _ :: _, _ :: _, [] => []
def meetLex : List Lat → List Val → List Val → List Val
 | _ :: ps, a :: s, _ :: t => a :: meetLex2 ps s t
 | [], _, _ => []
 | _ :: _, [], _ => []
 | _ :: _, _ :: _, [] => []
def meetLex2 : List Lat → List Val → List Val → List Val
 | p :: _, a :: _, b :: _ => [meetV p a b]
 | [], _, _ => []
 | _ :: _, [], _ => []
 | _ :: _, _ :: _, [] => []
end
structure Rk {α : Type} (E : α → Prop) (le : α → α → Bool) (jn mt : α → α → α) (bot : α) (rk : α → Int) : Prop where
 bot0 : rk bot = 0
 mem : ∀ a b, E a → E b → E (mt a b)
 mono : ∀ a b, E a → E b → le a b = true → rk a ≤ rk b
 strict : ∀ a b, E a → E b → le a b = true → rk a = rk b → a = b
 val : ∀ a b, E a → E b → rk (jn a b) + rk (mt a b) = rk a + rk b
def RkV (l : Lat) : Prop := Rk (fun v => Yb l v = true) (leqV l) (Vk l) (meetV l) (botV l) (rkI l)
section
variable {k lo hi : Int} {ns : List ByteArray} {ps : List Lat} {rs : List Rl}
end
end
section
section
variable {α : Type} {E : α → Prop} {le : α → α → Bool} {jn : α → α → α} {bot : α} {q : Prop} {df : α → α → α}
end
section
variable {l : Lat} (hwf : WfL l) {a b c : Val} (ha : Yb l a = true) (hb : Yb l b = true) (hc : Yb l c = true)
include hwf ha hb
include hc
end
end
section
def atV (p : Lat) (v : Val) (s : ByteArray) : Val := (getM v s).getD (botV p)
section
variable {k lo hi : Int} {ns : List ByteArray} {ps : List Lat} {rs : List Rl} {p : Lat} {a b : Val}
end
/-! Decompositions in the order of values. -/
def insV (c : Val) : List Val → List Val
 | [] => [c]
 | y :: t => if 0 < valC c y then y :: insV c t else c :: y :: t
def srtV (L : List Val) : List Val := L.foldr insV []
theorem Zg8 (c : Val) : ∀ L : List Val, (insV c L).Perm (c :: L)
 | [] => .refl _
 | y :: t => by
  rw [insV]
  split
  · exact ((Zg8 c t).cons y).trans (.swap c y t)
  · exact .refl _
theorem U1 : ∀ L : List Val, (srtV L).Perm L
 | [] => .refl _
 | x :: t => (Zg8 x (srtV t)).trans ((U1 t).cons x)
def leC (x y : Val) : Prop := ¬ valC y x < 0
theorem leC_trans {x y z : Val} (h : leC x y) (k : leC y z) : leC x z := by
 unfold leC at *
 have h1 := Zx3 x y z
 unfold Tri at h1
 rw [Vq x y] at h
 rw [Vq y z] at k
 rw [Vq x z]
 omega
theorem Zc8 (c : Val) : ∀ L : List Val, L.Pairwise leC → (insV c L).Pairwise leC
 | [], _ => by simp [insV]
 | y :: t, h => by
  obtain ⟨h1, h2⟩ := Zc.1 h
  rw [insV]
  split
  · rename_i hlt
    refine Zc.2 ⟨fun d hd => ?_, Zc8 c t h2⟩
    rcases Zx.1 ((Zg8 c t).mem_iff.1 hd) with rfl | hd
    · unfold leC; omega
    · exact h1 d hd
  · rename_i hle
    have hcy : leC c y := by unfold leC; rw [Vq c y]; omega
    refine Zc.2 ⟨fun d hd => ?_, h⟩
    rcases Zx.1 hd with rfl | hd
    · exact hcy
    · exact leC_trans hcy (h1 d hd)
theorem Zb6 : ∀ L : List Val, (srtV L).Pairwise leC
 | [] => .nil
 | x :: t => Zc8 x _ (Zb6 t)
theorem Zs3 : ∀ {L M : List Val}, L.Perm M → L.Pairwise leC → M.Pairwise leC → L = M
 | [], M, h, _, _ => by rw [h.nil_eq]
 | x :: s, [], h, _, _ => by have := h.length_eq; simp at this
 | x :: s, y :: t, h, h1, h2 => by
  obtain ⟨a1, a2⟩ := Zc.1 h1
  obtain ⟨b1, b2⟩ := Zc.1 h2
  have e : x = y := by
   rcases Zx.1 (h.mem_iff.1 (by simp : x ∈ x :: s)) with e | hx
   · exact e
   rcases Zx.1 (h.mem_iff.2 (by simp : y ∈ y :: t)) with e | hy
   · exact e.symm
   have q1 := a1 y hy
   have q2 := b1 x hx
   unfold leC at q1 q2
   rw [Vq x y] at q1
   exact (Yo x y).1 (by omega)
  subst e
  rw [Zs3 (List.Perm.cons_inv h) a2 b2]
theorem srt_is {L M : List Val} (h : M.Perm L) (hs : M.Pairwise leC) : M = srtV L := Zs3 (h.trans (U1 L).symm) hs (Zb6 L)
theorem srt_snoc (L : List Val) (x : Val) : srtV (L ++ [x]) = insV x (srtV L) :=
 (srt_is (((Zg8 x (srtV L)).trans ((U1 L).cons x)).trans (List.perm_append_singleton x L).symm) (Zc8 x _ (Zb6 L))).symm
theorem insV_at {A B : List Val} {x : Val} (h : (A ++ B).Pairwise leC) (h1 : ∀ y ∈ B, valC y x > 0) (h2 : ∀ y, A.getLast? = some y → ¬ valC y x > 0) : insV x (A ++ B) = A ++ x :: B := by
 refine Zs3 ((Zg8 x (A ++ B)).trans (List.perm_middle.symm)) (Zc8 x _ h) ?_
 obtain ⟨ha, hb, hab⟩ := Zo.1 h
 refine Zo.2 ⟨ha, Zc.2 ⟨fun y hy => by have := h1 y hy; unfold leC; omega, hb⟩, fun y hy z hz => ?_⟩
 have hyx : leC y x := by
  rcases List.eq_nil_or_concat A with rfl | ⟨t, w, hw⟩
  · cases hy
  · rw [List.concat_eq_append] at hw; subst hw
    have h3 := h2 w (by simp)
    have hwx : leC w x := by unfold leC; rw [Vq w x]; omega
    rcases Zy.1 hy with hy | hy
    · exact leC_trans ((Zo.1 ha).2.2 y hy w (by simp)) hwx
    · simp at hy; rw [hy]; exact hwx
 rcases Zx.1 hz with rfl | hz
 · exact hyx
 · exact hab y hy z hz
def errF (l : Lat) (L : List Val) : Int := if chkE l ≠ 0 then 1 else if L.all (Yb l) then 0 else 4
theorem errF_ok {l : Lat} {L : List Val} : errF l L = 0 ↔ chkE l = 0 ∧ ∀ v ∈ L, Yb l v = true := by
 unfold errF
 by_cases h : chkE l = 0
 · rw [if_neg (fun q => q h)]
   cases ha : L.all (Yb l)
   · rw [if_neg (by decide)]
     constructor
     · intro q; exact absurd q (by decide)
     · intro q; rw [Y1.2 q.2] at ha; cases ha
   · rw [if_pos rfl]; exact ⟨fun _ => ⟨h, Y1.1 ha⟩, fun _ => rfl⟩
 · rw [if_pos h]
   exact ⟨fun q => absurd q (by decide), fun q => absurd q.1 h⟩
end
section
attribute [local irreducible] on aOp
attribute [local go_sem] decide_true decide_false Zk Zd
attribute [local simp] byD_len
theorem Does.borrow2 {P : Program} {G : Nat → D} {h : List Ob} (hG : ∀ g, low 0 (G g)) {f : FuncId} {y : D} {i E k n : Nat} {rows : List (List D)} {x : Value} (hi : h[i]? = some (.buf E k rows)) (hn : rows.length = n) (la : low 0 y) (lr : low 0 (.sl k rows)) (q : Does P G f [] [y, .sl k rows] (fun h' r => h' = [] ∧ r = .v x)) : Does P G f h [y, .buf i n] (fun h' r => h' = h ∧ r = .v x) := fun w hd p vs ok ha => by
 rw [rdL] at ha
 obtain ⟨u, t, rfl, hy, ha⟩ := ha
 rw [rdL] at ha
 obtain ⟨u2, t2, rfl, hu, ht⟩ := ha
 obtain ⟨p', o', ev, cv⟩ := ok.give (fun j => j == i)
 have hr := cv _ _ hu
 have e : cvD (fun j => j == i) h (.buf i n) = .sl k rows := by simp [cvD, cv1, hi, hn]
 rw [e] at hr
 have hy2 := ev.rdL ok (show rdL hd h (only p w) [y] [u] by rw [rdL]; exact ⟨u, [], rfl, hy, by rw [rdL]⟩)
 have ht2 := ev.rdL ok ht
 have o2 := o'.take (m := 0) (fun x hx => by simp at hx) hG
 have r1 := Zf0 (m := 0) o'.len _ _ lr hr
 have r2 := V8 (m := 0) o'.len _ _ (show lowL 0 ([] : List D) by rw [lowL]; trivial) ht2
 have r3 := V8 (m := 0) o'.len _ _ (show lowL 0 [y] by rw [lowL, lowL]; exact ⟨la, trivial⟩) hy2
 simp only [List.take_zero] at o2 r1 r2 r3
 rw [rdL] at r3
 obtain ⟨_, _, e3, r3, _⟩ := r3
 cases e3
 refine (q w [] p' (u :: u2 :: t2) o2 (by rw [rdL]; exact ⟨u, _, rfl, r3, by rw [rdL]; exact ⟨u2, t2, rfl, r1, r2⟩⟩)).mono ?_
 rintro e w' ⟨v, hd', h', r, p2, rfl, ⟨rfl, rfl⟩, ok2, hr2, ev2⟩
 rw [rd] at hr2; subst hr2
 obtain ⟨o3, ev3⟩ := ok.kept ev2.os ev2.tape ev2.output ev2.size fun b hb => ev2.keep b hb fun ⟨j, ob, u, q, _⟩ => by simp at q
 exact ⟨_, hd, h, .v _, p, rfl, ⟨rfl, rfl⟩, o3, by rw [rd], ev3⟩
def Ze8 (v : Val) (m : Int) : Int := if (W6 v : Int) ≤ m then m - W6 v else -1
theorem V1 (v : Val) : W6 v = 1 + v.names.length + v.entries.length + Ys v.parts + (v.entries.map fun e => e.clock.length).sum := by
 cases v; rw [W6]; rfl
theorem U6 (l : List Val) : low 0 (.sl 4 (l.map vaX)) := by
 rw [low, Zp9]
 intro row hr
 obtain ⟨x, _, rfl⟩ := Z1.1 hr
 exact Yd 0 x
variable (G : Nat → D) (hG : ∀ g, low 0 (G g))
include hG
attribute [local go_sem] Zz Zp Zq Zr Zf Y2 List.getElem?_cons_succ List.getElem?_cons_zero Zi Y3 Z3 Ys6 Ys7 List.set_cons_succ List.set_cons_zero Zl Zm Z9 Zb Zn
attribute [local go_sem ↓] reduceIte
theorem rValid_d (l : Lat) (hsm : Sm l) (v : Val) (hv : VSm v) (h : List Ob) : Does Z7 G 39 h [.agg (latX l), .agg (vaX v)] (fun h' r => h' = h ∧ r = .v (.bool (Zz5 l v))) := by
 refine Y9 G hG (by simp only [lowL, low]; exact ⟨Yy _ l, Yd _ v, trivial⟩) (by rw [low]; trivial) ?_ h
 clear h
 have hck := Yo1 G hG l hsm
 simp only [Y4 l] at hck
 unfold Zz5
 refine Y6 Tryz.func39 rfl (Z2 rfl) hG fun hl0 _ => ?_
 simp only [Tryz.ntmps39]
 by_cases hc : chkE l = 0
 rotate_left
 · rw [decide_eq_false hc, Bool.false_and]
   have F : _ ∧ _ ∧ _ := ⟨Y4 l, Y5 v, hc⟩
   repeat' first
    | (with_reducible refine Ya ?_; first | refine Yv ?_ | refine Ye ?_ | refine Xx ?_)
    | (with_reducible refine Wx ?_; refine Yw ?_)
    | refine g0 ?_
    | (with_reducible refine Y7 ?_; refine gc rfl rfl rfl ent_38 (hck _) ?_)
   exact ⟨.inr rfl, endD (r := .v _) hl0 rfl (by simp) (by simp) rfl (by rw [low]; trivial) ⟨rfl, rfl⟩⟩
 rw [hc] at hck
 have hel := relement_d G hG _ l v (Nat.le_refl _) (Wt hc) hsm hv
 simp only [Y4 l, Y5 v] at hel
 rw [decide_eq_true hc, Zv]
 generalize Yb l v = bb at *
 have F : _ ∧ _ := ⟨Y4 l, Y5 v⟩
 repeat' first
  | (with_reducible refine Ya ?_; first | refine Yv ?_ | refine Ye ?_ | refine Xx ?_)
  | (with_reducible refine Wx ?_; refine Yw ?_)
  | refine g0 ?_
  | (with_reducible refine Y7 ?_; first | refine gc rfl rfl rfl ent_38 (hck _) ?_ | refine gc rfl rfl rfl Yk1 (hel _) ?_)
 exact ⟨.inr rfl, endD (r := .v _) hl0 rfl (by simp) (by simp) rfl (by rw [low]; trivial) ⟨rfl, rfl⟩⟩
theorem icheck_d (l : Lat) (hsm : Sm l) (L : List Val) (hL : ∀ v ∈ L, VSm v) (hl : L.length ≤ 1000000) (h : List Ob) : Does Z7 G 40 h [.agg (latX l), .sl 4 (L.map vaX)] (fun h' r => h' = h ∧ r = .v (.int .i64 (errF l L))) := by
 refine Y9 G hG (by simp only [lowL]; exact ⟨by rw [low]; exact Yy _ l, U6 L, trivial⟩) (by rw [low]; trivial) ?_ h
 clear h
 have hck := Zi4 G hG l hsm
 simp only [Y4 l] at hck
 unfold errF
 refine Y6 Tryz.func40 rfl (Z2 rfl) hG fun hl0 _ => ?_
 simp only [Tryz.ntmps40]
 by_cases hc : chkE l = 0
 rotate_left
 · rw [if_pos hc]
   have F : _ ∧ _ := ⟨Y4 l, hc⟩
   repeat' first
    | (with_reducible refine Ya ?_; first | refine Yv ?_ | refine Ye ?_ | refine Wp rfl ?_ | refine Xx ?_)
    | (with_reducible refine Wx ?_; first | refine Yw ?_ | refine Vn ?_)
    | refine g0 ?_
    | (with_reducible refine Y7 ?_; refine gc rfl rfl rfl Jt (hck _) ?_)
   all_goals first | (exfalso; omega) | exact ⟨.inr rfl, endD (r := .v (.int .i64 1)) hl0 rfl (by simp) (by simp) rfl (by rw [low]; trivial) ⟨rfl, rfl⟩⟩
 rw [if_neg (fun q => q hc)]
 rw [hc] at hck
 have hva : ∀ v, VSm v → ∀ h, Does Z7 G 80 h [.agg (latX l), .agg (vaX v)] (fun h' r => h' = h ∧ r = .v (.bool (Yb l v))) := fun v hv h => by
  have := valid_v G hG l hsm v hv h
  unfold Zz5 at this
  rw [decide_eq_true hc, Zv] at this
  exact this
 simp only [Y4 l] at hva
 have F := Y4 l
 repeat' first
  | (with_reducible refine Ya ?_; first | refine Yv ?_ | refine Ye ?_ | refine X0 ?_ | refine Wu rfl ?_ | refine Xw ?_)
  | (with_reducible refine Wx ?_; refine Yw ?_)
  | refine g0 ?_
  | (with_reducible refine Y7 ?_; refine gc rfl rfl rfl Jt (hck _) ?_)
 refine Yf (fun m e h' => ∃ (k : Nat) (T : List Ob), k ≤ L.length ∧ m = L.length - k ∧ L.all (Yb l) = (L.drop k).all (Yb l) ∧ h' = .cells (latX l) :: T ∧ e 2 = .ptr 0 0 ∧ e 10 = .sl 4 (L.map vaX) ∧ e 11 = .v (.int .i64 L.length) ∧ e 12 = .v (.int .i64 k)) L.length ⟨0, [], Z8 _, rfl, rfl, by rw [Y4 l], rfl, rfl, rfl, rfl⟩ ?_
 rintro m e h' ⟨k, T, hk, rfl, ho, rfl, e2, e10, e11, e12⟩
 by_cases hlt : k < L.length
 · have hx : L[k]? = some L[k] := Zg hlt
   have hd : L.drop k = L[k] :: L.drop (k + 1) := Ze hlt
   have hvx := hva _ (hL _ (Zu hlt))
   generalize L[k] = x at hx hd hvx
   have wk : IntKind.i64.wrap ((k : Int) + 1) = (k : Int) + 1 := IntWalk.i64_in _ (by omega)
   rw [hd, Zw] at ho
   simp only [Y5 x] at hvx
   cases hb : Yb l x
   · rw [hb] at hvx ho
     rw [ho]
     have F : _ ∧ _ ∧ _ ∧ _ ∧ _ ∧ _ ∧ _ := ⟨e2, e10, e11, e12, Y4 l, Y5 x, wk⟩
     repeat' first
      | (with_reducible refine Ya ?_; first | refine Yv ?_ | refine Ye ?_ | refine X0 ?_ | refine Wp rfl ?_ | refine Wu rfl ?_ | refine Xw ?_ | refine Wi ?_ | refine Xx ?_)
      | (with_reducible refine Wx ?_; first | refine Yw ?_ | refine Wl ?_ | refine Vn ?_)
      | (with_reducible refine Jy ?_; first | refine Yh1 ?_ | refine Jm ?_)
      | refine gg ?_
      | refine Two.mk (fun hq => ?_) fun hq => ?_
      | (with_reducible refine Y7 ?_; refine gc rfl rfl rfl ent_80 (hvx _) ?_)
      | (exfalso; omega)
     exact ⟨.inr rfl, endD (r := .v (.int .i64 4)) hl0 rfl (by simp) (by simp) rfl (by rw [low]; trivial) ⟨rfl, rfl⟩⟩
   · rw [hb] at hvx ho
     have F : _ ∧ _ ∧ _ ∧ _ ∧ _ ∧ _ ∧ _ := ⟨e2, e10, e11, e12, Y4 l, Y5 x, wk⟩
     repeat' first
      | (with_reducible refine Ya ?_; first | refine Yv ?_ | refine Ye ?_ | refine X0 ?_ | refine Wp rfl ?_ | refine Wu rfl ?_ | refine Xw ?_ | refine Wi ?_ | refine Xx ?_)
      | (with_reducible refine Wx ?_; first | refine Yw ?_ | refine Wl ?_)
      | (with_reducible refine Jy ?_; first | refine inB_n ?_ | refine Jm ?_)
      | refine gg ?_
      | refine Two.mk (fun hq => ?_) fun hq => ?_
      | (with_reducible refine Y7 ?_; refine gc rfl rfl rfl ent_80 (hvx _) ?_)
      | (exfalso; omega)
     exact ⟨rfl, L.length - (k + 1), by omega, k + 1, _, hlt, rfl, ho, by rw [Y4 l], e2, e10, e11, rfl⟩
 · have ho : L.all (Yb l) = true := by rw [ho, Zj (by omega)]; rfl
   rw [ho]
   have F : _ ∧ _ ∧ _ ∧ _ := ⟨e2, e10, e11, e12⟩
   repeat' first
    | (with_reducible refine Ya ?_; first | refine Yv ?_ | refine Ye ?_ | refine X0 ?_ | refine Wp rfl ?_ | refine Wu rfl ?_ | refine Xw ?_ | refine Wi ?_ | refine Xx ?_)
    | (with_reducible refine Wx ?_; first | refine Yw ?_ | refine Wl ?_)
    | (with_reducible refine Jy ?_; refine Jm ?_)
    | refine gg ?_
    | refine Two.mk (fun hq => ?_) fun hq => ?_
    | refine Evry.mk fun x hx => ?_
    | (exfalso; omega)
   all_goals exact ⟨.inr rfl, endD (r := .v (.int .i64 0)) hl0 rfl (by simp) (by simp) rfl (by rw [low]; trivial) ⟨rfl, rfl⟩⟩
theorem fault_d (l : Lat) (hsm : Sm l) (L : List Val) (hL : ∀ v ∈ L, VSm v) (hl : L.length ≤ 1000000) (h : List Ob) : Does Z7 G 17 h [.agg (latX l), .sl 4 (L.map vaX)] (fun h' r => h' = h ∧ r = .v (.int .i64 (errF l L))) := by
 refine Y9 G hG (by simp only [lowL]; exact ⟨by rw [low]; exact Yy _ l, U6 L, trivial⟩) (by rw [low]; trivial) ?_ h
 clear h
 have hck := Yo1 G hG l hsm
 simp only [Y4 l] at hck
 unfold errF
 refine Y6 Tryz.func17 rfl (Z2 rfl) hG fun hl0 _ => ?_
 simp only [Tryz.ntmps17]
 by_cases hc : chkE l = 0
 rotate_left
 · rw [if_pos hc]
   have F : _ ∧ _ := ⟨Y4 l, hc⟩
   repeat' first
    | (with_reducible refine Ya ?_; first | refine Yv ?_ | refine Ye ?_ | refine Wp rfl ?_ | refine Xx ?_)
    | (with_reducible refine Wx ?_; first | refine Yw ?_ | refine Vn ?_)
    | refine g0 ?_
    | (with_reducible refine Y7 ?_; refine gc rfl rfl rfl ent_38 (hck _) ?_)
   all_goals first | (exfalso; omega) | exact ⟨.inr rfl, endD (r := .v (.int .i64 1)) hl0 rfl (by simp) (by simp) rfl (by rw [low]; trivial) ⟨rfl, rfl⟩⟩
 rw [if_neg (fun q => q hc)]
 rw [hc] at hck
 have hva : ∀ v, VSm v → ∀ h, Does Z7 G 39 h [.agg (latX l), .agg (vaX v)] (fun h' r => h' = h ∧ r = .v (.bool (Yb l v))) := fun v hv h => by
  have := rValid_d G hG l hsm v hv h
  unfold Zz5 at this
  rw [decide_eq_true hc, Zv] at this
  exact this
 simp only [Y4 l] at hva
 have F := Y4 l
 repeat' first
  | (with_reducible refine Ya ?_; first | refine Yv ?_ | refine Ye ?_ | refine X0 ?_ | refine Wu rfl ?_ | refine Xw ?_)
  | (with_reducible refine Wx ?_; refine Yw ?_)
  | refine g0 ?_
  | (with_reducible refine Y7 ?_; refine gc rfl rfl rfl ent_38 (hck _) ?_)
 refine Yf (fun m e h' => ∃ (k : Nat), k ≤ L.length ∧ m = L.length - k ∧ L.all (Yb l) = (L.drop k).all (Yb l) ∧ h' = [.cells (latX l)] ∧ e 1 = .sl 4 (L.map vaX) ∧ e 2 = .ptr 0 0 ∧ e 5 = .v (.int .i64 k)) L.length ⟨0, Z8 _, rfl, rfl, by rw [Y4 l], rfl, rfl, rfl⟩ ?_
 rintro m e h' ⟨k, hk, rfl, ho, rfl, e1, e2, e5⟩
 by_cases hlt : k < L.length
 · have hx : L[k]? = some L[k] := Zg hlt
   have hd : L.drop k = L[k] :: L.drop (k + 1) := Ze hlt
   have hvx := hva _ (hL _ (Zu hlt))
   generalize L[k] = x at hx hd hvx
   have wk : IntKind.i64.wrap ((k : Int) + 1) = (k : Int) + 1 := IntWalk.i64_in _ (by omega)
   rw [hd, Zw] at ho
   simp only [Y5 x] at hvx
   cases hb : Yb l x
   · rw [hb] at hvx ho
     rw [ho]
     have F : _ ∧ _ ∧ _ ∧ _ ∧ _ ∧ _ := ⟨e1, e2, e5, Y4 l, Y5 x, wk⟩
     repeat' first
      | (with_reducible refine Ya ?_; first | refine Yv ?_ | refine Ye ?_ | refine X0 ?_ | refine Wp rfl ?_ | refine Wu rfl ?_ | refine Xw ?_ | refine Wi ?_ | refine Xx ?_ | refine Y8 mixd (by kernel_rfl) ?_)
      | (with_reducible refine Wx ?_; first | refine Yw ?_ | refine Wl ?_ | refine Vn ?_)
      | (with_reducible refine Jy ?_; first | refine Yh1 ?_ | refine Jm ?_)
      | refine gg ?_
      | refine Two.mk (fun hq => ?_) fun hq => ?_
      | (with_reducible refine Xv ?_; refine aq2 rfl rfl rfl ent_39 (hvx _) ?_)
      | (exfalso; omega)
     all_goals first | (exfalso; omega) | exact ⟨.inr rfl, endD (r := .v (.int .i64 4)) hl0 rfl (by simp) (by simp) rfl (by rw [low]; trivial) ⟨rfl, rfl⟩⟩
   · rw [hb] at hvx ho
     have F : _ ∧ _ ∧ _ ∧ _ ∧ _ ∧ _ := ⟨e1, e2, e5, Y4 l, Y5 x, wk⟩
     repeat' first
      | (with_reducible refine Ya ?_; first | refine Yv ?_ | refine Ye ?_ | refine X0 ?_ | refine Wp rfl ?_ | refine Wu rfl ?_ | refine Xw ?_ | refine Wi ?_ | refine Xx ?_ | refine Y8 mixd (by kernel_rfl) ?_)
      | (with_reducible refine Wx ?_; first | refine Yw ?_ | refine Wl ?_)
      | (with_reducible refine Jy ?_; first | refine inB_n ?_ | refine Jm ?_)
      | refine gg ?_
      | refine Two.mk (fun hq => ?_) fun hq => ?_
      | (with_reducible refine Xv ?_; refine aq2 rfl rfl rfl ent_39 (hvx _) ?_)
      | (exfalso; omega)
     all_goals first | (exfalso; omega) | exact ⟨rfl, L.length - (k + 1), by omega, k + 1, hlt, rfl, ho, by rw [Y4 l], e1, e2, rfl⟩
 · have ho : L.all (Yb l) = true := by rw [ho, Zj (by omega)]; rfl
   rw [ho]
   have F : _ ∧ _ ∧ _ := ⟨e1, e2, e5⟩
   repeat' first
    | (with_reducible refine Ya ?_; first | refine Yv ?_ | refine Ye ?_ | refine X0 ?_ | refine Wp rfl ?_ | refine Wu rfl ?_ | refine Xw ?_ | refine Wi ?_ | refine Xx ?_ | refine Y8 mixd (by kernel_rfl) ?_)
    | (with_reducible refine Wx ?_; first | refine Yw ?_ | refine Wl ?_)
    | (with_reducible refine Jy ?_; refine Jm ?_)
    | refine gg ?_
    | refine Two.mk (fun hq => ?_) fun hq => ?_
    | (exfalso; omega)
   all_goals exact ⟨.inr rfl, endD (r := .v (.int .i64 0)) hl0 rfl (by simp) (by simp) rfl (by rw [low]; trivial) ⟨rfl, rfl⟩⟩
end
section
attribute [local irreducible] on aOp
attribute [local go_sem] decide_true decide_false Zk Zd
attribute [local simp] byD_len
def TellsL (G : Nat → D) (g : FuncId) (caps : List D) (p : Lat → Bool) (l : List Lat) (h : List Ob) : Prop := ∀ c ∈ l, Does Z7 G g h (.agg (latX c) :: caps) (fun h' r => h' = h ∧ r = .v (.bool (p c)))
theorem Zd1 : ∀ {ps : List Lat}, Vr ps = true ↔ ∀ p ∈ ps, W4 p = true
 | [] => by rw [Vr]; simp
 | p :: t => by rw [Vr, Z5, Zd1]; simp
theorem Zy0 {l : Lat} (hwf : WfL l) : l.parts.length ≤ 1000000 := by
 obtain ⟨_, h5, h7, h6, h0, _⟩ := hwf.kinds
 by_cases e5 : l.kind = 5
 · rw [h5 e5]; omega
 by_cases e6 : l.kind = 6
 · have := h6 e6; omega
 by_cases e7 : l.kind = 7
 · rw [h7 e7]; omega
 · rw [h0 e5 e6 e7]; omega
variable (G : Nat → D) (hG : ∀ g, low 0 (G g))
attribute [local go_sem] Zp Zq Zr Zf Z3 Zl Zm Z9 Zb Zn
attribute [local go_sem ↓] reduceIte
theorem indexL_s (l : List Lat) (p : Lat → Bool) (g : FuncId) (caps : List D) (he : entB Z7 g = true) (hsz : l.length ≤ 1000000) (h : List Ob) (ht : TellsL G g caps p l h) :
 Does Z7 G 139 h [.sl 6 (l.map latX), .fn g caps] (fun h' r => h' = h ∧ ∃ z, r = .v (.int .i64 z) ∧ decide (0 ≤ z) = l.any p) := by
 refine Ji Tryz.func139 rfl (Z2 rfl) ?_
 simp only [Tryz.ntmps139]
 repeat' first
  | (with_reducible refine Ya ?_; first | refine Yv ?_ | refine Ye ?_ | refine X0 ?_)
  | (with_reducible refine Wx ?_; refine Yw ?_)
  | refine g0 ?_
  | fail
 refine Yf (fun m e h' => ∃ k : Nat, k ≤ l.length ∧ m = l.length - k ∧ l.any p = (l.drop k).any p ∧ h' = h ∧ e 0 = .sl 6 (l.map latX) ∧ e 1 = .fn g caps ∧ e 7 = .v (.int .i64 l.length) ∧ e 8 = .v (.int .i64 k)) l.length ⟨0, Z8 _, rfl, rfl, rfl, rfl, rfl, rfl, rfl⟩ ?_
 rintro m e h' ⟨k, hk, rfl, ha, rfl, e0, e1, e7, e8⟩
 by_cases hlt : k < l.length
 · have hx : l[k]? = some l[k] := Zg hlt
   have hd : l.drop k = l[k] :: l.drop (k + 1) := Ze hlt
   have hc := ht _ (Zu hlt)
   generalize l[k] = x at hx hd hc
   rw [hd, List.any_cons] at ha
   have wk : IntKind.i64.wrap ((k : Int) + 1) = (k : Int) + 1 := IntWalk.i64_in _ (by omega)
   simp only [Y4 x] at hc
   cases hpx : p x
   · rw [hpx] at hc ha
     have F : _ ∧ _ ∧ _ ∧ _ ∧ _ ∧ _ := ⟨e0, e1, e7, e8, Y4 x, wk⟩
     repeat' first
      | (with_reducible refine Ya ?_; first | refine Yv ?_ | refine Ye ?_ | refine X0 ?_ | refine Wp rfl ?_ | refine Wu rfl ?_ | refine Xw ?_ | refine Wi ?_ | refine Xx ?_)
      | (with_reducible refine Y7 ?_; (refine ao_callK rfl rfl rfl he hc ?_; rintro _ _ ⟨rfl, rfl⟩))
      | (with_reducible refine Wx ?_; first | refine Yw ?_ | refine Wl ?_)
      | (with_reducible refine Jy ?_; first | refine inB_n ?_ | refine Jm ?_)
      | refine gg ?_
      | refine Two.mk (fun hq => ?_) fun hq => ?_
      | (exfalso; omega)
     exact ⟨rfl, l.length - (k + 1), by omega, k + 1, by omega, rfl, ha, rfl, e0, e1, e7, rfl⟩
   · rw [hpx] at hc ha
     have F : _ ∧ _ ∧ _ ∧ _ ∧ _ ∧ _ := ⟨e0, e1, e7, e8, Y4 x, wk⟩
     repeat' first
      | (with_reducible refine Ya ?_; first | refine Yv ?_ | refine Ye ?_ | refine X0 ?_ | refine Wp rfl ?_ | refine Wu rfl ?_ | refine Xw ?_ | refine Wi ?_ | refine Xx ?_)
      | (with_reducible refine Y7 ?_; (refine ao_callK rfl rfl rfl he hc ?_; rintro _ _ ⟨rfl, rfl⟩))
      | (with_reducible refine Wx ?_; first | refine Yw ?_ | refine Wl ?_ | refine Vn ?_)
      | (with_reducible refine Jy ?_; first | refine Yh1 ?_ | refine Jm ?_)
      | refine gg ?_
      | refine Two.mk (fun hq => ?_) fun hq => ?_
      | (exfalso; omega)
     exact ⟨.inr rfl, [.v (.int .i64 k)], rfl, rfl, _, rfl, by rw [ha, decide_eq_true (by omega)]; rfl⟩
 · skip
   have F : _ ∧ _ ∧ _ ∧ _ := ⟨e0, e1, e7, e8⟩
   repeat' first
    | (with_reducible refine Ya ?_; first | refine Yv ?_ | refine Ye ?_ | refine X0 ?_ | refine Wp rfl ?_ | refine Wu rfl ?_ | refine Xw ?_ | refine Wi ?_ | refine Xx ?_)
    | (with_reducible refine Wx ?_; first | refine Yw ?_ | refine Wl ?_)
    | (with_reducible refine Jy ?_; refine Jm ?_)
    | refine gg ?_
    | refine Two.mk (fun hq => ?_) fun hq => ?_
    | refine Evry.mk fun x hx => ?_
    | (exfalso; omega)
   exact ⟨.inr rfl, [.v (.int .i64 (-1))], rfl, rfl, _, rfl, by rw [ha, Zj (by omega)]; rfl⟩
theorem Ye9 (l : List Lat) (p : Lat → Bool) (g : FuncId) (caps : List D) (he : entB Z7 g = true) (hsz : l.length ≤ 1000000) (h : List Ob) (ht : TellsL G g caps p l h) :
 Does Z7 G 81 h [.sl 6 (l.map latX), .fn g caps] (fun h' r => h' = h ∧ r = .v (.bool (l.any p))) := by
 have hi := indexL_s G l p g caps he hsz h ht
 refine Ji Tryz.func81 rfl (Z2 rfl) ?_
 simp only [Tryz.ntmps81]
 repeat' first
  | (with_reducible refine Ya ?_; first | refine Yv ?_ | refine Ye ?_ | refine Xx ?_)
  | (with_reducible refine Wx ?_; refine Yw ?_)
  | refine gg ?_
  | refine Two.mk (fun hq => ?_) fun hq => ?_
  | (with_reducible refine Y7 ?_; (refine ao2 rfl rfl rfl ent_139 (hi) ?_; rintro _ _ ⟨rfl, z, rfl, hz⟩))
 all_goals exact ⟨.inr rfl, [.v (.bool (l.any p))], (by simp only [resD, Tryz.results81, go_sem, ↓reduceIte, Z9, hq]; rw [← hz]; first | rfl | simp [hq]), rfl, rfl⟩
include hG
theorem nDist_d (c : Lat) {b : Bool} (hc : ∀ h, Does Z7 G 41 h [.agg (latX c)] (fun h' r => h' = h ∧ r = .v (.bool b))) : Does Z7 G 82 [] [.agg (latX c)] (fun h' r => h' = [] ∧ r = .v (.bool (!b))) := by
 simp only [Y4 c] at hc
 refine Y6 Tryz.func82 rfl (Z2 rfl) hG fun hl0 _ => ?_
 simp only [Tryz.ntmps82]
 have F := Y4 c
 repeat' first
  | (with_reducible refine Ya ?_; first | refine Yv ?_ | refine Ye ?_ | refine Xx ?_)
  | (with_reducible refine Wx ?_; refine Yw ?_)
  | refine g0 ?_
  | (with_reducible refine Y7 ?_; refine gc rfl rfl rfl ent_41 (hc _) ?_)
 exact ⟨.inr rfl, endD (r := .v _) hl0 rfl (by simp) (by simp) rfl (by rw [low]; trivial) ⟨rfl, rfl⟩⟩
theorem dist_d (f : Nat) : ∀ l : Lat, SizeOf.sizeOf l ≤ f → WfL l → ∀ h : List Ob, Does Z7 G 41 h [.agg (latX l)] (fun h' r => h' = h ∧ r = .v (.bool (W4 l))) := by
 induction f with
 | zero => intro l hn; cases l; simp at hn
 | succ f ih =>
 intro l hn hwf h
 refine Y9 G hG (by rw [lowL, lowL, low]; exact ⟨Yy _ l, trivial⟩) (by rw [low]; trivial) ?_ h
 clear h
 have hpl : l.parts.length ≤ 1000000 := Zy0 hwf
 have hcf := Ye9 G l.parts (fun c => !W4 c) 82 [] ent_82 hpl [.cells (latX l)] (fun c hc => Y9 G hG (by rw [lowL, lowL, low]; exact ⟨Yy _ c, trivial⟩) (by rw [low]; trivial) (nDist_d G hG c (ih c (by have := Yz hc; omega) (hwf.part hc))) _)
 have e1 : W4 l = (!decide (l.kind = 8 ∨ l.kind = 10) && !(l.parts.any fun c => !W4 c)) := by
  obtain ⟨k, lo, hi, ns, ps, rs⟩ := l
  rw [W4]
  show (_ && Vr ps) = (_ && !(ps.any fun c => !W4 c))
  rw [show Vr ps = !(ps.any fun c => !W4 c) by rw [Bool.eq_iff_iff, Zd1, Za, List.any_eq_false]; simp]
  rfl
 rw [e1]
 simp only [Y4 l] at hcf
 generalize (l.parts.any fun c => !W4 c) = bb at *
 refine Y6 Tryz.func41 rfl (Z2 rfl) hG fun hl0 _ => ?_
 simp only [Tryz.ntmps41]
 by_cases h8 : l.kind = 8
 · rw [decide_eq_true (.inl h8)]
   have F : _ ∧ _ := ⟨Y4 l, h8⟩
   repeat' first
    | (with_reducible refine Ya ?_; first | refine Yv ?_ | refine Ye ?_ | refine Xx ?_)
    | (with_reducible refine Wx ?_; refine Yw ?_)
    | refine g0 ?_
    | fail
   all_goals exact ⟨.inr rfl, endD (r := .v (.bool false)) hl0 rfl (by simp) (by simp) rfl (by rw [low]; trivial) ⟨rfl, rfl⟩⟩
 by_cases h10 : l.kind = 10
 · rw [decide_eq_true (.inr h10)]
   have F : _ ∧ _ := ⟨Y4 l, h10⟩
   repeat' first
    | (with_reducible refine Ya ?_; first | refine Yv ?_ | refine Ye ?_ | refine Xx ?_)
    | (with_reducible refine Wx ?_; refine Yw ?_)
    | refine g0 ?_
    | fail
   all_goals exact ⟨.inr rfl, endD (r := .v (.bool false)) hl0 rfl (by simp) (by simp) rfl (by rw [low]; trivial) ⟨rfl, rfl⟩⟩
 rw [decide_eq_false (by omega)]
 repeat' first
  | (with_reducible refine Ya ?_; first
   | refine Yv ?_
   | refine Ye ?_
   | refine Xx ?_)
  | (with_reducible refine Y7 ?_; first
   | refine Yp ?_
   | (refine ao1 rfl rfl fun K HK => ?_; (first | refine Ym rfl ?_ | skip); simp only [go_sem, Y4 l, h8, h10, not_false_eq_true] <;> (refine HK _ _ ?_; clear HK K))
   | (refine ao2 rfl rfl rfl ent_81 (hcf) ?_; rintro _ _ ⟨rfl, rfl⟩))
  | (with_reducible refine Wx ?_; first
   | refine Yw ?_)
 all_goals first | (exfalso; omega) | exact ⟨.inr rfl, endD (r := .v (.bool (!bb))) hl0 rfl (by simp) (by simp) rfl (by rw [low]; trivial) ⟨rfl, rfl⟩⟩
theorem rdist_d (f : Nat) : ∀ l : Lat, SizeOf.sizeOf l ≤ f → WfL l → ∀ h : List Ob, Does Z7 G 18 h [.agg (latX l)] (fun h' r => h' = h ∧ r = .v (.bool (W4 l))) := by
 induction f with
 | zero => intro l hn; cases l; simp at hn
 | succ f ih =>
 intro l hn hwf h
 refine Y9 G hG (by rw [lowL, lowL, low]; exact ⟨Yy _ l, trivial⟩) (by rw [low]; trivial) ?_ h
 clear h
 have hpl : l.parts.length ≤ 1000000 := Zy0 hwf
 have hpp : ∀ p ∈ l.parts, ∀ (b : Bool), W4 p = b → ∀ h, Does Z7 G 18 h [.agg (latX p)] (fun h' r => h' = h ∧ r = .v (.bool b)) := fun p hp b hb => hb ▸ ih p (by have := Yz hp; omega) (hwf.part hp)
 have e1 : W4 l = (!decide (l.kind = 8 ∨ l.kind = 10) && l.parts.all W4) := by
  obtain ⟨k, lo, hi, ns, ps, rs⟩ := l
  rw [W4]
  show (_ && Vr ps) = (_ && ps.all W4)
  rw [show Vr ps = ps.all W4 by rw [Bool.eq_iff_iff, Zd1, Y1]]
  rfl
 rw [e1]
 refine Y6 Tryz.func18 rfl (Z2 rfl) hG fun hl0 _ => ?_
 simp only [Tryz.ntmps18]
 by_cases h8 : l.kind = 8
 · rw [decide_eq_true (.inl h8)]
   have F : _ ∧ _ := ⟨Y4 l, h8⟩
   repeat' first
    | (with_reducible refine Ya ?_; first | refine Yv ?_ | refine Ye ?_ | refine Wp rfl ?_ | refine Xx ?_)
    | (with_reducible refine Wx ?_; first | refine Yw ?_ | refine Vn ?_)
    | refine g0 ?_
    | fail
   all_goals exact ⟨.inr rfl, endD (r := .v (.bool false)) hl0 rfl (by simp) (by simp) rfl (by rw [low]; trivial) ⟨rfl, rfl⟩⟩
 by_cases h10 : l.kind = 10
 · rw [decide_eq_true (.inr h10)]
   have F : _ ∧ _ := ⟨Y4 l, h10⟩
   repeat' first
    | (with_reducible refine Ya ?_; first | refine Yv ?_ | refine Ye ?_ | refine Wp rfl ?_ | refine Xx ?_)
    | (with_reducible refine Wx ?_; first | refine Yw ?_ | refine Vn ?_)
    | refine g0 ?_
    | fail
   all_goals exact ⟨.inr rfl, endD (r := .v (.bool false)) hl0 rfl (by simp) (by simp) rfl (by rw [low]; trivial) ⟨rfl, rfl⟩⟩
 rw [decide_eq_false (by omega), Zd, Zv]
 have F : _ ∧ _ ∧ _ := ⟨Y4 l, h8, h10⟩
 repeat' first
  | (with_reducible refine Ya ?_; first | refine Yv ?_ | refine Ye ?_ | refine X0 ?_ | refine Wu rfl ?_ | refine Xw ?_)
  | (with_reducible refine Wx ?_; refine Yw ?_)
  | refine g0 ?_
  | fail
 refine Yf (fun m e h' => ∃ k : Nat, k ≤ l.parts.length ∧ m = l.parts.length - k ∧ l.parts.all W4 = (l.parts.drop k).all W4 ∧ h' = [.cells (latX l)] ∧ e 1 = .ptr 0 0 ∧ e 3 = .v (.int .i64 k)) l.parts.length ⟨0, Z8 _, rfl, rfl, by rw [Y4 l], rfl, rfl⟩ ?_
 rintro m e h' ⟨k, hk, rfl, ho, rfl, e1, e3⟩
 by_cases hlt : k < l.parts.length
 · have hx : l.parts[k]? = some l.parts[k] := Zg hlt
   have hd : l.parts.drop k = l.parts[k] :: l.parts.drop (k + 1) := Ze hlt
   have hc := hpp _ (Zu hlt)
   generalize l.parts[k] = x at hx hd hc
   rw [hd, Zw] at ho
   have wk : IntKind.i64.wrap ((k : Int) + 1) = (k : Int) + 1 := IntWalk.i64_in _ (by omega)
   simp only [Y4 x] at hc
   cases hpx : W4 x
   · have hc := hc _ hpx
     rw [hpx] at ho
     rw [ho]
     have F : _ ∧ _ ∧ _ ∧ _ ∧ _ := ⟨e1, e3, Y4 l, Y4 x, wk⟩
     repeat' first
      | (with_reducible refine Ya ?_; first | refine Yv ?_ | refine Ye ?_ | refine X0 ?_ | refine Wp rfl ?_ | refine Wu rfl ?_ | refine Xw ?_ | refine Wi ?_ | refine Xx ?_)
      | (with_reducible refine Wx ?_; first | refine Yw ?_ | refine Wl ?_ | refine Vn ?_)
      | (with_reducible refine Jy ?_; first | refine Yh1 ?_ | refine Jm ?_)
      | refine gg ?_
      | refine Two.mk (fun hq => ?_) fun hq => ?_
      | (with_reducible refine Y7 ?_; refine gc rfl rfl rfl ent_18 (hc _) ?_)
      | (exfalso; omega)
     exact ⟨.inr rfl, endD (r := .v (.bool false)) hl0 rfl (by simp) (by simp) rfl (by rw [low]; trivial) ⟨rfl, rfl⟩⟩
   · have hc := hc _ hpx
     rw [hpx] at ho
     have F : _ ∧ _ ∧ _ ∧ _ ∧ _ := ⟨e1, e3, Y4 l, Y4 x, wk⟩
     repeat' first
      | (with_reducible refine Ya ?_; first | refine Yv ?_ | refine Ye ?_ | refine X0 ?_ | refine Wp rfl ?_ | refine Wu rfl ?_ | refine Xw ?_ | refine Wi ?_ | refine Xx ?_)
      | (with_reducible refine Wx ?_; first | refine Yw ?_ | refine Wl ?_)
      | (with_reducible refine Jy ?_; first | refine inB_n ?_ | refine Jm ?_)
      | refine gg ?_
      | refine Two.mk (fun hq => ?_) fun hq => ?_
      | (with_reducible refine Y7 ?_; refine gc rfl rfl rfl ent_18 (hc _) ?_)
      | (exfalso; omega)
     exact ⟨rfl, l.parts.length - (k + 1), by omega, k + 1, hlt, rfl, ho, by rw [Y4 l], e1, rfl⟩
 · have ho : l.parts.all W4 = true := by rw [ho, Zj (by omega)]; rfl
   rw [ho]
   have F : _ ∧ _ ∧ _ := ⟨e1, e3, Y4 l⟩
   repeat' first
    | (with_reducible refine Ya ?_; first | refine Yv ?_ | refine Ye ?_ | refine X0 ?_ | refine Wp rfl ?_ | refine Wu rfl ?_ | refine Xw ?_ | refine Wi ?_ | refine Xx ?_)
    | (with_reducible refine Wx ?_; first | refine Yw ?_ | refine Wl ?_)
    | (with_reducible refine Jy ?_; refine Jm ?_)
    | refine gg ?_
    | refine Two.mk (fun hq => ?_) fun hq => ?_
    | refine Evry.mk fun x hx => ?_
    | (exfalso; omega)
   exact ⟨.inr rfl, endD (r := .v (.bool true)) hl0 rfl (by simp) (by simp) rfl (by rw [low]; trivial) ⟨rfl, rfl⟩⟩
end
section
attribute [local irreducible] on aOp
attribute [local go_sem] decide_true decide_false Zk Zd
attribute [local simp] byD_len
variable (G : Nat → D) (hG : ∀ g, low 0 (G g))
include hG
attribute [local go_sem] Zp Zq Zr Zf Y2 List.getElem?_cons_succ List.getElem?_cons_zero Zi Y3 Z3 Ys6 Ys7 List.set_cons_succ List.set_cons_zero Zl Zm Z9 Zb Zn
attribute [local go_sem ↓] reduceIte
end
section
attribute [local irreducible] on aOp
attribute [local go_sem] decide_true decide_false Zk Zd
attribute [local simp] byD_len
variable (G : Nat → D) (hG : ∀ g, low 0 (G g))
include hG
attribute [local go_sem] Zz Zp Zq Zr Zf Z3 Zl Zm Z9 Zb Zn
attribute [local go_sem ↓] reduceIte
end
section
attribute [local irreducible] on aOp
attribute [local go_sem] decide_true decide_false Zk Zd
attribute [local simp] byD_len
variable (G : Nat → D) (hG : ∀ g, low 0 (G g))
include hG
attribute [local go_sem] Zp Zq Zr Zf Z3 Zl Zm Z9 Zb Zn
attribute [local go_sem ↓] reduceIte
end
section
attribute [local irreducible] on aOp
attribute [local go_sem] decide_true decide_false Zk Zd
attribute [local simp] byD_len
theorem endBk {res : Array ResultVar} {K : List Ob → D → Prop} {e k n n' : Nat} {rows rows' : List (List D)} {T : List Ob} {s : S} (h1 : resD Z7 s res.toList = some [.buf 0 n']) (h2 : s.h = .buf e k rows' :: T) (h3 : n' = n) (h4 : rows' = rows) (hl : lowR 1 rows) (hK : K [.buf e k rows] (.buf 0 n)) : EndD Z7 res 0 K s := by
 subst h3 h4
 have e1 : s.h.take 1 = [.buf e k rows'] := by rw [h2]; rfl
 refine ⟨[.buf 0 n'], 1, h1, Z8 _, by rw [h2]; exact Nat.le_add_left 1 T.length, ?_, ?_, ?_⟩
 · rw [e1]
   intro x hx
   rw [Z0.1 hx]
   exact hl
 · simp [outD, cvD, cv1, low]
 · rw [e1]; simpa [outD, cvD, cv1] using hK
theorem low_strs0 (l : List ByteArray) : low 0 (.sl 1 (l.map strX)) := W2 0 l
theorem rowsOk_strs (l : List ByteArray) : X3 1 (l.map strX) := fun row hr => by
 obtain ⟨c, _, rfl⟩ := Z1.1 hr
 exact ⟨rfl, fun d hd => by simp [strX] at hd; subst hd; rfl⟩
variable (G : Nat → D) (hG : ∀ g, low 0 (G g))
include hG
attribute [local go_sem] Zp Zq Zr Zl Zm Z9 Zb Zn
attribute [local go_sem ↓] reduceIte
end
section
attribute [local irreducible] on aOp
attribute [local go_sem] decide_true decide_false Zk Zd
attribute [local simp] byD_len
def qM (A Z V P B : Ob) (T : List Ob) : List Ob := A :: Z :: V :: P :: B :: T
section
variable {A Z V P B y y' : Ob} {T l : List Ob}
theorem qM_0 : (qM A Z V P B T)[0]? = some A := rfl
theorem qM_1 : (qM A Z V P B T)[1]? = some Z := rfl
theorem qM_2 : (qM A Z V P B T)[2]? = some V := rfl
theorem qM_3 : (qM A Z V P B T)[3]? = some P := rfl
theorem qM_4 : (qM A Z V P B T)[4]? = some B := rfl
theorem qM_s1 : (qM A Z V P B T).set 1 y = qM A y V P B T := rfl
theorem qM_s2 : (qM A Z V P B T).set 2 y = qM A Z y P B T := rfl
theorem qM_s4 : (qM A Z V P B T).set 4 y = qM A Z V P y T := rfl
theorem qM_len : (qM A Z V P B T).length = T.length + 5 := rfl
theorem qM_app : qM A Z V P B T ++ l = qM A Z V P B (T ++ l) := rfl
theorem qM_l : (qM A Z V P B (T ++ [y]))[T.length + 5]? = some y := by simp [qM]
theorem qM_sl : (qM A Z V P B (T ++ [y])).set (T.length + 5) y' = qM A Z V P B (T ++ [y']) := by simp [qM]
theorem qM_l2 {z : Ob} : (qM A Z V P B (T ++ [y, z]))[T.length + 5]? = some y := by simp [qM]
theorem qM_l3 {z : Ob} : (qM A Z V P B (T ++ [y, z]))[T.length + 1 + 5]? = some z := by simp [qM]
end
theorem kM_sl3 {A Z V B y z y' : Ob} {T : List Ob} : (kM A Z V B (T ++ [y, z])).set (T.length + 1 + 4) y' = kM A Z V B (T ++ [y, y']) := by simp [kM, List.set_append]
theorem kM_l4 {A Z V B y z w : Ob} {T : List Ob} : (kM A Z V B (T ++ [y, z, w]))[T.length + 1 + 1 + 4]? = some w := by simp [kM]
theorem kM_l3b {A Z V B y z w : Ob} {T : List Ob} : (kM A Z V B (T ++ [y, z, w]))[T.length + 1 + 4]? = some z := by simp [kM]
variable (G : Nat → D) (hG : ∀ g, low 0 (G g))
include hG
attribute [local go_sem] Zz Zp Zq Zr Zf List.append_assoc Y2 Zi Y3 Z3 Ys6 Ys7 Zl Zm Z9 Zb Zn kM_0 kM_1 kM_2 kM_3 Zw0 kM_l kM_l2 kM_l3 kM_l3b kM_l4 Zg7 kM_s1 kM_s2 kM_s3 kM_sl kM_sl3 qM_0 qM_1 qM_2 qM_3 qM_4 qM_app qM_l qM_l2 qM_l3 qM_len qM_s1 qM_s2 qM_s4 qM_sl Xn Vs
attribute [local go_sem ↓] reduceIte
end
section
section
variable {P : Program} {G : Nat → D} {n : Nat} {e : Nat → D} {h : List Ob} {ops : Array Oper} {rest : List Oper} {Q : S → Prop} {t : Nat} {ty : TypeId} {pos : String} {aft : Array Edge} {gd : Option (Nat × Bool)} {x y : Operand} {tys : Array TypeId} {k κ : IntKind} {a b : Int}
theorem tri_min {dst : Option Nat} : OpTri P G ⟨dst, .call ⟨.builtin .min, #[x, y], tys⟩, ty, pos, aft, gd⟩ [.v (.int k a), .v (.int κ b)] h (fun h' d => h' = h ∧ d = .v (.int k (if b < a then b else a))) := fun ac w hd p R hdf ok ha => by
 have ho : opds (.call ⟨.builtin .min, #[x, y], tys⟩) = [x, y] := by simp [opds, Op.operands, Call.operands]
 rw [ho, Zs, Zs, List.map_nil, rdL] at ha
 obtain ⟨u, t1, e1, h1, ha⟩ := ha
 rw [rdL] at ha
 obtain ⟨u2, t2, e2, h2, ha⟩ := ha
 rw [rd] at h1
 rw [rd] at h2
 cases e1
 injection e2 with e2 e3
 subst h2
 have hrun : (execOp ac.eval ⟨dst, .call ⟨.builtin .min, #[x, y], tys⟩, ty, pos, aft, gd⟩).run P w = .ok (.value (.int k (if b < a then b else a))) w := by
  simp [execOp, resolve, invoke, h1, e2, builtin, Builtin.min_, Builtin.min2]
 unfold Oper.wp
 rw [hrun]
 exact ⟨_, rfl, .same ok ⟨rfl, rfl⟩ (by rw [rd])⟩
theorem ao_min (hw : Yg ops gd e = some true) (ht : decide (t < n) = true) (hx : ev G e x = .v (.int k a)) (hy : ev G e y = .v (.int κ b)) (q : ao P G ops rest Q ⟨n, upd e t (.v (.int k (if b < a then b else a))), h⟩) : ao P G ops (⟨some t, .call ⟨.builtin .min, #[x, y], tys⟩, ty, pos, aft, gd⟩ :: rest) Q ⟨n, e, h⟩ := by
 have ho : opds (.call ⟨.builtin .min, #[x, y], tys⟩) = [x, y] := by simp [opds, Op.operands, Call.operands]
 refine ao_ex hw (by rw [show (⟨some t, .call ⟨.builtin .min, #[x, y], tys⟩, ty, pos, aft, gd⟩ : Oper).op = .call ⟨.builtin .min, #[x, y], tys⟩ from rfl, ho, Zs, Zs, List.map_nil, hx, hy]; exact tri_min) ?_
 rintro _ _ ⟨rfl, rfl⟩
 unfold putE
 simp only [if_pos (of_decide_eq_true ht)]
 exact q
end
section
variable {P : Program} {G : Nat → D} {n m0 : Nat} {ops : Array Oper} {Q : (Nat → D) → List Ob → Prop} {done : List Eff} {rest : List Oper} {e : Nat → D} {h : List Ob} {t : Nat} {ty : TypeId} {pos : String} {aft : Array Edge} {gd : Option (Nat × Bool)}
end
end
section
theorem visit_mono (f : Nat) : ∀ (f' : Nat) (l : Lat) (n m : Nat), f ≤ f' → m ≤ n → (X4 f l n).1 = 0 → (X4 f' l m).1 = 0 ∧ (X4 f' l m).2 + n = (X4 f l n).2 + m := by
 induction f with
 | zero => intro f' l n m _ _ h; unfold X4 at h; exact absurd (show (6 : Int) = 0 from h) (by decide)
 | succ f ih =>
  intro f' l n m hf hm h
  obtain ⟨g, rfl⟩ : ∃ g, f' = g + 1 := ⟨f' - 1, by omega⟩
  have e : ∀ f n, X4 (f + 1) l n = if 64 ≤ n then (6, n) else if V0 l then (1, n + 1) else if latE l ≠ 0 then (latE l, n + 1) else goL (X4 f) l.parts (n + 1) := fun f n => rfl
  rw [e] at h
  rw [e, e]
  by_cases h1 : 64 ≤ n
  · rw [if_pos h1] at h; exact absurd (show (6 : Int) = 0 from h) (by decide)
  rw [if_neg h1] at h ⊢
  rw [if_neg (show ¬ 64 ≤ m by omega)]
  cases h2 : V0 l
  · rw [if_neg (by rw [h2]; exact Zt)] at h
    rw [if_neg Zt, if_neg Zt]
    by_cases h3 : latE l = 0
    · rw [if_neg (fun h => h h3)] at h ⊢
      rw [if_neg (fun h => h h3)]
      have key : ∀ (ps : List Lat) (n m : Nat), m ≤ n → (goL (X4 f) ps n).1 = 0 → (goL (X4 g) ps m).1 = 0 ∧ (goL (X4 g) ps m).2 + n = (goL (X4 f) ps n).2 + m := by
       intro ps
       induction ps with
       | nil => intro n m _ _; exact ⟨rfl, by show m + n = n + m; omega⟩
       | cons p t it =>
        intro n m hm h
        rw [goL] at h
        rw [goL, goL]
        by_cases h0 : (X4 f p n).1 = 0
        · rw [if_neg (fun h => h h0)] at h
          obtain ⟨i1, i2⟩ := ih g p n m (by omega) hm h0
          rw [if_neg (show ¬ (X4 g p m).1 ≠ 0 from fun h => h i1), if_neg (show ¬ (X4 f p n).1 ≠ 0 from fun h => h h0)]
          obtain ⟨j1, j2⟩ := it (X4 f p n).2 (X4 g p m).2 (by omega) h
          exact ⟨j1, by omega⟩
        · rw [if_pos h0] at h; exact absurd h h0
      obtain ⟨a, b⟩ := key l.parts (n + 1) (m + 1) (by omega) h
      exact ⟨a, by omega⟩
    · rw [if_pos h3] at h; exact absurd h h3
  · rw [if_pos h2] at h; exact absurd (show (1 : Int) = 0 from h) (by decide)
theorem Zy7 {l p : Lat} (h : chkE l = 0) (hp : p ∈ l.parts) : chkE p = 0 := by
 have e : X4 6 l 0 = if 64 ≤ 0 then (6, 0) else if V0 l then (1, 0 + 1) else if latE l ≠ 0 then (latE l, 0 + 1) else goL (X4 5) l.parts (0 + 1) := rfl
 unfold chkE at h
 have hw := Yl7 6 l 0 h
 rw [e, if_neg (by decide), if_neg (by rw [hw.shape]; exact Zt), if_neg (fun q => q hw.check)] at h
 obtain ⟨m, hm⟩ := Yp8 _ _ _ h p hp
 exact (visit_mono 5 6 p m 0 (by omega) (Z8 _) hm).1
end
end Go.Proofs.YtbhkcbidcfofiaaGreat
