/-
  What the statements of the chapter share, part 30: JT8, JT9, JT0, QA1, QA12, QL1, QA9, QB1.
-/
import Derived.Test.YtbhkcbidcfofiaaGreatY07
import Derived.Test.YtbhkcbidcfofiaaGreatY15
import Derived.Test.YtbhkcbidcfofiaaGreatY21
import Derived.Test.YtbhkcbidcfofiaaGreatY22
import Derived.Test.YtbhkcbidcfofiaaGreatY24
import Derived.Test.YtbhkcbidcfofiaaGreatY28
import Derived.Test.YtbhkcbidcfofiaaGreatY29
set_option linter.unusedVariables false
set_option linter.unusedSimpArgs false
set_option maxRecDepth 100000
set_option maxHeartbeats 8000000
namespace Go.Proofs.YtbhkcbidcfofiaaGreat
open _root_.Bool renaming and_eq_true → Z3, not_false → Za, true_and → Zf, not_true → Zn, or_eq_true → Zz, false_and → Y0
open _root_.Int renaming mul_le_mul_of_nonneg_left → Z9, reduceEq → Zb, zero_mul → Zi, mul_le_mul_of_nonneg_right → Zj, toNat_natCast → Zo, reduceLE → Zw, reduceLT → Zx, min_eq_left → Zy
open _root_.List renaming getElem?_eq_getElem → Z1, length_map → Z4, map_cons → Z5, all_eq_true → Z6, length_eq_zero_iff → Z8, getElem_mem → Zc, drop_eq_getElem_cons → Zd, sum_cons → Ze, length_append → Zg, length_eq_one_iff → Zh, filter_cons → Zt
open _root_.Nat renaming le_refl → Z0, le_of_ble_eq_true → Z2, reduceEqDiff → Zk, reduceLeDiff → Zl, zero_le → Zp, reduceAdd → Zq, reduceBEq → Zr, reduceMul → Zs
open _root_.Option renaming getD_some → Zm, bind_eq_some_iff → Zu, map_eq_some_iff → Zv
open _root_.Go.Proofs.Tryz renaming prog → Z7
open Go.RowKit
section
def Jd (bot : Val) (mt : Val → Val → Val) (a b : Val) : Val :=
 .mk 0 (((a.names.zip a.parts).filterMap fun x => ((getM b x.1).bind fun w => if valC (mt x.2 w) bot = 0 then none else some (mt x.2 w)).map fun d => (x.1, d)).map Prod.fst)
  (((a.names.zip a.parts).filterMap fun x => ((getM b x.1).bind fun w => if valC (mt x.2 w) bot = 0 then none else some (mt x.2 w)).map fun d => (x.1, d)).map Prod.snd) []
mutual
def Ws : Lat → Val → Val → Val
 | .mk k lo hi ns ps rs, a, b =>
   if k = 4 ∨ k = 10 then .mk 0 (Ze6 a.names b.names) [] []
   else if k = 5 then meetMap ps a b else if k = 6 then .mk 0 [] (meets ps a.parts b.parts) []
   else if k = 7 ∧ Zh6 a.parts b.parts = true then .mk 0 [] (meetLex ps a.parts b.parts) []
   else if leqV (.mk k lo hi ns ps rs) a b then a else if leqV (.mk k lo hi ns ps rs) b a then b else Wx
def meetMap : List Lat → Val → Val → Val
 | [], a, _ => a
 | p :: _, a, b => Jd (botV p) (fun v w => Ws p v w) a b
def meets : List Lat → List Val → List Val → List Val
 | p :: ps, a :: s, b :: t => Ws p a b :: meets ps s t
 | [], _, _ => []
 | _ :: _, [], _ => []
 | _ :: _, _ :: _, [] => []
def meetLex : List Lat → List Val → List Val → List Val
 | _ :: ps, a :: s, _ :: t => a :: meetLex2 ps s t
 | [], _, _ => []
 | _ :: _, [], _ => []
 | _ :: _, _ :: _, [] => []
def meetLex2 : List Lat → List Val → List Val → List Val
 | p :: _, a :: _, b :: _ => [Ws p a b]
 | [], _, _ => []
 | _ :: _, [], _ => []
 | _ :: _, _ :: _, [] => []
end
structure Rk {α : Type} (E : α → Prop) (le : α → α → Bool) (jn mt : α → α → α) (bot : α) (rk : α → Int) : Prop where
 bot0 : rk bot = 0
 mem : ∀ a b, E a → E b → E (mt a b)
 mono : ∀ a b, E a → E b → le a b = true → rk a ≤ rk b
 strict : ∀ a b, E a → E b → le a b = true → rk a = rk b → a = b
 val : ∀ a b, E a → E b → rk (jn a b) + rk (mt a b) = rk a + rk b
theorem Rk.nn {α : Type} {E : α → Prop} {le : α → α → Bool} {jn mt : α → α → α} {bot : α} {rk : α → Int} (R : Rk E le jn mt bot rk) (J : Jl E le jn bot) {a : α} (ha : E a) : 0 ≤ rk a := by
 rw [← R.bot0]; exact R.mono _ _ J.bmem ha (J.bot a ha)
def RkV (l : Lat) : Prop := Rk (fun v => Y8 l v = true) (leqV l) (Wh l) (Ws l) (botV l) (rkI l)
theorem Yh5 {k lo hi : Int} {ns : List ByteArray} {ps : List Lat} {rs : List Rl} (h : rkdR (.mk k lo hi ns ps rs) = true) : ∀ p ∈ ps, rkdR p = true := by
 rw [rkdR, Z3] at h
 exact Zl9 ps h.2
section
variable {k lo hi : Int} {ns : List ByteArray} {ps : List Lat} {rs : List Rl}
theorem meet_else {a b : Val} (hk : k = 1 ∨ k = 2 ∨ k = 3 ∨ k = 7 ∧ Zh6 a.parts b.parts = false) : Ws (.mk k lo hi ns ps rs) a b = if leqV (.mk k lo hi ns ps rs) a b then a else if leqV (.mk k lo hi ns ps rs) b a then b else Wx := by
 rw [Ws, if_neg (by omega), if_neg (by omega), if_neg (by omega), if_neg (fun h => by
  rcases hk with e | e | e | e
  · omega
  · omega
  · omega
  · rw [e.2] at h; exact absurd h.2 (by decide))]
theorem rk_n (hk : k = 1 ∨ k = 2 ∨ k = 3) (hlo : lo ≤ hi) : RkV (.mk k lo hi ns ps rs) := by
 have J := jl_n (ns := ns) (ps := ps) (rs := rs) hk hlo
 have T := tot_n (lo := lo) (hi := hi) (ns := ns) (ps := ps) (rs := rs) hk
 have hr : ∀ v, rkI (.mk k lo hi ns ps rs) v = if k = 1 then v.n else if k = 2 then v.n - lo else hi - v.n := fun v => by
  rw [rkI]
  rcases hk with h | h | h <;> subst h <;> rfl
 have hle : ∀ a b : Val, leqV (.mk k lo hi ns ps rs) a b = true → rkI (.mk k lo hi ns ps rs) a ≤ rkI (.mk k lo hi ns ps rs) b := fun a b h => by
  rw [hr, hr]
  rcases hk with e | e | e <;> subst e
  · rw [Jk (.inl rfl), decide_eq_true_eq] at h; simpa using h
  · rw [Jk (.inr rfl), decide_eq_true_eq] at h; simp; omega
  · rw [leqV_3, decide_eq_true_eq] at h; simp; omega
 have hm : ∀ a b, Y8 (.mk k lo hi ns ps rs) a = true → Y8 (.mk k lo hi ns ps rs) b = true → Ws (.mk k lo hi ns ps rs) a b = if leqV (.mk k lo hi ns ps rs) a b = true then a else b := fun a b ha hb => by
  rw [meet_else (by omega)]
  split
  · rfl
  · rename_i h; rw [if_pos ((T a b ha hb).resolve_left h)]
 refine ⟨?_, fun a b ha hb => ?_, fun a b _ _ h => hle a b h, fun a b ha hb h e => ?_, fun a b ha hb => ?_⟩
 · rw [hr, botV]
   rcases hk with h | h | h <;> subst h <;> simp [Val.n, Wx]
 · rw [hm a b ha hb]; split <;> assumption
 · rw [hr, hr] at e
   rw [Zz8 hk] at ha hb
   rw [← ha.2, ← hb.2]
   have : a.n = b.n := by
    rcases hk with h | h | h <;> subst h <;> simp at e <;> omega
   rw [this]
 · rw [hm a b ha hb]
   by_cases h : leqV (.mk k lo hi ns ps rs) a b = true
   · rw [if_pos h, J.of_le ha hb h]; omega
   · rw [if_neg h, J.of_ge ha hb ((T a b ha hb).resolve_left h)]
end
theorem Zq5 {α : Type} (p : α → Bool) : ∀ l : List α, (l.filter p).length + (l.filter fun x => !p x).length = l.length
 | [] => rfl
 | x :: t => by
  have := Zq5 p t
  rw [Zt, Zt]
  cases p x <;> simp <;> omega
theorem union_len {a b : List ByteArray} (ha : a.Pairwise ltS) (hb : b.Pairwise ltS) : (Wv a b).length + (Ze6 a b).length = a.length + b.length := by
 have nd : ∀ {l : List ByteArray}, l.Pairwise ltS → l.Nodup := fun h => h.imp fun h e => by rw [e] at h; exact Um _ h
 have e1 : Ze6 a b = Ze6 b a := Wi (ha.filter _) (hb.filter _) fun c => by rw [Zx2, Zx2, and_comm]
 have hp : (Wv a b).Perm (a ++ minS b a) := (List.perm_ext_iff_of_nodup (nd (Xc a b)) (List.nodup_append.2 ⟨nd ha, nd (show (minS b a).Pairwise ltS from hb.filter _), fun x hx y hy e => (Up.1 hy).2 (e ▸ hx)⟩)).2 fun x => by
  rw [Yp, List.mem_append, Up]
  by_cases h : x ∈ a <;> simp [h]
 have h1 := hp.length_eq
 rw [Zg] at h1
 have h2 := Zq5 (fun s => hasS a s) b
 have h3 : (Ze6 b a).length + (minS b a).length = b.length := h2
 rw [e1]; omega
theorem Ye7 {a b : List ByteArray} (ha : a.Pairwise ltS) (hb : b.Pairwise ltS) (h : ∀ x ∈ a, x ∈ b) : a.length ≤ b.length ∧ (a.length = b.length → a = b) := by
 have e1 : Ze6 b a = a := Wi (hb.filter _) ha fun c => by rw [Zx2]; exact ⟨fun h => h.2, fun hc => ⟨h c hc, hc⟩⟩
 have h2 : (Ze6 b a).length + (minS b a).length = b.length := Zq5 (fun s => hasS a s) b
 rw [e1] at h2
 refine ⟨by omega, fun e => Wi ha hb fun c => ⟨h c, fun hc => Classical.byContradiction fun hn => ?_⟩⟩
 have : c ∈ minS b a := Up.2 ⟨hc, hn⟩
 rw [Z8.1 (show (minS b a).length = 0 by omega)] at this
 cases this
theorem rk_set {lo hi : Int} {ns : List ByteArray} {ps : List Lat} {rs : List Rl} : RkV (.mk 4 lo hi ns ps rs) := by
 have hr : ∀ v, rkI (.mk 4 lo hi ns ps rs) v = v.names.length := fun v => by rw [rkI]; rfl
 have hm : ∀ a b, Ws (.mk 4 lo hi ns ps rs) a b = .mk 0 (Ze6 a.names b.names) [] [] := fun a b => by rw [Ws, if_pos (.inl rfl)]
 have hs : ∀ {v}, Y8 (.mk 4 lo hi ns ps rs) v = true → v.names.Pairwise ltS := fun h => (Ym.1 (Zy0.1 h).2).1
 refine ⟨by rw [hr, Ym3 (by decide) (by decide) (by decide) (by decide)]; rfl, fun a b ha hb => ?_, fun a b ha hb h => ?_, fun a b ha hb h e => ?_, fun a b ha hb => ?_⟩
 · rw [hm]; exact Zy0.2 ⟨⟨rfl, rfl, rfl⟩, Zh9 _ (Zy0.1 ha).2⟩
 · rw [Vy (.inl rfl), Yd] at h
   rw [hr, hr]
   have := (Ye7 (hs ha) (hs hb) h).1
   omega
 · rw [Vy (.inl rfl), Yd] at h
   rw [hr, hr] at e
   have := (Ye7 (hs ha) (hs hb) h).2 (by omega)
   rw [← Zz7.2 (Zy0.1 ha).1, ← Zz7.2 (Zy0.1 hb).1, this]
 · rw [hr, hr, hr, hr, hm, Yj7]
   have := union_len (hs ha) (hs hb)
   show (((Wv a.names b.names).length : Nat) : Int) + ((Ze6 a.names b.names).length : Nat) = _
   omega
theorem Yg7 {α : Type} {f g : α → Int} : ∀ {l : List α}, (∀ x ∈ l, f x ≤ g x) → (l.map f).sum ≤ (l.map g).sum ∧ ((l.map f).sum = (l.map g).sum → ∀ x ∈ l, f x = g x)
 | [], _ => ⟨Int.le_refl _, fun _ x hx => by cases hx⟩
 | y :: t, h => by
  have h1 := h y (by simp)
  have ih := Yg7 (l := t) (f := f) (g := g) fun x hx => h x (by simp [hx])
  rw [Z5, Z5, Ze, Ze]
  refine ⟨by omega, fun e x hx => ?_⟩
  rcases List.mem_cons.1 hx with rfl | hx
  · omega
  · exact ih.2 (by omega) x hx
theorem sum_add {α : Type} {f g f' g' : α → Int} : ∀ {l : List α}, (∀ x ∈ l, f x + g x = f' x + g' x) → (l.map f).sum + (l.map g).sum = (l.map f').sum + (l.map g').sum
 | [], _ => rfl
 | y :: t, h => by
  have h1 := h y (by simp)
  have ih := sum_add (l := t) (f := f) (g := g) (f' := f') (g' := g') fun x hx => h x (by simp [hx])
  simp only [Z5, Ze]
  omega
theorem Yc6 {α : Type} {f : α → Int} {p : α → Bool} : ∀ {l : List α}, (∀ x ∈ l, p x = false → f x = 0) → (l.map f).sum = ((l.filter p).map f).sum
 | [], _ => rfl
 | y :: t, h => by
  have ih := Yc6 (l := t) (f := f) (p := p) fun x hx => h x (by simp [hx])
  rw [Zt, Z5, Ze]
  cases hp : p y
  · rw [h y (by simp) hp, ih]; simp
  · simp only [if_true, Z5, Ze, ih]
theorem J4 {only : List ByteArray} {E : Val → Prop} {bot v : Val} {rk : Val → Int} (h0 : rk bot = 0) (hv : MapE only E bot v) {U : List ByteArray} (hU : U.Pairwise ltS) (hs : ∀ s ∈ v.names, s ∈ U) : (v.parts.map rk).sum = (U.map fun s => rk ((getM v s).getD bot)).sum := by
 have e1 : v.parts.map rk = v.names.map fun s => rk ((getM v s).getD bot) := List.ext_getElem (by rw [Z4, Z4]; exact hv.2.1.symm) fun i h1 h2 => by
  rw [Z4] at h1 h2
  rw [List.getElem_map, List.getElem_map]
  have : getM v v.names[i] = some v.parts[i] := Uu hv.sorted (by rw [List.mem_iff_getElem]; exact ⟨i, by rw [List.length_zip]; omega, by rw [List.getElem_zip]⟩)
  rw [this]; rfl
 have e2 : U.filter (hasS v.names) = v.names := Wi (hU.filter _) hv.sorted fun c => by
  rw [List.mem_filter, Yu]; exact ⟨fun h => h.2, fun h => ⟨hs c h, h⟩⟩
 rw [e1, Yc6 (l := U) (p := hasS v.names) fun x _ hx => ?_, e2]
 have : getM v x = none := (Jw hv.2.1).2 fun q => by rw [(Yu _ _).2 q] at hx; cases hx
 rw [this]; exact h0
theorem rk_map {lo hi : Int} {ns : List ByteArray} {p : Lat} {rs : List Rl} (J : JlV p) (R : RkV p) : RkV (.mk 5 lo hi ns [p] rs) := by
 have hr : ∀ v, rkI (.mk 5 lo hi ns [p] rs) v = (v.parts.map (rkI p)).sum := fun v => by rw [rkI, if_neg (by decide), if_neg (by decide), if_neg (by decide), if_neg (by decide), if_pos rfl, rkMap]
 have hm : ∀ a b, Ws (.mk 5 lo hi ns [p] rs) a b = Jd (botV p) (Ws p) a b := fun a b => by rw [Ws, if_neg (by decide), if_pos rfl, meetMap]
 have hg : ∀ {a b}, MapE ns (fun v => Y8 p v = true) (botV p) a → ∀ s, getM (Jd (botV p) (Ws p) a b) s = (getM a s).bind fun v => (getM b s).bind fun w => if Ws p v w = botV p then none else some (Ws p v w) := fun {a b} ha s => by
  have hz := Zk7 ha.2.1
  have := Jm (g := fun s v => (getM b s).bind fun w => if valC (Ws p v w) (botV p) = 0 then none else some (Ws p v w)) (l := a.names.zip a.parts) (s := s) (by rw [hz.1]; exact ha.sorted)
  rw [hz.1, hz.2] at this
  simp only [Yq] at this
  unfold Jd
  simp only [Yq]
  exact this
 have hmm : ∀ {a b}, MapE ns (fun v => Y8 p v = true) (botV p) a → MapE ns (fun v => Y8 p v = true) (botV p) b → MapE ns (fun v => Y8 p v = true) (botV p) (Jd (botV p) (Ws p) a b) := fun {a b} ha hb => by
  have hz := Zk7 ha.2.1
  have hsub : ∀ l : List (ByteArray × Val), ((l.filterMap fun x => ((getM b x.1).bind fun w => if valC (Ws p x.2 w) (botV p) = 0 then none else some (Ws p x.2 w)).map fun d => (x.1, d)).map Prod.fst).Sublist (l.map Prod.fst) := fun l => by
   induction l with
   | nil => exact .slnil
   | cons x t ih =>
    rw [List.filterMap_cons]
    split
    · exact ih.cons _
    · rename_i y h
      obtain ⟨d, _, rfl⟩ := Zv.1 h
      exact ih.cons_cons _
  have hk : (Jd (botV p) (Ws p) a b).names.Sublist a.names := by
   have := hsub (a.names.zip a.parts)
   rw [hz.1] at this; exact this
  refine ⟨⟨rfl, rfl⟩, by show (List.map _ _).length = (List.map _ _).length; rw [Z4, Z4], Ym.2 ⟨ha.sorted.sublist hk, fun x hx => (Ym.1 ha.2.2.1).2 x (hk.subset hx)⟩, fun d hd => ?_⟩
  obtain ⟨x, hx, rfl⟩ := List.mem_map.1 hd
  obtain ⟨y, hy, hxy⟩ := List.mem_filterMap.1 hx
  obtain ⟨d, hd1, rfl⟩ := Zv.1 hxy
  obtain ⟨w, hw, h1⟩ := Zu.1 hd1
  split at h1
  · cases h1
  · rename_i h2
    cases h1
    exact ⟨R.mem _ _ (ha.2.2.2 _ (List.of_mem_zip (show (y.1, y.2) ∈ _ from hy)).2).1 (hb.get hw).1, fun e => h2 ((Yq _ _).2 e)⟩
 have hat : ∀ {v}, MapE ns (fun v => Y8 p v = true) (botV p) v → ∀ s, Y8 p ((getM v s).getD (botV p)) = true := fun hv s => by
  cases h : getM _ s with
  | none => exact J.bmem
  | some w => exact (hv.get h).1
 have hpt : ∀ {a b}, MapE ns (fun v => Y8 p v = true) (botV p) a → MapE ns (fun v => Y8 p v = true) (botV p) b → Zj7 (leqV p) a b = true → ∀ s, leqV p ((getM a s).getD (botV p)) ((getM b s).getD (botV p)) = true := fun {a b} ha hb h s => by
  cases hv : getM a s with
  | none => exact J.bot _ (hat hb s)
  | some v =>
   obtain ⟨w, hw, h1⟩ := (Yz ha.sorted).1 h s v hv
   rw [hw]; exact h1
 refine ⟨by rw [hr, Ym3 (by decide) (by decide) (by decide) (by decide)]; rfl, fun a b ha hb => ?_, fun a b ha hb h => ?_, fun a b ha hb h e => ?_, fun a b ha hb => ?_⟩
 · rw [hm]; exact Xp.2 (hmm (Xp.1 ha) (Xp.1 hb))
 · rw [Xp] at ha hb
   rw [Zn9] at h
   rw [hr, hr, J4 R.bot0 ha (Xc a.names b.names) fun s hs => Yp.2 (.inl hs), J4 R.bot0 hb (Xc a.names b.names) fun s hs => Yp.2 (.inr hs)]
   exact (Yg7 fun s _ => R.mono _ _ (hat ha s) (hat hb s) (hpt ha hb h s)).1
 · rw [Xp] at ha hb
   rw [Zn9] at h
   rw [hr, hr, J4 R.bot0 ha (Xc a.names b.names) fun s hs => Yp.2 (.inl hs), J4 R.bot0 hb (Xc a.names b.names) fun s hs => Yp.2 (.inr hs)] at e
   have hq := (Yg7 fun s _ => R.mono _ _ (hat ha s) (hat hb s) (hpt ha hb h s)).2 e
   refine ha.ext hb fun s => ?_
   have hone : ∀ s ∈ Wv a.names b.names, (getM a s).getD (botV p) = (getM b s).getD (botV p) := fun s hs => R.strict _ _ (hat ha s) (hat hb s) (hpt ha hb h s) (hq s hs)
   cases hv : getM a s with
   | some v =>
    obtain ⟨w, hw, _⟩ := (Yz ha.sorted).1 h s v hv
    have := hone s (Yp.2 (.inl ((Wo ha.2.1).1 ⟨v, hv⟩)))
    rw [hv, hw] at this
    rw [hw]; exact congrArg some this
   | none =>
    cases hw : getM b s with
    | none => rfl
    | some w =>
     have := hone s (Yp.2 (.inr ((Wo hb.2.1).1 ⟨w, hw⟩)))
     rw [hv, hw] at this
     exact absurd this.symm (hb.get hw).2
 · rw [Xp] at ha hb
   have hj := (Xp (lo := lo) (hi := hi) (rs := rs)).1 ((jl_map J).mem a b (Xp.2 ha) (Xp.2 hb))
   rw [Zx8] at hj
   have hmt := hmm ha hb
   have hk : ∀ s ∈ (Jd (botV p) (Ws p) a b).names, s ∈ Wv a.names b.names := fun s hs => by
    obtain ⟨v, hv⟩ := (Wo hmt.2.1).2 hs
    rw [show getL _ _ s = getM (Jd (botV p) (Ws p) a b) s from rfl, hg ha] at hv
    obtain ⟨w, hw, _⟩ := Zu.1 hv
    exact Yp.2 (.inl ((Wo ha.2.1).1 ⟨w, hw⟩))
   rw [hm, Zx8, hr, hr, hr, hr, J4 R.bot0 ha (Xc a.names b.names) fun s hs => Yp.2 (.inl hs), J4 R.bot0 hb (Xc a.names b.names) fun s hs => Yp.2 (.inr hs),
    J4 R.bot0 hj (Xc a.names b.names) fun s hs => hs, J4 R.bot0 hmt (Xc a.names b.names) hk]
   refine sum_add fun s _ => ?_
   rw [Jv (Wh p) ha hb, hg ha]
   cases hv : getM a s with
   | none =>
    cases hw : getM b s with
    | none => rfl
    | some w => show rkI p w + rkI p (botV p) = rkI p (botV p) + rkI p w; omega
   | some v =>
    cases hw : getM b s with
    | none => show rkI p v + rkI p (botV p) = rkI p v + rkI p (botV p); rfl
    | some w =>
     have hz : ((some v).bind fun v => (some w).bind fun w => if Ws p v w = botV p then none else some (Ws p v w)).getD (botV p) = Ws p v w := by
      show (if Ws p v w = botV p then none else some (Ws p v w)).getD (botV p) = _
      split
      · rename_i h; exact h.symm
      · rfl
     rw [hz]
     exact R.val v w (ha.get hv).1 (hb.get hw).1
theorem rk_parts : ∀ {ps : List Lat}, (∀ p ∈ ps, RkV p) → Rk (PsE ps) (leqs ps) (Zj9 ps) (meets ps) (ps.map botV) (Xv ps)
 | [], _ => ⟨by rw [Xv], fun a b _ _ => (by rw [meets]; exact Wl.2 rfl), fun a b ha hb _ => (by rw [Wl.1 ha, Wl.1 hb]; exact Int.le_refl _), fun a b ha hb _ _ => (Wl.1 ha).trans (Wl.1 hb).symm, fun a b ha hb => (by rw [Wl.1 ha, Wl.1 hb, Zj9, meets])⟩
 | p :: ps, H => by
  have R := H p (by simp)
  have S := rk_parts (ps := ps) fun q hq => H q (by simp [hq])
  refine ⟨by rw [Z5, Xv, R.bot0, S.bot0]; rfl, fun a b ha hb => ?_, fun a b ha hb x => ?_, fun a b ha hb x e => ?_, fun a b ha hb => ?_⟩
  all_goals
   obtain ⟨v, t, rfl, h1, h2⟩ := Yg.1 ha
   obtain ⟨v', t', rfl, h1', h2'⟩ := Yg.1 hb
  · rw [meets]; exact Yg.2 ⟨_, _, rfl, R.mem _ _ h1 h1', S.mem _ _ h2 h2'⟩
  · rw [leqs, Z3] at x
    rw [Xv, Xv]
    have := R.mono _ _ h1 h1' x.1
    have := S.mono _ _ h2 h2' x.2
    omega
  · rw [leqs, Z3] at x
    rw [Xv, Xv] at e
    have i1 := R.mono _ _ h1 h1' x.1
    have i2 := S.mono _ _ h2 h2' x.2
    rw [R.strict _ _ h1 h1' x.1 (by omega), S.strict _ _ h2 h2' x.2 (by omega)]
  · rw [Zj9, meets, Xv, Xv, Xv, Xv]
    have := R.val _ _ h1 h1'
    have := S.val _ _ h2 h2'
    omega
theorem rk_prod {lo hi : Int} {ns : List ByteArray} {ps : List Lat} {rs : List Rl} (H : ∀ p ∈ ps, RkV p) : RkV (.mk 6 lo hi ns ps rs) := by
 have S := rk_parts H
 have hr : ∀ v, rkI (.mk 6 lo hi ns ps rs) v = Xv ps v.parts := fun v => by rw [rkI]; rfl
 have hm : ∀ a b, Ws (.mk 6 lo hi ns ps rs) a b = .mk 0 [] (meets ps a.parts b.parts) [] := fun a b => by rw [Ws, if_neg (by decide), if_neg (by decide), if_pos rfl]
 refine ⟨by rw [hr, bot67 (.inl rfl)]; exact S.bot0, fun a b ha hb => ?_, fun a b ha hb h => ?_, fun a b ha hb h e => ?_, fun a b ha hb => ?_⟩
 all_goals rw [el67 (.inl rfl)] at ha hb
 · rw [hm]; exact (el67 (.inl rfl)).2 ⟨S.mem _ _ ha.1 hb.1, rfl⟩
 · rw [Zn8] at h; rw [hr, hr]; exact S.mono _ _ ha.1 hb.1 h
 · rw [Zn8] at h; rw [hr, hr] at e
   rw [← ha.2, ← hb.2, S.strict _ _ ha.1 hb.1 h e]
 · rw [hr, hr, hr, hr, hm, Yj6]; exact S.val _ _ ha.1 hb.1
theorem triv_bot (f : Nat) : ∀ l : Lat, SizeOf.sizeOf l ≤ f → WfL l → V4 l = true → ∀ v, Y8 l v = true → v = botV l := by
 induction f with
 | zero => intro l hn; cases l; simp at hn
 | succ f ih =>
  intro l hn hwf ht v hv
  have hk := hwf.kinds
  have hpart : ∀ p ∈ l.parts, V4 p = true → ∀ v, Y8 p v = true → v = botV p := fun p hp => ih p (by have := Yb hp; omega) (hwf.part hp)
  obtain ⟨k, lo, hi, ns, ps, rs⟩ := l
  simp only [Lat.kind, Lat.names, Lat.parts, Lat.rules] at hk hpart
  rw [V4] at ht
  by_cases h23 : k = 2 ∨ k = 3
  · rw [if_pos h23, decide_eq_true_eq] at ht
    have h1 := (Zz8 (by omega)).1 hv
    rw [if_neg (by omega), if_neg (by omega)] at h1
    rw [← h1.2, show v.n = lo by omega, botV]
    rcases h23 with rfl | rfl
    · rfl
    · rw [ht]; rfl
  rw [if_neg h23] at ht
  by_cases h567 : k = 5 ∨ k = 6 ∨ k = 7
  · rw [if_pos h567, Zg0] at ht
    by_cases h5 : k = 5
    · subst h5
      obtain ⟨p, rfl⟩ := Zh.1 (hk.2.1 rfl)
      have hv' := Xp.1 hv
      have hn : v.parts = [] := List.eq_nil_iff_forall_not_mem.2 fun x hx => (hv'.2.2.2 x hx).2 (hpart p (by simp) (ht p (by simp)) x (hv'.2.2.2 x hx).1)
      rw [Ym3 (by decide) (by decide) (by decide) (by decide)]
      exact val_ext hv'.1.1 (Z8.1 (by rw [hv'.2.1, hn]; rfl)) hn hv'.1.2
    · have h67 : k = 6 ∨ k = 7 := by omega
      have hv' := (el67 h67).1 hv
      rw [bot67 h67, ← hv'.2]
      congr 1
      have key : ∀ (qs : List Lat) (vs : List Val), (∀ q ∈ qs, ∀ v, Y8 q v = true → v = botV q) → PsE qs vs → vs = qs.map botV := by
       intro qs
       induction qs with
       | nil => intro vs _ h; exact Wl.1 h
       | cons q t it =>
        intro vs H h
        obtain ⟨x, y, rfl, h1, h2⟩ := Yg.1 h
        rw [Z5, ← H q (by simp) x h1, ← it y (fun q hq => H q (by simp [hq])) h2]
      exact key ps v.parts (fun p hp => hpart p hp (ht p hp)) hv'.1
  · rw [if_neg h567] at ht; cases ht
theorem top_great (f : Nat) : ∀ l : Lat, SizeOf.sizeOf l ≤ f → WfL l → rkdR l = true → finB l = true → ∀ v, Y8 l v = true → leqV l v (topV l).1 = true := by
 induction f with
 | zero => intro l hn; cases l; simp at hn
 | succ f ih =>
  intro l hn hwf hr hf v hv
  have hk := hwf.kinds
  have hpart : ∀ p ∈ l.parts, rkdR p = true → finB p = true → ∀ v, Y8 p v = true → leqV p v (topV p).1 = true := fun p hp => ih p (by have := Yb hp; omega) (hwf.part hp)
  have hw : ∀ p ∈ l.parts, WfL p := fun p hp => hwf.part hp
  have hna := hwf.named
  have hc := hwf.chain
  obtain ⟨k, lo, hi, ns, ps, rs⟩ := l
  simp only [Lat.kind, Lat.names, Lat.parts, Lat.rules] at hk hpart hna hw hc
  have hrs := Yh5 hr
  rw [rkdR, Z3] at hr
  have hf0 := hf
  rw [finB, Z3] at hf
  have hfs := Zz0 ps hf.2
  have hr1 := hr.1
  have hf1 := hf.1
  have hkk : k = 1 ∨ k = 2 ∨ k = 3 ∨ k = 4 ∨ k = 5 ∨ (k = 6 ∨ k = 7) ∨ k = 8 ∨ k = 9 ∨ k = 10 := by omega
  have hT : ∀ p ∈ ps, Y8 p (topV p).1 = true := fun p hp => J3 _ p (Z0 _) (hw p hp) (Vu _ p (Z0 _) (hw p hp) (hrs p hp) (hfs p hp))
  rcases hkk with rfl | rfl | rfl | rfl | rfl | h67 | rfl | rfl | rfl
  · rw [Jk (.inl rfl), show topV (.mk 1 lo hi ns ps rs) = (.mk 1 [] [] [], true) by rw [topV]; rfl, decide_eq_true_eq]
    have := (isE_1.1 hv).1
    show v.n ≤ 1; omega
  · rw [Jk (.inr rfl), show topV (.mk 2 lo hi ns ps rs) = (.mk hi [] [] [], true) by rw [topV]; rfl, decide_eq_true_eq]
    exact ((Zy1 (.inl rfl)).1 hv).1.2
  · rw [leqV_3, show topV (.mk 3 lo hi ns ps rs) = (.mk lo [] [] [], true) by rw [topV]; rfl, decide_eq_true_eq]
    exact ((Zy1 (.inr rfl)).1 hv).1.1
  · rw [Vy (.inl rfl), show topV (.mk 4 lo hi ns ps rs) = (.mk 0 ns [] [], decide (0 < ns.length)) by rw [topV]; rfl, Yd]
    simp at hf1
    exact fun x hx => ((Ym.1 (Zy0.1 hv).2).2 x hx).2.resolve_left hf1
  · obtain ⟨p, rfl⟩ := Zh.1 (hk.2.1 rfl)
    have J := (hw p (by simp)).jl
    have hv' := Xp.1 hv
    rw [Zn9, show topV (.mk 5 lo hi ns [p] rs) = Ve ns [p] by rw [topV]; rfl, Yz hv'.sorted]
    intro s w hsw
    have hw1 := hpart p (by simp) (hrs p (by simp)) (hfs p (by simp)) w (hv'.get hsw).1
    have hs : s ∈ ns := by
     have h1 : s ∈ v.names := (Wo hv'.2.1).1 ⟨w, hsw⟩
     simp at hf1
     exact ((Ym.1 hv'.2.2.1).2 s h1).2.resolve_left hf1
    rw [Ve]
    cases ht : V4 p
    · rw [if_neg (by decide), if_neg (fun h => by
       rcases h with h | h
       · rw [Vu _ p (Z0 _) (hw p (by simp)) (hrs p (by simp)) (hfs p (by simp))] at h; cases h
       · simp at hf1; exact hf1 (Z8.1 h))]
      refine ⟨(topV p).1, ?_, hw1⟩
      show getL ns (List.replicate ns.length (topV p).1) s = _
      have e : List.replicate ns.length (topV p).1 = ns.map fun _ => (topV p).1 := by rw [List.map_const']
      rw [e, Yk6, if_pos ((Yu _ _).2 hs)]
    · exfalso
      exact (hv'.get hsw).2 ((triv_bot _ p (Z0 _) (hw p (by simp)) ht) w (hv'.get hsw).1)
  · have e : (topV (.mk k lo hi ns ps rs)) = if Zd4 ps then (.mk 0 [] (Yb4 ps) [], true) else (Wx, false) := by rcases h67 with rfl | rfl <;> (rw [topV]; rfl)
    have ho : Zd4 ps = true := (Uo ps).2 fun p hp => Vu _ p (Z0 _) (hw p hp) (hrs p hp) (hfs p hp)
    rw [e, if_pos ho, Za6]
    have hv' := (el67 h67).1 hv
    rcases h67 with rfl | rfl
    · rw [Zn8]
      show leqs ps v.parts (ps.map fun p => (topV p).1) = true
      have key : ∀ (qs : List Lat) (vs : List Val), (∀ q ∈ qs, ∀ v, Y8 q v = true → leqV q v (topV q).1 = true) → PsE qs vs → leqs qs vs (qs.map fun p => (topV p).1) = true := by
       intro qs
       induction qs with
       | nil => intro vs _ _; rw [leqs]
       | cons q t it =>
        intro vs H h
        obtain ⟨x, y, rfl, h1, h2⟩ := Yg.1 h
        rw [Z5, leqs, H q (by simp) x h1, it y (fun q hq => H q (by simp [hq])) h2]; rfl
      exact key ps v.parts (fun p hp => hpart p hp (hrs p hp) (hfs p hp)) hv'.1
    · obtain ⟨p, q, rfl, hch⟩ := hc rfl
      have hx := el_7.1 hv
      rw [← hx.2]
      show leqV _ _ (ofP ((topV p).1, (topV q).1)) = true
      rw [Xg]
      split
      · exact hpart q (by simp) (hrs q (by simp)) (hfs q (by simp)) _ hx.1.2
      · exact hpart p (by simp) (hrs p (by simp)) (hfs p (by simp)) _ hx.1.1
  · simp at hr1
  · simp at hr1
  · simp at hr1
theorem rk_lex {lo hi : Int} {ns : List ByteArray} {p q : Lat} {rs : List Rl} (hp : WfL p) (hq : WfL q) (tot : TotV p) (R : RkV p) (S : RkV q) (hr : rkdR (.mk 7 lo hi ns [p, q] rs) = true) : RkV (.mk 7 lo hi ns [p, q] rs) := by
 have J := hp.jl
 have J' := hq.jl
 have hfq : finB q = true := by
  rw [rkdR, Z3] at hr
  simpa [Uv] using hr.1
 have hrq := Yh5 hr q (by simp)
 have hT : ∀ v, Y8 q v = true → rkI q v ≤ rkI q (topV q).1 := fun v hv => S.mono _ _ hv (J3 _ q (Z0 _) hq (Vu _ q (Z0 _) hq hrq hfq)) (top_great _ q (Z0 _) hq hrq hfq v hv)
 have hrk : ∀ x : Val × Val, rkI (.mk 7 lo hi ns [p, q] rs) (ofP x) = rkI p x.1 * (rkI q (topV q).1 + 1) + rkI q x.2 := fun x => by
  rw [rkI, if_neg (by decide), if_neg (by decide), if_neg (by decide), if_neg (by decide), if_neg (by decide), if_neg (by decide), if_pos (by rfl)]
  show Zw2 [p, q] [x.1, x.2] = _
  rw [Zw2, Zw1]
 have hlt : ∀ x y : Val × Val, Y8 p x.1 = true → Y8 q x.2 = true → Y8 p y.1 = true → Y8 q y.2 = true → leqV p x.1 y.1 = true → x.1 ≠ y.1 → rkI (.mk 7 lo hi ns [p, q] rs) (ofP x) < rkI (.mk 7 lo hi ns [p, q] rs) (ofP y) := fun x y x1 x2 y1 y2 h hn => by
  rw [hrk, hrk]
  have h1 := R.mono _ _ x1 y1 h
  have h2 : rkI p x.1 ≠ rkI p y.1 := fun e => hn (R.strict _ _ x1 y1 h e)
  have h3 := hT x.2 x2
  have h4 := S.nn J' y2
  have h5 := S.nn J' x2
  have h6 : (rkI p x.1 + 1) * (rkI q (topV q).1 + 1) ≤ rkI p y.1 * (rkI q (topV q).1 + 1) := Zj (by omega) (by omega)
  rw [Int.add_mul] at h6
  omega
 have hm : ∀ x y : Val × Val, Y8 p x.1 = true → Y8 p y.1 = true → Ws (.mk 7 lo hi ns [p, q] rs) (ofP x) (ofP y) = ofP (if x.1 = y.1 then (x.1, Ws q x.2 y.2) else if leqV (.mk 7 lo hi ns [p, q] rs) (ofP x) (ofP y) = true then x else y) := fun x y hx hy => by
  have hh : Zh6 (ofP x).parts (ofP y).parts = decide (x.1 = y.1) := by
   show decide (valC x.1 y.1 = 0) = _
   simp only [Yq]
  by_cases h : x.1 = y.1
  · rw [Ws, if_neg (by decide), if_neg (by decide), if_neg (by decide), if_pos ⟨rfl, by rw [hh, decide_eq_true h]⟩, if_pos h]
    show Val.mk 0 [] (meetLex [p, q] [x.1, x.2] [y.1, y.2]) [] = _
    rw [meetLex, meetLex2]; rfl
  · rw [meet_else (.inr (.inr (.inr ⟨rfl, by rw [hh, decide_eq_false h]⟩))), if_neg h]
    by_cases h2 : leqV (.mk 7 lo hi ns [p, q] rs) (ofP x) (ofP y) = true
    · rw [if_pos h2, if_pos h2]
    · have h3 : leqV (.mk 7 lo hi ns [p, q] rs) (ofP y) (ofP x) = true := by
       rw [Xg, if_neg h] at h2
       rw [Xg, if_neg (show ¬ y.1 = x.1 from fun e => h e.symm)]
       exact (tot _ _ hx hy).resolve_left h2
      rw [if_neg h2, if_pos h3, if_neg h2]
 refine ⟨?_, fun a b ha hb => ?_, fun a b ha hb h => ?_, fun a b ha hb h e => ?_, fun a b ha hb => ?_⟩
 · rw [bot67 (.inr rfl)]
   show rkI _ (ofP (botV p, botV q)) = 0
   rw [hrk, R.bot0, S.bot0, Zi]; rfl
 all_goals
  obtain ⟨x, rfl⟩ : ∃ x, a = ofP x := ⟨_, (el_7.1 ha).2.symm⟩
  obtain ⟨y, rfl⟩ : ∃ y, b = ofP y := ⟨_, (el_7.1 hb).2.symm⟩
  have hx : Y8 p x.1 = true ∧ Y8 q x.2 = true := (el_7.1 ha).1
  have hy : Y8 p y.1 = true ∧ Y8 q y.2 = true := (el_7.1 hb).1
 · rw [hm x y hx.1 hy.1]
   refine el_7.2 ⟨?_, rfl⟩
   show Y8 p (ite _ _ _ : Val × Val).1 = true ∧ Y8 q (ite _ _ _ : Val × Val).2 = true
   split
   · exact ⟨hx.1, S.mem _ _ hx.2 hy.2⟩
   · split
     · exact hx
     · exact hy
 · rw [Xg] at h
   by_cases e : x.1 = y.1
   · rw [if_pos e] at h
     rw [hrk, hrk, e]
     have := S.mono _ _ hx.2 hy.2 h
     omega
   · rw [if_neg e] at h
     exact Int.le_of_lt (hlt x y hx.1 hx.2 hy.1 hy.2 h e)
 · rw [Xg] at h
   by_cases e' : x.1 = y.1
   · rw [if_pos e'] at h
     rw [hrk, hrk, e'] at e
     have := S.strict _ _ hx.2 hy.2 h (by omega)
     rw [show x = y from Prod.ext e' this]
   · rw [if_neg e'] at h
     have := hlt x y hx.1 hx.2 hy.1 hy.2 h e'
     omega
 · rw [Ze5 tot hx.1 hy.1, hm x y hx.1 hy.1]
   by_cases e : x.1 = y.1
   · rw [if_pos e, if_pos e, hrk, hrk, hrk, hrk, e]
     have := S.val _ _ hx.2 hy.2
     show _ * _ + rkI q (Wh q x.2 y.2) + (_ * _ + rkI q (Ws q x.2 y.2)) = _
     omega
   · rw [if_neg e, if_neg e]
     split <;> omega
theorem rkV (f : Nat) : ∀ l : Lat, SizeOf.sizeOf l ≤ f → WfL l → rkdR l = true → RkV l := by
 induction f with
 | zero => intro l hn; cases l; simp at hn
 | succ f ih =>
  intro l hn hwf hr
  have hk := hwf.kinds
  have hp : ∀ p ∈ l.parts, rkdR p = true → RkV p := fun p hp => ih p (by have := Yb hp; omega) (hwf.part hp)
  have hw : ∀ p ∈ l.parts, WfL p := fun p hp => hwf.part hp
  have hc := hwf.chain
  have hg := hwf.ranges
  have hlo : l.lo ≤ l.hi := by
   have := of_decide_eq_false hg
   omega
  obtain ⟨k, lo, hi, ns, ps, rs⟩ := l
  simp only [Lat.kind, Lat.lo, Lat.hi, Lat.names, Lat.parts, Lat.rules] at hk hp hw hc hlo
  have hrs := Yh5 hr
  have hr1 := hr
  rw [rkdR, Z3] at hr1
  have hr2 := hr1.1
  have hkk : (k = 1 ∨ k = 2 ∨ k = 3) ∨ k = 4 ∨ k = 5 ∨ k = 6 ∨ k = 7 ∨ k = 8 ∨ k = 9 ∨ k = 10 := by omega
  rcases hkk with h | rfl | rfl | rfl | rfl | rfl | rfl | rfl
  · exact rk_n h hlo
  · exact rk_set
  · obtain ⟨p, rfl⟩ := Zh.1 (hk.2.1 rfl)
    exact rk_map (hw p (by simp)).jl (hp p (by simp) (hrs p (by simp)))
  · exact rk_prod fun p hp' => hp p hp' (hrs p hp')
  · obtain ⟨p, q, rfl, h1⟩ := hc rfl
    exact rk_lex (hw p (by simp)) (hw q (by simp)) (Zv0 _ p (Z0 _) h1) (hp p (by simp) (hrs p (by simp))) (hp q (by simp) (hrs q (by simp))) hr
  · simp at hr2
  · simp at hr2
  · simp at hr2
theorem WfL.rk {l : Lat} (h : WfL l) (hr : rkdR l = true) : RkV l := rkV _ l (Z0 _) h hr
end
section
section
variable {α : Type} {E : α → Prop} {le : α → α → Bool} {jn : α → α → α} {bot : α} {q : Prop} {df : α → α → α}
end
section
variable {l : Lat} (hwf : WfL l) {a b c : Val} (ha : Y8 l a = true) (hb : Y8 l b = true) (hc : Y8 l c = true)
include hwf ha hb
include hc
end
end
section
def atV (p : Lat) (v : Val) (s : ByteArray) : Val := (getM v s).getD (botV p)
section
variable {k lo hi : Int} {ns : List ByteArray} {ps : List Lat} {rs : List Rl} {p : Lat} {a b : Val}
end
/-! Decompositions in the order of values. -/
def insV (c : Val) : List Val → List Val
 | [] => [c]
 | y :: t => if 0 < valC c y then y :: insV c t else c :: y :: t
def srtV (L : List Val) : List Val := L.foldr insV []
def leC (x y : Val) : Prop := ¬ valC y x < 0
def errF (l : Lat) (L : List Val) : Int := if chkE l ≠ 0 then 1 else if L.all (Y8 l) then 0 else 4
theorem errF_ok {l : Lat} {L : List Val} : errF l L = 0 ↔ chkE l = 0 ∧ ∀ v ∈ L, Y8 l v = true := by
 unfold errF
 by_cases h : chkE l = 0
 · rw [if_neg (fun q => q h)]
   cases ha : L.all (Y8 l)
   · rw [if_neg (by decide)]
     constructor
     · intro q; exact absurd q (by decide)
     · intro q; rw [Z6.2 q.2] at ha; cases ha
   · rw [if_pos rfl]; exact ⟨fun _ => ⟨h, Z6.1 ha⟩, fun _ => rfl⟩
 · rw [if_pos h]
   exact ⟨fun q => absurd q (by decide), fun q => absurd q.1 h⟩
end
section
attribute [local irreducible] on aOp
attribute [local go_sem] decide_true decide_false Zn Za
attribute [local simp] byD_len
theorem Does.borrow2 {P : Program} {G : Nat → D} {h : List Ob} (hG : ∀ g, low 0 (G g)) {f : FuncId} {y : D} {i E k n : Nat} {rows : List (List D)} {x : Value} (hi : h[i]? = some (.buf E k rows)) (hn : rows.length = n) (la : low 0 y) (lr : low 0 (.sl k rows)) (q : Does P G f [] [y, .sl k rows] (fun h' r => h' = [] ∧ r = .v x)) : Does P G f h [y, .buf i n] (fun h' r => h' = h ∧ r = .v x) := fun w hd p vs ok ha => by
 rw [rdL] at ha
 obtain ⟨u, t, rfl, hy, ha⟩ := ha
 rw [rdL] at ha
 obtain ⟨u2, t2, rfl, hu, ht⟩ := ha
 obtain ⟨p', o', ev, cv⟩ := ok.give (fun j => j == i)
 have hr := cv _ _ hu
 have e : cvD (fun j => j == i) h (.buf i n) = .sl k rows := by simp [cvD, cv1, hi, hn]
 rw [e] at hr
 have hy2 := ev.rdL ok (show rdL hd h (only p w) [y] [u] by rw [rdL]; exact ⟨u, [], rfl, hy, by rw [rdL]⟩)
 have ht2 := ev.rdL ok ht
 have o2 := o'.take (m := 0) (fun x hx => by simp at hx) hG
 have r1 := Zi8 (m := 0) o'.len _ _ lr hr
 have r2 := V5 (m := 0) o'.len _ _ (show lowL 0 ([] : List D) by rw [lowL]; trivial) ht2
 have r3 := V5 (m := 0) o'.len _ _ (show lowL 0 [y] by rw [lowL, lowL]; exact ⟨la, trivial⟩) hy2
 simp only [List.take_zero] at o2 r1 r2 r3
 rw [rdL] at r3
 obtain ⟨_, _, e3, r3, _⟩ := r3
 cases e3
 refine (q w [] p' (u :: u2 :: t2) o2 (by rw [rdL]; exact ⟨u, _, rfl, r3, by rw [rdL]; exact ⟨u2, t2, rfl, r1, r2⟩⟩)).mono ?_
 rintro e w' ⟨v, hd', h', r, p2, rfl, ⟨rfl, rfl⟩, ok2, hr2, ev2⟩
 rw [rd] at hr2; subst hr2
 obtain ⟨o3, ev3⟩ := ok.kept ev2.os ev2.tape ev2.output ev2.size fun b hb => ev2.keep b hb fun ⟨j, ob, u, q, _⟩ => by simp at q
 exact ⟨_, hd, h, .v _, p, rfl, ⟨rfl, rfl⟩, o3, by rw [rd], ev3⟩
def Zd7 (v : Val) (m : Int) : Int := if (U1 v : Int) ≤ m then m - U1 v else -1
theorem nodesN_eq (v : Val) : U1 v = 1 + v.names.length + v.entries.length + Yk v.parts + (v.entries.map fun e => e.clock.length).sum := by
 cases v; rw [U1]; rfl
theorem Ju (l : List Val) : low 0 (.sl 4 (l.map vaX)) := by
 rw [low, Zn4]
 intro row hr
 obtain ⟨x, _, rfl⟩ := List.mem_map.1 hr
 exact Ys 0 x
variable (G : Nat → D) (hG : ∀ g, low 0 (G g))
include hG
attribute [local go_sem] Bool.false_eq_true Zb Zw Zx Zo List.cons_append List.getElem?_cons_succ List.getElem?_cons_zero Zg List.length_cons Z4 List.length_nil List.nil_append List.set_cons_succ List.set_cons_zero Zq Zr Zk Zl Zs
attribute [local go_sem ↓] reduceIte
theorem rValid_d (l : Lat) (hsm : Sm l) (v : Val) (hv : VSm v) (h : List Ob) : Does Z7 G 39 h [.agg (latX l), .agg (vaX v)] (fun h' r => h' = h ∧ r = .v (.bool (Yc2 l v))) := by
 refine Ya G hG (by simp only [lowL, low]; exact ⟨Yy _ l, Ys _ v, trivial⟩) (by rw [low]; trivial) ?_ h
 clear h
 have hck := Yi5 G hG l hsm
 simp only [Y4 l] at hck
 unfold Yc2
 refine Y5 Tryz.func39 rfl (Z2 rfl) hG fun hl0 _ => ?_
 simp only [Tryz.ntmps39]
 by_cases hc : chkE l = 0
 rotate_left
 · rw [decide_eq_false hc, Y0]
   have F : _ ∧ _ ∧ _ := ⟨Y4 l, Y6 v, hc⟩
   repeat' first
    | refine g0 ?_
    | (with_reducible refine Y7 ?_; refine gc rfl rfl rfl ent_38 (hck _) ?_)
   exact ⟨.inr rfl, endV hl0 rfl rfl ⟨rfl, rfl⟩⟩
 rw [hc] at hck
 have hel := relement_d G hG _ l v (Z0 _) (Zf4 hc) hsm hv
 simp only [Y4 l, Y6 v] at hel
 rw [decide_eq_true hc, Zf]
 generalize Y8 l v = bb at *
 have F : _ ∧ _ := ⟨Y4 l, Y6 v⟩
 repeat' first
  | refine g0 ?_
  | (with_reducible refine Y7 ?_; first | refine gc rfl rfl rfl ent_38 (hck _) ?_ | refine gc rfl rfl rfl Yf2 (hel _) ?_)
 exact ⟨.inr rfl, endV hl0 rfl rfl ⟨rfl, rfl⟩⟩
theorem icheck_d (l : Lat) (hsm : Sm l) (L : List Val) (hL : ∀ v ∈ L, VSm v) (hl : L.length ≤ 1000000) (h : List Ob) : Does Z7 G 40 h [.agg (latX l), .sl 4 (L.map vaX)] (fun h' r => h' = h ∧ r = .v (.int .i64 (errF l L))) := by
 refine Ya G hG (by simp only [lowL]; exact ⟨by rw [low]; exact Yy _ l, Ju L, trivial⟩) (by rw [low]; trivial) ?_ h
 clear h
 have hck := check_d G hG l hsm
 simp only [Y4 l] at hck
 unfold errF
 refine Y5 Tryz.func40 rfl (Z2 rfl) hG fun hl0 _ => ?_
 simp only [Tryz.ntmps40]
 by_cases hc : chkE l = 0
 rotate_left
 · rw [if_pos hc]
   have F : _ ∧ _ := ⟨Y4 l, hc⟩
   repeat' first
    | refine g0 ?_
    | (with_reducible refine Y7 ?_; refine gc rfl rfl rfl ent_79 (hck _) ?_)
   all_goals first | (exfalso; omega) | exact ⟨.inr rfl, endD (r := .v (.int .i64 1)) hl0 rfl (by simp) (by simp) rfl (by rw [low]; trivial) ⟨rfl, rfl⟩⟩
 rw [if_neg (fun q => q hc)]
 rw [hc] at hck
 have hva : ∀ v, VSm v → ∀ h, Does Z7 G 80 h [.agg (latX l), .agg (vaX v)] (fun h' r => h' = h ∧ r = .v (.bool (Y8 l v))) := fun v hv h => by
  have := valid_v G hG l hsm v hv h
  unfold Yc2 at this
  rw [decide_eq_true hc, Zf] at this
  exact this
 simp only [Y4 l] at hva
 have F := Y4 l
 repeat' first
  | refine g0 ?_
  | (with_reducible refine Y7 ?_; refine gc rfl rfl rfl ent_79 (hck _) ?_)
 refine Yh (fun m e h' => ∃ (k : Nat) (T : List Ob), k ≤ L.length ∧ m = L.length - k ∧ L.all (Y8 l) = (L.drop k).all (Y8 l) ∧ h' = .cells (latX l) :: T ∧ e 2 = .ptr 0 0 ∧ e 10 = .sl 4 (L.map vaX) ∧ e 11 = .v (.int .i64 L.length) ∧ e 12 = .v (.int .i64 k)) L.length ⟨0, [], Zp _, rfl, rfl, by rw [Y4 l], rfl, rfl, rfl, rfl⟩ ?_
 rintro m e h' ⟨k, T, hk, rfl, ho, rfl, e2, e10, e11, e12⟩
 by_cases hlt : k < L.length
 · have hx : L[k]? = some L[k] := Z1 hlt
   have hd : L.drop k = L[k] :: L.drop (k + 1) := Zd hlt
   have hvx := hva _ (hL _ (Zc hlt))
   generalize L[k] = x at hx hd hvx
   have wk : IntKind.i64.wrap ((k : Int) + 1) = (k : Int) + 1 := IntWalk.i64_in _ (by omega)
   rw [hd, List.all_cons] at ho
   simp only [Y6 x] at hvx
   cases hb : Y8 l x
   · rw [hb] at hvx ho
     rw [ho]
     have F : _ ∧ _ ∧ _ ∧ _ ∧ _ ∧ _ ∧ _ := ⟨e2, e10, e11, e12, Y4 l, Y6 x, wk⟩
     repeat' first
      | refine gg ?_
      | refine Two.mk (fun hq => ?_) fun hq => ?_
      | (with_reducible refine Y7 ?_; refine gc rfl rfl rfl ent_80 (hvx _) ?_)
      | (exfalso; omega)
     exact ⟨.inr rfl, endD (r := .v (.int .i64 4)) hl0 rfl (by simp) (by simp) rfl (by rw [low]; trivial) ⟨rfl, rfl⟩⟩
   · rw [hb] at hvx ho
     have F : _ ∧ _ ∧ _ ∧ _ ∧ _ ∧ _ ∧ _ := ⟨e2, e10, e11, e12, Y4 l, Y6 x, wk⟩
     repeat' first
      | refine gg ?_
      | refine Two.mk (fun hq => ?_) fun hq => ?_
      | (with_reducible refine Y7 ?_; refine gc rfl rfl rfl ent_80 (hvx _) ?_)
      | (exfalso; omega)
     exact ⟨rfl, L.length - (k + 1), by omega, k + 1, _, hlt, rfl, ho, by rw [Y4 l], e2, e10, e11, rfl⟩
 · have ho : L.all (Y8 l) = true := by rw [ho, List.drop_eq_nil_of_le (by omega)]; rfl
   rw [ho]
   have F : _ ∧ _ ∧ _ ∧ _ := ⟨e2, e10, e11, e12⟩
   repeat' first
    | refine gg ?_
    | refine Two.mk (fun hq => ?_) fun hq => ?_
    | refine Evry.mk fun x hx => ?_
    | (exfalso; omega)
   all_goals exact ⟨.inr rfl, endD (r := .v (.int .i64 0)) hl0 rfl (by simp) (by simp) rfl (by rw [low]; trivial) ⟨rfl, rfl⟩⟩
theorem fault_d (l : Lat) (hsm : Sm l) (L : List Val) (hL : ∀ v ∈ L, VSm v) (hl : L.length ≤ 1000000) (h : List Ob) : Does Z7 G 17 h [.agg (latX l), .sl 4 (L.map vaX)] (fun h' r => h' = h ∧ r = .v (.int .i64 (errF l L))) := by
 refine Ya G hG (by simp only [lowL]; exact ⟨by rw [low]; exact Yy _ l, Ju L, trivial⟩) (by rw [low]; trivial) ?_ h
 clear h
 have hck := Yi5 G hG l hsm
 simp only [Y4 l] at hck
 unfold errF
 refine Y5 Tryz.func17 rfl (Z2 rfl) hG fun hl0 _ => ?_
 simp only [Tryz.ntmps17]
 by_cases hc : chkE l = 0
 rotate_left
 · rw [if_pos hc]
   have F : _ ∧ _ := ⟨Y4 l, hc⟩
   repeat' first
    | refine g0 ?_
    | (with_reducible refine Y7 ?_; refine gc rfl rfl rfl ent_38 (hck _) ?_)
   all_goals first | (exfalso; omega) | exact ⟨.inr rfl, endD (r := .v (.int .i64 1)) hl0 rfl (by simp) (by simp) rfl (by rw [low]; trivial) ⟨rfl, rfl⟩⟩
 rw [if_neg (fun q => q hc)]
 rw [hc] at hck
 have hva : ∀ v, VSm v → ∀ h, Does Z7 G 39 h [.agg (latX l), .agg (vaX v)] (fun h' r => h' = h ∧ r = .v (.bool (Y8 l v))) := fun v hv h => by
  have := rValid_d G hG l hsm v hv h
  unfold Yc2 at this
  rw [decide_eq_true hc, Zf] at this
  exact this
 simp only [Y4 l] at hva
 have F := Y4 l
 repeat' first
  | refine g0 ?_
  | (with_reducible refine Y7 ?_; refine gc rfl rfl rfl ent_38 (hck _) ?_)
 refine Yh (fun m e h' => ∃ (k : Nat), k ≤ L.length ∧ m = L.length - k ∧ L.all (Y8 l) = (L.drop k).all (Y8 l) ∧ h' = [.cells (latX l)] ∧ e 1 = .sl 4 (L.map vaX) ∧ e 2 = .ptr 0 0 ∧ e 5 = .v (.int .i64 k)) L.length ⟨0, Zp _, rfl, rfl, by rw [Y4 l], rfl, rfl, rfl⟩ ?_
 rintro m e h' ⟨k, hk, rfl, ho, rfl, e1, e2, e5⟩
 by_cases hlt : k < L.length
 · have hx : L[k]? = some L[k] := Z1 hlt
   have hd : L.drop k = L[k] :: L.drop (k + 1) := Zd hlt
   have hvx := hva _ (hL _ (Zc hlt))
   generalize L[k] = x at hx hd hvx
   have wk : IntKind.i64.wrap ((k : Int) + 1) = (k : Int) + 1 := IntWalk.i64_in _ (by omega)
   rw [hd, List.all_cons] at ho
   simp only [Y6 x] at hvx
   cases hb : Y8 l x
   · rw [hb] at hvx ho
     rw [ho]
     have F : _ ∧ _ ∧ _ ∧ _ ∧ _ ∧ _ := ⟨e1, e2, e5, Y4 l, Y6 x, wk⟩
     repeat' first
      | (with_reducible refine Yf ?_; refine Y9 mixd (by kernel_rfl) ?_)
      | refine gg ?_
      | refine Two.mk (fun hq => ?_) fun hq => ?_
      | (with_reducible refine Xf ?_; refine aq2 rfl rfl rfl ent_39 (hvx _) ?_)
      | (exfalso; omega)
     all_goals first | (exfalso; omega) | exact ⟨.inr rfl, endD (r := .v (.int .i64 4)) hl0 rfl (by simp) (by simp) rfl (by rw [low]; trivial) ⟨rfl, rfl⟩⟩
   · rw [hb] at hvx ho
     have F : _ ∧ _ ∧ _ ∧ _ ∧ _ ∧ _ := ⟨e1, e2, e5, Y4 l, Y6 x, wk⟩
     repeat' first
      | (with_reducible refine Yf ?_; refine Y9 mixd (by kernel_rfl) ?_)
      | refine gg ?_
      | refine Two.mk (fun hq => ?_) fun hq => ?_
      | (with_reducible refine Xf ?_; refine aq2 rfl rfl rfl ent_39 (hvx _) ?_)
      | (exfalso; omega)
     all_goals first | (exfalso; omega) | exact ⟨rfl, L.length - (k + 1), by omega, k + 1, hlt, rfl, ho, by rw [Y4 l], e1, e2, rfl⟩
 · have ho : L.all (Y8 l) = true := by rw [ho, List.drop_eq_nil_of_le (by omega)]; rfl
   rw [ho]
   have F : _ ∧ _ ∧ _ := ⟨e1, e2, e5⟩
   repeat' first
    | (with_reducible refine Yf ?_; refine Y9 mixd (by kernel_rfl) ?_)
    | refine gg ?_
    | refine Two.mk (fun hq => ?_) fun hq => ?_
    | (exfalso; omega)
   all_goals exact ⟨.inr rfl, endD (r := .v (.int .i64 0)) hl0 rfl (by simp) (by simp) rfl (by rw [low]; trivial) ⟨rfl, rfl⟩⟩
end
section
attribute [local irreducible] on aOp
attribute [local go_sem] decide_true decide_false Zn Za
attribute [local simp] byD_len
def cksN (l : List En) : Nat := l.length + (l.map fun e => e.clock.length).sum
theorem cksN_take {l : List En} {k : Nat} {x : En} (hx : l[k]? = some x) : cksN (l.take (k + 1)) = cksN (l.take k) + (1 + x.clock.length) := by
 unfold cksN
 rw [List.take_add_one, hx]
 simp only [Option.toList_some, Zg, List.map_append, List.sum_append, List.length_cons, List.length_nil, Z5, List.map_nil, Ze, List.sum_nil]
 omega
theorem cksN_le (l : List En) (k : Nat) : cksN (l.take k) ≤ cksN l := by
 have : cksN l = cksN (l.take k) + cksN (l.drop k) := by
  unfold cksN
  conv => lhs; rw [← List.take_append_drop k l]
  simp only [Zg, List.map_append, List.sum_append]
  omega
 omega
theorem Zj2 : ∀ a b : List Val, Yk (a ++ b) = Yk a + Yk b
 | [], b => by rw [List.nil_append, Yk]; omega
 | x :: a, b => by rw [List.cons_append, Yk, Yk, Zj2 a b]; omega
theorem nodesNs_take {l : List Val} {k : Nat} {x : Val} (hx : l[k]? = some x) : Yk (l.take (k + 1)) = Yk (l.take k) + U1 x := by
 rw [List.take_add_one, hx, Zj2]
 simp [Yk]
theorem nodesNs_le (l : List Val) (k : Nat) : Yk (l.take k) ≤ Yk l := by
 have : Yk l = Yk (l.take k) + Yk (l.drop k) := by
  conv => lhs; rw [← List.take_append_drop k l]
  exact Zj2 _ _
 omega
variable (G : Nat → D) (hG : ∀ g, low 0 (G g))
include hG
attribute [local go_sem] Zb Zw Zx Zo Z4 Zq Zr Zk Zl Zs
attribute [local go_sem ↓] reduceIte
theorem room_d (f : Nat) : ∀ (v : Val) (m : Int), SizeOf.sizeOf v ≤ f → VSm v → 0 ≤ m → m ≤ 1000000 → ∀ h : List Ob, Does Z7 G 76 h [.agg (vaX v), .v (.int .i64 m)] (fun h' r => h' = h ∧ r = .v (.int .i64 (Zd7 v m))) := by
 induction f with
 | zero => intro v m hn; cases v; simp at hn
 | succ f ih =>
 intro v m hn hv hm0 hm1 h
 refine Ya G hG (by simp only [lowL, low]; exact ⟨Ys _ v, trivial, trivial⟩) (by rw [low]; trivial) ?_ h
 clear h
 have hT := nodesN_eq v
 have hvn := hv.names
 have hve := hv.entries
 have hvp := hv.parts
 have hsz : ∀ x ∈ v.parts, SizeOf.sizeOf x ≤ f := fun x hx => by
  obtain ⟨n, ns, ps, es⟩ := v
  have := List.sizeOf_lt_of_mem (show x ∈ ps from hx)
  simp at hn
  omega
 have hro : ∀ x ∈ v.parts, ∀ c : Int, 0 ≤ c → c ≤ 1000000 → ∀ h, Does Z7 G 76 h [.agg (vaX x), .v (.int .i64 c)] (fun h' r => h' = h ∧ r = .v (.int .i64 (Zd7 x c))) := fun x hx c c0 c1 => ih x c (hsz x hx) (hv.part x hx) c0 c1
 have hck : v.entries.length + (v.entries.map fun e => e.clock.length).sum = cksN v.entries := rfl
 refine Y5 Tryz.func76 rfl (Z2 rfl) hG fun hl0 _ => ?_
 simp only [Tryz.ntmps76]
 by_cases hbad : m < 1 ∨ m - 1 < v.names.length
 · have hr : Zd7 v m = -1 := by unfold Zd7; rw [if_neg (by omega)]
   rw [hr]
   have w1 : IntKind.i64.wrap (m - 1) = m - 1 := IntWalk.i64_in _ (by omega)
   have F : _ ∧ _ := ⟨Y6 v, w1⟩
   repeat' first
    | refine gg ?_
    | refine Two.mk (fun hq => ?_) fun hq => ?_
    | (exfalso; omega)
   all_goals first | (exfalso; omega) | exact ⟨.inr rfl, endD (r := .v (.int .i64 (-1))) hl0 rfl (by simp) (by simp) rfl (by rw [low]; trivial) ⟨rfl, rfl⟩⟩
 have w1 : IntKind.i64.wrap (m - 1) = m - 1 := IntWalk.i64_in _ (by omega)
 have w2 : IntKind.i64.wrap (1 + (v.names.length : Int)) = 1 + v.names.length := IntWalk.i64_in _ (by omega)
 have w3 : IntKind.i64.wrap (m - (1 + (v.names.length : Int))) = m - (1 + v.names.length) := IntWalk.i64_in _ (by omega)
 have F : _ ∧ _ ∧ _ ∧ _ := ⟨Y6 v, w1, w2, w3⟩
 repeat' first
  | refine gg ?_
  | refine Two.mk (fun hq => ?_) fun hq => ?_
  | (exfalso; omega)
 all_goals first | (exfalso; omega) | skip
 refine Yh (fun c e h' => ∃ (k : Nat), k ≤ v.entries.length ∧ c = v.entries.length - k ∧ h' = [.cells (vaX v)] ∧ e 2 = .ptr 0 0 ∧ 0 ≤ m - (1 + v.names.length) - cksN (v.entries.take k) ∧ e 1 = .v (.int .i64 (m - (1 + v.names.length) - cksN (v.entries.take k))) ∧ e 5 = .v (.int .i64 k)) v.entries.length ⟨0, Zp _, rfl, by rw [Y6 v], rfl, by simp [cksN]; omega, by simp [cksN, go_sem], rfl⟩ ?_
 rintro c e h' ⟨k, hk, rfl, rfl, e2, hc0, e1, e5⟩
 by_cases hlt : k < v.entries.length
 · have hx : v.entries[k]? = some v.entries[k] := Z1 hlt
   have hxm := Zc hlt
   have wk : IntKind.i64.wrap ((k : Int) + 1) = ((k + 1 : Nat) : Int) := IntWalk.i64_in _ (by omega)
   have hts := cksN_take hx
   have hle := cksN_le v.entries (k + 1)
   have hcl := (hv.ents _ hxm).1
   generalize v.entries[k] = x at hx hts hcl hxm
   generalize hC : m - (1 + (v.names.length : Int)) - cksN (v.entries.take k) = C at *
   have w4 : IntKind.i64.wrap (C - 1) = C - 1 := IntWalk.i64_in _ (by omega)
   by_cases hb2 : C < 1 ∨ C - 1 < x.clock.length
   · have hr : Zd7 v m = -1 := by unfold Zd7; rw [if_neg (by omega)]
     rw [hr]
     have F : _ ∧ _ ∧ _ ∧ _ ∧ _ ∧ _ ∧ _ := ⟨Y6 v, Zd0 x, e1, e2, e5, w4, wk⟩
     repeat' first
      | refine gg ?_
      | refine Two.mk (fun hq => ?_) fun hq => ?_
      | (exfalso; omega)
     all_goals first | (exfalso; omega) | exact ⟨.inr rfl, endD (r := .v (.int .i64 (-1))) hl0 rfl (by simp) (by simp) rfl (by rw [low]; trivial) ⟨rfl, rfl⟩⟩
   · have w5 : IntKind.i64.wrap (1 + (x.clock.length : Int)) = 1 + x.clock.length := IntWalk.i64_in _ (by omega)
     have w6 : IntKind.i64.wrap (C - (1 + (x.clock.length : Int))) = C - (1 + x.clock.length) := IntWalk.i64_in _ (by omega)
     have F : _ ∧ _ ∧ _ ∧ _ ∧ _ ∧ _ ∧ _ ∧ _ ∧ _ := ⟨Y6 v, Zd0 x, e1, e2, e5, w4, w5, w6, wk⟩
     repeat' first
      | refine gg ?_
      | refine Two.mk (fun hq => ?_) fun hq => ?_
      | (exfalso; omega)
     all_goals first | (exfalso; omega) | exact ⟨rfl, v.entries.length - (k + 1), by omega, k + 1, hlt, rfl, (by rw [Y6 v]), e2, by omega, (by show D.v (.int .i64 _) = _; congr 2; omega), rfl⟩
 obtain rfl : k = v.entries.length := by omega
 rw [List.take_length] at hc0 e1
 generalize hC : m - (1 + (v.names.length : Int)) - cksN v.entries = C at *
 have F : _ ∧ _ ∧ _ ∧ _ := ⟨Y6 v, e1, e2, e5⟩
 repeat' first
  | refine gg ?_
  | refine Two.mk (fun hq => ?_) fun hq => ?_
  | refine Evry.mk fun x hx => ?_
  | (exfalso; omega)
 all_goals first | (exfalso; omega) | skip
 refine Yh (fun c e h' => ∃ (k : Nat), k ≤ v.parts.length ∧ c = v.parts.length - k ∧ h' = [.cells (vaX v)] ∧ e 2 = .ptr 0 0 ∧ 0 ≤ C - Yk (v.parts.take k) ∧ e 1 = .v (.int .i64 (C - Yk (v.parts.take k))) ∧ e 6 = .v (.int .i64 k)) v.parts.length ⟨0, Zp _, rfl, by rw [Y6 v], e2, by simp [Yk]; omega, (by rw [List.take_zero, Yk]; simpa [go_sem] using e1), rfl⟩ ?_
 rintro c e' h' ⟨k, hk', rfl, rfl, e2, hc0, e1, e6⟩
 by_cases hlt : k < v.parts.length
 · have hx : v.parts[k]? = some v.parts[k] := Z1 hlt
   have hxm := Zc hlt
   have wk : IntKind.i64.wrap ((k : Int) + 1) = ((k + 1 : Nat) : Int) := IntWalk.i64_in _ (by omega)
   have hts := nodesNs_take hx
   have hle := nodesNs_le v.parts (k + 1)
   generalize v.parts[k] = x at hx hts hxm
   have hrx := hro x hxm (C - Yk (v.parts.take k)) (by omega) (by omega)
   simp only [Y6 x] at hrx
   by_cases hb2 : C - Yk (v.parts.take k) < U1 x
   · have hr : Zd7 v m = -1 := by unfold Zd7; rw [if_neg (by omega)]
     rw [hr]
     have hr2 : Zd7 x (C - Yk (v.parts.take k)) = -1 := by unfold Zd7; rw [if_neg (by omega)]
     rw [hr2] at hrx
     have F : _ ∧ _ ∧ _ ∧ _ ∧ _ ∧ _ := ⟨Y6 v, Y6 x, e1, e2, e6, wk⟩
     repeat' first
      | refine gg ?_
      | refine Two.mk (fun hq => ?_) fun hq => ?_
      | (with_reducible refine Y7 ?_; refine gc rfl rfl rfl ent_76 (hrx _) ?_)
      | (exfalso; omega)
     all_goals first | (exfalso; omega) | exact ⟨.inr rfl, endD (r := .v (.int .i64 (-1))) hl0 rfl (by simp) (by simp) rfl (by rw [low]; trivial) ⟨rfl, rfl⟩⟩
   · have hr2 : Zd7 x (C - Yk (v.parts.take k)) = C - Yk (v.parts.take (k + 1)) := by unfold Zd7; rw [if_pos (by omega)]; omega
     rw [hr2] at hrx
     have F : _ ∧ _ ∧ _ ∧ _ ∧ _ ∧ _ := ⟨Y6 v, Y6 x, e1, e2, e6, wk⟩
     repeat' first
      | refine gg ?_
      | refine Two.mk (fun hq => ?_) fun hq => ?_
      | (with_reducible refine Y7 ?_; refine gc rfl rfl rfl ent_76 (hrx _) ?_)
      | (exfalso; omega)
     all_goals first | (exfalso; omega) | exact ⟨rfl, v.parts.length - (k + 1), by omega, k + 1, hlt, rfl, (by rw [Y6 v]), e2, by omega, rfl, rfl⟩
 obtain rfl : k = v.parts.length := by omega
 rw [List.take_length] at hc0 e1
 have hr : Zd7 v m = C - Yk v.parts := by unfold Zd7; rw [if_pos (by omega)]; omega
 rw [hr]
 have F : _ ∧ _ ∧ _ ∧ _ := ⟨Y6 v, e1, e2, e6⟩
 repeat' first
  | refine gg ?_
  | refine Two.mk (fun hq => ?_) fun hq => ?_
  | refine Evry.mk fun x hx => ?_
  | (exfalso; omega)
 all_goals first | (exfalso; omega) | exact ⟨.inr rfl, endV hl0 rfl rfl ⟨rfl, rfl⟩⟩
theorem rSmall_d (v : Val) (hv : VSm v) (m : Int) (hm0 : 0 ≤ m) (hm1 : m ≤ 1000000) (h : List Ob) : Does Z7 G 37 h [.agg (vaX v), .v (.int .i64 m)] (fun h' r => h' = h ∧ r = .v (.bool (decide ((U1 v : Int) ≤ m)))) := by
 refine Ya G hG (by simp only [lowL, low]; exact ⟨Ys _ v, trivial, trivial⟩) (by rw [low]; trivial) ?_ h
 clear h
 have hro := room_d G hG _ v m (Z0 _) hv hm0 hm1
 have hd : decide ((U1 v : Int) ≤ m) = decide (0 ≤ Zd7 v m) := by
  unfold Zd7; split <;> simp <;> omega
 rw [hd]
 simp only [Y6 v] at hro
 generalize Zd7 v m = R at *
 refine Y5 Tryz.func37 rfl (Z2 rfl) hG fun hl0 _ => ?_
 simp only [Tryz.ntmps37]
 have F := Y6 v
 repeat' first
  | refine gg ?_
  | refine Two.mk (fun hq => ?_) fun hq => ?_
  | (with_reducible refine Y7 ?_; refine gc rfl rfl rfl ent_76 (hro _) ?_)
 all_goals first | (exfalso; omega) | exact ⟨.inr rfl, endD (r := .v (.bool _)) hl0 rfl (by simp) (by simp) rfl (by rw [low]; trivial) ⟨rfl, by first | rfl | simp_all⟩⟩
end
section
attribute [local irreducible] on aOp
attribute [local go_sem] decide_true decide_false Zn Za
attribute [local simp] byD_len
def Zr2 (L : List Val) : Bool := L.all fun v => decide ((U1 v : Int) ≤ 40)
variable (G : Nat → D) (hG : ∀ g, low 0 (G g))
include hG
attribute [local go_sem] Bool.false_eq_true Zb Zw Zx Zo Z4 Zq Zr Zk Zl Zs
attribute [local go_sem ↓] reduceIte
theorem small12_d (L : List Val) (hL : ∀ v ∈ L, VSm v) (hl : L.length ≤ 1000000) (h : List Ob) : Does Z7 G 16 h [.sl 4 (L.map vaX)] (fun h' r => h' = h ∧ r = .v (.bool (Zr2 L))) := by
 refine Ya G hG (by simp only [lowL]; exact ⟨Ju L, trivial⟩) (by rw [low]; trivial) ?_ h
 clear h
 refine Y5 Tryz.func16 rfl (Z2 rfl) hG fun hl0 _ => ?_
 simp only [Tryz.ntmps16]
 repeat' first
  | refine g0 ?_
  | fail
 refine Yh (fun m e h' => ∃ (k : Nat), k ≤ L.length ∧ m = L.length - k ∧ Zr2 L = Zr2 (L.drop k) ∧ h' = [] ∧ e 0 = .sl 4 (L.map vaX) ∧ e 3 = .v (.int .i64 k)) L.length ⟨0, Zp _, rfl, rfl, rfl, rfl, rfl⟩ ?_
 rintro m e h' ⟨k, hk, rfl, ho, rfl, e0, e3⟩
 by_cases hlt : k < L.length
 · have hx : L[k]? = some L[k] := Z1 hlt
   have hd : L.drop k = L[k] :: L.drop (k + 1) := Zd hlt
   have hvx := rSmall_d G hG _ (hL _ (Zc hlt)) 40 (by decide) (by decide)
   generalize L[k] = x at hx hd hvx
   have wk : IntKind.i64.wrap ((k : Int) + 1) = ((k + 1 : Nat) : Int) := IntWalk.i64_in _ (by omega)
   have ho' : Zr2 L = (decide ((U1 x : Int) ≤ 40) && Zr2 (L.drop (k + 1))) := by rw [ho, hd]; rfl
   simp only [Y6 x] at hvx
   cases hb : decide ((U1 x : Int) ≤ 40)
   · rw [hb] at hvx ho'
     rw [ho', Y0]
     have F : _ ∧ _ ∧ _ ∧ _ := ⟨Y6 x, e0, e3, wk⟩
     repeat' first
      | refine gg ?_
      | refine Two.mk (fun hq => ?_) fun hq => ?_
      | (with_reducible refine Y7 ?_; refine gc rfl rfl rfl ent_37 (hvx _) ?_)
      | (exfalso; omega)
     all_goals first | (exfalso; omega) | exact ⟨.inr rfl, endD (r := .v (.bool false)) hl0 rfl (by simp) (by simp) rfl (by rw [low]; trivial) ⟨rfl, rfl⟩⟩
   · rw [hb] at hvx ho'
     rw [Zf] at ho'
     have F : _ ∧ _ ∧ _ ∧ _ := ⟨Y6 x, e0, e3, wk⟩
     repeat' first
      | refine gg ?_
      | refine Two.mk (fun hq => ?_) fun hq => ?_
      | (with_reducible refine Y7 ?_; refine gc rfl rfl rfl ent_37 (hvx _) ?_)
      | (exfalso; omega)
     all_goals first | (exfalso; omega) | exact ⟨rfl, L.length - (k + 1), by omega, k + 1, hlt, rfl, ho', rfl, e0, rfl⟩
 obtain rfl : k = L.length := by omega
 have hd : L.drop L.length = [] := List.drop_length
 rw [ho, hd]
 have F : _ ∧ _ := ⟨e0, e3⟩
 repeat' first
  | refine gg ?_
  | refine Two.mk (fun hq => ?_) fun hq => ?_
  | refine Evry.mk fun x hx => ?_
  | (exfalso; omega)
 all_goals first | (exfalso; omega) | exact ⟨.inr rfl, endD (r := .v (.bool true)) hl0 rfl (by simp) (by simp) rfl (by rw [low]; trivial) ⟨rfl, rfl⟩⟩
end
section
attribute [local irreducible] on aOp
attribute [local go_sem] decide_true decide_false Zn Za
attribute [local simp] byD_len
theorem mul_big {a b : Int} (ha : 0 < a) (h : ov / a < b) : min (a * b) ov = ov := by
 have h1 : ov < b * a := (Int.ediv_lt_iff_lt_mul ha).1 h
 rw [Int.mul_comm]
 generalize b * a = x at *
 unfold ov at *; omega
theorem mul_small {a b : Int} (ha : 0 < a) (hb : 0 ≤ b) (h : ¬ ov / a < b) : a * b ≤ ov ∧ 0 ≤ a * b := by
 have h1 : b * a ≤ ov := (Int.le_ediv_iff_mul_le ha).1 (by omega)
 rw [Int.mul_comm]
 exact ⟨h1, Int.mul_nonneg hb (by omega)⟩
theorem sat_mul {a b : Int} (ha : 0 ≤ a) (hb : 0 ≤ b) : min (min a ov * min b ov) ov = min (a * b) ov := by
 by_cases h1 : a ≤ ov
 · by_cases h2 : b ≤ ov
   · rw [Zy h1, Zy h2]
   · rw [Zy h1, show min b ov = ov by omega]
     rcases Int.lt_or_eq_of_le ha with h | h
     · have h3 : 1 * ov ≤ a * ov := Zj (by omega) (by decide)
       have h4 : a * ov ≤ a * b := Z9 (by omega) ha
       omega
     · rw [← h, Zi, Zi]
 · rw [show min a ov = ov by omega]
   rcases Int.lt_or_eq_of_le hb with h | h
   · have h3 : ov * 1 ≤ ov * min b ov := Z9 (by unfold ov; omega) (by decide)
     have h4 : a * 1 ≤ a * b := Z9 (by omega) ha
     omega
   · rw [← h, Int.mul_zero, show min (0 : Int) ov = 0 by unfold ov; omega, Int.mul_zero]
     unfold ov; omega
theorem chain_rkd (f : Nat) : ∀ l : Lat, SizeOf.sizeOf l ≤ f → WfL l → Xh l = true → rkdR l = true ∧ finB l = true := by
 induction f with
 | zero => intro l hn; cases l; simp at hn
 | succ f ih =>
  intro l hn hwf hc
  have hk := hwf.kinds
  rw [Vo, Zz, decide_eq_true_eq, Z3, Z3, decide_eq_true_eq, decide_eq_true_eq] at hc
  rw [Zm0, Zz1]
  rcases hc with h | ⟨⟨h7, h2⟩, h3⟩
  · have h0 : l.parts = [] := Z8.1 (hk.2.2.2.2.1 (by omega) (by omega) (by omega))
    rw [h0, decide_eq_false (show ¬ (l.kind = 9 ∨ l.kind = 8 ∨ l.kind = 10) by omega), decide_eq_false (show ¬ l.kind = 7 by omega), decide_eq_false (show ¬ l.kind = 9 by omega), decide_eq_false (show ¬ (l.kind = 4 ∨ l.kind = 8 ∨ l.kind = 5) by omega)]
    exact ⟨rfl, rfl⟩
  · rw [Z6] at h3
    have hp := fun p (hp : p ∈ l.parts) => ih p (by have := Yb hp; omega) (hwf.part hp) (h3 p hp)
    obtain ⟨p, q, hpq, _⟩ := Zl3 hwf h7
    rw [decide_eq_false (show ¬ (l.kind = 9 ∨ l.kind = 8 ∨ l.kind = 10) by omega), decide_eq_false (show ¬ l.kind = 9 by omega), decide_eq_false (show ¬ (l.kind = 4 ∨ l.kind = 8 ∨ l.kind = 5) by omega), h7]
    have hq : Uv l.parts = true := by rw [hpq]; exact (hp q (by rw [hpq]; simp)).2
    rw [hq]
    refine ⟨?_, ?_⟩
    · simp only [decide_true, Zn, Bool.and_false, Bool.or_false, Za, Zf, Z6]
      exact fun x hx => (hp x hx).1
    · simp only [Y0, Bool.or_false, Za, Zf, Z6]
      exact fun x hx => (hp x hx).2
theorem lex_parts {l : Lat} {v : Val} (hwf : WfL l) (h7 : l.kind = 7) (he : Y8 l v = true) : ∃ p q a b, l.parts = [p, q] ∧ v.parts = [a, b] ∧ Y8 p a = true ∧ Y8 q b = true ∧ Xh p = true := by
 obtain ⟨p, q, hpq, hcp⟩ := hwf.chain h7
 have hpe := (el67 (k := 7) (lo := l.lo) (hi := l.hi) (ns := l.names) (ps := l.parts) (rs := l.rules) (v := v) (.inr rfl)).1 (by rw [← h7]; cases l; exact he)
 rw [hpq] at hpe
 obtain ⟨a, t, ea, ha, hpe'⟩ := Yg.1 hpe.1
 obtain ⟨b, t2, eb, hb, hpe''⟩ := Yg.1 hpe'
 rw [Wl.1 hpe''] at eb
 exact ⟨p, q, a, b, hpq, by rw [ea, eb], ha, hb, hcp⟩
theorem rk_top7 {l p q : Lat} (hwf : WfL l) (hr : rkdR l = true) (hf : finB l = true) (h7 : l.kind = 7) (hpq : l.parts = [p, q]) : rkI l (topV l).1 + 1 = (rkI p (topV p).1 + 1) * (rkI q (topV q).1 + 1) := by
 have ho : Zd4 l.parts = true := (Uo _).2 fun x hx => Vu _ x (Z0 _) (hwf.part hx) (X0 hr x hx) (U2 hf x hx)
 rw [topV_67 (.inr h7) ho, Zw3, h7, hpq]
 show Zw2 [p, q] [(topV p).1, (topV q).1] + 1 = _
 rw [Zw2, Zw1, Int.add_mul, Int.one_mul]
 omega
variable (G : Nat → D) (hG : ∀ g, low 0 (G g))
include hG
attribute [local go_sem] Zb Zw Zx Z4 Zq Zr Zk Zl Zs not_false_eq_true
attribute [local go_sem ↓] reduceIte
theorem rsum_d (a b : Int) (ha : 0 ≤ a ∧ a ≤ ov) (hb : 0 ≤ b ∧ b ≤ ov) (h : List Ob) : Does Z7 G 58 h [.v (.int .i64 a), .v (.int .i64 b)] (fun h' r => h' = h ∧ r = .v (.int .i64 (min (a + b) ov))) := by
 have wa : IntKind.i64.wrap (a + b) = a + b := IntWalk.i64_in _ (by unfold ov at *; omega)
 rw [← min_ov]
 refine Y5 Tryz.func58 rfl (Z2 rfl) hG fun hl0 _ => ?_
 simp only [Tryz.ntmps58]
 have F := wa
 repeat' first
  | (with_reducible refine Y7 ?_; (refine ao_min rfl rfl rfl rfl ?_))
  | refine g0 ?_
  | fail
 all_goals exact ⟨.inr rfl, endV hl0 rfl rfl ⟨rfl, rfl⟩⟩
theorem rprod_d (a b : Int) (ha : 0 ≤ a ∧ a ≤ ov) (hb : 0 ≤ b ∧ b ≤ ov) (h : List Ob) : Does Z7 G 59 h [.v (.int .i64 a), .v (.int .i64 b)] (fun h' r => h' = h ∧ r = .v (.int .i64 (min (a * b) ov))) := by
 refine Y5 Tryz.func59 rfl (Z2 rfl) hG fun hl0 _ => ?_
 simp only [Tryz.ntmps59]
 by_cases hz : a = 0
 · subst hz
   rw [Zi]
   have wz : IntKind.i64.wrap (0 * b) = 0 := by rw [Zi]; exact IntWalk.i64_in _ (by decide)
   rw [← min_ov]
   repeat' first
    | (with_reducible first | refine sA rfl ?_ | refine sI rfl rfl ?_ | refine sT rfl ?_)
    | (with_reducible refine Y7 ?_; first | (refine ao_min rfl rfl rfl rfl ?_) | refine Xi ?_ | (refine ao1 rfl rfl fun K HK => ?_; (first | refine Yo rfl ?_ | skip); simp only [go_sem, wz, Zi] <;> (refine HK _ _ ?_; clear HK K)) | refine ao0 rfl rfl ?_)
   all_goals first | (exfalso; omega) | exact ⟨.inr rfl, endV hl0 rfl rfl ⟨rfl, rfl⟩⟩
 have hp : 0 < a := by omega
 have hz0 : (a == 0) = false := by rw [beq_eq_false_iff_ne]; omega
 have hdv : Int.tdiv 1000000000000001 a = ov / a := Int.tdiv_eq_ediv_of_nonneg (by decide)
 have wq : IntKind.i64.wrap (ov / a) = ov / a := IntWalk.i64_in _ (by
  have h1 : 0 ≤ ov / a := Int.ediv_nonneg (by decide) (by omega)
  have h2 : ov / a ≤ ov := Int.ediv_le_self _ (by decide)
  have h3 : ov = 1000000000000001 := rfl
  omega)
 by_cases hbig : ov / a < b
 · rw [mul_big hp hbig]
   have g2 : decide (ov / a < b) = true := decide_eq_true hbig
   have F : _ ∧ _ ∧ _ ∧ _ ∧ _ := ⟨hz, hz0, hdv, wq, g2⟩
   repeat' first
    | refine g0 ?_
    | fail
   all_goals first | (exfalso; omega) | exact ⟨.inr rfl, endD (r := .v (.int .i64 ov)) hl0 rfl (by simp) (by simp) rfl (by rw [low]; trivial) ⟨rfl, rfl⟩⟩
 · obtain ⟨s1, s2⟩ := mul_small hp hb.1 hbig
   have g2 : decide (ov / a < b) = false := decide_eq_false hbig
   obtain ⟨X, hX⟩ : ∃ X, a * b = X := ⟨_, rfl⟩
   rw [hX] at s1 s2 ⊢
   have wm : IntKind.i64.wrap X = X := IntWalk.i64_in _ (by unfold ov at s1; omega)
   rw [← min_ov]
   have F : _ ∧ _ ∧ _ ∧ _ ∧ _ ∧ _ ∧ _ := ⟨hz, hz0, hdv, wq, g2, hX, wm⟩
   repeat' first
    | (with_reducible refine Y7 ?_; (refine ao_min rfl rfl rfl rfl ?_))
    | refine g0 ?_
    | fail
   all_goals first | (exfalso; omega) | exact ⟨.inr rfl, endV hl0 rfl rfl ⟨rfl, rfl⟩⟩
theorem size_d (f : Nat) : ∀ (l : Lat), SizeOf.sizeOf l ≤ f → WfL l → Xh l = true → ∀ h : List Ob, Does Z7 G 113 h [.agg (latX l)] (fun h' r => h' = h ∧ r = .v (.int .i64 (min (rkI l (topV l).1 + 1) ov))) := by
 induction f with
 | zero => intro l hn; cases l; simp at hn
 | succ f ih =>
 intro l hn hwf hc h
 refine Ya G hG (by rw [lowL, lowL, low]; exact ⟨Yy _ l, trivial⟩) (by rw [low]; trivial) ?_ h
 clear h
 obtain ⟨hr, hf⟩ := chain_rkd _ l (Z0 _) hwf hc
 have hrg : l.lo ≤ l.hi ∧ -1000000000 ≤ l.lo ∧ l.hi ≤ 1000000000 := by
  have := of_decide_eq_false hwf.ranges
  omega
 have hc' := hc
 rw [Vo, Zz, decide_eq_true_eq, Z3, Z3, decide_eq_true_eq, decide_eq_true_eq] at hc'
 refine Y5 Tryz.func113 rfl (Z2 rfl) hG fun hl0 _ => ?_
 simp only [Tryz.ntmps113]
 rcases hc' with h123 | ⟨⟨h7, h2⟩, h3⟩
 · have ht : rkI l (topV l).1 + 1 = if l.kind = 1 then 2 else l.hi - l.lo + 1 := by
    rw [Yg5 h123, Zw3]
    rcases h123 with e | e | e <;> simp [e, Val.n]
   rw [ht]
   have ws : IntKind.i64.wrap (l.hi - l.lo) = l.hi - l.lo := IntWalk.i64_in _ (by omega)
   have ws1 : IntKind.i64.wrap (l.hi - l.lo + 1) = l.hi - l.lo + 1 := IntWalk.i64_in _ (by omega)
   rcases h123 with e | e | e
   · rw [if_pos e, show min 2 ov = 2 by unfold ov; decide]
     have F : _ ∧ _ := ⟨Y4 l, e⟩
     repeat' first
      | refine g0 ?_
      | fail
     all_goals first | (exfalso; omega) | exact ⟨.inr rfl, endD (r := .v (.int .i64 2)) hl0 rfl (by simp) (by simp) rfl (by rw [low]; trivial) ⟨rfl, rfl⟩⟩
   all_goals
    rw [if_neg (by omega), show min (l.hi - l.lo + 1) ov = l.hi - l.lo + 1 by unfold ov; omega]
    have F : _ ∧ _ ∧ _ ∧ _ := ⟨Y4 l, e, ws, ws1⟩
    repeat' first
     | refine g0 ?_
     | fail
    all_goals first | (exfalso; omega) | exact ⟨.inr rfl, endD (r := .v (.int .i64 (l.hi - l.lo + 1))) hl0 rfl (by simp) (by simp) rfl (by rw [low]; trivial) ⟨rfl, rfl⟩⟩
 · obtain ⟨p, q, hpq, _⟩ := Zl3 hwf h7
   rw [Z6] at h3
   have hx0 : l.parts[0]? = some p := by rw [hpq]; rfl
   have hx1 : l.parts[1]? = some q := by rw [hpq]; rfl
   have hl2 : l.parts.length = 2 := by rw [hpq]; rfl
   have hpm : p ∈ l.parts := by rw [hpq]; simp
   have hqm : q ∈ l.parts := by rw [hpq]; simp
   have hs0 := ih p (by have := Yb hpm; omega) (hwf.part hpm) (h3 p hpm)
   have hs1 := ih q (by have := Yb hqm; omega) (hwf.part hqm) (h3 q hqm)
   have hn0 := Zs7 _ p _ (Z0 _) (hwf.part hpm) (X0 hr p hpm) (J3 _ p (Z0 _) (hwf.part hpm) (Vu _ p (Z0 _) (hwf.part hpm) (X0 hr p hpm) (U2 hf p hpm)))
   have hn1 := Zs7 _ q _ (Z0 _) (hwf.part hqm) (X0 hr q hqm) (J3 _ q (Z0 _) (hwf.part hqm) (Vu _ q (Z0 _) (hwf.part hqm) (X0 hr q hqm) (U2 hf q hqm)))
   rw [rk_top7 hwf hr hf h7 hpq, ← sat_mul (by omega) (by omega)]
   simp only [Y4 p] at hs0
   simp only [Y4 q] at hs1
   have hpr := rprod_d G hG (min (rkI p (topV p).1 + 1) ov) (min (rkI q (topV q).1 + 1) ov) (by unfold ov; omega) (by unfold ov; omega)
   generalize min (rkI p (topV p).1 + 1) ov = A at *
   generalize min (rkI q (topV q).1 + 1) ov = B at *
   have F : _ ∧ _ ∧ _ ∧ _ ∧ _ := ⟨Y4 l, Y4 p, Y4 q, h7, hl2⟩
   repeat' first
    | (with_reducible refine Yf ?_; refine Y9 mixd (by kernel_rfl) ?_)
    | ((with_reducible refine Xf ?_); first | (refine aq1 rfl rfl fun K HK => ?_; simp only [go_sem, F]; (first | (refine ⟨by omega, ?_⟩; refine Yn (by assumption) ?_) | skip) <;> (refine HK _ _ rfl ?_; clear HK K)))
    | refine g0 ?_
    | (with_reducible refine Xf ?_; first | refine aq2 rfl rfl rfl ent_113 (hs0 _) ?_ | refine aq2 rfl rfl rfl ent_113 (hs1 _) ?_ | refine aq2 rfl rfl rfl ent_59 (hpr _) ?_)
   all_goals first | (exfalso; omega) | exact ⟨.inr rfl, endD (r := .v (.int .i64 (min (A * B) ov))) hl0 rfl (by simp) (by simp) rfl (by rw [low]; trivial) ⟨rfl, rfl⟩⟩
theorem pos_d (f : Nat) : ∀ (l : Lat) (v : Val), SizeOf.sizeOf l ≤ f → WfL l → Xh l = true → Y8 l v = true → ∀ h : List Ob, Does Z7 G 56 h [.agg (latX l), .agg (vaX v)] (fun h' r => h' = h ∧ r = .v (.int .i64 (min (rkI l v) ov))) := by
 induction f with
 | zero => intro l v hn; cases l; simp at hn
 | succ f ih =>
 intro l v hn hwf hc he h
 refine Ya G hG (by simp only [lowL, low]; exact ⟨Yy _ l, Ys _ v, trivial⟩) (by rw [low]; trivial) ?_ h
 clear h
 obtain ⟨hr, hf⟩ := chain_rkd _ l (Z0 _) hwf hc
 have hrg : l.lo ≤ l.hi ∧ -1000000000 ≤ l.lo ∧ l.hi ≤ 1000000000 := by
  have := of_decide_eq_false hwf.ranges
  omega
 have h0 := Zs7 _ l v (Z0 _) hwf hr he
 have hc' := hc
 rw [Vo, Zz, decide_eq_true_eq, Z3, Z3, decide_eq_true_eq, decide_eq_true_eq] at hc'
 refine Y5 Tryz.func56 rfl (Z2 rfl) hG fun hl0 _ => ?_
 simp only [Tryz.ntmps56]
 rcases hc' with h123 | ⟨⟨h7, h2⟩, h3⟩
 · have hvn := ((Zz8 (k := l.kind) (lo := l.lo) (hi := l.hi) (ns := l.names) (ps := l.parts) (rs := l.rules) h123).1 (by cases l; exact he)).1
   rw [Zw3]
   rcases h123 with e | e | e
   · simp only [e, if_true, if_false, Zb, reduceIte] at hvn ⊢
     rw [show min v.n ov = v.n by unfold ov; omega]
     have F : _ ∧ _ ∧ _ := ⟨Y4 l, Y6 v, e⟩
     repeat' first
      | refine g0 ?_
      | fail
     all_goals first | (exfalso; omega) | exact ⟨.inr rfl, endD (r := .v (.int .i64 v.n)) hl0 rfl (by simp) (by simp) rfl (by rw [low]; trivial) ⟨rfl, rfl⟩⟩
   · simp only [e, if_true, if_false, Zb, reduceIte] at hvn ⊢
     have ws : IntKind.i64.wrap (v.n - l.lo) = v.n - l.lo := IntWalk.i64_in _ (by omega)
     rw [show min (v.n - l.lo) ov = v.n - l.lo by unfold ov; omega]
     have F : _ ∧ _ ∧ _ ∧ _ := ⟨Y4 l, Y6 v, e, ws⟩
     repeat' first
      | refine g0 ?_
      | fail
     all_goals first | (exfalso; omega) | exact ⟨.inr rfl, endD (r := .v (.int .i64 (v.n - l.lo))) hl0 rfl (by simp) (by simp) rfl (by rw [low]; trivial) ⟨rfl, rfl⟩⟩
   · simp only [e, if_true, if_false, Zb, reduceIte] at hvn ⊢
     have ws : IntKind.i64.wrap (l.hi - v.n) = l.hi - v.n := IntWalk.i64_in _ (by omega)
     rw [show min (l.hi - v.n) ov = l.hi - v.n by unfold ov; omega]
     have F : _ ∧ _ ∧ _ ∧ _ := ⟨Y4 l, Y6 v, e, ws⟩
     repeat' first
      | refine g0 ?_
      | fail
     all_goals first | (exfalso; omega) | exact ⟨.inr rfl, endD (r := .v (.int .i64 (l.hi - v.n))) hl0 rfl (by simp) (by simp) rfl (by rw [low]; trivial) ⟨rfl, rfl⟩⟩
 · obtain ⟨p, q, a, b, hpq, hab, ha, hb, _⟩ := lex_parts hwf h7 he
   rw [Z6] at h3
   have hx0 : l.parts[0]? = some p := by rw [hpq]; rfl
   have hx1 : l.parts[1]? = some q := by rw [hpq]; rfl
   have hl2 : l.parts.length = 2 := by rw [hpq]; rfl
   have hpm : p ∈ l.parts := by rw [hpq]; simp
   have hqm : q ∈ l.parts := by rw [hpq]; simp
   have hy0 : v.parts[0]? = some a := by rw [hab]; rfl
   have hy1 : v.parts[1]? = some b := by rw [hab]; rfl
   have hv2 : v.parts.length = 2 := by rw [hab]; rfl
   have hs0 := ih p a (by have := Yb hpm; omega) (hwf.part hpm) (h3 p hpm) ha
   have hs1 := ih q b (by have := Yb hqm; omega) (hwf.part hqm) (h3 q hqm) hb
   have hsz := size_d G hG _ q (Z0 _) (hwf.part hqm) (h3 q hqm)
   have n0 := Zs7 _ p a (Z0 _) (hwf.part hpm) (X0 hr p hpm) ha
   have n1 := Zs7 _ q b (Z0 _) (hwf.part hqm) (X0 hr q hqm) hb
   have n2 := Zs7 _ q _ (Z0 _) (hwf.part hqm) (X0 hr q hqm) (J3 _ q (Z0 _) (hwf.part hqm) (Vu _ q (Z0 _) (hwf.part hqm) (X0 hr q hqm) (U2 hf q hqm)))
   rw [Zw3, h7, hpq, hab]
   show aw _ _ _ (fun e s => (e = .normal ∨ e = .ret) ∧ EndD _ _ _ (fun h' r => h' = [] ∧ r = .v (.int .i64 (min (Zw2 [p, q] [a, b]) ov))) s) _
   rw [Zw2, Zw1]
   clear hpq hab h3
   generalize rkI p a = A at *
   generalize rkI q b = B at *
   generalize rkI q (topV q).1 = T at *
   have hX : 0 ≤ A * (T + 1) := Int.mul_nonneg n0 (by omega)
   have hpr := rprod_d G hG (min A ov) (min (T + 1) ov) (by unfold ov; omega) (by unfold ov; omega)
   rw [sat_mul n0 (by omega)] at hpr
   have hsu := rsum_d G hG (min (A * (T + 1)) ov) (min B ov) (by unfold ov; omega) (by unfold ov; omega)
   rw [Zi4 hX n1] at hsu
   simp only [Y4 p, Y6 a] at hs0
   simp only [Y4 q, Y6 b] at hs1
   simp only [Y4 q] at hsz
   generalize min (A * (T + 1) + B) ov = R at *
   generalize min (A * (T + 1)) ov = M at *
   generalize min A ov = A1 at *
   generalize min B ov = B1 at *
   generalize min (T + 1) ov = T1 at *
   have F : _ ∧ _ ∧ _ ∧ _ ∧ _ ∧ _ ∧ _ ∧ _ ∧ _ := ⟨Y4 l, Y4 p, Y4 q, Y6 v, Y6 a, Y6 b, h7, hl2, hv2⟩
   repeat' first
    | (with_reducible refine Yf ?_; refine Y9 mixd (by kernel_rfl) ?_)
    | ((with_reducible refine Xf ?_); first | (refine aq1 rfl rfl fun K HK => ?_; simp only [go_sem, F]; (first | (refine ⟨by omega, ?_⟩; refine Yn (by assumption) ?_) | skip) <;> (refine HK _ _ rfl ?_; clear HK K)))
    | refine g0 ?_
    | (with_reducible refine Xf ?_; first | refine aq2 rfl rfl rfl ent_56 (hs0 _) ?_ | refine aq2 rfl rfl rfl ent_56 (hs1 _) ?_ | refine aq2 rfl rfl rfl ent_113 (hsz _) ?_ | refine aq2 rfl rfl rfl ent_59 (hpr _) ?_ | refine aq2 rfl rfl rfl ent_58 (hsu _) ?_)
   all_goals first | (exfalso; omega) | exact ⟨.inr rfl, endD (r := .v (.int .i64 R)) hl0 rfl (by simp) (by simp) rfl (by rw [low]; trivial) ⟨rfl, rfl⟩⟩
end
section
variable {P : Program} {G : Nat → D} {n : Nat} {e : Nat → D} {h : List Ob} {ops : Array Oper}
def cpF1 (ops : Array Oper) (i : Nat) (E : Ef) : Nat → List Ef → Prop
 | _, [] => True
 | j, F :: t => (Zr0 ops j i = true ∨ compF E F) ∧ cpF1 ops i E (j + 1) t
def cpFA (ops : Array Oper) : Nat → List Ef → Prop
 | _, [] => True
 | i, E :: t => cpF1 ops i E (i + 1) t ∧ cpFA ops (i + 1) t
theorem cpF1_get {i : Nat} {E : Ef} : ∀ (es : List Ef) (k j : Nat) (F : Ef), cpF1 ops i E k es → es[j]? = some F → Zr0 ops (k + j) i = true ∨ compF E F
 | [], _, _, _, _, q => by simp at q
 | F :: t, k, 0, F', q, r => by simp at r; subst r; exact q.1
 | F :: t, k, j + 1, F', q, r => by rw [show k + (j + 1) = k + 1 + j by omega]; exact cpF1_get t (k + 1) j F' q.2 (by simpa using r)
theorem cpFA_get : ∀ (es : List Ef) (k i j : Nat) (E F : Ef), cpFA ops k es → es[i]? = some E → es[j]? = some F → i < j → Zr0 ops (k + j) (k + i) = true ∨ compF E F
 | [], _, _, _, _, _, _, q, _, _ => by simp at q
 | X :: t, k, 0, j, E, F, q, r1, r2, hlt => by
  simp at r1; subst r1
  cases j with
  | zero => omega
  | succ j => rw [show k + (j + 1) = k + 1 + j by omega]; exact cpF1_get t (k + 1) j F q.1 (by simpa using r2)
 | X :: t, k, i + 1, j, E, F, q, r1, r2, hlt => by
  cases j with
  | zero => omega
  | succ j =>
   rw [show k + (j + 1) = k + 1 + j by omega, show k + (i + 1) = k + 1 + i by omega]
   exact cpFA_get t (k + 1) i j E F q.2 (by simpa using r1) (by simpa using r2) (by omega)
def afS (P : Program) (G : Nat → D) (n : Nat) (ops : Array Oper) (Q : (Nat → D) → List Ob → Prop) : List Ef → List Oper → (Nat → D) → List Ob → Prop
 | done, [], e, h => cpFA ops 0 done.reverse ∧ Q e h
 | done, o :: rest, e, h => ∃ E, YDT P G ops o E e ∧ E.ok h ∧ afS P G n ops Q (E :: done) rest (putE n e o.dst E.d) (E.heap h)
theorem afS_af {Q : (Nat → D) → List Ob → Prop} : ∀ (rest : List Oper) (done : List Ef) (e : Nat → D) (h : List Ob), afS P G n ops Q done rest e h →
 ∃ es, (∀ j, j < done.length → es[j]? = done.reverse[j]?) ∧ es.length = done.length + rest.length ∧ cpFA ops 0 es ∧ af P G n ops (fun k => (es[k]?).getD nopF) Q done.length rest e h
 | [], done, e, h, q => ⟨done.reverse, fun _ _ => rfl, by simp, q.1, q.2⟩
 | o :: rest, done, e, h, q => by
  obtain ⟨E, h1, h2, h3⟩ := q
  obtain ⟨es, g1, g2, g3, g4⟩ := afS_af rest (E :: done) _ _ h3
  have hE : es[done.length]? = some E := by
   rw [g1 _ (by simp)]; simp
  refine ⟨es, fun j hj => ?_, by simp at g2 ⊢; omega, g3, ?_⟩
  · rw [g1 j (by simp; omega), List.reverse_cons, List.getElem?_append_left (by simpa using hj)]
  · refine ⟨?_, ?_, ?_⟩
    · simp only [hE, Zm]; exact h1
    · simp only [hE, Zm]; exact h2
    · simp only [hE, Zm]
      simpa using g4
theorem aw_drawS (c : Nat) {id : Nat} {l : List Oper} {Q : Exit → S → Prop} (hm : P.follows .mixedOrders = true) (hB : Region.lexB .any l.toArray = true) (H : afS P G n l.toArray (fun e h => Q .normal ⟨n, e, h⟩) [] l e (h ++ holes c)) : aw P G (.region id l.toArray true) Q ⟨n, e, h⟩ := by
 obtain ⟨es, _, g2, g3, g4⟩ := afS_af l [] e _ H
 refine aw_holes c (aw_drawF (ef := fun k => (es[k]?).getD nopF) hm hB (fun i j oj hij hj hno hnt => ?_) g4)
 have hjl : j < es.length := by
  have := (Array.getElem?_eq_some_iff.1 hj).1
  simp at this g2; omega
 rcases cpFA_get es 0 i j _ _ g3 (Z1 (show i < es.length by omega)) (Z1 hjl) hij with hw | hc
 · exfalso
   rw [Nat.zero_add, Nat.zero_add] at hw
   unfold Zr0 at hw
   rw [hj] at hw
   have hw : twB .any l.toArray (j + 1) j i = true := hw
   rw [hnt] at hw; cases hw
 · simp only [Z1 (show i < es.length by omega), Z1 hjl, Zm]
   exact hc
def puF (d : D) : Ef := ⟨[], [], d⟩
def reF (i : Nat) (ob : Ob) (d : D) : Ef := ⟨[(i, ob)], [], d⟩
def wrF (i : Nat) (ob ob' : Ob) (d : D) : Ef := ⟨[(i, ob)], [(i, ob')], d⟩
theorem cmF_pl {d : D} {F : Ef} : compF (puF d) F := ⟨by simp [puF], by simp [puF]⟩
theorem cmF_pr {d : D} {F : Ef} : compF F (puF d) := cmF_pl.symm
theorem cmF_rr {i j : Nat} {o o' : Ob} {d d' : D} : compF (reF i o d) (reF j o' d') := ⟨by simp [reF], by simp [reF]⟩
theorem cmF_rw {i j : Nat} {o o' o'' : Ob} {d d' : D} (k : i ≠ j) : compF (reF i o d) (wrF j o' o'' d') := ⟨by simp [reF], by simp [reF, wrF]; exact Ne.symm k⟩
theorem cmF_wr {i j : Nat} {o o' o'' : Ob} {d d' : D} (k : i ≠ j) : compF (wrF j o' o'' d') (reF i o d) := (cmF_rw k).symm
theorem cmF_ww {i j : Nat} {o o' p p' : Ob} {d d' : D} (k : i ≠ j) : compF (wrF i o p d) (wrF j o' p' d') := ⟨by simp [wrF]; exact k, by simp [wrF]; exact Ne.symm k⟩
section
variable {done : List Ef} {rest : List Oper} {Q : (Nat → D) → List Ob → Prop} {t : Nat} {op : Op} {ty : TypeId} {pos : String} {aft : Array Edge} {gd : Option (Nat × Bool)}
theorem bS_nil (c : cpFA ops 0 done.reverse) (q : Q e h) : afS P G n ops Q done [] e h := ⟨c, q⟩
theorem puF_heap {d : D} : (puF d).heap h = h := by simp [puF, Ef.heap, Yv]
theorem bS_of {E : Ef} (hw : Yc ops gd e = some true) (ht : decide (t < n) = true) (hf : E.fit) (hk : E.ok h) (q : ∀ h2, E.ok h2 → OpTri P G ⟨some t, op, ty, pos, aft, gd⟩ ((opds op).map (ev G e)) h2 (fun h' d => h' = E.heap h2 ∧ d = E.d))
 (k : afS P G n ops Q (E :: done) rest (upd e t E.d) (E.heap h)) : afS P G n ops Q done (⟨some t, op, ty, pos, aft, gd⟩ :: rest) e h :=
 ⟨E, .inl ⟨hw, hf, q⟩, hk, by unfold putE; simp only [if_pos (of_decide_eq_true ht)]; exact k⟩
theorem bS1 (hw : Yc ops gd e = some true) (ht : decide (t < n) = true) (H : ∀ K : List Ob → D → Prop, (∀ h' d, h' = [] → afS P G n ops Q (puF d :: done) rest (upd e t d) h → K h' d) → aOp P G e [] K op) : afS P G n ops Q done (⟨some t, op, ty, pos, aft, gd⟩ :: rest) e h := by
 obtain ⟨d, h1, _, h2⟩ := aOp_det (H (fun h' d => h' = [] ∧ afS P G n ops Q (puF d :: done) rest (upd e t d) h) fun h' d q1 q2 => ⟨q1, q2⟩) fun h' d q => q.1
 refine bS_of (E := puF d) hw ht (by simp [puF, Ef.fit]) (by simp [puF, Ef.ok]) (fun h2 _ => ?_) (by rw [puF_heap]; exact h2)
 rw [puF_heap]
 exact Xx (o := ⟨some t, op, ty, pos, aft, gd⟩) (Ym6 h1 h2)
theorem bS_load {u : TypeId} {x : Operand} {i o : Nat} {ds : List D} {d : D} (hw : Yc ops gd e = some true) (ht : decide (t < n) = true) (hx : ev G e x = .ptr i o) (hi : h[i]? = some (.cells ds)) (hg : getD P u ds o = some d)
 (k : afS P G n ops Q (reF i (.cells ds) d :: done) rest (upd e t d) h) : afS P G n ops Q done (⟨some t, .load u x, ty, pos, aft, gd⟩ :: rest) e h := by
 have hh : ∀ h, (reF i (.cells ds) d).heap h = h := fun h => by simp [reF, Ef.heap, Yv]
 refine bS_of (E := reF i (.cells ds) d) hw ht (by simp [reF, Ef.fit]) (by simpa [reF, Ef.ok] using hi) (fun h2 kk => ?_) (by rw [hh]; exact k)
 rw [hh]
 have hi2 : h2[i]? = some (.cells ds) := kk (i, .cells ds) (by simp [reF])
 refine Xx (o := ⟨some t, .load u x, ty, pos, aft, gd⟩) ?_
 show on (Ug P h2 u (ev G e x)) _
 rw [hx]
 simp only [Ug, hi2, hg, on]
 exact ⟨trivial, rfl⟩
theorem bS_store {u : TypeId} {x y : Operand} {i o : Nat} {ds es : List D} (hw : Yc ops gd e = some true) (hx : ev G e x = .ptr i o) (hi : h[i]? = some (.cells ds)) (hy : (ev G e y).cells = some es) (hc : (es.all D.one && szT P u == some es.length) = true) (hle : o + es.length ≤ ds.length)
 (k : afS P G n ops Q (wrF i (.cells ds) (.cells (putL ds o es)) (.v undef) :: done) rest e (h.set i (.cells (putL ds o es)))) : afS P G n ops Q done (⟨none, .store u x y, ty, pos, aft, gd⟩ :: rest) e h := by
 have hh : ∀ h, (wrF i (.cells ds) (.cells (putL ds o es)) (.v undef)).heap h = h.set i (.cells (putL ds o es)) := fun h => by simp [wrF, Ef.heap, Yv]
 refine ⟨wrF i (.cells ds) (.cells (putL ds o es)) (.v undef), .inl ⟨hw, by simp [wrF, Ef.fit], fun h2 kk => ?_⟩, by simpa [wrF, Ef.ok] using hi, by rw [hh]; exact k⟩
 have hi2 : h2[i]? = some (.cells ds) := kk (i, .cells ds) (by simp [wrF])
 rw [hh]
 refine Xx (o := ⟨none, .store u x y, ty, pos, aft, gd⟩) ?_
 show on (J5 P h2 u (ev G e x) (ev G e y)) _
 rw [hx]
 simp only [J5, hy, hc, if_true, hi2, if_pos hle, on]
 exact ⟨trivial, rfl⟩
theorem bS_lit (hG : ∀ g, low 0 (G g)) {i u len e' k' : Nat} {parts : Array (Nat × Operand)} {xs : List (List D)} (hw : Yc ops gd e = some true) (ht : decide (t < n) = true) (hl : litD P u len (parts.toList.map fun q => (q.1, ev G e q.2)) = some (e', k', xs)) (hi : h[i]? = some .hole)
 (la : lowL 0 ((opds (.buildSlice u len parts)).map (ev G e))) (lr : low 0 (.sl k' xs))
 (k : afS P G n ops Q (wrF i .hole (.buf e' k' xs) (.buf i len) :: done) rest (upd e t (.buf i len)) (h.set i (.buf e' k' xs))) : afS P G n ops Q done (⟨some t, .buildSlice u len parts, ty, pos, aft, gd⟩ :: rest) e h := by
 have hh : ∀ h, (wrF i .hole (.buf e' k' xs) (.buf i len)).heap h = h.set i (.buf e' k' xs) := fun h => by simp [wrF, Ef.heap, Yv]
 refine bS_of (E := wrF i .hole (.buf e' k' xs) (.buf i len)) hw ht (by simp [wrF, Ef.fit]) (by simpa [wrF, Ef.ok] using hi) (fun h2 kk => ?_) (by rw [hh]; exact k)
 rw [hh]
 have hi2 : h2[i]? = some .hole := kk (i, .hole) (by simp [wrF])
 have q : OpTri P G ⟨some t, .buildSlice u len parts, ty, pos, aft, gd⟩ ((opds (.buildSlice u len parts)).map (ev G e)) [] (fun h' d => h' = [.buf e' k' xs] ∧ d = .buf 0 len) := Xx (o := ⟨some t, .buildSlice u len parts, ty, pos, aft, gd⟩) (by
  show on (litD P u len (parts.toList.map fun q => (q.1, ev G e q.2))) _
  rw [hl]; exact ⟨rfl, rfl⟩)
 have L : Lies (fun _ => i) [] h2 := ⟨fun i ob q => by simp at q, fun i j q => by simp at q, fun ob q => by simp at q⟩
 have F := OpTri.frame hG L (by simpa using la) (K1 := fun h' d => h' = [.buf e' k' xs] ∧ d = .buf 0 len) (by
  rintro _ _ ⟨rfl, _⟩
  refine ⟨fun i j hi hj _ => by simp at hi hj; omega, fun j _ hj => hi2⟩) q
 rw [W5 _ _ la] at F
 refine F.mono ?_
 rintro _ _ ⟨_, _, ⟨rfl, rfl⟩, rfl, rfl⟩
 have e1 : renR (fun _ => i) xs = xs := by
  have := J8 (fun _ => i) _ lr
  rw [ren] at this
  exact (D.sl.inj this).2
 simp [plc, Va, ren, e1, wrF]
theorem bS_appB {x y : Operand} {u i j m m' e' k' e2 k2 by' : Nat} {xs ys : List (List D)} (hw : Yc ops gd e = some true) (ht : decide (t < n) = true) (hx : ev G e x = .buf i m) (hy : ev G e y = .buf j m') (hi : h[i]? = some (.buf e' k' xs)) (hm : xs.length = m) (ha : apT P u = some (e', k', by')) (hj : h[j]? = some (.buf e2 k2 ys)) (hm' : ys.length = m')
 (hk : Yr k' ys) (hb : (m + ys.length) * (by' + 1) ≤ 140737488355328)
 (k : afS P G n ops Q (⟨[(i, .buf e' k' xs), (j, .buf e2 k2 ys)], [(i, .buf e' k' (xs ++ ys))], .buf i (m + ys.length)⟩ :: done) rest (upd e t (.buf i (m + ys.length))) (h.set i (.buf e' k' (xs ++ ys)))) :
 afS P G n ops Q done (⟨some t, .call ⟨.builtin .append, #[x, y], #[u, u]⟩, ty, pos, aft, gd⟩ :: rest) e h := by
 have hh : ∀ h, (⟨[(i, .buf e' k' xs), (j, .buf e2 k2 ys)], [(i, .buf e' k' (xs ++ ys))], .buf i (m + ys.length)⟩ : Ef).heap h = h.set i (.buf e' k' (xs ++ ys)) := fun h => by simp [Ef.heap, Yv]
 refine bS_of (E := ⟨[(i, .buf e' k' xs), (j, .buf e2 k2 ys)], [(i, .buf e' k' (xs ++ ys))], .buf i (m + ys.length)⟩) hw ht (by simp [Ef.fit]) (by simp [Ef.ok, hi, hj]) (fun h2 kk => ?_) (by rw [hh]; exact k)
 rw [hh]
 have hi2 : h2[i]? = some (.buf e' k' xs) := kk (i, .buf e' k' xs) (by simp)
 have hj2 : h2[j]? = some (.buf e2 k2 ys) := kk (j, .buf e2 k2 ys) (by simp)
 refine Xx (o := ⟨some t, .call ⟨.builtin .append, #[x, y], #[u, u]⟩, ty, pos, aft, gd⟩) ?_
 show aOp P G e h2 _ (.call ⟨.builtin .append, #[x, y], #[u, u]⟩)
 rw [aOp_bi]
 show biA P h2 .append [u, u] [ev G e x, ev G e y] _
 rw [hx, biA_append]
 exact ⟨e', k', by', ys, ha, Yg8 hy hj2 hm', hk, xs, hi2, hm, hb, rfl, rfl⟩
end
theorem gd_bS {Q : (Nat → D) → List Ob → Prop} {done : List Ef} {l : List Oper} (q : afS P G n ops Q done l e h) : afS P G n ops Q done l e h := q
end
end Go.Proofs.YtbhkcbidcfofiaaGreat
