/-
  What the statements of the chapter share, part 23: JT4.
-/
import Derived.Test.YtbhkcbidcfofiaaGreatY22
set_option linter.unusedVariables false
set_option linter.unusedSimpArgs false
set_option maxRecDepth 100000
set_option maxHeartbeats 8000000
namespace Go.Proofs.YtbhkcbidcfofiaaGreat
open _root_.Bool renaming and_eq_true → Z0
open _root_.List renaming all_eq_true → Z1
open Go.RowKit
section
mutual
def leqV : Lat → Val → Val → Bool
 | .mk k _ _ _ ps _, a, b =>
   if k = 1 ∨ k = 2 then decide (a.n ≤ b.n) else if k = 3 then decide (b.n ≤ a.n)
   else if k = 4 ∨ k = 10 then X8 a.names b.names
   else if k = 5 then leqMap ps a b else if k = 6 then leqs ps a.parts b.parts else if k = 7 then leqLex ps a.parts b.parts
   else if k = 8 then decide (a.n = 0 ∨ b.n = 2 ∨ valC a b = 0) else leqE a.entries b.entries
def leqMap : List Lat → Val → Val → Bool
 | [], _, _ => true
 | p :: _, a, b => Zj7 (fun v w => leqV p v w) a b
def leqs : List Lat → List Val → List Val → Bool
 | p :: ps, a :: s, b :: t => leqV p a b && leqs ps s t
 | [], _, _ => true
 | _ :: _, [], _ => true
 | _ :: _, _ :: _, [] => true
def leqLex : List Lat → List Val → List Val → Bool
 | p :: ps, a :: s, b :: t => if valC a b = 0 then leqLex2 ps s t else leqV p a b
 | [], _, _ => true
 | _ :: _, [], _ => true
 | _ :: _, _ :: _, [] => true
def leqLex2 : List Lat → List Val → List Val → Bool
 | p :: _, a :: _, b :: _ => leqV p a b
 | [], _, _ => true
 | _ :: _, [], _ => true
 | _ :: _, _ :: _, [] => true
end
def Zh6 : List Val → List Val → Bool
 | a :: _, b :: _ => decide (valC a b = 0)
 | [], _ => false
 | _ :: _, [] => false
mutual
def Wh : Lat → Val → Val → Val
 | .mk k lo hi ns ps rs, a, b =>
   if k = 4 then .mk 0 (Wv a.names b.names) [] [] else if k = 10 then .mk 0 (Za0 ns rs (Wv a.names b.names)) [] []
   else if k = 9 then .mk 0 [] [] (Ye4 a.entries b.entries)
   else if k = 5 then joinMap ps a b else if k = 6 then .mk 0 [] (Zj9 ps a.parts b.parts) []
   else if k = 7 ∧ Zh6 a.parts b.parts = true then .mk 0 [] (Yj8 ps a.parts b.parts) []
   else if leqV (.mk k lo hi ns ps rs) a b then b else if leqV (.mk k lo hi ns ps rs) b a then a else .mk 2 [] [] []
def joinMap : List Lat → Val → Val → Val
 | [], a, _ => a
 | p :: _, a, b => Zb4 (fun v w => Wh p v w) a b
def Zj9 : List Lat → List Val → List Val → List Val
 | p :: ps, a :: s, b :: t => Wh p a b :: Zj9 ps s t
 | [], _, _ => []
 | _ :: _, [], _ => []
 | _ :: _, _ :: _, [] => []
def Yj8 : List Lat → List Val → List Val → List Val
 | _ :: ps, a :: s, _ :: t => a :: joinLex2 ps s t
 | [], _, _ => []
 | _ :: _, [], _ => []
 | _ :: _, _ :: _, [] => []
def joinLex2 : List Lat → List Val → List Val → List Val
 | p :: _, a :: _, b :: _ => [Wh p a b]
 | [], _, _ => []
 | _ :: _, [], _ => []
 | _ :: _, _ :: _, [] => []
end
section
variable {k lo hi : Int} {ns : List ByteArray} {ps : List Lat} {rs : List Rl} {a b : Val}
theorem Jk (h : k = 1 ∨ k = 2) : leqV (.mk k lo hi ns ps rs) a b = decide (a.n ≤ b.n) := by rw [leqV, if_pos h]
theorem leqV_3 : leqV (.mk 3 lo hi ns ps rs) a b = decide (b.n ≤ a.n) := by rw [leqV, if_neg (by decide), if_pos (by rfl)]
theorem Vy (h : k = 4 ∨ k = 10) : leqV (.mk k lo hi ns ps rs) a b = X8 a.names b.names := by rw [leqV, if_neg (by omega), if_neg (by omega), if_pos h]
theorem Zn9 {p : Lat} : leqV (.mk 5 lo hi ns [p] rs) a b = Zj7 (leqV p) a b := by rw [leqV, if_neg (by decide), if_neg (by decide), if_neg (by decide), if_pos (by rfl)]; rw [leqMap]
theorem Zn8 : leqV (.mk 6 lo hi ns ps rs) a b = leqs ps a.parts b.parts := by rw [leqV, if_neg (by decide), if_neg (by decide), if_neg (by decide), if_neg (by decide), if_pos (by rfl)]
theorem leqV_7 : leqV (.mk 7 lo hi ns ps rs) a b = leqLex ps a.parts b.parts := by rw [leqV, if_neg (by decide), if_neg (by decide), if_neg (by decide), if_neg (by decide), if_neg (by decide), if_pos (by rfl)]
theorem leqV_8 : leqV (.mk 8 lo hi ns ps rs) a b = decide (a.n = 0 ∨ b.n = 2 ∨ valC a b = 0) := by rw [leqV, if_neg (by decide), if_neg (by decide), if_neg (by decide), if_neg (by decide), if_neg (by decide), if_neg (by decide), if_pos (by rfl)]
theorem Ye5 : leqV (.mk 9 lo hi ns ps rs) a b = leqE a.entries b.entries := by rw [leqV, if_neg (by decide), if_neg (by decide), if_neg (by decide), if_neg (by decide), if_neg (by decide), if_neg (by decide), if_neg (by decide)]
theorem Yj7 : Wh (.mk 4 lo hi ns ps rs) a b = .mk 0 (Wv a.names b.names) [] [] := by rw [Wh, if_pos (by rfl)]
theorem joinV_10 : Wh (.mk 10 lo hi ns ps rs) a b = .mk 0 (Za0 ns rs (Wv a.names b.names)) [] [] := by rw [Wh, if_neg (by decide), if_pos (by rfl)]
theorem joinV_9 : Wh (.mk 9 lo hi ns ps rs) a b = .mk 0 [] [] (Ye4 a.entries b.entries) := by rw [Wh, if_neg (by decide), if_neg (by decide), if_pos (by rfl)]
theorem Zx8 {p : Lat} : Wh (.mk 5 lo hi ns [p] rs) a b = Zb4 (Wh p) a b := by rw [Wh, if_neg (by decide), if_neg (by decide), if_neg (by decide), if_pos (by rfl)]; rw [joinMap]
theorem Yj6 : Wh (.mk 6 lo hi ns ps rs) a b = .mk 0 [] (Zj9 ps a.parts b.parts) [] := by rw [Wh, if_neg (by decide), if_neg (by decide), if_neg (by decide), if_neg (by decide), if_pos (by rfl)]
theorem joinV_7 (h : Zh6 a.parts b.parts = true) : Wh (.mk 7 lo hi ns ps rs) a b = .mk 0 [] (Yj8 ps a.parts b.parts) [] := by rw [Wh, if_neg (by decide), if_neg (by decide), if_neg (by decide), if_neg (by decide), if_neg (by decide), if_pos ⟨rfl, h⟩]
theorem Zq4 (h1 : k = 1 ∨ k = 2 ∨ k = 3 ∨ k = 8 ∨ k = 7 ∧ Zh6 a.parts b.parts = false) : Wh (.mk k lo hi ns ps rs) a b = if leqV (.mk k lo hi ns ps rs) a b then b else if leqV (.mk k lo hi ns ps rs) b a then a else .mk 2 [] [] [] := by
 rw [Wh, if_neg (by omega), if_neg (by omega), if_neg (by omega), if_neg (by omega), if_neg (by omega), if_neg (fun h => by
  rcases h1 with e | e | e | e | e
  · omega
  · omega
  · omega
  · omega
  · rw [e.2] at h; exact absurd h.2 (by decide))]
end
theorem val_ext {a b : Val} (h1 : a.n = b.n) (h2 : a.names = b.names) (h3 : a.parts = b.parts) (h4 : a.entries = b.entries) : a = b := by
 cases a; cases b
 simp only [Val.n, Val.names, Val.parts, Val.entries] at h1 h2 h3 h4
 rw [h1, h2, h3, h4]
def JlV (l : Lat) : Prop := Jl (fun v => Y8 l v = true) (leqV l) (Wh l) (botV l)
def TotV (l : Lat) : Prop := ∀ a b, Y8 l a = true → Y8 l b = true → leqV l a b = true ∨ leqV l b a = true
def PsE (ps : List Lat) (vs : List Val) : Prop := vs.length = ps.length ∧ W2 ps vs = true
theorem Wl {vs : List Val} : PsE [] vs ↔ vs = [] := by
 unfold PsE
 cases vs with
 | nil => rw [W2]; simp
 | cons v t => simp
theorem Yg {p : Lat} {ps : List Lat} {vs : List Val} : PsE (p :: ps) vs ↔ ∃ v t, vs = v :: t ∧ Y8 p v = true ∧ PsE ps t := by
 unfold PsE
 cases vs with
 | nil => simp
 | cons v t =>
  rw [W2, Z0]
  constructor
  · rintro ⟨h1, h2, h3⟩; exact ⟨v, t, rfl, h2, by simpa using h1, h3⟩
  · rintro ⟨v', t', e, h2, h1, h3⟩; cases e; exact ⟨by simpa using h1, h2, h3⟩
theorem Yj9 : ∀ ps : List Lat, (∀ p ∈ ps, JlV p) → Jl (PsE ps) (leqs ps) (Zj9 ps) (ps.map botV)
 | [], _ => by
  have hn : ∀ {a b : List Val}, PsE [] a → PsE [] b → a = b := fun h1 h2 => (Wl.1 h1).trans (Wl.1 h2).symm
  exact {
   refl := fun a ha => by rw [leqs]
   trans := fun a b c _ _ _ _ _ => by rw [leqs]
   anti := fun a b ha hb _ _ => hn ha hb
   mem := fun a b ha hb => by rw [Zj9]; exact Wl.2 rfl
   left := fun a b ha hb => by rw [leqs]
   right := fun a b ha hb => by rw [leqs]
   lub := fun a b c _ _ _ _ _ => by rw [leqs]
   bmem := Wl.2 rfl
   bot := fun a ha => by rw [leqs] }
 | p :: ps, H => by
  have J := H p (by simp)
  have K := Yj9 ps fun q hq => H q (by simp [hq])
  exact {
   refl := fun a ha => by
    obtain ⟨v, t, rfl, h1, h2⟩ := Yg.1 ha
    rw [leqs, J.refl v h1, K.refl t h2]; rfl
   trans := fun a b c ha hb hc x y => by
    obtain ⟨v, t, rfl, h1, h2⟩ := Yg.1 ha
    obtain ⟨v', t', rfl, h1', h2'⟩ := Yg.1 hb
    obtain ⟨v2, t2, rfl, k1, k2⟩ := Yg.1 hc
    rw [leqs, Z0] at *
    exact ⟨J.trans _ _ _ h1 h1' k1 x.1 y.1, K.trans _ _ _ h2 h2' k2 x.2 y.2⟩
   anti := fun a b ha hb x y => by
    obtain ⟨v, t, rfl, h1, h2⟩ := Yg.1 ha
    obtain ⟨v', t', rfl, h1', h2'⟩ := Yg.1 hb
    rw [leqs, Z0] at *
    rw [J.anti _ _ h1 h1' x.1 y.1, K.anti _ _ h2 h2' x.2 y.2]
   mem := fun a b ha hb => by
    obtain ⟨v, t, rfl, h1, h2⟩ := Yg.1 ha
    obtain ⟨v', t', rfl, h1', h2'⟩ := Yg.1 hb
    rw [Zj9]
    exact Yg.2 ⟨_, _, rfl, J.mem _ _ h1 h1', K.mem _ _ h2 h2'⟩
   left := fun a b ha hb => by
    obtain ⟨v, t, rfl, h1, h2⟩ := Yg.1 ha
    obtain ⟨v', t', rfl, h1', h2'⟩ := Yg.1 hb
    rw [Zj9, leqs, J.left _ _ h1 h1', K.left _ _ h2 h2']; rfl
   right := fun a b ha hb => by
    obtain ⟨v, t, rfl, h1, h2⟩ := Yg.1 ha
    obtain ⟨v', t', rfl, h1', h2'⟩ := Yg.1 hb
    rw [Zj9, leqs, J.right _ _ h1 h1', K.right _ _ h2 h2']; rfl
   lub := fun a b c ha hb hc x y => by
    obtain ⟨v, t, rfl, h1, h2⟩ := Yg.1 ha
    obtain ⟨v', t', rfl, h1', h2'⟩ := Yg.1 hb
    obtain ⟨v2, t2, rfl, k1, k2⟩ := Yg.1 hc
    rw [Zj9]
    rw [leqs, Z0] at *
    exact ⟨J.lub _ _ _ h1 h1' k1 x.1 y.1, K.lub _ _ _ h2 h2' k2 x.2 y.2⟩
   bmem := Yg.2 ⟨_, _, rfl, J.bmem, K.bmem⟩
   bot := fun a ha => by
    obtain ⟨v, t, rfl, h1, h2⟩ := Yg.1 ha
    rw [List.map_cons, leqs, J.bot _ h1, K.bot _ h2]; rfl }
/-! The kinds. -/
theorem Zz8 {k lo hi : Int} {ns : List ByteArray} {ps : List Lat} {rs : List Rl} (hk : k = 1 ∨ k = 2 ∨ k = 3) {v : Val} : Y8 (.mk k lo hi ns ps rs) v = true ↔ ((if k = 1 then 0 else lo) ≤ v.n ∧ v.n ≤ (if k = 1 then 1 else hi)) ∧ Val.mk v.n [] [] [] = v := by
 have e : Val.mk v.n [] [] [] = v ↔ v.names = [] ∧ v.parts = [] ∧ v.entries = [] := by
  cases v; simp only [Val.n, Val.names, Val.parts, Val.entries, Val.mk.injEq, true_and]
  exact ⟨fun h => ⟨h.1.symm, h.2.1.symm, h.2.2.symm⟩, fun h => ⟨h.1.symm, h.2.1.symm, h.2.2.symm⟩⟩
 rw [e]
 rcases hk with rfl | h
 · rw [isE_1, if_pos rfl, if_pos rfl]
   exact ⟨fun h => ⟨by omega, h.2⟩, fun h => ⟨by omega, h.2⟩⟩
 · rw [Zy1 h, if_neg (by omega), if_neg (by omega)]
theorem tot_n {k lo hi : Int} {ns : List ByteArray} {ps : List Lat} {rs : List Rl} (hk : k = 1 ∨ k = 2 ∨ k = 3) : TotV (.mk k lo hi ns ps rs) := fun a b _ _ => by
 rcases hk with h | h | h
 · rw [Jk (.inl h), Jk (.inl h), decide_eq_true_eq, decide_eq_true_eq]; omega
 · rw [Jk (.inr h), Jk (.inr h), decide_eq_true_eq, decide_eq_true_eq]; omega
 · subst h; rw [leqV_3, leqV_3, decide_eq_true_eq, decide_eq_true_eq]; omega
theorem jl_n {k lo hi : Int} {ns : List ByteArray} {ps : List Lat} {rs : List Rl} (hk : k = 1 ∨ k = 2 ∨ k = 3) (hlo : lo ≤ hi) : JlV (.mk k lo hi ns ps rs) := by
 have hle : ∀ a b : Val, leqV (.mk k lo hi ns ps rs) a b = true ↔ if k = 3 then b.n ≤ a.n else a.n ≤ b.n := fun a b => by
  rcases hk with h | h | h
  · rw [Jk (.inl h), decide_eq_true_eq, if_neg (by omega)]
  · rw [Jk (.inr h), decide_eq_true_eq, if_neg (by omega)]
  · subst h; rw [leqV_3, decide_eq_true_eq, if_pos rfl]
 have hb : botV (.mk k lo hi ns ps rs) = .mk (if k = 1 then 0 else if k = 2 then lo else hi) [] [] [] := by
  rw [botV]
  rcases hk with h | h | h
  · subst h; rfl
  · subst h; rfl
  · subst h; rfl
 have hbn : (botV (.mk k lo hi ns ps rs)).n = if k = 1 then 0 else if k = 2 then lo else hi := by rw [hb]; rfl
 refine jl_total (fun a _ => ?_) (fun a b c _ _ _ => ?_) (fun a b ha hb => ?_) (tot_n hk) (fun a b ha hb => ?_) ((Zz8 hk).2 ⟨?_, ?_⟩) fun a ha => ?_
 · rw [hle]; split <;> exact Int.le_refl _
 · rw [hle, hle, hle]; split <;> omega
 · rw [hle, hle]
   intro x y
   rw [Zz8 hk] at ha hb
   rw [← ha.2, ← hb.2, show a.n = b.n by split at x <;> split at y <;> omega]
 · rw [Zq4 (by omega)]
   split
   · rfl
   · rename_i h
     rw [if_pos ((tot_n hk a b ha hb).resolve_left h)]
 · rw [hbn]; rcases hk with h | h | h <;> subst h <;> simp <;> omega
 · rw [hbn, hb]
 · rw [Zz8 hk] at ha
   rw [hle, hbn]
   rcases hk with h | h | h <;> subst h <;> simp at ha ⊢ <;> omega
theorem Zz7 {v : Val} : Val.mk 0 v.names [] [] = v ↔ v.n = 0 ∧ v.parts = [] ∧ v.entries = [] := by
 cases v
 simp only [Val.n, Val.parts, Val.entries, Val.names, Val.mk.injEq, true_and]
 exact ⟨fun h => ⟨h.1.symm, h.2.1.symm, h.2.2.symm⟩, fun h => ⟨h.1.symm, h.2.1.symm, h.2.2.symm⟩⟩
theorem jl_set {lo hi : Int} {ns : List ByteArray} {ps : List Lat} {rs : List Rl} : JlV (.mk 4 lo hi ns ps rs) := by
 refine Jl.map (F := fun s => Ye ns s = true) (le' := X8) (jn' := Wv) (bot' := []) ?_ Val.names (fun s => .mk 0 s [] []) (fun a => by rw [Zy0, Zz7, and_comm]) (fun _ _ => rfl) (fun a b _ _ => Vy (.inl rfl)) (fun a b _ _ => Yj7) (by rw [botV]; rfl)
 exact {
  refl := fun a _ => Yd.2 fun _ h => h
  trans := fun a b c _ _ _ x y => Yd.2 fun z h => Yd.1 y z (Yd.1 x z h)
  anti := fun a b ha hb x y => Wi (Ym.1 ha).1 (Ym.1 hb).1 fun c => ⟨Yd.1 x c, Yd.1 y c⟩
  mem := fun a b ha hb => Zo9 ha hb
  left := fun a b _ _ => Yd.2 fun x h => Yp.2 (.inl h)
  right := fun a b _ _ => Yd.2 fun x h => Yp.2 (.inr h)
  lub := fun a b c _ _ _ x y => Yd.2 fun z h => (Yp.1 h).elim (Yd.1 x z) (Yd.1 y z)
  bmem := rfl
  bot := fun _ _ => rfl }
theorem jl_closed {lo hi : Int} {ns : List ByteArray} {ps : List Lat} {rs : List Rl} (h0 : ns ≠ []) (hns : Ye ns ns = true) (hr : ∀ r ∈ rs, r.concl ∈ ns) (hc : ∀ r ∈ rs, r.cond ≠ []) : JlV (.mk 10 lo hi ns ps rs) := by
 refine Jl.map (F := fun s => Ye ns s = true ∧ W0 rs s = true) (le' := X8) (jn' := fun a b => Za0 ns rs (Wv a b)) (bot' := []) ?_ Val.names (fun s => .mk 0 s [] []) (fun a => by rw [isE_10, Zz7, and_comm]) (fun _ _ => rfl) (fun a b _ _ => Vy (.inr rfl)) (fun a b _ _ => joinV_10) (by rw [botV]; rfl)
 have hin : ∀ {a : List ByteArray}, Ye ns a = true → ∀ x ∈ a, x ∈ ns := fun ha x hx => ((Ym.1 ha).2 x hx).2.resolve_left h0
 have hu : ∀ {a b : List ByteArray}, Ye ns a = true → Ye ns b = true → ∀ x ∈ Wv a b, x ∈ ns := fun ha hb x hx => (Yp.1 hx).elim (hin ha x) (hin hb x)
 exact {
  refl := fun a _ => Yd.2 fun _ h => h
  trans := fun a b c _ _ _ x y => Yd.2 fun z h => Yd.1 y z (Yd.1 x z h)
  anti := fun a b ha hb x y => Wi (Ym.1 ha.1).1 (Ym.1 hb.1).1 fun c => ⟨Yd.1 x c, Yd.1 y c⟩
  mem := fun a b ha hb => ⟨Ym.2 ⟨close_sorted (Ym.1 hns).1, fun x hx => ⟨((Ym.1 hns).2 x (close_in x hx)).1, .inr (close_in x hx)⟩⟩, close_closed hr (hu ha.1 hb.1)⟩
  left := fun a b ha hb => Yd.2 fun x h => close_sub hr (hu ha.1 hb.1) x (Yp.2 (.inl h))
  right := fun a b ha hb => Yd.2 fun x h => close_sub hr (hu ha.1 hb.1) x (Yp.2 (.inr h))
  lub := fun a b c ha hb hc x y => Yd.2 fun z h => close_least hr (hu ha.1 hb.1) hc.2 (fun z h => (Yp.1 h).elim (Yd.1 x z) (Yd.1 y z)) z h
  bmem := ⟨rfl, Jz.2 fun r h hx => by
   exfalso
   cases hq : r.cond with
   | nil => exact hc r h hq
   | cons y t => have := hx y (by rw [hq]; simp); cases this⟩
  bot := fun _ _ => rfl }
theorem Xp {lo hi : Int} {ns : List ByteArray} {p : Lat} {rs : List Rl} {v : Val} : Y8 (.mk 5 lo hi ns [p] rs) v = true ↔ MapE ns (fun v => Y8 p v = true) (botV p) v := by
 rw [isE_5, Zt8]
 unfold MapE
 simp only [ne_eq, Yq]
theorem jl_map {lo hi : Int} {ns : List ByteArray} {p : Lat} {rs : List Rl} (J : JlV p) : JlV (.mk 5 lo hi ns [p] rs) :=
 Jl.map (jl_maps (only := ns) J) id id (fun a => by rw [Xp]; simp) (fun _ _ => rfl) (fun a b _ _ => Zn9) (fun a b _ _ => Zx8) (by rw [botV]; rfl)
theorem el_parts {v : Val} : Val.mk 0 [] v.parts [] = v ↔ v.n = 0 ∧ v.names = [] ∧ v.entries = [] := by
 cases v
 simp only [Val.n, Val.parts, Val.entries, Val.names, Val.mk.injEq, true_and]
 exact ⟨fun h => ⟨h.1.symm, h.2.1.symm, h.2.2.symm⟩, fun h => ⟨h.1.symm, h.2.1.symm, h.2.2.symm⟩⟩
theorem el67 {k lo hi : Int} {ns : List ByteArray} {ps : List Lat} {rs : List Rl} (hk : k = 6 ∨ k = 7) {v : Val} : Y8 (.mk k lo hi ns ps rs) v = true ↔ PsE ps v.parts ∧ Val.mk 0 [] v.parts [] = v := by
 rw [isE_67 hk, el_parts]
 unfold PsE
 exact and_comm
theorem jl_prod {lo hi : Int} {ns : List ByteArray} {ps : List Lat} {rs : List Rl} (H : ∀ p ∈ ps, JlV p) : JlV (.mk 6 lo hi ns ps rs) :=
 Jl.map (Yj9 ps H) Val.parts (fun l => .mk 0 [] l []) (fun a => el67 (.inl rfl)) (fun _ _ => rfl) (fun a b _ _ => Zn8) (fun a b _ _ => Yj6) (by rw [botV, Zh2]; rfl)
def Ze1 (v : Val) : Val × Val := (v.parts.getD 0 Wx, v.parts.getD 1 Wx)
def ofP (x : Val × Val) : Val := .mk 0 [] [x.1, x.2] []
theorem el_7 {lo hi : Int} {ns : List ByteArray} {p q : Lat} {rs : List Rl} {v : Val} : Y8 (.mk 7 lo hi ns [p, q] rs) v = true ↔ (Y8 p (Ze1 v).1 = true ∧ Y8 q (Ze1 v).2 = true) ∧ ofP (Ze1 v) = v := by
 rw [el67 (.inr rfl)]
 constructor
 · rintro ⟨h1, h2⟩
   obtain ⟨a, t, e1, ha, h1⟩ := Yg.1 h1
   obtain ⟨b, t, e2, hb, h1⟩ := Yg.1 h1
   rw [Wl.1 h1] at e2
   rw [e2] at e1
   unfold Ze1 ofP
   rw [e1] at h2 ⊢
   exact ⟨⟨ha, hb⟩, h2⟩
 · rintro ⟨⟨h1, h2⟩, h3⟩
   have e : v.parts = [(Ze1 v).1, (Ze1 v).2] := (congrArg Val.parts h3).symm
   exact ⟨by rw [e]; exact Yg.2 ⟨_, _, rfl, h1, Yg.2 ⟨_, _, rfl, h2, Wl.2 rfl⟩⟩, by rw [e]; exact h3⟩
theorem Xg {lo hi : Int} {ns : List ByteArray} {p q : Lat} {rs : List Rl} (x y : Val × Val) : leqV (.mk 7 lo hi ns [p, q] rs) (ofP x) (ofP y) = if x.1 = y.1 then leqV q x.2 y.2 else leqV p x.1 y.1 := by
 rw [leqV_7]
 show leqLex [p, q] [x.1, x.2] [y.1, y.2] = _
 rw [leqLex]
 by_cases h : x.1 = y.1
 · rw [if_pos h, if_pos ((Yq _ _).2 h), leqLex2]
 · rw [if_neg h, if_neg (fun e => h ((Yq _ _).1 e))]
theorem Ze5 {lo hi : Int} {ns : List ByteArray} {p q : Lat} {rs : List Rl} (tot : TotV p) {x y : Val × Val} (hx : Y8 p x.1 = true) (hy : Y8 p y.1 = true) : Wh (.mk 7 lo hi ns [p, q] rs) (ofP x) (ofP y) = ofP (if x.1 = y.1 then (x.1, Wh q x.2 y.2) else if leqV (.mk 7 lo hi ns [p, q] rs) (ofP x) (ofP y) = true then y else x) := by
 have hh : Zh6 (ofP x).parts (ofP y).parts = decide (x.1 = y.1) := by
  show decide (valC x.1 y.1 = 0) = _
  simp only [Yq]
 by_cases h : x.1 = y.1
 · rw [joinV_7 (by rw [hh, decide_eq_true h]), if_pos h]
   show Val.mk 0 [] (Yj8 [p, q] [x.1, x.2] [y.1, y.2]) [] = _
   rw [Yj8, joinLex2]; rfl
 · rw [Zq4 (.inr (.inr (.inr (.inr ⟨rfl, by rw [hh, decide_eq_false h]⟩)))), if_neg h]
   by_cases h2 : leqV (.mk 7 lo hi ns [p, q] rs) (ofP x) (ofP y) = true
   · rw [if_pos h2, if_pos h2]
   · have h3 : leqV (.mk 7 lo hi ns [p, q] rs) (ofP y) (ofP x) = true := by
      rw [Xg, if_neg h] at h2
      rw [Xg, if_neg (show ¬ y.1 = x.1 from fun e => h e.symm)]
      exact (tot _ _ hx hy).resolve_left h2
     rw [if_neg h2, if_pos h3, if_neg h2]
theorem jl_lexV {lo hi : Int} {ns : List ByteArray} {p q : Lat} {rs : List Rl} (J : JlV p) (J' : JlV q) (tot : TotV p) : JlV (.mk 7 lo hi ns [p, q] rs) := by
 refine Jl.map (jl_lex J J' tot (lx := fun x y => leqV (.mk 7 lo hi ns [p, q] rs) (ofP x) (ofP y)) (fun x y _ _ => Xg x y) (jx := fun x y => if x.1 = y.1 then (x.1, Wh q x.2 y.2) else if leqV (.mk 7 lo hi ns [p, q] rs) (ofP x) (ofP y) = true then y else x) (fun x y _ _ => rfl)) Ze1 ofP (fun a => el_7) (fun _ _ => rfl) (fun a b ha hb => ?_) (fun a b ha hb => ?_) (by rw [botV, Zh2]; rfl)
 · show _ = leqV _ (ofP (Ze1 a)) (ofP (Ze1 b))
   rw [(el_7.1 ha).2, (el_7.1 hb).2]
 · show _ = ofP _
   rw [← Ze5 tot (el_7.1 ha).1.1 (el_7.1 hb).1.1, (el_7.1 ha).2, (el_7.1 hb).2]
theorem tot_lex {lo hi : Int} {ns : List ByteArray} {p q : Lat} {rs : List Rl} (h1 : TotV p) (h2 : TotV q) : TotV (.mk 7 lo hi ns [p, q] rs) := fun a b ha hb => by
 rw [el_7] at ha hb
 rw [← ha.2, ← hb.2, Xg, Xg]
 by_cases h : (Ze1 a).1 = (Ze1 b).1
 · rw [if_pos h, if_pos h.symm]; exact h2 _ _ ha.1.2 hb.1.2
 · rw [if_neg h, if_neg (fun e => h e.symm)]; exact h1 _ _ ha.1.1 hb.1.1
theorem jl_flat {lo hi : Int} {ns : List ByteArray} {ps : List Lat} {rs : List Rl} : JlV (.mk 8 lo hi ns ps rs) := by
 have hle : ∀ a b : Val, leqV (.mk 8 lo hi ns ps rs) a b = true ↔ a.n = 0 ∨ b.n = 2 ∨ a = b := fun a b => by rw [leqV_8, decide_eq_true_eq, Yq]
 have hj : ∀ a b : Val, Wh (.mk 8 lo hi ns ps rs) a b = if leqV (.mk 8 lo hi ns ps rs) a b then b else if leqV (.mk 8 lo hi ns ps rs) b a then a else .mk 2 [] [] [] := fun a b => Zq4 (by omega)
 have h2m : Y8 (.mk 8 lo hi ns ps rs) (.mk 2 [] [] []) = true := isE_8.2 ⟨rfl, rfl, .inr (.inl ⟨rfl, rfl⟩)⟩
 have hz : ∀ {a b : Val}, Y8 (.mk 8 lo hi ns ps rs) a = true → Y8 (.mk 8 lo hi ns ps rs) b = true → a.n = b.n → a.n ≠ 1 → a = b := fun {a b} ha hb e h1 => by
  rw [isE_8] at ha hb
  have na : a.names = [] := by exact ha.2.2.elim (·.2) (·.elim (·.2) fun h => absurd h.1 h1)
  have nb : b.names = [] := by exact hb.2.2.elim (·.2) (·.elim (·.2) fun h => absurd (e.trans h.1) h1)
  exact val_ext e (na.trans nb.symm) (ha.1.trans hb.1.symm) (ha.2.1.trans hb.2.1.symm)
 have hn : ∀ {a : Val}, Y8 (.mk 8 lo hi ns ps rs) a = true → a.n = 0 ∨ a.n = 1 ∨ a.n = 2 := fun ha => by rw [isE_8] at ha; omega
 have hmem : ∀ a b, Y8 (.mk 8 lo hi ns ps rs) a = true → Y8 (.mk 8 lo hi ns ps rs) b = true → Y8 (.mk 8 lo hi ns ps rs) (Wh (.mk 8 lo hi ns ps rs) a b) = true := fun a b ha hb => by
  rw [hj]
  split
  · exact hb
  · split
    · exact ha
    · exact h2m
 exact {
  refl := fun a _ => (hle a a).2 (.inr (.inr rfl))
  trans := fun a b c ha hb hc x y => by
   rw [hle] at *
   rcases x with x | x | rfl
   · exact .inl x
   · rcases y with y | y | rfl
     · omega
     · exact .inr (.inl y)
     · exact .inr (.inl x)
   · exact y
  anti := fun a b ha hb x y => by
   rw [hle] at *
   rcases x with x | x | rfl
   · rcases y with y | y | rfl
     · exact hz ha hb (by omega) (by omega)
     · omega
     · rfl
   · rcases y with y | y | rfl
     · omega
     · exact hz ha hb (by omega) (by omega)
     · rfl
   · rfl
  mem := hmem
  left := fun a b ha hb => by
   rw [hj]
   split
   · assumption
   · split
     · exact (hle a a).2 (.inr (.inr rfl))
     · exact (hle _ _).2 (.inr (.inl rfl))
  right := fun a b ha hb => by
   rw [hj]
   split
   · exact (hle b b).2 (.inr (.inr rfl))
   · split
     · assumption
     · exact (hle _ _).2 (.inr (.inl rfl))
  lub := fun a b c ha hb hc x y => by
   rw [hj]
   split
   · exact y
   · rename_i h1
     split
     · exact x
     · rename_i h2
       rw [hle] at *
       rcases x with x | x | rfl
       · exact absurd (.inl x) h1
       · exact .inr (.inl x)
       · rcases y with y | y | rfl
         · exact absurd (.inl y) h2
         · exact .inr (.inl y)
         · exact absurd (.inr (.inr rfl)) h1
  bmem := by rw [show botV (.mk 8 lo hi ns ps rs) = Wx by rw [botV]; rfl]; exact isE_8.2 ⟨rfl, rfl, .inl ⟨rfl, rfl⟩⟩
  bot := fun a _ => by rw [show botV (.mk 8 lo hi ns ps rs) = Wx by rw [botV]; rfl]; exact (hle _ _).2 (.inl rfl) }
theorem el9 {v : Val} : Val.mk 0 [] [] v.entries = v ↔ v.n = 0 ∧ v.names = [] ∧ v.parts = [] := by
 cases v
 simp only [Val.n, Val.parts, Val.entries, Val.names, Val.mk.injEq, and_true]
 exact ⟨fun h => ⟨h.1.symm, h.2.1.symm, h.2.2.symm⟩, fun h => ⟨h.1.symm, h.2.1.symm, h.2.2.symm⟩⟩
theorem Zx9 {lo hi : Int} {ns : List ByteArray} {ps : List Lat} {rs : List Rl} : JlV (.mk 9 lo hi ns ps rs) :=
 Jl.map jl_reg Val.entries (fun l => .mk 0 [] [] l) (fun a => by rw [isE_9, el9, and_comm]) (fun _ _ => rfl) (fun a b _ _ => Ye5) (fun a b _ _ => joinV_9) (by rw [botV]; rfl)
theorem WfL.uni {l : Lat} (h : WfL l) (h10 : l.kind = 10) : l.names ≠ [] ∧ Ye l.names l.names = true ∧ (∀ r ∈ l.rules, r.concl ∈ l.names) ∧ (∀ r ∈ l.rules, r.cond ≠ []) ∧ ∀ r ∈ l.rules, ∀ x ∈ r.cond, x ∈ l.names := by
 have h1 := h.spell
 have hk := h.kinds.2.2.2.2.2.2.2.2.2.1 h10
 have e6 : (l.kind == 6) = false := by rw [h10]; rfl
 unfold Zd5 at h1
 rw [Bool.not_eq_false', e6, Zt5, Bool.false_or, Z0, Z0] at h1
 have h3 : ∀ r ∈ l.rules, Yh1 l.names r = true := Z1.1 h1.2
 have h4 : ∀ r ∈ l.rules, r.cond.length ≠ 0 ∧ X8 r.cond l.names = true ∧ hasS l.names r.concl = true := fun r hr => by
  have := h3 r hr
  unfold Yh1 at this
  simp only [Z0, decide_eq_true_eq] at this
  exact ⟨this.1.1.1, this.1.2, this.2⟩
 refine ⟨fun e => by rw [e] at hk; simp at hk, Ym.2 ⟨(Zv6 _).1 h1.1.2, fun x hx => ⟨Z1.1 h1.1.1 x hx, .inr hx⟩⟩, fun r hr => (Yu _ _).1 (h4 r hr).2.2, fun r hr e => (h4 r hr).1 (by rw [e]; rfl), fun r hr => Yd.1 (h4 r hr).2.1⟩
theorem WfL.chain {l : Lat} (h : WfL l) (h7 : l.kind = 7) : ∃ p q, l.parts = [p, q] ∧ Xh p = true := by
 have h2 := h.kinds.2.2.1 h7
 have h3 := Zf8 (by decide) (Zm9 h.check).2.2.2
 match hm : l.parts, h2 with
 | [p, q], _ =>
  refine ⟨p, q, rfl, ?_⟩
  unfold Wp at h3
  rw [h7, hm] at h3
  simpa using h3
theorem Zv0 (f : Nat) : ∀ l : Lat, SizeOf.sizeOf l ≤ f → Xh l = true → TotV l := by
 induction f with
 | zero => intro l hn; cases l; simp at hn
 | succ f ih =>
  intro l hn hc
  have hp : ∀ p ∈ l.parts, Xh p = true → TotV p := fun p hp => ih p (by have := Yb hp; omega)
  rw [Vo, Bool.or_eq_true, decide_eq_true_eq, Z0, Z0, decide_eq_true_eq, decide_eq_true_eq] at hc
  obtain ⟨k, lo, hi, ns, ps, rs⟩ := l
  simp only [Lat.kind, Lat.parts] at hc hp
  rcases hc with h | ⟨⟨h7, h2⟩, h3⟩
  · exact tot_n h
  · subst h7
    obtain ⟨p, q, rfl⟩ : ∃ p q, ps = [p, q] := by
     match ps, h2 with
     | [p, q], _ => exact ⟨p, q, rfl⟩
    rw [Z1] at h3
    exact tot_lex (hp p (by simp) (h3 p (by simp))) (hp q (by simp) (h3 q (by simp)))
theorem jlV (f : Nat) : ∀ l : Lat, SizeOf.sizeOf l ≤ f → WfL l → JlV l := by
 induction f with
 | zero => intro l hn; cases l; simp at hn
 | succ f ih =>
  intro l hn hwf
  have hk := hwf.kinds
  have hr := hwf.ranges
  have hp : ∀ p ∈ l.parts, JlV p := fun p hp => ih p (by have := Yb hp; omega) (hwf.part hp)
  have hu := hwf.uni
  have hc := hwf.chain
  have hlo : l.lo ≤ l.hi := by
   have := of_decide_eq_false hr
   omega
  obtain ⟨k, lo, hi, ns, ps, rs⟩ := l
  simp only [Lat.kind, Lat.lo, Lat.hi, Lat.names, Lat.parts, Lat.rules] at hk hp hu hc hlo
  have hkk : (k = 1 ∨ k = 2 ∨ k = 3) ∨ k = 4 ∨ k = 5 ∨ k = 6 ∨ k = 7 ∨ k = 8 ∨ k = 9 ∨ k = 10 := by omega
  rcases hkk with h | rfl | rfl | rfl | rfl | rfl | rfl | rfl
  · exact jl_n h hlo
  · exact jl_set
  · obtain ⟨p, rfl⟩ := List.length_eq_one_iff.1 (hk.2.1 rfl)
    exact jl_map (hp p (by simp))
  · exact jl_prod hp
  · obtain ⟨p, q, rfl, h1⟩ := hc rfl
    exact jl_lexV (hp p (by simp)) (hp q (by simp)) (Zv0 _ p (Nat.le_refl _) h1)
  · exact jl_flat
  · exact Zx9
  · obtain ⟨h1, h2, h3, h4, _⟩ := hu rfl
    exact jl_closed h1 h2 h3 h4
theorem WfL.jl {l : Lat} (h : WfL l) : JlV l := jlV _ l (Nat.le_refl _) h
end
end Go.Proofs.YtbhkcbidcfofiaaGreat
