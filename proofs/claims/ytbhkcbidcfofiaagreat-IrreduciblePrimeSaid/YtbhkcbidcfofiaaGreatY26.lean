/-
  What the statements of the chapter share, part 26: JT4, LR1, JT5, JT6, JT7, LR2, JT8, JT9, JT0.
-/
import Derived.Test.YtbhkcbidcfofiaaGreatY24
import Derived.Test.YtbhkcbidcfofiaaGreatY25
set_option linter.unusedVariables false
set_option linter.unusedSimpArgs false
set_option maxRecDepth 100000
set_option maxHeartbeats 8000000
namespace Go.Proofs.YtbhkcbidcfofiaaGreat
open _root_.Bool renaming and_eq_true → Z0, not_eq_true' → Za, not_eq_true → Zf
open _root_.List renaming length_eq_one_iff → Z1, filterMap_cons → Z2, map_cons → Z3, pairwise_cons → Z4, length_map → Z5, mem_singleton → Z6, all_eq_true → Z7, mem_filter → Zb, mem_cons → Zd
open _root_.Nat renaming zero_le → Z8, le_refl → Zc
open _root_.Prod renaming fst → Z9, snd → Ze
open Go.RowKit
section
mutual
def leqV : Lat → Val → Val → Bool
 | .mk k _ _ _ ps _, a, b =>
   if k = 1 ∨ k = 2 then decide (a.n ≤ b.n) else if k = 3 then decide (b.n ≤ a.n)
   else if k = 4 ∨ k = 10 then Xm a.names b.names
   else if k = 5 then leqMap ps a b else if k = 6 then leqs ps a.parts b.parts else if k = 7 then Yb1 ps a.parts b.parts
   else if k = 8 then decide (a.n = 0 ∨ b.n = 2 ∨ valC a b = 0) else leqE a.entries b.entries
def leqMap : List Lat → Val → Val → Bool
 | [], _, _ => true
 | p :: _, a, b => Zm6 (fun v w => leqV p v w) a b
def leqs : List Lat → List Val → List Val → Bool
 | p :: ps, a :: s, b :: t => leqV p a b && leqs ps s t
 | [], _, _ => true
 | _ :: _, [], _ => true
 | _ :: _, _ :: _, [] => true
def Yb1 : List Lat → List Val → List Val → Bool
 | p :: ps, a :: s, b :: t => if valC a b = 0 then leqLex2 ps s t else leqV p a b
 | [], _, _ => true
 | _ :: _, [], _ => true
 | _ :: _, _ :: _, [] => true
def leqLex2 : List Lat → List Val → List Val → Bool
 | p :: _, a :: _, b :: _ => leqV p a b
 | [], _, _ => true
 | _ :: _, [], _ => true
 | _ :: _, _ :: _, [] => true
end
def Zq4 : List Val → List Val → Bool
 | a :: _, b :: _ => decide (valC a b = 0)
 | [], _ => false
 | _ :: _, [] => false
mutual
def Xa : Lat → Val → Val → Val
 | .mk k lo hi ns ps rs, a, b =>
   if k = 4 then .mk 0 (Xo a.names b.names) [] [] else if k = 10 then .mk 0 (Ua ns rs (Xo a.names b.names)) [] []
   else if k = 9 then .mk 0 [] [] (Uw a.entries b.entries)
   else if k = 5 then joinMap ps a b else if k = 6 then .mk 0 [] (U9 ps a.parts b.parts) []
   else if k = 7 ∧ Zq4 a.parts b.parts = true then .mk 0 [] (Uo ps a.parts b.parts) []
   else if leqV (.mk k lo hi ns ps rs) a b then b else if leqV (.mk k lo hi ns ps rs) b a then a else .mk 2 [] [] []
def joinMap : List Lat → Val → Val → Val
 | [], a, _ => a
 | p :: _, a, b => J4 (fun v w => Xa p v w) a b
def U9 : List Lat → List Val → List Val → List Val
 | p :: ps, a :: s, b :: t => Xa p a b :: U9 ps s t
 | [], _, _ => []
 | _ :: _, [], _ => []
 | _ :: _, _ :: _, [] => []
def Uo : List Lat → List Val → List Val → List Val
 | _ :: ps, a :: s, _ :: t => a :: Zc3 ps s t
 | [], _, _ => []
 | _ :: _, [], _ => []
 | _ :: _, _ :: _, [] => []
def Zc3 : List Lat → List Val → List Val → List Val
 | p :: _, a :: _, b :: _ => [Xa p a b]
 | [], _, _ => []
 | _ :: _, [], _ => []
 | _ :: _, _ :: _, [] => []
end
section
variable {k lo hi : Int} {ns : List ByteArray} {ps : List Lat} {rs : List Rl} {a b : Val}
theorem Zm5 (h : k = 1 ∨ k = 2) : leqV (.mk k lo hi ns ps rs) a b = decide (a.n ≤ b.n) := by rw [leqV, if_pos h]
theorem leqV_3 : leqV (.mk 3 lo hi ns ps rs) a b = decide (b.n ≤ a.n) := by rw [leqV, if_neg (by decide), if_pos (by rfl)]
theorem Jz (h : k = 4 ∨ k = 10) : leqV (.mk k lo hi ns ps rs) a b = Xm a.names b.names := by rw [leqV, if_neg (by omega), if_neg (by omega), if_pos h]
theorem Yb0 {p : Lat} : leqV (.mk 5 lo hi ns [p] rs) a b = Zm6 (leqV p) a b := by rw [leqV, if_neg (by decide), if_neg (by decide), if_neg (by decide), if_pos (by rfl)]; rw [leqMap]
theorem Ya9 : leqV (.mk 6 lo hi ns ps rs) a b = leqs ps a.parts b.parts := by rw [leqV, if_neg (by decide), if_neg (by decide), if_neg (by decide), if_neg (by decide), if_pos (by rfl)]
theorem leqV_7 : leqV (.mk 7 lo hi ns ps rs) a b = Yb1 ps a.parts b.parts := by rw [leqV, if_neg (by decide), if_neg (by decide), if_neg (by decide), if_neg (by decide), if_neg (by decide), if_pos (by rfl)]
theorem leqV_8 : leqV (.mk 8 lo hi ns ps rs) a b = decide (a.n = 0 ∨ b.n = 2 ∨ valC a b = 0) := by rw [leqV, if_neg (by decide), if_neg (by decide), if_neg (by decide), if_neg (by decide), if_neg (by decide), if_neg (by decide), if_pos (by rfl)]
theorem Ya8 : leqV (.mk 9 lo hi ns ps rs) a b = leqE a.entries b.entries := by rw [leqV, if_neg (by decide), if_neg (by decide), if_neg (by decide), if_neg (by decide), if_neg (by decide), if_neg (by decide), if_neg (by decide)]
theorem Yn9 : Xa (.mk 4 lo hi ns ps rs) a b = .mk 0 (Xo a.names b.names) [] [] := by rw [Xa, if_pos (by rfl)]
theorem joinV_10 : Xa (.mk 10 lo hi ns ps rs) a b = .mk 0 (Ua ns rs (Xo a.names b.names)) [] [] := by rw [Xa, if_neg (by decide), if_pos (by rfl)]
theorem Yn6 : Xa (.mk 9 lo hi ns ps rs) a b = .mk 0 [] [] (Uw a.entries b.entries) := by rw [Xa, if_neg (by decide), if_neg (by decide), if_pos (by rfl)]
theorem Yn8 {p : Lat} : Xa (.mk 5 lo hi ns [p] rs) a b = J4 (Xa p) a b := by rw [Xa, if_neg (by decide), if_neg (by decide), if_neg (by decide), if_pos (by rfl)]; rw [joinMap]
theorem Yn7 : Xa (.mk 6 lo hi ns ps rs) a b = .mk 0 [] (U9 ps a.parts b.parts) [] := by rw [Xa, if_neg (by decide), if_neg (by decide), if_neg (by decide), if_neg (by decide), if_pos (by rfl)]
theorem joinV_7 (h : Zq4 a.parts b.parts = true) : Xa (.mk 7 lo hi ns ps rs) a b = .mk 0 [] (Uo ps a.parts b.parts) [] := by rw [Xa, if_neg (by decide), if_neg (by decide), if_neg (by decide), if_neg (by decide), if_neg (by decide), if_pos ⟨rfl, h⟩]
theorem Zj2 (h1 : k = 1 ∨ k = 2 ∨ k = 3 ∨ k = 8 ∨ k = 7 ∧ Zq4 a.parts b.parts = false) : Xa (.mk k lo hi ns ps rs) a b = if leqV (.mk k lo hi ns ps rs) a b then b else if leqV (.mk k lo hi ns ps rs) b a then a else .mk 2 [] [] [] := by
 rw [Xa, if_neg (by omega), if_neg (by omega), if_neg (by omega), if_neg (by omega), if_neg (by omega), if_neg (fun h => by
  rcases h1 with e | e | e | e | e
  · omega
  · omega
  · omega
  · omega
  · rw [e.2] at h; exact absurd h.2 (by decide))]
end
theorem val_ext {a b : Val} (h1 : a.n = b.n) (h2 : a.names = b.names) (h3 : a.parts = b.parts) (h4 : a.entries = b.entries) : a = b := by
 cases a; cases b
 simp only [Val.n, Val.names, Val.parts, Val.entries] at h1 h2 h3 h4
 rw [h1, h2, h3, h4]
def JlV (l : Lat) : Prop := Jl (fun v => Ya l v = true) (leqV l) (Xa l) (botV l)
def TotV (l : Lat) : Prop := ∀ a b, Ya l a = true → Ya l b = true → leqV l a b = true ∨ leqV l b a = true
def PsE (ps : List Lat) (vs : List Val) : Prop := vs.length = ps.length ∧ Vx ps vs = true
theorem Jg {vs : List Val} : PsE [] vs ↔ vs = [] := by
 unfold PsE
 cases vs with
 | nil => rw [Vx]; simp
 | cons v t => simp
theorem Yj {p : Lat} {ps : List Lat} {vs : List Val} : PsE (p :: ps) vs ↔ ∃ v t, vs = v :: t ∧ Ya p v = true ∧ PsE ps t := by
 unfold PsE
 cases vs with
 | nil => simp
 | cons v t =>
  rw [Vx, Z0]
  constructor
  · rintro ⟨h1, h2, h3⟩; exact ⟨v, t, rfl, h2, by simpa using h1, h3⟩
  · rintro ⟨v', t', e, h2, h1, h3⟩; cases e; exact ⟨by simpa using h1, h2, h3⟩
theorem Yo0 : ∀ ps : List Lat, (∀ p ∈ ps, JlV p) → Jl (PsE ps) (leqs ps) (U9 ps) (ps.map botV)
 | [], _ => by
  have hn : ∀ {a b : List Val}, PsE [] a → PsE [] b → a = b := fun h1 h2 => (Jg.1 h1).trans (Jg.1 h2).symm
  exact {
   refl := fun a ha => by rw [leqs]
   trans := fun a b c _ _ _ _ _ => by rw [leqs]
   anti := fun a b ha hb _ _ => hn ha hb
   mem := fun a b ha hb => by rw [U9]; exact Jg.2 rfl
   left := fun a b ha hb => by rw [leqs]
   right := fun a b ha hb => by rw [leqs]
   lub := fun a b c _ _ _ _ _ => by rw [leqs]
   bmem := Jg.2 rfl
   bot := fun a ha => by rw [leqs] }
 | p :: ps, H => by
  have J := H p (by simp)
  have K := Yo0 ps fun q hq => H q (by simp [hq])
  exact {
   refl := fun a ha => by
    obtain ⟨v, t, rfl, h1, h2⟩ := Yj.1 ha
    rw [leqs, J.refl v h1, K.refl t h2]; rfl
   trans := fun a b c ha hb hc x y => by
    obtain ⟨v, t, rfl, h1, h2⟩ := Yj.1 ha
    obtain ⟨v', t', rfl, h1', h2'⟩ := Yj.1 hb
    obtain ⟨v2, t2, rfl, k1, k2⟩ := Yj.1 hc
    rw [leqs, Z0] at *
    exact ⟨J.trans _ _ _ h1 h1' k1 x.1 y.1, K.trans _ _ _ h2 h2' k2 x.2 y.2⟩
   anti := fun a b ha hb x y => by
    obtain ⟨v, t, rfl, h1, h2⟩ := Yj.1 ha
    obtain ⟨v', t', rfl, h1', h2'⟩ := Yj.1 hb
    rw [leqs, Z0] at *
    rw [J.anti _ _ h1 h1' x.1 y.1, K.anti _ _ h2 h2' x.2 y.2]
   mem := fun a b ha hb => by
    obtain ⟨v, t, rfl, h1, h2⟩ := Yj.1 ha
    obtain ⟨v', t', rfl, h1', h2'⟩ := Yj.1 hb
    rw [U9]
    exact Yj.2 ⟨_, _, rfl, J.mem _ _ h1 h1', K.mem _ _ h2 h2'⟩
   left := fun a b ha hb => by
    obtain ⟨v, t, rfl, h1, h2⟩ := Yj.1 ha
    obtain ⟨v', t', rfl, h1', h2'⟩ := Yj.1 hb
    rw [U9, leqs, J.left _ _ h1 h1', K.left _ _ h2 h2']; rfl
   right := fun a b ha hb => by
    obtain ⟨v, t, rfl, h1, h2⟩ := Yj.1 ha
    obtain ⟨v', t', rfl, h1', h2'⟩ := Yj.1 hb
    rw [U9, leqs, J.right _ _ h1 h1', K.right _ _ h2 h2']; rfl
   lub := fun a b c ha hb hc x y => by
    obtain ⟨v, t, rfl, h1, h2⟩ := Yj.1 ha
    obtain ⟨v', t', rfl, h1', h2'⟩ := Yj.1 hb
    obtain ⟨v2, t2, rfl, k1, k2⟩ := Yj.1 hc
    rw [U9]
    rw [leqs, Z0] at *
    exact ⟨J.lub _ _ _ h1 h1' k1 x.1 y.1, K.lub _ _ _ h2 h2' k2 x.2 y.2⟩
   bmem := Yj.2 ⟨_, _, rfl, J.bmem, K.bmem⟩
   bot := fun a ha => by
    obtain ⟨v, t, rfl, h1, h2⟩ := Yj.1 ha
    rw [Z3, leqs, J.bot _ h1, K.bot _ h2]; rfl }
/-! The kinds. -/
theorem el_123 {k lo hi : Int} {ns : List ByteArray} {ps : List Lat} {rs : List Rl} (hk : k = 1 ∨ k = 2 ∨ k = 3) {v : Val} : Ya (.mk k lo hi ns ps rs) v = true ↔ ((if k = 1 then 0 else lo) ≤ v.n ∧ v.n ≤ (if k = 1 then 1 else hi)) ∧ Val.mk v.n [] [] [] = v := by
 have e : Val.mk v.n [] [] [] = v ↔ v.names = [] ∧ v.parts = [] ∧ v.entries = [] := by
  cases v; simp only [Val.n, Val.names, Val.parts, Val.entries, Val.mk.injEq, true_and]
  exact ⟨fun h => ⟨h.1.symm, h.2.1.symm, h.2.2.symm⟩, fun h => ⟨h.1.symm, h.2.1.symm, h.2.2.symm⟩⟩
 rw [e]
 rcases hk with rfl | h
 · rw [isE_1, if_pos rfl, if_pos rfl]
   exact ⟨fun h => ⟨by omega, h.2⟩, fun h => ⟨by omega, h.2⟩⟩
 · rw [isE_23 h, if_neg (by omega), if_neg (by omega)]
theorem tot_n {k lo hi : Int} {ns : List ByteArray} {ps : List Lat} {rs : List Rl} (hk : k = 1 ∨ k = 2 ∨ k = 3) : TotV (.mk k lo hi ns ps rs) := fun a b _ _ => by
 rcases hk with h | h | h
 · rw [Zm5 (.inl h), Zm5 (.inl h), decide_eq_true_eq, decide_eq_true_eq]; omega
 · rw [Zm5 (.inr h), Zm5 (.inr h), decide_eq_true_eq, decide_eq_true_eq]; omega
 · subst h; rw [leqV_3, leqV_3, decide_eq_true_eq, decide_eq_true_eq]; omega
theorem jl_n {k lo hi : Int} {ns : List ByteArray} {ps : List Lat} {rs : List Rl} (hk : k = 1 ∨ k = 2 ∨ k = 3) (hlo : lo ≤ hi) : JlV (.mk k lo hi ns ps rs) := by
 have hle : ∀ a b : Val, leqV (.mk k lo hi ns ps rs) a b = true ↔ if k = 3 then b.n ≤ a.n else a.n ≤ b.n := fun a b => by
  rcases hk with h | h | h
  · rw [Zm5 (.inl h), decide_eq_true_eq, if_neg (by omega)]
  · rw [Zm5 (.inr h), decide_eq_true_eq, if_neg (by omega)]
  · subst h; rw [leqV_3, decide_eq_true_eq, if_pos rfl]
 have hb : botV (.mk k lo hi ns ps rs) = .mk (if k = 1 then 0 else if k = 2 then lo else hi) [] [] [] := by
  rw [botV]
  rcases hk with h | h | h
  · subst h; rfl
  · subst h; rfl
  · subst h; rfl
 have hbn : (botV (.mk k lo hi ns ps rs)).n = if k = 1 then 0 else if k = 2 then lo else hi := by rw [hb]; rfl
 refine jl_total (fun a _ => ?_) (fun a b c _ _ _ => ?_) (fun a b ha hb => ?_) (tot_n hk) (fun a b ha hb => ?_) ((el_123 hk).2 ⟨?_, ?_⟩) fun a ha => ?_
 · rw [hle]; split <;> exact Int.le_refl _
 · rw [hle, hle, hle]; split <;> omega
 · rw [hle, hle]
   intro x y
   rw [el_123 hk] at ha hb
   rw [← ha.2, ← hb.2, show a.n = b.n by split at x <;> split at y <;> omega]
 · rw [Zj2 (by omega)]
   split
   · rfl
   · rename_i h
     rw [if_pos ((tot_n hk a b ha hb).resolve_left h)]
 · rw [hbn]; rcases hk with h | h | h <;> subst h <;> simp <;> omega
 · rw [hbn, hb]
 · rw [el_123 hk] at ha
   rw [hle, hbn]
   rcases hk with h | h | h <;> subst h <;> simp at ha ⊢ <;> omega
theorem el_set' {v : Val} : Val.mk 0 v.names [] [] = v ↔ v.n = 0 ∧ v.parts = [] ∧ v.entries = [] := by
 cases v
 simp only [Val.n, Val.parts, Val.entries, Val.names, Val.mk.injEq, true_and]
 exact ⟨fun h => ⟨h.1.symm, h.2.1.symm, h.2.2.symm⟩, fun h => ⟨h.1.symm, h.2.1.symm, h.2.2.symm⟩⟩
theorem jl_set {lo hi : Int} {ns : List ByteArray} {ps : List Lat} {rs : List Rl} : JlV (.mk 4 lo hi ns ps rs) := by
 refine Jl.map (F := fun s => Yf ns s = true) (le' := Xm) (jn' := Xo) (bot' := []) ?_ Val.names (fun s => .mk 0 s [] []) (fun a => by rw [isE_4, el_set', and_comm]) (fun _ _ => rfl) (fun a b _ _ => Jz (.inl rfl)) (fun a b _ _ => Yn9) (by rw [botV]; rfl)
 exact {
  refl := fun a _ => Yk.2 fun _ h => h
  trans := fun a b c _ _ _ x y => Yk.2 fun z h => Yk.1 y z (Yk.1 x z h)
  anti := fun a b ha hb x y => Uc (Yv.1 ha).1 (Yv.1 hb).1 fun c => ⟨Yk.1 x c, Yk.1 y c⟩
  mem := fun a b ha hb => Zd3 ha hb
  left := fun a b _ _ => Yk.2 fun x h => W1.2 (.inl h)
  right := fun a b _ _ => Yk.2 fun x h => W1.2 (.inr h)
  lub := fun a b c _ _ _ x y => Yk.2 fun z h => (W1.1 h).elim (Yk.1 x z) (Yk.1 y z)
  bmem := rfl
  bot := fun _ _ => rfl }
theorem jl_closed {lo hi : Int} {ns : List ByteArray} {ps : List Lat} {rs : List Rl} (h0 : ns ≠ []) (hns : Yf ns ns = true) (hr : ∀ r ∈ rs, r.concl ∈ ns) (hc : ∀ r ∈ rs, r.cond ≠ []) : JlV (.mk 10 lo hi ns ps rs) := by
 refine Jl.map (F := fun s => Yf ns s = true ∧ V4 rs s = true) (le' := Xm) (jn' := fun a b => Ua ns rs (Xo a b)) (bot' := []) ?_ Val.names (fun s => .mk 0 s [] []) (fun a => by rw [isE_10, el_set', and_comm]) (fun _ _ => rfl) (fun a b _ _ => Jz (.inr rfl)) (fun a b _ _ => joinV_10) (by rw [botV]; rfl)
 have hin : ∀ {a : List ByteArray}, Yf ns a = true → ∀ x ∈ a, x ∈ ns := fun ha x hx => ((Yv.1 ha).2 x hx).2.resolve_left h0
 have hu : ∀ {a b : List ByteArray}, Yf ns a = true → Yf ns b = true → ∀ x ∈ Xo a b, x ∈ ns := fun ha hb x hx => (W1.1 hx).elim (hin ha x) (hin hb x)
 exact {
  refl := fun a _ => Yk.2 fun _ h => h
  trans := fun a b c _ _ _ x y => Yk.2 fun z h => Yk.1 y z (Yk.1 x z h)
  anti := fun a b ha hb x y => Uc (Yv.1 ha.1).1 (Yv.1 hb.1).1 fun c => ⟨Yk.1 x c, Yk.1 y c⟩
  mem := fun a b ha hb => ⟨Yv.2 ⟨close_sorted (Yv.1 hns).1, fun x hx => ⟨((Yv.1 hns).2 x (close_in x hx)).1, .inr (close_in x hx)⟩⟩, close_closed hr (hu ha.1 hb.1)⟩
  left := fun a b ha hb => Yk.2 fun x h => close_sub hr (hu ha.1 hb.1) x (W1.2 (.inl h))
  right := fun a b ha hb => Yk.2 fun x h => close_sub hr (hu ha.1 hb.1) x (W1.2 (.inr h))
  lub := fun a b c ha hb hc x y => Yk.2 fun z h => close_least hr (hu ha.1 hb.1) hc.2 (fun z h => (W1.1 h).elim (Yk.1 x z) (Yk.1 y z)) z h
  bmem := ⟨rfl, Zb3.2 fun r h hx => by
   exfalso
   cases hq : r.cond with
   | nil => exact hc r h hq
   | cons y t => have := hx y (by rw [hq]; simp); cases this⟩
  bot := fun _ _ => rfl }
theorem Vh {lo hi : Int} {ns : List ByteArray} {p : Lat} {rs : List Rl} {v : Val} : Ya (.mk 5 lo hi ns [p] rs) v = true ↔ MapE ns (fun v => Ya p v = true) (botV p) v := by
 rw [isE_5, mapB_one]
 unfold MapE
 simp only [ne_eq, Xd]
theorem jl_map {lo hi : Int} {ns : List ByteArray} {p : Lat} {rs : List Rl} (J : JlV p) : JlV (.mk 5 lo hi ns [p] rs) :=
 Jl.map (jl_maps (only := ns) J) id id (fun a => by rw [Vh]; simp) (fun _ _ => rfl) (fun a b _ _ => Yb0) (fun a b _ _ => Yn8) (by rw [botV]; rfl)
theorem el_parts {v : Val} : Val.mk 0 [] v.parts [] = v ↔ v.n = 0 ∧ v.names = [] ∧ v.entries = [] := by
 cases v
 simp only [Val.n, Val.parts, Val.entries, Val.names, Val.mk.injEq, true_and]
 exact ⟨fun h => ⟨h.1.symm, h.2.1.symm, h.2.2.symm⟩, fun h => ⟨h.1.symm, h.2.1.symm, h.2.2.symm⟩⟩
theorem el67 {k lo hi : Int} {ns : List ByteArray} {ps : List Lat} {rs : List Rl} (hk : k = 6 ∨ k = 7) {v : Val} : Ya (.mk k lo hi ns ps rs) v = true ↔ PsE ps v.parts ∧ Val.mk 0 [] v.parts [] = v := by
 rw [isE_67 hk, el_parts]
 unfold PsE
 exact and_comm
theorem jl_prod {lo hi : Int} {ns : List ByteArray} {ps : List Lat} {rs : List Rl} (H : ∀ p ∈ ps, JlV p) : JlV (.mk 6 lo hi ns ps rs) :=
 Jl.map (Yo0 ps H) Val.parts (fun l => .mk 0 [] l []) (fun a => el67 (.inl rfl)) (fun _ _ => rfl) (fun a b _ _ => Ya9) (fun a b _ _ => Yn7) (by rw [botV, Zr4]; rfl)
def Zf9 (v : Val) : Val × Val := (v.parts.getD 0 Ub, v.parts.getD 1 Ub)
def ofP (x : Val × Val) : Val := .mk 0 [] [x.1, x.2] []
theorem el_7 {lo hi : Int} {ns : List ByteArray} {p q : Lat} {rs : List Rl} {v : Val} : Ya (.mk 7 lo hi ns [p, q] rs) v = true ↔ (Ya p (Zf9 v).1 = true ∧ Ya q (Zf9 v).2 = true) ∧ ofP (Zf9 v) = v := by
 rw [el67 (.inr rfl)]
 constructor
 · rintro ⟨h1, h2⟩
   obtain ⟨a, t, e1, ha, h1⟩ := Yj.1 h1
   obtain ⟨b, t, e2, hb, h1⟩ := Yj.1 h1
   rw [Jg.1 h1] at e2
   rw [e2] at e1
   unfold Zf9 ofP
   rw [e1] at h2 ⊢
   exact ⟨⟨ha, hb⟩, h2⟩
 · rintro ⟨⟨h1, h2⟩, h3⟩
   have e : v.parts = [(Zf9 v).1, (Zf9 v).2] := (congrArg Val.parts h3).symm
   exact ⟨by rw [e]; exact Yj.2 ⟨_, _, rfl, h1, Yj.2 ⟨_, _, rfl, h2, Jg.2 rfl⟩⟩, by rw [e]; exact h3⟩
theorem Wv {lo hi : Int} {ns : List ByteArray} {p q : Lat} {rs : List Rl} (x y : Val × Val) : leqV (.mk 7 lo hi ns [p, q] rs) (ofP x) (ofP y) = if x.1 = y.1 then leqV q x.2 y.2 else leqV p x.1 y.1 := by
 rw [leqV_7]
 show Yb1 [p, q] [x.1, x.2] [y.1, y.2] = _
 rw [Yb1]
 by_cases h : x.1 = y.1
 · rw [if_pos h, if_pos ((Xd _ _).2 h), leqLex2]
 · rw [if_neg h, if_neg (fun e => h ((Xd _ _).1 e))]
theorem Zq3 {lo hi : Int} {ns : List ByteArray} {p q : Lat} {rs : List Rl} (tot : TotV p) {x y : Val × Val} (hx : Ya p x.1 = true) (hy : Ya p y.1 = true) : Xa (.mk 7 lo hi ns [p, q] rs) (ofP x) (ofP y) = ofP (if x.1 = y.1 then (x.1, Xa q x.2 y.2) else if leqV (.mk 7 lo hi ns [p, q] rs) (ofP x) (ofP y) = true then y else x) := by
 have hh : Zq4 (ofP x).parts (ofP y).parts = decide (x.1 = y.1) := by
  show decide (valC x.1 y.1 = 0) = _
  simp only [Xd]
 by_cases h : x.1 = y.1
 · rw [joinV_7 (by rw [hh, decide_eq_true h]), if_pos h]
   show Val.mk 0 [] (Uo [p, q] [x.1, x.2] [y.1, y.2]) [] = _
   rw [Uo, Zc3]; rfl
 · rw [Zj2 (.inr (.inr (.inr (.inr ⟨rfl, by rw [hh, decide_eq_false h]⟩)))), if_neg h]
   by_cases h2 : leqV (.mk 7 lo hi ns [p, q] rs) (ofP x) (ofP y) = true
   · rw [if_pos h2, if_pos h2]
   · have h3 : leqV (.mk 7 lo hi ns [p, q] rs) (ofP y) (ofP x) = true := by
      rw [Wv, if_neg h] at h2
      rw [Wv, if_neg (show ¬ y.1 = x.1 from fun e => h e.symm)]
      exact (tot _ _ hx hy).resolve_left h2
     rw [if_neg h2, if_pos h3, if_neg h2]
theorem jl_lexV {lo hi : Int} {ns : List ByteArray} {p q : Lat} {rs : List Rl} (J : JlV p) (J' : JlV q) (tot : TotV p) : JlV (.mk 7 lo hi ns [p, q] rs) := by
 refine Jl.map (jl_lex J J' tot (lx := fun x y => leqV (.mk 7 lo hi ns [p, q] rs) (ofP x) (ofP y)) (fun x y _ _ => Wv x y) (jx := fun x y => if x.1 = y.1 then (x.1, Xa q x.2 y.2) else if leqV (.mk 7 lo hi ns [p, q] rs) (ofP x) (ofP y) = true then y else x) (fun x y _ _ => rfl)) Zf9 ofP (fun a => el_7) (fun _ _ => rfl) (fun a b ha hb => ?_) (fun a b ha hb => ?_) (by rw [botV, Zr4]; rfl)
 · show _ = leqV _ (ofP (Zf9 a)) (ofP (Zf9 b))
   rw [(el_7.1 ha).2, (el_7.1 hb).2]
 · show _ = ofP _
   rw [← Zq3 tot (el_7.1 ha).1.1 (el_7.1 hb).1.1, (el_7.1 ha).2, (el_7.1 hb).2]
theorem tot_lex {lo hi : Int} {ns : List ByteArray} {p q : Lat} {rs : List Rl} (h1 : TotV p) (h2 : TotV q) : TotV (.mk 7 lo hi ns [p, q] rs) := fun a b ha hb => by
 rw [el_7] at ha hb
 rw [← ha.2, ← hb.2, Wv, Wv]
 by_cases h : (Zf9 a).1 = (Zf9 b).1
 · rw [if_pos h, if_pos h.symm]; exact h2 _ _ ha.1.2 hb.1.2
 · rw [if_neg h, if_neg (fun e => h e.symm)]; exact h1 _ _ ha.1.1 hb.1.1
theorem jl_flat {lo hi : Int} {ns : List ByteArray} {ps : List Lat} {rs : List Rl} : JlV (.mk 8 lo hi ns ps rs) := by
 have hle : ∀ a b : Val, leqV (.mk 8 lo hi ns ps rs) a b = true ↔ a.n = 0 ∨ b.n = 2 ∨ a = b := fun a b => by rw [leqV_8, decide_eq_true_eq, Xd]
 have hj : ∀ a b : Val, Xa (.mk 8 lo hi ns ps rs) a b = if leqV (.mk 8 lo hi ns ps rs) a b then b else if leqV (.mk 8 lo hi ns ps rs) b a then a else .mk 2 [] [] [] := fun a b => Zj2 (by omega)
 have h2m : Ya (.mk 8 lo hi ns ps rs) (.mk 2 [] [] []) = true := isE_8.2 ⟨rfl, rfl, .inr (.inl ⟨rfl, rfl⟩)⟩
 have hz : ∀ {a b : Val}, Ya (.mk 8 lo hi ns ps rs) a = true → Ya (.mk 8 lo hi ns ps rs) b = true → a.n = b.n → a.n ≠ 1 → a = b := fun {a b} ha hb e h1 => by
  rw [isE_8] at ha hb
  have na : a.names = [] := by exact ha.2.2.elim (·.2) (·.elim (·.2) fun h => absurd h.1 h1)
  have nb : b.names = [] := by exact hb.2.2.elim (·.2) (·.elim (·.2) fun h => absurd (e.trans h.1) h1)
  exact val_ext e (na.trans nb.symm) (ha.1.trans hb.1.symm) (ha.2.1.trans hb.2.1.symm)
 have hn : ∀ {a : Val}, Ya (.mk 8 lo hi ns ps rs) a = true → a.n = 0 ∨ a.n = 1 ∨ a.n = 2 := fun ha => by rw [isE_8] at ha; omega
 have hmem : ∀ a b, Ya (.mk 8 lo hi ns ps rs) a = true → Ya (.mk 8 lo hi ns ps rs) b = true → Ya (.mk 8 lo hi ns ps rs) (Xa (.mk 8 lo hi ns ps rs) a b) = true := fun a b ha hb => by
  rw [hj]
  split
  · exact hb
  · split
    · exact ha
    · exact h2m
 exact {
  refl := fun a _ => (hle a a).2 (.inr (.inr rfl))
  trans := fun a b c ha hb hc x y => by
   rw [hle] at *
   rcases x with x | x | rfl
   · exact .inl x
   · rcases y with y | y | rfl
     · omega
     · exact .inr (.inl y)
     · exact .inr (.inl x)
   · exact y
  anti := fun a b ha hb x y => by
   rw [hle] at *
   rcases x with x | x | rfl
   · rcases y with y | y | rfl
     · exact hz ha hb (by omega) (by omega)
     · omega
     · rfl
   · rcases y with y | y | rfl
     · omega
     · exact hz ha hb (by omega) (by omega)
     · rfl
   · rfl
  mem := hmem
  left := fun a b ha hb => by
   rw [hj]
   split
   · assumption
   · split
     · exact (hle a a).2 (.inr (.inr rfl))
     · exact (hle _ _).2 (.inr (.inl rfl))
  right := fun a b ha hb => by
   rw [hj]
   split
   · exact (hle b b).2 (.inr (.inr rfl))
   · split
     · assumption
     · exact (hle _ _).2 (.inr (.inl rfl))
  lub := fun a b c ha hb hc x y => by
   rw [hj]
   split
   · exact y
   · rename_i h1
     split
     · exact x
     · rename_i h2
       rw [hle] at *
       rcases x with x | x | rfl
       · exact absurd (.inl x) h1
       · exact .inr (.inl x)
       · rcases y with y | y | rfl
         · exact absurd (.inl y) h2
         · exact .inr (.inl y)
         · exact absurd (.inr (.inr rfl)) h1
  bmem := by rw [show botV (.mk 8 lo hi ns ps rs) = Ub by rw [botV]; rfl]; exact isE_8.2 ⟨rfl, rfl, .inl ⟨rfl, rfl⟩⟩
  bot := fun a _ => by rw [show botV (.mk 8 lo hi ns ps rs) = Ub by rw [botV]; rfl]; exact (hle _ _).2 (.inl rfl) }
theorem el9 {v : Val} : Val.mk 0 [] [] v.entries = v ↔ v.n = 0 ∧ v.names = [] ∧ v.parts = [] := by
 cases v
 simp only [Val.n, Val.parts, Val.entries, Val.names, Val.mk.injEq, and_true]
 exact ⟨fun h => ⟨h.1.symm, h.2.1.symm, h.2.2.symm⟩, fun h => ⟨h.1.symm, h.2.1.symm, h.2.2.symm⟩⟩
theorem Yb6 {lo hi : Int} {ns : List ByteArray} {ps : List Lat} {rs : List Rl} : JlV (.mk 9 lo hi ns ps rs) :=
 Jl.map jl_reg Val.entries (fun l => .mk 0 [] [] l) (fun a => by rw [Yo2, el9, and_comm]) (fun _ _ => rfl) (fun a b _ _ => Ya8) (fun a b _ _ => Yn6) (by rw [botV]; rfl)
theorem WfL.uni {l : Lat} (h : WfL l) (h10 : l.kind = 10) : l.names ≠ [] ∧ Yf l.names l.names = true ∧ (∀ r ∈ l.rules, r.concl ∈ l.names) ∧ (∀ r ∈ l.rules, r.cond ≠ []) ∧ ∀ r ∈ l.rules, ∀ x ∈ r.cond, x ∈ l.names := by
 have h1 := h.spell
 have hk := h.kinds.2.2.2.2.2.2.2.2.2.1 h10
 have e6 : (l.kind == 6) = false := by rw [h10]; rfl
 unfold Zk0 at h1
 rw [Bool.not_eq_false', e6, Yn0, Bool.false_or, Z0, Z0] at h1
 have h3 : ∀ r ∈ l.rules, ruleB l.names r = true := Z7.1 h1.2
 have h4 : ∀ r ∈ l.rules, r.cond.length ≠ 0 ∧ Xm r.cond l.names = true ∧ hasS l.names r.concl = true := fun r hr => by
  have := h3 r hr
  unfold ruleB at this
  simp only [Z0, decide_eq_true_eq] at this
  exact ⟨this.1.1.1, this.1.2, this.2⟩
 refine ⟨fun e => by rw [e] at hk; simp at hk, Yv.2 ⟨(Zy6 _).1 h1.1.2, fun x hx => ⟨Z7.1 h1.1.1 x hx, .inr hx⟩⟩, fun r hr => (Xn _ _).1 (h4 r hr).2.2, fun r hr e => (h4 r hr).1 (by rw [e]; rfl), fun r hr => Yk.1 (h4 r hr).2.1⟩
theorem WfL.chain {l : Lat} (h : WfL l) (h7 : l.kind = 7) : ∃ p q, l.parts = [p, q] ∧ Wc p = true := by
 have h2 := h.kinds.2.2.1 h7
 have h3 := Zh9 (by decide) (Zo9 h.check).2.2.2
 match hm : l.parts, h2 with
 | [p, q], _ =>
  refine ⟨p, q, rfl, ?_⟩
  unfold Vd at h3
  rw [h7, hm] at h3
  simpa using h3
theorem Zx7 (f : Nat) : ∀ l : Lat, SizeOf.sizeOf l ≤ f → Wc l = true → TotV l := by
 induction f with
 | zero => intro l hn; cases l; simp at hn
 | succ f ih =>
  intro l hn hc
  have hp : ∀ p ∈ l.parts, Wc p = true → TotV p := fun p hp => ih p (by have := Yu hp; omega)
  rw [Zh7, Bool.or_eq_true, decide_eq_true_eq, Z0, Z0, decide_eq_true_eq, decide_eq_true_eq] at hc
  obtain ⟨k, lo, hi, ns, ps, rs⟩ := l
  simp only [Lat.kind, Lat.parts] at hc hp
  rcases hc with h | ⟨⟨h7, h2⟩, h3⟩
  · exact tot_n h
  · subst h7
    obtain ⟨p, q, rfl⟩ : ∃ p q, ps = [p, q] := by
     match ps, h2 with
     | [p, q], _ => exact ⟨p, q, rfl⟩
    rw [Z7] at h3
    exact tot_lex (hp p (by simp) (h3 p (by simp))) (hp q (by simp) (h3 q (by simp)))
theorem jlV (f : Nat) : ∀ l : Lat, SizeOf.sizeOf l ≤ f → WfL l → JlV l := by
 induction f with
 | zero => intro l hn; cases l; simp at hn
 | succ f ih =>
  intro l hn hwf
  have hk := hwf.kinds
  have hr := hwf.ranges
  have hp : ∀ p ∈ l.parts, JlV p := fun p hp => ih p (by have := Yu hp; omega) (hwf.part hp)
  have hu := hwf.uni
  have hc := hwf.chain
  have hlo : l.lo ≤ l.hi := by
   have := of_decide_eq_false hr
   omega
  obtain ⟨k, lo, hi, ns, ps, rs⟩ := l
  simp only [Lat.kind, Lat.lo, Lat.hi, Lat.names, Lat.parts, Lat.rules] at hk hp hu hc hlo
  have hkk : (k = 1 ∨ k = 2 ∨ k = 3) ∨ k = 4 ∨ k = 5 ∨ k = 6 ∨ k = 7 ∨ k = 8 ∨ k = 9 ∨ k = 10 := by omega
  rcases hkk with h | rfl | rfl | rfl | rfl | rfl | rfl | rfl
  · exact jl_n h hlo
  · exact jl_set
  · obtain ⟨p, rfl⟩ := Z1.1 (hk.2.1 rfl)
    exact jl_map (hp p (by simp))
  · exact jl_prod hp
  · obtain ⟨p, q, rfl, h1⟩ := hc rfl
    exact jl_lexV (hp p (by simp)) (hp q (by simp)) (Zx7 _ p (Zc _) h1)
  · exact jl_flat
  · exact Yb6
  · obtain ⟨h1, h2, h3, h4, _⟩ := hu rfl
    exact jl_closed h1 h2 h3 h4
theorem WfL.jl {l : Lat} (h : WfL l) : JlV l := jlV _ l (Zc _) h
end
section
mutual
def trivB : Lat → Bool
 | .mk k lo hi _ ps _ => if k = 2 ∨ k = 3 then decide (lo = hi) else if k = 5 ∨ k = 6 ∨ k = 7 then trivBs ps else false
def trivBs : List Lat → Bool
 | [] => true
 | p :: t => trivB p && trivBs t
end
mutual
def topV : Lat → Val × Bool
 | .mk k lo hi ns ps _ => if k = 1 then (.mk 1 [] [] [], true) else if k = 2 then (.mk hi [] [] [], true) else if k = 3 then (.mk lo [] [] [], true) else if k = 8 then (.mk 2 [] [] [], true)
   else if k = 4 ∨ k = 10 then (.mk 0 ns [] [], decide (0 < ns.length)) else if k = 9 then (Ub, false)
   else if k = 5 then topMap ns ps else if topOk ps then (.mk 0 [] (topVs ps) [], true) else (Ub, false)
def topMap : List ByteArray → List Lat → Val × Bool
 | _, [] => (Ub, true)
 | ns, p :: _ => if trivB p then (Ub, true) else if (topV p).2 = false ∨ ns.length = 0 then (Ub, false) else (.mk 0 ns (List.replicate ns.length (topV p).1) [], true)
def topVs : List Lat → List Val
 | [] => []
 | p :: t => (topV p).1 :: topVs t
def topOk : List Lat → Bool
 | [] => true
 | p :: t => (topV p).2 && topOk t
end
/-! Descriptions that have ranks. -/
mutual
def finB : Lat → Bool
 | .mk k _ _ ns ps _ => !(decide (k = 9) || decide (k = 4 ∨ k = 8 ∨ k = 5) && decide (ns.length = 0)) && finBs ps
def finBs : List Lat → Bool
 | [] => true
 | p :: t => finB p && finBs t
end
mutual
def W3 : Lat → Bool
 | .mk k _ _ _ ps _ => !decide (k = 8 ∨ k = 10) && Vp ps
def Vp : List Lat → Bool
 | [] => true
 | p :: t => W3 p && Vp t
end
def finAt1 (ps : List Lat) : Bool := match ps with | _ :: q :: _ => finB q | _ => true
mutual
def rkdB : Lat → Bool
 | .mk k _ _ _ ps _ => !(decide (k = 9) || decide (k = 7) && !finAt1 ps) && rkdBs ps
def rkdBs : List Lat → Bool
 | [] => true
 | p :: t => rkdB p && rkdBs t
end
mutual
def rkdR : Lat → Bool
 | .mk k _ _ _ ps _ => !(decide (k = 9 ∨ k = 8 ∨ k = 10) || decide (k = 7) && !finAt1 ps) && rkdRs ps
def rkdRs : List Lat → Bool
 | [] => true
 | p :: t => rkdR p && rkdRs t
end
theorem rkdR_eq : ∀ l : Lat, rkdR l = (W3 l && rkdB l)
 | .mk k _ _ _ ps _ => by
  have hs : rkdRs ps = (Vp ps && rkdBs ps) := go ps
  rw [rkdR, W3, rkdB, hs]
  generalize finAt1 ps = a
  by_cases h9 : k = 9
  · subst h9; simp
  by_cases h8 : k = 8
  · subst h8; simp
  by_cases h10 : k = 10
  · subst h10; simp
  · simp only [h9, h8, h10, or_self, decide_false, Bool.false_or, Bool.not_false, Bool.true_and]
    cases (decide (k = 7) && !a) <;> cases Vp ps <;> rfl
where go : ∀ ps : List Lat, rkdRs ps = (Vp ps && rkdBs ps)
 | [] => by rw [rkdRs, Vp, rkdBs]; rfl
 | p :: t => by
  rw [rkdRs, Vp, rkdBs, go t, rkdR_eq p]
  cases W3 p <;> cases rkdB p <;> cases Vp t <;> rfl
mutual
def rkI : Lat → Val → Int
 | .mk k lo hi _ ps _, v =>
   if k = 1 then v.n else if k = 2 then v.n - lo else if k = 3 then hi - v.n else if k = 4 then v.names.length
   else if k = 5 then rkMap ps v.parts else if k = 6 then rkSum ps v.parts else if k = 7 then rkLex ps v.parts else 0
def rkMap : List Lat → List Val → Int
 | [], _ => 0
 | p :: _, vs => (vs.map fun v => rkI p v).sum
def rkSum : List Lat → List Val → Int
 | p :: ps, v :: vs => rkI p v + rkSum ps vs
 | [], _ => 0
 | _ :: _, [] => 0
def rkLex : List Lat → List Val → Int
 | p :: ps, v :: vs => rkLex2 (rkI p v) ps vs
 | [], _ => 0
 | _ :: _, [] => 0
def rkLex2 (c : Int) : List Lat → List Val → Int
 | q :: _, w :: _ => c * (rkI q (topV q).1 + 1) + rkI q w
 | [], _ => 0
 | _ :: _, [] => 0
end
end
section
structure Df {α : Type} (E : α → Prop) (le : α → α → Bool) (jn : α → α → α) (bot : α) (q : Prop) (df : α → α → α) : Prop where
 mem : ∀ a b, E a → E b → E (df a b)
 dle : ∀ a b, E a → E b → le (df a b) a = true
 restore : ∀ a b, E a → E b → le a (jn (df a b) b) = true
 botd : ∀ a b, E a → E b → le a b = true → df a b = bot
 least : q → ∀ a b c, E a → E b → E c → le a (jn c b) = true → le (df a b) c = true
section
variable {α : Type} {E : α → Prop} {le : α → α → Bool} {jn : α → α → α} {bot : α} {q : Prop} {df : α → α → α}
theorem Df.of (J : Jl E le jn bot) {g : α → α → α} (hdf : ∀ a b, E a → E b → df a b = if le a b = true then bot else g a b)
  (hg : ∀ a b, E a → E b → le a b = false → E (g a b) ∧ le (g a b) a = true ∧ le a (jn (g a b) b) = true ∧ (q → ∀ c, E c → le a (jn c b) = true → le (g a b) c = true)) : Df E le jn bot q df where
 mem a b ha hb := by
  rw [hdf a b ha hb]; split
  · exact J.bmem
  · rename_i h; exact (hg a b ha hb (by simpa using h)).1
 dle a b ha hb := by
  rw [hdf a b ha hb]; split
  · exact J.bot a ha
  · rename_i h; exact (hg a b ha hb (by simpa using h)).2.1
 restore a b ha hb := by
  rw [hdf a b ha hb]; split
  · rename_i h; rw [J.bot_left hb]; exact h
  · rename_i h; exact (hg a b ha hb (by simpa using h)).2.2.1
 botd a b ha hb h := by rw [hdf a b ha hb, if_pos h]
 least hq a b c ha hb hc h := by
  rw [hdf a b ha hb]; split
  · exact J.bot c hc
  · rename_i h1; exact (hg a b ha hb (by simpa using h1)).2.2.2 hq c hc h
end
def J7 (bot : Val) (df : Val → Val → Val) (b : Val) (l : List (ByteArray × Val)) : List (ByteArray × Val) := l.filterMap fun x => if valC (df x.2 ((getM b x.1).getD bot)) bot = 0 then none else some (x.1, df x.2 ((getM b x.1).getD bot))
def Zd1 (bot : Val) (df : Val → Val → Val) (a b : Val) : Val := .mk 0 ((J7 bot df b (a.names.zip a.parts)).map Z9) ((J7 bot df b (a.names.zip a.parts)).map Ze) []
mutual
def Ww : Lat → Val → Val → Val
 | .mk k lo hi ns ps rs, a, b =>
   if leqV (.mk k lo hi ns ps rs) a b then botV (.mk k lo hi ns ps rs)
   else if k = 4 then .mk 0 (minS a.names b.names) [] [] else if k = 5 then diffMap ps a b
   else if k = 6 then .mk 0 [] (Zr1 ps a.parts b.parts) []
   else if k = 7 ∧ Zq4 a.parts b.parts = true then .mk 0 [] (diffLex ps a.parts b.parts) []
   else if k = 9 then .mk 0 [] [] (a.entries.filter fun x => !b.entries.any fun y => undE x y) else a
def diffMap : List Lat → Val → Val → Val
 | [], a, _ => a
 | p :: _, a, b => Zd1 (botV p) (fun v w => Ww p v w) a b
def Zr1 : List Lat → List Val → List Val → List Val
 | p :: ps, a :: s, b :: t => Ww p a b :: Zr1 ps s t
 | [], _, _ => []
 | _ :: _, [], _ => []
 | _ :: _, _ :: _, [] => []
def diffLex : List Lat → List Val → List Val → List Val
 | _ :: ps, a :: s, _ :: t => a :: diffLex2 ps s t
 | [], _, _ => []
 | _ :: _, [], _ => []
 | _ :: _, _ :: _, [] => []
def diffLex2 : List Lat → List Val → List Val → List Val
 | p :: _, a :: _, b :: _ => [Ww p a b]
 | [], _, _ => []
 | _ :: _, [], _ => []
 | _ :: _, _ :: _, [] => []
end
def DfV (l : Lat) : Prop := Df (fun v => Ya l v = true) (leqV l) (Xa l) (botV l) (W3 l = true) (Ww l)
section
variable {k lo hi : Int} {ns : List ByteArray} {ps : List Lat} {rs : List Rl}
theorem Zr2 {a b : Val} (h : leqV (.mk k lo hi ns ps rs) a b = true) : Ww (.mk k lo hi ns ps rs) a b = botV (.mk k lo hi ns ps rs) := by rw [Ww, if_pos h]
theorem Zt2 {a b : Val} (hk : k = 1 ∨ k = 2 ∨ k = 3 ∨ k = 8 ∨ k = 10 ∨ k = 7 ∧ Zq4 a.parts b.parts = false) (h : leqV (.mk k lo hi ns ps rs) a b = false) : Ww (.mk k lo hi ns ps rs) a b = a := by
 rw [Ww, if_neg (by rw [h]; decide), if_neg (by omega), if_neg (by omega), if_neg (by omega), if_neg (fun h7 => by
  rcases hk with e | e | e | e | e | e
  · omega
  · omega
  · omega
  · omega
  · omega
  · rw [e.2] at h7; exact absurd h7.2 (by decide)), if_neg (by omega)]
theorem df_self (hd : ¬ (k = 8 ∨ k = 10) → ∀ a b : Val, Ya (.mk k lo hi ns ps rs) a = true → Ya (.mk k lo hi ns ps rs) b = true → leqV (.mk k lo hi ns ps rs) a b = true ∨ leqV (.mk k lo hi ns ps rs) b a = true) (hk : k = 1 ∨ k = 2 ∨ k = 3 ∨ k = 8 ∨ k = 10) (J : JlV (.mk k lo hi ns ps rs)) : DfV (.mk k lo hi ns ps rs) := by
 refine Df.of J (g := fun a _ => a) (fun a b _ _ => ?_) fun a b ha hb hn => ⟨ha, J.refl a ha, J.left a b ha hb, fun hq c hc h => ?_⟩
 · by_cases h : leqV (.mk k lo hi ns ps rs) a b = true
   · rw [if_pos h, Zr2 h]
   · rw [if_neg h, Zt2 (by omega) (by simpa using h)]
 · have h8 : ¬ (k = 8 ∨ k = 10) := fun e => by
    rw [W3, decide_eq_true e] at hq; cases hq
   rcases hd h8 c b hc hb with h1 | h1
   · rw [J.of_le hc hb h1, hn] at h; cases h
   · rw [J.of_ge hc hb h1] at h; exact h
end
theorem df_set {lo hi : Int} {ns : List ByteArray} {ps : List Lat} {rs : List Rl} : DfV (.mk 4 lo hi ns ps rs) := by
 refine Df.of jl_set (g := fun a b => .mk 0 (minS a.names b.names) [] []) (fun a b _ _ => by rw [Ww, if_pos (show (4 : Int) = 4 by rfl)]) fun a b ha hb _ => ?_
 rw [isE_4] at ha
 refine ⟨isE_4.2 ⟨⟨rfl, rfl, rfl⟩, Yf3 _ ha.2⟩, ?_, ?_, fun _ c _ h => ?_⟩
 · rw [Jz (.inl rfl)]; exact Yk.2 fun x hx => (Zp1.1 hx).1
 · rw [Jz (.inl rfl), Yn9]
   exact Yk.2 fun x hx => W1.2 (by
    by_cases h : x ∈ b.names
    · exact .inr h
    · exact .inl (Zp1.2 ⟨hx, h⟩))
 · rw [Jz (.inl rfl), Yn9] at h
   rw [Jz (.inl rfl)]
   exact Yk.2 fun x hx => (W1.1 (Yk.1 h x (Zp1.1 hx).1)).resolve_right (Zp1.1 hx).2
theorem reg_filter {l : List En} (f : En → Bool) (h : regB l = true) : regB (l.filter f) = true := by
 rw [Wo] at *
 exact ⟨fun e he => h.1 e (Zb.1 he).1, h.2.1.filter f, fun e he g hg => h.2.2 e (Zb.1 he).1 g (Zb.1 hg).1⟩
theorem df_register {lo hi : Int} {ns : List ByteArray} {ps : List Lat} {rs : List Rl} : DfV (.mk 9 lo hi ns ps rs) := by
 refine Df.of Yb6 (g := fun a b => .mk 0 [] [] (a.entries.filter fun x => !b.entries.any fun y => undE x y)) (fun a b _ _ => ?_) fun a b ha hb _ => ?_
 · by_cases h : leqV (.mk 9 lo hi ns ps rs) a b = true
   · rw [if_pos h, Zr2 h]
   · rw [if_neg h, Ww, if_neg h, if_neg (by decide), if_neg (by decide), if_neg (by decide), if_neg (fun h => absurd h.1 (by decide)), if_pos rfl]
 rw [Yo2] at ha hb
 have hm : ∀ x, x ∈ (a.entries.filter fun x => !b.entries.any fun y => undE x y) ↔ x ∈ a.entries ∧ ¬ ∃ y ∈ b.entries, undE x y = true := fun x => by
  rw [Zb, Za, ← Zf, List.any_eq_true]
 have hr : regB (a.entries.filter fun x => !b.entries.any fun y => undE x y) = true := reg_filter _ ha.2
 refine ⟨Yo2.2 ⟨⟨rfl, rfl, rfl⟩, hr⟩, ?_, ?_, fun _ c hc h => ?_⟩
 · rw [Ya8]; exact Wp.2 fun p hp => ⟨p, ((hm p).1 hp).1, J1.2 (.inl rfl)⟩
 · rw [Ya8, Yn6]
   refine Wp.2 fun p hp => ?_
   by_cases h : ∃ y ∈ b.entries, undE p y = true
   · obtain ⟨y, hy, h1⟩ := h
     obtain ⟨q, hq, h2⟩ := Zw6 hr hb.2 (.inr hy)
     exact ⟨q, hq, Yf5 h1 h2⟩
   · exact Zw6 hr hb.2 (.inl ((hm p).2 ⟨hp, h⟩))
 · rw [Ya8, Yn6] at h
   rw [Ya8]
   refine Wp.2 fun p hp => ?_
   obtain ⟨h1, h2⟩ := (hm p).1 hp
   obtain ⟨q, hq, h3⟩ := Wp.1 h p h1
   rcases (U5.1 hq).1 with h4 | h4
   · exact ⟨q, h4, h3⟩
   · exact absurd ⟨q, h4, h3⟩ h2
theorem Yp8 : ∀ (ps : List Lat) (_ : ∀ p ∈ ps, JlV p) (_ : ∀ p ∈ ps, DfV p), Df (PsE ps) (leqs ps) (U9 ps) (ps.map botV) (Vp ps = true) (Zr1 ps)
 | [], _, _ => {
   mem := fun a b ha hb => by rw [Zr1]; exact Jg.2 rfl
   dle := fun a b _ _ => by rw [leqs]
   restore := fun a b _ _ => by rw [leqs]
   botd := fun a b _ _ _ => by rw [Zr1]; rfl
   least := fun _ a b c _ _ _ _ => by rw [leqs] }
 | p :: ps, HJ, HD => by
  have J := HD p (by simp)
  have K := Yp8 ps (fun q hq => HJ q (by simp [hq])) fun q hq => HD q (by simp [hq])
  exact {
   mem := fun a b ha hb => by
    obtain ⟨v, t, rfl, h1, h2⟩ := Yj.1 ha
    obtain ⟨v', t', rfl, h1', h2'⟩ := Yj.1 hb
    rw [Zr1]
    exact Yj.2 ⟨_, _, rfl, J.mem _ _ h1 h1', K.mem _ _ h2 h2'⟩
   dle := fun a b ha hb => by
    obtain ⟨v, t, rfl, h1, h2⟩ := Yj.1 ha
    obtain ⟨v', t', rfl, h1', h2'⟩ := Yj.1 hb
    rw [Zr1, leqs, J.dle _ _ h1 h1', K.dle _ _ h2 h2']; rfl
   restore := fun a b ha hb => by
    obtain ⟨v, t, rfl, h1, h2⟩ := Yj.1 ha
    obtain ⟨v', t', rfl, h1', h2'⟩ := Yj.1 hb
    rw [Zr1, U9, leqs, J.restore _ _ h1 h1', K.restore _ _ h2 h2']; rfl
   botd := fun a b ha hb x => by
    obtain ⟨v, t, rfl, h1, h2⟩ := Yj.1 ha
    obtain ⟨v', t', rfl, h1', h2'⟩ := Yj.1 hb
    rw [leqs, Z0] at x
    rw [Zr1, J.botd _ _ h1 h1' x.1, K.botd _ _ h2 h2' x.2]; rfl
   least := fun hq a b c ha hb hc x => by
    obtain ⟨v, t, rfl, h1, h2⟩ := Yj.1 ha
    obtain ⟨v', t', rfl, h1', h2'⟩ := Yj.1 hb
    obtain ⟨v2, t2, rfl, k1, k2⟩ := Yj.1 hc
    rw [Vp, Z0] at hq
    rw [U9, leqs, Z0] at x
    rw [Zr1, leqs, J.least hq.1 _ _ _ h1 h1' k1 x.1, K.least hq.2 _ _ _ h2 h2' k2 x.2]; rfl }
theorem Zr0 {l : Lat} (h : W3 l = true) : l.kind ≠ 8 ∧ l.kind ≠ 10 ∧ Vp l.parts = true := by
 obtain ⟨k, lo, hi, ns, ps, rs⟩ := l
 rw [W3, Z0, Za, decide_eq_false_iff_not] at h
 exact ⟨fun e => h.1 (.inl e), fun e => h.1 (.inr e), h.2⟩
theorem Jd : ∀ {ps : List Lat}, Vp ps = true ↔ ∀ p ∈ ps, W3 p = true
 | [] => by rw [Vp]; simp
 | p :: t => by rw [Vp, Z0, Jd]; simp
theorem df_prod {lo hi : Int} {ns : List ByteArray} {ps : List Lat} {rs : List Rl} (HJ : ∀ p ∈ ps, JlV p) (HD : ∀ p ∈ ps, DfV p) : DfV (.mk 6 lo hi ns ps rs) := by
 have K := Yp8 ps HJ HD
 refine Df.of (jl_prod HJ) (g := fun a b => .mk 0 [] (Zr1 ps a.parts b.parts) []) (fun a b _ _ => ?_) fun a b ha hb _ => ?_
 · by_cases h : leqV (.mk 6 lo hi ns ps rs) a b = true
   · rw [if_pos h, Zr2 h]
   · rw [if_neg h, Ww, if_neg h, if_neg (by decide), if_neg (by decide), if_pos rfl]
 rw [el67 (.inl rfl)] at ha hb
 refine ⟨(el67 (.inl rfl)).2 ⟨K.mem _ _ ha.1 hb.1, rfl⟩, ?_, ?_, fun hq c hc h => ?_⟩
 · rw [Ya9]; exact K.dle _ _ ha.1 hb.1
 · rw [Ya9, Yn7]; exact K.restore _ _ ha.1 hb.1
 · rw [el67 (.inl rfl)] at hc
   rw [Ya9, Yn7] at h
   rw [Ya9]; exact K.least (Zr0 hq).2.2 _ _ _ ha.1 hb.1 hc.1 h
theorem diffV_lex {lo hi : Int} {ns : List ByteArray} {p q : Lat} {rs : List Rl} {x y : Val × Val} (h : leqV (.mk 7 lo hi ns [p, q] rs) (ofP x) (ofP y) = false) : Ww (.mk 7 lo hi ns [p, q] rs) (ofP x) (ofP y) = ofP (if x.1 = y.1 then (x.1, Ww q x.2 y.2) else x) := by
 have hh : Zq4 (ofP x).parts (ofP y).parts = decide (x.1 = y.1) := by
  show decide (valC x.1 y.1 = 0) = _
  simp only [Xd]
 by_cases e : x.1 = y.1
 · rw [Ww, if_neg (by rw [h]; decide), if_neg (by decide), if_neg (by decide), if_neg (by decide), if_pos ⟨rfl, by rw [hh, decide_eq_true e]⟩, if_pos e]
   show Val.mk 0 [] (diffLex [p, q] [x.1, x.2] [y.1, y.2]) [] = _
   rw [diffLex, diffLex2]; rfl
 · rw [Zt2 (.inr (.inr (.inr (.inr (.inr ⟨rfl, by rw [hh, decide_eq_false e]⟩))))) h, if_neg e]
theorem df_lex {lo hi : Int} {ns : List ByteArray} {p q : Lat} {rs : List Rl} (J : JlV p) (J' : JlV q) (D' : DfV q) (tot : TotV p) : DfV (.mk 7 lo hi ns [p, q] rs) := by
 have JL := jl_lexV (lo := lo) (hi := hi) (ns := ns) (rs := rs) J J' tot
 have hE : ∀ {x : Val × Val}, Ya p x.1 = true → Ya q x.2 = true → Ya (.mk 7 lo hi ns [p, q] rs) (ofP x) = true := fun h1 h2 => el_7.2 ⟨⟨h1, h2⟩, rfl⟩
 refine Df.of JL (g := fun a b => Ww (.mk 7 lo hi ns [p, q] rs) a b) (fun a b _ _ => ?_) fun a b ha hb hn => ?_
 · by_cases h : leqV (.mk 7 lo hi ns [p, q] rs) a b = true
   · rw [if_pos h, Zr2 h]
   · rw [if_neg h]
 have ha' := el_7.1 ha
 have hb' := el_7.1 hb
 rw [← ha'.2, ← hb'.2] at hn ⊢
 show Ya _ (Ww _ _ _) = true ∧ leqV _ (Ww _ _ _) _ = true ∧ leqV _ _ (Xa _ (Ww _ _ _) _) = true ∧ _
 rw [diffV_lex hn]
 generalize Zf9 a = x at *
 generalize Zf9 b = y at *
 obtain ⟨⟨a0, a1⟩, _⟩ := ha'
 obtain ⟨⟨b0, b1⟩, _⟩ := hb'
 rw [Wv] at hn
 by_cases e : x.1 = y.1
 · rw [if_pos e] at hn ⊢
   have hd : Ya q (Ww q x.2 y.2) = true := D'.mem _ _ a1 b1
   refine ⟨hE a0 hd, ?_, ?_, fun hq c hc h => ?_⟩
   · rw [Wv, if_pos rfl]; exact D'.dle _ _ a1 b1
   · rw [Zq3 tot (x := (x.1, Ww q x.2 y.2)) a0 b0, if_pos e, Wv, if_pos rfl]; exact D'.restore _ _ a1 b1
   · have hc' := el_7.1 hc
     rw [← hc'.2] at h ⊢
     generalize Zf9 c = z at *
     obtain ⟨⟨c0, c1⟩, _⟩ := hc'
     have hq' : W3 q = true := Jd.1 (Zr0 hq).2.2 q (by simp [Lat.parts])
     rw [Zq3 tot c0 b0] at h
     rw [Wv]
     by_cases e2 : z.1 = y.1
     · rw [if_pos e2, Wv, if_pos (e.trans e2.symm)] at h
       rw [if_pos (e.trans e2.symm)]
       exact D'.least hq' _ _ _ a1 b1 c1 h
     · rw [if_neg e2] at h
       rw [if_neg (show ¬ x.1 = z.1 from fun h => e2 (h.symm.trans e))]
       split at h
       · rw [Wv, if_pos e, hn] at h; cases h
       · rw [Wv, if_neg (show ¬ x.1 = z.1 from fun h => e2 (h.symm.trans e))] at h; exact h
 · rw [if_neg e] at hn ⊢
   refine ⟨hE a0 a1, JL.refl _ (hE a0 a1), JL.left _ _ (hE a0 a1) (hE b0 b1), fun hq c hc h => ?_⟩
   have hc' := el_7.1 hc
   rw [← hc'.2] at h ⊢
   generalize Zf9 c = z at *
   obtain ⟨⟨c0, c1⟩, _⟩ := hc'
   rw [Zq3 tot c0 b0] at h
   by_cases e2 : z.1 = y.1
   · rw [if_pos e2, Wv, if_neg (show ¬ x.1 = z.1 from fun h => e (h.trans e2)), e2, hn] at h; cases h
   · rw [if_neg e2] at h
     split at h
     · rw [Wv, if_neg e, hn] at h; cases h
     · exact h
theorem Zk7 {g : ByteArray → Val → Option Val} : ∀ {l : List (ByteArray × Val)} {s : ByteArray}, (l.map Z9).Pairwise ltS →
  getL ((l.filterMap fun x => (g x.1 x.2).map fun d => (x.1, d)).map Z9) ((l.filterMap fun x => (g x.1 x.2).map fun d => (x.1, d)).map Ze) s = (getL (l.map Z9) (l.map Ze) s).bind (g s)
 | [], s, _ => by simp [getL]
 | (n, v) :: t, s, h => by
  rw [Z3, Z4] at h
  have ih := Zk7 (g := g) (l := t) (s := s) h.2
  rw [Z3, Z3, getL]
  by_cases e : n = s
  · subst e
    rw [if_pos rfl]
    cases hg : g n v with
    | none =>
     simp only [Z2, hg, Option.map_none]
     rw [ih]
     have : getL (t.map Z9) (t.map Ze) n = none := (Jm (by simp)).2 fun hm => Xq n (h.1 n hm)
     rw [this]; exact hg.symm
    | some d =>
     simp only [Z2, hg, Option.map_some, Z3]
     rw [getL, if_pos rfl]; exact hg.symm
  · rw [if_neg e]
    cases hg : g n v with
    | none => simp only [Z2, hg, Option.map_none]; exact ih
    | some d =>
     simp only [Z2, hg, Option.map_some, Z3]
     rw [getL, if_neg e]; exact ih
theorem Yj3 : ∀ {ns : List ByteArray} {ps : List Val}, ns.length = ps.length → (ns.zip ps).map Z9 = ns ∧ (ns.zip ps).map Ze = ps
 | [], [], _ => ⟨rfl, rfl⟩
 | n :: ns, p :: ps, h => by
  have := Yj3 (ns := ns) (ps := ps) (by simpa using h)
  rw [List.zip_cons_cons, Z3, Z3, this.1, this.2]
  exact ⟨rfl, rfl⟩
 | [], _ :: _, h => by simp at h
 | _ :: _, [], h => by simp at h
def dfAt (bot : Val) (df : Val → Val → Val) (b : Val) (s : ByteArray) (v : Val) : Option Val := if df v ((getM b s).getD bot) = bot then none else some (df v ((getM b s).getD bot))
theorem getM_diff {only : List ByteArray} {E : Val → Prop} {bot : Val} {df : Val → Val → Val} {a b : Val} (ha : MapE only E bot a) (s : ByteArray) : getM (Zd1 bot df a b) s = (getM a s).bind (dfAt bot df b s) := by
 have hz := Yj3 ha.2.1
 have e : J7 bot df b (a.names.zip a.parts) = (a.names.zip a.parts).filterMap fun x => (dfAt bot df b x.1 x.2).map fun d => (x.1, d) := by
  unfold J7 dfAt
  congr 1
  funext x
  by_cases h : df x.2 ((getM b x.1).getD bot) = bot
  · rw [if_pos h, if_pos ((Xd _ _).2 h)]; rfl
  · rw [if_neg h, if_neg (fun q => h ((Xd _ _).1 q))]; rfl
 have e2 : getM (Zd1 bot df a b) s = getL ((J7 bot df b (a.names.zip a.parts)).map Z9) ((J7 bot df b (a.names.zip a.parts)).map Ze) s := rfl
 rw [e2, e, Zk7 (g := dfAt bot df b) (by rw [hz.1]; exact ha.sorted), hz.1, hz.2]
 rfl
theorem sub_keys {only : List ByteArray} {E : Val → Prop} {bot : Val} {df : Val → Val → Val} {a b : Val} (ha : MapE only E bot a) : (Zd1 bot df a b).names.Sublist a.names := by
 have hz := Yj3 ha.2.1
 have key : ∀ l : List (ByteArray × Val), ((J7 bot df b l).map Z9).Sublist (l.map Z9) := fun l => by
  unfold J7
  induction l with
  | nil => exact .slnil
  | cons x t ih =>
   rw [Z2]
   split
   · rename_i h; exact ih.cons _
   · rename_i y h
     split at h
     · cases h
     · cases h; exact ih.cons_cons _
 have := key (a.names.zip a.parts)
 rw [hz.1] at this
 exact this
theorem df_map {lo hi : Int} {ns : List ByteArray} {p : Lat} {rs : List Rl} (J : JlV p) (D : DfV p) : DfV (.mk 5 lo hi ns [p] rs) := by
 refine Df.of (jl_map J) (g := Zd1 (botV p) (Ww p)) (fun a b _ _ => ?_) fun a b ha hb hn => ?_
 · by_cases h : leqV (.mk 5 lo hi ns [p] rs) a b = true
   · rw [if_pos h, Zr2 h]
   · rw [if_neg h, Ww, if_neg h, if_neg (by decide), if_pos rfl, diffMap]
 rw [Vh] at ha hb
 have hg := fun s => getM_diff (df := Ww p) (b := b) ha s
 have hbs : ∀ s, Ya p ((getM b s).getD (botV p)) = true := fun s => by
  cases hw : getM b s with
  | none => exact J.bmem
  | some w => exact (hb.get hw).1
 have hm : MapE ns (fun v => Ya p v = true) (botV p) (Zd1 (botV p) (Ww p) a b) := by
  refine ⟨⟨rfl, rfl⟩, by show (List.map _ _).length = (List.map _ _).length; rw [Z5, Z5], Yv.2 ⟨ha.sorted.sublist (sub_keys ha), fun x hx => (Yv.1 ha.2.2.1).2 x ((sub_keys ha).subset hx)⟩, fun d hd => ?_⟩
  obtain ⟨x, hx, rfl⟩ := List.mem_map.1 hd
  obtain ⟨y, hy, hxy⟩ := List.mem_filterMap.1 hx
  split at hxy
  · cases hxy
  · rename_i h
    cases hxy
    exact ⟨D.mem _ _ (ha.2.2.2 _ (List.of_mem_zip hy).2).1 (hbs _), fun e => h ((Xd _ _).2 e)⟩
 refine ⟨Vh.2 hm, ?_, ?_, fun hq c hc h => ?_⟩
 · rw [Yb0, Xr hm.sorted]
   intro s d hd
   rw [hg] at hd
   cases hv : getM a s with
   | none => rw [hv] at hd; cases hd
   | some v =>
    rw [hv] at hd
    have hd : dfAt (botV p) (Ww p) b s v = some d := hd
    unfold dfAt at hd
    split at hd
    · cases hd
    · cases hd; exact ⟨v, rfl, D.dle _ _ (ha.get hv).1 (hbs s)⟩
 · rw [Yb0, Yn8, Xr ha.sorted]
   intro s v hv
   rw [Zg7 (Xa p) hm hb, hg, hv]
   show ∃ w, cmbM (Xa p) (dfAt (botV p) (Ww p) b s v) (getM b s) = some w ∧ _
   have hr := D.restore v _ (ha.get hv).1 (hbs s)
   unfold dfAt
   split
   · rename_i h0
     rw [h0, J.bot_left (hbs s)] at hr
     cases hw : getM b s with
     | none =>
      rw [hw] at hr
      exact absurd ((J.is_bot (ha.get hv).1).1 hr) (ha.get hv).2
     | some w => rw [hw] at hr; exact ⟨w, rfl, hr⟩
   · cases hw : getM b s with
     | none =>
      rw [hw] at hr
      have h1 := D.mem v (botV p) (ha.get hv).1 J.bmem
      rw [show Xa p (Ww p v ((none : Option Val).getD (botV p))) ((none : Option Val).getD (botV p)) = Ww p v (botV p) from J.of_ge h1 J.bmem (J.bot _ h1)] at hr
      exact ⟨_, rfl, hr⟩
     | some w => rw [hw] at hr; exact ⟨_, rfl, hr⟩
 · rw [Vh] at hc
   rw [Yb0, Yn8, Xr ha.sorted] at h
   rw [Yb0, Xr hm.sorted]
   intro s d hd
   have hq' : W3 p = true := Jd.1 (Zr0 hq).2.2 p (by simp [Lat.parts])
   rw [hg] at hd
   cases hv : getM a s with
   | none => rw [hv] at hd; cases hd
   | some v =>
    rw [hv] at hd
    have hd : dfAt (botV p) (Ww p) b s v = some d := hd
    unfold dfAt at hd
    split at hd
    · cases hd
    · rename_i h0
      cases hd
      obtain ⟨w, hw, h1⟩ := h s v hv
      rw [Zg7 (Xa p) hc hb] at hw
      have hve := (ha.get hv).1
      cases hu : getM c s with
      | none =>
       rw [hu] at hw
       have hw : getM b s = some w := hw
       rw [hw] at h0
       exact absurd (D.botd v w hve (hb.get hw).1 h1) h0
      | some u =>
       refine ⟨u, rfl, D.least hq' _ _ _ hve (hbs s) (hc.get hu).1 ?_⟩
       rw [hu] at hw
       cases hx : getM b s with
       | none =>
        rw [hx] at hw
        have hw : u = w := Option.some.inj hw
        rw [← hw] at h1
        show leqV p v (Xa p u (botV p)) = true
        rw [J.of_ge (hc.get hu).1 J.bmem (J.bot _ (hc.get hu).1)]; exact h1
       | some x => rw [hx] at hw; cases hw; exact h1
theorem dfV (f : Nat) : ∀ l : Lat, SizeOf.sizeOf l ≤ f → WfL l → DfV l := by
 induction f with
 | zero => intro l hn; cases l; simp at hn
 | succ f ih =>
  intro l hn hwf
  have hk := hwf.kinds
  have hJ := hwf.jl
  have hp : ∀ p ∈ l.parts, DfV p := fun p hp => ih p (by have := Yu hp; omega) (hwf.part hp)
  have hj : ∀ p ∈ l.parts, JlV p := fun p hp => (hwf.part hp).jl
  have hc := hwf.chain
  obtain ⟨k, lo, hi, ns, ps, rs⟩ := l
  simp only [Lat.kind, Lat.lo, Lat.hi, Lat.names, Lat.parts, Lat.rules] at hk hp hj hc
  have hkk : (k = 1 ∨ k = 2 ∨ k = 3) ∨ k = 4 ∨ k = 5 ∨ k = 6 ∨ k = 7 ∨ (k = 8 ∨ k = 10) ∨ k = 9 := by omega
  rcases hkk with h | rfl | rfl | rfl | rfl | h | rfl
  · exact df_self (fun _ a b ha hb => tot_n h a b ha hb) (by omega) hJ
  · exact df_set
  · obtain ⟨p, rfl⟩ := Z1.1 (hk.2.1 rfl)
    exact df_map (hj p (by simp)) (hp p (by simp))
  · exact df_prod hj hp
  · obtain ⟨p, q, rfl, h1⟩ := hc rfl
    exact df_lex (hj p (by simp)) (hj q (by simp)) (hp q (by simp)) (Zx7 _ p (Zc _) h1)
  · exact df_self (fun h' => absurd h h') (by omega) hJ
  · exact df_register
theorem WfL.df {l : Lat} (h : WfL l) : DfV l := dfV _ l (Zc _) h
end
section
def belowC (ns : List ByteArray) (rs : List Rl) (s : List ByteArray) : List ByteArray := ofS (s.flatMap fun n => if Ua ns rs [n] = s then [] else Ua ns rs [n])
def Yk3 (ns : List ByteArray) (rs : List Rl) (s : List ByteArray) : Bool := !decide (Ua ns rs (belowC ns rs s) = s) && !decide (s = [])
def botsB : List Lat → List Val → Bool
 | p :: ps, v :: vs => decide (valC v (botV p) = 0) && botsB ps vs
 | [], _ => true
 | _ :: _, [] => true
mutual
def irrV : Lat → Val → Bool
 | .mk k lo hi ns ps rs, v =>
   if k = 4 then decide (v.names.length = 1) else if k = 9 then decide (v.entries.length = 1)
   else if k = 8 then decide (v.n = 1 ∨ (v.n = 2 ∧ ns.length = 1)) else if k = 10 then Yk3 ns rs v.names
   else if k = 5 then decide (v.names.length = 1) && Yh9 ps v.parts else if k = 6 then irrs ps v.parts
   else if k = 7 then irrLex ps v.parts else !decide (valC v (botV (.mk k lo hi ns ps rs)) = 0)
def Yh9 : List Lat → List Val → Bool
 | p :: _, v :: _ => irrV p v
 | [], _ => false
 | _ :: _, [] => false
def irrs : List Lat → List Val → Bool
 | p :: ps, v :: vs => if valC v (botV p) = 0 then irrs ps vs else irrV p v && botsB ps vs
 | [], _ => false
 | _ :: _, [] => false
def irrLex : List Lat → List Val → Bool
 | p :: ps, v :: vs => irrLex2 (decide (valC v (botV p) = 0)) ps vs
 | [], _ => false
 | _ :: _, [] => false
def irrLex2 (z : Bool) : List Lat → List Val → Bool
 | q :: _, w :: _ => if valC w (botV q) = 0 then !z else irrV q w
 | [], _ => false
 | _ :: _, [] => false
end
theorem botsB_iff : ∀ {ps : List Lat} {vs : List Val}, vs.length = ps.length → (botsB ps vs = true ↔ vs = ps.map botV)
 | [], [], _ => by simp [botsB]
 | p :: ps, v :: vs, h => by
  rw [botsB, Z0, decide_eq_true_eq, Xd, botsB_iff (by simpa using h), Z3, List.cons.injEq]
 | [], _ :: _, h => by simp at h
 | _ :: _, [], h => by simp at h
section
variable {k lo hi : Int} {ns : List ByteArray} {ps : List Lat} {rs : List Rl} {v : Val}
theorem irrV_4 : irrV (.mk 4 lo hi ns ps rs) v = decide (v.names.length = 1) := by rw [irrV, if_pos (by rfl)]
theorem irrV_9 : irrV (.mk 9 lo hi ns ps rs) v = decide (v.entries.length = 1) := by rw [irrV, if_neg (by decide), if_pos (by rfl)]
theorem irrV_5 {p : Lat} : irrV (.mk 5 lo hi ns [p] rs) v = (decide (v.names.length = 1) && Yh9 [p] v.parts) := by rw [irrV, if_neg (by decide), if_neg (by decide), if_neg (by decide), if_neg (by decide), if_pos (by rfl)]
theorem irrV_6 : irrV (.mk 6 lo hi ns ps rs) v = irrs ps v.parts := by rw [irrV, if_neg (by decide), if_neg (by decide), if_neg (by decide), if_neg (by decide), if_neg (by decide), if_pos (by rfl)]
theorem irrV_7 {p q : Lat} {x : Val × Val} : irrV (.mk 7 lo hi ns [p, q] rs) (ofP x) = if x.2 = botV q then !decide (x.1 = botV p) else irrV q x.2 := by
 rw [irrV, if_neg (by decide), if_neg (by decide), if_neg (by decide), if_neg (by decide), if_neg (by decide), if_neg (by decide), if_pos (by rfl)]
 show irrLex [p, q] [x.1, x.2] = _
 rw [irrLex, irrLex2]
 by_cases h : x.2 = botV q
 · rw [if_pos h, if_pos ((Xd _ _).2 h)]; simp only [Xd]
 · rw [if_neg h, if_neg (fun e => h ((Xd _ _).1 e))]
theorem bot_else (h2 : k ≠ 2) (h3 : k ≠ 3) (h6 : k ≠ 6) (h7 : k ≠ 7) : botV (.mk k lo hi ns ps rs) = Ub := by rw [botV, if_neg h2, if_neg h3, if_neg (by omega)]
theorem bot67 (h : k = 6 ∨ k = 7) : botV (.mk k lo hi ns ps rs) = .mk 0 [] (ps.map botV) [] := by rw [botV, if_neg (by omega), if_neg (by omega), if_pos h, Zr4]
end
theorem one_map {lo hi : Int} {ns : List ByteArray} {p : Lat} {rs : List Rl} {v : Val} (he : Ya (.mk 5 lo hi ns [p] rs) v = true) (h : irrV (.mk 5 lo hi ns [p] rs) v = true) : ∃ s w, v = .mk 0 [s] [w] [] ∧ irrV p w = true ∧ Ya p w = true ∧ w ≠ botV p := by
 rw [Vh] at he
 rw [irrV_5, Z0, decide_eq_true_eq] at h
 obtain ⟨n, nm, pt, es⟩ := v
 obtain ⟨s, e1⟩ := Z1.1 (show nm.length = 1 from h.1)
 obtain ⟨w, e2⟩ := Z1.1 (show pt.length = 1 from (show nm.length = pt.length from he.2.1) ▸ h.1)
 have e3 : n = 0 := he.1.1
 have e4 : es = [] := he.1.2
 subst e1 e2 e3 e4
 have h2 : Yh9 [p] [w] = true := h.2
 rw [Yh9] at h2
 have := he.2.2.2 w (Z6.2 rfl)
 exact ⟨s, w, rfl, h2, this.1, this.2⟩
theorem irrs_df : ∀ {ps : List Lat} {vs bs : List Val}, (∀ p ∈ ps, JlV p) → (∀ p ∈ ps, DfV p) → (∀ p ∈ ps, ∀ v a, Ya p v = true → Ya p a = true → irrV p v = true → leqV p v a = true ∨ Ww p v a = v) → PsE ps vs → PsE ps bs → irrs ps vs = true → leqs ps vs bs = true ∨ Zr1 ps vs bs = vs
 | [], _, _, _, _, _, _, _, h => by rw [irrs] at h; cases h
 | p :: ps, vs, bs, HJ, HD, H, hv, hb, h => by
  obtain ⟨v, t, rfl, h1, h2⟩ := Yj.1 hv
  obtain ⟨b, t', rfl, h3, h4⟩ := Yj.1 hb
  have J := HJ p (by simp)
  have D := HD p (by simp)
  have HJ' : ∀ q ∈ ps, JlV q := fun q hq => HJ q (by simp [hq])
  have HD' : ∀ q ∈ ps, DfV q := fun q hq => HD q (by simp [hq])
  have JP := Yo0 ps HJ'
  have DP := Yp8 ps HJ' HD'
  rw [irrs] at h
  rw [leqs, Zr1]
  by_cases e : v = botV p
  · rw [if_pos ((Xd _ _).2 e)] at h
    have hle : leqV p v b = true := by rw [e]; exact J.bot b h3
    rw [hle, Bool.true_and, D.botd _ _ h1 h3 hle, ← e, List.cons.injEq]
    exact (irrs_df HJ' HD' (fun q hq => H q (by simp [hq])) h2 h4 h).imp id fun h => ⟨rfl, h⟩
  · rw [if_neg (fun q => e ((Xd _ _).1 q)), Z0, botsB_iff h2.1] at h
    have hle : leqs ps t t' = true := by rw [h.2]; exact JP.bot _ h4
    have hd : Zr1 ps t t' = t := by rw [DP.botd _ _ h2 h4 hle]; exact h.2.symm
    rw [hle, Bool.and_true, hd, List.cons.injEq]
    exact (H p (by simp) v b h1 h3 h.1).imp id fun h => ⟨h, rfl⟩
theorem irr_df (f : Nat) : ∀ l : Lat, SizeOf.sizeOf l ≤ f → WfL l → W3 l = true → ∀ v a, Ya l v = true → Ya l a = true → irrV l v = true → leqV l v a = true ∨ Ww l v a = v := by
 induction f with
 | zero => intro l hn; cases l; simp at hn
 | succ f ih =>
  intro l hn hwf hd v a hv ha h
  by_cases hle : leqV l v a = true
  · exact .inl hle
  have hk := hwf.kinds
  have hp : ∀ p ∈ l.parts, W3 p = true → ∀ v a, Ya p v = true → Ya p a = true → irrV p v = true → leqV p v a = true ∨ Ww p v a = v := fun p hp => ih p (by have := Yu hp; omega) (hwf.part hp)
  have hj : ∀ p ∈ l.parts, JlV p := fun p hp => (hwf.part hp).jl
  have hD : ∀ p ∈ l.parts, DfV p := fun p hp => (hwf.part hp).df
  have hc := hwf.chain
  have hdp := Zr0 hd
  obtain ⟨k, lo, hi, ns, ps, rs⟩ := l
  simp only [Lat.kind, Lat.lo, Lat.hi, Lat.names, Lat.parts, Lat.rules] at hk hp hj hD hc hdp
  have hkk : (k = 1 ∨ k = 2 ∨ k = 3) ∨ k = 4 ∨ k = 5 ∨ k = 6 ∨ k = 7 ∨ k = 9 := by omega
  have hle' := hle
  rcases hkk with h1 | rfl | rfl | rfl | rfl | rfl
  · exact .inr (Zt2 (by omega) (by simpa using hle))
  · rw [irrV_4, decide_eq_true_eq] at h
    right
    rw [Ww, if_neg hle, if_pos rfl]
    rw [isE_4] at hv
    obtain ⟨s, hs⟩ := Z1.1 h
    have : minS v.names a.names = v.names := by
     rw [Jz (.inl rfl), Yk, hs] at hle
     rw [hs]
     unfold minS
     refine List.filter_eq_self.2 fun x hx => ?_
     rw [Za, ← Zf, Xn]
     rw [Z6] at hx
     exact fun hm => hle fun y hy => by rw [Z6] at hy; rw [hy, ← hx]; exact hm
    rw [this]; exact el_set'.2 hv.1
  · obtain ⟨p, rfl⟩ := Z1.1 (hk.2.1 rfl)
    obtain ⟨s, w, rfl, h1, h2, h3⟩ := one_map hv h
    right
    rw [Ww, if_neg hle, if_neg (by decide), if_pos rfl, diffMap]
    have J := hj p (by simp)
    have D := hD p (by simp)
    have ha' := Vh.1 ha
    have hq : W3 p = true := Jd.1 hdp.2.2 p (by simp)
    have hw : Ww p w ((getM a s).getD (botV p)) = w := by
     cases hg : getM a s with
     | none => exact ((hp p (by simp) hq w _ h2 J.bmem h1).resolve_left fun q => h3 ((J.is_bot h2).1 q))
     | some u =>
      refine (hp p (by simp) hq w u h2 (ha'.get hg).1 h1).resolve_left fun q => hle ?_
      rw [Yb0]
      unfold Zm6
      show ([(s, w)].all _) = true
      rw [List.all_cons, hg, List.all_nil, Bool.and_true]; exact q
    unfold Zd1 J7
    show Val.mk 0 (List.map _ (List.filterMap _ [(s, w)])) (List.map _ (List.filterMap _ [(s, w)])) [] = _
    have e : ([(s, w)].filterMap fun x : ByteArray × Val => if valC (Ww p x.2 ((getM a x.1).getD (botV p))) (botV p) = 0 then none else some (x.1, Ww p x.2 ((getM a x.1).getD (botV p)))) = [(s, w)] := by
     rw [Z2, hw, if_neg (fun q => h3 ((Xd _ _).1 q))]; rfl
    rw [e]; rfl
  · rw [irrV_6] at h
    rw [el67 (.inl rfl)] at hv ha
    have := irrs_df hj hD (fun p hp' => hp p hp' (Jd.1 hdp.2.2 p hp')) hv.1 ha.1 h
    rw [Ya9] at hle
    right
    rw [Ww, if_neg hle', if_neg (by decide), if_neg (by decide), if_pos rfl, this.resolve_left hle]
    exact hv.2
  · obtain ⟨p, q, rfl, h1⟩ := hc rfl
    have hv' := el_7.1 hv
    have ha' := el_7.1 ha
    rw [← hv'.2, ← ha'.2] at hle
    rw [← hv'.2] at h
    rw [← hv'.2, ← ha'.2]
    right
    rw [diffV_lex (by simpa using hle)]
    congr 1
    generalize Zf9 v = x at *
    generalize Zf9 a = y at *
    by_cases e : x.1 = y.1
    · rw [if_pos e]
      rw [irrV_7] at h
      rw [Wv, if_pos e] at hle
      by_cases e2 : x.2 = botV q
      · exact absurd (by rw [e2]; exact (hj q (by simp)).bot _ ha'.1.2) hle
      · rw [if_neg e2] at h
        rw [(hp q (by simp) (Jd.1 hdp.2.2 q (by simp)) x.2 y.2 hv'.1.2 ha'.1.2 h).resolve_left hle]
    · rw [if_neg e]
  · rw [irrV_9, decide_eq_true_eq] at h
    right
    rw [Ww, if_neg hle, if_neg (by decide), if_neg (by decide), if_neg (by decide), if_neg (fun h => absurd h.1 (by decide)), if_pos rfl]
    rw [Yo2] at hv
    obtain ⟨s, hs⟩ := Z1.1 h
    have : (v.entries.filter fun x => !a.entries.any fun y => undE x y) = v.entries := by
     rw [Ya8, Wp, hs] at hle
     rw [hs]
     refine List.filter_eq_self.2 fun x hx => ?_
     rw [Za, ← Zf, List.any_eq_true]
     rw [Z6] at hx
     exact fun hm => hle fun y hy => by rw [Z6] at hy; rw [hy, ← hx]; exact hm
    rw [this]; exact el9.2 hv.1
theorem prime {l : Lat} (hwf : WfL l) (hd : W3 l = true) {v a b : Val} (hv : Ya l v = true) (ha : Ya l a = true) (hb : Ya l b = true) (h : irrV l v = true) (hle : leqV l v (Xa l a b) = true) : leqV l v a = true ∨ leqV l v b = true := by
 have J := hwf.jl
 have D := hwf.df
 rcases irr_df _ l (Zc _) hwf hd v b hv hb h with h1 | h1
 · exact .inr h1
 · have := D.least hd v b a hv hb ha hle
   rw [h1] at this
   exact .inl this
end
section
mutual
def decV : Lat → Val → List Val
 | .mk k lo hi ns ps rs, v =>
   if k = 4 then v.names.map fun n => .mk 0 [n] [] [] else if k = 5 then decMap ps v
   else if k = 6 then (decs ps v.parts).map fun l => .mk 0 [] l [] else if k = 7 then Zu9 ps v.parts
   else if k = 9 then v.entries.map fun x => .mk 0 [] [] [x]
   else if valC v (botV (.mk k lo hi ns ps rs)) = 0 then [] else [v]
def decMap : List Lat → Val → List Val
 | p :: _, v => (v.names.zip v.parts).flatMap fun x => (decV p x.2).map fun d => .mk 0 [x.1] [d] []
 | [], _ => []
def decs : List Lat → List Val → List (List Val)
 | p :: ps, v :: vs => ((decV p v).map fun d => d :: ps.map botV) ++ (decs ps vs).map fun l => botV p :: l
 | [], _ => []
 | _ :: _, [] => []
def Zu9 : List Lat → List Val → List Val
 | p :: ps, v :: vs => (Zt3 (decide (valC v (botV p) = 0)) ps vs).map fun d => .mk 0 [] [v, d] []
 | [], _ => []
 | _ :: _, [] => []
def Zt3 (z : Bool) : List Lat → List Val → List Val
 | q :: _, w :: _ => if (decV q w).isEmpty && !z then [botV q] else decV q w
 | [], _ => []
 | _ :: _, [] => []
end
structure Dc (l : Lat) (v : Val) : Prop where
 mem : ∀ p ∈ decV l v, Ya l p = true ∧ irrV l p = true ∧ leqV l p v = true
 up : ∀ c, Ya l c = true → (∀ p ∈ decV l v, leqV l p c = true) → leqV l v c = true
 inc : (decV l v).Pairwise fun p q => leqV l p q = false ∧ leqV l q p = false
section
variable {lo hi : Int} {ns : List ByteArray} {ps : List Lat} {rs : List Rl}
end
/-! Irredundant lists. -/
def Zg5 (l : Lat) (L : List Val) : Val := L.foldl (Xa l) (botV l)
def irdB (l : Lat) (L : List Val) : Bool := (List.range L.length).all fun i => !leqV l (L.getD i Ub) (Zg5 l (L.take i ++ L.drop (i + 1)))
section
variable {l : Lat} (hwf : WfL l) (hd : W3 l = true)
include hwf
include hd
end
/-! How many pieces there are. -/
mutual
theorem Yp9 : ∀ (l : Lat) (v : Val), (decV l v).length ≤ Vv v
 | .mk k lo hi ns ps rs, .mk n nm pt es => by
  rw [decV, Vv]
  have hp : (decMap ps (.mk n nm pt es)).length ≤ Yr pt := by
   match ps with
   | [] => rw [decMap]; exact Z8 _
   | p :: t =>
    rw [decMap]
    show ((nm.zip pt).flatMap _).length ≤ _
    exact dec_lens p nm pt
  have hs : (decs ps pt).length ≤ Yr pt := decs_len ps pt
  have hl : (Zu9 ps pt).length ≤ 1 + Yr pt := decLex_len ps pt
  split
  · simp [Val.names]; omega
  split
  · omega
  split
  · rw [Z5]; show (decs ps pt).length ≤ _; omega
  split
  · show (Zu9 ps pt).length ≤ _; omega
  split
  · simp [Val.entries]; omega
  split
  · simp
  · simp; omega
theorem dec_lens : ∀ (p : Lat) (nm : List ByteArray) (pt : List Val), ((nm.zip pt).flatMap fun x => (decV p x.2).map fun d => Val.mk 0 [x.1] [d] []).length ≤ Yr pt
 | _, [], pt => by simp
 | _, _ :: _, [] => by simp
 | p, n :: nm, v :: pt => by
  have h1 := Yp9 p v
  have h2 := dec_lens p nm pt
  rw [List.zip_cons_cons, List.flatMap_cons, List.length_append, Z5, Yr]
  show (decV p v).length + _ ≤ _
  omega
theorem decs_len : ∀ (ps : List Lat) (pt : List Val), (decs ps pt).length ≤ Yr pt
 | [], _ => by rw [decs]; exact Z8 _
 | _ :: _, [] => by rw [decs]; exact Z8 _
 | p :: ps, v :: vs => by
  have h1 := Yp9 p v
  have h2 := decs_len ps vs
  rw [decs, List.length_append, Z5, Z5, Yr]
  omega
theorem decLex_len : ∀ (ps : List Lat) (pt : List Val), (Zu9 ps pt).length ≤ 1 + Yr pt
 | [], _ => by rw [Zu9]; exact Z8 _
 | _ :: _, [] => by rw [Zu9]; exact Z8 _
 | p :: ps, v :: vs => by
  rw [Zu9, Z5, Yr]
  have := decLex2_len (decide (valC v (botV p) = 0)) ps vs
  omega
theorem decLex2_len : ∀ (z : Bool) (ps : List Lat) (pt : List Val), (Zt3 z ps pt).length ≤ 1 + Yr pt
 | _, [], _ => by rw [Zt3]; exact Z8 _
 | _, _ :: _, [] => by rw [Zt3]; exact Z8 _
 | z, p :: ps, v :: vs => by
  have h1 := Yp9 p v
  rw [Zt3, Yr]
  split
  · simp
  · omega
end
end
section
def ov : Int := 1000000000000001
theorem len_two {α : Type} {l : List α} (h : l.length = 2) : ∃ a b, l = [a, b] := by
 match l, h with
 | [a, b], _ => exact ⟨a, b, rfl⟩
end
section
def meetMapF (bot : Val) (mt : Val → Val → Val) (a b : Val) : Val :=
 .mk 0 (((a.names.zip a.parts).filterMap fun x => ((getM b x.1).bind fun w => if valC (mt x.2 w) bot = 0 then none else some (mt x.2 w)).map fun d => (x.1, d)).map Z9)
  (((a.names.zip a.parts).filterMap fun x => ((getM b x.1).bind fun w => if valC (mt x.2 w) bot = 0 then none else some (mt x.2 w)).map fun d => (x.1, d)).map Ze) []
mutual
def meetV : Lat → Val → Val → Val
 | .mk k lo hi ns ps rs, a, b =>
   if k = 4 ∨ k = 10 then .mk 0 (interS a.names b.names) [] []
   else if k = 5 then meetMap ps a b else if k = 6 then .mk 0 [] (meets ps a.parts b.parts) []
   else if k = 7 ∧ Zq4 a.parts b.parts = true then .mk 0 [] (meetLex ps a.parts b.parts) []
   else if leqV (.mk k lo hi ns ps rs) a b then a else if leqV (.mk k lo hi ns ps rs) b a then b else Ub
def meetMap : List Lat → Val → Val → Val
 | [], a, _ => a
 | p :: _, a, b => meetMapF (botV p) (fun v w => meetV p v w) a b
def meets : List Lat → List Val → List Val → List Val
 | p :: ps, a :: s, b :: t => meetV p a b :: meets ps s t
 | [], _, _ => []
 | _ :: _, [], _ => []
 | _ :: _, _ :: _, [] => []
def meetLex : List Lat → List Val → List Val → List Val
 | _ :: ps, a :: s, _ :: t => a :: meetLex2 ps s t
 | [], _, _ => []
 | _ :: _, [], _ => []
 | _ :: _, _ :: _, [] => []
def meetLex2 : List Lat → List Val → List Val → List Val
 | p :: _, a :: _, b :: _ => [meetV p a b]
 | [], _, _ => []
 | _ :: _, [], _ => []
 | _ :: _, _ :: _, [] => []
end
structure Rk {α : Type} (E : α → Prop) (le : α → α → Bool) (jn mt : α → α → α) (bot : α) (rk : α → Int) : Prop where
 bot0 : rk bot = 0
 mem : ∀ a b, E a → E b → E (mt a b)
 mono : ∀ a b, E a → E b → le a b = true → rk a ≤ rk b
 strict : ∀ a b, E a → E b → le a b = true → rk a = rk b → a = b
 val : ∀ a b, E a → E b → rk (jn a b) + rk (mt a b) = rk a + rk b
def RkV (l : Lat) : Prop := Rk (fun v => Ya l v = true) (leqV l) (Xa l) (meetV l) (botV l) (rkI l)
section
variable {k lo hi : Int} {ns : List ByteArray} {ps : List Lat} {rs : List Rl}
end
end
section
section
variable {α : Type} {E : α → Prop} {le : α → α → Bool} {jn : α → α → α} {bot : α} {q : Prop} {df : α → α → α}
end
section
variable {l : Lat} (hwf : WfL l) {a b c : Val} (ha : Ya l a = true) (hb : Ya l b = true) (hc : Ya l c = true)
include hwf ha hb
include hc
end
end
section
def atV (p : Lat) (v : Val) (s : ByteArray) : Val := (getM v s).getD (botV p)
section
variable {k lo hi : Int} {ns : List ByteArray} {ps : List Lat} {rs : List Rl} {p : Lat} {a b : Val}
end
/-! Decompositions in the order of values. -/
def insV (c : Val) : List Val → List Val
 | [] => [c]
 | y :: t => if 0 < valC c y then y :: insV c t else c :: y :: t
def srtV (L : List Val) : List Val := L.foldr insV []
theorem Yb8 (c : Val) : ∀ L : List Val, (insV c L).Perm (c :: L)
 | [] => .refl _
 | y :: t => by
  rw [insV]
  split
  · exact ((Yb8 c t).cons y).trans (.swap c y t)
  · exact .refl _
theorem Zy1 : ∀ L : List Val, (srtV L).Perm L
 | [] => .refl _
 | x :: t => (Yb8 x (srtV t)).trans ((Zy1 t).cons x)
def leC (x y : Val) : Prop := ¬ valC y x < 0
theorem leC_trans {x y z : Val} (h : leC x y) (k : leC y z) : leC x z := by
 unfold leC at *
 have h1 := Zv4 x y z
 unfold Tri at h1
 rw [Vm x y] at h
 rw [Vm y z] at k
 rw [Vm x z]
 omega
theorem Yb7 (c : Val) : ∀ L : List Val, L.Pairwise leC → (insV c L).Pairwise leC
 | [], _ => by simp [insV]
 | y :: t, h => by
  obtain ⟨h1, h2⟩ := Z4.1 h
  rw [insV]
  split
  · rename_i hlt
    refine Z4.2 ⟨fun d hd => ?_, Yb7 c t h2⟩
    rcases Zd.1 ((Yb8 c t).mem_iff.1 hd) with rfl | hd
    · unfold leC; omega
    · exact h1 d hd
  · rename_i hle
    have hcy : leC c y := by unfold leC; rw [Vm c y]; omega
    refine Z4.2 ⟨fun d hd => ?_, h⟩
    rcases Zd.1 hd with rfl | hd
    · exact hcy
    · exact leC_trans hcy (h1 d hd)
theorem Zy0 : ∀ L : List Val, (srtV L).Pairwise leC
 | [] => .nil
 | x :: t => Yb7 x _ (Zy0 t)
theorem Yf6 : ∀ {L M : List Val}, L.Perm M → L.Pairwise leC → M.Pairwise leC → L = M
 | [], M, h, _, _ => by rw [h.nil_eq]
 | x :: s, [], h, _, _ => by have := h.length_eq; simp at this
 | x :: s, y :: t, h, h1, h2 => by
  obtain ⟨a1, a2⟩ := Z4.1 h1
  obtain ⟨b1, b2⟩ := Z4.1 h2
  have e : x = y := by
   rcases Zd.1 (h.mem_iff.1 (by simp : x ∈ x :: s)) with e | hx
   · exact e
   rcases Zd.1 (h.mem_iff.2 (by simp : y ∈ y :: t)) with e | hy
   · exact e.symm
   have q1 := a1 y hy
   have q2 := b1 x hx
   unfold leC at q1 q2
   rw [Vm x y] at q1
   exact (Xd x y).1 (by omega)
  subst e
  rw [Yf6 (List.Perm.cons_inv h) a2 b2]
theorem srt_is {L M : List Val} (h : M.Perm L) (hs : M.Pairwise leC) : M = srtV L := Yf6 (h.trans (Zy1 L).symm) hs (Zy0 L)
def errF (l : Lat) (L : List Val) : Int := if chkE l ≠ 0 then 1 else if L.all (Ya l) then 0 else 4
theorem Zt0 {l : Lat} {L : List Val} : errF l L = 0 ↔ chkE l = 0 ∧ ∀ v ∈ L, Ya l v = true := by
 unfold errF
 by_cases h : chkE l = 0
 · rw [if_neg (fun q => q h)]
   cases ha : L.all (Ya l)
   · rw [if_neg (by decide)]
     constructor
     · intro q; exact absurd q (by decide)
     · intro q; rw [Z7.2 q.2] at ha; cases ha
   · rw [if_pos rfl]; exact ⟨fun _ => ⟨h, Z7.1 ha⟩, fun _ => rfl⟩
 · rw [if_pos h]
   exact ⟨fun q => absurd q (by decide), fun q => absurd q.1 h⟩
end
end Go.Proofs.YtbhkcbidcfofiaaGreat
