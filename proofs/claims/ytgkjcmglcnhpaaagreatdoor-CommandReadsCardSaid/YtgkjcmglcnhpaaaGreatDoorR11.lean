/-
  What the statements of the chapter share, part 11: K7.
-/
import Derived.Test.YtgkjcmglcnhpaaaGreatDoorR10
set_option linter.unusedVariables false
set_option linter.unusedSimpArgs false
set_option maxRecDepth 100000
set_option maxHeartbeats 8000000
namespace Go.Proofs.YtgkjcmglcnhpaaaGreatDoor
open _root_.Array renaming getD_eq_getD_getElem? → Z0, getElem?_eq_some_iff → Z1, getElem?_replicate → Z4
open _root_.List renaming getElem?_eq_getElem → Z2
open _root_.Nat renaming beq → Z3, zero_add → Z5
open Go.RowKit
section
variable {P : Program} {G : Nat → D} {n : Nat} {h : List Ob} {t : Tr}
theorem Zx4 {ops : Array Oper} (hL : LexOk ops) {ef : Nat → Ef} {Q : (Nat → D) → List Ob → Prop} (hE : efOk .any ops ef) : ∀ (l : List Oper) (k : Nat) (listed : Array Bool) (e : Nat → D) (h : List Ob), Closed .any ops listed → (∀ j, j < ops.size → listed[j]? = some (decide (j < k))) → listed.size = ops.size → (∀ j, l[j]? = ops[k + j]?) → af P G n ops ef Q k l e h → afAny P G n .any ops ef Q l.length listed e h
 | [], k, listed, e, h, _, hd, hs, hl, q => by
  refine ⟨?_, q⟩
  rw [List.eq_nil_iff_forall_not_mem]
  intro i hi
  obtain ⟨h1, o, h2, _⟩ := mem_ready.1 hi
  have hlt := (Z1.1 h2).1
  have hk : ¬ k ≤ i := fun hk => by
   have := hl (i - k)
   rw [show k + (i - k) = i by omega, h2] at this; simp at this
  rw [Z0, hd i hlt, decide_eq_true (by omega)] at h1
  cases h1
 | o :: l, k, listed, e, h, hcl, hd, hs, hl, q => by
  have h0 : ops[k]? = some o := by simpa using (hl 0).symm
  have hk := (Z1.1 h0).1
  obtain ⟨hy, hok, hK⟩ := q
  have hr : k ∈ Region.ready .any ops listed := mem_ready.2 ⟨by rw [Z0, hd k hk]; simp, o, h0, fun e he hb => by
   have := hL.back k o h0 e he hb
   rw [Z0, hd e.on (by omega), decide_eq_true this]; rfl⟩
  refine afAny_first h0 l.length listed e h hcl (fun j oj hj hjk hun hno hnt => ?_) hr hy hok (Zx4 hL hE l (k + 1) _ _ _ (hcl.set hr) (fun j hj => ?_) (by simpa using hs) (fun j => by have := hl (j + 1); simpa [Nat.add_assoc, Nat.add_comm 1 j] using this) hK)
  · have hjs := (Z1.1 hj).1
    have hlt : k < j := by
     rw [Z0, hd j hjs] at hun
     have : ¬ j < k := by simpa using hun
     omega
    exact ⟨hL.apart k j o oj hlt h0 hj hno, hE k j oj hlt hj hno hnt⟩
  · rw [Array.getElem?_setIfInBounds]
    by_cases hkj : k = j
    · subst hkj; rw [if_pos rfl, if_pos (by omega), decide_eq_true (by omega)]
    · rw [if_neg hkj, hd j hj]
      congr 1
      by_cases hjk : j < k
      · rw [decide_eq_true hjk, decide_eq_true (by omega)]
      · rw [decide_eq_false hjk, decide_eq_false (by omega)]
theorem aw_drawQ {id : Nat} {l : List Oper} {e : Nat → D} {Q : Exit → S → Prop} {ef : Nat → Ef} (hm : P.follows .mixedOrders = true) (hB : LexOk l.toArray) (hE : efOk .any l.toArray ef) (H : af P G n l.toArray ef (fun e h => Q .normal ⟨n, e, h⟩) 0 l e h) : aw P G (.region id l.toArray true) Q ⟨n, e, h⟩ := fun B a w r => by
 obtain ⟨hd, p, r⟩ := r
 have hdr := r.ok.drew
 have r' : Sit G B ⟨n, e, h⟩ a { w with drawn := w.drawn + 1 } := ⟨hd, p, hdr.1, r.evo.trans hdr.2, fun t => hdr.2.rd r.ok (r.tmp t), r.size, r.defers⟩
 refine wp_region_any hm (Jt (ef := ef) (Q := fun e h => Q .normal ⟨n, e, h⟩) (fun e h a w q r => ⟨_, q, r⟩) _ _ _ _ _ _ r' ?_)
 have := Zx4 (P := P) (G := G) (n := n) hB (Q := fun e h => Q .normal ⟨n, e, h⟩) hE l 0 (Array.replicate l.toArray.size false) e h (fun j oj hj hl => by
  have hlt := (Z1.1 hj).1
  rw [Z0, Z4, if_pos hlt] at hl
  cases hl) (fun j hj => by rw [Z4, if_pos hj]; simp) (by simp) (by simp) H
 simpa using this
theorem aw_drawnK (hG : ∀ g, low 0 (G g)) {cal : Cal} (hc : CalOk P G cal) {id : Nat} {ops : Array Oper} {Q : Exit → S → Prop} {t' : Tr} {h' : List Ob} {es : List Ef} (hm : P.follows .mixedOrders = true) (hB : lexQ ops ops.toList 0 [] = true) (q : drawK P G cal n ops ops.toList t h = .mk t' h' es) (hchk : chkK ops es es 0 = true) (k : Q .normal ⟨n, t'.get, h'⟩) : aw P G (.region id ops true) Q ⟨n, t.get, h⟩ := by
 have hB := lexQ_ok hB
 obtain ⟨ops⟩ := ops
 obtain ⟨a1, a2, a3⟩ := Yc1 hG hc ops t h t' h' es q
 refine aw_holes (h'.length - h.length) (aw_drawQ (ef := fun k => (es[k]?).getD nopF) hm hB (fun i j oj hij hj hno hnt => ?_) (a3 _ 0 (fun j E hj => by simp [hj]) _ (Nat.le_refl _) _ (by simpa [holes] using k)))
 have hjl : j < es.length := by
  have := (Z1.1 hj).1
  simp at this; rw [a1]; exact this
 rcases chkK_comp hchk (Z2 (show i < es.length by omega)) (Z2 hjl) hij with hw | hc
 · exfalso
   rw [hnt] at hw; cases hw
 · simp only [Z2 (show i < es.length by omega), Z2 hjl, Option.getD_some]
   exact hc
abbrev Run := Nat → Tr → List Ob → Rs
noncomputable def goOn (r : Rs) (f : Tr → List Ob → Rs) : Rs := @Rs.casesOn (fun _ => Rs) r .no fun e t h => @Exit.casesOn (fun _ => Rs) e (f t h) (fun i => .mk (.exit i) t h) (fun i => .mk (.goto i) t h) (.mk .ret t h) (fun _ => .no) .no
theorem goOn_mk {r : Rs} {f : Tr → List Ob → Rs} {e : Exit} {h : List Ob} (q : goOn r f = .mk e t h) : (∃ t1 h1, r = .mk .normal t1 h1 ∧ f t1 h1 = .mk e t h) ∨ (r = .mk e t h ∧ e ≠ .normal) := by
 cases r with
 | no => cases q
 | mk e1 t1 h1 =>
  cases e1 with
  | normal => exact .inl ⟨t1, h1, rfl, q⟩
  | exit i => cases q; exact .inr ⟨rfl, by intro h; cases h⟩
  | goto i => cases q; exact .inr ⟨rfl, by intro h; cases h⟩
  | ret => cases q; exact .inr ⟨rfl, by intro h; cases h⟩
  | _ => cases q
noncomputable def cndK (d : D) (a b : Rs) : Rs := @D.casesOn (fun _ => Rs) d .no (fun x => @Value.casesOn (fun _ => Rs) x (fun s => bc s a b) (fun _ _ => .no) (fun _ _ => .no) (fun _ _ _ => .no) (fun _ => .no) (fun _ => .no) (fun _ _ _ => .no) (fun _ => .no) (fun _ => .no) (fun _ _ _ => .no) .no (fun _ _ => .no) .no (fun _ => .no) (fun _ => .no)) (fun _ _ => .no) (fun _ => .no) (fun _ => .no) (fun _ => .no) (fun _ _ => .no) (fun _ _ => .no) (fun _ _ _ _ => .no) (fun _ _ _ _ => .no) (fun _ _ _ _ _ => .no) (fun _ => .no) .no (fun _ _ => .no)
noncomputable def blkK (id : Nat) (r : Rs) : Rs := @Rs.casesOn (fun _ => Rs) r .no fun e t h => @Exit.casesOn (fun _ => Rs) e r (fun i => bc (Z3 i id) (.mk .normal t h) r) (fun _ => r) r (fun _ => r) r
noncomputable def scpK (r : Rs) : Rs := @Rs.casesOn (fun _ => Rs) r .no fun e _ _ => @Exit.casesOn (fun _ => Rs) e r (fun _ => r) (fun _ => .no) r (fun _ => r) r
noncomputable def execK (P : Program) (G : Nat → D) (cal : Cal) (k : Nat) (c : Code) : Run := @Code.rec (fun _ => Run) (fun _ t h => .mk .normal t h)
 (fun _ ops dr n t h => bc dr (bc (lexQ ops ops.toList 0 []) (@Dr.casesOn (fun _ => Rs) (drawK P G cal n ops ops.toList t h) .no fun t1 h1 es => bc (chkK ops es es 0) (.mk .normal t1 h1) .no) .no) (@Sr.casesOn (fun _ => Rs) (seqK P G cal n ops ops.toList t h) .no fun t1 h1 => .mk .normal t1 h1))
 (fun _ _ x y n t h => goOn (x n t h) (y n))
 (fun c _ _ x y n t h => cndK (evK G t c) (x n t h) (y n t h))
 (fun id _ x n t h => blkK id (x n t h))
 (fun _ x n t h => @Nat.rec (fun _ => Tr → List Ob → Rs) (fun _ _ => .no) (fun _ again t h => goOn (x n t h) again) k t h)
 (fun _ _ _ _ _ _ _ _ _ => .no)
 (fun id _ t h => .mk (.exit id) t h)
 (fun _ x n t h => scpK (x n t h))
 (fun _ _ t h => .mk .normal t h)
 (fun l _ t h => .mk (.goto l) t h)
 (fun _ t h => .mk .ret t h)
 (fun _ _ _ _ => .no) c
theorem execK_ok (hG : ∀ g, low 0 (G g)) (hm : P.follows .mixedOrders = true) {cal : Cal} (hc : CalOk P G cal) (k : Nat) : ∀ (c : Code) (n : Nat) (t : Tr) (h : List Ob) (e : Exit) (t' : Tr) (h' : List Ob), execK P G cal k c n t h = .mk e t' h' → aw P G c (endsAt n e t' h') ⟨n, t.get, h⟩ := by
 intro c
 induction c with
 | skip => intro n t h e t' h' q; cases q; exact V1 ⟨rfl, rfl⟩
 | label l => intro n t h e t' h' q; cases q; exact aw_label ⟨rfl, rfl⟩
 | exit id => intro n t h e t' h' q; cases q; exact U2 ⟨rfl, rfl⟩
 | goto l => intro n t h e t' h' q; cases q; exact aw_goto ⟨rfl, rfl⟩
 | ret => intro n t h e t' h' q; cases q; exact Uz ⟨rfl, rfl⟩
 | refuse w => intro n t h e t' h' q; cases q
 | rangeFunc f p a b iha ihb => intro n t h e t' h' q; cases q
 | seq x y ihx ihy =>
  intro n t h e t' h' q
  have q : goOn (execK P G cal k x n t h) (execK P G cal k y n) = .mk e t' h' := q
  rcases goOn_mk q with ⟨t1, h1, hx, q⟩ | ⟨q, hne⟩
  · exact We (Ze3 (ihx _ _ _ _ _ _ hx) fun e1 s1 ⟨h2, h3⟩ => by rw [h2, h3]; exact ihy _ _ _ _ _ _ q)
  · refine We (Ze3 (ihx _ _ _ _ _ _ q) fun e1 s1 ⟨h2, h3⟩ => ?_)
    rw [h2, h3]
    cases e with
    | normal => exact absurd rfl hne
    | _ => exact ⟨rfl, rfl⟩
 | cond c x y ihx ihy =>
  intro n t h e t' h' q
  have q : cndK (evK G t c) (execK P G cal k x n t h) (execK P G cal k y n t h) = .mk e t' h' := q
  rw [Vg] at q
  cases hd : ev G t.get c <;> rw [hd] at q <;> try (cases q; done)
  case v X =>
  cases X <;> try (cases q; done)
  case bool b =>
  cases b
  · exact Ui hd (ihy _ _ _ _ _ _ q)
  · exact Vn hd (ihx _ _ _ _ _ _ q)
 | block id x ih =>
  intro n t h e t' h' q
  have q : blkK id (execK P G cal k x n t h) = .mk e t' h' := q
  cases hx : execK P G cal k x n t h with
  | no => rw [hx] at q; cases q
  | mk e1 t1 h1 =>
   rw [hx] at q
   refine W6 (Ze3 (ih _ _ _ _ _ _ hx) fun e2 s2 ⟨h2, h3⟩ => ?_)
   rw [h2, h3]
   cases e1 with
   | exit i =>
    have q : bc (Z3 i id) (.mk .normal t1 h1) (.mk (.exit i) t1 h1) = Rs.mk e t' h' := q
    rw [Wo] at q
    show if i = id then _ else _
    cases hb : Z3 i id
    · rw [hb] at q; cases q; rw [if_neg (bqF hb)]; exact ⟨rfl, rfl⟩
    · rw [hb] at q; cases q; rw [if_pos (bqT hb)]; exact ⟨rfl, rfl⟩
   | _ => cases q; exact ⟨rfl, rfl⟩
 | scope x ih =>
  intro n t h e t' h' q
  have q : scpK (execK P G cal k x n t h) = .mk e t' h' := q
  cases hx : execK P G cal k x n t h with
  | no => rw [hx] at q; cases q
  | mk e1 t1 h1 =>
   rw [hx] at q
   refine aw_scope (Ze3 (ih _ _ _ _ _ _ hx) fun e2 s2 ⟨h2, h3⟩ => ?_)
   rw [h2, h3]
   cases e1 with
   | goto i => cases q
   | _ => cases q; exact ⟨rfl, rfl⟩
 | loop x ih =>
  intro n t h e t' h' q B a w r
  refine wp_loop_rounds k ?_
  have q : @Nat.rec (fun _ => Tr → List Ob → Rs) (fun _ _ => .no) (fun _ again t h => goOn (execK P G cal k x n t h) again) k t h = .mk e t' h' := q
  have q0 : ∀ m t h, @Nat.rec (fun _ => Tr → List Ob → Rs) (fun _ _ => .no) (fun _ again t h => goOn (execK P G cal k x n t h) again) m t h = .mk e t' h' → ∀ a w, Sit G B ⟨n, t.get, h⟩ a w → Code.rounds P x (fun e1 a' w' => ∃ s', endsAt n e t' h' e1 s' ∧ Sit G B s' a' w') m a w := by
   intro m
   induction m with
   | zero => intro t h q; cases q
   | succ m ihm =>
    intro t h q a w r
    have q : goOn (execK P G cal k x n t h) (@Nat.rec (fun _ => Tr → List Ob → Rs) (fun _ _ => .no) (fun _ again t h => goOn (execK P G cal k x n t h) again) m) = .mk e t' h' := q
    rw [rounds_succ]
    rcases goOn_mk q with ⟨t1, h1, hx, q⟩ | ⟨q, hne⟩
    · refine Code.wp_mono ?_ (ih n t h _ _ _ hx B a w r)
      rintro e1 a' w' ⟨s', ⟨rfl, rfl⟩, r'⟩
      exact ihm t1 h1 q a' w' r'
    · refine Code.wp_mono ?_ (ih n t h _ _ _ q B a w r)
      rintro e1 a' w' ⟨s', ⟨rfl, rfl⟩, r'⟩
      cases e1 with
      | normal => exact absurd rfl hne
      | _ => exact ⟨_, ⟨rfl, rfl⟩, r'⟩
  exact q0 k t h q a w r
 | region id ops dr =>
  intro n t h e t' h' q
  cases dr
  · have q : @Sr.casesOn (fun _ => Rs) (seqK P G cal n ops ops.toList t h) .no _ = .mk e t' h' := q
    cases hs : seqK P G cal n ops ops.toList t h with
    | no => rw [hs] at q; cases q
    | mk t1 h1 =>
     rw [hs] at q
     cases q
     exact aw_regionA (seqK_ok (Q := fun s => endsAt n .normal t' h' .normal s) hG hc ⟨rfl, rfl⟩ _ _ _ hs)
  · have q : bc (lexQ ops ops.toList 0 []) _ _ = Rs.mk e t' h' := q
    rw [Wo] at q
    cases hl : lexQ ops ops.toList 0 []
    · rw [hl] at q; cases q
    rw [hl] at q
    simp only [cond_true] at q
    cases hs : drawK P G cal n ops ops.toList t h with
    | no => rw [hs] at q; cases q
    | mk t1 h1 es =>
     rw [hs] at q
     have q : bc (chkK ops es es 0) _ _ = Rs.mk e t' h' := q
     rw [Wo] at q
     cases hk : chkK ops es es 0
     · rw [hk] at q; cases q
     rw [hk] at q; cases q
     exact aw_drawnK hG hc hm hl hs hk ⟨rfl, rfl⟩
noncomputable def treeK (l : List D) : Nat → Tr → Tr := @List.rec D (fun _ => Nat → Tr → Tr) (fun _ t => t) (fun d _ ih i t => ih (Nat.add i 1) (setK t i d)) l
theorem treeK_get : ∀ (l : List D) (i : Nat) (t : Tr) (j : Nat), i + l.length < 4095 → (treeK l i t).get j = if i ≤ j ∧ j < i + l.length then (l[j - i]?).getD .any else t.get j
 | [], i, t, j, _ => by show t.get j = _; rw [if_neg (by simp only [List.length_nil]; omega)]
 | d :: l, i, t, j, hl => by
  simp only [List.length_cons] at hl ⊢
  show (treeK l (i + 1) (setK t i d)).get j = _
  rw [treeK_get l (i + 1) _ j (by omega), Zl9 t i d j (by omega)]
  by_cases hj : j = i
  · subst hj; rw [if_neg (by omega), if_pos rfl, if_pos (by omega), Nat.sub_self]; rfl
  · by_cases h2 : i + 1 ≤ j ∧ j < i + 1 + l.length
    · rw [if_pos h2, if_pos (by omega), show j - i = (j - (i + 1)) + 1 by omega]; rfl
    · rw [if_neg h2, if_neg hj, if_neg (by omega)]
theorem treeK_env {l : List D} (hl : l.length < 4095) : (treeK l 0 (mkT 6)).get = Zl7 l := funext fun j => by
 rw [treeK_get l 0 (mkT 6) j (by omega)]
 unfold Zl7
 by_cases hj : j < l.length
 · rw [if_pos (by omega)]; rfl
 · rw [if_neg (by omega), List.getElem?_eq_none (by omega), mkT_get]; rfl
noncomputable def firstK (l : List Nat) : Nat → Nat → Bool := @List.rec Nat (fun _ => Nat → Nat → Bool) (fun j m => Nat.ble m j) (fun a _ ih j m => bc (Nat.ble m j) true (bc (Z3 a j) (ih (Nat.add j 1) m) false)) l
theorem Zs1 : ∀ (l : List Nat) (j m : Nat), firstK l j m = true → m ≤ j + l.length ∧ ∀ k, j + k < m → l[k]? = some (j + k)
 | [], j, m, q => by
  have := Nat.le_of_ble_eq_true q
  exact ⟨by simpa using this, fun k hk => by omega⟩
 | a :: l, j, m, q => by
  have q : bc (Nat.ble m j) true (bc (Z3 a j) (firstK l (j + 1) m) false) = true := q
  rw [Wo, Wo, bleE] at q
  by_cases hm : m ≤ j
  · exact ⟨by simp; omega, fun k hk => by omega⟩
  · rw [decide_eq_false hm] at q
    cases hb : Z3 a j
    · rw [hb] at q; cases q
    · rw [hb] at q
      obtain ⟨h1, h2⟩ := Zs1 l (j + 1) m q
      refine ⟨by simp only [List.length_cons]; omega, fun k hk => ?_⟩
      cases k with
      | zero => simp [bqT hb]
      | succ k => have := h2 k (by omega); simp only [List.getElem?_cons_succ, this]; congr 1; omega
noncomputable def shrK (m : Nat) (h' : List Ob) (r : D) : Option (List Ob × D) := bc (Z3 (lenK h' 0) m) (some (h', r))
 ((fun R => @Option.rec (List Ob) (fun _ => Option (List Ob × D)) none (fun h2 => @Option.rec D (fun _ => Option (List Ob × D)) none (fun r2 => bc (nodupK R) (bc (firstK R 0 m) (some (h2, r2)) none) none) (rnK R r)) (rnHK R h' R)) (closeK h' 4000 0 (addK (refsK r []) (List.range m))))
noncomputable def callBK (P : Program) (G : Nat → D) (cx : FuncId) (k : Nat) (cal : Cal) : Cal := fun f args h => @Option.rec Func (fun _ => Option (List Ob × D)) none (fun fn => @Option.rec Code (fun _ => Option (List Ob × D))
   (bc (Z3 f cx) (match args with
    | [.v (.string a), .v (.string b)] => some (h, .v (.int .i64 (Lib.compareBytes a.data.toList b.data.toList)))
    | _ => none) none)
   (fun c => bc (entB P f) (bc (Nat.ble (lenK args 0) fn.ntmps) (bc (Nat.ble (lenK args 0) 4094) (@Rs.casesOn (fun _ => Option (List Ob × D)) (execK P G cal k c fn.ntmps (treeK args 0 (mkT 6)) h) none
    fun e t h1 => @Exit.casesOn (fun _ => Option (List Ob × D)) e (@Option.rec (List D) (fun _ => Option (List Ob × D)) none (fun ds => shrK (lenK h 0) h1 (outD ds)) (resD P ⟨fn.ntmps, getK t, h1⟩ fn.results.toList)) (fun _ => none) (fun _ => none) (@Option.rec (List D) (fun _ => Option (List Ob × D)) none (fun ds => shrK (lenK h 0) h1 (outD ds)) (resD P ⟨fn.ntmps, getK t, h1⟩ fn.results.toList)) (fun _ => none) none) none) none) none) fn.body) P.funcs[f]?
noncomputable def callK (P : Program) (G : Nat → D) (cx : FuncId) (K : Nat) (k : Nat) : Cal := @Nat.rec (fun _ => Cal) (fun _ _ _ => none) (fun _ cal => callBK P G cx K cal) k
theorem shrK_does {f : FuncId} {args : List D} {h1 : List Ob} {r : D} {h' : List Ob} {r' : D} (hG : ∀ g, low 0 (G g)) (q : shrK (lenK h 0) h1 r = some (h', r')) (d : Does P G f h args (fun h2 r2 => h2 = h1 ∧ r2 = r)) : Does P G f h args (fun h2 r2 => h2 = h' ∧ r2 = r') := by
 unfold shrK at q
 dsimp only at q
 rw [Wo, Wc, Wc, Z5, Z5] at q
 cases hn : Z3 h1.length h.length
 · rw [hn] at q
   simp only [cond_false] at q
   generalize closeK h1 4000 0 _ = R at q
   cases e1 : rnHK R h1 R with
   | none => rw [e1] at q; cases q
   | some h2 =>
   rw [e1] at q
   have q : @Option.rec D (fun _ => Option (List Ob × D)) none (fun r2 => bc (nodupK R) (bc (firstK R 0 h.length) (some (h2, r2)) none) none) (rnK R r) = _ := q
   cases e2 : rnK R r with
   | none => rw [e2] at q; cases q
   | some r2 =>
   rw [e2] at q
   have q : bc (nodupK R) (bc (firstK R 0 h.length) (some (h2, r2)) none) none = some (h', r') := q
   rw [Wo, Wo] at q
   obtain ⟨n1, q⟩ := (by
    cases hk : nodupK R
    · rw [hk] at q; cases q
    · rw [hk] at q; exact ⟨rfl, q⟩ : nodupK R = true ∧ (bif firstK R 0 h.length then some (h2, r2) else none) = some (h', r'))
   obtain ⟨n2, hq⟩ := Yp q
   cases hq
   obtain ⟨l1, l2⟩ := Zs1 R 0 h.length n2
   rw [Zy8] at e1
   rw [rnK_eq] at e2
   rw [Zg2] at n1
   refine d.shrink hG ?_
   rintro _ _ ⟨rfl, rfl⟩
   exact ⟨_, _, ⟨R, e1, n1, e2, by omega, fun k hk => by have := l2 k (by omega); rwa [Z5] at this⟩, rfl, rfl⟩
 · rw [hn] at q; cases q; exact d
theorem callK_ok {cx : FuncId} (hG : ∀ g, low 0 (G g)) (hm : P.follows .mixedOrders = true) (hx : CmpX P cx) (K : Nat) : ∀ k, CalOk P G (callK P G cx K k) := by
 intro k
 induction k with
 | zero => intro f args h h' r q; cases q
 | succ k ih =>
  intro f args h h' r q
  have q : callBK P G cx K (callK P G cx K k) f args h = some (h', r) := q
  unfold callBK at q
  cases hf : P.funcs[f]? with
  | none => rw [hf] at q; cases q
  | some fn =>
  rw [hf] at q
  dsimp only at q
  cases hb : fn.body with
  | none =>
   rw [hb] at q
   have hent : entB P f = false := by unfold entB; rw [hf]; simp [hb]
   dsimp only at q
   rw [Wo] at q
   cases hbq : Z3 f cx
   · rw [hbq] at q; cases q
   rw [hbq] at q
   simp only [cond_true] at q
   split at q
   · cases q
     refine .inr ⟨hent, rfl, fun w hd h2 W vs hv => ?_⟩
     rw [rdL] at hv; obtain ⟨u, t, rfl, h3, hv⟩ := hv
     rw [rdL] at hv; obtain ⟨u2, t, rfl, h4, hv⟩ := hv
     rw [rdL] at hv; subst hv
     rw [rd] at h3 h4; subst h3; subst h4
     rw [bqT hbq]
     exact ⟨_, hx _ _ w, by rw [rd]⟩
   · cases q
  | some c =>
   rw [hb] at q
   dsimp only at q
   rw [Wo, Wo, Wo, Wc, Z5, bleE, bleE] at q
   cases hent : entB P f
   · rw [hent] at q; cases q
   rw [hent] at q
   by_cases l1 : args.length ≤ fn.ntmps
   rotate_left
   · rw [decide_eq_false l1] at q; cases q
   rw [decide_eq_true l1] at q
   by_cases l2 : args.length ≤ 4094
   rotate_left
   · rw [decide_eq_false l2] at q; cases q
   rw [decide_eq_true l2] at q
   simp only [cond_true] at q
   refine .inl ⟨rfl, ?_⟩
   cases hxx : execK P G (callK P G cx K k) K c fn.ntmps (treeK args 0 (mkT 6)) h with
   | no => rw [hxx] at q; cases q
   | mk e t h1 =>
   rw [hxx] at q
   have A := execK_ok hG hm ih K _ _ _ _ _ _ _ hxx
   rw [treeK_env (by omega)] at A
   have key : (e = .normal ∨ e = .ret) → @Option.rec (List D) (fun _ => Option (List Ob × D)) none (fun ds => shrK (lenK h 0) h1 (outD ds)) (resD P ⟨fn.ntmps, getK t, h1⟩ fn.results.toList) = some (h', r) → Does P G f h args (fun h2 r2 => h2 = h' ∧ r2 = r) := fun he q => by
    rw [Zn0] at q
    cases hr : resD P ⟨fn.ntmps, t.get, h1⟩ fn.results.toList with
    | none => rw [hr] at q; cases q
    | some ds =>
     rw [hr] at q
     exact shrK_does hG q (does_keep hf hb l1 (Ze3 A fun e1 s1 ⟨h2, h3⟩ => by rw [h2, h3]; exact ⟨he, ds, hr, rfl, rfl⟩))
   cases e with
   | normal => exact key (.inl rfl) q
   | ret => exact key (.inr rfl) q
   | _ => cases q
end
end Go.Proofs.YtgkjcmglcnhpaaaGreatDoor
