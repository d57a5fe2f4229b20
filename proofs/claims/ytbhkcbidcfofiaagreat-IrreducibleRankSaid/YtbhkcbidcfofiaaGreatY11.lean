/-
  What the statements of the chapter share, part 11: K7, DTab, D13, D14, WR0.
-/
import Derived.Test.YtbhkcbidcfofiaaGreatY06
import Derived.Test.YtbhkcbidcfofiaaGreatY07
import Derived.Test.YtbhkcbidcfofiaaGreatY08
import Derived.Test.YtbhkcbidcfofiaaGreatY10
set_option linter.unusedVariables false
set_option linter.unusedSimpArgs false
set_option maxRecDepth 100000
set_option maxHeartbeats 8000000
namespace Go.Proofs.YtbhkcbidcfofiaaGreat
open _root_.Array renaming getD_eq_getD_getElem? → Z1, getElem?_eq_some_iff → Z2, getElem?_replicate → Z7
open _root_.List renaming getElem?_eq_getElem → Z3, getElem?_eq_some_iff → Z4, getElem?_append_left → Z6, length_cons → Z8
open _root_.Nat renaming beq → Z5, zero_add → Z9, le_refl → Za
open _root_.Go.Proofs.Tryz renaming prog → Z0
open Go.RowKit
section
variable {P : Program} {G : Nat → D} {n : Nat} {h : List Ob} {t : Tr}
theorem Yg2 {ops : Array Oper} (hL : LexOk ops) {ef : Nat → Ef} {Q : (Nat → D) → List Ob → Prop} (hE : efOk .any ops ef) : ∀ (l : List Oper) (k : Nat) (listed : Array Bool) (e : Nat → D) (h : List Ob), Closed .any ops listed → (∀ j, j < ops.size → listed[j]? = some (decide (j < k))) → listed.size = ops.size → (∀ j, l[j]? = ops[k + j]?) → af P G n ops ef Q k l e h → afAny P G n .any ops ef Q l.length listed e h
 | [], k, listed, e, h, _, hd, hs, hl, q => by
  refine ⟨?_, q⟩
  rw [List.eq_nil_iff_forall_not_mem]
  intro i hi
  obtain ⟨h1, o, h2, _⟩ := mem_ready.1 hi
  have hlt := (Z2.1 h2).1
  have hk : ¬ k ≤ i := fun hk => by
   have := hl (i - k)
   rw [show k + (i - k) = i by omega, h2] at this; simp at this
  rw [Z1, hd i hlt, decide_eq_true (by omega)] at h1
  cases h1
 | o :: l, k, listed, e, h, hcl, hd, hs, hl, q => by
  have h0 : ops[k]? = some o := by simpa using (hl 0).symm
  have hk := (Z2.1 h0).1
  obtain ⟨hy, hok, hK⟩ := q
  have hr : k ∈ Region.ready .any ops listed := mem_ready.2 ⟨by rw [Z1, hd k hk]; simp, o, h0, fun e he hb => by
   have := hL.back k o h0 e he hb
   rw [Z1, hd e.on (by omega), decide_eq_true this]; rfl⟩
  refine Yb1 h0 l.length listed e h hcl (fun j oj hj hjk hun hno hnt => ?_) hr hy hok (Yg2 hL hE l (k + 1) _ _ _ (hcl.set hr) (fun j hj => ?_) (by simpa using hs) (fun j => by have := hl (j + 1); simpa [Nat.add_assoc, Nat.add_comm 1 j] using this) hK)
  · have hjs := (Z2.1 hj).1
    have hlt : k < j := by
     rw [Z1, hd j hjs] at hun
     have : ¬ j < k := by simpa using hun
     omega
    exact ⟨hL.apart k j o oj hlt h0 hj hno, hE k j oj hlt hj hno hnt⟩
  · rw [Array.getElem?_setIfInBounds]
    by_cases hkj : k = j
    · subst hkj; rw [if_pos rfl, if_pos (by omega), decide_eq_true (by omega)]
    · rw [if_neg hkj, hd j hj]
      congr 1
      by_cases hjk : j < k
      · rw [decide_eq_true hjk, decide_eq_true (by omega)]
      · rw [decide_eq_false hjk, decide_eq_false (by omega)]
theorem aw_drawQ {id : Nat} {l : List Oper} {e : Nat → D} {Q : Exit → S → Prop} {ef : Nat → Ef} (hm : P.follows .mixedOrders = true) (hB : LexOk l.toArray) (hE : efOk .any l.toArray ef) (H : af P G n l.toArray ef (fun e h => Q .normal ⟨n, e, h⟩) 0 l e h) : aw P G (.region id l.toArray true) Q ⟨n, e, h⟩ := fun B a w r => by
 obtain ⟨hd, p, r⟩ := r
 have hdr := r.ok.drew
 have r' : Sit G B ⟨n, e, h⟩ a { w with drawn := w.drawn + 1 } := ⟨hd, p, hdr.1, r.evo.trans hdr.2, fun t => hdr.2.rd r.ok (r.tmp t), r.size, r.defers⟩
 refine wp_region_any hm (Uy (ef := ef) (Q := fun e h => Q .normal ⟨n, e, h⟩) (fun e h a w q r => ⟨_, q, r⟩) _ _ _ _ _ _ r' ?_)
 have := Yg2 (P := P) (G := G) (n := n) hB (Q := fun e h => Q .normal ⟨n, e, h⟩) hE l 0 (Array.replicate l.toArray.size false) e h (fun j oj hj hl => by
  have hlt := (Z2.1 hj).1
  rw [Z1, Z7, if_pos hlt] at hl
  cases hl) (fun j hj => by rw [Z7, if_pos hj]; simp) (by simp) (by simp) H
 simpa using this
theorem aw_drawnK (hG : ∀ g, low 0 (G g)) {cal : Cal} (hc : Yc1 P G cal) {id : Nat} {ops : Array Oper} {Q : Exit → S → Prop} {t' : Tr} {h' : List Ob} {es : List Ef} (hm : P.follows .mixedOrders = true) (hB : lexQ ops ops.toList 0 [] = true) (q : drawK P G cal n ops ops.toList t h = .mk t' h' es) (hchk : chkK ops es es 0 = true) (k : Q .normal ⟨n, t'.get, h'⟩) : aw P G (.region id ops true) Q ⟨n, t.get, h⟩ := by
 have hB := lexQ_ok hB
 obtain ⟨ops⟩ := ops
 obtain ⟨a1, a2, a3⟩ := Yl6 hG hc ops t h t' h' es q
 refine aw_holes (h'.length - h.length) (aw_drawQ (ef := fun k => (es[k]?).getD nopF) hm hB (fun i j oj hij hj hno hnt => ?_) (a3 _ 0 (fun j E hj => by simp [hj]) _ (Za _) _ (by simpa [holes] using k)))
 have hjl : j < es.length := by
  have := (Z2.1 hj).1
  simp at this; rw [a1]; exact this
 rcases chkK_comp hchk (Z3 (show i < es.length by omega)) (Z3 hjl) hij with hw | hc
 · exfalso
   rw [hnt] at hw; cases hw
 · simp only [Z3 (show i < es.length by omega), Z3 hjl, Option.getD_some]
   exact hc
abbrev Run := Nat → Tr → List Ob → Rs
noncomputable def goOn (r : Rs) (f : Tr → List Ob → Rs) : Rs := @Rs.casesOn (fun _ => Rs) r .no fun e t h => @Exit.casesOn (fun _ => Rs) e (f t h) (fun i => .mk (.exit i) t h) (fun i => .mk (.goto i) t h) (.mk .ret t h) (fun _ => .no) .no
theorem goOn_mk {r : Rs} {f : Tr → List Ob → Rs} {e : Exit} {h : List Ob} (q : goOn r f = .mk e t h) : (∃ t1 h1, r = .mk .normal t1 h1 ∧ f t1 h1 = .mk e t h) ∨ (r = .mk e t h ∧ e ≠ .normal) := by
 cases r with
 | no => cases q
 | mk e1 t1 h1 =>
  cases e1 with
  | normal => exact .inl ⟨t1, h1, rfl, q⟩
  | exit i => cases q; exact .inr ⟨rfl, by intro h; cases h⟩
  | goto i => cases q; exact .inr ⟨rfl, by intro h; cases h⟩
  | ret => cases q; exact .inr ⟨rfl, by intro h; cases h⟩
  | _ => cases q
noncomputable def cndK (d : D) (a b : Rs) : Rs := @D.casesOn (fun _ => Rs) d .no (fun x => @Value.casesOn (fun _ => Rs) x (fun s => bc s a b) (fun _ _ => .no) (fun _ _ => .no) (fun _ _ _ => .no) (fun _ => .no) (fun _ => .no) (fun _ _ _ => .no) (fun _ => .no) (fun _ => .no) (fun _ _ _ => .no) .no (fun _ _ => .no) .no (fun _ => .no) (fun _ => .no)) (fun _ _ => .no) (fun _ => .no) (fun _ => .no) (fun _ => .no) (fun _ _ => .no) (fun _ _ => .no) (fun _ _ _ _ => .no) (fun _ _ _ _ => .no) (fun _ _ _ _ _ => .no) (fun _ => .no) .no (fun _ _ => .no)
noncomputable def blkK (id : Nat) (r : Rs) : Rs := @Rs.casesOn (fun _ => Rs) r .no fun e t h => @Exit.casesOn (fun _ => Rs) e r (fun i => bc (Z5 i id) (.mk .normal t h) r) (fun _ => r) r (fun _ => r) r
noncomputable def scpK (r : Rs) : Rs := @Rs.casesOn (fun _ => Rs) r .no fun e _ _ => @Exit.casesOn (fun _ => Rs) e r (fun _ => r) (fun _ => .no) r (fun _ => r) r
noncomputable def execK (P : Program) (G : Nat → D) (cal : Cal) (k : Nat) (c : Code) : Run := @Code.rec (fun _ => Run) (fun _ t h => .mk .normal t h)
 (fun _ ops dr n t h => bc dr (bc (lexQ ops ops.toList 0 []) (@Dr.casesOn (fun _ => Rs) (drawK P G cal n ops ops.toList t h) .no fun t1 h1 es => bc (chkK ops es es 0) (.mk .normal t1 h1) .no) .no) (@Sr.casesOn (fun _ => Rs) (seqK P G cal n ops ops.toList t h) .no fun t1 h1 => .mk .normal t1 h1))
 (fun _ _ x y n t h => goOn (x n t h) (y n))
 (fun c _ _ x y n t h => cndK (evK G t c) (x n t h) (y n t h))
 (fun id _ x n t h => blkK id (x n t h))
 (fun _ x n t h => @Nat.rec (fun _ => Tr → List Ob → Rs) (fun _ _ => .no) (fun _ again t h => goOn (x n t h) again) k t h)
 (fun _ _ _ _ _ _ _ _ _ => .no)
 (fun id _ t h => .mk (.exit id) t h)
 (fun _ x n t h => scpK (x n t h))
 (fun _ _ t h => .mk .normal t h)
 (fun l _ t h => .mk (.goto l) t h)
 (fun _ t h => .mk .ret t h)
 (fun _ _ _ _ => .no) c
theorem execK_ok (hG : ∀ g, low 0 (G g)) (hm : P.follows .mixedOrders = true) {cal : Cal} (hc : Yc1 P G cal) (k : Nat) : ∀ (c : Code) (n : Nat) (t : Tr) (h : List Ob) (e : Exit) (t' : Tr) (h' : List Ob), execK P G cal k c n t h = .mk e t' h' → aw P G c (endsAt n e t' h') ⟨n, t.get, h⟩ := by
 intro c
 induction c with
 | skip => intro n t h e t' h' q; cases q; exact Ux ⟨rfl, rfl⟩
 | label l => intro n t h e t' h' q; cases q; exact aw_label ⟨rfl, rfl⟩
 | exit id => intro n t h e t' h' q; cases q; exact Zk6 ⟨rfl, rfl⟩
 | goto l => intro n t h e t' h' q; cases q; exact aw_goto ⟨rfl, rfl⟩
 | ret => intro n t h e t' h' q; cases q; exact Zh8 ⟨rfl, rfl⟩
 | refuse w => intro n t h e t' h' q; cases q
 | rangeFunc f p a b iha ihb => intro n t h e t' h' q; cases q
 | seq x y ihx ihy =>
  intro n t h e t' h' q
  have q : goOn (execK P G cal k x n t h) (execK P G cal k y n) = .mk e t' h' := q
  rcases goOn_mk q with ⟨t1, h1, hx, q⟩ | ⟨q, hne⟩
  · exact Vp (Zk5 (ihx _ _ _ _ _ _ hx) fun e1 s1 ⟨h2, h3⟩ => by rw [h2, h3]; exact ihy _ _ _ _ _ _ q)
  · refine Vp (Zk5 (ihx _ _ _ _ _ _ q) fun e1 s1 ⟨h2, h3⟩ => ?_)
    rw [h2, h3]
    cases e with
    | normal => exact absurd rfl hne
    | _ => exact ⟨rfl, rfl⟩
 | cond c x y ihx ihy =>
  intro n t h e t' h' q
  have q : cndK (evK G t c) (execK P G cal k x n t h) (execK P G cal k y n t h) = .mk e t' h' := q
  rw [U3] at q
  cases hd : ev G t.get c <;> rw [hd] at q <;> try (cases q; done)
  case v X =>
  cases X <;> try (cases q; done)
  case bool b =>
  cases b
  · exact Za1 hd (ihy _ _ _ _ _ _ q)
  · exact Zd1 hd (ihx _ _ _ _ _ _ q)
 | block id x ih =>
  intro n t h e t' h' q
  have q : blkK id (execK P G cal k x n t h) = .mk e t' h' := q
  cases hx : execK P G cal k x n t h with
  | no => rw [hx] at q; cases q
  | mk e1 t1 h1 =>
   rw [hx] at q
   refine V9 (Zk5 (ih _ _ _ _ _ _ hx) fun e2 s2 ⟨h2, h3⟩ => ?_)
   rw [h2, h3]
   cases e1 with
   | exit i =>
    have q : bc (Z5 i id) (.mk .normal t1 h1) (.mk (.exit i) t1 h1) = Rs.mk e t' h' := q
    rw [V2] at q
    show if i = id then _ else _
    cases hb : Z5 i id
    · rw [hb] at q; cases q; rw [if_neg (bqF hb)]; exact ⟨rfl, rfl⟩
    · rw [hb] at q; cases q; rw [if_pos (bqT hb)]; exact ⟨rfl, rfl⟩
   | _ => cases q; exact ⟨rfl, rfl⟩
 | scope x ih =>
  intro n t h e t' h' q
  have q : scpK (execK P G cal k x n t h) = .mk e t' h' := q
  cases hx : execK P G cal k x n t h with
  | no => rw [hx] at q; cases q
  | mk e1 t1 h1 =>
   rw [hx] at q
   refine aw_scope (Zk5 (ih _ _ _ _ _ _ hx) fun e2 s2 ⟨h2, h3⟩ => ?_)
   rw [h2, h3]
   cases e1 with
   | goto i => cases q
   | _ => cases q; exact ⟨rfl, rfl⟩
 | loop x ih =>
  intro n t h e t' h' q B a w r
  refine wp_loop_rounds k ?_
  have q : @Nat.rec (fun _ => Tr → List Ob → Rs) (fun _ _ => .no) (fun _ again t h => goOn (execK P G cal k x n t h) again) k t h = .mk e t' h' := q
  have q0 : ∀ m t h, @Nat.rec (fun _ => Tr → List Ob → Rs) (fun _ _ => .no) (fun _ again t h => goOn (execK P G cal k x n t h) again) m t h = .mk e t' h' → ∀ a w, Sit G B ⟨n, t.get, h⟩ a w → Code.rounds P x (fun e1 a' w' => ∃ s', endsAt n e t' h' e1 s' ∧ Sit G B s' a' w') m a w := by
   intro m
   induction m with
   | zero => intro t h q; cases q
   | succ m ihm =>
    intro t h q a w r
    have q : goOn (execK P G cal k x n t h) (@Nat.rec (fun _ => Tr → List Ob → Rs) (fun _ _ => .no) (fun _ again t h => goOn (execK P G cal k x n t h) again) m) = .mk e t' h' := q
    rw [rounds_succ]
    rcases goOn_mk q with ⟨t1, h1, hx, q⟩ | ⟨q, hne⟩
    · refine Code.wp_mono ?_ (ih n t h _ _ _ hx B a w r)
      rintro e1 a' w' ⟨s', ⟨rfl, rfl⟩, r'⟩
      exact ihm t1 h1 q a' w' r'
    · refine Code.wp_mono ?_ (ih n t h _ _ _ q B a w r)
      rintro e1 a' w' ⟨s', ⟨rfl, rfl⟩, r'⟩
      cases e1 with
      | normal => exact absurd rfl hne
      | _ => exact ⟨_, ⟨rfl, rfl⟩, r'⟩
  exact q0 k t h q a w r
 | region id ops dr =>
  intro n t h e t' h' q
  cases dr
  · have q : @Sr.casesOn (fun _ => Rs) (seqK P G cal n ops ops.toList t h) .no _ = .mk e t' h' := q
    cases hs : seqK P G cal n ops ops.toList t h with
    | no => rw [hs] at q; cases q
    | mk t1 h1 =>
     rw [hs] at q
     cases q
     exact aw_regionA (seqK_ok (Q := fun s => endsAt n .normal t' h' .normal s) hG hc ⟨rfl, rfl⟩ _ _ _ hs)
  · have q : bc (lexQ ops ops.toList 0 []) _ _ = Rs.mk e t' h' := q
    rw [V2] at q
    cases hl : lexQ ops ops.toList 0 []
    · rw [hl] at q; cases q
    rw [hl] at q
    simp only [cond_true] at q
    cases hs : drawK P G cal n ops ops.toList t h with
    | no => rw [hs] at q; cases q
    | mk t1 h1 es =>
     rw [hs] at q
     have q : bc (chkK ops es es 0) _ _ = Rs.mk e t' h' := q
     rw [V2] at q
     cases hk : chkK ops es es 0
     · rw [hk] at q; cases q
     rw [hk] at q; cases q
     exact aw_drawnK hG hc hm hl hs hk ⟨rfl, rfl⟩
noncomputable def treeK (l : List D) : Nat → Tr → Tr := @List.rec D (fun _ => Nat → Tr → Tr) (fun _ t => t) (fun d _ ih i t => ih (Nat.add i 1) (setK t i d)) l
theorem treeK_get : ∀ (l : List D) (i : Nat) (t : Tr) (j : Nat), i + l.length < 4095 → (treeK l i t).get j = if i ≤ j ∧ j < i + l.length then (l[j - i]?).getD .any else t.get j
 | [], i, t, j, _ => by show t.get j = _; rw [if_neg (by simp only [List.length_nil]; omega)]
 | d :: l, i, t, j, hl => by
  simp only [Z8] at hl ⊢
  show (treeK l (i + 1) (setK t i d)).get j = _
  rw [treeK_get l (i + 1) _ j (by omega), Zs9 t i d j (by omega)]
  by_cases hj : j = i
  · subst hj; rw [if_neg (by omega), if_pos rfl, if_pos (by omega), Nat.sub_self]; rfl
  · by_cases h2 : i + 1 ≤ j ∧ j < i + 1 + l.length
    · rw [if_pos h2, if_pos (by omega), show j - i = (j - (i + 1)) + 1 by omega]; rfl
    · rw [if_neg h2, if_neg hj, if_neg (by omega)]
theorem treeK_env {l : List D} (hl : l.length < 4095) : (treeK l 0 (mkT 6)).get = Zs4 l := funext fun j => by
 rw [treeK_get l 0 (mkT 6) j (by omega)]
 unfold Zs4
 by_cases hj : j < l.length
 · rw [if_pos (by omega)]; rfl
 · rw [if_neg (by omega), List.getElem?_eq_none (by omega), mkT_get]; rfl
noncomputable def firstK (l : List Nat) : Nat → Nat → Bool := @List.rec Nat (fun _ => Nat → Nat → Bool) (fun j m => Nat.ble m j) (fun a _ ih j m => bc (Nat.ble m j) true (bc (Z5 a j) (ih (Nat.add j 1) m) false)) l
theorem Zy8 : ∀ (l : List Nat) (j m : Nat), firstK l j m = true → m ≤ j + l.length ∧ ∀ k, j + k < m → l[k]? = some (j + k)
 | [], j, m, q => by
  have := Nat.le_of_ble_eq_true q
  exact ⟨by simpa using this, fun k hk => by omega⟩
 | a :: l, j, m, q => by
  have q : bc (Nat.ble m j) true (bc (Z5 a j) (firstK l (j + 1) m) false) = true := q
  rw [V2, V2, bleE] at q
  by_cases hm : m ≤ j
  · exact ⟨by simp; omega, fun k hk => by omega⟩
  · rw [decide_eq_false hm] at q
    cases hb : Z5 a j
    · rw [hb] at q; cases q
    · rw [hb] at q
      obtain ⟨h1, h2⟩ := Zy8 l (j + 1) m q
      refine ⟨by simp only [Z8]; omega, fun k hk => ?_⟩
      cases k with
      | zero => simp [bqT hb]
      | succ k => have := h2 k (by omega); simp only [List.getElem?_cons_succ, this]; congr 1; omega
noncomputable def shrK (m : Nat) (h' : List Ob) (r : D) : Option (List Ob × D) := bc (Z5 (lenK h' 0) m) (some (h', r))
 ((fun R => @Option.rec (List Ob) (fun _ => Option (List Ob × D)) none (fun h2 => @Option.rec D (fun _ => Option (List Ob × D)) none (fun r2 => bc (nodupK R) (bc (firstK R 0 m) (some (h2, r2)) none) none) (rnK R r)) (rnHK R h' R)) (closeK h' 4000 0 (addK (refsK r []) (List.range m))))
noncomputable def callBK (P : Program) (G : Nat → D) (cx : FuncId) (k : Nat) (cal : Cal) : Cal := fun f args h => @Option.rec Func (fun _ => Option (List Ob × D)) none (fun fn => @Option.rec Code (fun _ => Option (List Ob × D))
   (bc (Z5 f cx) (match args with
    | [.v (.string a), .v (.string b)] => some (h, .v (.int .i64 (Lib.compareBytes a.data.toList b.data.toList)))
    | _ => none) none)
   (fun c => bc (entB P f) (bc (Nat.ble (lenK args 0) fn.ntmps) (bc (Nat.ble (lenK args 0) 4094) (@Rs.casesOn (fun _ => Option (List Ob × D)) (execK P G cal k c fn.ntmps (treeK args 0 (mkT 6)) h) none
    fun e t h1 => @Exit.casesOn (fun _ => Option (List Ob × D)) e (@Option.rec (List D) (fun _ => Option (List Ob × D)) none (fun ds => shrK (lenK h 0) h1 (outD ds)) (resD P ⟨fn.ntmps, getK t, h1⟩ fn.results.toList)) (fun _ => none) (fun _ => none) (@Option.rec (List D) (fun _ => Option (List Ob × D)) none (fun ds => shrK (lenK h 0) h1 (outD ds)) (resD P ⟨fn.ntmps, getK t, h1⟩ fn.results.toList)) (fun _ => none) none) none) none) none) fn.body) P.funcs[f]?
noncomputable def callK (P : Program) (G : Nat → D) (cx : FuncId) (K : Nat) (k : Nat) : Cal := @Nat.rec (fun _ => Cal) (fun _ _ _ => none) (fun _ cal => callBK P G cx K cal) k
theorem shrK_does {f : FuncId} {args : List D} {h1 : List Ob} {r : D} {h' : List Ob} {r' : D} (hG : ∀ g, low 0 (G g)) (q : shrK (lenK h 0) h1 r = some (h', r')) (d : Does P G f h args (fun h2 r2 => h2 = h1 ∧ r2 = r)) : Does P G f h args (fun h2 r2 => h2 = h' ∧ r2 = r') := by
 unfold shrK at q
 dsimp only at q
 rw [V2, Wm, Wm, Z9, Z9] at q
 cases hn : Z5 h1.length h.length
 · rw [hn] at q
   simp only [cond_false] at q
   generalize closeK h1 4000 0 _ = R at q
   cases e1 : rnHK R h1 R with
   | none => rw [e1] at q; cases q
   | some h2 =>
   rw [e1] at q
   have q : @Option.rec D (fun _ => Option (List Ob × D)) none (fun r2 => bc (nodupK R) (bc (firstK R 0 h.length) (some (h2, r2)) none) none) (rnK R r) = _ := q
   cases e2 : rnK R r with
   | none => rw [e2] at q; cases q
   | some r2 =>
   rw [e2] at q
   have q : bc (nodupK R) (bc (firstK R 0 h.length) (some (h2, r2)) none) none = some (h', r') := q
   rw [V2, V2] at q
   obtain ⟨n1, q⟩ := (by
    cases hk : nodupK R
    · rw [hk] at q; cases q
    · rw [hk] at q; exact ⟨rfl, q⟩ : nodupK R = true ∧ (bif firstK R 0 h.length then some (h2, r2) else none) = some (h', r'))
   obtain ⟨n2, hq⟩ := Yw q
   cases hq
   obtain ⟨l1, l2⟩ := Zy8 R 0 h.length n2
   rw [Yh4] at e1
   rw [rnK_eq] at e2
   rw [Zn2] at n1
   refine d.shrink hG ?_
   rintro _ _ ⟨rfl, rfl⟩
   exact ⟨_, _, ⟨R, e1, n1, e2, by omega, fun k hk => by have := l2 k (by omega); rwa [Z9] at this⟩, rfl, rfl⟩
 · rw [hn] at q; cases q; exact d
theorem callBK_ok {cx : FuncId} (hG : ∀ g, low 0 (G g)) (hm : P.follows .mixedOrders = true) (hx : CmpX P cx) (K : Nat) {cal : Cal} (ih : Yc1 P G cal) : Yc1 P G (callBK P G cx K cal) := by
  intro f args h h' r q
  unfold callBK at q
  cases hf : P.funcs[f]? with
  | none => rw [hf] at q; cases q
  | some fn =>
  rw [hf] at q
  dsimp only at q
  cases hb : fn.body with
  | none =>
   rw [hb] at q
   have hent : entB P f = false := by unfold entB; rw [hf]; simp [hb]
   dsimp only at q
   rw [V2] at q
   cases hbq : Z5 f cx
   · rw [hbq] at q; cases q
   rw [hbq] at q
   simp only [cond_true] at q
   split at q
   · cases q
     refine .inr ⟨hent, rfl, fun w hd h2 W vs hv => ?_⟩
     rw [rdL] at hv; obtain ⟨u, t, rfl, h3, hv⟩ := hv
     rw [rdL] at hv; obtain ⟨u2, t, rfl, h4, hv⟩ := hv
     rw [rdL] at hv; subst hv
     rw [rd] at h3 h4; subst h3; subst h4
     rw [bqT hbq]
     exact ⟨_, hx _ _ w, by rw [rd]⟩
   · cases q
  | some c =>
   rw [hb] at q
   dsimp only at q
   rw [V2, V2, V2, Wm, Z9, bleE, bleE] at q
   cases hent : entB P f
   · rw [hent] at q; cases q
   rw [hent] at q
   by_cases l1 : args.length ≤ fn.ntmps
   rotate_left
   · rw [decide_eq_false l1] at q; cases q
   rw [decide_eq_true l1] at q
   by_cases l2 : args.length ≤ 4094
   rotate_left
   · rw [decide_eq_false l2] at q; cases q
   rw [decide_eq_true l2] at q
   simp only [cond_true] at q
   refine .inl ⟨rfl, ?_⟩
   cases hxx : execK P G cal K c fn.ntmps (treeK args 0 (mkT 6)) h with
   | no => rw [hxx] at q; cases q
   | mk e t h1 =>
   rw [hxx] at q
   have A := execK_ok hG hm ih K _ _ _ _ _ _ _ hxx
   rw [treeK_env (by omega)] at A
   have key : (e = .normal ∨ e = .ret) → @Option.rec (List D) (fun _ => Option (List Ob × D)) none (fun ds => shrK (lenK h 0) h1 (outD ds)) (resD P ⟨fn.ntmps, getK t, h1⟩ fn.results.toList) = some (h', r) → Does P G f h args (fun h2 r2 => h2 = h' ∧ r2 = r) := fun he q => by
    rw [Zu0] at q
    cases hr : resD P ⟨fn.ntmps, t.get, h1⟩ fn.results.toList with
    | none => rw [hr] at q; cases q
    | some ds =>
     rw [hr] at q
     exact shrK_does hG q (Vl hf hb l1 (Zk5 A fun e1 s1 ⟨h2, h3⟩ => by rw [h2, h3]; exact ⟨he, ds, hr, rfl, rfl⟩))
   cases e with
   | normal => exact key (.inl rfl) q
   | ret => exact key (.inr rfl) q
   | _ => cases q
end
section
@[go_sem] theorem aggT_9 : aggT Z0 9 = some false := by kernel_rfl
@[go_sem] theorem aggT_26 : aggT Z0 26 = some true := by kernel_rfl
@[go_sem] theorem aggT_30 : aggT Z0 30 = some true := by kernel_rfl
@[go_sem] theorem tt1 : aggT Z0 2 = some false ∧ aggT Z0 3 = some false ∧ aggT Z0 4 = some false ∧ aggT Z0 5 = some false ∧ aggT Z0 22 = some false ∧ aggT Z0 23 = some false ∧ aggT Z0 24 = some false ∧ aggT Z0 27 = some false ∧ aggT Z0 28 = some false ∧ aggT Z0 33 = some false ∧ aggT Z0 60 = some false ∧ aggT Z0 67 = some false ∧ aggT Z0 69 = some true ∧ aggT Z0 84 = some true ∧ aggT Z0 117 = some false ∧ aggT Z0 165 = some true ∧ aggT Z0 192 = some false ∧ aggT Z0 217 = some true ∧ aggT Z0 219 = some true ∧ Zs8 Z0 26 = true ∧ Zs8 Z0 30 = true ∧ Zs8 Z0 69 = true ∧ Zs8 Z0 84 = true ∧ Zs8 Z0 131 = true ∧ Zs8 Z0 157 = true ∧ Zs8 Z0 194 = true ∧ Zs8 Z0 217 = true ∧ Zs8 Z0 219 = true ∧ apT Z0 22 = some (9, 1, 16) ∧ apT Z0 27 = some (30, 4, 80) ∧ apT Z0 28 = some (69, 2, 40) ∧ apT Z0 60 = some (5, 1, 1) ∧ apT Z0 67 = some (84, 2, 16) ∧ apT Z0 117 = some (3, 1, 8) ∧ apT Z0 122 = some (27, 1, 24) ∧ apT Z0 172 = some (4, 1, 1) ∧ apT Z0 192 = some (217, 2, 32) ∧ apT Z0 197 = some (219, 2, 16) ∧ apT Z0 205 = some (33, 1, 8) ∧ apT Z0 209 = some (2, 1, 8) := by and_intros <;> kernel_rfl
@[go_sem] theorem elT_22 : elT Z0 22 = some 9 := by kernel_rfl
@[go_sem] theorem tt2 : arrT Z0 51 = some (3, 30) ∧ byT Z0 60 = true ∧ elT Z0 23 = some 26 ∧ elT Z0 24 = some 165 ∧ elT Z0 27 = some 30 ∧ elT Z0 28 = some 69 ∧ elT Z0 60 = some 5 ∧ elT Z0 67 = some 84 ∧ elT Z0 117 = some 3 ∧ elT Z0 122 = some 27 ∧ elT Z0 172 = some 4 ∧ elT Z0 192 = some 217 ∧ elT Z0 205 = some 33 ∧ elT Z0 209 = some 2 ∧ fldT Z0 26 0 = some (0, 3) ∧ fldT Z0 26 1 = some (1, 2) ∧ fldT Z0 26 2 = some (2, 2) ∧ fldT Z0 26 3 = some (3, 22) ∧ fldT Z0 26 4 = some (4, 23) ∧ fldT Z0 26 5 = some (5, 24) ∧ fldT Z0 30 0 = some (0, 2) ∧ fldT Z0 30 1 = some (1, 22) ∧ fldT Z0 30 2 = some (2, 27) ∧ fldT Z0 30 3 = some (3, 28) ∧ fldT Z0 69 0 = some (0, 67) ∧ fldT Z0 69 1 = some (1, 9) ∧ fldT Z0 84 0 = some (0, 3) ∧ fldT Z0 84 1 = some (1, 2) ∧ fldT Z0 98 0 = some (0, 60) ∧ fldT Z0 131 0 = some (0, 3) ∧ fldT Z0 157 0 = some (0, 60) ∧ fldT Z0 157 1 = some (1, 3) ∧ fldT Z0 157 2 = some (2, 3) ∧ fldT Z0 157 3 = some (3, 33) ∧ fldT Z0 165 0 = some (0, 22) ∧ fldT Z0 165 1 = some (1, 9) ∧ fldT Z0 194 0 = some (0, 22) ∧ fldT Z0 194 1 = some (1, 192) ∧ fldT Z0 217 0 = some (0, 117) ∧ fldT Z0 217 1 = some (1, 3) := by and_intros <;> kernel_rfl
@[go_sem] theorem tt3 : fldT Z0 219 1 = some (1, 3) ∧ intT Z0 2 = some IntKind.i64 ∧ intT Z0 3 = some IntKind.i64 ∧ intT Z0 5 = some IntKind.u8 ∧ intT Z0 87 = some IntKind.u64 ∧ intT Z0 144 = some IntKind.u64 ∧ intT Z0 182 = some IntKind.u64 ∧ nzT Z0 2 = true ∧ nzT Z0 3 = true ∧ nzT Z0 9 = true ∧ nzT Z0 22 = true ∧ nzT Z0 23 = true ∧ nzT Z0 24 = true ∧ nzT Z0 27 = true ∧ nzT Z0 28 = true ∧ nzT Z0 33 = true ∧ nzT Z0 60 = true ∧ nzT Z0 67 = true ∧ nzT Z0 117 = true ∧ nzT Z0 192 = true ∧ plT Z0 26 0 = some (0, 1) ∧ plT Z0 30 0 = some (0, 1) ∧ plT Z0 30 1 = some (1, 1) ∧ plT Z0 30 2 = some (2, 1) ∧ plT Z0 30 3 = some (3, 1) ∧ plT Z0 69 0 = some (0, 1) ∧ plT Z0 69 1 = some (1, 1) ∧ plT Z0 84 0 = some (0, 1) ∧ plT Z0 84 1 = some (1, 1) ∧ plT Z0 157 0 = some (0, 1) ∧ plT Z0 194 0 = some (0, 1) ∧ plT Z0 217 1 = some (1, 1) ∧ plT Z0 219 0 = some (0, 1) ∧ plT Z0 219 1 = some (1, 1) ∧ slT Z0 22 = true ∧ slT Z0 23 = true ∧ slT Z0 24 = true ∧ slT Z0 27 = true ∧ slT Z0 28 = true ∧ slT Z0 60 = true := by and_intros <;> kernel_rfl
@[go_sem] theorem szT_9 : szT Z0 9 = some 1 := by kernel_rfl
@[go_sem] theorem szT_26 : szT Z0 26 = some 6 := by kernel_rfl
@[go_sem] theorem szT_30 : szT Z0 30 = some 4 := by kernel_rfl
@[go_sem] theorem tt4 : slT Z0 67 = true ∧ slT Z0 117 = true ∧ slT Z0 122 = true ∧ slT Z0 172 = true ∧ slT Z0 192 = true ∧ slT Z0 197 = true ∧ slT Z0 205 = true ∧ slT Z0 209 = true ∧ strT Z0 9 = true ∧ szT Z0 2 = some 1 ∧ szT Z0 3 = some 1 ∧ szT Z0 4 = some 1 ∧ szT Z0 5 = some 1 ∧ szT Z0 22 = some 1 ∧ szT Z0 23 = some 1 ∧ szT Z0 24 = some 1 ∧ szT Z0 27 = some 1 ∧ szT Z0 28 = some 1 ∧ szT Z0 33 = some 1 ∧ szT Z0 60 = some 1 ∧ szT Z0 67 = some 1 ∧ szT Z0 69 = some 2 ∧ szT Z0 84 = some 2 ∧ szT Z0 117 = some 1 ∧ szT Z0 131 = some 1 ∧ szT Z0 165 = some 2 ∧ szT Z0 182 = some 1 ∧ szT Z0 192 = some 1 ∧ szT Z0 217 = some 2 ∧ szT Z0 219 = some 2 ∧ Vq Z0 2 = some [.v (.int .i64 0)] ∧ Vq Z0 3 = some [.v (.int .i64 0)] ∧ Vq Z0 26 = some [.v (.int .i64 0), .v (.int .i64 0), .v (.int .i64 0), .v (.slice none 0 0), .v (.slice none 0 0), .v (.slice none 0 0)] ∧ Vq Z0 30 = some [.v (.int .i64 0), .v (.slice none 0 0), .v (.slice none 0 0), .v (.slice none 0 0)] ∧ Vq Z0 69 = some [.v (.slice none 0 0), .v (.string ⟨⟨[]⟩⟩)] ∧ Vq Z0 84 = some [.v (.int .i64 0), .v (.int .i64 0)] ∧ Vq Z0 98 = some [.v (.slice none 0 0)] ∧ Vq Z0 131 = some [.v (.int .i64 0)] ∧ Vq Z0 157 = some [.v (.slice none 0 0), .v (.int .i64 0), .v (.int .i64 0), .v (.int .i64 0)] ∧ Vq Z0 165 = some [.v (.slice none 0 0), .v (.string ⟨⟨[]⟩⟩)] := by and_intros <;> kernel_rfl
@[go_sem] theorem tt5 : Vq Z0 182 = some [.v (.int .u64 0)] ∧ Vq Z0 194 = some [.v (.slice none 0 0), .v (.slice none 0 0)] ∧ Vq Z0 217 = some [.v (.slice none 0 0), .v (.int .i64 0)] ∧ Vq Z0 219 = some [.v (.int .i64 0), .v (.int .i64 0)] := by and_intros <;> kernel_rfl
theorem ent_3 : entB Z0 3 = true := by kernel_rfl
theorem ent_15 : entB Z0 15 = true := by kernel_rfl
theorem ent_16 : entB Z0 16 = true := by kernel_rfl
theorem ent_17 : entB Z0 17 = true := by kernel_rfl
theorem ent_23 : entB Z0 23 = true := by kernel_rfl
theorem Zz3 : entB Z0 25 = true := by kernel_rfl
theorem Yf3 : entB Z0 26 = true := by kernel_rfl
theorem ent_27 : entB Z0 27 = true := by kernel_rfl
theorem ent_37 : entB Z0 37 = true := by kernel_rfl
theorem ent_38 : entB Z0 38 = true := by kernel_rfl
theorem ent_39 : entB Z0 39 = true := by kernel_rfl
theorem ent_40 : entB Z0 40 = true := by kernel_rfl
theorem ent_41 : entB Z0 41 = true := by kernel_rfl
theorem ent_44 : entB Z0 44 = true := by kernel_rfl
theorem ent_46 : entB Z0 46 = true := by kernel_rfl
theorem ent_52 : entB Z0 52 = true := by kernel_rfl
theorem ent_55 : entB Z0 55 = true := by kernel_rfl
theorem ent_56 : entB Z0 56 = true := by kernel_rfl
theorem ent_57 : entB Z0 57 = true := by kernel_rfl
theorem ent_58 : entB Z0 58 = true := by kernel_rfl
theorem ent_59 : entB Z0 59 = true := by kernel_rfl
theorem ent_60 : entB Z0 60 = true := by kernel_rfl
theorem Zc9 : entB Z0 61 = true := by kernel_rfl
theorem ent_68 : entB Z0 68 = true := by kernel_rfl
theorem ent_76 : entB Z0 76 = true := by kernel_rfl
theorem ent_77 : entB Z0 77 = true := by kernel_rfl
theorem Yf2 : entB Z0 78 = true := by kernel_rfl
theorem ent_79 : entB Z0 79 = true := by kernel_rfl
theorem ent_80 : entB Z0 80 = true := by kernel_rfl
theorem ent_81 : entB Z0 81 = true := by kernel_rfl
theorem ent_82 : entB Z0 82 = true := by kernel_rfl
theorem ent_88 : entB Z0 88 = true := by kernel_rfl
theorem ent_89 : entB Z0 89 = true := by kernel_rfl
theorem ent_90 : entB Z0 90 = true := by kernel_rfl
theorem ent_91 : entB Z0 91 = true := by kernel_rfl
theorem ent_92 : entB Z0 92 = true := by kernel_rfl
theorem ent_93 : entB Z0 93 = true := by kernel_rfl
theorem Yf1 : entB Z0 95 = true := by kernel_rfl
theorem ent_96 : entB Z0 96 = true := by kernel_rfl
theorem ent_97 : entB Z0 97 = true := by kernel_rfl
theorem Yf0 : entB Z0 98 = true := by kernel_rfl
theorem ent_101 : entB Z0 101 = true := by kernel_rfl
theorem ent_104 : entB Z0 104 = true := by kernel_rfl
theorem ent_108 : entB Z0 108 = true := by kernel_rfl
theorem Zk1 : entB Z0 110 = true := by kernel_rfl
theorem ent_111 : entB Z0 111 = true := by kernel_rfl
theorem ent_113 : entB Z0 113 = true := by kernel_rfl
theorem ent_114 : entB Z0 114 = true := by kernel_rfl
theorem Yl5 : entB Z0 115 = true := by kernel_rfl
theorem ent_116 : entB Z0 116 = true := by kernel_rfl
theorem Jn : entB Z0 117 = true := by kernel_rfl
theorem ent_118 : entB Z0 118 = true := by kernel_rfl
theorem Zq7 : entB Z0 123 = true := by kernel_rfl
theorem ent_124 : entB Z0 124 = true := by kernel_rfl
theorem ent_128 : entB Z0 128 = true := by kernel_rfl
theorem ent_134 : entB Z0 134 = true := by kernel_rfl
theorem Zk0 : entB Z0 135 = true := by kernel_rfl
theorem ent_136 : entB Z0 136 = true := by kernel_rfl
theorem ent_137 : entB Z0 137 = true := by kernel_rfl
theorem ent_138 : entB Z0 138 = true := by kernel_rfl
theorem ent_139 : entB Z0 139 = true := by kernel_rfl
theorem ent_140 : entB Z0 140 = true := by kernel_rfl
theorem ent_151 : entB Z0 151 = true := by kernel_rfl
theorem ent_152 : entB Z0 152 = true := by kernel_rfl
theorem ent_153 : entB Z0 153 = true := by kernel_rfl
theorem ent_154 : entB Z0 154 = true := by kernel_rfl
theorem ent_155 : entB Z0 155 = true := by kernel_rfl
theorem ent_156 : entB Z0 156 = true := by kernel_rfl
theorem Uc : entB Z0 157 = true := by kernel_rfl
theorem Zz6 : entB Z0 158 = true := by kernel_rfl
theorem ent_159 : entB Z0 159 = true := by kernel_rfl
theorem ent_160 : entB Z0 160 = true := by kernel_rfl
theorem Yl4 : entB Z0 174 = true := by kernel_rfl
theorem Yl3 : entB Z0 175 = true := by kernel_rfl
theorem Yl2 : entB Z0 176 = true := by kernel_rfl
theorem Zf1 : entB Z0 183 = true := by kernel_rfl
theorem ent_193 : entB Z0 193 = true := by kernel_rfl
theorem Yl1 : entB Z0 196 = true := by kernel_rfl
theorem ent_197 : entB Z0 197 = true := by kernel_rfl
theorem Yl0 : entB Z0 198 = true := by kernel_rfl
theorem Zf0 : entB Z0 199 = true := by kernel_rfl
theorem ent_200 : entB Z0 200 = true := by kernel_rfl
theorem Zb8 : entB Z0 201 = true := by kernel_rfl
theorem ent_202 : entB Z0 202 = true := by kernel_rfl
theorem ent_203 : entB Z0 203 = true := by kernel_rfl
theorem ent_204 : entB Z0 204 = true := by kernel_rfl
theorem ent_205 : entB Z0 205 = true := by kernel_rfl
theorem ent_206 : entB Z0 206 = true := by kernel_rfl
theorem ent_207 : entB Z0 207 = true := by kernel_rfl
theorem ent_213 : entB Z0 213 = true := by kernel_rfl
theorem ent_214 : entB Z0 214 = true := by kernel_rfl
theorem ent_215 : entB Z0 215 = true := by kernel_rfl
theorem Ze9 : entB Z0 216 = true := by kernel_rfl
theorem Ub : entB Z0 217 = true := by kernel_rfl
theorem Ua : entB Z0 218 = true := by kernel_rfl
theorem ent_224 : entB Z0 224 = true := by kernel_rfl
theorem ent_225 : entB Z0 225 = true := by kernel_rfl
theorem ent_233 : entB Z0 233 = true := by kernel_rfl
theorem Ze8 : entB Z0 235 = true := by kernel_rfl
theorem Zq6 : entB Z0 236 = true := by kernel_rfl
theorem Zz5 : entB Z0 237 = true := by kernel_rfl
theorem ent_238 : entB Z0 238 = true := by kernel_rfl
theorem Zz4 : entB Z0 239 = true := by kernel_rfl
theorem Yk9 : entB Z0 240 = true := by kernel_rfl
theorem ent_243 : entB Z0 243 = true := by kernel_rfl
theorem ent_244 : entB Z0 244 = true := by kernel_rfl
theorem ent_245 : entB Z0 245 = true := by kernel_rfl
theorem ent_246 : entB Z0 246 = true := by kernel_rfl
theorem ent_256 : entB Z0 256 = true := by kernel_rfl
theorem ent_257 : entB Z0 257 = true := by kernel_rfl
theorem ent_266 : entB Z0 266 = true := by kernel_rfl
theorem mixd : Z0.follows .mixedOrders = true := by kernel_rfl
end
section
variable {P : Program} {G : Nat → D} {n : Nat} {e : Nat → D} {h : List Ob}
theorem Zx7 {j : Nat} : Zj8 (fun i => i == j) h = h.set j .dead := by
 apply List.ext_getElem?
 intro i
 unfold Zj8
 rw [List.getElem?_mapIdx, List.getElem?_set]
 by_cases hij : j = i
 · subst hij
   cases hj : h[j]? with
   | none => rw [if_pos rfl, if_neg (by simpa using hj)]; rfl
   | some ob => rw [if_pos rfl, if_pos (Z4.1 hj).1]; simp
 · rw [if_neg hij]
   cases hi : h[i]? with
   | none => rfl
   | some ob => simp [Ne.symm hij]
theorem Sit_give {B : Base} {a : Act} {w : World} (j t : Nat) (r : Sit G B ⟨n, e, h⟩ a w) : Sit G B ⟨n, upd e t (cvD (fun i => i == j) h (e t)), h.set j .dead⟩ a w := by
 obtain ⟨hd, p, r⟩ := r
 obtain ⟨p', o, ev, q⟩ := Ok.give r.ok (fun i => i == j)
 rw [Zx7] at o ev q
 refine ⟨hd, p', o, r.evo.trans ev, fun t' => ?_, r.size, r.defers⟩
 show rd _ _ _ (upd e t _ t') _
 unfold upd
 by_cases ht : t' = t
 · rw [if_pos ht, ht]; exact q _ _ (r.tmp t)
 · rw [if_neg ht]; exact ev.rd r.ok (r.tmp t')
theorem ao_give {ops : Array Oper} {l : List Oper} {Q : S → Prop} (j t : Nat) (k : ao P G ops l Q ⟨n, upd e t (cvD (fun i => i == j) h (e t)), h.set j .dead⟩) : ao P G ops l Q ⟨n, e, h⟩ := fun B a w r R hR => k B a w (Sit_give j t r) R hR
@[go_sem] theorem buildD_all {parts : List (Nat × D)} {t : TypeId} (q : Zs8 P t = true) : Zs3 P t parts = (Vq P t).bind fun z => Yk7 (plT P t) z parts := by unfold Zs3; rw [if_pos q]
@[go_sem] theorem fillD_nil {pl : Nat → Option (Nat × Nat)} {cs : List D} : Yk7 pl cs [] = some cs := rfl
@[go_sem] theorem fillD_cons {pl : Nat → Option (Nat × Nat)} {cs : List D} {i : Nat} {d : D} {rest : List (Nat × D)} : Yk7 pl cs ((i, d) :: rest) = match pl i, d.cells with
 | some (off, sz), some es => if es.length = sz ∧ off + sz ≤ cs.length then Yk7 pl (putL cs off es) rest else none
 | _, _ => none := rfl
@[go_sem] theorem putL_cons {α : Type} {a b : α} {l m : List α} : putL (a :: l) 0 (b :: m) = b :: putL l 0 m := by simp [putL]
@[go_sem] theorem putL_nil {α : Type} {l : List α} {o : Nat} : putL l o [] = l := by simp [putL]
@[go_sem] theorem putL_suc {α : Type} {a : α} {l m : List α} {o : Nat} : putL (a :: l) (o + 1) m = a :: putL l o m := by simp [putL, Nat.add_right_comm]
attribute [go_sem] litD V0 Option.map_some Z8 List.length_nil and_self Option.bind_some
end
section
section
variable {P : Program} {G : Nat → D} {n : Nat} {e : Nat → D} {h : List Ob} {ops : Array Oper} {rest : List Oper} {Q : S → Prop} {t : Nat} {ty : TypeId} {pos : String} {aft : Array Edge} {gd : Option (Nat × Bool)} {x y : Operand} {u u' i j m m' e' k' e2 k2 by' : Nat} {xs ys : List (List D)}
theorem ao_app (hw : Yc ops gd e = some true) (ht : decide (t < n) = true) (hx : ev G e x = .buf i m) (hi : h[i]? = some (.buf e' k' xs)) (hm : xs.length = m) (ha : apT P u = some (e', k', by')) (hs : srcD P h u u' (ev G e y) = some ys) (hk : Yr k' ys) (hb : (m + ys.length) * (by' + 1) ≤ 140737488355328)
 (k : ao P G ops rest Q ⟨n, upd e t (.buf i (m + ys.length)), h.set i (.buf e' k' (xs ++ ys))⟩) : ao P G ops (⟨some t, .call ⟨.builtin .append, #[x, y], #[u, u']⟩, ty, pos, aft, gd⟩ :: rest) Q ⟨n, e, h⟩ := by
 refine ao1 hw ht fun K HK => ?_
 rw [aOp_bi]
 show biA P h .append [u, u'] [ev G e x, ev G e y] K
 rw [hx, biA_append]
 exact ⟨e', k', by', ys, ha, hs, hk, xs, hi, hm, hb, HK _ _ k⟩
theorem ao_appN (hw : Yc ops gd e = some true) (ht : decide (t < n) = true) (hx : ev G e x = .v (.slice none 0 0)) (ha : apT P u = some (e', k', by')) (hs : srcD P h u u' (ev G e y) = some ys) (hk : Yr k' ys) (hb : ys.length * (by' + 1) ≤ 140737488355328)
 (k : ao P G ops rest Q ⟨n, upd e t (.buf h.length ys.length), h ++ [.buf e' k' ys]⟩) : ao P G ops (⟨some t, .call ⟨.builtin .append, #[x, y], #[u, u']⟩, ty, pos, aft, gd⟩ :: rest) Q ⟨n, e, h⟩ := by
 refine ao1 hw ht fun K HK => ?_
 rw [aOp_bi]
 show biA P h .append [u, u'] [ev G e x, ev G e y] K
 rw [hx, biA_append]
 exact ⟨e', k', by', ys, ha, hs, hk, hb, HK _ _ k⟩
theorem Wd (hw : Yc ops gd e = some true) (ht : decide (t < n) = true) (hx : ev G e x = .buf i m) (hy : ev G e y = .buf j m') (hi : h[i]? = some (.buf e' k' xs)) (hm : xs.length = m) (ha : apT P u = some (e', k', by')) (hj : h[j]? = some (.buf e2 k2 ys)) (hm' : ys.length = m') (hk : Yr k' ys) (hb : (m + ys.length) * (by' + 1) ≤ 140737488355328)
 (k : ao P G ops rest Q ⟨n, upd e t (.buf i (m + ys.length)), h.set i (.buf e' k' (xs ++ ys))⟩) : ao P G ops (⟨some t, .call ⟨.builtin .append, #[x, y], #[u, u]⟩, ty, pos, aft, gd⟩ :: rest) Q ⟨n, e, h⟩ := ao_app hw ht hx hi hm ha (Yg8 hy hj hm') hk hb k
theorem ao_appR (hw : Yc ops gd e = some true) (ht : decide (t < n) = true) (hx : ev G e x = .buf i m) (hi : h[i]? = some (.buf e' k' xs)) (hm : xs.length = m) (ha : apT P u = some (e', k', by')) (hs : srcD P [] u u' (ev G e y) = some ys) (hk : Yr k' ys) (hb : (m + ys.length) * (by' + 1) ≤ 140737488355328)
 (k : ao P G ops rest Q ⟨n, upd e t (.buf i (m + ys.length)), h.set i (.buf e' k' (xs ++ ys))⟩) : ao P G ops (⟨some t, .call ⟨.builtin .append, #[x, y], #[u, u']⟩, ty, pos, aft, gd⟩ :: rest) Q ⟨n, e, h⟩ := ao_app hw ht hx hi hm ha (src_any hs) hk hb k
theorem ao_appNB (hw : Yc ops gd e = some true) (ht : decide (t < n) = true) (hx : ev G e x = .v (.slice none 0 0)) (hy : ev G e y = .buf j m') (ha : apT P u = some (e', k', by')) (hj : h[j]? = some (.buf e2 k2 ys)) (hm' : ys.length = m') (hk : Yr k' ys) (hb : ys.length * (by' + 1) ≤ 140737488355328)
 (k : ao P G ops rest Q ⟨n, upd e t (.buf h.length ys.length), h ++ [.buf e' k' ys]⟩) : ao P G ops (⟨some t, .call ⟨.builtin .append, #[x, y], #[u, u]⟩, ty, pos, aft, gd⟩ :: rest) Q ⟨n, e, h⟩ := ao_appN hw ht hx ha (Yg8 hy hj hm') hk hb k
theorem Ym5 (hw : Yc ops gd e = some true) (ht : decide (t < n) = true) (hx : ev G e x = .v (.slice none 0 0)) (ha : apT P u = some (e', k', by')) (hs : srcD P [] u u' (ev G e y) = some ys) (hk : Yr k' ys) (hb : ys.length * (by' + 1) ≤ 140737488355328)
 (k : ao P G ops rest Q ⟨n, upd e t (.buf h.length ys.length), h ++ [.buf e' k' ys]⟩) : ao P G ops (⟨some t, .call ⟨.builtin .append, #[x, y], #[u, u']⟩, ty, pos, aft, gd⟩ :: rest) Q ⟨n, e, h⟩ := ao_appN hw ht hx ha (src_any hs) hk hb k
end
end
section
theorem low_by (m : Nat) (l : List UInt8) : low m (.sl 1 (byD l)) := by
 rw [low, Zn4]
 intro row hr
 obtain ⟨b, _, rfl⟩ := List.mem_map.1 hr
 simp [lowL, low]
theorem lowH_set {m : Nat} {h : List Ob} {i : Nat} {ob : Ob} (q : lowH m h) (r : lowOb m ob) : lowH m (h.set i ob) := fun x hx => by
 rcases List.mem_or_eq_of_mem_set hx with h | rfl
 · exact q x h
 · exact r
theorem set_same {h : List Ob} {i : Nat} {ob : Ob} (hi : h[i]? = some ob) : h.set i ob = h := by
 apply List.ext_getElem?
 intro j
 by_cases hij : i = j
 · subst hij; rw [List.getElem?_set_self (Z4.1 hi).1, hi]
 · rw [List.getElem?_set_ne hij]
section
variable {P : Program} {G : Nat → D} {n : Nat} {e : Nat → D} {h : List Ob}
theorem Sit.via {B : Base} {a : Act} {w : World} {hd hd' : List Value} {p p' : Nat → Bool} {h' : List Ob} (r : Sat G B ⟨n, e, h⟩ a w hd p) (o : Ok G w hd' h' p') (ev : Evo w hd h p w hd' h' p') : Sit G B ⟨n, e, h'⟩ a w :=
 ⟨hd', p', o, r.evo.trans ev, fun t => ev.rd r.ok (r.tmp t), r.size, r.defers⟩
theorem Zw6 {hd : List Value} {W : World} {j E k : Nat} {u : Value} (hj : h[j]? = some (.buf E k [])) (hu : hd[j]? = some (.slice none 0 0)) (q : rd hd h W (.v (.slice none 0 0)) u) : rd hd h W (.buf j 0) u := by
 rw [rd] at q
 subst q
 rw [rd]
 exact ⟨⟨_, _, rfl⟩, .of hj rfl, fun e k xs hx => by rw [hj] at hx; cases hx; exact ⟨Za _, fun _ => hu⟩⟩
theorem Sit_nilcell {B : Base} {a : Act} {w : World} (E k : Nat) {i : Nat} {xs bs : List D} (hi : h[i]? = some (.cells (xs ++ .v (.slice none 0 0) :: bs))) (r : Sit G B ⟨n, e, h⟩ a w) : Sit G B ⟨n, e, (h.set i (.cells (xs ++ .buf h.length 0 :: bs))) ++ [.buf E k []]⟩ a w := by
 have hil := (Z4.1 hi).1
 obtain ⟨hd, p, r⟩ := r
 obtain ⟨o, ev⟩ := Ok.grow (ob := .buf E k []) (u := .slice none 0 0) (w' := w) r.ok rfl rfl rfl (Za _) (fun _ _ => rfl) (fun b hb => by cases hb) (fun c s => ⟨[], World.ownsRow_nil _ _ _ _, by simp [rdL], fun row h => by simp at h, fun g h => by cases h⟩)
 have r1 : Sat G B ⟨n, e, h ++ [.buf E k []]⟩ a w (hd ++ [.slice none 0 0]) _ := ⟨o, r.evo.trans ev, fun t => ev.rd r.ok (r.tmp t), r.size, r.defers⟩
 have hl : i < hd.length := by rw [r.ok.len]; exact hil
 obtain ⟨u, hu⟩ : ∃ u, hd[i]? = some u := ⟨_, Z3 hl⟩
 have hi2 : (h ++ [Ob.buf E k []])[i]? = some (.cells (xs ++ .v (.slice none 0 0) :: bs)) := by rw [Z6 hil, hi]
 have hu2 : (hd ++ [Value.slice none 0 0])[i]? = some u := by rw [Z6 hl, hu]
 obtain ⟨BB, cs, t, e1, e2, e3, e4⟩ := o.ob i _ u hi2 hu2
 have e5 : rdL (hd ++ [Value.slice none 0 0]) (h ++ [.buf E k []]) (only (fun b => p b && b != w.heap.size) w) (xs ++ .buf h.length 0 :: bs) cs.toList := by
  rw [Yx] at e3 ⊢
  refine ⟨by simpa using e3.1, fun j d hj => ?_⟩
  by_cases hjl : j = xs.length
  · subst hjl
    simp at hj; subst hj
    obtain ⟨u', h1, h2⟩ := e3.2 xs.length (.v (.slice none 0 0)) (by simp)
    exact ⟨u', h1, Zw6 (k := k) (E := E) (by simp) (by rw [← r.ok.len]; simp) h2⟩
  · refine e3.2 j d ?_
    rw [List.getElem?_append] at hj ⊢
    split at hj
    · rename_i hlt; rw [if_pos hlt]; exact hj
    · rename_i hge
      rw [if_neg hge]
      obtain ⟨m, hm⟩ : ∃ m, j - xs.length = m + 1 := ⟨j - xs.length - 1, by omega⟩
      rw [hm] at hj ⊢
      simpa using hj
 obtain ⟨o2, ev2⟩ := Ok.repl (ob' := .cells (xs ++ .buf h.length 0 :: bs)) (u' := u) (w' := w) o hi2 hu2 rfl rfl rfl rfl (Za _) (fun _ _ _ => rfl) (fun b hb => .inl hb) (fun _ _ => rfl) (fun _ _ _ h => by cases h) (fun c s => by
  refine ⟨BB, cs, t, e1, e2, Xt c s _ _ e5, by simp [e4]⟩)
 have := Sit.via r1 o2 ev2
 rwa [List.set_append_left _ _ hil] at this
theorem Vv {c : Code} {Q : Exit → S → Prop} (E k i : Nat) (xs bs : List D) (hi : h[i]? = some (.cells (xs ++ .v (.slice none 0 0) :: bs))) (q : aw P G c Q ⟨n, e, (h.set i (.cells (xs ++ .buf h.length 0 :: bs))) ++ [.buf E k []]⟩) : aw P G c Q ⟨n, e, h⟩ := fun B a w r => q B a w (Sit_nilcell E k hi r)
end
end
end Go.Proofs.YtbhkcbidcfofiaaGreat
