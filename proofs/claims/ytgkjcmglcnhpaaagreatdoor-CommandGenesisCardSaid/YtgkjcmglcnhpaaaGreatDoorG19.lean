/-
  What the statements of the chapter share, part 19: K5, K6, K7, PRd, PCmd, RT0, RT1, RI0, RI1, RI2, RI3, RI4, CM2, RR1.
-/
import Derived.Test.YtgkjcmglcnhpaaaGreatDoorG10
import Derived.Test.YtgkjcmglcnhpaaaGreatDoorG16
import Derived.Test.YtgkjcmglcnhpaaaGreatDoorG18
set_option linter.unusedVariables false
set_option linter.unusedSimpArgs false
set_option maxRecDepth 100000
set_option maxHeartbeats 8000000
namespace Go.Proofs.YtgkjcmglcnhpaaaGreatDoor
open Go.RowKit
section
variable {P : Program} {G : Nat → D} {n : Nat} {h : List Ob} {t : Tr}
inductive Er where
 | no
 | mk (E : Ef) (h : List Ob)
def EffOk (P : Program) (G : Nat → D) (o : Oper) (e : Nat → D) (h : List Ob) (E : Ef) (h' : List Ob) : Prop := YT P G o ((opds o.op).map (ev G e)) E ∧ h.length ≤ h'.length ∧ ∀ T, h'.length - h.length ≤ T → E.ok (h ++ holes T) ∧ E.heap (h ++ holes T) = h' ++ holes (T - (h'.length - h.length))
noncomputable def erO {α : Type} (x : Option α) (f : α → Er) : Er := @Option.rec α (fun _ => Er) .no f x
theorem erO_mk {α : Type} {x : Option α} {f : α → Er} {E : Ef} {h' : List Ob} (q : erO x f = .mk E h') : ∃ a, x = some a ∧ f a = .mk E h' := by
 cases x with
 | none => cases q
 | some a => exact ⟨a, rfl, q⟩
theorem bc_mk {b : Bool} {x : Er} {E : Ef} {h' : List Ob} (q : bc b x .no = .mk E h') : b = true ∧ x = .mk E h' := by
 cases b
 · cases q
 · exact ⟨rfl, q⟩
noncomputable def evL (G : Nat → D) (t : Tr) (l : List Operand) : List D := @List.rec Operand (fun _ => List D) [] (fun x _ ih => evK G t x :: ih) l
theorem evL_eq (G : Nat → D) (t : Tr) : ∀ l, evL G t l = l.map (ev G t.get)
 | [] => rfl
 | x :: l => by show evK G t x :: evL G t l = _; rw [evK_eq, evL_eq G t l]; rfl
noncomputable def appK {α : Type} (a b : List α) : List α := @List.rec α (fun _ => List α) b (fun x _ ih => x :: ih) a
theorem appK_eq {α : Type} (b : List α) : ∀ a, appK a b = a ++ b
 | [] => rfl
 | x :: a => by show x :: appK a b = _; rw [appK_eq b a]; rfl
noncomputable def isCallK (op : Op) : Bool := @Op.casesOn (fun _ => Bool) op (fun _ => false) (fun _ => false) (fun _ _ _ => false) (fun _ => false) (fun _ _ => false) (fun _ _ => false) (fun _ _ _ => false) (fun _ _ _ _ => false) (fun _ _ => false) (fun _ _ _ => false) (fun _ => false) (fun _ => false) (fun _ => false) (fun _ _ _ _ _ => false) (fun _ _ _ => false) (fun _ _ _ => false) (fun _ _ => false) (fun _ _ => false) (fun _ _ _ => false) (fun _ _ => false) (fun _ _ => false) (fun _ _ _ => false) (fun _ _ _ _ _ => false) (fun _ _ _ => false) (fun _ _ _ => false) (fun _ _ _ => false) (fun _ _ _ => false) (fun _ _ _ _ => false) (fun _ _ _ _ => false) (fun _ _ _ => false) (fun _ _ _ _ => false) (fun _ _ => false) (fun _ _ => false) (fun _ => false) (fun _ _ _ _ => false) (fun _ _ => false)
 (fun c => @Call.casesOn (fun _ => Bool) c fun cal _ _ => @Callee.casesOn (fun _ => Bool) cal (fun _ => true) (fun _ _ => false) (fun _ => false)) (fun _ => false) (fun _ => false) (fun _ => false) (fun _ _ => false) (fun _ _ _ => false) (fun _ _ => false)
theorem isCallK_spec {op : Op} (q : isCallK op = true) : ∃ x args tys, op = .call ⟨.value x, args, tys⟩ := by
 cases op <;> try (cases q; done)
 case call c =>
  obtain ⟨cal, args, tys⟩ := c
  cases cal <;> first | exact ⟨_, _, _, rfl⟩ | cases q
noncomputable def goC (cal : Cal) (R : List Nat) (h : List Ob) (args1 : List D) (h1 : List Ob) : Er := @List.casesOn D (fun _ => Er) args1 .no fun x xs => @D.casesOn (fun _ => Er) x .no (fun _ => .no) (fun _ _ => .no) (fun _ => .no) (fun _ => .no) (fun _ => .no) (fun _ _ => .no) (fun _ _ => .no) (fun _ _ _ _ => .no) (fun _ _ _ _ => .no) (fun _ _ _ _ _ => .no) (fun _ => .no) .no
 (fun f cap => erO (cal f (appK xs cap) h1) fun r => @Prod.casesOn (List Ob) D (fun _ => Er) r fun h1' r1 => bc (Nat.ble (lenK h1 0) (lenK h1' 0)) (.mk (mkEf R h h1 h1' r1) (mkH R h h1')) .no)
noncomputable def effC (G : Nat → D) (cal : Cal) (t : Tr) (h : List Ob) (op : Op) : Er := (fun args => bc (noR3 args) (goC cal [] h args []) ((fun R => erO (rnHK R h R) fun h1 => erO (rnK3 R args) fun args1 => bc (nodupK R) (goC cal R h args1 h1) .no) (closeK h 4000 0 (addK (refsLK args []) [])))) (evL G t (opds op))
noncomputable def goX (P : Program) (G : Nat → D) (R : List Nat) (h : List Ob) (env : Nat → D) (h1 : List Ob) (op : Op) : Er := erO (xF P G env h1 op) fun r => @Prod.casesOn (List Ob) D (fun _ => Er) r fun h1' r1 => bc (Nat.ble (lenK h1 0) (lenK h1' 0)) (.mk (mkEf R h h1 h1' r1) (mkH R h h1')) .no
noncomputable def renEnvK (R : List Nat) (t : Tr) : Nat → D := fun i => @Option.rec D (fun _ => D) .any (fun d => d) (rnK R (getK t i))
noncomputable def effX (P : Program) (G : Nat → D) (t : Tr) (h : List Ob) (op : Op) : Er := (fun args => bc (noR3 args) (goX P G [] h (getK t) [] op) ((fun R => erO (rnHK R h R) fun h1 => erO (rnK3 R args) fun _ => bc (nodupK R) (goX P G R h (renEnvK R t) h1 op) .no) (closeK h 4000 0 (addK (refsLK args []) [])))) (evL G t (opds op))
theorem renEnvK_eq (R : List Nat) (t : Tr) : renEnvK R t = renEnv R t.get := funext fun i => by
 show @Option.rec D (fun _ => D) .any (fun d => d) (rnK R (getK t i)) = _
 unfold renEnv
 rw [rnK_eq, getK_eq]
 cases rnO R (t.get i) <;> rfl
theorem goC_ok (hG : ∀ g, low 0 (G g)) {cal : Cal} (hc : CalOk P G cal) {o : Oper} {R : List Nat} {h1 : List Ob} {args1 : List D} {E : Ef} {h' : List Ob} (hcall : isCallK o.op = true) (hr : rnH R h R = some h1) (nd : nodupB R = true) (ha : renL (plcN R h.length) args1 = (opds o.op).map (ev G t.get)) (la : lowL R.length args1) (q : goC cal R h args1 h1 = .mk E h') : EffOk P G o t.get h E h' := by
 obtain ⟨dst, op, ty, pos, aft, gd⟩ := o
 obtain ⟨x, args, tys, rfl⟩ := isCallK_spec hcall
 cases args1 with
 | nil => cases q
 | cons y xs =>
 cases y <;> try (cases q; done)
 case fn f cap =>
 obtain ⟨⟨h1', r1⟩, hcal, q⟩ := erO_mk q
 obtain ⟨hle, q⟩ := bc_mk q
 have hle := Nat.le_of_ble_eq_true hle
 rw [lenK_eq, lenK_eq, Nat.zero_add, Nat.zero_add] at hle
 cases q
 rw [appK_eq] at hcal
 have tri : OpTri P G ⟨dst, .call ⟨.value x, args, tys⟩, ty, pos, aft, gd⟩ (.fn f cap :: xs) h1 (fun h2 r => h2 = h1' ∧ r = r1) := by
  rcases hc _ _ _ _ _ hcal with ⟨he, h3⟩ | ⟨_, rfl, h3⟩
  · exact tri_of_call he h3
  · exact tri_of_ext h3
 have := mkEf_sound hG hr nd hle tri la
 rw [ha] at this
 refine ⟨this.1, by rw [mkH_len]; omega, fun T hT => ?_⟩
 rw [mkH_len] at hT ⊢
 rw [show h.length + (h1'.length - R.length) - h.length = h1'.length - R.length by omega] at hT ⊢
 exact this.2 T hT
theorem effC_ok (hG : ∀ g, low 0 (G g)) {cal : Cal} (hc : CalOk P G cal) {o : Oper} {E : Ef} {h' : List Ob} (hcall : isCallK o.op = true) (q : effC G cal t h o.op = .mk E h') : EffOk P G o t.get h E h' := by
 unfold effC at q
 rw [evL_eq] at q
 dsimp only at q
 cases hn : noR3 ((opds o.op).map (ev G t.get))
 · rw [hn] at q
   have q : erO (rnHK _ h _) _ = _ := q
   generalize closeK h 4000 0 _ = R at q
   obtain ⟨h1, hr, q⟩ := erO_mk q
   obtain ⟨args1, ha, q⟩ := erO_mk q
   obtain ⟨nd, q⟩ := bc_mk q
   rw [rnHK_eq] at hr
   rw [rnK3_eq] at ha
   rw [nodupK_eq] at nd
   obtain ⟨a1, a2⟩ := rnL_spec (π := plcN R h.length) plcN_old _ _ ha
   exact goC_ok hG hc hcall hr nd a1 a2 q
 · rw [hn] at q
   have hl := noR3_low _ hn
   exact goC_ok hG hc hcall (R := []) (by rw [rnH]) rfl (renL_low0 _ _ hl) hl q
theorem goX_ok (hG : ∀ g, low 0 (G g)) {o : Oper} {R : List Nat} {h1 : List Ob} {env : Nat → D} {E : Ef} {h' : List Ob} (hr : rnH R h R = some h1) (nd : nodupB R = true) (ha : renL (plcN R h.length) ((opds o.op).map (ev G env)) = (opds o.op).map (ev G t.get)) (la : lowL R.length ((opds o.op).map (ev G env))) (q : goX P G R h env h1 o.op = .mk E h') : EffOk P G o t.get h E h' := by
 obtain ⟨⟨h1', r1⟩, hx, q⟩ := erO_mk q
 obtain ⟨hle, q⟩ := bc_mk q
 have hle := Nat.le_of_ble_eq_true hle
 rw [lenK_eq, lenK_eq, Nat.zero_add, Nat.zero_add] at hle
 cases q
 have := mkEf_sound hG hr nd hle (xF_sound hx) la
 rw [ha] at this
 refine ⟨this.1, by rw [mkH_len]; omega, fun T hT => ?_⟩
 rw [mkH_len] at hT ⊢
 rw [show h.length + (h1'.length - R.length) - h.length = h1'.length - R.length by omega] at hT ⊢
 exact this.2 T hT
theorem effX_ok (hG : ∀ g, low 0 (G g)) {o : Oper} {E : Ef} {h' : List Ob} (q : effX P G t h o.op = .mk E h') : EffOk P G o t.get h E h' := by
 unfold effX at q
 rw [evL_eq] at q
 dsimp only at q
 cases hn : noR3 ((opds o.op).map (ev G t.get))
 · rw [hn] at q
   have q : erO (rnHK _ h _) _ = _ := q
   generalize closeK h 4000 0 _ = R at q
   obtain ⟨h1, hr, q⟩ := erO_mk q
   obtain ⟨args1, hl, q⟩ := erO_mk q
   obtain ⟨nd, q⟩ := bc_mk q
   rw [rnHK_eq] at hr
   rw [rnK3_eq] at hl
   rw [nodupK_eq] at nd
   rw [renEnvK_eq] at q
   have key : ∀ x ∈ opds o.op, ren (plcN R h.length) (ev G (renEnv R t.get) x) = ev G t.get x ∧ low R.length (ev G (renEnv R t.get) x) := fun x hx => by
    cases x with
    | tmp i =>
     have all : ∀ (l : List D) (l' : List D), rnL R l = some l' → ∀ d ∈ l, ∃ d', rnO R d = some d' := fun l => by
      induction l with
      | nil => intro _ _ d hd; simp at hd
      | cons a l ih =>
       intro l' hl' d hd
       rw [rnL] at hl'
       split at hl'
       · rename_i a' ha
         split at hl'
         · rename_i t' ht
           rcases List.mem_cons.1 hd with rfl | hd
           · exact ⟨_, ha⟩
           · exact ih _ ht d hd
         · cases hl'
       · cases hl'
     obtain ⟨d, hd⟩ := all _ _ hl _ (List.mem_map.2 ⟨.tmp i, hx, rfl⟩)
     have hd : rnO R (t.get i) = some d := hd
     have e1 : ev G (renEnv R t.get) (.tmp i) = d := by show renEnv R t.get i = d; unfold renEnv; rw [hd]
     rw [e1]
     exact rnO_spec (π := plcN R h.length) plcN_old _ _ hd
    | const v => exact ⟨by show ren _ (.v v) = .v v; rw [ren], by show low _ (.v v); rw [low]; trivial⟩
    | global g => exact ⟨ren_low0 _ _ (hG g), low_mono0 (hG g)⟩
    | func f => exact ⟨by show ren _ (.fn f []) = .fn f []; rw [ren, renL], by show low _ (.fn f []); rw [low, lowL]; trivial⟩
   refine goX_ok hG hr nd ?_ ?_ q
   · rw [renL_map, List.map_map]
     exact List.map_congr_left fun x hx => (key x hx).1
   · exact (lowL_iff _ _).2 fun d hd => by
      obtain ⟨x, hx, rfl⟩ := List.mem_map.1 hd
      exact (key x hx).2
 · rw [hn] at q
   have hl := noR3_low _ hn
   have q : goX P G [] h (getK t) [] o.op = .mk E h' := q
   rw [getK_fun] at q
   exact goX_ok hG (R := []) (by rw [rnH]) rfl (renL_low0 _ _ hl) hl q
noncomputable def effK (P : Program) (G : Nat → D) (cal : Cal) (t : Tr) (h : List Ob) (op : Op) : Er := @Kd.casesOn (fun _ => Er) (dispK op P G t h) (fun d => .mk ⟨[], [], d⟩ h) (fun i d => erO (nthK h i) fun ob => .mk ⟨[(i, ob)], [], d⟩ h) (fun i ob' => erO (nthK h i) fun ob => .mk ⟨[(i, ob)], [(i, ob')], .v undef⟩ (h.set i ob')) (bc (isCallK op) (effC G cal t h op) (effX P G t h op))
theorem effK_ok (hG : ∀ g, low 0 (G g)) {cal : Cal} (hc : CalOk P G cal) {o : Oper} {E : Ef} {h' : List Ob} (q : effK P G cal t h o.op = .mk E h') : EffOk P G o t.get h E h' := by
 have k : KOk P G o t h (dispK o.op P G t h) := by obtain ⟨dst, op, ty, pos, aft, gd⟩ := o; exact dispK_ok
 unfold effK at q
 cases hd : dispK o.op P G t h with
 | pu d =>
  rw [hd] at q k
  cases q
  exact ⟨⟨by simp [Ef.fit], fun h2 _ => by simpa [Ef.heap, setAll] using k h2⟩, Nat.le_refl _, fun T _ => ⟨by simp [Ef.ok], by simp [Ef.heap, setAll]⟩⟩
 | re i d =>
  rw [hd] at q k
  obtain ⟨ob, hi, q⟩ := erO_mk q
  obtain ⟨ob2, hi2, k⟩ := k
  rw [nthK_eq, hi2] at hi
  cases hi; cases q
  have hlt := (List.getElem?_eq_some_iff.1 hi2).1
  refine ⟨⟨by simp [Ef.fit], fun h2 kk => by simpa [Ef.heap, setAll] using k h2 (kk (i, ob) (by simp))⟩, Nat.le_refl _, fun T _ => ⟨fun x hx => ?_, by simp [Ef.heap, setAll]⟩⟩
  have : x = (i, ob) := by simpa using hx
  subst this
  rw [List.getElem?_append_left hlt]; exact hi2
 | st i ob' =>
  rw [hd] at q k
  obtain ⟨ob, hi, q⟩ := erO_mk q
  obtain ⟨ob2, hi2, k⟩ := k
  rw [nthK_eq, hi2] at hi
  cases hi; cases q
  have hlt := (List.getElem?_eq_some_iff.1 hi2).1
  refine ⟨⟨by simp [Ef.fit], fun h2 kk => by simpa [Ef.heap, setAll] using k h2 (kk (i, ob) (by simp))⟩, by simp, fun T _ => ⟨fun x hx => ?_, by simp [Ef.heap, setAll, List.set_append_left _ _ hlt]⟩⟩
  have : x = (i, ob) := by simpa using hx
  subst this
  rw [List.getElem?_append_left hlt]; exact hi2
 | gen =>
  rw [hd] at q
  have q : bc (isCallK o.op) (effC G cal t h o.op) (effX P G t h o.op) = .mk E h' := q
  cases hi : isCallK o.op
  · rw [hi] at q; exact effX_ok hG q
  · rw [hi] at q; exact effC_ok hG hc hi q
theorem effOk_tri {o : Oper} {E : Ef} {h' : List Ob} (q : EffOk P G o t.get h E h') : OpTri P G o ((opds o.op).map (ev G t.get)) h (fun h1 d1 => h1 = h' ∧ d1 = E.d) := by
 obtain ⟨⟨_, y⟩, le, z⟩ := q
 obtain ⟨z1, z2⟩ := z _ (Nat.le_refl _)
 refine OpTri.holes (h'.length - h.length) ((y _ z1).mono ?_)
 rintro h3 r ⟨rfl, rfl⟩
 refine ⟨?_, rfl⟩
 rw [z2]; simp [holes]
end
section
variable {P : Program} {G : Nat → D} {n : Nat} {h : List Ob} {t : Tr}
inductive Rs where
 | no
 | mk (e : Exit) (t : Tr) (h : List Ob)
noncomputable def putK {α : Type} (n : Nat) (t : Tr) (dst : Option Nat) (d : D) (z : α) (f : Tr → α) : α := @Option.rec Nat (fun _ => α) (f t) (fun i => bc (Nat.ble (Nat.succ i) n) (bc (Nat.ble i 4094) (f (setK t i d)) z) (f t)) dst
theorem putK_spec {α : Type} {dst : Option Nat} {d : D} {z r : α} {f : Tr → α} (q : putK n t dst d z f = r) (hz : z ≠ r) : ∃ t', t'.get = putE n t.get dst d ∧ f t' = r := by
 cases dst with
 | none => exact ⟨t, rfl, q⟩
 | some i =>
  have q : bc (Nat.ble (i + 1) n) (bc (Nat.ble i 4094) (f (setK t i d)) z) (f t) = r := q
  rw [bleE, bleE] at q
  by_cases h1 : i + 1 ≤ n
  · rw [decide_eq_true h1] at q
    by_cases h2 : i ≤ 4094
    · rw [decide_eq_true h2] at q
      refine ⟨_, ?_, q⟩
      unfold putE
      simp only [if_pos (show i < n by omega)]
      funext j
      rw [setK_get t i d j (by omega)]; rfl
    · rw [decide_eq_false h2] at q; exact absurd q hz
  · rw [decide_eq_false h1] at q
    exact ⟨t, by unfold putE; simp only [if_neg (show ¬ i < n by omega)], q⟩
noncomputable def gdK {α : Type} (ops : Array Oper) (t : Tr) (g : Option (Nat × Bool)) (z f1 f0 : α) : α := @Option.rec (Nat × Bool) (fun _ => α) f1 (fun g => @Option.rec Bool (fun _ => α) z (fun b => bc b f1 f0) (wantedD ops (some g) (getK t))) g
theorem gdK_spec {α : Type} {ops : Array Oper} {g : Option (Nat × Bool)} {z f1 f0 r : α} (q : gdK ops t g z f1 f0 = r) (hz : z ≠ r) : (wantedD ops g t.get = some true ∧ f1 = r) ∨ (wantedD ops g t.get = some false ∧ f0 = r) := by
 cases g with
 | none => exact .inl ⟨rfl, q⟩
 | some g =>
  have q : @Option.rec Bool (fun _ => α) z (fun b => bc b f1 f0) (wantedD ops (some g) (getK t)) = r := q
  rw [getK_fun] at q
  cases hw : wantedD ops (some g) t.get with
  | none => rw [hw] at q; exact absurd q hz
  | some b =>
   rw [hw] at q
   cases b
   · exact .inr ⟨rfl, q⟩
   · exact .inl ⟨rfl, q⟩
inductive Sr where
 | no
 | mk (t : Tr) (h : List Ob)
noncomputable def seqK (P : Program) (G : Nat → D) (cal : Cal) (n : Nat) (ops : Array Oper) (l : List Oper) : Tr → List Ob → Sr := @List.rec Oper (fun _ => Tr → List Ob → Sr) (fun t h => .mk t h)
 (fun o _ ih t h => gdK ops t o.guard .no
  (@Kd.casesOn (fun _ => Sr) (dispK o.op P G t h) (fun d => putK n t o.dst d .no fun t' => ih t' h) (fun _ d => putK n t o.dst d .no fun t' => ih t' h) (fun i ob' => putK n t o.dst (.v undef) .no fun t' => ih t' (h.set i ob'))
   (bc (isCallK o.op) (@Er.casesOn (fun _ => Sr) (effC G cal t h o.op) .no fun E h' => putK n t o.dst E.d .no fun t' => ih t' h')
    (@Option.rec (List Ob × D) (fun _ => Sr) .no (fun r => @Prod.casesOn (List Ob) D (fun _ => Sr) r fun h' d => putK n t o.dst d .no fun t' => ih t' h') (xF P G (getK t) h o.op))))
  (putK n t o.dst (.v undef) .no fun t' => ih t' h)) l
theorem seqK_ok (hG : ∀ g, low 0 (G g)) {cal : Cal} (hc : CalOk P G cal) {ops : Array Oper} {t' : Tr} {h' : List Ob} {Q : S → Prop} (k : Q ⟨n, t'.get, h'⟩) : ∀ (l : List Oper) (t : Tr) (h : List Ob), seqK P G cal n ops l t h = .mk t' h' → ao P G ops l Q ⟨n, t.get, h⟩
 | [], t, h, q => by cases q; exact ao_nil k
 | o :: rest, t, h, q => by
  have nn : Sr.no ≠ .mk t' h' := fun h => by cases h
  rcases gdK_spec (z := Sr.no) q nn with ⟨hw, q⟩ | ⟨hw, q⟩
  · have kk : KOk P G o t h (dispK o.op P G t h) := by obtain ⟨dst, op, ty, pos, aft, gd⟩ := o; exact dispK_ok
    have go : ∀ (h2 : List Ob) (d : D), OpTri P G o ((opds o.op).map (ev G t.get)) h (fun h1 d1 => h1 = h2 ∧ d1 = d) → putK n t o.dst d Sr.no (fun t2 => seqK P G cal n ops rest t2 h2) = .mk t' h' → ao P G ops (o :: rest) Q ⟨n, t.get, h⟩ := fun h2 d tri q => by
     obtain ⟨t2, e, q⟩ := putK_spec q nn
     have := seqK_ok hG hc k rest t2 h2 q
     rw [e] at this
     exact ao_tri hw tri this
    cases hd : dispK o.op P G t h with
    | pu d => rw [hd] at q kk; exact go h d (kk h) q
    | re i d =>
     rw [hd] at q kk
     obtain ⟨ob, hi, kk⟩ := kk
     exact go h d (kk h hi) q
    | st i ob' =>
     rw [hd] at q kk
     obtain ⟨ob, hi, kk⟩ := kk
     exact go _ _ (kk h hi) q
    | gen =>
     rw [hd] at q
     have q : bc (isCallK o.op) _ _ = Sr.mk t' h' := q
     cases hcall : isCallK o.op
     · rw [hcall] at q
       have q : @Option.rec (List Ob × D) (fun _ => Sr) .no _ (xF P G (getK t) h o.op) = Sr.mk t' h' := q
       rw [getK_fun] at q
       cases hx : xF P G t.get h o.op with
       | none => rw [hx] at q; cases q
       | some r =>
        rw [hx] at q
        obtain ⟨h2, d⟩ := r
        exact go h2 d (xF_sound hx) q
     · rw [hcall] at q
       have q : @Er.casesOn (fun _ => Sr) (effC G cal t h o.op) .no _ = Sr.mk t' h' := q
       cases he : effC G cal t h o.op with
       | no => rw [he] at q; cases q
       | mk E h2 =>
        rw [he] at q
        exact go h2 E.d (effOk_tri (effC_ok hG hc hcall he)) q
  · obtain ⟨t2, e, q⟩ := putK_spec q nn
    have := seqK_ok hG hc k rest t2 h q
    rw [e] at this
    exact ao_triN hw this
inductive Dr where
 | no
 | mk (t : Tr) (h : List Ob) (es : List Ef)
noncomputable def dcons (E : Ef) (r : Dr) : Dr := @Dr.casesOn (fun _ => Dr) r .no fun t h es => .mk t h (E :: es)
noncomputable def drawK (P : Program) (G : Nat → D) (cal : Cal) (n : Nat) (ops : Array Oper) (l : List Oper) : Tr → List Ob → Dr := @List.rec Oper (fun _ => Tr → List Ob → Dr) (fun t h => .mk t h [])
 (fun o _ ih t h => gdK ops t o.guard .no
  (@Er.casesOn (fun _ => Dr) (effK P G cal t h o.op) .no fun E h' => putK n t o.dst E.d .no fun t' => dcons E (ih t' h'))
  (putK n t o.dst (.v undef) .no fun t' => dcons nopF (ih t' h))) l
theorem dcons_mk {E : Ef} {r : Dr} {h : List Ob} {es : List Ef} (q : dcons E r = .mk t h es) : ∃ es', es = E :: es' ∧ r = .mk t h es' := by
 cases r with
 | no => cases q
 | mk a b c => cases q; exact ⟨c, rfl, rfl⟩
theorem drawK_ok (hG : ∀ g, low 0 (G g)) {cal : Cal} (hc : CalOk P G cal) {ops : Array Oper} : ∀ (l : List Oper) (t : Tr) (h : List Ob) (t' : Tr) (h' : List Ob) (es : List Ef), drawK P G cal n ops l t h = .mk t' h' es → es.length = l.length ∧ h.length ≤ h'.length ∧
 ∀ (ef : Nat → Ef) (k : Nat), (∀ j E, es[j]? = some E → ef (k + j) = E) → ∀ T, h'.length - h.length ≤ T → ∀ Q : (Nat → D) → List Ob → Prop, Q t'.get (h' ++ holes (T - (h'.length - h.length))) → af P G n ops ef Q k l t.get (h ++ holes T)
 | [], t, h, t', h', es, q => by
  cases q
  exact ⟨rfl, Nat.le_refl _, fun ef k _ T hT Q hQ => by rw [af]; simpa using hQ⟩
 | o :: rest, t, h, t', h', es, q => by
  have nn : Dr.no ≠ .mk t' h' es := fun h => by cases h
  rcases gdK_spec (z := Dr.no) q nn with ⟨hw, q⟩ | ⟨hw, q⟩
  · have q : @Er.casesOn (fun _ => Dr) (effK P G cal t h o.op) .no _ = Dr.mk t' h' es := q
    cases he : effK P G cal t h o.op with
    | no => rw [he] at q; cases q
    | mk E h2 =>
     rw [he] at q
     obtain ⟨t2, e, q⟩ := putK_spec (z := Dr.no) q nn
     obtain ⟨es', hes, q2⟩ := dcons_mk q
     subst hes
     obtain ⟨a1, a2, a3⟩ := drawK_ok hG hc rest t2 h2 t' h' es' q2
     obtain ⟨y, le, z⟩ := effK_ok hG hc he
     refine ⟨by simp [a1], by omega, fun ef k hef T hT Q hQ => ?_⟩
     have hE0 : ef k = E := hef 0 E rfl
     obtain ⟨z1, z2⟩ := z T (by omega)
     rw [af, hE0]
     refine ⟨.inl ⟨hw, y⟩, z1, ?_⟩
     rw [z2, ← e]
     refine a3 ef (k + 1) (fun j E' hj => by rw [show k + 1 + j = k + (j + 1) by omega]; exact hef (j + 1) E' (by simpa using hj)) _ (by omega) Q ?_
     rw [show T - (h2.length - h.length) - (h'.length - h2.length) = T - (h'.length - h.length) by omega]; exact hQ
  · obtain ⟨t2, e, q⟩ := putK_spec (z := Dr.no) q nn
    obtain ⟨es', hes, q2⟩ := dcons_mk q
    subst hes
    obtain ⟨a1, a2, a3⟩ := drawK_ok hG hc rest t2 h t' h' es' q2
    refine ⟨by simp [a1], a2, fun ef k hef T hT Q hQ => ?_⟩
    have hE0 : ef k = nopF := hef 0 nopF rfl
    rw [af, hE0]
    refine ⟨.inr ⟨hw, rfl⟩, by simp [nopF, Ef.ok], ?_⟩
    have e1 : nopF.heap (h ++ holes T) = h ++ holes T := by simp [nopF, Ef.heap, setAll]
    rw [e1]
    show af P G n ops ef Q (k + 1) rest (putE n t.get o.dst (.v undef)) _
    rw [← e]
    exact a3 ef (k + 1) (fun j E' hj => by rw [show k + 1 + j = k + (j + 1) by omega]; exact hef (j + 1) E' (by simpa using hj)) T hT Q hQ
/-! May the operations change places? Only those that write are looked at. -/
noncomputable def ap1 (k : Nat) (b : List (Nat × Ob)) : Bool := @List.rec (Nat × Ob) (fun _ => Bool) true (fun y _ ih2 => bc (Nat.beq k y.1) false ih2) b
noncomputable def apK (a b : List (Nat × Ob)) : Bool := @List.rec (Nat × Ob) (fun _ => Bool) true (fun x _ ih => bc (ap1 x.1 b) ih false) a
theorem ap1_spec (k : Nat) : ∀ b : List (Nat × Ob), ap1 k b = true → ∀ y ∈ b, k ≠ y.1
 | [], _, y, hy => by simp at hy
 | w :: b, q, y, hy => by
  have q : bc (Nat.beq k w.1) false (ap1 k b) = true := q
  rw [bc_eq] at q
  cases hw : Nat.beq k w.1
  · rw [hw] at q
    rcases List.mem_cons.1 hy with rfl | hy
    · exact bqF hw
    · exact ap1_spec k b q y hy
  · rw [hw] at q; cases q
theorem apK_spec : ∀ (a b : List (Nat × Ob)), apK a b = true → ∀ x ∈ a, ∀ y ∈ b, x.1 ≠ y.1
 | [], _, _, x, hx => by simp at hx
 | z :: a, b, q, x, hx => by
  have q : bc (ap1 z.1 b) (apK a b) false = true := q
  rw [bc_eq] at q
  cases hz : ap1 z.1 b
  · rw [hz] at q; cases q
  · rw [hz] at q
    rcases List.mem_cons.1 hx with rfl | hx
    · exact ap1_spec _ _ hz
    · exact apK_spec a b q x hx
noncomputable def chkR (ops : Array Oper) (i : Nat) (W : List (Nat × Ob)) (es : List Ef) : Nat → Bool := @List.rec Ef (fun _ => Nat → Bool) (fun _ => true) (fun F _ ih j => bc (bc (Nat.beq i j) true (bc (apK W F.R) true (bc (Nat.ble i j) (twB .any ops 12 j i) (twB .any ops 12 i j)))) (ih (Nat.add j 1)) false) es
noncomputable def chkK (ops : Array Oper) (all es : List Ef) : Nat → Bool := @List.rec Ef (fun _ => Nat → Bool) (fun _ => true) (fun E _ ih i => bc (@List.casesOn (Nat × Ob) (fun _ => Bool) E.W true fun _ _ => chkR ops i E.W all 0) (ih (Nat.add i 1)) false) es
theorem chkR_spec {ops : Array Oper} {i : Nat} {W : List (Nat × Ob)} : ∀ (es : List Ef) (k j : Nat) (F : Ef), chkR ops i W es k = true → es[j]? = some F → i ≠ k + j → (∀ x ∈ W, ∀ y ∈ F.R, x.1 ≠ y.1) ∨ (i < k + j ∧ twB .any ops 12 (k + j) i = true) ∨ (k + j < i ∧ twB .any ops 12 i (k + j) = true)
 | [], _, _, _, _, q, _ => by simp at q
 | F :: es, k, j, F', q, r, hne => by
  have q : bc (bc (Nat.beq i k) true (bc (apK W F.R) true (bc (Nat.ble i k) (twB .any ops 12 k i) (twB .any ops 12 i k)))) (chkR ops i W es (k + 1)) false = true := q
  rw [bc_eq, bc_eq, bc_eq, bc_eq] at q
  cases j with
  | zero =>
   simp at r; subst r
   rw [Nat.add_zero] at hne ⊢
   have hb : Nat.beq i k = false := by rw [bqE]; exact decide_eq_false hne
   rw [hb] at q
   simp only [cond_false] at q
   cases ha : apK W F.R
   · rw [ha] at q
     simp only [cond_false] at q
     rw [bleE] at q
     by_cases hle : i ≤ k
     · rw [decide_eq_true hle] at q
       simp only [cond_true] at q
       refine .inr (.inl ⟨by omega, ?_⟩)
       cases ht : twB .any ops 12 k i
       · rw [ht] at q; cases q
       · rfl
     · rw [decide_eq_false hle] at q
       simp only [cond_false] at q
       refine .inr (.inr ⟨by omega, ?_⟩)
       cases ht : twB .any ops 12 i k
       · rw [ht] at q; cases q
       · rfl
   · exact .inl (apK_spec _ _ ha)
  | succ j =>
   rw [show k + (j + 1) = k + 1 + j by omega] at hne ⊢
   refine chkR_spec es (k + 1) j F' ?_ (by simpa using r) hne
   generalize (bif Nat.beq i k then true else _ : Bool) = b at q
   cases b
   · cases q
   · exact q
theorem chkK_spec {ops : Array Oper} {all : List Ef} : ∀ (es : List Ef) (k i : Nat) (E : Ef), chkK ops all es k = true → es[i]? = some E → E.W = [] ∨ chkR ops (k + i) E.W all 0 = true
 | [], _, _, _, _, q => by simp at q
 | F :: es, k, i, E, q, r => by
  have q : bc (@List.casesOn (Nat × Ob) (fun _ => Bool) F.W true fun _ _ => chkR ops k F.W all 0) (chkK ops all es (k + 1)) false = true := q
  rw [bc_eq] at q
  cases hW : (@List.casesOn (Nat × Ob) (fun _ => Bool) F.W true fun _ _ => chkR ops k F.W all 0 : Bool)
  · rw [hW] at q; cases q
  rw [hW] at q
  cases i with
  | zero =>
   simp at r; subst r
   rw [Nat.add_zero]
   cases hw : F.W with
   | nil => exact .inl rfl
   | cons a b => rw [hw] at hW; exact .inr hW
  | succ i => rw [show k + (i + 1) = k + 1 + i by omega]; exact chkK_spec es (k + 1) i E q (by simpa using r)
theorem chkK_comp {ops : Array Oper} {es : List Ef} (q : chkK ops es es 0 = true) {i j : Nat} {E F : Ef} (hi : es[i]? = some E) (hj : es[j]? = some F) (hlt : i < j) : twB .any ops 12 j i = true ∨ compF E F := by
 have h1 := chkK_spec es 0 i E q hi
 have h2 := chkK_spec es 0 j F q hj
 rw [Nat.zero_add] at h1 h2
 by_cases ht : twB .any ops 12 j i = true
 · exact .inl ht
 · right
   constructor
   · rcases h1 with h1 | h1
     · rw [h1]; intro x hx; simp at hx
     · rcases chkR_spec es 0 j F h1 hj (by omega) with h | ⟨_, h⟩ | ⟨h, _⟩
       · exact h
       · rw [Nat.zero_add] at h; exact absurd h ht
       · omega
   · rcases h2 with h2 | h2
     · rw [h2]; intro x hx; simp at hx
     · rcases chkR_spec es 0 i E h2 hi (by omega) with h | ⟨h, _⟩ | ⟨_, h⟩
       · exact h
       · omega
       · rw [Nat.zero_add] at h; exact absurd h ht
/-! The text's order is one of the orders, and what waits for nothing stands apart. -/
noncomputable def onsK (l : List Edge) : List Nat := @List.rec Edge (fun _ => List Nat) [] (fun e _ ih => bc (Region.binds .any e) (e.on :: ih) ih) l
theorem onsK_mem : ∀ (l : List Edge) (x : Nat), x ∈ onsK l ↔ ∃ e ∈ l, Region.binds .any e = true ∧ e.on = x
 | [], x => by simp [onsK]
 | e :: l, x => by
  show x ∈ bc (Region.binds .any e) (e.on :: onsK l) (onsK l) ↔ _
  rw [bc_eq]
  have ih := onsK_mem l x
  cases hb : Region.binds .any e
  · simp only [cond_false, ih]
    constructor
    · rintro ⟨y, h1, h2⟩; exact ⟨y, by simp [h1], h2⟩
    · rintro ⟨y, h1, h2, h3⟩
      rcases List.mem_cons.1 h1 with rfl | h1
      · rw [hb] at h2; cases h2
      · exact ⟨y, h1, h2, h3⟩
  · simp only [cond_true, List.mem_cons, ih]
    constructor
    · rintro (rfl | ⟨y, h1, h2⟩)
      · exact ⟨e, by simp, hb, rfl⟩
      · exact ⟨y, by simp [h1], h2⟩
    · rintro ⟨y, h1, h2, h3⟩
      rcases h1 with rfl | h1
      · exact .inl h3.symm
      · exact .inr ⟨y, h1, h2, h3⟩
noncomputable def memO (d : Option Nat) (l : List Nat) : Bool := @Option.rec Nat (fun _ => Bool) false (fun i => memK i l) d
noncomputable def eqO (a b : Option Nat) : Bool := @Option.rec Nat (fun _ => Bool) false (fun i => @Option.rec Nat (fun _ => Bool) false (fun j => Nat.beq i j) b) a
noncomputable def apartK (d : Option Nat) (l : List Nat) (d2 : Option Nat) (l2 : List Nat) : Bool := bc (memO d l2) false (bc (eqO d d2) false (bc (memO d2 l) false true))
structure Seen where
 k : Nat
 d : Option Nat
 l : List Nat
noncomputable def lexQ (ops : Array Oper) (l : List Oper) : Nat → List Seen → Bool := @List.rec Oper (fun _ => Nat → List Seen → Bool) (fun _ _ => true)
 (fun o _ ih j acc => (fun ons lk => bc (@List.rec Nat (fun _ => Bool) true (fun k _ ih2 => bc (Nat.ble (Nat.succ k) j) ih2 false) ons)
   (bc (@List.rec Seen (fun _ => Bool) true (fun s _ ih2 => bc (bc (memK s.k ons) true (apartK s.d s.l o.dst lk)) ih2 false) acc) (ih (Nat.add j 1) (⟨j, o.dst, lk⟩ :: acc)) false) false) (onsK o.after.toList) (o.looksAt ops)) l
theorem apartK_spec {x y : Oper} {ops : Array Oper} (q : apartK x.dst (x.looksAt ops) y.dst (y.looksAt ops) = true) : x.apart ops y = true := by
 unfold apartK at q
 rw [bc_eq, bc_eq, bc_eq] at q
 have mem : ∀ (i : Nat) (l : List Nat), memK i l = l.contains i := fun i l => by
  rw [memK_eq, Bool.eq_iff_iff, memN_iff]; simp
 cases hx : x.dst with
 | none =>
  cases hy : y.dst with
  | none => unfold Oper.apart; rw [hx, hy]; rfl
  | some e =>
   rw [hx, hy] at q
   simp only [memO, eqO, cond_false, mem] at q
   unfold Oper.apart; rw [hx, hy]
   cases hc : (x.looksAt ops).contains e
   · simp only [hc]; rfl
   · rw [hc] at q; cases q
 | some d =>
  rw [hx] at q
  simp only [memO, mem] at q
  cases hc : (y.looksAt ops).contains d
  rotate_left
  · rw [hc] at q; cases q
  rw [hc] at q
  simp only [cond_false] at q
  cases hy : y.dst with
  | none => unfold Oper.apart; rw [hx, hy]; simp only [hc]; rfl
  | some e =>
   rw [hy] at q
   simp only [eqO] at q
   cases hde : Nat.beq d e
   rotate_left
   · rw [hde] at q; cases q
   rw [hde] at q
   simp only [cond_false] at q
   cases hc2 : (x.looksAt ops).contains e
   rotate_left
   · rw [hc2] at q; cases q
   have hne := bqF hde
   unfold Oper.apart; rw [hx, hy]; simp only [hc, hc2]
   simp; exact Ne.symm hne
structure LexOk (ops : Array Oper) : Prop where
 back : ∀ j oj, ops[j]? = some oj → ∀ e ∈ oj.after, Region.binds .any e = true → e.on < j
 apart : ∀ i j oi oj, i < j → ops[i]? = some oi → ops[j]? = some oj → (∀ e ∈ oj.after, Region.binds .any e = true → e.on ≠ i) → oi.apart ops oj = true
theorem lexQ_spec {ops : Array Oper} : ∀ (l : List Oper) (j : Nat) (acc : List Seen), lexQ ops l j acc = true → (∀ i, l[i]? = ops[j + i]?) → (∀ i oi, i < j → ops[i]? = some oi → ⟨i, oi.dst, oi.looksAt ops⟩ ∈ acc) →
 ∀ i oi, l[i]? = some oi → (∀ e ∈ oi.after, Region.binds .any e = true → e.on < j + i) ∧ ∀ k ok, k < j + i → ops[k]? = some ok → (∀ e ∈ oi.after, Region.binds .any e = true → e.on ≠ k) → ok.apart ops oi = true
 | [], _, _, _, _, _, _, _, q => by simp at q
 | o :: l, j, acc, q, hl, hacc, i, oi, hi => by
  have q : bc (@List.rec Nat (fun _ => Bool) true (fun k _ ih2 => bc (Nat.ble (Nat.succ k) j) ih2 false) (onsK o.after.toList))
   (bc (@List.rec Seen (fun _ => Bool) true (fun s _ ih2 => bc (bc (memK s.k (onsK o.after.toList)) true (apartK s.d s.l o.dst (o.looksAt ops))) ih2 false) acc) (lexQ ops l (j + 1) (⟨j, o.dst, o.looksAt ops⟩ :: acc)) false) false = true := q
  rw [bc_eq, bc_eq] at q
  have hA : ∀ ons : List Nat, @List.rec Nat (fun _ => Bool) true (fun k _ ih2 => bc (Nat.ble (Nat.succ k) j) ih2 false) ons = true → ∀ k ∈ ons, k < j := fun ons => by
   induction ons with
   | nil => intro _ k hk; simp at hk
   | cons a ons ih =>
    intro h k hk
    have h : bc (Nat.ble (a + 1) j) (@List.rec Nat (fun _ => Bool) true (fun k _ ih2 => bc (Nat.ble (Nat.succ k) j) ih2 false) ons) false = true := h
    rw [bc_eq, bleE] at h
    by_cases ha : a + 1 ≤ j
    · rw [decide_eq_true ha] at h
      rcases List.mem_cons.1 hk with rfl | hk
      · omega
      · exact ih h k hk
    · rw [decide_eq_false ha] at h; cases h
  have hB : ∀ acc : List Seen, @List.rec Seen (fun _ => Bool) true (fun s _ ih2 => bc (bc (memK s.k (onsK o.after.toList)) true (apartK s.d s.l o.dst (o.looksAt ops))) ih2 false) acc = true → ∀ s ∈ acc, memK s.k (onsK o.after.toList) = true ∨ apartK s.d s.l o.dst (o.looksAt ops) = true := fun acc => by
   induction acc with
   | nil => intro _ k hk; simp at hk
   | cons a acc ih =>
    intro h s hs
    have h : bc (bc (memK a.k (onsK o.after.toList)) true (apartK a.d a.l o.dst (o.looksAt ops))) (@List.rec Seen (fun _ => Bool) true (fun s _ ih2 => bc (bc (memK s.k (onsK o.after.toList)) true (apartK s.d s.l o.dst (o.looksAt ops))) ih2 false) acc) false = true := h
    rw [bc_eq, bc_eq] at h
    cases hm : memK a.k (onsK o.after.toList)
    · rw [hm] at h
      simp only [cond_false] at h
      cases hp : apartK a.d a.l o.dst (o.looksAt ops)
      · rw [hp] at h; cases h
      · rw [hp] at h
        rcases List.mem_cons.1 hs with rfl | hs
        · exact .inr hp
        · exact ih h s hs
    · rw [hm] at h
      rcases List.mem_cons.1 hs with rfl | hs
      · exact .inl hm
      · exact ih h s hs
  cases h1 : (@List.rec Nat (fun _ => Bool) true (fun k _ ih2 => bc (Nat.ble (Nat.succ k) j) ih2 false) (onsK o.after.toList) : Bool)
  · rw [h1] at q; cases q
  rw [h1] at q
  simp only [cond_true] at q
  cases h2 : (@List.rec Seen (fun _ => Bool) true (fun s _ ih2 => bc (bc (memK s.k (onsK o.after.toList)) true (apartK s.d s.l o.dst (o.looksAt ops))) ih2 false) acc : Bool)
  · rw [h2] at q; cases q
  rw [h2] at q
  simp only [cond_true] at q
  have h0 : ops[j]? = some o := by simpa using (hl 0).symm
  cases i with
  | zero =>
   simp at hi; subst hi
   rw [Nat.add_zero]
   refine ⟨fun e he hb => hA _ h1 _ ((onsK_mem _ _).2 ⟨e, by simpa using he, hb, rfl⟩), fun k ok hk hok hno => ?_⟩
   rcases hB _ h2 _ (hacc k ok hk hok) with hm | hp
   · exfalso
     rw [memK_eq, memN_iff, onsK_mem] at hm
     obtain ⟨e, h3, h4, h5⟩ := hm
     exact hno e (by simpa using h3) h4 h5
   · exact apartK_spec hp
  | succ i =>
   rw [show j + (i + 1) = j + 1 + i by omega]
   refine lexQ_spec l (j + 1) _ q (fun i => by have := hl (i + 1); simpa [Nat.add_assoc, Nat.add_comm 1 i] using this) (fun k ok hk hok => ?_) i oi (by simpa using hi)
   rcases Nat.lt_or_ge k j with h | h
   · exact List.mem_cons_of_mem _ (hacc k ok h hok)
   · have : k = j := by omega
     subst this
     rw [h0] at hok; cases hok
     exact List.mem_cons_self
theorem lexQ_ok {ops : Array Oper} (q : lexQ ops ops.toList 0 [] = true) : LexOk ops := by
 have := lexQ_spec ops.toList 0 [] q (fun i => by simp) (fun i _ hi => by omega)
 refine ⟨fun j oj hj e he hb => ?_, fun i j oi oj hlt hi hj hno => ?_⟩
 · have := (this j oj (by simpa using hj)).1 e he hb
   simpa using this
 · exact (this j oj (by simpa using hj)).2 i oi (by simpa using hlt) hi hno
end
section
variable {P : Program} {G : Nat → D} {n : Nat} {h : List Ob} {t : Tr}
theorem afAny_lexQ {ops : Array Oper} (hL : LexOk ops) {ef : Nat → Ef} {Q : (Nat → D) → List Ob → Prop} (hE : efOk .any ops ef) : ∀ (l : List Oper) (k : Nat) (listed : Array Bool) (e : Nat → D) (h : List Ob), Closed .any ops listed → (∀ j, j < ops.size → listed[j]? = some (decide (j < k))) → listed.size = ops.size → (∀ j, l[j]? = ops[k + j]?) → af P G n ops ef Q k l e h → afAny P G n .any ops ef Q l.length listed e h
 | [], k, listed, e, h, _, hd, hs, hl, q => by
  refine ⟨?_, q⟩
  rw [List.eq_nil_iff_forall_not_mem]
  intro i hi
  obtain ⟨h1, o, h2, _⟩ := mem_ready.1 hi
  have hlt := (Array.getElem?_eq_some_iff.1 h2).1
  have hk : ¬ k ≤ i := fun hk => by
   have := hl (i - k)
   rw [show k + (i - k) = i by omega, h2] at this; simp at this
  rw [Array.getD_eq_getD_getElem?, hd i hlt, decide_eq_true (by omega)] at h1
  cases h1
 | o :: l, k, listed, e, h, hcl, hd, hs, hl, q => by
  have h0 : ops[k]? = some o := by simpa using (hl 0).symm
  have hk := (Array.getElem?_eq_some_iff.1 h0).1
  obtain ⟨hy, hok, hK⟩ := q
  have hr : k ∈ Region.ready .any ops listed := mem_ready.2 ⟨by rw [Array.getD_eq_getD_getElem?, hd k hk]; simp, o, h0, fun e he hb => by
   have := hL.back k o h0 e he hb
   rw [Array.getD_eq_getD_getElem?, hd e.on (by omega), decide_eq_true this]; rfl⟩
  refine afAny_first h0 l.length listed e h hcl (fun j oj hj hjk hun hno hnt => ?_) hr hy hok (afAny_lexQ hL hE l (k + 1) _ _ _ (hcl.set hr) (fun j hj => ?_) (by simpa using hs) (fun j => by have := hl (j + 1); simpa [Nat.add_assoc, Nat.add_comm 1 j] using this) hK)
  · have hjs := (Array.getElem?_eq_some_iff.1 hj).1
    have hlt : k < j := by
     rw [Array.getD_eq_getD_getElem?, hd j hjs] at hun
     have : ¬ j < k := by simpa using hun
     omega
    exact ⟨hL.apart k j o oj hlt h0 hj hno, hE k j oj hlt hj hno hnt⟩
  · rw [Array.getElem?_setIfInBounds]
    by_cases hkj : k = j
    · subst hkj; rw [if_pos rfl, if_pos (by omega), decide_eq_true (by omega)]
    · rw [if_neg hkj, hd j hj]
      congr 1
      by_cases hjk : j < k
      · rw [decide_eq_true hjk, decide_eq_true (by omega)]
      · rw [decide_eq_false hjk, decide_eq_false (by omega)]
theorem aw_drawQ {id : Nat} {l : List Oper} {e : Nat → D} {Q : Exit → S → Prop} {ef : Nat → Ef} (hm : P.follows .mixedOrders = true) (hB : LexOk l.toArray) (hE : efOk .any l.toArray ef) (H : af P G n l.toArray ef (fun e h => Q .normal ⟨n, e, h⟩) 0 l e h) : aw P G (.region id l.toArray true) Q ⟨n, e, h⟩ := fun B a w r => by
 obtain ⟨hd, p, r⟩ := r
 have hdr := r.ok.drew
 have r' : Sit G B ⟨n, e, h⟩ a { w with drawn := w.drawn + 1 } := ⟨hd, p, hdr.1, r.evo.trans hdr.2, fun t => hdr.2.rd r.ok (r.tmp t), r.size, r.defers⟩
 refine wp_region_any hm (afAny_sound (ef := ef) (Q := fun e h => Q .normal ⟨n, e, h⟩) (fun e h a w q r => ⟨_, q, r⟩) _ _ _ _ _ _ r' ?_)
 have := afAny_lexQ (P := P) (G := G) (n := n) hB (Q := fun e h => Q .normal ⟨n, e, h⟩) hE l 0 (Array.replicate l.toArray.size false) e h (fun j oj hj hl => by
  have hlt := (Array.getElem?_eq_some_iff.1 hj).1
  rw [Array.getD_eq_getD_getElem?, Array.getElem?_replicate, if_pos hlt] at hl
  cases hl) (fun j hj => by rw [Array.getElem?_replicate, if_pos hj]; simp) (by simp) (by simp) H
 simpa using this
theorem aw_drawnK (hG : ∀ g, low 0 (G g)) {cal : Cal} (hc : CalOk P G cal) {id : Nat} {ops : Array Oper} {Q : Exit → S → Prop} {t' : Tr} {h' : List Ob} {es : List Ef} (hm : P.follows .mixedOrders = true) (hB : lexQ ops ops.toList 0 [] = true) (q : drawK P G cal n ops ops.toList t h = .mk t' h' es) (hchk : chkK ops es es 0 = true) (k : Q .normal ⟨n, t'.get, h'⟩) : aw P G (.region id ops true) Q ⟨n, t.get, h⟩ := by
 have hB := lexQ_ok hB
 obtain ⟨ops⟩ := ops
 obtain ⟨a1, a2, a3⟩ := drawK_ok hG hc ops t h t' h' es q
 refine aw_holes (h'.length - h.length) (aw_drawQ (ef := fun k => (es[k]?).getD nopF) hm hB (fun i j oj hij hj hno hnt => ?_) (a3 _ 0 (fun j E hj => by simp [hj]) _ (Nat.le_refl _) _ (by simpa [holes] using k)))
 have hjl : j < es.length := by
  have := (Array.getElem?_eq_some_iff.1 hj).1
  simp at this; rw [a1]; exact this
 rcases chkK_comp hchk (List.getElem?_eq_getElem (show i < es.length by omega)) (List.getElem?_eq_getElem hjl) hij with hw | hc
 · exfalso
   rw [hnt] at hw; cases hw
 · simp only [List.getElem?_eq_getElem (show i < es.length by omega), List.getElem?_eq_getElem hjl, Option.getD_some]
   exact hc
abbrev Run := Nat → Tr → List Ob → Rs
noncomputable def goOn (r : Rs) (f : Tr → List Ob → Rs) : Rs := @Rs.casesOn (fun _ => Rs) r .no fun e t h => @Exit.casesOn (fun _ => Rs) e (f t h) (fun i => .mk (.exit i) t h) (fun i => .mk (.goto i) t h) (.mk .ret t h) (fun _ => .no) .no
theorem goOn_mk {r : Rs} {f : Tr → List Ob → Rs} {e : Exit} {h : List Ob} (q : goOn r f = .mk e t h) : (∃ t1 h1, r = .mk .normal t1 h1 ∧ f t1 h1 = .mk e t h) ∨ (r = .mk e t h ∧ e ≠ .normal) := by
 cases r with
 | no => cases q
 | mk e1 t1 h1 =>
  cases e1 with
  | normal => exact .inl ⟨t1, h1, rfl, q⟩
  | exit i => cases q; exact .inr ⟨rfl, by intro h; cases h⟩
  | goto i => cases q; exact .inr ⟨rfl, by intro h; cases h⟩
  | ret => cases q; exact .inr ⟨rfl, by intro h; cases h⟩
  | _ => cases q
noncomputable def cndK (d : D) (a b : Rs) : Rs := @D.casesOn (fun _ => Rs) d .no (fun x => @Value.casesOn (fun _ => Rs) x (fun s => bc s a b) (fun _ _ => .no) (fun _ _ => .no) (fun _ _ _ => .no) (fun _ => .no) (fun _ => .no) (fun _ _ _ => .no) (fun _ => .no) (fun _ => .no) (fun _ _ _ => .no) .no (fun _ _ => .no) .no (fun _ => .no) (fun _ => .no)) (fun _ _ => .no) (fun _ => .no) (fun _ => .no) (fun _ => .no) (fun _ _ => .no) (fun _ _ => .no) (fun _ _ _ _ => .no) (fun _ _ _ _ => .no) (fun _ _ _ _ _ => .no) (fun _ => .no) .no (fun _ _ => .no)
noncomputable def blkK (id : Nat) (r : Rs) : Rs := @Rs.casesOn (fun _ => Rs) r .no fun e t h => @Exit.casesOn (fun _ => Rs) e r (fun i => bc (Nat.beq i id) (.mk .normal t h) r) (fun _ => r) r (fun _ => r) r
noncomputable def scpK (r : Rs) : Rs := @Rs.casesOn (fun _ => Rs) r .no fun e _ _ => @Exit.casesOn (fun _ => Rs) e r (fun _ => r) (fun _ => .no) r (fun _ => r) r
noncomputable def execK (P : Program) (G : Nat → D) (cal : Cal) (k : Nat) (c : Code) : Run := @Code.rec (fun _ => Run) (fun _ t h => .mk .normal t h)
 (fun _ ops dr n t h => bc dr (bc (lexQ ops ops.toList 0 []) (@Dr.casesOn (fun _ => Rs) (drawK P G cal n ops ops.toList t h) .no fun t1 h1 es => bc (chkK ops es es 0) (.mk .normal t1 h1) .no) .no) (@Sr.casesOn (fun _ => Rs) (seqK P G cal n ops ops.toList t h) .no fun t1 h1 => .mk .normal t1 h1))
 (fun _ _ x y n t h => goOn (x n t h) (y n))
 (fun c _ _ x y n t h => cndK (evK G t c) (x n t h) (y n t h))
 (fun id _ x n t h => blkK id (x n t h))
 (fun _ x n t h => @Nat.rec (fun _ => Tr → List Ob → Rs) (fun _ _ => .no) (fun _ again t h => goOn (x n t h) again) k t h)
 (fun _ _ _ _ _ _ _ _ _ => .no)
 (fun id _ t h => .mk (.exit id) t h)
 (fun _ x n t h => scpK (x n t h))
 (fun _ _ t h => .mk .normal t h)
 (fun l _ t h => .mk (.goto l) t h)
 (fun _ t h => .mk .ret t h)
 (fun _ _ _ _ => .no) c
theorem execK_ok (hG : ∀ g, low 0 (G g)) (hm : P.follows .mixedOrders = true) {cal : Cal} (hc : CalOk P G cal) (k : Nat) : ∀ (c : Code) (n : Nat) (t : Tr) (h : List Ob) (e : Exit) (t' : Tr) (h' : List Ob), execK P G cal k c n t h = .mk e t' h' → aw P G c (endsAt n e t' h') ⟨n, t.get, h⟩ := by
 intro c
 induction c with
 | skip => intro n t h e t' h' q; cases q; exact aw_skip ⟨rfl, rfl⟩
 | label l => intro n t h e t' h' q; cases q; exact aw_label ⟨rfl, rfl⟩
 | exit id => intro n t h e t' h' q; cases q; exact aw_exit ⟨rfl, rfl⟩
 | goto l => intro n t h e t' h' q; cases q; exact aw_goto ⟨rfl, rfl⟩
 | ret => intro n t h e t' h' q; cases q; exact aw_ret ⟨rfl, rfl⟩
 | refuse w => intro n t h e t' h' q; cases q
 | rangeFunc f p a b iha ihb => intro n t h e t' h' q; cases q
 | seq x y ihx ihy =>
  intro n t h e t' h' q
  have q : goOn (execK P G cal k x n t h) (execK P G cal k y n) = .mk e t' h' := q
  rcases goOn_mk q with ⟨t1, h1, hx, q⟩ | ⟨q, hne⟩
  · exact aw_seq' (aw_mono (ihx _ _ _ _ _ _ hx) fun e1 s1 ⟨h2, h3⟩ => by rw [h2, h3]; exact ihy _ _ _ _ _ _ q)
  · refine aw_seq' (aw_mono (ihx _ _ _ _ _ _ q) fun e1 s1 ⟨h2, h3⟩ => ?_)
    rw [h2, h3]
    cases e with
    | normal => exact absurd rfl hne
    | _ => exact ⟨rfl, rfl⟩
 | cond c x y ihx ihy =>
  intro n t h e t' h' q
  have q : cndK (evK G t c) (execK P G cal k x n t h) (execK P G cal k y n t h) = .mk e t' h' := q
  rw [evK_eq] at q
  cases hd : ev G t.get c <;> rw [hd] at q <;> try (cases q; done)
  case v X =>
  cases X <;> try (cases q; done)
  case bool b =>
  cases b
  · exact aw_if0 hd (ihy _ _ _ _ _ _ q)
  · exact aw_if1 hd (ihx _ _ _ _ _ _ q)
 | block id x ih =>
  intro n t h e t' h' q
  have q : blkK id (execK P G cal k x n t h) = .mk e t' h' := q
  cases hx : execK P G cal k x n t h with
  | no => rw [hx] at q; cases q
  | mk e1 t1 h1 =>
   rw [hx] at q
   refine aw_block (aw_mono (ih _ _ _ _ _ _ hx) fun e2 s2 ⟨h2, h3⟩ => ?_)
   rw [h2, h3]
   cases e1 with
   | exit i =>
    have q : bc (Nat.beq i id) (.mk .normal t1 h1) (.mk (.exit i) t1 h1) = Rs.mk e t' h' := q
    rw [bc_eq] at q
    show if i = id then _ else _
    cases hb : Nat.beq i id
    · rw [hb] at q; cases q; rw [if_neg (bqF hb)]; exact ⟨rfl, rfl⟩
    · rw [hb] at q; cases q; rw [if_pos (bqT hb)]; exact ⟨rfl, rfl⟩
   | _ => cases q; exact ⟨rfl, rfl⟩
 | scope x ih =>
  intro n t h e t' h' q
  have q : scpK (execK P G cal k x n t h) = .mk e t' h' := q
  cases hx : execK P G cal k x n t h with
  | no => rw [hx] at q; cases q
  | mk e1 t1 h1 =>
   rw [hx] at q
   refine aw_scope (aw_mono (ih _ _ _ _ _ _ hx) fun e2 s2 ⟨h2, h3⟩ => ?_)
   rw [h2, h3]
   cases e1 with
   | goto i => cases q
   | _ => cases q; exact ⟨rfl, rfl⟩
 | loop x ih =>
  intro n t h e t' h' q B a w r
  refine wp_loop_rounds k ?_
  have q : @Nat.rec (fun _ => Tr → List Ob → Rs) (fun _ _ => .no) (fun _ again t h => goOn (execK P G cal k x n t h) again) k t h = .mk e t' h' := q
  have q0 : ∀ m t h, @Nat.rec (fun _ => Tr → List Ob → Rs) (fun _ _ => .no) (fun _ again t h => goOn (execK P G cal k x n t h) again) m t h = .mk e t' h' → ∀ a w, Sit G B ⟨n, t.get, h⟩ a w → Code.rounds P x (fun e1 a' w' => ∃ s', endsAt n e t' h' e1 s' ∧ Sit G B s' a' w') m a w := by
   intro m
   induction m with
   | zero => intro t h q; cases q
   | succ m ihm =>
    intro t h q a w r
    have q : goOn (execK P G cal k x n t h) (@Nat.rec (fun _ => Tr → List Ob → Rs) (fun _ _ => .no) (fun _ again t h => goOn (execK P G cal k x n t h) again) m) = .mk e t' h' := q
    rw [rounds_succ]
    rcases goOn_mk q with ⟨t1, h1, hx, q⟩ | ⟨q, hne⟩
    · refine Code.wp_mono ?_ (ih n t h _ _ _ hx B a w r)
      rintro e1 a' w' ⟨s', ⟨rfl, rfl⟩, r'⟩
      exact ihm t1 h1 q a' w' r'
    · refine Code.wp_mono ?_ (ih n t h _ _ _ q B a w r)
      rintro e1 a' w' ⟨s', ⟨rfl, rfl⟩, r'⟩
      cases e1 with
      | normal => exact absurd rfl hne
      | _ => exact ⟨_, ⟨rfl, rfl⟩, r'⟩
  exact q0 k t h q a w r
 | region id ops dr =>
  intro n t h e t' h' q
  cases dr
  · have q : @Sr.casesOn (fun _ => Rs) (seqK P G cal n ops ops.toList t h) .no _ = .mk e t' h' := q
    cases hs : seqK P G cal n ops ops.toList t h with
    | no => rw [hs] at q; cases q
    | mk t1 h1 =>
     rw [hs] at q
     cases q
     exact aw_regionA (seqK_ok (Q := fun s => endsAt n .normal t' h' .normal s) hG hc ⟨rfl, rfl⟩ _ _ _ hs)
  · have q : bc (lexQ ops ops.toList 0 []) _ _ = Rs.mk e t' h' := q
    rw [bc_eq] at q
    cases hl : lexQ ops ops.toList 0 []
    · rw [hl] at q; cases q
    rw [hl] at q
    simp only [cond_true] at q
    cases hs : drawK P G cal n ops ops.toList t h with
    | no => rw [hs] at q; cases q
    | mk t1 h1 es =>
     rw [hs] at q
     have q : bc (chkK ops es es 0) _ _ = Rs.mk e t' h' := q
     rw [bc_eq] at q
     cases hk : chkK ops es es 0
     · rw [hk] at q; cases q
     rw [hk] at q; cases q
     exact aw_drawnK hG hc hm hl hs hk ⟨rfl, rfl⟩
noncomputable def treeK (l : List D) : Nat → Tr → Tr := @List.rec D (fun _ => Nat → Tr → Tr) (fun _ t => t) (fun d _ ih i t => ih (Nat.add i 1) (setK t i d)) l
theorem treeK_get : ∀ (l : List D) (i : Nat) (t : Tr) (j : Nat), i + l.length < 4095 → (treeK l i t).get j = if i ≤ j ∧ j < i + l.length then (l[j - i]?).getD .any else t.get j
 | [], i, t, j, _ => by show t.get j = _; rw [if_neg (by simp only [List.length_nil]; omega)]
 | d :: l, i, t, j, hl => by
  simp only [List.length_cons] at hl ⊢
  show (treeK l (i + 1) (setK t i d)).get j = _
  rw [treeK_get l (i + 1) _ j (by omega), setK_get t i d j (by omega)]
  by_cases hj : j = i
  · subst hj; rw [if_neg (by omega), if_pos rfl, if_pos (by omega), Nat.sub_self]; rfl
  · by_cases h2 : i + 1 ≤ j ∧ j < i + 1 + l.length
    · rw [if_pos h2, if_pos (by omega), show j - i = (j - (i + 1)) + 1 by omega]; rfl
    · rw [if_neg h2, if_neg hj, if_neg (by omega)]
theorem treeK_env {l : List D} (hl : l.length < 4095) : (treeK l 0 (mkT 6)).get = argEnv l := funext fun j => by
 rw [treeK_get l 0 (mkT 6) j (by omega)]
 unfold argEnv
 by_cases hj : j < l.length
 · rw [if_pos (by omega)]; rfl
 · rw [if_neg (by omega), List.getElem?_eq_none (by omega), mkT_get]; rfl
noncomputable def firstK (l : List Nat) : Nat → Nat → Bool := @List.rec Nat (fun _ => Nat → Nat → Bool) (fun j m => Nat.ble m j) (fun a _ ih j m => bc (Nat.ble m j) true (bc (Nat.beq a j) (ih (Nat.add j 1) m) false)) l
theorem firstK_spec : ∀ (l : List Nat) (j m : Nat), firstK l j m = true → m ≤ j + l.length ∧ ∀ k, j + k < m → l[k]? = some (j + k)
 | [], j, m, q => by
  have := Nat.le_of_ble_eq_true q
  exact ⟨by simpa using this, fun k hk => by omega⟩
 | a :: l, j, m, q => by
  have q : bc (Nat.ble m j) true (bc (Nat.beq a j) (firstK l (j + 1) m) false) = true := q
  rw [bc_eq, bc_eq, bleE] at q
  by_cases hm : m ≤ j
  · exact ⟨by simp; omega, fun k hk => by omega⟩
  · rw [decide_eq_false hm] at q
    cases hb : Nat.beq a j
    · rw [hb] at q; cases q
    · rw [hb] at q
      obtain ⟨h1, h2⟩ := firstK_spec l (j + 1) m q
      refine ⟨by simp only [List.length_cons]; omega, fun k hk => ?_⟩
      cases k with
      | zero => simp [bqT hb]
      | succ k => have := h2 k (by omega); simp only [List.getElem?_cons_succ, this]; congr 1; omega
noncomputable def shrK (m : Nat) (h' : List Ob) (r : D) : Option (List Ob × D) := bc (Nat.beq (lenK h' 0) m) (some (h', r))
 ((fun R => @Option.rec (List Ob) (fun _ => Option (List Ob × D)) none (fun h2 => @Option.rec D (fun _ => Option (List Ob × D)) none (fun r2 => bc (nodupK R) (bc (firstK R 0 m) (some (h2, r2)) none) none) (rnK R r)) (rnHK R h' R)) (closeK h' 4000 0 (addK (refsK r []) (List.range m))))
noncomputable def callBK (P : Program) (G : Nat → D) (cx : FuncId) (k : Nat) (cal : Cal) : Cal := fun f args h => @Option.rec Func (fun _ => Option (List Ob × D)) none (fun fn => @Option.rec Code (fun _ => Option (List Ob × D))
   (bc (Nat.beq f cx) (match args with
    | [.v (.string a), .v (.string b)] => some (h, .v (.int .i64 (Lib.compareBytes a.data.toList b.data.toList)))
    | _ => none) none)
   (fun c => bc (entB P f) (bc (Nat.ble (lenK args 0) fn.ntmps) (bc (Nat.ble (lenK args 0) 4094) (@Rs.casesOn (fun _ => Option (List Ob × D)) (execK P G cal k c fn.ntmps (treeK args 0 (mkT 6)) h) none
    fun e t h1 => @Exit.casesOn (fun _ => Option (List Ob × D)) e (@Option.rec (List D) (fun _ => Option (List Ob × D)) none (fun ds => shrK (lenK h 0) h1 (outD ds)) (resD P ⟨fn.ntmps, getK t, h1⟩ fn.results.toList)) (fun _ => none) (fun _ => none) (@Option.rec (List D) (fun _ => Option (List Ob × D)) none (fun ds => shrK (lenK h 0) h1 (outD ds)) (resD P ⟨fn.ntmps, getK t, h1⟩ fn.results.toList)) (fun _ => none) none) none) none) none) fn.body) P.funcs[f]?
noncomputable def callK (P : Program) (G : Nat → D) (cx : FuncId) (K : Nat) (k : Nat) : Cal := @Nat.rec (fun _ => Cal) (fun _ _ _ => none) (fun _ cal => callBK P G cx K cal) k
theorem shrK_does {f : FuncId} {args : List D} {h1 : List Ob} {r : D} {h' : List Ob} {r' : D} (hG : ∀ g, low 0 (G g)) (q : shrK (lenK h 0) h1 r = some (h', r')) (d : Does P G f h args (fun h2 r2 => h2 = h1 ∧ r2 = r)) : Does P G f h args (fun h2 r2 => h2 = h' ∧ r2 = r') := by
 unfold shrK at q
 dsimp only at q
 rw [bc_eq, lenK_eq, lenK_eq, Nat.zero_add, Nat.zero_add] at q
 cases hn : Nat.beq h1.length h.length
 · rw [hn] at q
   simp only [cond_false] at q
   generalize closeK h1 4000 0 _ = R at q
   cases e1 : rnHK R h1 R with
   | none => rw [e1] at q; cases q
   | some h2 =>
   rw [e1] at q
   have q : @Option.rec D (fun _ => Option (List Ob × D)) none (fun r2 => bc (nodupK R) (bc (firstK R 0 h.length) (some (h2, r2)) none) none) (rnK R r) = _ := q
   cases e2 : rnK R r with
   | none => rw [e2] at q; cases q
   | some r2 =>
   rw [e2] at q
   have q : bc (nodupK R) (bc (firstK R 0 h.length) (some (h2, r2)) none) none = some (h', r') := q
   rw [bc_eq, bc_eq] at q
   obtain ⟨n1, q⟩ := (by
    cases hk : nodupK R
    · rw [hk] at q; cases q
    · rw [hk] at q; exact ⟨rfl, q⟩ : nodupK R = true ∧ (bif firstK R 0 h.length then some (h2, r2) else none) = some (h', r'))
   obtain ⟨n2, hq⟩ := cond_some q
   cases hq
   obtain ⟨l1, l2⟩ := firstK_spec R 0 h.length n2
   rw [rnHK_eq] at e1
   rw [rnK_eq] at e2
   rw [nodupK_eq] at n1
   refine d.shrink hG ?_
   rintro _ _ ⟨rfl, rfl⟩
   exact ⟨_, _, ⟨R, e1, n1, e2, by omega, fun k hk => by have := l2 k (by omega); rwa [Nat.zero_add] at this⟩, rfl, rfl⟩
 · rw [hn] at q; cases q; exact d
theorem callK_ok {cx : FuncId} (hG : ∀ g, low 0 (G g)) (hm : P.follows .mixedOrders = true) (hx : CmpX P cx) (K : Nat) : ∀ k, CalOk P G (callK P G cx K k) := by
 intro k
 induction k with
 | zero => intro f args h h' r q; cases q
 | succ k ih =>
  intro f args h h' r q
  have q : callBK P G cx K (callK P G cx K k) f args h = some (h', r) := q
  unfold callBK at q
  cases hf : P.funcs[f]? with
  | none => rw [hf] at q; cases q
  | some fn =>
  rw [hf] at q
  dsimp only at q
  cases hb : fn.body with
  | none =>
   rw [hb] at q
   have hent : entB P f = false := by unfold entB; rw [hf]; simp [hb]
   dsimp only at q
   rw [bc_eq] at q
   cases hbq : Nat.beq f cx
   · rw [hbq] at q; cases q
   rw [hbq] at q
   simp only [cond_true] at q
   split at q
   · cases q
     refine .inr ⟨hent, rfl, fun w hd h2 W vs hv => ?_⟩
     rw [rdL] at hv; obtain ⟨u, t, rfl, h3, hv⟩ := hv
     rw [rdL] at hv; obtain ⟨u2, t, rfl, h4, hv⟩ := hv
     rw [rdL] at hv; subst hv
     rw [rd] at h3 h4; subst h3; subst h4
     rw [bqT hbq]
     exact ⟨_, hx _ _ w, by rw [rd]⟩
   · cases q
  | some c =>
   rw [hb] at q
   dsimp only at q
   rw [bc_eq, bc_eq, bc_eq, lenK_eq, Nat.zero_add, bleE, bleE] at q
   cases hent : entB P f
   · rw [hent] at q; cases q
   rw [hent] at q
   by_cases l1 : args.length ≤ fn.ntmps
   rotate_left
   · rw [decide_eq_false l1] at q; cases q
   rw [decide_eq_true l1] at q
   by_cases l2 : args.length ≤ 4094
   rotate_left
   · rw [decide_eq_false l2] at q; cases q
   rw [decide_eq_true l2] at q
   simp only [cond_true] at q
   refine .inl ⟨rfl, ?_⟩
   cases hxx : execK P G (callK P G cx K k) K c fn.ntmps (treeK args 0 (mkT 6)) h with
   | no => rw [hxx] at q; cases q
   | mk e t h1 =>
   rw [hxx] at q
   have A := execK_ok hG hm ih K _ _ _ _ _ _ _ hxx
   rw [treeK_env (by omega)] at A
   have key : (e = .normal ∨ e = .ret) → @Option.rec (List D) (fun _ => Option (List Ob × D)) none (fun ds => shrK (lenK h 0) h1 (outD ds)) (resD P ⟨fn.ntmps, getK t, h1⟩ fn.results.toList) = some (h', r) → Does P G f h args (fun h2 r2 => h2 = h' ∧ r2 = r) := fun he q => by
    rw [getK_fun] at q
    cases hr : resD P ⟨fn.ntmps, t.get, h1⟩ fn.results.toList with
    | none => rw [hr] at q; cases q
    | some ds =>
     rw [hr] at q
     exact shrK_does hG q (does_keep hf hb l1 (aw_mono A fun e1 s1 ⟨h2, h3⟩ => by rw [h2, h3]; exact ⟨he, ds, hr, rfl, rfl⟩))
   cases e with
   | normal => exact key (.inl rfl) q
   | ret => exact key (.inr rfl) q
   | _ => cases q
end
section
def strOf (l : List UInt8) : ByteArray := ⟨l.toArray⟩
def rdText (s : RS) : ByteArray × RS := (strOf (rdBytes s).1, (rdBytes s).2)
def rdLoop {α : Type} (f : RS → α × RS) : Nat → RS → List α × RS
 | 0, s => ([], s)
 | n + 1, s => if s.err = 0 then ((f s).1 :: (rdLoop f n (f s).2).1, (rdLoop f n (f s).2).2) else ([], s)
theorem rdLoop_bad {α : Type} (f : RS → α × RS) (n : Nat) (s : RS) (h : s.err ≠ 0) : rdLoop f n s = ([], s) := by
 cases n with
 | zero => rfl
 | succ n => unfold rdLoop; rw [if_neg h]
theorem rdLoop_go {α : Type} (f : RS → α × RS) (n : Nat) (s : RS) (h : s.err = 0) : rdLoop f (n + 1) s = ((f s).1 :: (rdLoop f n (f s).2).1, (rdLoop f n (f s).2).2) := by
 conv => lhs; unfold rdLoop
 rw [if_pos h]
def LoopAt {α : Type} (R : List α × RS) (f : RS → α × RS) (acc : List α) (k : Nat) (s : RS) : Prop := R = (acc ++ (rdLoop f k s).1, (rdLoop f k s).2)
theorem LoopAt.start {α : Type} (f : RS → α × RS) (k : Nat) (s : RS) : LoopAt (rdLoop f k s) f [] k s := rfl
theorem LoopAt.step {α : Type} {R : List α × RS} {f : RS → α × RS} {acc : List α} {k : Nat} {s : RS} (h : LoopAt R f acc (k + 1) s) (he : s.err = 0) : LoopAt R f (acc ++ [(f s).1]) k (f s).2 := by
 unfold LoopAt at h ⊢
 rw [h, rdLoop_go f k s he, List.append_assoc]
 rfl
structure Tks {α : Type} (f : RS → α × RS) (enc : α → List UInt8) : Prop where
 ok : ∀ s, s.Ok → (f s).2.Ok ∧ (f s).2.data = s.data
 took : ∀ s, s.Ok → (f s).2.err = 0 → Took s (f s).2 (enc (f s).1)
def rdList {α : Type} (f : RS → α × RS) (s : RS) : List α × RS := rdLoop f (rdCount s).1 (rdCount s).2
def Rds {α : Type} (f : RS → α × RS) (x : α) (bs : List UInt8) : Prop := ∀ (s : RS) (r : List UInt8), s.Ok → s.err = 0 → s.data.length < 18446744073709551616 → s.data.drop s.pos = bs ++ r → ∃ s', f s = (x, s') ∧ s'.Ok ∧ Took s s' bs
theorem took_rest {s t : RS} {bs r : List UInt8} (h : Took s t bs) (hr : s.data.drop s.pos = bs ++ r) : t.data.drop t.pos = r := by
 have := h.read
 rw [hr] at this
 exact (List.append_cancel_left this).symm
theorem took_len {s t : RS} {bs : List UInt8} (h : Took s t bs) : t.data.length = s.data.length := congrArg List.length h.data
theorem rds_go {s : RS} {bs r : List UInt8} (ho : s.Ok) (he : s.err = 0) (hr : s.data.drop s.pos = bs ++ r) : (s.go bs.length).Ok ∧ Took s (s.go bs.length) bs := by
 have hp := go_pos ho.pos hr
 refine ⟨ho.go hp, took_go he hp ?_⟩
 rw [hr, List.take_left]
theorem rds_int {n : Int} (hn : -9223372036854775808 ≤ n ∧ n ≤ 9223372036854775807) : Rds rdInt n (intE n) := fun s r ho he _ hr => ⟨_, rdInt_of he hn hr, rds_go ho he hr⟩
theorem rds_text (q : ByteArray) : Rds rdText q (textE q) := fun s r ho he hl hr => by
  have hb : s.data.drop s.pos = bytesE q.data.toList ++ r := hr
  have hlen := congrArg List.length hb
  rw [List.length_drop, List.length_append] at hlen
  unfold bytesE at hlen
  rw [List.length_append] at hlen
  refine ⟨_, ?_, rds_go ho he hb⟩
  unfold rdText
  rw [rdBytes_of he ho.pos (by omega) hb]
  rfl
theorem Rds.bind {α β γ : Type} {f : RS → α × RS} {x : α} {a : List UInt8} (hf : Rds f x a) {g : RS → β × RS} {y : β} {b : List UInt8} (hg : Rds g y b) {h : RS → γ × RS} {z : γ} (hh : ∀ s s' s'', f s = (x, s') → g s' = (y, s'') → h s = (z, s'')) : Rds h z (a ++ b) := fun s r ho he hl hr => by
  rw [List.append_assoc] at hr
  obtain ⟨s', h1, h2, h3⟩ := hf s _ ho he hl hr
  obtain ⟨s'', h4, h5, h6⟩ := hg s' r h2 h3.err.2 (by rw [took_len h3]; exact hl) (took_rest h3 hr)
  exact ⟨s'', hh s s' s'' h1 h4, h5, h3.trans h6⟩
theorem rds_loop {α : Type} {f : RS → α × RS} {enc : α → List UInt8} : ∀ (l : List α), (∀ x ∈ l, Rds f x (enc x)) → Rds (rdLoop f l.length) l (l.flatMap enc)
 | [], _ => fun s r ho he hl hr => ⟨s, rfl, ho, Took.refl he⟩
 | x :: t, h => fun s r ho he hl hr => by
   rw [List.flatMap_cons, List.append_assoc] at hr
   obtain ⟨s', h1, h2, h3⟩ := h x (by simp) s _ ho he hl hr
   obtain ⟨s'', h4, h5, h6⟩ := rds_loop t (fun y hy => h y (by simp [hy])) s' r h2 h3.err.2 (by rw [took_len h3]; exact hl) (took_rest h3 hr)
   refine ⟨s'', ?_, h5, by rw [List.flatMap_cons]; exact h3.trans h6⟩
   show rdLoop f (t.length + 1) s = _
   rw [rdLoop_go f _ s he, h1, h4]
theorem flatMap_len {α : Type} {enc : α → List UInt8} (h1 : ∀ x, 1 ≤ (enc x).length) : ∀ l : List α, l.length ≤ (l.flatMap enc).length
 | [] => Nat.zero_le _
 | x :: t => by
   rw [List.flatMap_cons, List.length_append, List.length_cons]
   have := h1 x
   have := flatMap_len h1 t
   omega
theorem rds_list {α : Type} {f : RS → α × RS} {enc : α → List UInt8} (h1 : ∀ x, 1 ≤ (enc x).length) (l : List α) (h : ∀ x ∈ l, Rds f x (enc x)) : Rds (rdList f) l (uintE l.length ++ l.flatMap enc) := fun s r ho he hl hr => by
  rw [List.append_assoc] at hr
  have hlen := congrArg List.length hr
  rw [List.length_drop, List.length_append, List.length_append] at hlen
  have := flatMap_len h1 l
  have hc := rdCount_of he ho.pos (n := l.length) (by omega) hr (by rw [List.length_append]; omega)
  obtain ⟨h2, h3⟩ := rds_go ho he hr
  obtain ⟨s'', h4, h5, h6⟩ := rds_loop l h _ r h2 h3.err.2 hl (took_rest h3 hr)
  refine ⟨s'', ?_, h5, h3.trans h6⟩
  unfold rdList
  rw [hc]
  exact h4
theorem uintE_pos (n : Nat) : 1 ≤ (uintE n).length := by
 by_cases h : n < 128
 · rw [uintE_lt h]; exact Nat.le_refl _
 · rw [uintE_ge (by omega), List.length_cons]; omega
theorem textE_pos (s : ByteArray) : 1 ≤ (textE s).length := by
 unfold textE
 rw [List.length_append]
 have := uintE_pos s.size
 omega
end
section
theorem rds_bytes (b : List UInt8) : Rds rdBytes b (bytesE b) := fun s r ho he hl hr => by
 have hlen := congrArg List.length hr
 rw [List.length_drop, List.length_append] at hlen
 unfold bytesE at hlen
 rw [List.length_append] at hlen
 exact ⟨_, rdBytes_of he ho.pos (by omega) hr, rds_go ho he hr⟩
def rdWr (s : RS) : (ByteArray × List UInt8) × RS := (((rdText s).1, (rdBytes (rdText s).2).1), (rdBytes (rdText s).2).2)
def wrE (x : ByteArray × List UInt8) : List UInt8 := textE x.1 ++ bytesE x.2
theorem rds_wr (x : ByteArray × List UInt8) : Rds rdWr x (wrE x) :=
 (rds_text x.1).bind (rds_bytes x.2) fun s s' s'' e1 e2 => by unfold rdWr; rw [e1, e2]
theorem wrE_pos (x : ByteArray × List UInt8) : 1 ≤ (wrE x).length := by
 unfold wrE; rw [List.length_append]; have := textE_pos x.1; omega
def rdAll {α : Type} (f : RS → α × RS) : Nat → RS → List α × RS
 | 0, s => ([], s)
 | n + 1, s => ((f s).1 :: (rdAll f n (f s).2).1, (rdAll f n (f s).2).2)
theorem rdAll_bad {α : Type} {f : RS → α × RS} (hf : ∀ s, s.err ≠ 0 → (f s).2 = s) : ∀ (n : Nat) (s : RS), s.err ≠ 0 → (rdAll f n s).2 = s
 | 0, s, h => rfl
 | n + 1, s, h => by rw [rdAll]; simp only [hf s h]; exact rdAll_bad hf n s h
theorem rdAll_snd {α : Type} {f : RS → α × RS} (hf : ∀ s, s.err ≠ 0 → (f s).2 = s) : ∀ (n : Nat) (s : RS), (rdAll f n s).2 = (rdLoop f n s).2
 | 0, s => rfl
 | n + 1, s => by
  by_cases h : s.err = 0
  · rw [rdLoop_go f n s h, rdAll]; exact rdAll_snd hf n _
  · rw [rdLoop_bad f _ s h]; exact rdAll_bad hf _ s h
theorem rdAll_eq {α : Type} {f : RS → α × RS} (hf : ∀ s, s.err ≠ 0 → (f s).2 = s) : ∀ (n : Nat) (s : RS), (rdAll f n s).2.err = 0 → rdAll f n s = rdLoop f n s
 | 0, s, h => rfl
 | n + 1, s, h => by
  by_cases h0 : s.err = 0
  · rw [rdLoop_go f n s h0, rdAll, rdAll_eq hf n _ h]
  · rw [rdAll_bad hf _ s h0] at h; exact absurd h h0
theorem rdText_bad {s : RS} (h : s.err ≠ 0) : (rdText s).2 = s := by unfold rdText rdBytes; rw [if_pos h]
theorem rdBytes_bad {s : RS} (h : s.err ≠ 0) : (rdBytes s).2 = s := by unfold rdBytes; rw [if_pos h]
theorem rdUint_bad {s : RS} (h : s.err ≠ 0) : (rdUint s).2 = s := by unfold rdUint; rw [if_pos h]
theorem rdWr_bad {s : RS} (h : s.err ≠ 0) : (rdWr s).2 = s := by unfold rdWr; simp only; rw [rdText_bad h, rdBytes_bad h]
def rdC1 (s : RS) : (Int × Int × Int) × RS := (((rdInt s).1, (rdInt (rdInt s).2).1, (rdInt (rdInt (rdInt s).2).2).1), (rdInt (rdInt (rdInt s).2).2).2)
def rdCw (g : RS → List (ByteArray × List UInt8) × RS) (s : RS) : Cmd × RS :=
 (⟨(rdInt s).1, (rdInt (rdInt s).2).1, (rdInt (rdInt (rdInt s).2).2).1, (g (rdInt (rdInt (rdInt s).2).2).2).1, (rdInt (g (rdInt (rdInt (rdInt s).2).2).2).2).1, (rdBytes (rdInt (g (rdInt (rdInt (rdInt s).2).2).2).2).2).1⟩, (rdBytes (rdInt (g (rdInt (rdInt (rdInt s).2).2).2).2).2).2)
def rdCmd : RS → Cmd × RS := rdCw (rdList rdWr)
def rdListA {α : Type} (f : RS → α × RS) (s : RS) : List α × RS := rdAll f (rdCount s).1 (rdCount s).2
def rdCmdA : RS → Cmd × RS := rdCw (rdListA rdWr)
theorem rdInt_bad {s : RS} (h : s.err ≠ 0) : (rdInt s).2 = s := rdUint_bad h
theorem rdCmdA_snd (s : RS) : (rdCmdA s).2 = (rdCmd s).2 := by
 unfold rdCmdA rdCmd rdCw rdListA rdList
 simp only [rdAll_snd (fun s h => rdWr_bad h)]
theorem rdCmdA_eq {s : RS} (h : (rdCmdA s).2.err = 0) : rdCmdA s = rdCmd s := by
 have hl : (rdListA rdWr (rdInt (rdInt (rdInt s).2).2).2).2.err = 0 := by
  apply Classical.byContradiction
  intro hn
  unfold rdCmdA rdCw at h
  simp only at h
  rw [rdInt_bad hn, rdBytes_bad hn] at h
  exact hn h
 have e : rdListA rdWr (rdInt (rdInt (rdInt s).2).2).2 = rdList rdWr (rdInt (rdInt (rdInt s).2).2).2 := rdAll_eq (fun s h => rdWr_bad h) _ _ hl
 unfold rdCmdA rdCmd rdCw
 rw [e]
theorem writesE_eq (l : List (ByteArray × List UInt8)) : writesE l = l.flatMap wrE := rfl
theorem rds_cmd {c : Cmd} (hc : c.Ok) : Rds rdCmd c (encC c) := by
 have r1 := rds_int hc.client
 have r2 := rds_int hc.seq
 have r3 := rds_int hc.kind
 have r4 := rds_list wrE_pos c.writes fun x _ => rds_wr x
 have r5 := rds_int hc.replica
 have r6 := rds_bytes c.tag
 intro s r ho he hl hr
 unfold encC writeC at hr ⊢
 rw [writesE_eq] at hr ⊢
 simp only [List.append_assoc] at hr
 obtain ⟨s1, e1, o1, t1⟩ := r1 s _ ho he hl hr
 have l1 : s1.data.length < 18446744073709551616 := by rw [took_len t1]; exact hl
 have hr1 := took_rest t1 hr
 obtain ⟨s2, e2, o2, t2⟩ := r2 s1 _ o1 t1.err.2 l1 hr1
 have l2 : s2.data.length < 18446744073709551616 := by rw [took_len t2]; exact l1
 have hr2 := took_rest t2 hr1
 obtain ⟨s3, e3, o3, t3⟩ := r3 s2 _ o2 t2.err.2 l2 hr2
 have l3 : s3.data.length < 18446744073709551616 := by rw [took_len t3]; exact l2
 have hr3 := took_rest t3 hr2
 rw [← List.append_assoc (uintE _)] at hr3
 obtain ⟨s4, e4, o4, t4⟩ := r4 s3 _ o3 t3.err.2 l3 hr3
 have l4 : s4.data.length < 18446744073709551616 := by rw [took_len t4]; exact l3
 have hr4 := took_rest t4 hr3
 obtain ⟨s5, e5, o5, t5⟩ := r5 s4 _ o4 t4.err.2 l4 hr4
 have l5 : s5.data.length < 18446744073709551616 := by rw [took_len t5]; exact l4
 have hr5 := took_rest t5 hr4
 obtain ⟨s6, e6, o6, t6⟩ := r6 s5 _ o5 t5.err.2 l5 hr5
 refine ⟨s6, ?_, o6, ?_⟩
 · unfold rdCmd rdCw; rw [e1]; simp only; rw [e2]; simp only; rw [e3]; simp only; rw [e4]; simp only; rw [e5]; simp only; rw [e6]
 · have := ((((t1.trans t2).trans t3).trans t4).trans t5).trans t6
   simp only [List.append_assoc] at this ⊢
   exact this
def zeroC : Cmd := ⟨0, 0, 0, [], 0, []⟩
def decC (b : List UInt8) : Cmd × Int := if (rdCmd ⟨b, 0, 0, 0⟩).2.err = 0 ∧ (rdCmd ⟨b, 0, 0, 0⟩).2.pos = b.length then ((rdCmd ⟨b, 0, 0, 0⟩).1, 0) else (zeroC, 2)
theorem decC_yes {b : List UInt8} {c : Cmd} {s : RS} (h : rdCmdA ⟨b, 0, 0, 0⟩ = (c, s)) (he : s.ends = 0) (hp : s.pos ≤ s.data.length) (hd : s.data = b) : decC b = (c, 0) := by
 unfold RS.ends at he
 split at he
 · cases he
 · rename_i hn
   have e := rdCmdA_eq (s := ⟨b, 0, 0, 0⟩) (by rw [h]; exact he)
   unfold decC
   rw [← e, h]
   have : s.pos = b.length := by rw [← hd]; omega
   rw [if_pos ⟨he, this⟩]
theorem decC_no {b : List UInt8} {c : Cmd} {s : RS} (h : rdCmdA ⟨b, 0, 0, 0⟩ = (c, s)) (he : ¬ s.ends = 0) (hd : s.data = b) : decC b = (zeroC, 2) := by
 have e : (rdCmd ⟨b, 0, 0, 0⟩).2 = s := by rw [← rdCmdA_snd, h]
 unfold decC
 rw [e, if_neg]
 rintro ⟨h1, h2⟩
 apply he
 unfold RS.ends
 rw [if_neg (by rw [hd]; omega)]; exact h1
theorem newR_ok (b : List UInt8) : RS.Ok ⟨b, 0, 0, 0⟩ := ⟨Nat.zero_le _, Nat.le_refl _, .inl rfl⟩
theorem decC_enc {c : Cmd} (hc : c.Ok) : decC (encC c) = (c, 0) := by
 have hl := encC_len c hc
 obtain ⟨s', e, o, t⟩ := rds_cmd hc ⟨encC c, 0, 0, 0⟩ [] (newR_ok _) rfl (by show (encC c).length < _; omega) (by simp)
 have hd : s'.data = encC c := t.data
 have hp : s'.pos = (encC c).length := by
  have h2 := took_rest t (r := []) (by simp)
  have h3 := congrArg List.length h2
  have h4 := o.pos
  rw [List.length_drop, hd] at h3
  rw [hd] at h4
  simp at h3; omega
 unfold decC
 rw [e]
 simp only
 rw [if_pos ⟨t.err.2, hp⟩]
end
section

end
section

end
section
set_option maxRecDepth 100000
set_option maxHeartbeats 1000000
attribute [local irreducible] on aOp
attribute [local go_sem] decide_true decide_false Bool.not_true Bool.not_false
attribute [local simp] byD_len
def rawU (p k acc : Nat) : Option (Nat × Nat) → D
 | none => .tup [.v (.int .u64 (0 : Int)), .v (.int .i64 p), .v (.bool false)]
 | some (m, c) => .tup [.v (.int .u64 ((acc + m * 2 ^ (7 * k) : Nat) : Int)), .v (.int .i64 ((p + k + c : Nat) : Int)), .v (.bool true)]
def rawD (l : List UInt8) (p : Nat) : D := rawU p 0 0 (numF 0 (l.drop p))
variable (G : Nat → D) (hG : ∀ g, low 0 (G g))
include hG
end
section
set_option maxRecDepth 100000
set_option maxHeartbeats 2000000
attribute [local irreducible] on aOp
attribute [local go_sem] decide_true decide_false Bool.not_true Bool.not_false
variable (G : Nat → D) (hG : ∀ g, low 0 (G g))
def inOb (s : RS) : Ob := .cells [.sl 1 (byD s.data), .v (.int .i64 s.pos), .v (.int .i64 s.item), .v (.bool (decide (s.err ≠ 0)))]
include hG
end
section
set_option maxRecDepth 100000
set_option maxHeartbeats 2000000
attribute [local irreducible] on aOp
attribute [local go_sem] decide_true decide_false Bool.not_true Bool.not_false
variable (G : Nat → D) (hG : ∀ g, low 0 (G g))
include hG
end
section
set_option maxRecDepth 100000
set_option maxHeartbeats 2000000
attribute [local irreducible] on aOp
attribute [local go_sem] decide_true decide_false Bool.not_true Bool.not_false
variable (G : Nat → D) (hG : ∀ g, low 0 (G g))
include hG
end
section
set_option maxRecDepth 100000
set_option maxHeartbeats 2000000
set_option maxHeartbeats 1000000
attribute [local irreducible] on aOp
attribute [local go_sem] decide_true decide_false Bool.not_true Bool.not_false
variable (G : Nat → D) (hG : ∀ g, low 0 (G g))
include hG
end
section
set_option maxRecDepth 100000
set_option maxHeartbeats 4000000
set_option pp.maxSteps 1000000
set_option pp.deepTerms true
attribute [local irreducible] on aOp
attribute [local go_sem] decide_true decide_false Bool.not_true Bool.not_false
attribute [local simp] byD_len
def eM (A B x w v : Ob) (T : List Ob) : List Ob := A :: B :: x :: w :: v :: T
section
variable {A B x w v y z : Ob} {T l : List Ob}
end
variable (G : Nat → D) (hG : ∀ g, low 0 (G g))
include hG
end
section
set_option maxRecDepth 100000
set_option maxHeartbeats 1000000
attribute [local irreducible] on aOp
attribute [local go_sem] decide_true decide_false Bool.not_true Bool.not_false
attribute [local simp] byD_len
variable (G : Nat → D) (hG : ∀ g, low 0 (G g))
include hG
theorem rNum_d (i : Nat) (s : RS) (h : List Ob) (hi : h[i]? = some (rdrOb s)) (ho : s.Ok) (hl : s.data.length ≤ 1000000000) :
 Does Tryz.prog G 83 h [.ptr i 0] (fun h' r => h' = h ∧ r = s.rawN) := by
 rw [rdrOb_eq] at hi
 refine does_of_aw Tryz.func83 rfl (Nat.le_of_ble_eq_true rfl) hG fun hl0 _ => ?_
 simp only [Tryz.ntmps83]
 repeat' first
  | refine aw_seq' ?_
  | refine aw_region' ?_
  | refine aw_block ?_
  | refine ao_nil ?_
  | (refine ao1 rfl rfl fun K HK => ?_; simp only [go_sem, ↓reduceIte, Nat.reduceEqDiff, Nat.reduceAdd, Nat.reduceLeDiff, Nat.reduceBEq, Nat.reduceMul, Int.reduceEq, Int.reduceLT, Int.reduceLE, hi] <;> (refine HK _ _ ?_; clear HK K))
 refine aw_for (fun m e h' => ∃ (k acc : Nat), m = 10 - k ∧ k ≤ 10 ∧ acc < 2 ^ (7 * k) ∧ rawJ s.pos k acc (s.data.drop (s.pos + k)) = s.rawN ∧ h' = h ∧ e 0 = .ptr i 0 ∧ e 2 = .v (.int .u64 acc) ∧ e 7 = .v (.int .i64 k)) 10 ⟨0, 0, rfl, by omega, by decide, rfl, rfl, rfl, rfl, rfl⟩ ?_
 rintro m e h' ⟨k, acc, rfl, hk, ha, hJ, rfl, e0, e2, e7⟩
 have hp := ho.pos
 have w1 : IntKind.i64.wrap ((s.pos : Int) + (k : Int)) = ((s.pos + k : Nat) : Int) := IntWalk.i64_in _ (by omega)
 by_cases hk9 : k = 10
 · subst hk9
   have hR : rawJ s.pos 10 acc (List.drop (s.pos + 10) s.data) = .tup [.v (.int .u64 (0 : Int)), .v (.int .i64 (0 : Int)), .v (.bool false)] := by
    unfold rawJ; split
    · rfl
    · rw [if_pos (by omega)]
   repeat' first
    | refine aw_seq' ?_
    | refine aw_region' ?_
    | refine aw_block ?_
    | refine ao_nil ?_
    | ((first | refine ao1 rfl rfl fun K HK => ?_ | refine aq1 rfl rfl fun K HK => ?_); (first | refine aOp_pick rfl ?_ | skip); simp only [go_sem, ↓reduceIte, Nat.reduceEqDiff, Nat.reduceAdd, Nat.reduceLeDiff, Nat.reduceBEq, Nat.reduceMul, Int.reduceEq, Int.reduceLT, Int.reduceLE, e0, e2, e7, hi]; (first | refine splitB (fun hq => ?_) (fun hq => ?_) | (refine ⟨by omega, by omega, ?_⟩; intro row hrow; obtain ⟨x, hx, rfl⟩ := row_inv hrow; clear hrow) | skip) <;> ((first | refine HK _ _ ?_ | refine HK _ _ rfl ?_); clear HK K))
    | refine aq_nil ?_
    | (refine aw_draw mixd (by kernel_rfl) ?_)
    | refine ao0 rfl rfl ?_
    | refine aw_if1 rfl ?_
    | refine aw_if0 rfl ?_
    | refine aw_skip ?_
    | refine aw_exit ?_
    | refine aw_ret ?_
    | refine thenS_r ?_
    | refine inB_r ?_
    | (exfalso; omega)
   exact ⟨.inr rfl, endD (r := .tup [.v (.int .u64 (0 : Int)), .v (.int .i64 (0 : Int)), .v (.bool false)]) hl0 rfl (by simp) (by simp) rfl (by simp [low, lowL]) ⟨rfl, hR.symm.trans hJ⟩⟩
 by_cases hlt : s.pos + k < s.data.length
 rotate_left
 · have hR : rawJ s.pos k acc (List.drop (s.pos + k) s.data) = .tup [.v (.int .u64 (0 : Int)), .v (.int .i64 (0 : Int)), .v (.bool false)] := by
    rw [List.drop_eq_nil_of_le (by omega)]; rfl
   repeat' first
    | refine aw_seq' ?_
    | refine aw_region' ?_
    | refine aw_block ?_
    | refine ao_nil ?_
    | ((first | refine ao1 rfl rfl fun K HK => ?_ | refine aq1 rfl rfl fun K HK => ?_); (first | refine aOp_pick rfl ?_ | skip); simp only [go_sem, ↓reduceIte, Nat.reduceEqDiff, Nat.reduceAdd, Nat.reduceLeDiff, Nat.reduceBEq, Nat.reduceMul, Int.reduceEq, Int.reduceLT, Int.reduceLE, e0, e2, e7, hi, w1]; (first | refine splitB (fun hq => ?_) (fun hq => ?_) | (refine ⟨by omega, by omega, ?_⟩; intro row hrow; obtain ⟨x, hx, rfl⟩ := row_inv hrow; clear hrow) | skip) <;> ((first | refine HK _ _ ?_ | refine HK _ _ rfl ?_); clear HK K))
    | refine aq_nil ?_
    | (refine aw_draw mixd (by kernel_rfl) ?_)
    | refine ao0 rfl rfl ?_
    | refine aw_if1 rfl ?_
    | refine aw_if0 rfl ?_
    | refine aw_skip ?_
    | refine aw_exit ?_
    | refine aw_ret ?_
    | refine thenS_r ?_
    | refine inB_r ?_
    | (exfalso; omega)
   exact ⟨.inr rfl, endD (r := .tup [.v (.int .u64 (0 : Int)), .v (.int .i64 (0 : Int)), .v (.bool false)]) hl0 rfl (by simp) (by simp) rfl (by simp [low, lowL]) ⟨rfl, hR.symm.trans hJ⟩⟩
 have hx : s.data[s.pos + k]? = some s.data[s.pos + k] := List.getElem?_eq_getElem hlt
 rw [List.drop_eq_getElem_cons hlt] at hJ
 generalize s.data[s.pos + k] = x at hx hJ
 have hxl := x.toNat_lt
 by_cases h9 : k = 9 ∧ 1 < x.toNat
 · have hR : rawJ s.pos k acc (x :: List.drop (s.pos + k + 1) s.data) = .tup [.v (.int .u64 (0 : Int)), .v (.int .i64 (0 : Int)), .v (.bool false)] := by
    rw [rawJ, if_neg (by omega), if_pos h9]
   obtain ⟨rfl, h9⟩ := h9
   repeat' first
    | refine aw_seq' ?_
    | refine aw_region' ?_
    | refine aw_block ?_
    | refine ao_nil ?_
    | ((first | refine ao1 rfl rfl fun K HK => ?_ | refine aq1 rfl rfl fun K HK => ?_); (first | refine aOp_pick rfl ?_ | skip); simp only [go_sem, ↓reduceIte, Nat.reduceEqDiff, Nat.reduceAdd, Nat.reduceLeDiff, Nat.reduceBEq, Nat.reduceMul, Int.reduceEq, Int.reduceLT, Int.reduceLE, e0, e2, e7, hi, w1, Int.toNat_natCast]; (first | refine splitB (fun hq => ?_) (fun hq => ?_) | (refine ⟨by omega, by omega, ?_⟩; refine row_at (by assumption) ?_) | skip) <;> ((first | refine HK _ _ ?_ | refine HK _ _ rfl ?_); clear HK K))
    | refine aq_nil ?_
    | (refine aw_draw mixd (by kernel_rfl) ?_)
    | refine ao0 rfl rfl ?_
    | refine aw_if1 rfl ?_
    | refine aw_if0 rfl ?_
    | refine aw_skip ?_
    | refine aw_exit ?_
    | refine aw_ret ?_
    | refine thenS_r ?_
    | refine inB_r ?_
    | (exfalso; omega)
   exact ⟨.inr rfl, endD (r := .tup [.v (.int .u64 (0 : Int)), .v (.int .i64 (0 : Int)), .v (.bool false)]) hl0 rfl (by simp) (by simp) rfl (by simp [low, lowL]) ⟨rfl, hR.symm.trans hJ⟩⟩
 obtain ⟨s1, s2, s3⟩ := shl_step ha (by omega) h9 hxl
 have w2 : IntKind.i64.wrap (7 * (k : Int)) = ((7 * k : Nat) : Int) := IntWalk.i64_in _ (by omega)
 have w3 : decide (0 ≤ ((7 * k : Nat) : Int)) = true := decide_eq_true (by omega)
 have hV := num_val (x := x) ha (by omega) h9
 have w6 : IntKind.i64.wrap (((s.pos + k : Nat) : Int) + 1) = ((s.pos + k + 1 : Nat) : Int) := IntWalk.i64_in _ (by omega)
 have w7 : IntKind.i64.wrap ((k : Int) + 1) = ((k + 1 : Nat) : Int) := IntWalk.i64_in _ (by omega)
 repeat' first
  | refine aw_seq' ?_
  | refine aw_region' ?_
  | refine aw_block ?_
  | refine ao_nil ?_
  | ((first | refine ao1 rfl rfl fun K HK => ?_ | refine aq1 rfl rfl fun K HK => ?_); (first | refine aOp_pick rfl ?_ | skip); simp only [go_sem, ↓reduceIte, Nat.reduceEqDiff, Nat.reduceAdd, Nat.reduceLeDiff, Nat.reduceBEq, Nat.reduceMul, Int.reduceEq, Int.reduceLT, Int.reduceLE, e0, e2, e7, hi, w1, w2, w3, w6, w7, Int.toNat_natCast, Bool.false_eq_true]; (first | refine splitB (fun hq => ?_) (fun hq => ?_) | refine splitN (fun hq => ?_) (fun hq => ?_) | (refine ⟨by omega, by omega, ?_⟩; refine row_at (by assumption) ?_) | skip) <;> ((first | refine HK _ _ ?_ | refine HK _ _ rfl ?_); clear HK K))
  | refine aq0 rfl rfl ?_
  | refine aq_nil ?_
  | (refine aw_draw mixd (by kernel_rfl) ?_)
  | refine ao0 rfl rfl ?_
  | refine aw_if1 rfl ?_
  | refine aw_if0 rfl ?_
  | refine aw_skip ?_
  | refine aw_exit ?_
  | refine aw_ret ?_
  | refine thenS_n ?_
  | refine thenS_r ?_
  | refine inB_r ?_
  | (exfalso; omega)
 all_goals first
 | (have hR : rawJ s.pos k acc (x :: List.drop (s.pos + k + 1) s.data) = .tup [.v (.int .u64 ((acc + x.toNat % 128 * 2 ^ (7 * k) : Nat) : Int)), .v (.int .i64 ((s.pos + k + 1 : Nat) : Int)), .v (.bool true)] := by (rw [rawJ, if_neg (by omega), if_neg h9, if_pos (by omega), decide_eq_true (by omega)])
    exact ⟨.inr rfl, endD (r := .tup [.v (.int .u64 ((acc + x.toNat % 128 * 2 ^ (7 * k) : Nat) : Int)), .v (.int .i64 ((s.pos + k + 1 : Nat) : Int)), .v (.bool true)]) hl0 rfl (by simp) (by simp) (congrArg (fun z : Int => D.tup [.v (.int .u64 z), .v (.int .i64 ((s.pos + k + 1 : Nat) : Int)), .v (.bool true)]) hV) (by simp [low, lowL]) ⟨rfl, hR.symm.trans hJ⟩⟩)
 | (have hR : rawJ s.pos k acc (x :: List.drop (s.pos + k + 1) s.data) = .tup [.v (.int .u64 ((acc + x.toNat % 128 * 2 ^ (7 * k) : Nat) : Int)), .v (.int .i64 ((s.pos + k + 1 : Nat) : Int)), .v (.bool false)] := by (rw [rawJ, if_neg (by omega), if_neg h9, if_pos (by omega), decide_eq_false (by omega)])
    exact ⟨.inr rfl, endD (r := .tup [.v (.int .u64 ((acc + x.toNat % 128 * 2 ^ (7 * k) : Nat) : Int)), .v (.int .i64 ((s.pos + k + 1 : Nat) : Int)), .v (.bool false)]) hl0 rfl (by simp) (by simp) (congrArg (fun z : Int => D.tup [.v (.int .u64 z), .v (.int .i64 ((s.pos + k + 1 : Nat) : Int)), .v (.bool false)]) hV) (by simp [low, lowL]) ⟨rfl, hR.symm.trans hJ⟩⟩)
 | (rw [rawJ, if_neg (by omega), if_neg h9, if_neg (by omega)] at hJ
    refine ⟨rfl, 10 - (k + 1), by omega, k + 1, acc + x.toNat % 128 * 2 ^ (7 * k), rfl, by omega, s3, hJ, rfl, ?_, congrArg (fun z : Int => D.v (.int .u64 z)) hV, rfl⟩
    simp [upd, e0])
end
end Go.Proofs.YtgkjcmglcnhpaaaGreatDoor
