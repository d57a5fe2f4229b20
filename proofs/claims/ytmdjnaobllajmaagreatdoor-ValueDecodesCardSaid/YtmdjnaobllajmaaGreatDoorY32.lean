/-
  What the statements of the chapter share, part 32: JN, VAW.
-/
import Derived.Test.YtmdjnaobllajmaaGreatDoorY13
import Derived.Test.YtmdjnaobllajmaaGreatDoorY31
import Derived.Ground.NamesProg
import Derived.Lib.Join
import Derived.Room.Shelf.Join48
set_option linter.unusedVariables false
set_option linter.unusedSimpArgs false
set_option maxRecDepth 100000
set_option maxHeartbeats 8000000
namespace Go.Proofs.YtmdjnaobllajmaaGreatDoor
open _root_.Bool renaming and_eq_true_iff → Z2
open _root_.Nat renaming le_of_ble_eq_true → Z0, eq_of_beq_eq_true → Z1, beq → Z4, ble → Z5
open _root_.Go.Proofs.Tryz renaming prog → Z3
open Go.RowKit
section
open Go.Shelf Go.RowKit
def Zx2 : Go.Shelf.Ren := ⟨fun | 156 => 102 | 165 => 141 | 166 => 142 | 169 => 143 | 240 => 164 | 241 => 165 | 276 => 178 | 277 => 179 | n => n, fun | 31 => 22 | 9 => 9 | 3 => 3 | 4 => 4 | 0 => 0 | 20 => 20 | 72 => 142 | 76 => 146 | 70 => 140 | 37 => 46 | 75 => 145 | 127 => 160 | 164 => 171 | 5 => 5 | 80 => 115 | n => n, fun | n => n⟩
theorem lays156 : Go.Proofs.Lays.n156 Z3 Zx2 := {
 mixed := by kernel_rfl
 f156 := Tryz.func102.trans (congrArg some (by kernel_rfl))
 f165 := Tryz.func141.trans (congrArg some (by kernel_rfl))
 f166 := Tryz.func142.trans (congrArg some (by kernel_rfl))
 f169 := Tryz.func143.trans (congrArg some (by kernel_rfl))
 f240 := Tryz.func164.trans (congrArg some (by kernel_rfl))
 f241 := Tryz.func165.trans (congrArg some (by kernel_rfl))
 f276 := Tryz.func178.trans (congrArg some (by kernel_rfl))
 f277 := Tryz.func179.trans (congrArg some (by kernel_rfl))
 t0 := Tryz.underlying0
 a0 := Tryz.isAgg0
 z0 := Tryz.sizeOf0
 v0 := Tryz.zeroValue0
 t3 := Tryz.underlying3
 a3 := Tryz.isAgg3
 z3 := Tryz.sizeOf3
 v3 := Tryz.zeroValue3
 t4 := Tryz.underlying4
 a4 := Tryz.isAgg4
 z4 := Tryz.sizeOf4
 v4 := Tryz.zeroValue4
 t9 := Tryz.underlying9
 a9 := Tryz.isAgg9
 z9 := Tryz.sizeOf9
 v9 := Tryz.zeroValue9
 t20 := Tryz.underlying20
 a20 := Tryz.isAgg20
 z20 := Tryz.sizeOf20
 v20 := Tryz.zeroValue20
 t31 := Tryz.underlying22
 a31 := Tryz.isAgg22
 z31 := Tryz.sizeOf22
 v31 := Tryz.zeroValue22
 t37 := Tryz.underlying46
 a37 := Tryz.isAgg46
 z37 := Tryz.sizeOf46
 v37 := Tryz.zeroValue46
 t70 := Tryz.underlying140
 a70 := Tryz.isAgg140
 z70 := Tryz.sizeOf140
 v70 := Tryz.zeroValue140
 t72 := Tryz.underlying142
 a72 := Tryz.isAgg142
 z72 := Tryz.sizeOf142
 v72 := Tryz.zeroValue142
 t75 := Tryz.underlying145
 a75 := Tryz.isAgg145
 z75 := Tryz.sizeOf145
 v75 := Tryz.zeroValue145
 t76 := Tryz.underlying146
 a76 := Tryz.isAgg146
 z76 := Tryz.sizeOf146
 v76 := Tryz.zeroValue146
 t127 := Tryz.underlying160
 a127 := Tryz.isAgg160
 z127 := Tryz.sizeOf160
 v127 := Tryz.zeroValue160
 t164 := Tryz.underlying171
 a164 := Tryz.isAgg171
 z164 := Tryz.sizeOf171
 v164 := Tryz.zeroValue171 }
theorem extra156 : Builder.Extra Z3 Zx2 where
 sizeBuilder := by kernel_rfl
 liesBuilder := by kernel_rfl
 t5 := Tryz.underlying5
 a5 := Tryz.isAgg5
 z5 := Tryz.sizeOf5
 v5 := Tryz.zeroValue5
 infoByte := by kernel_rfl
 cellsByte := by kernel_rfl
 sizeByte := by kernel_rfl
 neB5 := by decide
section
variable {P : Program} {G : Nat → D}
theorem Ok.below {w w' : World} {hd : List Value} {h : List Ob} {p : Nat → Bool} (o : Ok G w hd h p) (b : Below w.heap.size w w') : Ok G w' hd h p ∧ Evo w hd h p w' hd h p := by
 have e : Evo w hd h p w' hd h p := ⟨b.os, b.tape, b.output, b.size, fun k hk _ => b.block k hk, fun _ _ q => q, fun _ _ q => .inl q, fun _ _ q => q, .refl _ _⟩
 refine ⟨⟨o.len, fun i ob u h1 h2 => obOk.move e o (o.ob i ob u h1 h2) (fun hl k hk => b.block k (o.lt ⟨i, ob, u, h1, hl, h2, hk⟩)) (fun _ _ _ q => q), o.inj, Ji e o, Jj e o⟩, e⟩
theorem Yj8 {f : FuncId} {args : List D} {v : Value} (q : ∀ (w : World) (hd : List Value) (h : List Ob) (p : Nat → Bool) (vs : List Value), rdL hd h (only p w) args vs → Calls P f vs.toArray w fun e w' => e = .returned v ∧ Below w.heap.size w w') (h : List Ob) : Does P G f h args (fun h' r => h' = h ∧ r = .v v) := fun w hd p vs o ha => by
 refine (q w hd h p vs ha).mono ?_
 rintro e w' ⟨rfl, hb⟩
 obtain ⟨o', ev⟩ := Ok.below o hb
 exact ⟨v, hd, h, .v v, p, rfl, ⟨rfl, rfl⟩, o', by rw [rd], ev⟩
end
def sRows : List (List D) → Option (List ByteArray)
 | [] => some []
 | [.v (.string s)] :: t => match sRows t with
   | some l => some (s :: l)
   | none => none
 | _ => none
def joinS (l : List ByteArray) (sep : ByteArray) : List UInt8 := Lib.join (l.map (·.data.toList)) sep.data.toList
def joinF (xs : List (List D)) (sep : ByteArray) : Option D := match sRows xs with
 | some l => bif Z5 l.length 1000 && Z5 (joinS l sep).length 1000000 then some (.v (.string ⟨(joinS l sep).toArray⟩)) else none
 | none => none
def joinJ (args : List D) (h : List Ob) : Option D := match args with
 | [.buf i n, .v (.string sep)] => match h[i]? with
   | some (.buf _ k xs) => bif Z4 k 1 && Z4 xs.length n then joinF xs sep else none
   | _ => none
 | [.sl k xs, .v (.string sep)] => bif Z4 k 1 then joinF xs sep else none
 | _ => none
theorem sRows_spec : ∀ (xs : List (List D)) (l : List ByteArray), sRows xs = some l → l.length = xs.length ∧ ∀ (j : Nat) s, l[j]? = some s → xs[j]? = some [.v (.string s)] := by
 intro xs
 induction xs with
 | nil => intro l q; rw [sRows] at q; cases q; exact ⟨rfl, fun j s q => by simp at q⟩
 | cons r t ih =>
  intro l q
  unfold sRows at q
  split at q
  · cases ‹r :: t = []›
  · rename_i s t' e
    cases e
    split at q
    · rename_i l' e
      cases q
      obtain ⟨h1, h2⟩ := ih _ e
      refine ⟨by simp [h1], fun j s q => ?_⟩
      cases j with
      | zero => simp at q; subst q; rfl
      | succ j => simpa using h2 j s (by simpa using q)
    · cases q
  · cases q
section
variable {G : Nat → D}
theorem Yc9 {hd : List Value} {h : List Ob} {p : Nat → Bool} {w : World} {xs : List (List D)} {l : List ByteArray} {sep : ByteArray} {u : Value} (q : sRows xs = some l) (hr : rd hd h (only p w) (.sl 1 xs) u) (h1 : l.length ≤ 1000) (h2 : (joinS l sep).length ≤ 1000000) :
 Calls Z3 102 #[u, .string sep] w fun e w' => e = .returned (.string ⟨(joinS l sep).toArray⟩) ∧ Below w.heap.size w w' := by
 obtain ⟨hl, hs⟩ := sRows_spec xs l q
 rw [rd] at hr
 obtain ⟨a, cap, rfl, ⟨g1, g2⟩, g3, g4⟩ := hr
 rw [← hl]
 by_cases h0 : l.length = 0
 · have e := List.length_eq_zero_iff.1 h0
   subst e
   exact (Any.strings_Join_none lays156 extra156 a cap sep w).mono fun e w' ⟨h1, h2⟩ => ⟨h1, h2 ▸ Below.refl _ _⟩
 have key : ∀ (j : Nat) s, l[j]? = some s → ∃ b o, a = some ⟨b, o, none⟩ ∧ w.cell? ⟨b, o + j, none⟩ = some (.string s) := fun j s hj => by
  obtain ⟨_, b, o, e, k⟩ := (Wv 1 a xs 0).1 g4 j _ (hs j s hj)
  obtain ⟨v, hv, hvv⟩ := (Vq _ _ _).1 k 0 _ rfl
  rw [rd] at hvv; subst hvv
  rw [Ua] at hv
  split at hv
  · refine ⟨b, o, e, ?_⟩
    rw [← hv]; congr 2; omega
  · cases hv
 obtain ⟨b, o, rfl, hb⟩ := key 0 l[0] (List.getElem?_eq_getElem (by omega))
 exact Any.strings_Join lays156 extra156 b o cap l sep w (fun j x hx => by
  obtain ⟨b', o', e, k⟩ := key j x hx
  cases e; exact k) (World.block_lt_of_cell? w _ hb) (by omega) (by omega) (by show (joinS l sep).length ≤ _; omega)
theorem joinJ_d {args : List D} {h : List Ob} {d : D} (q : joinJ args h = some d) : Does Z3 G 102 h args (fun h' r => h' = h ∧ r = d) := by
 unfold joinJ at q
 split at q
 · rename_i i n sep
   split at q
   · rename_i e k xs hi
     cases hk : Z4 k 1 && Z4 xs.length n
     · rw [hk] at q; cases q
     rw [hk] at q
     have q : joinF xs sep = some d := q
     have hk := Z2.1 hk
     have hk1 := Z1 hk.1
     have hk2 := Z1 hk.2
     subst hk1
     unfold joinF at q
     split at q
     · rename_i l hl
       cases hb : Z5 l.length 1000 && Z5 (joinS l sep).length 1000000
       · rw [hb] at q; cases q
       rw [hb] at q
       cases q
       have hb := Z2.1 hb
       intro w hd p vs o ha
       rw [rdL] at ha; obtain ⟨u, t, rfl, h3, ha⟩ := ha
       rw [rdL] at ha; obtain ⟨u2, t, rfl, h4, ha⟩ := ha
       rw [rdL] at ha; subst ha
       rw [rd] at h4; subst h4
       rw [rd.eq_def] at h3
       have hu := (h3.2.2 _ _ _ hi).2 hk2
       obtain ⟨cs, c1, c2, c3, c4⟩ := o.ob i _ u hi hu
       have hs : rd hd h (only (fun _ => true) w) (.sl 1 xs) u := buf_reads c1 (W3 (.refl _ _) (fun a v hc => by
        rw [Ua] at hc ⊢
        rw [if_pos rfl]
        split at hc
        · exact hc
        · cases hc) _ _ c2) c3 (fun _ _ => rfl)
       refine (Yc9 hl hs (Z0 hb.1) (Z0 hb.2)).mono ?_
       rintro e w' ⟨rfl, hb⟩
       obtain ⟨o', ev⟩ := Ok.below o hb
       exact ⟨_, hd, h, .v _, p, rfl, ⟨rfl, rfl⟩, o', by rw [rd], ev⟩
     · cases q
   · cases q
 · rename_i k xs sep
   cases hk : Z4 k 1
   · rw [hk] at q; cases q
   rw [hk] at q
   have q : joinF xs sep = some d := q
   have hk1 := Z1 hk
   subst hk1
   unfold joinF at q
   split at q
   · rename_i l hl
     cases hb : Z5 l.length 1000 && Z5 (joinS l sep).length 1000000
     · rw [hb] at q; cases q
     rw [hb] at q
     cases q
     have hb := Z2.1 hb
     refine Yj8 (fun w hd h p vs ha => ?_) h
     rw [rdL] at ha; obtain ⟨u, t, rfl, h3, ha⟩ := ha
     rw [rdL] at ha; obtain ⟨u2, t, rfl, h4, ha⟩ := ha
     rw [rdL] at ha; subst ha
     rw [rd] at h4; subst h4
     exact Yc9 hl h3 (Z0 hb.1) (Z0 hb.2)
   · cases q
 · cases q
end
section
variable {P : Program} {G : Nat → D}
noncomputable def callJ (P : Program) (G : Nat → D) (cx jx : FuncId) (jn : List D → List Ob → Option D) (K : Nat) (k : Nat) : Cal := @Nat.rec (fun _ => Cal) (fun _ _ _ => none) (fun _ cal => fun f args h => bc (Z4 f jx) (@Option.rec D (fun _ => Option (List Ob × D)) none (fun d => some (h, d)) (jn args h)) (callBK P G cx K cal f args h)) k
theorem callJ_ok {cx jx : FuncId} {jn : List D → List Ob → Option D} (hG : ∀ g, low 0 (G g)) (hm : P.follows .mixedOrders = true) (hx : CmpX P cx) (he : entB P jx = true) (hj : ∀ args h d, jn args h = some d → Does P G jx h args (fun h' r => h' = h ∧ r = d)) (K : Nat) : ∀ k, Ya5 P G (callJ P G cx jx jn K k)
 | 0 => fun _ _ _ _ _ q => by cases q
 | k + 1 => fun f args h h' r q => by
  have q : bc (Z4 f jx) (@Option.rec D (fun _ => Option (List Ob × D)) none (fun d => some (h, d)) (jn args h)) (callBK P G cx K (callJ P G cx jx jn K k) f args h) = some (h', r) := q
  rw [Vj] at q
  cases hb : Z4 f jx
  · rw [hb] at q
    exact callBK_ok hG hm hx K (callJ_ok hG hm hx he hj K k) f args h h' r q
  · rw [hb] at q
    rw [bqT hb]
    cases hd : jn args h with
    | none => rw [hd] at q; cases q
    | some d =>
     rw [hd] at q
     cases q
     exact .inl ⟨he, hj _ _ _ hd⟩
theorem does_runJ {cx jx : FuncId} {jn : List D → List Ob → Option D} (hG : ∀ g, low 0 (G g)) (hm : P.follows .mixedOrders = true) (hx : CmpX P cx) (hje : entB P jx = true) (hj : ∀ args h d, jn args h = some d → Does P G jx h args (fun h' r => h' = h ∧ r = d)) {f : FuncId} (he : entB P f = true) {K k : Nat} {x : Value} (q : callJ P G cx jx jn K k f [] [] = some ([], .v x)) (h : List Ob) : Does P G f h [] (fun h' r => h' = h ∧ r = .v x) := by
 have D1 : Does P G f [] [] (fun h1 r1 => h1 = [] ∧ r1 = .v x) := by
  rcases callJ_ok hG hm hx hje hj K k f [] [] [] (.v x) q with ⟨_, h1⟩ | ⟨h1, _⟩
  · exact h1
  · rw [he] at h1; cases h1
 have L : Lies (fun i => i) [] h := ⟨fun i ob q => by simp at q, fun i j q => by simp at q, fun ob q => by simp at q⟩
 refine (Does.frame (args := []) (K1 := fun h1 r1 => h1 = [] ∧ r1 = .v x) hG L (by rw [lowL]; trivial) ?_ D1).mono ?_
 · rintro _ _ ⟨rfl, _⟩
   exact ⟨fun i j hi => by simp at hi, fun j _ hj => by simp at hj⟩
 · rintro _ _ ⟨_, _, ⟨rfl, rfl⟩, rfl, rfl⟩
   exact ⟨rfl, by rw [ren]⟩
end
end
section
def G0 : Nat → D := fun _ => .any
theorem G0_low : ∀ g, low 0 (G0 g) := fun g => by unfold G0; rw [low]; trivial
theorem mixdB : Z3.follows .mixedOrders = true := by kernel_rfl
theorem awake_run : callJ Z3 G0 158 102 joinJ 100000 100 14 [] [] = some ([], .v (.bool true)) := by kernel_rfl
theorem awake0 (h : List Ob) : Does Z3 G0 14 h [] (fun h' r => h' = h ∧ r = .v (.bool true)) := does_runJ G0_low mixdB cmpX (by kernel_rfl) (fun _ _ _ q => joinJ_d q) (by kernel_rfl) awake_run h
theorem ok0 (w : World) : Ok G0 w [] [] (fun k => decide (k < w.heap.size)) :=
 ⟨rfl, fun i ob u q => by simp at q, fun i j oi oj ui uj b q => by simp at q, fun g => by unfold G0; rw [rd]; trivial, fun g ds q => by cases q⟩
end
end Go.Proofs.YtmdjnaobllajmaaGreatDoor
