/-
  What the statements of the chapter share, part 02: VOwn, VFr, DD, D1, D2.
-/
import Derived.Test.YtbhkcbidcfofiaaGreatY01
import Derived.Lib.AppendStr
import Derived.Maps.AppendAt
set_option linter.unusedVariables false
set_option linter.unusedSimpArgs false
set_option maxRecDepth 100000
set_option maxHeartbeats 8000000
namespace Go.Proofs.YtbhkcbidcfofiaaGreat
open _root_.Array renaming getElem?_eq_some_iff → Z6
open _root_.List renaming getElem?_append_left → Z1, getElem?_set_ne → Z2, getElem?_eq_some_iff → Z3, eq_nil_of_length_eq_zero → Z5, getElem?_mapIdx → Z8, getElem?_append_right → Z9
open _root_.Nat renaming le_refl → Z0, le_trans → Z4, lt_of_lt_of_le → Z7, le_succ → Za, succ_mul → Zb
open Go.RowKit
section
def Ext (W : World) : Type := {u : World // Below W.heap.size W u}
instance extNonempty (W : World) : Nonempty (Ext W) := ⟨⟨W, Below.refl _ _⟩⟩
theorem Ext.cell {W : World} (x : Ext W) {p : Addr} {v : Value} (h : W.cell? p = some v) : x.1.cell? p = some v := (x.2.cell (World.block_lt_of_cell? W _ h)).trans h
def Box (W : World) (b : Nat) (cs : Array Value) : Prop := ∀ (i : Nat) q, cs[i]? = some q → W.cell? ⟨b, i, none⟩ = some q
theorem Box.ext {W : World} {b : Nat} {cs : Array Value} (h : Box W b cs) (x : Ext W) : Box x.1 b cs := fun i q hq => x.cell (h i q hq)
theorem Box.below {W W' : World} {b : Nat} {cs : Array Value} (h : Box W b cs) (hb : Below W.heap.size W W') : Box W' b cs := h.ext ⟨W', hb⟩
theorem Box.alloc {W : World} {b : Nat} {cs : Array Value} (h : Box W b cs) (O : Obj) : Box (W.alloc O) b cs := h.below ((Below.refl _ _).alloc (Z0 _) O)
def Src (w : World) (sz : Nat) (u : Value) (m : Nat) (news : List Value) : Prop :=
 ∃ ax c, u = .slice ax m c ∧ news.length = m * sz ∧ (ax = none → m = 0 ∧ c = 0) ∧ (∀ ad, ax = some ad → ∀ (j : Nat) q, news[j]? = some q → w.cell? (ad.add j) = some q) ∧ ∀ q ∈ news, q.oneCell' = true
theorem V7 (b o j : Nat) : (⟨b, o, none⟩ : Addr).add j = ⟨b, o + j, none⟩ := by unfold Addr.add; split <;> simp_all
theorem Jb {w : World} {base E size : Nat} {v : Value} {n : Nat} {xs : List Value} (h : w.ownsRow base E size v n xs) : ∃ a cap, v = .slice a n cap := by
 rcases h.2 with ⟨rfl, hn⟩ | ⟨g, cap, cur, rfl, _⟩
 · subst hn; exact ⟨none, 0, rfl⟩
 · exact ⟨_, cap, rfl⟩
theorem owns_made {w : World} {base E sz : Nat} {g : Nat} (cur : Array Value) (n : Nat) (hg : w.heap[g]? = some (.cells cur E (0, 0))) (hb : base ≤ g) (hn : cur.size = n * sz) (hm : n ≤ maxLen) :
 w.ownsRow base E sz (.slice (some ⟨g, 0, none⟩) n n) n cur.toList :=
 ⟨by simpa using hn, .inr ⟨g, n, cur, rfl, hb, hg, Z0 _, hm, hn, by rw [← hn, ← Array.length_toList, List.take_length]⟩⟩
theorem Ym6 {w w' : World} {base E size : Nat} {v : Value} {n : Nat} {xs : List Value} (h : w.ownsRow base E size v n xs) (hk : ∀ g, v.ownBlock = some g → w'.heap[g]? = w.heap[g]?) : w'.ownsRow base E size v n xs := by
 refine ⟨h.1, ?_⟩
 rcases h.2 with hn | ⟨g, cap, cur, rfl, hb, hgg, rest⟩
 · exact .inl hn
 · exact .inr ⟨g, cap, cur, rfl, hb, (hk g rfl).trans hgg, rest⟩
def cutA (b o cap k sz : Nat) : Option Addr := if cap = k then some ⟨b, o, none⟩ else some ⟨b, o + k * sz, none⟩
structure Appd (w w' : World) (base e size : Nat) (v v' : Value) (N : Nat) (L : List Value) : Prop where
 own : w'.ownsRow base e size v' N L
 grown : w.grownBy w' v.ownBlock
 at_ : v'.ownBlock = v.ownBlock ∨ v'.ownBlock = some w.heap.size
section
variable {P : Program} {w : World}
theorem Ye9 {base : Nat} {t ty e : TypeId} {i : TypeInfo} {z : Value} {size bytes : Nat} (ht : P.underlying t = some (.slice e)) (hi : P.info? e = some i) (hz : i.zero = some z)
 (hsize : i.size = size) (hby : i.bytes = bytes) (hzs : z.cells.size = size) (hsz : 0 < size) {v : Value} {n : Nat} {xs : List Value} (hown : w.ownsRow base e size v n xs)
 {u : Value} {m : Nat} {news : List Value} (hs : Src w size u m news) (h63 : n + m ≤ maxLen) (hbytes : (n + m) * bytes ≤ 140737488355328) (hbase : base ≤ w.heap.size) :
 ∃ v' w', (Builtin.append_ #[t, t] ty #[v, u]).run P w = .ok v' w' ∧ Appd w w' base e size v v' (n + m) (xs ++ news) := by
 obtain ⟨ax, c, rfl, hl, hnone, hnews, h1⟩ := hs
 cases ax with
 | some ad =>
   obtain ⟨v', w', hr, h2, h3, _, h5⟩ := run_append_own_at (P := P) w base t ty e i z size bytes ht hi hz hsize hby hzs hsz v n xs hown ad m c news hl (hnews ad rfl) h1 h63 hbytes hbase
   exact ⟨v', w', hr, h2, h3, h5⟩
 | none =>
   obtain ⟨rfl, rfl⟩ := hnone rfl
   have hn : news = [] := Z5 (by simpa using hl)
   subst hn
   obtain ⟨a', cap', rfl⟩ := Jb hown
   have hrun := run_append_owned_none (P := P) (w := w) base t ty e i size ht hi _ n xs hown
   exact ⟨_, w, hrun, by simpa using hown, ⟨rfl, rfl, rfl, Z0 _, fun _ _ _ => rfl⟩, .inl rfl⟩
theorem Ye8 {base : Nat} {t u ty e : TypeId} {i : TypeInfo} (ht : P.underlying t = some (.slice e)) (hu : P.underlying u = some .string) (hi : P.info? e = some i) (hz : i.zero = some (.int .u8 0))
 (hsize : i.size = 1) (hby : i.bytes = 1) {v : Value} {n : Nat} {xs : List Value} (hown : w.ownsRow base e 1 v n xs) (s : ByteArray)
 (h63 : n + s.size ≤ maxLen) (hbytes : n + s.size ≤ 140737488355328) (hbase : base ≤ w.heap.size) :
 ∃ v' w', (Builtin.append_ #[t, u] ty #[v, .string s]).run P w = .ok v' w' ∧ Appd w w' base e 1 v v' (n + s.size) (xs ++ Lib.strCells s) := by
 obtain ⟨v', w', hr, h2, h3, h4⟩ := Lib.run_append_own_string (P := P) w base t u ty e i ht hu hi hz hsize hby v n xs hown s h63 hbytes hbase
 refine ⟨v', w', hr, h2, h3, ?_⟩
 have hsmall : n + s.size ≤ 9223372036854775807 := by simp only [maxLen] at h63; omega
 rcases hown.2 with ⟨rfl, rfl⟩ | ⟨g, cap, cur, rfl, hbg, hg, hnc, hcm, hcs, htake⟩
 · by_cases hm : s.size = 0
   · rw [h4.2 ⟨rfl, hm⟩]; exact .inl rfl
   · have hr2 := run_append_nil_string (P := P) w t u ty e i (.int .u8 0) ht hu hi hz s (by omega) (by omega) (by rw [hby]; omega)
     rw [hr2] at hr
     injection hr with hr _
     rw [← hr]
     exact .inr rfl
 · by_cases hroom : n + s.size ≤ cap
   · have hcs' : cur.size = cap := by simpa using hcs
     have hr2 := Lib.run_append_room_string (P := P) w t u ty e i ht hu hi hsize g n cap cur hg s hroom (by omega)
     rw [hr2] at hr
     injection hr with hr _
     rw [← hr]
     exact .inl rfl
   · have holds : ∀ j u, xs[j]? = some u → w.cell? ((⟨g, 0, none⟩ : Addr).add j) = some u := hown.cells (g := g) rfl
     have hxl : xs.length = n := by simpa using hown.1
     have hr2 := Lib.run_append_grow_string (P := P) w t u ty e i (.int .u8 0) ht hu hi hz ⟨g, 0, none⟩ n cap xs (by rw [hsize]; simpa using hxl) holds s (by omega) (by omega) (by rw [hby]; exact growslice_fits (by omega) (by omega))
     rw [hr2] at hr
     injection hr with hr _
     rw [← hr]
     exact .inr rfl
end
end
section
def Sub (w w' : World) : Prop := ∀ p v, w.cell? p = some v → w'.cell? p = some v
theorem Sub.trans {a b c : World} (h : Sub a b) (k : Sub b c) : Sub a c := fun p v q => k p v (h p v q)
theorem CellsAt.mono {w w' : World} {b o : Nat} {cs : List Value} (h : CellsAt w b o cs) (hs : Sub w w') : CellsAt w' b o cs := fun j hj => hs _ _ (h j hj)
theorem SlRd.mono {α : Type} {w w' : World} {sz : Nat} {R R' : α → List Value → Prop} {v : Value} {l : List α} (h : SlRd w sz R v l) (hs : Sub w w') (hR : ∀ x cs, x ∈ l → R x cs → R' x cs) : SlRd w' sz R' v l := by
 obtain ⟨a, cap, hv, hn, hm, hc⟩ := h
 refine ⟨a, cap, hv, hn, hm, fun i hi => ?_⟩
 obtain ⟨b, o, cs, ha, hl, hcs, hr⟩ := hc i hi
 exact ⟨b, o, cs, ha, hl, hcs.mono hs, hR _ _ (List.getElem_mem hi) hr⟩
theorem Strs.mono {w w' : World} {v : Value} {l : List ByteArray} (h : Strs w v l) (hs : Sub w w') : Strs w' v l := SlRd.mono h hs fun _ _ _ h => h
theorem ruleRd.mono {w w' : World} {r : Rl} {cs : List Value} (h : ruleRd w r cs) (hs : Sub w w') : ruleRd w' r cs := by
 obtain ⟨v, hv, hc, hm⟩ := h
 exact ⟨v, hv, hc.mono hs, hm⟩
theorem entryRd.mono {w w' : World} {r : En} {cs : List Value} (h : entryRd w r cs) (hs : Sub w w') : entryRd w' r cs := by
 obtain ⟨v, hv, hc, hm⟩ := h
 exact ⟨v, hv, SlRd.mono hc hs fun _ _ _ h => h, hm⟩
theorem latRd.mono {w w' : World} (hs : Sub w w') : ∀ (l : Lat) (cs : List Value), latRd w l cs → latRd w' l cs
 | .mk k lo hi ns ps rs, cs, h => by
   obtain ⟨vn, vp, vr, h1, h2, h3, h4, h5⟩ := (Zq1 _ _ _).1 h
   refine (Zq1 _ _ _).2 ⟨vn, vp, vr, h1, h2, h3.mono hs, ?_, SlRd.mono h5 hs fun _ _ _ h => h.mono hs⟩
   exact SlRd.mono h4 hs fun x cs hx hr => latRd.mono hs x cs hr
 termination_by l => SizeOf.sizeOf l
 decreasing_by
  have := List.sizeOf_lt_of_mem hx
  simp only [Lat.parts] at this
  simp only [Lat.mk.sizeOf_spec]
  omega
theorem valRd.mono {w w' : World} (hs : Sub w w') : ∀ (l : Val) (cs : List Value), valRd w l cs → valRd w' l cs
 | .mk n ns ps es, cs, h => by
   obtain ⟨vn, vp, ve, h1, h2, h3, h4, h5⟩ := (Zn4 _ _ _).1 h
   refine (Zn4 _ _ _).2 ⟨vn, vp, ve, h1, h2, h3.mono hs, ?_, SlRd.mono h5 hs fun _ _ _ h => h.mono hs⟩
   exact SlRd.mono h4 hs fun x cs hx hr => valRd.mono hs x cs hr
 termination_by l => SizeOf.sizeOf l
 decreasing_by
  have := List.sizeOf_lt_of_mem hx
  simp only [Val.parts] at this
  simp only [Val.mk.sizeOf_spec]
  omega
def only (S : Nat → Bool) (w : World) : World := { w with heap := w.heap.mapIdx fun i o => if S i then o else .cells #[] 0 (0, 0) }
theorem Zg1 (S : Nat → Bool) (w : World) (p : Addr) : (only S w).cell? p = if S p.block then w.cell? p else none := by
 unfold World.cell? only
 simp only [Array.getElem?_mapIdx]
 cases h : w.heap[p.block]? with
 | none => simp
 | some o =>
   cases hs : S p.block
   · simp [hs]
   · simp [hs]
theorem Ym7 (S : Nat → Bool) (w : World) : Sub (only S w) w := fun p v h => by
  rw [Zg1] at h
  split at h
  · exact h
  · cases h
theorem only_keep {S S' : Nat → Bool} {w w' : World} (h : ∀ b, S b = true → b < w.heap.size → S' b = true ∧ w'.heap[b]? = w.heap[b]?) : Sub (only S w) (only S' w') := fun p v hp => by
  rw [Zg1] at hp ⊢
  cases hs : S p.block
  · rw [hs] at hp; cases hp
  · rw [hs] at hp
    simp only [if_true] at hp
    obtain ⟨h1, h2⟩ := h p.block hs (World.block_lt_of_cell? w p hp)
    rw [h1]
    simp only [if_true]
    rw [World.cell?_of_block (w := w) h2]
    exact hp
def from_ (n : Nat) : Nat → Bool := fun b => decide (n ≤ b)
def butOwn (n : Nat) (v : Value) : Nat → Bool := fun b => decide (n ≤ b) && decide (v.ownBlock ≠ some b)
structure Rws {α : Type} (w : World) (base E sz : Nat) (R : World → α → List Value → Prop) (v : Value) (l : List α) (css : List (List Value)) : Prop where
 own : w.ownsRow base E sz v l.length css.flatten
 len : css.length = l.length
 each : ∀ cs ∈ css, cs.length = sz
 read : ∀ i (h : i < l.length) (h' : i < css.length), R (only (butOwn base v) w) l[i] css[i]
end
section
theorem Zx4 {p : Program} {w : World} {b : Addr} {u : TypeId} {a : Addr} {v : Value} {at_ : Bool} {w' : World} {l : List Addr} (h : w.viewStore p b u a v at_ = .ok (w', l)) : w'.drawn = w.drawn := by
 unfold World.viewStore at h
 simp only [bind, Except.bind, pure, Except.pure] at h
 repeat' split at h
 all_goals first | (cases h; done) | (cases h; rfl) | skip
theorem Yf2 {p : Program} {w : World} {a : Addr} {v : Value} {at_ : Bool} {w' : World} {l : List Addr} (h : w.farStore p a v at_ = .ok (w', l)) : w'.drawn = w.drawn := by
 unfold World.farStore at h
 split at h
 · split at h
   · rename_i r hr; cases h; exact Zx4 hr
   · cases h
 · cases h
theorem Ye2 {α : Type} : ∀ (x : Ask α) (w : World), w.drawn ≤ (w.ask x).2.drawn
 | .done a, w => by rw [World.ask]; exact Z0 _
 | .ask what range k, w => by
  rw [World.ask]
  split
  · exact Ye2 _ w
  · exact Z4 (Za _) (Ye2 (k _) { w with drawn := w.drawn + 1 })
theorem sys_drawn (w : World) (c : Sys) : w.drawn ≤ (w.sys c).2.drawn := by
 have := Ye2 (Kernel.perform c w.os) w
 unfold World.sys
 split
 · exact Z0 _
 · rename_i h; rw [h] at this; exact this
def Result.world {α : Type} : Result α → World
 | .ok _ w => w
 | .halt _ w => w
theorem Xz {P : Program} {α : Type} : ∀ (m : Sem α) (w : World), w.drawn ≤ (Result.world (m.run P w)).drawn
 | .pure a, w => Z0 _
 | .load m a k, w => by
  rw [Sem.run]
  split
  · exact Xz _ w
  · split
    · exact Xz _ w
    · exact Z0 _
 | .store m a v k, w => by
  have key : w.drawn ≤ (Result.world (match w.cell? a with
    | some _ => if w.frozen? a then .halt (.unsupported (.unsafePointer "a write to bytes that a string shares")) w else k.run P (w.setCell a v)
    | none => match w.farStore P a v (m == .atomic) with
      | .ok (w, _) => k.run P w
      | .error h => .halt h w)).drawn := by
   split
   · split
     · exact Z0 _
     · exact Xz k (w.setCell a v)
   · split
     · rename_i h; exact Z4 (Nat.le_of_eq (Yf2 h).symm) (Xz k _)
     · exact Z0 _
  cases v <;> first | exact key | exact Z0 _
 | .new o k, w => by rw [Sem.run]; exact Xz (k _) { w with heap := w.heap.push o }
 | .shape r k, w => by rw [Sem.run]; exact Xz _ w
 | .freeze a n k, w => by
  rw [Sem.run]
  refine Z4 (Nat.le_of_eq ?_) (Xz k (w.freeze a n))
  unfold World.freeze; split <;> rfl
 | .frozen a k, w => by rw [Sem.run]; exact Xz _ w
 | .getObj r k, w => by
  rw [Sem.run]
  split
  · exact Z0 _
  · exact Xz _ w
  · exact Z0 _
 | .setObj r o k, w => by
  rw [Sem.run]
  split
  · exact Z0 _
  · exact Xz k { w with heap := w.heap.setIfInBounds r o }
  · exact Z0 _
 | .choose q k, w => by
  rw [Sem.run]
  split
  · exact Xz _ w
  · exact Z4 (Za _) (Xz (k _) { w with drawn := w.drawn + 1 })
 | .sys c k, w => by rw [Sem.run]; exact Z4 (sys_drawn w c) (Xz _ _)
 | .program k, w => by rw [Sem.run]; exact Xz _ w
 | .mark m k, w => by rw [Sem.run]; exact Xz _ w
 | .halt h, w => Z0 _
theorem run_drawn_ok {P : Program} {α : Type} {m : Sem α} {w w' : World} {x : α} (h : m.run P w = .ok x w') : w.drawn ≤ w'.drawn := by
 have := Xz (P := P) m w
 rw [h] at this; exact this
end
section
inductive D where
 | any
 | v (x : Value)
 | sl (k : Nat) (xs : List (List D))
 | agg (ds : List D)
 | tup (ds : List D)
 | rp (ds : List D)
 | ptr (i o : Nat)
 | buf (i n : Nat)
 | bp (i n r j : Nat)
 | win (i n a b : Nat)
 | arr (i o n c k : Nat)
 | mp (i : Nat)
 | e0
 | fn (f : FuncId) (ds : List D)
instance : Inhabited D := ⟨.any⟩
inductive Ob where
 | cells (ds : List D)
 | buf (e : TypeId) (k : Nat) (xs : List (List D))
 | map (es : List (Value × Nat × D)) (clock : Nat)
 | iter (m since : Nat) (seen : List Nat) (last : Nat)
 | hole
 | dead
def Ob.isHole : Ob → Bool
 | .hole => true
 | _ => false
def used (h : List Ob) (i : Nat) : Prop := ∃ ob, h[i]? = some ob ∧ ob.isHole = false
theorem used.lt {h : List Ob} {i : Nat} (q : used h i) : i < h.length := (Z3.1 q.choose_spec.1).1
theorem used.of {h : List Ob} {i : Nat} {ob : Ob} (q : h[i]? = some ob) (k : ob.isHole = false) : used h i := ⟨ob, q, k⟩
mutual
def rd (hd : List Value) (h : List Ob) (W : World) : D → Value → Prop
 | .any, _ => True
 | .v x, u => u = x
 | .sl k xs, u => ∃ a cap, u = .slice a xs.length cap ∧ ((a = none → cap = 0) ∧ xs.length ≤ cap) ∧ cap ≤ maxLen ∧ W5 hd h W k a 0 xs
 | .agg ds, u => ∃ cs, u = .agg cs ∧ rdL hd h W ds cs.toList
 | .tup ds, u => ∃ cs, u = .tuple cs ∧ rdL hd h W ds cs.toList
 | .rp ds, u => ∃ b o, u = .pointer (some ⟨b, o, none⟩) ∧ rdAt hd h W b o ds
 | .ptr i o, u => ∃ B, hd[i]? = some (.pointer (some ⟨B, 0, none⟩)) ∧ u = .pointer (some ⟨B, o, none⟩)
 | .buf i n, u => (∃ a c, u = .slice a n c) ∧ used h i ∧ ∀ e k xs, h[i]? = some (.buf e k xs) → n ≤ xs.length ∧ (xs.length = n → hd[i]? = some u)
 | .bp i n r j, u => (∃ a, u = .pointer (some a)) ∧ used h i ∧ ∀ e k xs, h[i]? = some (.buf e k xs) → n ≤ xs.length ∧ (xs.length = n → ∃ B cap, hd[i]? = some (.slice (some ⟨B, 0, none⟩) n cap) ∧ u = .pointer (some ⟨B, r * k + j, none⟩))
 | .win i n a b, u => (∃ ad c, u = .slice ad (b - a) c) ∧ used h i ∧ ∀ e k xs, h[i]? = some (.buf e k xs) → n ≤ xs.length ∧ (xs.length = n → a ≤ b ∧ b ≤ n ∧ ((u = .slice none 0 0 ∧ n = 0) ∨ ∃ B cap q, hd[i]? = some (.slice (some ⟨B, 0, none⟩) n cap) ∧ u = .slice (some ⟨B, q, none⟩) (b - a) (cap - a) ∧ (a < cap ∨ a = 0 → q = a * k)))
 | .arr i o n c _, u => ∃ B, hd[i]? = some (.pointer (some ⟨B, 0, none⟩)) ∧ u = .slice (some ⟨B, o, none⟩) n c
 | .mp i, u => ∃ r, hd[i]? = some (.map (some r)) ∧ u = .map (some r)
 | .e0, u => ∃ a, u = .slice a 0 0
 | .fn f ds, u => ∃ cs, u = .func (.func f) #[] cs ∧ rdL hd h W ds cs.toList
def rdL (hd : List Value) (h : List Ob) (W : World) : List D → List Value → Prop
 | [], us => us = []
 | d :: ds, us => ∃ u t, us = u :: t ∧ rd hd h W d u ∧ rdL hd h W ds t
def rdAt (hd : List Value) (h : List Ob) (W : World) (b o : Nat) : List D → Prop
 | [] => True
 | d :: ds => (∃ u, W.cell? ⟨b, o, none⟩ = some u ∧ rd hd h W d u) ∧ rdAt hd h W b (o + 1) ds
def W5 (hd : List Value) (h : List Ob) (W : World) (k : Nat) (a : Option Addr) (o : Nat) : List (List D) → Prop
 | [] => True
 | ds :: t => (∃ b q, a = some ⟨b, q, none⟩ ∧ rdAt hd h W b (q + o) ds) ∧ ds.length = k ∧ W5 hd h W k a (o + k) t
end
section
variable {hd : List Value} {h : List Ob} {W : World}
theorem Xg : ∀ (ds : List D) (us : List Value), rdL hd h W ds us ↔ ds.length = us.length ∧ ∀ (j : Nat) d, ds[j]? = some d → ∃ u, us[j]? = some u ∧ rd hd h W d u
 | [], us => by rw [rdL]; constructor
                · rintro rfl; exact ⟨rfl, fun j d hj => by simp at hj⟩
                · rintro ⟨hl, _⟩; exact Z5 hl.symm
 | d :: ds, us => by
   rw [rdL]
   constructor
   · rintro ⟨u, t, rfl, hu, ht⟩
     obtain ⟨hl, hj⟩ := (Xg ds t).1 ht
     refine ⟨by simp [hl], fun j d' hd' => ?_⟩
     cases j with
     | zero => simp at hd'; subst hd'; exact ⟨u, rfl, hu⟩
     | succ j => simpa using hj j d' (by simpa using hd')
   · rintro ⟨hl, hj⟩
     cases us with
     | nil => simp at hl
     | cons u t =>
       refine ⟨u, t, rfl, ?_, (Xg ds t).2 ⟨by simpa using hl, fun j d' hd' => by simpa using hj (j + 1) d' (by simpa using hd')⟩⟩
       obtain ⟨u', hu', hr⟩ := hj 0 d rfl
       simp at hu'; subst hu'; exact hr
theorem U3 : ∀ (ds : List D) (b o : Nat), rdAt hd h W b o ds ↔ ∀ (j : Nat) d, ds[j]? = some d → ∃ u, W.cell? ⟨b, o + j, none⟩ = some u ∧ rd hd h W d u
 | [], b, o => by rw [rdAt]; exact ⟨fun _ j d hj => by simp at hj, fun _ => trivial⟩
 | d :: ds, b, o => by
   rw [rdAt, U3 ds b (o + 1)]
   constructor
   · rintro ⟨h0, hj⟩ j d' hd'
     cases j with
     | zero => simp at hd'; subst hd'; exact h0
     | succ j => rw [show o + (j + 1) = o + 1 + j by omega]; exact hj j d' (by simpa using hd')
   · intro hj
     refine ⟨hj 0 d rfl, fun j d' hd' => ?_⟩
     rw [show o + 1 + j = o + (j + 1) by omega]
     exact hj (j + 1) d' (by simpa using hd')
theorem Vf (k : Nat) (a : Option Addr) : ∀ (xs : List (List D)) (o : Nat), W5 hd h W k a o xs ↔ ∀ (i : Nat) row, xs[i]? = some row → row.length = k ∧ ∃ b q, a = some ⟨b, q, none⟩ ∧ rdAt hd h W b (q + (o + i * k)) row
 | [], o => by rw [W5]; exact ⟨fun _ j d hj => by simp at hj, fun _ => trivial⟩
 | ds :: t, o => by
   rw [W5, Vf k a t (o + k)]
   constructor
   · rintro ⟨h0, hk, hj⟩ i row hr
     cases i with
     | zero => simp at hr; subst hr; simpa using ⟨hk, h0⟩
     | succ i => rw [show o + (i + 1) * k = o + k + i * k by rw [Zb]; omega]; exact hj i row (by simpa using hr)
   · intro hj
     refine ⟨by simpa using (hj 0 ds rfl).2, (hj 0 ds rfl).1, fun i row hr => ?_⟩
     rw [show o + k + i * k = o + (i + 1) * k by rw [Zb]; omega]
     exact hj (i + 1) row (by simpa using hr)
end
structure Carry (hd : List Value) (h : List Ob) (hd' : List Value) (h' : List Ob) : Prop where
 len : h.length ≤ h'.length
 ptr : ∀ (i : Nat) B, hd[i]? = some (.pointer (some ⟨B, 0, none⟩)) → hd'[i]? = some (.pointer (some ⟨B, 0, none⟩))
 mp : ∀ (i r : Nat), hd[i]? = some (.map (some r)) → hd'[i]? = some (.map (some r))
 usd : ∀ i, used h i → used h' i
 buf : ∀ (i : Nat) e k xs', used h i → h'[i]? = some (.buf e k xs') → ∃ e0 xs, h[i]? = some (.buf e0 k xs) ∧ xs.length ≤ xs'.length ∧ (xs.length = xs'.length → hd'[i]? = hd[i]?)
theorem Carry.refl (hd : List Value) (h : List Ob) : Carry hd h hd h := ⟨Z0 _, fun _ _ h => h, fun _ _ h => h, fun _ h => h, fun i e k xs _ h => ⟨e, xs, h, Z0 _, fun _ => rfl⟩⟩
theorem Carry.trans {a b c : List Value} {x y z : List Ob} (h : Carry a x b y) (k : Carry b y c z) : Carry a x c z :=
 ⟨Z4 h.len k.len, fun i B q => k.ptr i B (h.ptr i B q), fun i r q => k.mp i r (h.mp i r q), fun i q => k.usd i (h.usd i q), fun i e kk xs hi hx => by
  obtain ⟨e1, xs1, h1, l1, c1⟩ := k.buf i e kk xs (h.usd i hi) hx
  obtain ⟨e0, xs0, h0, l0, c0⟩ := h.buf i e1 kk xs1 hi h1
  exact ⟨e0, xs0, h0, Z4 l0 l1, fun he => (c1 (by omega)).trans (c0 (by omega))⟩⟩
section
variable {hd hd' : List Value} {h h' : List Ob} {W W' : World}
mutual
theorem Zw1 (c : Carry hd h hd' h') (s : Sub W W') : ∀ (d : D) (u : Value), rd hd h W d u → rd hd' h' W' d u
 | .any, _, _ => by rw [rd]; trivial
 | .v x, u, q => by rw [rd] at q ⊢; exact q
 | .sl k xs, u, q => by
   rw [rd] at q ⊢
   obtain ⟨a, cap, h1, h2, h3, h4⟩ := q
   exact ⟨a, cap, h1, h2, h3, Zu4 c s k a xs 0 h4⟩
 | .agg ds, u, q => by
   rw [rd] at q ⊢
   obtain ⟨cs, h1, h2⟩ := q
   exact ⟨cs, h1, Xv c s ds _ h2⟩
 | .tup ds, u, q => by
   rw [rd] at q ⊢
   obtain ⟨cs, h1, h2⟩ := q
   exact ⟨cs, h1, Xv c s ds _ h2⟩
 | .rp ds, u, q => by
   rw [rd] at q ⊢
   obtain ⟨b, o, h1, h2⟩ := q
   exact ⟨b, o, h1, Zs4 c s ds b o h2⟩
 | .ptr i o, u, q => by
   rw [rd] at q ⊢
   obtain ⟨B, h1, h2⟩ := q
   exact ⟨B, c.ptr i B h1, h2⟩
 | .buf i n, u, q => by
   rw [rd] at q ⊢
   obtain ⟨h0, hi, h2⟩ := q
   refine ⟨h0, c.usd i hi, fun e k xs hx => ?_⟩
   obtain ⟨e0, xs0, hh0, l0, c0⟩ := c.buf i e k xs hi hx
   obtain ⟨h3, h4⟩ := h2 e0 k xs0 hh0
   exact ⟨Z4 h3 l0, fun he => (c0 (by omega)).trans (h4 (by omega))⟩
 | .bp i n r j, u, q => by
   rw [rd] at q ⊢
   obtain ⟨h0, hi, h2⟩ := q
   refine ⟨h0, c.usd i hi, fun e k xs hx => ?_⟩
   obtain ⟨e0, xs0, hh0, l0, c0⟩ := c.buf i e k xs hi hx
   obtain ⟨h3, h4⟩ := h2 e0 k xs0 hh0
   refine ⟨Z4 h3 l0, fun he => ?_⟩
   obtain ⟨B, cap, h5, h6⟩ := h4 (by omega)
   exact ⟨B, cap, (c0 (by omega)).trans h5, h6⟩
 | .win i n a b, u, q => by
   rw [rd] at q ⊢
   obtain ⟨h0, hi, h2⟩ := q
   refine ⟨h0, c.usd i hi, fun e k xs hx => ?_⟩
   obtain ⟨e0, xs0, hh0, l0, c0⟩ := c.buf i e k xs hi hx
   obtain ⟨h3, h4⟩ := h2 e0 k xs0 hh0
   refine ⟨Z4 h3 l0, fun he => ?_⟩
   obtain ⟨h5, h6, h7⟩ := h4 (by omega)
   refine ⟨h5, h6, h7.imp id ?_⟩
   rintro ⟨B, cap, qq, h8, h9⟩
   exact ⟨B, cap, qq, (c0 (by omega)).trans h8, h9⟩
 | .arr i o n cc kk, u, q => by
   rw [rd] at q ⊢
   obtain ⟨B, h1, h2⟩ := q
   exact ⟨B, c.ptr i B h1, h2⟩
 | .mp i, u, q => by
   rw [rd] at q ⊢
   obtain ⟨r, h1, h2⟩ := q
   exact ⟨r, c.mp i r h1, h2⟩
 | .e0, u, q => by rw [rd] at q ⊢; exact q
 | .fn f ds, u, q => by
   rw [rd] at q ⊢
   obtain ⟨cs, h1, h2⟩ := q
   exact ⟨cs, h1, Xv c s ds _ h2⟩
theorem Xv (c : Carry hd h hd' h') (s : Sub W W') : ∀ (ds : List D) (us : List Value), rdL hd h W ds us → rdL hd' h' W' ds us
 | [], _, q => by rw [rdL] at q ⊢; exact q
 | d :: ds, us, q => by
   rw [rdL] at q ⊢
   obtain ⟨u, t, h1, h2, h3⟩ := q
   exact ⟨u, t, h1, Zw1 c s d u h2, Xv c s ds t h3⟩
theorem Zs4 (c : Carry hd h hd' h') (s : Sub W W') : ∀ (ds : List D) (b o : Nat), rdAt hd h W b o ds → rdAt hd' h' W' b o ds
 | [], _, _, _ => by rw [rdAt]; trivial
 | d :: ds, b, o, q => by
   rw [rdAt] at q ⊢
   obtain ⟨⟨u, h1, h2⟩, h3⟩ := q
   exact ⟨⟨u, s _ _ h1, Zw1 c s d u h2⟩, Zs4 c s ds b (o + 1) h3⟩
theorem Zu4 (c : Carry hd h hd' h') (s : Sub W W') (k : Nat) (a : Option Addr) : ∀ (xs : List (List D)) (o : Nat), W5 hd h W k a o xs → W5 hd' h' W' k a o xs
 | [], _, _ => by rw [W5]; trivial
 | ds :: t, o, q => by
   rw [W5] at q ⊢
   obtain ⟨⟨b, r, h1, h2⟩, h3, h4⟩ := q
   exact ⟨⟨b, r, h1, Zs4 c s ds b (r + o) h2⟩, h3, Zu4 c s k a t (o + k) h4⟩
end
end
def blk : Value → Option Nat
 | .pointer (some a) => some a.block
 | .slice (some a) _ _ => some a.block
 | .map (some r) => some r
 | _ => none
def Ob.live : Ob → Bool
 | .dead | .hole => false
 | _ => true
def Own (hd : List Value) (h : List Ob) (b : Nat) : Prop := ∃ (i : Nat) (ob : Ob) (u : Value), h[i]? = some ob ∧ ob.live = true ∧ hd[i]? = some u ∧ blk u = some b
def obOk (w : World) (hd : List Value) (h : List Ob) (p : Nat → Bool) (u : Value) : Ob → Prop
 | .cells ds => ∃ B cs t, u = .pointer (some ⟨B, 0, none⟩) ∧ w.heap[B]? = some (.cells cs t (0, 0)) ∧ rdL hd h (only p w) ds cs.toList ∧ p B = false
 | .buf e k xs => ∃ cs, w.ownsRow 0 e k u xs.length cs ∧ rdL hd h (only p w) xs.flatten cs ∧ (∀ row ∈ xs, row.length = k) ∧ ∀ g, blk u = some g → p g = false
 | .map es clock => ∃ r arr, u = .map (some r) ∧ w.heap[r]? = some (.map arr clock) ∧ arr.toList.map (fun e => (e.key, e.born)) = es.map (fun e => (e.1, e.2.1)) ∧ rdL hd h (only p w) (es.map (·.2.2)) (arr.toList.map (·.val)) ∧ p r = false
 | .iter m since seen last => ∃ B r, u = .pointer (some ⟨B, 0, none⟩) ∧ w.heap[B]? = some (.mapIter (some r) since seen.toArray last) ∧ hd[m]? = some (.map (some r)) ∧ p B = false
 | .hole => u = .nilFunc
 | .dead => True
structure Ok (G : Nat → D) (w : World) (hd : List Value) (h : List Ob) (p : Nat → Bool) : Prop where
 len : hd.length = h.length
 ob : ∀ (i : Nat) ob u, h[i]? = some ob → hd[i]? = some u → obOk w hd h p u ob
 inj : ∀ (i j : Nat) oi oj ui uj b, h[i]? = some oi → h[j]? = some oj → oi.live = true → oj.live = true → hd[i]? = some ui → hd[j]? = some uj → blk ui = some b → blk uj = some b → i = j
 gl : ∀ g, rd hd h (only p w) (G g) (.pointer (some ⟨g, 0, none⟩))
 ex : ∀ g ds, G g = .rp ds → ∃ cs t fr, w.heap[g]? = some (.cells cs t fr) ∧ cs.size = ds.length ∧ p g = true
structure Evo (w : World) (hd : List Value) (h : List Ob) (p : Nat → Bool) (w' : World) (hd' : List Value) (h' : List Ob) (p' : Nat → Bool) : Prop where
 os : w'.os = w.os ∧ w.drawn ≤ w'.drawn
 tape : w'.tape = w.tape
 output : w'.output = w.output
 size : w.heap.size ≤ w'.heap.size
 keep : ∀ b, b < w.heap.size → ¬ Own hd h b → w'.heap[b]? = w.heap[b]?
 vis : ∀ b, b < w.heap.size → p b = true → p' b = true
 seen : ∀ b, b < w.heap.size → p' b = true → p b = true ∨ Own hd h b
 own : ∀ b, b < w.heap.size → Own hd' h' b → Own hd h b
 carry : Carry hd h hd' h'
theorem Evo.refl (w : World) (hd : List Value) (h : List Ob) (p : Nat → Bool) : Evo w hd h p w hd h p :=
 ⟨⟨rfl, Z0 _⟩, rfl, rfl, Z0 _, fun _ _ _ => rfl, fun _ _ h => h, fun _ _ h => .inl h, fun _ _ h => h, .refl _ _⟩
theorem Evo.trans {a b c : World} {ha hb hc : List Value} {x y z : List Ob} {p q r : Nat → Bool} (e : Evo a ha x p b hb y q) (f : Evo b hb y q c hc z r) : Evo a ha x p c hc z r :=
 ⟨⟨f.os.1.trans e.os.1, Z4 e.os.2 f.os.2⟩, f.tape.trans e.tape, f.output.trans e.output, Z4 e.size f.size,
  fun k hk hn => (f.keep k (Z7 hk e.size) fun ho => hn (e.own k hk ho)).trans (e.keep k hk hn),
  fun k hk hp => f.vis k (Z7 hk e.size) (e.vis k hk hp),
  fun k hk hp => (f.seen k (Z7 hk e.size) hp).elim (e.seen k hk) fun ho => .inr (e.own k hk ho),
  fun k hk ho => e.own k hk (f.own k (Z7 hk e.size) ho), e.carry.trans f.carry⟩
theorem Ok.own_hidden {G : Nat → D} {w : World} {hd : List Value} {h : List Ob} {p : Nat → Bool} (o : Ok G w hd h p) {b : Nat} (hb : Own hd h b) : p b = false := by
 obtain ⟨i, ob, u, h1, h2, h3, h4⟩ := hb
 have h5 := o.ob i ob u h1 h3
 cases ob with
 | dead => cases h2
 | cells ds =>
  obtain ⟨B, cs, t, rfl, _, _, h6⟩ := h5
  cases h4; exact h6
 | buf e k xs =>
  obtain ⟨cs, _, _, _, h6⟩ := h5
  exact h6 b h4
 | map es clock =>
  obtain ⟨r, arr, rfl, _, _, _, h6⟩ := h5
  cases h4; exact h6
 | iter m since seen last =>
  obtain ⟨B, r, rfl, _, _, h6⟩ := h5
  cases h4; exact h6
 | hole => cases h2
theorem Evo.sub {G : Nat → D} {w w' : World} {hd hd' : List Value} {h h' : List Ob} {p p' : Nat → Bool} (e : Evo w hd h p w' hd' h' p') (o : Ok G w hd h p) : Sub (only p w) (only p' w') :=
 only_keep fun b hb hl => ⟨e.vis b hl hb, e.keep b hl fun ho => by rw [o.own_hidden ho] at hb; cases hb⟩
theorem Evo.rd {G : Nat → D} {w w' : World} {hd hd' : List Value} {h h' : List Ob} {p p' : Nat → Bool} (e : Evo w hd h p w' hd' h' p') (o : Ok G w hd h p) {d : D} {u : Value} (q : rd hd h (only p w) d u) : rd hd' h' (only p' w') d u :=
 Zw1 e.carry (e.sub o) d u q
theorem Evo.rdL {G : Nat → D} {w w' : World} {hd hd' : List Value} {h h' : List Ob} {p p' : Nat → Bool} (e : Evo w hd h p w' hd' h' p') (o : Ok G w hd h p) {d : List D} {u : List Value} (q : rdL hd h (only p w) d u) : rdL hd' h' (only p' w') d u :=
 Xv e.carry (e.sub o) d u q
end
section
variable {G : Nat → D} {w w' : World} {hd hd' : List Value} {h h' : List Ob} {p p' : Nat → Bool}
theorem blk_own {u : Value} {g : Nat} (k : u.ownBlock = some g) : blk u = some g := by cases u <;> simp_all [Value.ownBlock, blk]; rename_i a _ _; cases a <;> simp_all
theorem obOk.move (e : Evo w hd h p w' hd' h' p') (o : Ok G w hd h p) {u : Value} {ob : Ob} (q : obOk w hd h p u ob) (same : ob.live = true → ∀ b, blk u = some b → w'.heap[b]? = w.heap[b]?) (hid' : ob.live = true → ∀ b, blk u = some b → p b = false → p' b = false) : obOk w' hd' h' p' u ob := by
 cases ob with
 | dead => trivial
 | cells ds =>
  obtain ⟨B, cs, t, rfl, h1, h2, h3⟩ := q
  exact ⟨B, cs, t, rfl, (same rfl B rfl).trans h1, e.rdL o h2, hid' rfl B rfl h3⟩
 | buf E k xs =>
  obtain ⟨cs, h1, h2, h3, h4⟩ := q
  exact ⟨cs, Ym6 h1 fun g hg => same rfl g (blk_own hg), e.rdL o h2, h3, fun g hg => hid' rfl g hg (h4 g hg)⟩
 | map es clock =>
  obtain ⟨r, arr, rfl, h1, h2, h3, h4⟩ := q
  exact ⟨r, arr, rfl, (same rfl r rfl).trans h1, h2, e.rdL o h3, hid' rfl r rfl h4⟩
 | iter m since seen last =>
  obtain ⟨B, r, rfl, h1, h2, h3⟩ := q
  exact ⟨B, r, rfl, (same rfl B rfl).trans h1, e.carry.mp m r h2, hid' rfl B rfl h3⟩
 | hole => exact q
theorem used.set {h : List Ob} {i j : Nat} {ob : Ob} (q : used h j) (k : ob.isHole = false) : used (h.set i ob) j := by
 obtain ⟨o, q1, q2⟩ := q
 by_cases hij : i = j
 · subst hij; exact ⟨ob, by rw [List.getElem?_set_self (Z3.1 q1).1], k⟩
 · exact ⟨o, by rw [Z2 hij]; exact q1, q2⟩
theorem used.app {h l : List Ob} {j : Nat} (q : used h j) : used (h ++ l) j := by
 obtain ⟨o, q1, q2⟩ := q
 exact ⟨o, by rw [Z1 (Z3.1 q1).1]; exact q1, q2⟩
theorem Zg6 (e : Evo w hd h p w' hd' h' p') (o : Ok G w hd h p) : ∀ g, rd hd' h' (only p' w') (G g) (.pointer (some ⟨g, 0, none⟩)) := fun g => e.rd o (o.gl g)
theorem Zg8 (e : Evo w hd h p w' hd' h' p') (o : Ok G w hd h p) : ∀ g ds, G g = .rp ds → ∃ cs t fr, w'.heap[g]? = some (.cells cs t fr) ∧ cs.size = ds.length ∧ p' g = true := fun g ds hg => by
 obtain ⟨cs, t, fr, h1, h2, h3⟩ := o.ex g ds hg
 have hlt : g < w.heap.size := by
  rcases Nat.lt_or_ge g w.heap.size with h' | h'
  · exact h'
  · rw [Array.getElem?_eq_none h'] at h1; cases h1
 exact ⟨cs, t, fr, (e.keep g hlt fun ho => by rw [o.own_hidden ho] at h3; cases h3).trans h1, h2, e.vis g hlt h3⟩
theorem Ok.lt (o : Ok G w hd h p) {b : Nat} (k : Own hd h b) : b < w.heap.size := by
 obtain ⟨i, ob, u, h1, h2, h3, h4⟩ := k
 have h5 := o.ob i ob u h1 h3
 cases ob with
 | dead => cases h2
 | cells ds =>
  obtain ⟨B, cs, t, rfl, h6, _, _⟩ := h5
  cases h4; exact (Z6.1 h6).1
 | buf e k xs =>
  obtain ⟨cs, h6, _, _, _⟩ := h5
  refine (h6.lt b ?_).2
  rcases h6.2 with ⟨rfl, _⟩ | ⟨g, cap, cur, rfl, _⟩
  · cases h4
  · exact h4
 | map es clock =>
  obtain ⟨r, arr, rfl, h6, _⟩ := h5
  cases h4; exact (Z6.1 h6).1
 | iter m since seen last =>
  obtain ⟨B, r, rfl, h6, _⟩ := h5
  cases h4; exact (Z6.1 h6).1
 | hole => cases h2
theorem Ok.same (o : Ok G w hd h p) (hh : w'.heap = w.heap) (h1 : w'.os = w.os) (h2 : w'.tape = w.tape) (h3 : w'.output = w.output) (h0 : w.drawn ≤ w'.drawn := by first | exact Nat.le_refl _ | exact Nat.le_succ _ | (simp; done)) : Ok G w' hd h p ∧ Evo w hd h p w' hd h p := by
 have e : Evo w hd h p w' hd h p := ⟨⟨h1, h0⟩, h2, h3, by rw [hh]; exact Z0 _, fun _ _ _ => by rw [hh], fun _ _ k => k, fun _ _ k => .inl k, fun _ _ k => k, .refl _ _⟩
 exact ⟨⟨o.len, fun i ob u q r => (o.ob i ob u q r).move e o (fun _ _ _ => by rw [hh]) (fun _ _ _ k => k), o.inj, Zg6 e o, Zg8 e o⟩, e⟩
theorem Ok.drew (o : Ok G w hd h p) : Ok G { w with drawn := w.drawn + 1 } hd h p ∧ Evo w hd h p { w with drawn := w.drawn + 1 } hd h p := o.same rfl rfl rfl rfl
theorem Ok.repl (o : Ok G w hd h p) {i : Nat} {ob ob' : Ob} {u u' : Value} (hi : h[i]? = some ob) (hu : hd[i]? = some u) (hl : ob.live = true)
 (h1 : w'.os = w.os) (h2 : w'.tape = w.tape) (h3 : w'.output = w.output) (h4 : w.heap.size ≤ w'.heap.size) (h5 : ∀ b, b < w.heap.size → blk u ≠ some b → w'.heap[b]? = w.heap[b]?)
 (h6 : ∀ b, blk u' = some b → blk u = some b ∨ b = w.heap.size) (h7 : ∀ B, u = .pointer (some ⟨B, 0, none⟩) ∨ u = .map (some B) → u' = u)
 (h8 : ∀ e k xs', ob' = .buf e k xs' → ∃ e0 xs, ob = .buf e0 k xs ∧ xs.length ≤ xs'.length ∧ (xs.length = xs'.length → u' = u))
 (h9 : Carry hd h (hd.set i u') (h.set i ob') → Sub (only p w) (only (fun b => p b && b != w.heap.size) w') → obOk w' (hd.set i u') (h.set i ob') (fun b => p b && b != w.heap.size) u' ob') (h10 : ob'.isHole = false := by rfl) (h0 : w.drawn ≤ w'.drawn := by first | exact Nat.le_refl _ | exact Nat.le_succ _ | (simp; done)) :
 Ok G w' (hd.set i u') (h.set i ob') (fun b => p b && b != w.heap.size) ∧ Evo w hd h p w' (hd.set i u') (h.set i ob') (fun b => p b && b != w.heap.size) := by
 have hih : i < h.length := (Z3.1 hi).1
 have hid' : i < hd.length := o.len ▸ hih
 have gi : (h.set i ob')[i]? = some ob' := by simp [hih]
 have gu : (hd.set i u')[i]? = some u' := by simp [hid']
 have e : Evo w hd h p w' (hd.set i u') (h.set i ob') (fun b => p b && b != w.heap.size) := by
  refine ⟨⟨h1, h0⟩, h2, h3, h4, fun b hb hn => h5 b hb fun hk => hn ⟨i, ob, u, hi, hl, hu, hk⟩, fun b hb hp => by simp [hp]; omega, fun b hb hp => .inl (by simp at hp; exact hp.1), fun b hb => ?_, ?_⟩
  · rintro ⟨j, oj, uj, q1, q2, q3, q4⟩
    by_cases hij : i = j
    · subst hij
      rw [gu] at q3
      cases q3
      rcases h6 b q4 with h | h
      · exact ⟨i, ob, u, hi, hl, hu, h⟩
      · omega
    · rw [Z2 hij] at q1 q3
      exact ⟨j, oj, uj, q1, q2, q3, q4⟩
  · refine ⟨by simp, fun j B q => ?_, fun j B q => ?_, fun j q => q.set h10, fun j E k xs hj q => ?_⟩
    · by_cases hij : i = j
      · subst hij
        rw [hu] at q
        cases q
        rw [gu, h7 B (.inl rfl)]
      · rw [Z2 hij]; exact q
    · by_cases hij : i = j
      · subst hij
        rw [hu] at q
        cases q
        rw [gu, h7 B (.inr rfl)]
      · rw [Z2 hij]; exact q
    · by_cases hij : i = j
      · subst hij
        rw [gi] at q
        cases q
        obtain ⟨e0, xs0, r1, r2, r3⟩ := h8 E k xs rfl
        exact ⟨e0, xs0, hi.trans (by rw [r1]), r2, fun he => by rw [gu, hu, r3 he]⟩
      · rw [Z2 hij] at q ⊢
        exact ⟨E, xs, q, Z0 _, fun _ => rfl⟩
 refine ⟨⟨by simp [o.len], fun j oj uj q1 q2 => ?_, ?_, Zg6 e o, Zg8 e o⟩, e⟩
 · by_cases hij : i = j
   · subst hij
     rw [gi] at q1; rw [gu] at q2
     cases q1; cases q2
     exact h9 e.carry (e.sub o)
   · rw [Z2 hij] at q1 q2
     exact (o.ob j oj uj q1 q2).move e o (fun hl' b hb => h5 b (o.lt ⟨j, oj, uj, q1, hl', q2, hb⟩) fun hk => hij (o.inj i j ob oj u uj b hi q1 hl hl' hu q2 hk hb)) (fun _ b hb hp => by simp [hp])
 · intro j k oj ok uj uk b q1 q2 l1 l2 r1 r2 b1 b2
   by_cases hij : i = j
   · subst hij
     by_cases hik : i = k
     · exact hik
     · exfalso
       rw [Z2 hik] at q2 r2
       rw [gu] at r1; cases r1
       rcases h6 b b1 with h | h
       · exact hik (o.inj i k ob ok u uk b hi q2 hl l2 hu r2 h b2)
       · have := o.lt ⟨k, ok, uk, q2, l2, r2, b2⟩
         omega
   · rw [Z2 hij] at q1 r1
     by_cases hik : i = k
     · subst hik
       rw [gu] at r2; cases r2
       exfalso
       rcases h6 b b2 with h | h
       · exact hij (o.inj i j ob oj u uj b hi q1 hl l1 hu r1 h b1)
       · have := o.lt ⟨j, oj, uj, q1, l1, r1, b1⟩
         omega
     · rw [Z2 hik] at q2 r2
       exact o.inj j k oj ok uj uk b q1 q2 l1 l2 r1 r2 b1 b2
theorem J6 (w : World) (o : Obj) {b : Nat} (hb : b < w.heap.size) : (w.alloc o).heap[b]? = w.heap[b]? := Below.heap_alloc w o b hb
theorem Ok.grow (o : Ok G w hd h p) {ob : Ob} {u : Value}
 (h1 : w'.os = w.os) (h2 : w'.tape = w.tape) (h3 : w'.output = w.output) (h4 : w.heap.size ≤ w'.heap.size) (h5 : ∀ b, b < w.heap.size → w'.heap[b]? = w.heap[b]?)
 (h6 : ∀ b, blk u = some b → b = w.heap.size)
 (h9 : Carry hd h (hd ++ [u]) (h ++ [ob]) → Sub (only p w) (only (fun b => p b && b != w.heap.size) w') → obOk w' (hd ++ [u]) (h ++ [ob]) (fun b => p b && b != w.heap.size) u ob) (h0 : w.drawn ≤ w'.drawn := by first | exact Nat.le_refl _ | exact Nat.le_succ _ | (simp; done)) :
 Ok G w' (hd ++ [u]) (h ++ [ob]) (fun b => p b && b != w.heap.size) ∧ Evo w hd h p w' (hd ++ [u]) (h ++ [ob]) (fun b => p b && b != w.heap.size) := by
 have old : ∀ {j : Nat} {oj : Ob}, (h ++ [ob])[j]? = some oj → (j < h.length ∧ h[j]? = some oj) ∨ (j = h.length ∧ oj = ob) := fun {j oj} q => by
  rcases Nat.lt_or_ge j h.length with hj | hj
  · rw [Z1 hj] at q; exact .inl ⟨hj, q⟩
  · rw [Z9 hj] at q
    have : j - h.length = 0 := by
     rcases Nat.eq_zero_or_pos (j - h.length) with h' | h'
     · exact h'
     · rw [List.getElem?_eq_none (by simp; omega)] at q; cases q
    rw [this] at q; simp at q
    exact .inr ⟨by omega, q.symm⟩
 have oldu : ∀ {j : Nat} {uj : Value}, j < h.length → (hd ++ [u])[j]? = some uj → hd[j]? = some uj := fun {j uj} hj q => by rwa [Z1 (o.len ▸ hj)] at q
 have newu : ∀ {uj : Value}, (hd ++ [u])[h.length]? = some uj → uj = u := fun {uj} q => by rw [← o.len] at q; simp at q; exact q.symm
 have e : Evo w hd h p w' (hd ++ [u]) (h ++ [ob]) (fun b => p b && b != w.heap.size) := by
  refine ⟨⟨h1, h0⟩, h2, h3, h4, fun b hb _ => h5 b hb, fun b hb hp => by simp [hp]; omega, fun b hb hp => .inl (by simp at hp; exact hp.1), fun b hb => ?_, ?_⟩
  · rintro ⟨j, oj, uj, q1, q2, q3, q4⟩
    rcases old q1 with ⟨hj, q5⟩ | ⟨rfl, rfl⟩
    · exact ⟨j, oj, uj, q5, q2, oldu hj q3, q4⟩
    · rw [newu q3] at q4
      have := h6 b q4
      omega
  · refine ⟨by simp, fun j B q => ?_, fun j B q => ?_, fun j q => q.app, fun j E k xs hj q => ?_⟩
    · rw [Z1 (Z3.1 q).1]; exact q
    · rw [Z1 (Z3.1 q).1]; exact q
    · rw [Z1 hj.lt] at q
      exact ⟨E, xs, q, Z0 _, fun _ => by rw [Z1 (o.len ▸ hj.lt)]⟩
 refine ⟨⟨by simp [o.len], fun j oj uj q1 q2 => ?_, ?_, Zg6 e o, Zg8 e o⟩, e⟩
 · rcases old q1 with ⟨hj, q3⟩ | ⟨rfl, rfl⟩
   · have q4 := oldu hj q2
     exact (o.ob j oj uj q3 q4).move e o (fun hl' b hb => h5 b (o.lt ⟨j, oj, uj, q3, hl', q4, hb⟩)) (fun _ b hb hp => by simp [hp])
   · rw [newu q2]; exact h9 e.carry (e.sub o)
 · intro j k oj ok uj uk b q1 q2 l1 l2 r1 r2 b1 b2
   rcases old q1 with ⟨hj, q3⟩ | ⟨rfl, rfl⟩
   · rcases old q2 with ⟨hk, q4⟩ | ⟨rfl, rfl⟩
     · exact o.inj j k oj ok uj uk b q3 q4 l1 l2 (oldu hj r1) (oldu hk r2) b1 b2
     · exfalso
       rw [newu r2] at b2
       have := o.lt ⟨j, oj, uj, q3, l1, oldu hj r1, b1⟩
       have := h6 b b2
       omega
   · rcases old q2 with ⟨hk, q4⟩ | ⟨rfl, _⟩
     · exfalso
       rw [newu r1] at b1
       have := o.lt ⟨k, ok, uk, q4, l2, oldu hk r2, b2⟩
       have := h6 b b1
       omega
     · rfl
theorem Ok.made (o : Ok G w hd h p) (O : Obj) : Ok G (w.alloc O) hd h (fun b => p b || b == w.heap.size) ∧ Evo w hd h p (w.alloc O) hd h (fun b => p b || b == w.heap.size) := by
 have e : Evo w hd h p (w.alloc O) hd h (fun b => p b || b == w.heap.size) :=
  ⟨⟨rfl, Z0 _⟩, rfl, rfl, by simp, fun b hb _ => J6 w O hb, fun b _ hp => by simp [hp], fun b hb hp => .inl (by simp at hp; rcases hp with h | h; exact h; omega), fun _ _ k => k, .refl _ _⟩
 exact ⟨⟨o.len, fun i ob u q r => (o.ob i ob u q r).move e o (fun hl b hb => J6 w O (o.lt ⟨i, ob, u, q, hl, r, hb⟩)) (fun hl b hb hp => by
   have := o.lt ⟨i, ob, u, q, hl, r, hb⟩
   simp [hp]; omega), o.inj, Zg6 e o, Zg8 e o⟩, e⟩
theorem Ok.kill (o : Ok G w hd h p) (S : Nat → Bool) : ∃ p', Ok G w hd (h.mapIdx fun i ob => if S i then .dead else ob) p' ∧ Evo w hd h p w hd (h.mapIdx fun i ob => if S i then .dead else ob) p' ∧
  ∀ i ob u b, S i = true → h[i]? = some ob → ob.live = true → hd[i]? = some u → blk u = some b → p' b = true := by
 classical
 have gm : ∀ {i : Nat} {ob : Ob}, (h.mapIdx fun i ob => if S i then .dead else ob)[i]? = some ob → ob.live = true → S i = false ∧ h[i]? = some ob := fun {i ob} q hl => by
  rw [Z8] at q
  cases hh : h[i]? with
  | none => rw [hh] at q; cases q
  | some o' =>
   rw [hh] at q
   simp only [Option.map_some, Option.some.injEq] at q
   cases hs : S i
   · simp [hs] at q; exact ⟨rfl, by rw [q]⟩
   · simp [hs] at q; subst q; cases hl
 let q' : Nat → Bool := fun b => p b || decide (∃ i ob u, S i = true ∧ h[i]? = some ob ∧ ob.live = true ∧ hd[i]? = some u ∧ blk u = some b)
 have e : Evo w hd h p w hd (h.mapIdx fun i ob => if S i then .dead else ob) q' := by
  refine ⟨⟨rfl, Z0 _⟩, rfl, rfl, Z0 _, fun _ _ _ => rfl, fun b _ hp => by simp [q', hp], fun b _ hp => ?_, fun b _ => ?_, ⟨by simp, fun _ _ q => q, fun _ _ q => q, fun j q => ?_, fun j E k xs hj q => ?_⟩⟩
  · simp only [q', Bool.or_eq_true, decide_eq_true_eq] at hp
    exact hp.imp id fun ⟨i, ob, u, _, h2, h3, h4, h5⟩ => ⟨i, ob, u, h2, h3, h4, h5⟩
  · rintro ⟨j, oj, uj, q1, q2, q3, q4⟩
    exact ⟨j, oj, uj, (gm q1 q2).2, q2, q3, q4⟩
  · obtain ⟨ob, q1, q2⟩ := q
    refine ⟨if S j then .dead else ob, by rw [Z8, q1]; rfl, ?_⟩
    split
    · rfl
    · exact q2
  · exact ⟨E, xs, (gm q rfl).2, Z0 _, fun _ => rfl⟩
 refine ⟨q', ⟨by simp [o.len], fun i ob u q r => ?_, ?_, Zg6 e o, Zg8 e o⟩, e, fun i ob u b hs hi hl hu hb => by simp only [q', Bool.or_eq_true, decide_eq_true_eq]; exact .inr ⟨i, ob, u, hs, hi, hl, hu, hb⟩⟩
 · cases hl : ob.live
   · cases ob <;> simp [Ob.live] at hl
     · exact o.ob i .hole u (by
        rw [Z8] at q
        cases hh : h[i]? with
        | none => rw [hh] at q; cases q
        | some o' =>
         rw [hh] at q
         simp only [Option.map_some, Option.some.injEq] at q
         split at q
         · cases q
         · rw [q]) r
     · trivial
   · obtain ⟨hs, q1⟩ := gm q hl
     refine (o.ob i ob u q1 r).move e o (fun _ _ _ => rfl) fun _ b hb hp => ?_
     simp only [q', hp, Bool.false_or, decide_eq_false_iff_not]
     rintro ⟨j, oj, uj, sj, qj, lj, rj, bj⟩
     have := o.inj i j ob oj u uj b q1 qj hl lj r rj hb bj
     subst this
     rw [hs] at sj; cases sj
 · intro j k oj ok uj uk b q1 q2 l1 l2 r1 r2 b1 b2
   exact o.inj j k oj ok uj uk b (gm q1 l1).2 (gm q2 l2).2 l1 l2 r1 r2 b1 b2
theorem Zq7 {α : Type} {k : Nat} : ∀ (xs : List (List α)) (_ : ∀ row ∈ xs, row.length = k) (i j : Nat), j < k → xs.flatten[i * k + j]? = (xs[i]?).bind (·[j]?)
 | [], _, i, j, _ => by simp
 | x :: t, hx, 0, j, hj => by
  rw [List.flatten_cons, Nat.zero_mul, Nat.zero_add, Z1 (by rw [hx x (by simp)]; exact hj)]; rfl
 | x :: t, hx, i + 1, j, hj => by
  have e := hx x (by simp)
  rw [List.flatten_cons, Z9 (by rw [e, Zb]; omega), e, show (i + 1) * k + j - k = i * k + j by rw [Zb]; omega]
  exact Zq7 t (fun row hr => hx row (by simp [hr])) i j hj
theorem Zg0 {e k n : Nat} {u : Value} {cs : List Value} (q : w.ownsRow 0 e k u n cs) {B : Nat} {cap : Nat} (hu : u = .slice (some ⟨B, 0, none⟩) n cap) {j : Nat} {x : Value} (hx : cs[j]? = some x) : w.cell? ⟨B, j, none⟩ = some x := by
 rcases q.2 with ⟨rfl, _⟩ | ⟨g, cap', cur, rfl, _, hg, _, _, _, htake⟩
 · cases hu
 · cases hu
   rw [cell_of_row w B j cur e (0, 0) hg]
   rw [← htake, List.getElem?_take] at hx
   split at hx
   · simpa using hx
   · cases hx
theorem buf_reads {P : Nat → Bool} {hd2 : List Value} {h2 : List Ob} {e k : Nat} {u : Value} {xs : List (List D)} {cs : List Value} (q : w.ownsRow 0 e k u xs.length cs) (hr : rdL hd2 h2 (only P w) xs.flatten cs)
 (hx : ∀ row ∈ xs, row.length = k) (hP : ∀ g, blk u = some g → P g = true) : rd hd2 h2 (only P w) (.sl k xs) u := by
 rw [rd]
 rcases id q.2 with ⟨rfl, hn⟩ | ⟨g, cap, cur, rfl, _, hg, hc, hm, _, _⟩
 · exact ⟨none, 0, by rw [hn], ⟨fun _ => rfl, by omega⟩, by decide, (Vf k none xs 0).2 fun i row hi => by rw [Z5 hn] at hi; simp at hi⟩
 · refine ⟨some ⟨g, 0, none⟩, cap, rfl, ⟨by simp, hc⟩, hm, (Vf k _ xs 0).2 fun i row hi => ?_⟩
   have hk := hx row (List.mem_of_getElem? hi)
   refine ⟨hk, g, 0, rfl, (U3 row g _).2 fun j d hj => ?_⟩
   have hjk : j < k := hk ▸ (Z3.1 hj).1
   have hf : xs.flatten[i * k + j]? = some d := by rw [Zq7 xs hx i j hjk, hi]; exact hj
   obtain ⟨x, h1, h2⟩ := ((Xg _ _).1 hr).2 _ d hf
   refine ⟨x, ?_, h2⟩
   rw [Zg1, if_pos (hP g rfl), Nat.zero_add, Nat.zero_add]
   exact Zg0 q rfl h1
end
end Go.Proofs.YtbhkcbidcfofiaaGreat
