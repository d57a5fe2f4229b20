/-
  What the statements of the chapter share, part 05: D6B, D7, D8.
-/
import Derived.Test.YtbhkcbidcfofiaaGreatY04
import Derived.Great.FillDense
import Derived.Laws.BytesString
import Derived.Laws.MakeOwn
set_option linter.unusedVariables false
set_option linter.unusedSimpArgs false
set_option maxRecDepth 100000
set_option maxHeartbeats 8000000
namespace Go.Proofs.YtbhkcbidcfofiaaGreat
open _root_.Array renaming getD_eq_getD_getElem? → Z7, getElem?_toList → Zd, getElem?_append_left → Zg, mapM_eq_mapM_toList → Zh, getElem?_eq_getElem → Zi, replicate → Zl
open _root_.Bool renaming and_eq_true → Zk
open _root_.List renaming getElem?_eq_some_iff → Z1, eq_nil_of_length_eq_zero → Z2, flatten_nil → Z3, getElem?_map → Z5, flatten_cons → Z6, getElem?_append_left → Z8, getElem?_eq_getElem → Z9, getElem?_drop → Za, getElem?_take → Zb, getElem?_set_self → Zc, map_cons → Ze, ext_getElem? → Zj
open _root_.Nat renaming mul_le_mul_left → Zf, le_refl → Zm, zero_le → Zn
open _root_.Option renaming map_eq_some_iff → Z0, bind_some → Z4
open Go.RowKit
section
variable {P : Program} {G : Nat → D} {w w' : World} {hd hd' : List Value} {h h' : List Ob} {p p' : Nat → Bool} {W : World}
def plT (P : Program) (t i : Nat) : Option (Nat × Nat) := match P.underlying t with
 | some (.struct fs) => (fs[i]?).bind fun f => (szT P f.type).map fun s => (f.offset, s)
 | some (.array _ e) => (szT P e).map fun s => (i * s, s)
 | _ => none
def Zv3 (P : Program) (t : Nat) : Bool := match P.underlying t with
 | some (.struct fs) => fs.all fun f => (szT P f.type).isSome
 | some (.array _ e) => (szT P e).isSome
 | _ => false
def Yo8 (pl : Nat → Option (Nat × Nat)) : List D → List (Nat × D) → Option (List D)
 | cs, [] => some cs
 | cs, (i, d) :: rest => match pl i, d.cells with
  | some (off, sz), some es => if es.length = sz ∧ off + sz ≤ cs.length then Yo8 pl (putL cs off es) rest else none
  | _, _ => none
def Uj (P : Program) (t : TypeId) : Option (List D) := (zeroT P t).bind fun z => (D.v z).cells
def Zv1 (P : Program) (t : TypeId) (parts : List (Nat × D)) : Option (List D) := if Zv3 P t then (Uj P t).bind fun z => Yo8 (plT P t) z parts else none
theorem fill_run {pl : Nat → Option (Nat × Nat)} : ∀ (ds : List (Nat × D)) (vs : List (Nat × Value)) (cs : List D) (us : Array Value) (es : List D), rdL hd h W cs us.toList → ds.length = vs.length →
 (∀ (j : Nat) i d, ds[j]? = some (i, d) → ∃ v, vs[j]? = some (i, v) ∧ rd hd h W d v) → Yo8 pl cs ds = some es → ∃ r, Instr.fill pl us vs = some r ∧ rdL hd h W es r.toList
 | [], [], cs, us, es, q, _, _, he => by cases he; exact ⟨us, rfl, q⟩
 | (i, d) :: ds, [], _, _, _, _, hl, _, _ => by simp at hl
 | [], v :: vs, _, _, _, _, hl, _, _ => by simp at hl
 | (i, d) :: ds, (i', v) :: vs, cs, us, es, q, hl, hr, he => by
  obtain ⟨v0, h1, h2⟩ := hr 0 i d rfl
  simp at h1
  obtain ⟨rfl, rfl⟩ := h1
  simp only [Yo8] at he
  split at he
  rotate_left
  · cases he
  rename_i off sz es' hp hc
  split at he
  rotate_left
  · cases he
  rename_i hsz
  have q2 := Za6 h2 hc
  have hlen : es'.length = v.cells.size := by simpa using Ud q2
  have hul : cs.length = us.size := by simpa using Ud q
  obtain ⟨g1, g2⟩ := Great.foldl_set off v.cells.toList 0 us
  have hput : ((v.cells.toList.zipIdx 0).foldl (fun cs (x : Value × Nat) => cs.setIfInBounds (off + x.2) x.1) us).toList = putL us.toList off v.cells.toList := by
   apply Zj
   intro k
   rw [Ym2 (by simp; omega)]
   have := g2 k
   simp only [Nat.add_zero] at this
   rw [← Zd] at this
   rw [this]
   by_cases hk : off ≤ k ∧ k < off + v.cells.toList.length
   · rw [if_pos ⟨hk.1, hk.2, by simp at hk; omega⟩, if_pos hk]
   · rw [if_neg (fun h => hk ⟨h.1, h.2.1⟩), if_neg hk, Zd]
  obtain ⟨r, e1, e2⟩ := fill_run ds vs (putL cs off es') ((v.cells.toList.zipIdx 0).foldl (fun cs (x : Value × Nat) => cs.setIfInBounds (off + x.2) x.1) us) es (by rw [hput]; exact Yl3 q q2 off) (by simpa using hl)
   (fun j i d hj => by simpa using hr (j + 1) i d (by simpa using hj)) he
  refine ⟨r, ?_, e2⟩
  unfold Instr.fill
  simp only [hp]
  rw [if_neg (by simp; omega)]
  rw [← e1]
  congr 1
  rw [← Array.foldl_toList, Array.toList_zipIdx]
theorem run_build {t : TypeId} {ds : List (Nat × D)} {vs : List (Nat × Value)} {es : List D} (hl : ds.length = vs.length) (hr : ∀ (j : Nat) i d, ds[j]? = some (i, d) → ∃ v, vs[j]? = some (i, v) ∧ rd hd h W d v) (he : Zv1 P t ds = some es) :
 ∃ cs, (Instr.build t vs.toArray).run P w = .ok (.agg cs) w ∧ rdL hd h W es cs.toList := by
 unfold Zv1 at he
 split at he
 rotate_left
 · cases he
 rename_i hall
 unfold Uj at he
 cases hz : zeroT P t with
 | none => rw [hz] at he; cases he
 | some z =>
 rw [hz] at he
 simp only [Z4] at he
 cases hc : (D.v z).cells with
 | none => rw [hc] at he; cases he
 | some zs =>
 rw [hc] at he
 have he : Yo8 (plT P t) zs ds = some es := he
 have q0 := Za6 (hd := hd) (h := h) (W := W) (d := .v z) (v := z) (by rw [rd]) hc
 obtain ⟨r, e1, e2⟩ := fill_run ds vs zs z.cells es q0 hl hr he
 refine ⟨r, ?_, e2⟩
 unfold Zv3 at hall
 cases hu : P.underlying t with
 | none => rw [hu] at hall; cases hall
 | some td =>
 rw [hu] at hall
 cases td with
 | struct fs =>
  have hall : (fs.all fun f => (szT P f.type).isSome) = true := hall
  have hm : ∀ l : List Field, (∀ f ∈ l, (szT P f.type).isSome = true) → (l.mapM (m := Sem) fun f => do pure (f.offset, ← Go.sizeOf f.type)).run P w = .ok (l.map fun f => (f.offset, (szT P f.type).getD 0)) w := fun l => by
   induction l with
   | nil => intro _; simp
   | cons f t ih =>
    intro hf
    have ih := ih fun g hg => hf g (by simp [hg])
    have hf0 := hf f (by simp)
    cases hs : szT P f.type with
    | none => rw [hs] at hf0; cases hf0
    | some n =>
     simp only [List.mapM_cons, Sem.run_bind, U7 hs, Result.andThen_ok, Sem.run_pure, ih, Ze, hs, Option.getD_some]
  have hm2 := hm fs.toList fun f hf => by
   rw [Array.all_eq_true'] at hall
   exact hall f (by simpa using hf)
  have hpl : (fun i => ((fs.toList.map fun f => (f.offset, (szT P f.type).getD 0)).toArray)[i]?) = plT P t := by
   funext i
   unfold plT
   rw [hu]
   simp only [List.getElem?_toArray, Z5, Zd]
   cases hfi : fs[i]? with
   | none => rfl
   | some f =>
    have : (szT P f.type).isSome = true := by
     rw [Array.all_eq_true'] at hall
     exact hall f (Array.mem_of_getElem? hfi)
    cases hs : szT P f.type with
    | none => rw [hs] at this; cases this
    | some n => simp [hs]
  unfold Instr.build
  simp only [Sem.run_bind, Yp7 hz, Result.andThen_ok, run_underlying hu, Zh, Sem.run_map, hm2]
  rw [show (fun x => (List.map (fun f => (f.offset, (szT P f.type).getD 0)) fs.toList).toArray[x]?) = plT P t from hpl]
  simp [e1]
 | array n e =>
  have hall : (szT P e).isSome = true := hall
  cases hs : szT P e with
  | none => rw [hs] at hall; cases hall
  | some sz =>
   have hpl : (fun i => some (i * sz, sz)) = plT P t := by funext i; unfold plT; rw [hu]; simp [hs]
   unfold Instr.build
   simp only [Sem.run_bind, Yp7 hz, Result.andThen_ok, run_underlying hu, U7 hs, hpl]
   simp [e1]
 | _ => cases hall
def slT (P : Program) (t : TypeId) : Bool := match P.underlying t with
 | some (.slice _) => true
 | _ => false
def strT (P : Program) (t : TypeId) : Bool := match P.underlying t with
 | some .string => true
 | _ => false
def intT (P : Program) (t : TypeId) : Option IntKind := match P.underlying t with
 | some (.int k) => some k
 | _ => none
theorem slT_spec {t : Nat} (q : slT P t = true) : ∃ e, P.underlying t = some (.slice e) := by
 unfold slT at q
 split at q
 · exact ⟨_, by assumption⟩
 · cases q
theorem Zn9 {t : Nat} (q : strT P t = true) : P.underlying t = some .string := by
 unfold strT at q
 split at q
 · assumption
 · cases q
theorem intT_spec {t : Nat} {k : IntKind} (q : intT P t = some k) : P.underlying t = some (.int k) := by
 unfold intT at q
 split at q
 · rename_i he; cases q; exact he
 · cases q
def byD (bs : List UInt8) : List (List D) := bs.map fun b => [.v (.int .u8 b.toNat)]
def byT (P : Program) (t : TypeId) : Bool := match elT P t with
 | some e => match P.info? e, P.underlying e with
  | some i, some (.int .u8) => match i.zero with
   | some (.int .u8 0) => i.size == 1 && i.bytes == 1
   | _ => false
  | _, _ => false
 | none => false
theorem Yp6 {t e : Nat} (q : elT P t = some e) : P.underlying t = some (.slice e) := by
 unfold elT at q
 split at q
 · rename_i hu; cases q; exact hu
 · cases q
theorem Yq5 {t : Nat} (q : byT P t = true) : ∃ e i, P.underlying t = some (.slice e) ∧ P.info? e = some i ∧ P.underlying e = some (.int .u8) ∧ i.zero = some (.int .u8 0) ∧ i.size = 1 ∧ i.bytes = 1 := by
 unfold byT at q
 split at q
 · rename_i e he
   split at q
   · rename_i i h1 h2
     split at q
     · rename_i hz
       simp only [Zk, beq_iff_eq] at q
       exact ⟨e, i, Yp6 he, h1, h2, hz, q.1, q.2⟩
     · cases q
   · cases q
 · cases q
def Wb (k : Nat) : Nat → List (Nat × D) → Option (List (List D))
 | _, [] => some []
 | i, (j, d) :: t => if j = i then match d.cells with
   | some es => if es.length = k then (Wb k (i + 1) t).map (es :: ·) else none
   | none => none
  else none
def apT (P : Program) (t : TypeId) : Option (TypeId × Nat × Nat) := match elT P t with
 | some e => match P.info? e with
  | some i => match i.zero with
   | some z => if z.cells.size = i.size ∧ 0 < i.size then some (e, i.size, i.bytes) else none
   | none => none
  | none => none
 | none => none
theorem Yq7 {t e k by' : Nat} (q : apT P t = some (e, k, by')) : P.underlying t = some (.slice e) ∧ ∃ i z, P.info? e = some i ∧ i.zero = some z ∧ i.size = k ∧ i.bytes = by' ∧ z.cells.size = k ∧ 0 < k := by
 unfold apT at q
 split at q
 · rename_i e' he
   split at q
   · rename_i i hi
     split at q
     · rename_i z hz
       split at q
       · rename_i hk
         cases q
         exact ⟨Yp6 he, i, z, hi, hz, rfl, rfl, hk.1, hk.2⟩
       · cases q
     · cases q
   · cases q
 · cases q
def litD (P : Program) (t len : Nat) (parts : List (Nat × D)) : Option (TypeId × Nat × List (List D)) := (apT P t).bind fun q => (Wb q.2.1 0 parts).bind fun xs => if xs.length = len ∧ len * q.2.1 ≤ 16777216 then some (q.1, q.2.1, xs) else none
theorem Zu6 {k : Nat} : ∀ (ds : List (Nat × D)) (vs : List (Nat × Value)) (i : Nat) (xs : List (List D)), ds.length = vs.length → (∀ (j : Nat) i d, ds[j]? = some (i, d) → ∃ v, vs[j]? = some (i, v) ∧ rd hd h W d v) → Wb k i ds = some xs →
 ∃ us : List Value, vs = (us.zipIdx i).map (fun x => (x.2, x.1)) ∧ (∀ u ∈ us, u.cells.size = k) ∧ us.length = xs.length ∧ rdL hd h W xs.flatten (us.flatMap fun u => u.cells.toList) ∧ ∀ row ∈ xs, row.length = k
 | [], [], i, xs, _, _, he => by cases he; exact ⟨[], rfl, by simp, rfl, by simp only [Z3, List.flatMap_nil]; rw [rdL], by simp⟩
 | d :: ds, [], _, _, hl, _, _ => by simp at hl
 | [], v :: vs, _, _, hl, _, _ => by simp at hl
 | (j, d) :: ds, (j', v) :: vs, i, xs, hl, hr, he => by
  obtain ⟨v0, h1, h2⟩ := hr 0 j d rfl
  simp at h1
  obtain ⟨rfl, rfl⟩ := h1
  simp only [Wb] at he
  split at he
  rotate_left
  · cases he
  rename_i hj
  subst hj
  split at he
  rotate_left
  · cases he
  rename_i es hc
  split at he
  rotate_left
  · cases he
  rename_i hk
  rw [Z0] at he
  obtain ⟨ys, he, rfl⟩ := he
  obtain ⟨us, g1, g2, g3, g4, g5⟩ := Zu6 ds vs (j' + 1) ys (by simpa using hl) (fun j i d hj => by simpa using hr (j + 1) i d (by simpa using hj)) he
  have q2 := Za6 h2 hc
  have hsz : v.cells.size = k := by have := Ud q2; simp at this; omega
  refine ⟨v :: us, by simp [g1], fun u hu => ?_, by simp [g3], ?_, fun row hrow => ?_⟩
  · rcases List.mem_cons.1 hu with rfl | hu
    · exact hsz
    · exact g2 u hu
  · rw [Z6, List.flatMap_cons]; exact Wr q2 g4
  · rcases List.mem_cons.1 hrow with rfl | hrow
    · exact hk
    · exact g5 row hrow
theorem run_litD {t len e k : Nat} {ds : List (Nat × D)} {vs : List (Nat × Value)} {xs : List (List D)} (hl : ds.length = vs.length) (hr : ∀ (j : Nat) i d, ds[j]? = some (i, d) → ∃ v, vs[j]? = some (i, v) ∧ rd hd h W d v) (he : litD P t len ds = some (e, k, xs)) :
 ∃ cs, (Instr.buildSlice t len vs.toArray).run P w = .ok (.slice (some ⟨w.heap.size, 0, none⟩) len len) (w.alloc (.cells cs e)) ∧ rdL hd h W xs.flatten cs.toList ∧ cs.size = len * k ∧ xs.length = len ∧ ∀ row ∈ xs, row.length = k := by
 unfold litD at he
 cases ha : apT P t with
 | none => rw [ha] at he; cases he
 | some q =>
 obtain ⟨e', k', by'⟩ := q
 rw [ha] at he
 simp only [Z4] at he
 cases hx : Wb k' 0 ds with
 | none => rw [hx] at he; cases he
 | some xs' =>
 rw [hx] at he
 simp only [Z4] at he
 split at he
 rotate_left
 · cases he
 rename_i hc
 cases he
 obtain ⟨hu, i, z, hi, hz, hsz, _, hzs, hpos⟩ := Yq7 ha
 obtain ⟨us, g1, g2, g3, g4, g5⟩ := Zu6 ds vs 0 xs hl hr hx
 have hsize : szT P e = some k := by unfold szT; rw [hi]; simp [hsz]
 have hzero : zeroT P e = some z := by unfold zeroT; rw [hi]; exact hz
 have hcat : (us.flatMap fun u => u.cells.toList).toArray.size = len * k := by
  have := Ud g4
  rw [List.size_toArray, ← this]
  rw [← hc.1, List.length_flatten]
  have : xs.map List.length = List.replicate xs.length k := List.eq_replicate_iff.2 ⟨by simp, fun n hn => by
   obtain ⟨row, hrow, rfl⟩ := List.mem_map.1 hn
   exact g5 row hrow⟩
  rw [this]; simp
 have hfill : ∀ zc : Array Value, zc.size = len * k → Instr.fill (fun i => some (i * k, k)) zc vs = some (us.flatMap fun u => u.cells.toList).toArray := fun zc hzc => by
  rw [g1]; exact Great.fill_whole hpos us zc g2 (by rw [hzc, g3, hc.1])
 refine ⟨_, ?_, by simpa using g4, hcat, hc.1, g5⟩
 have hlim : ¬ len * k > 2 ^ 24 := by have := hc.2; omega
 unfold Instr.buildSlice
 simp only [Sem.run_bind, run_underlying hu, Result.andThen_ok, U7 hsize, Sem.run_ite, if_neg hlim, Sem.run_pure]
 split
 · rename_i h0
   have hf := hfill ((Array.range (len * k)).map fun x => (#[] : Array Value)[x % (#[] : Array Value).size]!) (by simp)
   simp only [Result.andThen_ok, hf]
   simp [newRow]
 · have hf := hfill ((Array.range (len * k)).map fun x => z.cells[x % z.cells.size]!) (by simp)
   simp only [Yp7 hzero, Result.andThen_ok, hf]
   simp [newRow]
def bndD (dflt : Int) : Option D → Option Int
 | none => some dflt
 | some (.v (.int _ n)) => some n
 | _ => none
def slcA (P : Program) (t : TypeId) (x : D) (lo hi : Option D) (K : D → Prop) : Prop := match x with
 | .v (.string s) => ∃ l r, strT P t = true ∧ bndD 0 lo = some l ∧ bndD s.size hi = some r ∧ 0 ≤ l ∧ l ≤ r ∧ r ≤ s.size ∧ K (.v (.string (s.extract l.toNat r.toNat)))
 | .sl k xs => ∃ l r, (elT P t).bind (szT P) = some k ∧ bndD 0 lo = some l ∧ bndD xs.length hi = some r ∧ 0 ≤ l ∧ l ≤ r ∧ r ≤ xs.length ∧ K (.sl k ((xs.take r.toNat).drop l.toNat))
 | _ => False
theorem bnd_run {isS : Bool} {len cap : Nat} {lo hi : Option D} {vlo vhi : Option Value} {l r : Int} (q1 : bndD 0 lo = some l) (q2 : bndD len hi = some r) (r1 : (lo = none ∧ vlo = none) ∨ ∃ d v, lo = some d ∧ vlo = some v ∧ rd hd h W d v) (r2 : (hi = none ∧ vhi = none) ∨ ∃ d v, hi = some d ∧ vhi = some v ∧ rd hd h W d v)
 (h0 : 0 ≤ l) (h1 : l ≤ r) (h2 : r ≤ len) (h3 : len ≤ cap) : (Instr.sliceBounds isS len cap vlo vhi none).run P w = .ok (l.toNat, r.toNat, cap) w := by
 have one : ∀ {x : Option D} {vx : Option Value} {d0 y : Int}, bndD d0 x = some y → ((x = none ∧ vx = none) ∨ ∃ d v, x = some d ∧ vx = some v ∧ rd hd h W d v) → (x = none ∧ vx = none ∧ y = d0) ∨ ∃ κ, vx = some (.int κ y) := fun {x vx d0 y} q r => by
  rcases r with ⟨rfl, rfl⟩ | ⟨d, v, rfl, rfl, hr⟩
  · cases q; exact .inl ⟨rfl, rfl, rfl⟩
  · cases d with
    | v X =>
     cases X <;> simp only [bndD] at q <;> first | cases q | skip
     rw [rd] at hr; exact .inr ⟨_, by rw [hr]⟩
    | _ => cases q
 have hr' : 0 ≤ r := by omega
 rcases one q1 r1 with ⟨_, rfl, rfl⟩ | ⟨κ, rfl⟩ <;> rcases one q2 r2 with ⟨_, rfl, rfl⟩ | ⟨κ2, rfl⟩
 · simp [Instr.sliceBounds]
 · have hc : r ≤ (cap : Int) := by omega
   simp [Instr.sliceBounds, Instr.sliceBound, asIntOf, hr', hc]
 · have hc : l ≤ (len : Int) := h1
   simp [Instr.sliceBounds, Instr.sliceBound, asIntOf, h0, hc]
 · have hc : r ≤ (cap : Int) := by omega
   have hd : l ≤ ((r.toNat : Nat) : Int) := by omega
   simp [Instr.sliceBounds, Instr.sliceBound, asIntOf, hr', hc, h0, hd]
   intro hh; omega
theorem run_slc {t : TypeId} {x : D} {lo hi : Option D} {v : Value} {vlo vhi : Option Value} {K : D → Prop} (q : rd hd h W x v) (r1 : (lo = none ∧ vlo = none) ∨ ∃ d v, lo = some d ∧ vlo = some v ∧ rd hd h W d v) (r2 : (hi = none ∧ vhi = none) ∨ ∃ d v, hi = some d ∧ vhi = some v ∧ rd hd h W d v)
 (hx : slcA P t x lo hi K) : ∃ u d, (Instr.sliceAt t v vlo vhi none).run P w = .ok u w ∧ K d ∧ rd hd h W d u := by
 unfold slcA at hx
 split at hx
 · rename_i s
   obtain ⟨l, r, h1, h2, h3, h4, h5, h6, h7⟩ := hx
   rw [rd] at q; subst q
   have hb := bnd_run (P := P) (w := w) (isS := false) (cap := s.size) h2 h3 r1 r2 h4 h5 h6 (Zm _)
   exact ⟨_, _, by simp [Instr.sliceAt, Instr.slice, run_underlying (Zn9 h1), hb]; rfl, h7, by rw [rd]⟩
 · rename_i k xs
   obtain ⟨l, r, h1, h2, h3, h4, h5, h6, h7⟩ := hx
   cases he : elT P t with
   | none => rw [he] at h1; cases h1
   | some e =>
   rw [he] at h1
   have h1 : szT P e = some k := h1
   have hu := Yp6 he
   rw [rd] at q
   obtain ⟨a, cap, rfl, ⟨hn, hc⟩, hm, hr⟩ := q
   have hb := bnd_run (P := P) (w := w) (isS := true) (cap := cap) h2 h3 r1 r2 h4 h5 h6 hc
   have hlen : ((xs.take r.toNat).drop l.toNat).length = r.toNat - l.toNat := by simp; omega
   have hlr : l.toNat ≤ r.toNat := by omega
   have hrl : r.toNat ≤ xs.length := by omega
   refine ⟨_, _, by simp [Instr.sliceAt, Instr.slice, run_underlying hu, hb, U7 h1]; rfl, h7, ?_⟩
   rw [rd]
   refine ⟨_, cap - l.toNat, by rw [hlen], ⟨?_, by rw [hlen]; omega⟩, by omega, (Vf _ _ _ _).2 fun i row hi => ?_⟩
   · split
     · intro h; have := hn h; omega
     · intro h
       cases a with
       | none => have := hn rfl; omega
       | some ad => simp at h
   · have hi' : i < r.toNat - l.toNat := by rw [← hlen]; exact (Z1.1 hi).1
     have hi2 : xs[l.toNat + i]? = some row := by
      rw [Za, Zb, if_pos (by omega)] at hi; exact hi
     obtain ⟨g1, b, q0, rfl, g2⟩ := (Vf _ _ _ _).1 hr _ row hi2
     refine ⟨g1, b, q0 + l.toNat * k, ?_, ?_⟩
     · rw [if_neg (by omega)]; simp [V7]
     · rw [show q0 + l.toNat * k + (0 + i * k) = q0 + (0 + (l.toNat + i) * k) by rw [Nat.add_mul]; omega]; exact g2
 · exact hx.elim
def indA (P : Program) (t : TypeId) (x i : D) (K : D → Prop) : Prop := match x, i with
 | .v (.string s), .v (.int _ n) => strT P t = true ∧ 0 ≤ n ∧ n < (s.size : Int) ∧ ∀ b, s.data[n.toNat]? = some b → K (.v (.int .u8 b.toNat))
 | .agg ds, .v (.int _ n) => ∃ l e z d, arrT P t = some (l, e) ∧ szT P e = some z ∧ 0 ≤ n ∧ n < (l : Int) ∧ getD P e ds (n.toNat * z) = some d ∧ K d
 | _, _ => False
theorem ba_get (s : ByteArray) (i : Nat) : s[i]? = s.data[i]? := by
 rcases Nat.lt_or_ge i s.size with h | h
 · rw [getElem?_pos s i h, Zi (show i < s.data.size from h)]; rfl
 · rw [getElem?_neg s i (by omega), Array.getElem?_eq_none (show s.data.size ≤ i from h)]
theorem rdL_part {ds : List D} {cs : Array Value} (q : rdL hd h W ds cs.toList) {t : TypeId} {o : Nat} {d : D} (hg : getD P t ds o = some d) : ∃ u, (part t cs o).run P w = .ok u w ∧ rd hd h W d u := by
 unfold getD at hg
 have hl := Ud q
 split at hg
 · rename_i n h1 h2
   split at hg
   · cases hg
     refine ⟨.agg (cs.extract o (o + n)), by simp [part, dr_agg h1, U7 h2], by rw [rd]; exact ⟨_, rfl, by have := Yl2 (Yl4 q o) n; simpa [List.extract_eq_take_drop] using this⟩⟩
   · cases hg
 · rename_i h1
   obtain ⟨u, e1, e2⟩ := ((Xg _ _).1 q).2 o d hg
   have e1' : cs[o]? = some u := by simpa using e1
   exact ⟨u, by simp [part, dr_agg h1, e1'], e2⟩
 · cases hg
theorem arrT_spec {t l e : Nat} (q : arrT P t = some (l, e)) : P.underlying t = some (.array l e) := by
 unfold arrT at q
 split at q
 · rename_i n e he; cases q; exact he
 · cases q
theorem run_ind {t : TypeId} {x i : D} {v u : Value} {K : D → Prop} (q : rd hd h W x v) (qi : rd hd h W i u) (hx : indA P t x i K) : ∃ r d, (Instr.index t v u).run P w = .ok r w ∧ K d ∧ rd hd h W d r := by
 unfold indA at hx
 split at hx
 · rename_i s κ n
   obtain ⟨h1, h2, h3, h4⟩ := hx
   rw [rd] at q qi; subst q; subst qi
   have hlt : n.toNat < s.data.size := by have : s.data.size = s.size := rfl; omega
   have hb := Zi hlt
   refine ⟨_, _, ?_, h4 _ hb, by rw [rd]⟩
   have e1 : s[n.toNat]? = some s.data[n.toNat] := (ba_get s _).trans hb
   simp [Instr.index, asIntOf, run_underlying (Zn9 h1), h2, e1]
 · rename_i ds κ n
   obtain ⟨l, e, z, d, h1, h2, h3, h4, h5, h6⟩ := hx
   simp only [rd] at q qi
   subst qi
   obtain ⟨cs, rfl, q⟩ := q
   obtain ⟨r, e1, e2⟩ := rdL_part (w := w) q h5
   exact ⟨r, d, by simp [Instr.index, asIntOf, run_underlying (arrT_spec h1), U7 h2, h3, h4, e1], h6, e2⟩
 · exact hx.elim
def bstD (P : Program) (a b : TypeId) (h : List Ob) (x : D) (K : D → Prop) : Prop := byT P a = true ∧ strT P b = true ∧ match x with
 | .sl _ xs => ∃ bs, xs = byD bs ∧ K (.v (.string ⟨bs.toArray⟩))
 | .buf i n => ∃ e xs bs, h[i]? = some (.buf e 1 xs) ∧ xs.length = n ∧ xs = byD bs ∧ K (.v (.string ⟨bs.toArray⟩))
 | .v (.slice none 0 0) => K (.v (.string ⟨#[]⟩))
 | _ => False
theorem Yg6 : ∀ (bs : List UInt8) (r : ByteArray), ((bs.map fun b => (b.toNat : Int)).foldl (fun r n => r.push (UInt8.ofNat n.toNat)) r) = ⟨(r.data.toList ++ bs).toArray⟩
 | [], r => by simp
 | b :: t, r => by
  rw [Ze, List.foldl_cons, Yg6 t]
  have : (r.push (UInt8.ofNat ((b.toNat : Int)).toNat)).data.toList = r.data.toList ++ [b] := by simp [ByteArray.push]
  rw [this]; simp
theorem run_bst {a b : TypeId} {v : Value} {bs : List UInt8} {ad : Option Addr} {n cap : Nat} (ha : byT P a = true) (hb : strT P b = true) (hv : v = .slice ad n cap) (hn : bs.length = n) (h0 : ad = none → n = 0)
 (hc : ∀ b q, ad = some ⟨b, q, none⟩ → ∀ (j : Nat) x, bs[j]? = some x → w.cell? ⟨b, q + j, none⟩ = some (.int .u8 x.toNat)) (hs : ∀ ad', ad = some ad' → 0 < n → ad'.spot = none) : (convert a b v).run P w = .ok (.string ⟨bs.toArray⟩) w := by
 obtain ⟨e, i, h1, h2, h3, _⟩ := Yq5 ha
 subst hv
 rw [run_convert_bytes_string w a b e ad n cap h1 h3 (Zn9 hb)]
 cases ad with
 | none =>
  have : bs = [] := Z2 (hn.trans (h0 rfl))
  subst this
  rfl
 | some ad =>
  have hl : (loadCells ad n).run P w = .ok ((bs.map fun b => (b.toNat : Int)).map (Value.int .u8)).toArray w := by
   have := run_loadCells_list (P := P) w ad ((bs.map fun b => (b.toNat : Int)).map (Value.int .u8)) fun j v hv => by
    simp only [Z5, Option.map_map, Z0] at hv
    obtain ⟨x, hx, rfl⟩ := hv
    have hpos : 0 < n := by have := (Z1.1 hx).1; omega
    obtain ⟨bb, qq, sp⟩ := ad
    have : sp = none := hs _ rfl hpos
    subst this
    rw [V7]; exact hc bb qq rfl j x hx
   rw [List.length_map, List.length_map, hn] at this
   exact this
  rw [run_bytesToString w ad n cap _ hl, Yg6]
  rfl
theorem Ye1 {bs : List UInt8} {i : Nat} {row : List D} : (byD bs)[i]? = some row ↔ ∃ b, bs[i]? = some b ∧ row = [.v (.int .u8 b.toNat)] := by
 unfold byD
 rw [Z5, Z0]
 exact ⟨fun ⟨b, h, e⟩ => ⟨b, h, e.symm⟩, fun ⟨b, h, e⟩ => ⟨b, h, e.symm⟩⟩
theorem run_bstD (o : Ok G w hd h p) {a b : TypeId} {x : D} {v : Value} {K : D → Prop} (q : rd hd h (only p w) x v) (hx : bstD P a b h x K) : ∃ u d, (convert a b v).run P w = .ok u w ∧ K d ∧ rd hd h (only p w) d u := by
 obtain ⟨ha, hb, hx⟩ := hx
 split at hx
 · rename_i k xs
   obtain ⟨bs, rfl, hk⟩ := hx
   rw [rd] at q
   obtain ⟨ad, cap, rfl, ⟨hn, _⟩, _, hr⟩ := q
   have hr := (Vf _ _ _ _).1 hr
   refine ⟨_, _, run_bst (bs := bs) ha hb rfl (by simp [byD]) (fun h => ?_) (fun bb qq he j x hj => ?_) (fun ad' he h0 => ?_), hk, by rw [rd]⟩
   · subst h
     cases hbs : bs with
     | nil => rfl
     | cons y t => 
      obtain ⟨_, _, _, e, _⟩ := hr 0 [.v (.int .u8 y.toNat)] (Ye1.2 ⟨y, by simp [hbs], rfl⟩)
      cases e
   · obtain ⟨hk1, b', q', e, hat⟩ := hr j _ (Ye1.2 ⟨x, hj, rfl⟩)
     rw [he] at e; cases e
     obtain ⟨u, e1, e2⟩ := (U3 _ _ _).1 hat 0 _ rfl
     rw [rd] at e2; subst e2
     have : k = 1 := hk1.symm
     subst this
     rw [show qq + j = qq + (0 + j * 1) + 0 by omega]
     exact Ym7 _ _ _ _ e1
   · cases hbs : bs with
     | nil => rw [hbs] at h0; simp [byD] at h0
     | cons y t =>
      obtain ⟨_, _, _, e, _⟩ := hr 0 [.v (.int .u8 y.toNat)] (Ye1.2 ⟨y, by simp [hbs], rfl⟩)
      rw [he] at e; cases e; rfl
 · rename_i i n
   obtain ⟨e, xs, bs, h1, h2, rfl, hk⟩ := hx
   rw [rd] at q
   have hu := (q.2.2 e 1 _ h1).2 h2
   obtain ⟨cs, q1, q2, q3, q4⟩ := o.ob i _ _ h1 hu
   obtain ⟨ad, cap, rfl⟩ := Jb q1
   refine ⟨_, _, run_bst (bs := bs) ha hb rfl (by simp [byD]) (fun h => ?_) (fun bb qq he j x hj => ?_) (fun ad' he h0 => ?_), hk, by rw [rd]⟩
   · subst h
     rcases q1.2 with ⟨_, hn⟩ | ⟨g, cap', cur, hsl, _⟩
     · exact hn
     · cases hsl
   · subst he
     rcases id q1.2 with ⟨hsl, _⟩ | ⟨g, cap', cur, hsl, _⟩
     · cases hsl
     · cases hsl
       have hf : (byD bs).flatten[j]? = some (.v (.int .u8 x.toNat)) := by
        have := Zq7 (byD bs) q3 j 0 (by omega)
        rw [Nat.mul_one, Nat.add_zero] at this
        rw [this, Ye1.2 ⟨x, hj, rfl⟩]; rfl
       obtain ⟨y, e1, e2⟩ := ((Xg _ _).1 q2).2 j _ hf
       rw [rd] at e2; subst e2
       rw [Nat.zero_add]; exact Zg0 q1 rfl e1
   · subst he
     rcases id q1.2 with ⟨hsl, _⟩ | ⟨g, cap', cur, hsl, _⟩
     · cases hsl
     · cases hsl; rfl
 · rw [rd] at q; subst q
   exact ⟨_, _, run_bst (bs := []) ha hb rfl rfl (fun _ => rfl) (fun _ _ e => by cases e) (fun _ e => by cases e), hx, by rw [rd]⟩
 · exact hx.elim
end
section
variable {P : Program} {G : Nat → D} {B : Base} {s : S} {a : Act} {w w' : World} {hd hd' : List Value} {h h' : List Ob} {p p' : Nat → Bool}
def on {α : Type} (x : Option α) (K : α → Prop) : Prop := match x with
 | some a => K a
 | none => False
theorem W6 {α : Type} {x : Option α} {K : α → Prop} : on x K ↔ ∃ a, x = some a ∧ K a := by cases x <;> simp [on]
def binV (P : Program) (op : BinOp) (t : TypeId) (x y : Operand) (X Y : Value) : Option D := (Vc P (do eqGuard op t x y X Y; binOp op t X Y)).map .v
def nilCmp (P : Program) (op : BinOp) (t : TypeId) : Option D := match P.underlying t, op with
 | some (.pointer _), .eql => some (.v (.bool false))
 | some (.pointer _), .neq => some (.v (.bool true))
 | _, _ => none
def binD (P : Program) (op : BinOp) (t : TypeId) (x y : Operand) : D → D → Option D
 | .v X, .v Y => binV P op t x y X Y
 | .ptr _ _, .v (.pointer none) | .rp _, .v (.pointer none) => nilCmp P op t
 | _, _ => none
def unD (P : Program) (op : UnOp) : D → Option D
 | .v X => (Vc P (Op.unary op X)).map .v
 | _ => none
def convD (P : Program) (a b : TypeId) : D → Option D
 | .v X => (Vc P (convert a b X)).map .v
 | _ => none
def extrD (i : Nat) : D → Option D
 | .tup ds => ds[i]?
 | _ => none
def fieldD (P : Program) (t f : Nat) : D → Option D
 | .agg ds => (fldT P t f).bind fun q => getD P q.2 ds q.1
 | _ => none
def addD (o : Nat) : D → Option D
 | .ptr i q => some (.ptr i (q + o))
 | .rp ds => some (.rp (ds.drop o))
 | .bp i n r j => some (.bp i n r (j + o))
 | _ => none
def nzT (P : Program) (t : TypeId) : Bool := match szT P t with
 | some n => n != 0
 | none => false
def Yi1 (P : Program) (t f : Nat) (d : D) : Option D := (fldT P t f).bind fun q => if nzT P q.2 then addD q.1 d else none
def isPtr : D → Bool
 | .ptr _ _ | .rp _ | .bp _ _ _ _ => true
 | _ => false
def idxA (P : Program) (h : List Ob) (t : TypeId) (x i : D) (K : D → Prop) : Prop := match i with
 | .v (.int _ n) => match x with
  | .sl k xs => ((elT P t).bind (szT P)) = some k ∧ 0 ≤ n ∧ n < (xs.length : Int) ∧ ∀ row, xs[n.toNat]? = some row → K (.rp row)
  | .buf i m => ∃ e k xs, h[i]? = some (.buf e k xs) ∧ xs.length = m ∧ ((elT P t).bind (szT P)) = some k ∧ 0 ≤ n ∧ n < (m : Int) ∧ K (.bp i m n.toNat 0)
  | .ptr i o => ∃ l e z, arrT P t = some (l, e) ∧ szT P e = some z ∧ 0 ≤ n ∧ n < (l : Int) ∧ K (.ptr i (o + n.toNat * z))
  | .rp ds => ∃ l e z, arrT P t = some (l, e) ∧ szT P e = some z ∧ 0 ≤ n ∧ n < (l : Int) ∧ K (.rp (ds.drop (n.toNat * z)))
  | .win i m a b => ∃ e k xs, h[i]? = some (.buf e k xs) ∧ xs.length = m ∧ ((elT P t).bind (szT P)) = some k ∧ 0 ≤ n ∧ n < ((b - a : Nat) : Int) ∧ K (.bp i m (a + n.toNat) 0)
  | _ => False
 | _ => False
def lenD (P : Program) (t : TypeId) : D → Option D
 | .sl _ xs => if slT P t then some (.v (.int .i64 xs.length)) else none
 | .buf _ n => if slT P t then some (.v (.int .i64 n)) else none
 | .v X => (Vc P (Builtin.len_ #[t] 0 #[X])).map .v
 | _ => none
def srcD (P : Program) (h : List Ob) (t u : TypeId) : D → Option (List (List D))
 | .sl _ ys => if t = u then some ys else none
 | .buf j m => if t = u then match h[j]? with
   | some (.buf _ _ ys) => if ys.length = m then some ys else none
   | _ => none
  else none
 | .win j m a b => if t = u then match h[j]? with
   | some (.buf _ _ ys) => if ys.length = m then some ((ys.take b).drop a) else none
   | _ => none
  else none
 | .v (.slice none 0 0) => if t = u then some [] else none
 | .v (.string s) => if strT P u && byT P t then some (byD s.data.toList) else none
 | _ => none
def Yz (k : Nat) (ys : List (List D)) : Prop := ∀ row ∈ ys, row.length = k ∧ ∀ d ∈ row, d.one = true
def apA (P : Program) (h : List Ob) (t u : TypeId) (x y : D) (K : List Ob → D → Prop) : Prop := ∃ e k by' ys, apT P t = some (e, k, by') ∧ srcD P h t u y = some ys ∧ Yz k ys ∧ match x with
 | .buf i n => ∃ xs, h[i]? = some (.buf e k xs) ∧ xs.length = n ∧ (n + ys.length) * (by' + 1) ≤ 140737488355328 ∧ K (h.set i (.buf e k (xs ++ ys))) (.buf i (n + ys.length))
 | .v (.slice none 0 0) => ys.length * (by' + 1) ≤ 140737488355328 ∧ K (h ++ [.buf e k ys]) (.buf h.length ys.length)
 | _ => False
def biA (P : Program) (h : List Ob) (b : Builtin) (tys : List TypeId) (args : List D) (K : List Ob → D → Prop) : Prop := match b, tys, args with
 | .len, [t], [x] => on (lenD P t x) (K h)
 | .append, [t, u], [x, y] => apA P h t u x y K
 | _, _, _ => False
def cvA (P : Program) (h : List Ob) (t u : TypeId) (x : D) (K : List Ob → D → Prop) : Prop := match x with
 | .v (.int κ n) => on (convD P t u (.v (.int κ n))) (K h)
 | .v (.string s) => (byT P u = true ∧ (P.underlying t).isSome = true ∧ s.size ≤ 140737488355328 ∧ K h (.sl 1 (byD s.data.toList))) ∨ (strT P u = true ∧ (P.underlying t).isSome = true ∧ K h (.v (.string s)))
 | x => bstD P t u h x (K h)
def aOp (P : Program) (G : Nat → D) (env : Nat → D) (h : List Ob) (K : List Ob → D → Prop) : Op → Prop
 | .move x | .assign x => K h (ev G env x)
 | .pick c x y => ∃ t, ev G env c = .v (.bool t) ∧ K h (if t then ev G env x else ev G env y)
 | .binOp op t x y _ => on (binD P op t x y (ev G env x) (ev G env y)) (K h)
 | .unOp op _ x => on (unD P op (ev G env x)) (K h)
 | .convert t u x => cvA P h t u (ev G env x) K
 | .extract x i => on (extrD i (ev G env x)) (K h)
 | .field t x f => on (fieldD P t f (ev G env x)) (K h)
 | .load t x => on (Zb1 P h t (ev G env x)) (K h)
 | .store t x y => on (Zd8 P h t (ev G env x) (ev G env y)) fun h' => K h' (.v undef)
 | .fieldAddr t x f => on (Yi1 P t f (ev G env x)) (K h)
 | .indexAddr t x i => idxA P h t (ev G env x) (ev G env i) (K h)
 | .nilCheck x => isPtr (ev G env x) = true ∧ K h (ev G env x)
 | .box _ x => on (ev G env x).cells fun ds => K (h ++ [.cells ds]) (.ptr h.length 0)
 | .alloc e => on (Uj P e) fun ds => K (h ++ [.cells ds]) (.ptr h.length 0)
 | .build t parts => on (Zv1 P t (parts.toList.map fun q => (q.1, ev G env q.2))) fun ds => K h (.agg ds)
 | .buildSlice t len parts => on (litD P t len (parts.toList.map fun q => (q.1, ev G env q.2))) fun r => K (h ++ [.buf r.1 r.2.1 r.2.2]) (.buf h.length len)
 | .slice t x lo hi none => slcA P t (ev G env x) (lo.map (ev G env)) (hi.map (ev G env)) (K h)
 | .index t x i => indA P t (ev G env x) (ev G env i) (K h)
 | .call ⟨.builtin b, args, tys⟩ => biA P h b tys.toList (args.toList.map (ev G env)) K
 | _ => False
def Gives (P : Program) (G : Nat → D) (w : World) (hd : List Value) (h : List Ob) (p : Nat → Bool) (K : List Ob → D → Prop) (r : Result Next) : Prop :=
 ∃ v w' hd' h' p' d, (r = .ok (.value v) w' ∨ (r = .ok .skip w' ∧ v = undef)) ∧ K h' d ∧ Ok G w' hd' h' p' ∧ rd hd' h' (only p' w') d v ∧ Evo w hd h p w' hd' h' p'
theorem Gives.same {K : List Ob → D → Prop} {d : D} {v : Value} (o : Ok G w hd h p) (hK : K h d) (q : rd hd h (only p w) d v) : Gives P G w hd h p K (.ok (.value v) w) := ⟨v, w, hd, h, p, d, .inl rfl, hK, o, q, .refl _ _ _ _⟩
theorem box_run {e : TypeId} {u : Value} : (Instr.box e u).run P w = .ok (.pointer (some ⟨w.heap.size, 0, none⟩)) (w.alloc (.cells u.cells e)) := by
 simp [Instr.box, newVar, newRow]
theorem Ok.box (o : Ok G w hd h p) {u : Value} {ds : List D} (q : rdL hd h (only p w) ds u.cells.toList) (e : TypeId) :
 ∃ hd' p', Ok G (w.alloc (.cells u.cells e)) hd' (h ++ [.cells ds]) p' ∧ Evo w hd h p (w.alloc (.cells u.cells e)) hd' (h ++ [.cells ds]) p' ∧ rd hd' (h ++ [.cells ds]) (only p' (w.alloc (.cells u.cells e))) (.ptr h.length 0) (.pointer (some ⟨w.heap.size, 0, none⟩)) := by
 have := o.grow (w' := w.alloc (.cells u.cells e)) (ob := .cells ds) (u := .pointer (some ⟨w.heap.size, 0, none⟩)) rfl rfl rfl (by simp) (fun b hb => J6 w _ hb) (fun b hb => by cases hb; rfl)
  (fun c sb => ⟨w.heap.size, u.cells, e, rfl, heap_alloc_new w _, Xv c sb _ _ q, by simp⟩)
 exact ⟨_, _, this.1, this.2, by rw [rd]; exact ⟨w.heap.size, by rw [← o.len]; simp, rfl⟩⟩
theorem rd_addD {d x : D} {v : Value} {k : Nat} {W : World} (q : rd hd h W d v) (hx : addD k d = some x) : ∃ b, v = .pointer (some b) ∧ rd hd h W x (.pointer (some (b.add k))) := by
 cases d with
 | ptr i o =>
  rw [rd] at q; obtain ⟨Bk, h1, rfl⟩ := q
  cases hx
  exact ⟨_, rfl, by rw [V7, rd]; exact ⟨Bk, h1, rfl⟩⟩
 | rp ds =>
  rw [rd] at q; obtain ⟨b, o, rfl, h1⟩ := q
  cases hx
  refine ⟨_, rfl, ?_⟩
  rw [V7, rd]
  exact ⟨b, o + k, rfl, (U3 _ _ _).2 fun j d hj => by
   rw [Za] at hj
   rw [Nat.add_assoc]; exact (U3 _ _ _).1 h1 _ d hj⟩
 | bp i n r j =>
  rw [rd] at q; obtain ⟨⟨a, rfl⟩, hi, h1⟩ := q
  cases hx
  refine ⟨_, rfl, ?_⟩
  rw [rd]
  refine ⟨⟨_, rfl⟩, hi, fun e kk xs hx => ⟨(h1 e kk xs hx).1, fun hn => ?_⟩⟩
  obtain ⟨Bk, cap, h2, h3⟩ := (h1 e kk xs hx).2 hn
  cases h3
  exact ⟨Bk, cap, h2, by rw [V7, Nat.add_assoc]⟩
 | _ => cases hx
theorem run_faddr {t f : Nat} {d x : D} {v : Value} {W : World} (q : rd hd h W d v) (hx : Yi1 P t f d = some x) : ∃ u, (Instr.fieldAt t v f).run P w = .ok u w ∧ rd hd h W x u := by
 unfold Yi1 at hx
 cases hf : fldT P t f with
 | none => rw [hf] at hx; cases hx
 | some q' =>
 obtain ⟨off, ft⟩ := q'
 rw [hf] at hx
 simp only [Z4] at hx
 split at hx
 rotate_left
 · cases hx
 rename_i hs0
 obtain ⟨n, hs⟩ : ∃ n, szT P ft = some (n + 1) := by
  unfold nzT at hs0
  split at hs0
  · rename_i n hn
    cases n with
    | zero => simp at hs0
    | succ n => exact ⟨n, hn⟩
  · cases hs0
 obtain ⟨b, rfl, h2⟩ := rd_addD q hx
 refine ⟨_, ?_, h2⟩
 unfold fldT at hf
 cases hu : P.underlying t with
 | none => rw [hu] at hf; cases hf
 | some td =>
 rw [hu] at hf
 cases td with
 | struct fs =>
  simp only at hf
  cases hff : fs[f]? with
  | none => rw [hff] at hf; cases hf
  | some F =>
   rw [hff] at hf
   cases hf
   simp [Instr.fieldAt, Go.underlying, hu, hff, Instr.sureAddr, fieldPlace, U7 hs]
 | _ => cases hf
theorem run_idx (o : Ok G w hd h p) {t : TypeId} {x i : D} {v u : Value} {K : D → Prop} (q : rd hd h (only p w) x v) (qi : rd hd h (only p w) i u) (hx : idxA P h t x i K) :
 ∃ r d, (Instr.indexAt t v u).run P w = .ok r w ∧ K d ∧ rd hd h (only p w) d r := by
 unfold idxA at hx
 split at hx
 rotate_left
 · exact hx.elim
 rename_i k0 n
 rw [rd] at qi; subst qi
 have el : ∀ {k : Nat}, ((elT P t).bind (szT P)) = some k → ∃ e, P.underlying t = some (.slice e) ∧ szT P e = some k := fun {k} q => by
  unfold elT at q
  split at q
  · rename_i e he; exact ⟨e, he, q⟩
  · cases q
 have ar : ∀ {l e : Nat}, arrT P t = some (l, e) → P.underlying t = some (.array l e) := fun {l e} q => by
  unfold arrT at q
  split at q
  · rename_i n e he; cases q; exact he
  · cases q
 split at hx
 · rename_i k xs
   obtain ⟨h1, h2, h3, h4⟩ := hx
   obtain ⟨e, he, hs⟩ := el h1
   rw [rd] at q; obtain ⟨ad, cap, rfl, _, _, hr⟩ := q
   obtain ⟨row, hrow⟩ : ∃ row, xs[n.toNat]? = some row := ⟨_, Z9 (by omega)⟩
   obtain ⟨hk, b, q0, rfl, hat⟩ := (Vf _ _ _ _).1 hr _ row hrow
   refine ⟨_, _, ?_, h4 row hrow, by rw [rd]; exact ⟨b, _, rfl, hat⟩⟩
   simp [Instr.indexAt, asIntOf, Go.underlying, he, U7 hs, h2, h3, V7]
 · rename_i i m
   obtain ⟨e0, k, xs, h1, h2, h3, h4, h5, h6⟩ := hx
   obtain ⟨e, he, hs⟩ := el h3
   rw [rd] at q
   obtain ⟨_, hi, q2⟩ := q
   have hu := (q2 e0 k xs h1).2 h2
   obtain ⟨cs, o1, _, _, _⟩ := o.ob i _ _ h1 hu
   rcases id o1.2 with ⟨rfl, hn⟩ | ⟨g, cap, cur, rfl, _⟩
   · omega
   · refine ⟨_, _, ?_, h6, by rw [rd]; exact ⟨⟨_, rfl⟩, hi, fun e' k' xs' hx' => by
      rw [h1] at hx'; cases hx'
      exact ⟨Nat.le_of_eq h2.symm, fun _ => ⟨g, cap, by rw [hu, h2], rfl⟩⟩⟩⟩
     have h5' : n < (xs.length : Int) := by omega
     simp [Instr.indexAt, asIntOf, Go.underlying, he, U7 hs, h4, h5', V7]
 · rename_i i o'
   obtain ⟨l, e, z, h1, h2, h3, h4, h5⟩ := hx
   rw [rd] at q; obtain ⟨Bk, q1, rfl⟩ := q
   refine ⟨_, _, ?_, h5, by rw [rd]; exact ⟨Bk, q1, rfl⟩⟩
   simp [Instr.indexAt, asIntOf, Go.underlying, ar h1, U7 h2, h3, h4, V7, Instr.sureAddr]
 · rename_i ds
   obtain ⟨l, e, z, h1, h2, h3, h4, h5⟩ := hx
   rw [rd] at q; obtain ⟨b, o', rfl, q1⟩ := q
   refine ⟨_, _, ?_, h5, by rw [rd]; exact ⟨b, o' + n.toNat * z, rfl, (U3 _ _ _).2 fun j d hj => by
    rw [Za] at hj
    rw [Nat.add_assoc]; exact (U3 _ _ _).1 q1 _ d hj⟩⟩
   simp [Instr.indexAt, asIntOf, Go.underlying, ar h1, U7 h2, h3, h4, V7, Instr.sureAddr]
 · rename_i i m a b
   obtain ⟨e0, k, xs, h1, h2, h3, h4, h5, h6⟩ := hx
   obtain ⟨e, he, hs⟩ := el h3
   rw [rd] at q
   obtain ⟨_, hi, q2⟩ := q
   obtain ⟨w1, w2, w3⟩ := (q2 e0 k xs h1).2 h2
   rcases w3 with ⟨rfl, hn⟩ | ⟨Bk, cap, q0, hv, rfl, hq⟩
   · omega
   · have hac : a < cap := by
      obtain ⟨cs, o1, _, _, _⟩ := o.ob i _ _ h1 hv
      rcases o1.2 with ⟨h7, _⟩ | ⟨g, cap', cur, h7, _, _, hnc, _⟩
      · cases h7
      · cases h7; omega
     refine ⟨.pointer (some ⟨Bk, q0 + n.toNat * k, none⟩), _, ?_, h6, by rw [rd]; exact ⟨⟨_, rfl⟩, hi, fun e' k' xs' hx' => by
      rw [h1] at hx'; cases hx'
      exact ⟨by omega, fun _ => ⟨Bk, cap, hv, by rw [hq (.inl hac), Nat.add_mul, Nat.add_zero]⟩⟩⟩⟩
     simp [Instr.indexAt, asIntOf, Go.underlying, he, U7 hs, h4, h5, V7]
 · exact hx.elim
theorem run_field {t f : Nat} {d x : D} {v : Value} {W : World} (q : rd hd h W d v) (hx : fieldD P t f d = some x) : ∃ u, (Instr.field t v f).run P w = .ok u w ∧ rd hd h W x u := by
 cases d with
 | agg ds =>
  rw [rd] at q; obtain ⟨cs, rfl, q⟩ := q
  simp only [fieldD] at hx
  cases hf : fldT P t f with
  | none => rw [hf] at hx; cases hx
  | some q' =>
  obtain ⟨off, ft⟩ := q'
  rw [hf] at hx
  obtain ⟨u, e1, e2⟩ := rdL_part (w := w) q hx
  refine ⟨u, ?_, e2⟩
  unfold fldT at hf
  cases hu : P.underlying t with
  | none => rw [hu] at hf; cases hf
  | some td =>
  rw [hu] at hf
  cases td with
  | struct fs =>
   simp only at hf
   cases hff : fs[f]? with
   | none => rw [hff] at hf; cases hf
   | some F =>
    rw [hff] at hf
    cases hf
    simp [Instr.field, Go.underlying, hu, hff, asAgg, e1]
  | _ => cases hf
 | _ => cases hx
theorem run_bin {op : BinOp} {t : TypeId} {x y : Operand} {X Y d : D} {v u : Value} {W : World} (q1 : rd hd h W X v) (q2 : rd hd h W Y u) (hx : binD P op t x y X Y = some d) :
 ∃ r, (do eqGuard op t x y v u; binOp op t v u : Sem Value).run P w = .ok r w ∧ rd hd h W d r := by
 have nilp : ∀ {b : Option Addr}, (∃ a, b = some a) → nilCmp P op t = some d → ∃ r, (do eqGuard op t x y (.pointer b) (.pointer none); binOp op t (.pointer b) (.pointer none) : Sem Value).run P w = .ok r w ∧ rd hd h W d r := fun {b} hb hx => by
  obtain ⟨a, rfl⟩ := hb
  unfold nilCmp at hx
  split at hx
  · rename_i hu _
    cases hx
    refine ⟨.bool false, ?_, by rw [rd]⟩
    have e : ∀ w, (Op.equal t (.pointer (some a)) (.pointer none)).run P w = .ok false w := fun w => by
     unfold Op.equal Op.maxDepth Op.equalIn
     simp [Go.underlying, hu]
    simp [eqGuard, binOp, e]
  · rename_i hu _
    cases hx
    refine ⟨.bool true, ?_, by rw [rd]⟩
    have e : ∀ w, (Op.equal t (.pointer (some a)) (.pointer none)).run P w = .ok false w := fun w => by
     unfold Op.equal Op.maxDepth Op.equalIn
     simp [Go.underlying, hu]
    simp [eqGuard, binOp, e]
  · cases hx
 unfold binD at hx
 split at hx
 · rw [rd] at q1 q2
   subst q1; subst q2
   unfold binV at hx
   rw [Z0] at hx
   obtain ⟨z, h1, rfl⟩ := hx
   exact ⟨z, Zc2 h1 w, by rw [rd]⟩
 · simp only [rd] at q1 q2
   obtain ⟨Bk, _, rfl⟩ := q1
   subst q2
   exact nilp ⟨_, rfl⟩ hx
 · simp only [rd] at q1 q2
   obtain ⟨b, o, rfl, _⟩ := q1
   subst q2
   exact nilp ⟨_, rfl⟩ hx
 · cases hx
theorem run_lenD {t : TypeId} {x d : D} {v : Value} {W : World} (q : rd hd h W x v) (hx : lenD P t x = some d) : ∃ u, (Builtin.len_ #[t] 0 #[v]).run P w = .ok u w ∧ rd hd h W d u := by
 have sl : slT P t = true → ∃ e, P.underlying t = some (.slice e) := fun k => by
  unfold slT at k
  split at k
  · exact ⟨_, by assumption⟩
  · cases k
 cases x with
 | sl k xs =>
  simp only [lenD] at hx
  split at hx
  · rename_i hs
    obtain ⟨e, he⟩ := sl hs
    cases hx
    rw [rd] at q; obtain ⟨a, cap, rfl, _⟩ := q
    exact ⟨_, by simp [Builtin.len_, Go.underlying, he, goInt]; rfl, by rw [rd]⟩
  · cases hx
 | buf i n =>
  simp only [lenD] at hx
  split at hx
  · rename_i hs
    obtain ⟨e, he⟩ := sl hs
    cases hx
    rw [rd] at q; obtain ⟨⟨a, cap, rfl⟩, _⟩ := q
    exact ⟨_, by simp [Builtin.len_, Go.underlying, he, goInt]; rfl, by rw [rd]⟩
  · cases hx
 | v X =>
  simp only [lenD] at hx
  rw [Z0] at hx
  obtain ⟨z, h3, rfl⟩ := hx
  rw [rd] at q; subst q
  exact ⟨z, Zc2 h3 w, by rw [rd]⟩
 | _ => cases hx
theorem byD_flat (s : ByteArray) : rdL hd h w (byD s.data.toList).flatten (Lib.strCells s) := by
 have : ∀ l : List UInt8, rdL hd h w (byD l).flatten (l.map fun b => .int .u8 b.toNat) := fun l => by
  induction l with
  | nil => simp only [byD, List.map_nil, Z3]; rw [rdL]
  | cons b t ih => show rdL hd h w (.v (.int .u8 b.toNat) :: (byD t).flatten) _; rw [Ze, rdL]; exact ⟨_, _, rfl, by rw [rd], ih⟩
 have e : Lib.strCells s = s.data.toList.map fun b => .int .u8 b.toNat := rfl
 rw [e]; exact this _
theorem rows_news {k : Nat} {W : World} (ad : Option Addr) : ∀ (ys : List (List D)) (o : Nat), W5 hd h W k ad o ys → ∃ news, rdL hd h W ys.flatten news ∧ news.length = ys.length * k ∧ ∀ b q, ad = some ⟨b, q, none⟩ → ∀ (j : Nat) u, news[j]? = some u → W.cell? ⟨b, q + o + j, none⟩ = some u
 | [], o, _ => ⟨[], by simp only [Z3]; rw [rdL], by simp, fun _ _ _ j u hj => by simp at hj⟩
 | ds :: t, o, q => by
  rw [W5] at q
  obtain ⟨⟨b, r, rfl, hat⟩, hk, ht⟩ := q
  obtain ⟨news, n1, n2, n3⟩ := rows_news (some ⟨b, r, none⟩) t (o + k) ht
  have hat' := (U3 _ _ _).1 hat
  have key : ∀ j, ∃ u, j < k → ∃ d, ds[j]? = some d ∧ W.cell? ⟨b, r + o + j, none⟩ = some u ∧ rd hd h W d u := fun j => by
   by_cases hj : j < k
   · obtain ⟨u, h1, h2⟩ := hat' j _ (Z9 (by omega))
     exact ⟨u, fun _ => ⟨_, Z9 (by omega), h1, h2⟩⟩
   · exact ⟨.nilFunc, fun h => absurd h hj⟩
  obtain ⟨f, hf⟩ : ∃ f : Nat → Value, ∀ j, j < k → ∃ d, ds[j]? = some d ∧ W.cell? ⟨b, r + o + j, none⟩ = some (f j) ∧ rd hd h W d (f j) := ⟨fun j => (key j).choose, fun j => (key j).choose_spec⟩
  refine ⟨(List.range k).map f ++ news, ?_, by simp [n2, Nat.succ_mul]; omega, fun b' q' he j u hj => ?_⟩
  · rw [Z6]
    refine Wr ((Xg _ _).2 ⟨by simp [hk], fun j d hd' => ?_⟩) n1
    have hj : j < k := hk ▸ (Z1.1 hd').1
    obtain ⟨d', e1, _, e3⟩ := hf j hj
    rw [e1] at hd'; cases hd'
    exact ⟨_, by simp [hj], e3⟩
  · cases he
    rcases Nat.lt_or_ge j k with hj' | hj'
    · rw [Z8 (by simpa using hj')] at hj
      obtain ⟨d', _, e2, _⟩ := hf j hj'
      simp [hj'] at hj
      rw [← hj]; exact e2
    · rw [List.getElem?_append_right (by simpa using hj')] at hj
      have := n3 b r rfl (j - k) u (by simpa using hj)
      rw [show r + o + j = r + (o + k) + (j - k) by omega]; exact this
theorem Zb6 {k : Nat} {ys : List (List D)} (q : Yz k ys) : ys.flatten.all D.one = true := by
 rw [List.all_eq_true]
 intro d hd
 obtain ⟨row, h1, h2⟩ := List.mem_flatten.1 hd
 exact (q row h1).2 d h2
theorem srcD_spec (o : Ok G w hd h p) {t u' k : Nat} {y : D} {u : Value} {ys : List (List D)} (q : rd hd h (only p w) y u) (hs : srcD P h t u' y = some ys) (hk : Yz k ys) :
 (t = u' ∧ ∃ news, Src w k u ys.length news ∧ rdL hd h (only p w) ys.flatten news) ∨ (strT P u' = true ∧ byT P t = true ∧ ∃ s, u = .string s ∧ ys = byD s.data.toList) := by
 unfold srcD at hs
 split at hs
 · rename_i k' ys'
   split at hs
   · rename_i ht
     cases hs
     rw [rd] at q; obtain ⟨ad, cap, rfl, ⟨hn, _⟩, _, hr⟩ := q
     have hr' : W5 hd h (only p w) k' ad 0 ys := hr
     have hkk : ys = [] ∨ k' = k := by
      cases ys with
      | nil => exact .inl rfl
      | cons r t => rw [W5] at hr; exact .inr (hr.2.1.symm.trans (hk r (by simp)).1)
     rcases hkk with rfl | rfl
     · refine .inl ⟨ht, [], ⟨ad, cap, rfl, by simp, fun h => ⟨rfl, hn h⟩, fun ad _ j q hq => by simp at hq, by simp⟩, by simp only [Z3]; rw [rdL]⟩
     · obtain ⟨news, n1, n2, n3⟩ := rows_news ad ys 0 hr'
       refine .inl ⟨ht, news, ⟨ad, cap, rfl, n2, fun h => ⟨?_, hn h⟩, fun ad' hd' j q hq => ?_, Zi6 n1 (Zb6 hk)⟩, n1⟩
       · cases ys with
         | nil => rfl
         | cons r t => rw [W5] at hr'; obtain ⟨⟨b, q, e, _⟩, _⟩ := hr'; rw [h] at e; cases e
       · cases ys with
         | nil => have e : news = [] := Z2 (by simpa using n2)
                  rw [e] at hq; simp at hq
         | cons r t =>
          rw [W5] at hr'
          obtain ⟨⟨b, q0, e, _⟩, _⟩ := hr'
          rw [hd'] at e; cases e
          rw [V7]
          exact Ym7 _ _ _ _ (n3 b q0 hd' j q hq)
   · cases hs
 · rename_i j m
   split at hs
   rotate_left
   · cases hs
   rename_i ht
   cases hj : h[j]? with
   | none => rw [hj] at hs; cases hs
   | some ob =>
   rw [hj] at hs
   cases ob with
   | buf e k' ys' =>
    simp only at hs
    split at hs
    · rename_i hm
      cases hs
      rw [rd] at q
      have hu := (q.2.2 e k' ys hj).2 hm
      obtain ⟨cs, q1, q2, q3, q4⟩ := o.ob j _ _ hj hu
      have hkk : ys = [] ∨ k' = k := by
       cases ys with
       | nil => exact .inl rfl
       | cons r t => exact .inr ((q3 r (by simp)).symm.trans (hk r (by simp)).1)
      refine .inl ⟨ht, cs, ?_, q2⟩
      have hlen : cs.length = ys.length * k := by
       rcases hkk with rfl | rfl
       · simpa using q1.1
       · exact q1.1
      rcases id q1.2 with ⟨rfl, hn⟩ | ⟨g, cap, cur, rfl, _, hg, hnc, hcm, hcs, htake⟩
      · exact ⟨none, 0, by rw [hn], by rw [hlen], fun _ => ⟨hn, rfl⟩, (fun ad h => by cases h), Zi6 q2 (Zb6 hk)⟩
      · refine ⟨some ⟨g, 0, none⟩, cap, rfl, hlen, by simp, fun ad hd' j q hq => ?_, Zi6 q2 (Zb6 hk)⟩
        cases hd'
        rw [V7, Nat.zero_add]
        exact Zg0 q1 rfl hq
    · cases hs
   | _ => cases hs
 · rename_i j m a b
   split at hs
   rotate_left
   · cases hs
   rename_i ht
   cases hj : h[j]? with
   | none => rw [hj] at hs; cases hs
   | some ob =>
   rw [hj] at hs
   cases ob with
   | buf e k' zs =>
    simp only at hs
    split at hs
    · rename_i hm
      cases hs
      rw [rd] at q
      obtain ⟨_, _, q⟩ := q
      obtain ⟨wab, wbm, q⟩ := (q e k' zs hj).2 hm
      have hlen : ((zs.take b).drop a).length = b - a := by simp; omega
      rcases q with ⟨rfl, hm0⟩ | ⟨Bk, cap, q0, hv, rfl, hq⟩
      · have h0 : (zs.take b).drop a = [] := Z2 (by rw [hlen]; omega)
        rw [h0]
        exact .inl ⟨ht, [], ⟨none, 0, rfl, by simp, fun _ => ⟨rfl, rfl⟩, by simp, by simp⟩, by simp only [Z3]; rw [rdL]⟩
      · by_cases hab : a = b
        · have h0 : (zs.take b).drop a = [] := Z2 (by rw [hlen]; omega)
          rw [h0]
          refine .inl ⟨ht, [], ⟨some ⟨Bk, q0, none⟩, cap - a, by rw [show b - a = 0 by omega]; rfl, by simp, (fun h => by cases h), fun ad _ j q hq => by simp at hq, by simp⟩, by simp only [Z3]; rw [rdL]⟩
        obtain ⟨cs, q1, q2, q3, q4⟩ := o.ob j _ _ hj hv
        rcases id q1.2 with ⟨h5, _⟩ | ⟨g, cap', cur, h5, _, hg, hnc, hcm, hcs, htake⟩
        · cases h5
        cases h5
        have hk' : k' = k := by
         have hne : 0 < ((zs.take b).drop a).length := by omega
         obtain ⟨row, hrow⟩ : ∃ row, row ∈ (zs.take b).drop a := ⟨_, List.getElem_mem hne⟩
         exact (q3 row (List.mem_of_mem_take (List.mem_of_mem_drop hrow))).symm.trans (hk row hrow).1
        subst hk'
        have hq1 := hq (.inl (by omega))
        subst hq1
        have hfl : ∀ (ys : List (List D)), (∀ row ∈ ys, row.length = k') → ∀ c, (ys.take c).flatten = ys.flatten.take (c * k') ∧ (ys.drop c).flatten = ys.flatten.drop (c * k') := fun ys => by
         induction ys with
         | nil => intro _ c; simp
         | cons x s ih =>
          intro hx c
          have ex := hx x (by simp)
          cases c with
          | zero => simp
          | succ c =>
           obtain ⟨i1, i2⟩ := ih (fun row hr => hx row (by simp [hr])) c
           have e1 : (c + 1) * k' - k' = c * k' := by rw [Nat.succ_mul]; omega
           have e2 : k' ≤ (c + 1) * k' := by rw [Nat.succ_mul]; omega
           refine ⟨?_, ?_⟩
           · rw [List.take_succ_cons, Z6, Z6, i1, List.take_append, ex, e1, List.take_of_length_le (l := x) (by omega)]
           · rw [List.drop_succ_cons, Z6, i2, List.drop_append, ex, e1, List.drop_of_length_le (l := x) (by omega), List.nil_append]
        have hro : ((zs.take b).drop a).flatten = (zs.flatten.take (b * k')).drop (a * k') := by
         rw [(hfl (zs.take b) (fun row hr => q3 row (List.mem_of_mem_take hr)) a).2, (hfl zs q3 b).1]
        have hnews := Yl4 (Yl2 q2 (b * k')) (a * k')
        rw [← hro] at hnews
        have hcl := q1.1
        have hbm : b * k' ≤ zs.length * k' := Nat.mul_le_mul_right _ (by omega)
        refine .inl ⟨ht, (cs.take (b * k')).drop (a * k'), ⟨some ⟨Bk, a * k', none⟩, cap - a, by rw [hlen], by rw [hlen, List.length_drop, List.length_take, hcl, Nat.sub_mul]; omega, by simp, fun ad hd' j' v hv' => ?_, Zi6 hnews (Zb6 hk)⟩, hnews⟩
        cases hd'
        rw [V7]
        rw [Za, Zb] at hv'
        split at hv'
        · exact Zg0 q1 (by rw [hm]) hv'
        · cases hv'
    · cases hs
   | _ => cases hs
 · split at hs
   · rename_i ht
     cases hs
     rw [rd] at q; subst q
     exact .inl ⟨ht, [], ⟨none, 0, rfl, by simp, fun _ => ⟨rfl, rfl⟩, by simp, by simp⟩, by simp only [Z3]; rw [rdL]⟩
   · cases hs
 · rename_i s
   split at hs
   · rename_i hb
     simp only [Zk] at hb
     cases hs
     rw [rd] at q
     exact .inr ⟨hb.1, hb.2, s, q, rfl⟩
   · cases hs
 · cases hs
theorem Zy8 {t e : TypeId} {i : TypeInfo} {z : Value} {k : Nat} (ht : P.underlying t = some (.slice e)) (hi : P.info? e = some i) (hz : i.zero = some z) {v : Value} {n : Nat} {cs : List Value} {ax : Option Addr} {c : Nat} (q : w.ownsRow 0 e k v n cs) :
 (Builtin.append_ #[t, t] 0 #[v, .slice ax 0 c]).run P w = .ok v w := by
 rcases q.2 with ⟨rfl, rfl⟩ | ⟨g, cap, cur, rfl, _, _, hnc, _⟩ <;> cases ax <;> simp [Builtin.append_, run_underlying ht, Go.sizeOf, typeInfo, hi, Builtin.lenOf, Builtin.firstCells, storeCells, loadCells, loadCellsFrom, *]
theorem Zl4 {t u e : TypeId} {i : TypeInfo} {z : Value} {k : Nat} (ht : P.underlying t = some (.slice e)) (hu : P.underlying u = some .string) (hi : P.info? e = some i) (hz : i.zero = some z) {v : Value} {n : Nat} {cs : List Value} (q : w.ownsRow 0 e k v n cs) (s : ByteArray) (h0 : s.size = 0) :
 (Builtin.append_ #[t, u] 0 #[v, .string s]).run P w = .ok v w := by
 have hs : s.data = #[] := Array.eq_empty_of_size_eq_zero h0
 rcases q.2 with ⟨rfl, rfl⟩ | ⟨g, cap, cur, rfl, _, _, hnc, _⟩ <;> simp [Builtin.append_, run_underlying ht, run_underlying hu, Go.sizeOf, typeInfo, hi, Builtin.lenOf, Builtin.firstCells, storeCells, h0, hs, *]
theorem apCore (o : Ok G w hd h p) {i t u' e k by' : Nat} {xs ys : List (List D)} {y : D} {v u : Value} (ha : apT P t = some (e, k, by')) (hi : h[i]? = some (.buf e k xs)) (hv : hd[i]? = some v) (q : rd hd h (only p w) y u) (hs : srcD P h t u' y = some ys) (hk : Yz k ys)
 (hb : (xs.length + ys.length) * (by' + 1) ≤ 140737488355328) : ∃ v' w' hd' p', (Builtin.append_ #[t, u'] 0 #[v, u]).run P w = .ok v' w' ∧ Ok G w' hd' (h.set i (.buf e k (xs ++ ys))) p' ∧ rd hd' (h.set i (.buf e k (xs ++ ys))) (only p' w') (.buf i (xs.length + ys.length)) v' ∧ Evo w hd h p w' hd' (h.set i (.buf e k (xs ++ ys))) p' := by
 obtain ⟨hu, inf, z, hinf, hz, hsz, hby, hzs, hpos⟩ := Yq7 ha
 obtain ⟨cs, q1, q2, q3, q4⟩ := o.ob i _ _ hi hv
 have hih : i < h.length := (Z1.1 hi).1
 have hihd : i < hd.length := by rw [o.len]; exact hih
 have b1 : xs.length + ys.length ≤ 140737488355328 := by
  have : (xs.length + ys.length) * 1 ≤ (xs.length + ys.length) * (by' + 1) := Zf _ (by omega)
  omega
 have b2 : (xs.length + ys.length) * by' ≤ 140737488355328 := by
  have : (xs.length + ys.length) * by' ≤ (xs.length + ys.length) * (by' + 1) := Zf _ (by omega)
  omega
 have b3 : xs.length + ys.length ≤ maxLen := by unfold maxLen; omega
 by_cases hy : ys = []
 · subst hy
   have hset : h.set i (.buf e k (xs ++ [])) = h := by
    rw [List.append_nil]
    apply Zj
    intro j
    by_cases hij : i = j
    · subst hij; rw [Zc hih, hi]
    · rw [List.getElem?_set_ne hij]
   rw [hset]
   have hrun : (Builtin.append_ #[t, u'] 0 #[v, u]).run P w = .ok v w := by
    rcases srcD_spec o q hs hk with ⟨rfl, news, ⟨ax, c, rfl, _⟩, _⟩ | ⟨hst, _, s, rfl, hys⟩
    · exact Zy8 hu hinf hz q1
    · have hst' : P.underlying u' = some .string := by
       unfold strT at hst
       split at hst
       · assumption
       · cases hst
      refine Zl4 hu hst' hinf hz q1 s ?_
      have := congrArg List.length hys
      simpa [byD] using this.symm
   refine ⟨v, w, hd, p, hrun, o, ?_, .refl _ _ _ _⟩
   rw [rd]
   refine ⟨?_, .of hi rfl, fun e' k' xs' hx => by rw [hi] at hx; cases hx; exact ⟨by simp, fun _ => hv⟩⟩
   obtain ⟨a', c', rfl⟩ := Jb q1
   exact ⟨a', c', by simp⟩
 · have hdone : ∃ v' w' news, (Builtin.append_ #[t, u'] 0 #[v, u]).run P w = .ok v' w' ∧ Appd w w' 0 e k v v' (xs.length + ys.length) (cs ++ news) ∧ rdL hd h (only p w) ys.flatten news := by
    rcases srcD_spec o q hs hk with ⟨rfl, news, hsrc, hr⟩ | ⟨hst, hbt, s, rfl, rfl⟩
    · obtain ⟨v', w', e1, e2⟩ := Ye9 (P := P) (ty := 0) hu hinf hz hsz hby hzs hpos q1 hsrc b3 b2 (Zn _)
      exact ⟨v', w', news, e1, e2, hr⟩
    · have hst' : P.underlying u' = some .string := by
       unfold strT at hst
       split at hst
       · assumption
       · cases hst
      have hsize : (byD s.data.toList).length = s.size := by simp [byD]
      have hz8 : i ≤ i ∧ inf.zero = some (.int .u8 0) ∧ inf.size = 1 ∧ inf.bytes = 1 := by
       obtain ⟨e8, i8, b1, b2, _, b4, b5, b6⟩ := Yq5 hbt
       rw [hu] at b1; cases b1
       rw [hinf] at b2; cases b2
       exact ⟨Zm _, b4, b5, b6⟩
      obtain ⟨_, hz1, hz2, hz3⟩ := hz8
      have hk1 : k = 1 := hsz.symm.trans hz2
      subst hk1
      rw [hsize] at b1 b3 ⊢
      obtain ⟨v', w', e1, e2⟩ := Ye8 (P := P) (ty := 0) hu hst' hinf hz1 hz2 hz3 q1 s b3 b1 (Zn _)
      exact ⟨v', w', _, e1, e2, byD_flat s⟩
   obtain ⟨v', w', news, hrun, ⟨hown, hgr, hat⟩, hnews⟩ := hdone
   have hblk : ∀ {x : Value} {n : Nat} {l : List Value} {W : World}, W.ownsRow 0 e k x n l → blk x = x.ownBlock := fun {x n l W} hx => by
    obtain ⟨a', c', rfl⟩ := Jb hx
    cases a' <;> rfl
   have res := o.repl (h0 := run_drawn_ok hrun) (w' := w') (ob' := .buf e k (xs ++ ys)) (u' := v') hi hv rfl hgr.os hgr.tape hgr.output hgr.size (fun b hb hn => hgr.block b hb fun he => hn (by rw [hblk q1]; exact he.symm))
    (fun b hb => by
     rw [hblk hown] at hb
     rcases hat with h | h
     · rw [h, ← hblk q1] at hb; exact .inl hb
     · rw [h] at hb; cases hb; exact .inr rfl)
    (fun Bk hB => by obtain ⟨a', c', rfl⟩ := Jb q1; rcases hB with hB | hB <;> cases hB)
    (fun E K' xs' he => by cases he; exact ⟨e, xs, rfl, by simp, fun hl => by
     exfalso
     have : ys.length = 0 := by simp at hl; exact List.length_eq_zero_iff.2 hl
     exact hy (Z2 this)⟩)
    (fun c sb => ⟨cs ++ news, by rw [List.length_append]; exact hown, by rw [List.flatten_append]; exact Wr (Xv c sb _ _ q2) (Xv c sb _ _ hnews), fun row hr => by
     rcases List.mem_append.1 hr with h | h
     · exact q3 row h
     · exact (hk row h).1, fun g hg => by
     rw [hblk hown] at hg
     rcases hat with h | h
     · rw [h, ← hblk q1] at hg; simp [q4 g hg]
     · rw [h] at hg; cases hg; simp⟩)
   refine ⟨v', w', _, _, hrun, res.1, ?_, res.2⟩
   rw [rd]
   obtain ⟨a', c', he⟩ := Jb hown
   refine ⟨⟨a', c', by rw [he]⟩, .of (Zc hih) rfl, fun e' k' xs' hx => ?_⟩
   rw [Zc hih] at hx
   cases hx
   exact ⟨by simp, fun _ => by simp [hihd]⟩
theorem run_apA (o : Ok G w hd h p) {t u' : TypeId} {x y : D} {v u : Value} {K : List Ob → D → Prop} (q1 : rd hd h (only p w) x v) (q2 : rd hd h (only p w) y u) (hx : apA P h t u' x y K) :
 ∃ v' w' hd' h' p' d, (Builtin.append_ #[t, u'] 0 #[v, u]).run P w = .ok v' w' ∧ K h' d ∧ Ok G w' hd' h' p' ∧ rd hd' h' (only p' w') d v' ∧ Evo w hd h p w' hd' h' p' := by
 obtain ⟨e, k, by', ys, ha, hs, hk, hx⟩ := hx
 split at hx
 · rename_i i n
   obtain ⟨xs, h1, rfl, h3, h4⟩ := hx
   rw [rd] at q1
   have hv := (q1.2.2 e k xs h1).2 rfl
   obtain ⟨v', w', hd', p', e1, e2, e3, e4⟩ := apCore o ha h1 hv q2 hs hk h3
   exact ⟨v', w', hd', _, p', _, e1, h4, e2, e3, e4⟩
 · obtain ⟨h3, h4⟩ := hx
   rw [rd] at q1; subst q1
   have g := o.grow (w' := w) (ob := .buf e k []) (u := .slice none 0 0) rfl rfl rfl (Zm _) (fun _ _ => rfl) (fun b hb => by cases hb) (fun c sb => ⟨[], ⟨by simp, .inl ⟨rfl, rfl⟩⟩, by simp only [Z3]; rw [rdL], by simp, fun g hg => by cases hg⟩)
   have hs' : srcD P (h ++ [.buf e k []]) t u' y = some ys := by
    unfold srcD at hs ⊢
    split at hs
    · exact hs
    · rename_i j m
      split at hs
      · rename_i ht
        rw [if_pos ht]
        cases hj : h[j]? with
        | none => rw [hj] at hs; cases hs
        | some ob => rw [Z8 (Z1.1 hj).1, hj]; rw [hj] at hs; exact hs
      · cases hs
    · rename_i j m a b
      split at hs
      · rename_i ht
        rw [if_pos ht]
        cases hj : h[j]? with
        | none => rw [hj] at hs; cases hs
        | some ob => rw [Z8 (Z1.1 hj).1, hj]; rw [hj] at hs; exact hs
      · cases hs
    · exact hs
    · exact hs
    · cases hs
   have hlast : (h ++ [Ob.buf e k []])[h.length]? = some (.buf e k []) := by simp
   obtain ⟨v', w', hd', p', e1, e2, e3, e4⟩ := apCore (i := h.length) (v := .slice none 0 0) g.1 ha hlast (by rw [← o.len]; simp) (g.2.rd o q2) hs' hk (by simpa using h3)
   rw [show (h ++ [Ob.buf e k []]).set h.length (.buf e k ([] ++ ys)) = h ++ [.buf e k ys] by rw [List.set_append_right _ _ (Zm _)]; simp] at e2 e3 e4
   rw [show ([] : List (List D)).length + ys.length = ys.length by simp] at e3
   exact ⟨v', w', hd', _, p', _, e1, h4, e2, e3, g.2.trans e4⟩
 · exact hx.elim
theorem run_cvA (o : Ok G w hd h p) {t u' : TypeId} {x : D} {v : Value} {K : List Ob → D → Prop} (q : rd hd h (only p w) x v) (hx : cvA P h t u' x K) : ∃ u d w' p', (convert t u' v).run P w = .ok u w' ∧ K h d ∧ Ok G w' hd h p' ∧ rd hd h (only p' w') d u ∧ Evo w hd h p w' hd h p' := by
 unfold cvA at hx
 split at hx
 · rename_i κ n
   obtain ⟨d, h1, h2⟩ := W6.1 hx
   simp only [convD] at h1
   rw [Z0] at h1
   obtain ⟨z, h3, rfl⟩ := h1
   rw [rd] at q; subst q
   exact ⟨z, _, w, p, Zc2 h3 w, h2, o, by rw [rd], .refl _ _ _ _⟩
 · rename_i s
   rw [rd] at q; subst q
   rcases hx with ⟨hb, ht, hs, hk⟩ | ⟨hb, ht, hk⟩
   · obtain ⟨e, i, h1, h2, h3, h4, h5, h6⟩ := Yq5 hb
     cases htt : P.underlying t with
     | none => rw [htt] at ht; cases ht
     | some td =>
     let cap := Question.cut (.appendCap s.size 0 e) (w.tape w.drawn (.appendCap s.size 0 e))
     have hcap : s.size ≤ cap ∧ cap < s.size + (2 ^ 63 - s.size) := by
      constructor
      · exact Nat.le_add_right _ _
      · have : (w.tape w.drawn (.appendCap s.size 0 e)) % (2 ^ 63 - s.size) < 2 ^ 63 - s.size := Nat.mod_lt _ (by omega)
        show s.size + _ % (2 ^ 63 - s.size) < _
        omega
     let cs : Array Value := (s.data.map fun b => Value.int .u8 b.toNat) ++ Zl (cap - s.size) (.int .u8 0)
     have hsz : cs.size = cap := by
      have : s.data.size = s.size := rfl
      simp [cs, this]; omega
     have hrun : (convert t u' (.string s)).run P w = .ok (.slice (some ⟨w.heap.size, 0, none⟩) s.size cap) ((World.alloc { w with drawn := w.drawn + 1 } (.cells cs e)).freeze ⟨w.heap.size, cs.size, none⟩ 1) := by
      have e0 : (convert t u' (.string s)).run P w = (Conv.stringToBytes e s).run P w := by
       simp only [convert, Sem.run_bind, run_underlying htt, run_underlying h1, Result.andThen_ok]
       cases td <;> simp [run_underlying h3]
      rw [e0]
      simp only [Conv.stringToBytes, Sem.run_bind, run_choose, Question.forced, Bool.false_eq_true, if_false, Result.andThen_ok, newRow, run_newObj, Sem.run_pure, markStringish, run_shape]
      have hsh : (World.shape? { heap := w.heap.push (.cells cs e), tape := w.tape, drawn := w.drawn + 1, os := w.os, output := w.output } w.heap.size) = some (e, cs.size) := by simp [World.shape?]
      have hsh' := hsh
      simp only [cs, cap] at hsh'
      simp only [hsh', run_freeze, Result.andThen_ok]
      rfl
     have hw : (World.alloc { w with drawn := w.drawn + 1 } (.cells cs e)).freeze ⟨w.heap.size, cs.size, none⟩ 1 = World.alloc { w with drawn := w.drawn + 1 } (.cells cs e (cs.size, cs.size + 1)) := by
      unfold World.freeze World.alloc
      simp only [Nat.one_ne_zero, if_false]
      congr 1
      apply Array.ext_getElem?
      intro i
      simp only [Array.getElem?_modify, Array.getElem?_push]
      by_cases hi : w.heap.size = i
      · subst hi; simp
      · simp [hi, Ne.symm hi]
     have d1 := o.drew
     have d2 := d1.1.made (.cells cs e (cs.size, cs.size + 1))
     refine ⟨_, _, _, _, hrun, hk, by rw [hw]; exact d2.1, ?_, by rw [hw]; exact d1.2.trans d2.2⟩
     rw [hw, rd]
     refine ⟨_, cap, by simp [byD]; rfl, ⟨by simp, by simp [byD]; exact hcap.1⟩, by unfold maxLen; omega, (Vf _ _ _ _).2 fun i row hi => ?_⟩
     obtain ⟨b, hb', rfl⟩ := Ye1.1 hi
     refine ⟨rfl, w.heap.size, 0, rfl, (U3 _ _ _).2 fun j d hj => ?_⟩
     cases j with
     | succ j => simp at hj
     | zero =>
      simp at hj; subst hj
      refine ⟨.int .u8 b.toNat, ?_, by rw [rd]⟩
      rw [Zg1, if_pos (by simp)]
      rw [cell_of_row _ w.heap.size _ cs e (cs.size, cs.size + 1) (by simp [World.alloc])]
      have hlt : i < s.data.size := by have := (Z1.1 hb').1; simpa using this
      simp only [cs]
      rw [show 0 + (0 + i * 1) + 0 = i by omega, Zg (by simpa using hlt)]
      simp only [Array.getElem?_map]
      rw [show s.data[i]? = some b by simpa using hb']; rfl
   · cases htt : P.underlying t with
     | none => rw [htt] at ht; cases ht
     | some td =>
     exact ⟨.string s, _, w, p, by simp only [convert, Sem.run_bind, run_underlying htt, run_underlying (Zn9 hb), Result.andThen_ok]; cases td <;> simp, hk, o, by rw [rd], .refl _ _ _ _⟩
 · obtain ⟨u, d, h1, h2, h3⟩ := run_bstD o q hx
   exact ⟨u, d, w, p, h1, h2, o, h3, .refl _ _ _ _⟩
theorem Zr6 {K : List Ob → D → Prop} {op : Op} {dst : Option Nat} {ty : TypeId} {pos : String} {aft : Array Edge} {gd : Option (Nat × Bool)} (r : Sat G B s a w hd p) (hx : aOp P G s.env s.h K op) : Gives P G w hd s.h p K ((execOp a.eval ⟨dst, op, ty, pos, aft, gd⟩).run P w) := by
 have val : ∀ {m : Sem Value}, (∃ v d, m.run P w = .ok v w ∧ K s.h d ∧ rd hd s.h (only p w) d v) → Gives P G w hd s.h p K ((do pure (Next.value (← m)) : Sem Next).run P w) := fun {m} ⟨v, d, e, k, q⟩ => by
  simp [e]; exact Gives.same r.ok k q
 cases op <;> try exact hx.elim
 case move x => exact Gives.same r.ok hx (r.ev x)
 case assign x => exact Gives.same r.ok hx (r.ev x)
 case pick c x y =>
  obtain ⟨t, h1, h2⟩ := hx
  have hc := r.ev c
  rw [h1, rd] at hc
  have : (execOp a.eval ⟨dst, .pick c x y, ty, pos, aft, gd⟩).run P w = .ok (.value (if t then a.eval x else a.eval y)) w := by cases t <;> simp [execOp, hc, asBool]
  rw [this]
  refine Gives.same r.ok h2 ?_
  cases t
  · exact r.ev y
  · exact r.ev x
 case binOp op t x y yt =>
  obtain ⟨d, h1, h2⟩ := W6.1 hx
  obtain ⟨v, e, q⟩ := run_bin (w := w) (r.ev x) (r.ev y) h1
  exact val ⟨v, d, e, h2, q⟩
 case unOp op t x =>
  obtain ⟨d, h1, h2⟩ := W6.1 hx
  have q := r.ev x
  generalize ev G s.env x = X at q h1
  cases X <;> try cases h1
  case v X =>
   simp only [unD] at h1
   rw [Z0] at h1
   obtain ⟨z, h3, rfl⟩ := h1
   rw [rd] at q
   exact val ⟨z, _, by rw [q]; exact Zc2 h3 w, h2, by rw [rd]⟩
 case convert t u x =>
  obtain ⟨v, d, w', p', e, h2, o', q, ev'⟩ := run_cvA r.ok (r.ev x) hx
  exact ⟨v, w', hd, s.h, p', d, .inl (by simp [execOp, e]), h2, o', q, ev'⟩
 case build t parts =>
  obtain ⟨ds, h1, h2⟩ := W6.1 hx
  obtain ⟨cs, e1, e2⟩ := run_build (w := w) (vs := parts.toList.map fun q => (q.1, a.eval q.2)) (by simp) (fun j i d hj => by
   simp only [Z5, Z0] at hj ⊢
   obtain ⟨x, hx, he⟩ := hj
   cases he
   exact ⟨_, ⟨x, hx, rfl⟩, r.ev _⟩) h1
  have e1' : (Instr.build t (parts.map fun q => (q.1, a.eval q.2))).run P w = .ok (.agg cs) w := by
   rw [show (parts.map fun q => (q.1, a.eval q.2)) = (parts.toList.map fun q => (q.1, a.eval q.2)).toArray by apply Array.ext'; simp]; exact e1
  exact val ⟨.agg cs, .agg ds, e1', h2, by rw [rd]; exact ⟨cs, rfl, e2⟩⟩
 case buildSlice t len parts =>
  obtain ⟨⟨e, k, xs⟩, h1, h2⟩ := W6.1 hx
  obtain ⟨cs, e1, e2, e3, e4, e5⟩ := run_litD (w := w) (vs := parts.toList.map fun q => (q.1, a.eval q.2)) (by simp) (fun j i d hj => by
   simp only [Z5, Z0] at hj ⊢
   obtain ⟨x, hx, he⟩ := hj
   cases he
   exact ⟨_, ⟨x, hx, rfl⟩, r.ev _⟩) h1
  have e1' : (Instr.buildSlice t len (parts.map fun q => (q.1, a.eval q.2))).run P w = .ok (.slice (some ⟨w.heap.size, 0, none⟩) len len) (w.alloc (.cells cs e)) := by
   rw [show (parts.map fun q => (q.1, a.eval q.2)) = (parts.toList.map fun q => (q.1, a.eval q.2)).toArray by apply Array.ext'; simp]; exact e1
  have hlen : len ≤ maxLen := by
   have : len * k ≤ 16777216 ∧ 0 < k := by
    unfold litD at h1
    cases ha : apT P t with
    | none => rw [ha] at h1; cases h1
    | some q =>
     obtain ⟨e', k', by'⟩ := q
     obtain ⟨_, _, _, _, _, _, _, _, hpos⟩ := Yq7 ha
     rw [ha] at h1
     simp only [Z4] at h1
     cases hl : Wb k' 0 (parts.toList.map fun q => (q.1, ev G s.env q.2)) with
     | none => rw [hl] at h1; cases h1
     | some ys =>
      rw [hl] at h1
      simp only [Z4] at h1
      split at h1
      · rename_i hc; cases h1; exact ⟨hc.2, hpos⟩
      · cases h1
   have : len * 1 ≤ len * k := Zf _ this.2
   unfold maxLen; omega
  have g := r.ok.grow (w' := w.alloc (.cells cs e)) (ob := .buf e k xs) (u := .slice (some ⟨w.heap.size, 0, none⟩) len len) rfl rfl rfl (by simp) (fun b hb => J6 w _ hb) (fun b hb => by cases hb; rfl)
   (fun c sb => ⟨cs.toList, by rw [e4]; exact owns_made cs len (heap_alloc_new w _) (Zn _) e3 hlen, Xv c sb _ _ e2, e5, fun g hg => by cases hg; simp⟩)
  refine ⟨_, _, _, _, _, _, .inl (by simp [execOp, e1']; rfl), h2, g.1, ?_, g.2⟩
  rw [rd]
  refine ⟨⟨_, _, rfl⟩, .of (ob := .buf e k xs) (by simp) rfl, fun e' k' xs' hx => ?_⟩
  have : xs' = xs := by simp at hx; exact hx.2.2.symm
  subst this
  exact ⟨Nat.le_of_eq e4.symm, fun _ => by rw [← r.ok.len]; simp⟩
 case slice t x lo hi mx =>
  cases mx with
  | some m => exact hx.elim
  | none =>
   have ro : ∀ y : Option Operand, (y.map (ev G s.env) = none ∧ y.map a.eval = none) ∨ ∃ d v, y.map (ev G s.env) = some d ∧ y.map a.eval = some v ∧ rd hd s.h (only p w) d v := fun y => by
    cases y with
    | none => exact .inl ⟨rfl, rfl⟩
    | some y => exact .inr ⟨_, _, rfl, rfl, r.ev y⟩
   obtain ⟨v, d, e, h2, q⟩ := run_slc (P := P) (w := w) (r.ev x) (ro lo) (ro hi) hx
   exact val ⟨v, d, e, h2, q⟩
 case index t x i =>
  obtain ⟨v, d, e, h2, q⟩ := run_ind (P := P) (w := w) (r.ev x) (r.ev i) hx
  exact val ⟨v, d, e, h2, q⟩
 case extract x i =>
  obtain ⟨d, h1, h2⟩ := W6.1 hx
  have q := r.ev x
  generalize ev G s.env x = X at q h1
  cases X <;> try cases h1
  case tup ds =>
   rw [rd] at q
   obtain ⟨cs, e, q⟩ := q
   obtain ⟨u, h3, h4⟩ := ((Xg _ _).1 q).2 i d h1
   have h3 : cs[i]? = some u := by simpa using h3
   exact val ⟨u, d, by simp [Instr.extract, e, h3], h2, h4⟩
 case field t x f =>
  obtain ⟨d, h1, h2⟩ := W6.1 hx
  obtain ⟨v, e, q⟩ := run_field (w := w) (r.ev x) h1
  exact val ⟨v, d, e, h2, q⟩
 case load t x =>
  obtain ⟨d, h1, h2⟩ := W6.1 hx
  obtain ⟨v, e, q⟩ := run_loadD r.ok (r.ev x) h1
  exact val ⟨v, d, e, h2, q⟩
 case store t x y =>
  obtain ⟨h', h1, h2⟩ := W6.1 hx
  obtain ⟨w', hd', p', e, o, ev⟩ := run_storeD r.ok (r.ev x) (r.ev y) h1
  exact ⟨undef, w', hd', h', p', .v undef, .inr ⟨by simp [execOp, e], rfl⟩, h2, o, by rw [rd], ev⟩
 case fieldAddr t x f =>
  obtain ⟨d, h1, h2⟩ := W6.1 hx
  obtain ⟨v, e, q⟩ := run_faddr (w := w) (r.ev x) h1
  exact val ⟨v, d, e, h2, q⟩
 case indexAddr t x i =>
  obtain ⟨v, d, e, h2, q⟩ := run_idx r.ok (r.ev x) (r.ev i) hx
  exact val ⟨v, d, e, h2, q⟩
 case nilCheck x =>
  obtain ⟨h1, h2⟩ := hx
  have q := r.ev x
  have : (execOp a.eval ⟨dst, .nilCheck x, ty, pos, aft, gd⟩).run P w = .ok (.value (a.eval x)) w := by
   generalize ev G s.env x = X at q h1
   cases X <;> simp [isPtr] at h1
   case rp ds => rw [rd] at q; obtain ⟨b, o, e, _⟩ := q; simp [execOp, e]
   case ptr i o => rw [rd] at q; obtain ⟨b, _, e⟩ := q; simp [execOp, e]
   case bp i n r j => rw [rd] at q; obtain ⟨⟨b, e⟩, _⟩ := q; simp [execOp, e]
  rw [this]
  exact Gives.same r.ok h2 q
 case box e x =>
  obtain ⟨ds, h1, h2⟩ := W6.1 hx
  obtain ⟨hd', p', o, ev, q⟩ := r.ok.box (Za6 (r.ev x) h1) e
  exact ⟨_, _, hd', _, p', _, .inl (by show ((do pure (Next.value (← Instr.box e (a.eval x))) : Sem Next).run P w) = _; simp [box_run]), h2, o, q, ev⟩
 case call c =>
  obtain ⟨cal, args, tys⟩ := c
  cases cal with
  | builtin b =>
   have hx : biA P s.h b tys.toList (args.toList.map (ev G s.env)) K := hx
   unfold biA at hx
   split at hx
   · rename_i t x e1 e2 _
     obtain ⟨d, h1, h2⟩ := W6.1 hx
     have ht : tys = #[t] := by rw [← Array.toArray_toList (xs := tys), e1]
     have hal : ∃ xo, args = #[xo] ∧ ev G s.env xo = x := by
      obtain ⟨l⟩ := args
      match l, e2 with
      | [xo], e2 => exact ⟨xo, rfl, by simpa using e2⟩
     obtain ⟨xo, rfl, rfl⟩ := hal
     subst ht
     obtain ⟨u, e3, e4⟩ := run_lenD (w := w) (r.ev xo) h1
     have : (execOp a.eval ⟨dst, .call ⟨.builtin .len, #[xo], #[t]⟩, ty, pos, aft, gd⟩).run P w = .ok (.value u) w := by
      have e3' : (Builtin.len_ #[t] ty #[a.eval xo]).run P w = .ok u w := e3
      simp [execOp, resolve, invoke, builtin, e3']
     rw [this]
     exact Gives.same r.ok h2 e4
   · rename_i t u' x y e1 e2 _
     have ht : tys = #[t, u'] := by rw [← Array.toArray_toList (xs := tys), e1]
     have hal : ∃ xo yo, args = #[xo, yo] ∧ ev G s.env xo = x ∧ ev G s.env yo = y := by
      obtain ⟨l⟩ := args
      match l, e2 with
      | [xo, yo], e2 => exact ⟨xo, yo, rfl, by simp at e2; exact e2.1, by simp at e2; exact e2.2⟩
     obtain ⟨xo, yo, rfl, rfl, rfl⟩ := hal
     subst ht
     obtain ⟨v', w', hd', h', p', d, e3, e4, e5, e6, e7⟩ := run_apA r.ok (r.ev xo) (r.ev yo) hx
     have : (execOp a.eval ⟨dst, .call ⟨.builtin .append, #[xo, yo], #[t, u']⟩, ty, pos, aft, gd⟩).run P w = .ok (.value v') w' := by
      have e3' : (Builtin.append_ #[t, u'] ty #[a.eval xo, a.eval yo]).run P w = .ok v' w' := e3
      simp [execOp, resolve, invoke, builtin, e3']
     exact ⟨v', w', hd', h', p', d, .inl this, e4, e5, e6, e7⟩
   · exact hx.elim
  | _ => exact hx.elim
 case alloc e =>
  obtain ⟨ds, h1, h2⟩ := W6.1 hx
  unfold Uj at h1
  cases hz : zeroT P e with
  | none => rw [hz] at h1; cases h1
  | some z =>
   rw [hz] at h1
   obtain ⟨hd', p', o, ev, q⟩ := r.ok.box (Za6 (hd := hd) (h := s.h) (W := only p w) (d := .v z) (v := z) (by rw [rd]) h1) e
   exact ⟨_, _, hd', _, p', _, .inl (by simp [execOp, Instr.alloc, Yp7 hz, newVar, newRow]), h2, o, q, ev⟩
end
section
variable {P : Program} {G : Nat → D} {B : Base} {s : S} {a : Act} {w w' : World} {hd hd' : List Value} {h h' : List Ob} {p p' : Nat → Bool}
def Yg (ops : Array Oper) (gd : Option (Nat × Bool)) (env : Nat → D) : Option Bool := match gd with
 | none => some true
 | some (j, b) => match (ops[j]?).bind (·.dst) with
  | none => some false
  | some t => match env t with
   | .v (.bool c) => some (c == b)
   | .v (.tuple _) => some false
   | _ => none
theorem Xf {ops : Array Oper} {o : Oper} {b : Bool} (r : Sat G B s a w hd p) (q : Yg ops o.guard s.env = some b) : Region.wanted o (yielded ops a.tmps) = b := by
 unfold Yg at q
 unfold Region.wanted
 cases hg : o.guard with
 | none => rw [hg] at q; cases q; rfl
 | some g =>
  obtain ⟨j, c⟩ := g
  rw [hg] at q
  simp only at q ⊢
  unfold yielded
  cases hd' : (ops[j]?).bind (·.dst) with
  | none => rw [hd'] at q; cases q; rfl
  | some t =>
   rw [hd'] at q
   simp only at q
   have ht := r.tmp t
   have hx : a.tmps[t]? = none ∨ a.tmps[t]? = some (a.tmps.getD t undef) := by
    rw [Z7]
    cases a.tmps[t]? <;> simp
   split at q
   · rename_i c' he
     rw [he, rd] at ht
     cases q
     rcases hx with h | h
     · rw [Z7, h] at ht; cases ht
     · rw [ht] at h
       simp only [Z4, h]
       cases c' <;> cases c <;> rfl
   · rename_i vs he
     rw [he, rd] at ht
     cases q
     rcases hx with h | h
     · simp [h]
     · rw [ht] at h
       simp [h]
   · cases q
section
variable {ops : Array Oper} {rest : List Oper} {Q : S → Prop} {dst : Option Nat} {op : Op} {ty : TypeId} {pos : String} {aft : Array Edge} {gd : Option (Nat × Bool)}
theorem Yn (hq : Q s) : ao P G ops [] Q s := fun _ _ _ r _ k => k s _ _ hq r
theorem ao_cons (hw : Yg ops gd s.env = some true) (H : ∀ K : List Ob → D → Prop, (∀ h' d, ao P G ops rest Q (({ s with h := h' } : S).put dst d) → K h' d) → aOp P G s.env s.h K op) : ao P G ops (⟨dst, op, ty, pos, aft, gd⟩ :: rest) Q s := by
 rintro B a w ⟨hd, p, r⟩ R hR
 have g := Zr6 (dst := dst) (ty := ty) (pos := pos) (aft := aft) (gd := gd) r (H _ fun _ _ h => h)
 have hw' := Xf (o := ⟨dst, op, ty, pos, aft, gd⟩) r hw
 unfold wpList
 rw [if_pos hw']
 left
 unfold Oper.wp
 obtain ⟨v, w', hd', h', p', d, e, hk, o, q, ev⟩ := g
 rcases e with e | ⟨e, rfl⟩
 · rw [e]; exact hk B _ w' ⟨hd', p', r.put o ev q dst⟩ R hR
 · rw [e]; exact hk B _ w' ⟨hd', p', r.put o ev q dst⟩ R hR
theorem ao_skip (hw : Yg ops gd s.env = some false) (H : ao P G ops rest Q (s.put dst (.v undef))) : ao P G ops (⟨dst, op, ty, pos, aft, gd⟩ :: rest) Q s := by
 rintro B a w ⟨hd, p, r⟩ R hR
 have hw' := Xf (o := ⟨dst, op, ty, pos, aft, gd⟩) r hw
 unfold wpList
 rw [if_neg (by rw [hw']; decide)]
 exact H B _ w ⟨hd, p, r.put0 (by rw [rd]) dst⟩ R hR
def Does (P : Program) (G : Nat → D) (f : FuncId) (h : List Ob) (args : List D) (K : List Ob → D → Prop) : Prop :=
 ∀ w hd p vs, Ok G w hd h p → rdL hd h (only p w) args vs → Calls P f vs.toArray w fun e w' => ∃ v hd' h' r p', e = .returned v ∧ K h' r ∧ Ok G w' hd' h' p' ∧ rd hd' h' (only p' w') r v ∧ Evo w hd h p w' hd' h' p'
theorem Does.mono {f : FuncId} {args : List D} {K K' : List Ob → D → Prop} (q : Does P G f h args K) (k : ∀ h' r, K h' r → K' h' r) : Does P G f h args K' := fun w hd p vs o ha =>
 (q w hd p vs o ha).mono fun _ _ ⟨v, hd', h', r, p', e, hk, rest⟩ => ⟨v, hd', h', r, p', e, k _ _ hk, rest⟩
def entB (P : Program) (f : FuncId) : Bool := match P.funcs[f]? with
 | some fn => fn.name != "runtime.NumGoroutine" && fn.body.isSome
 | none => false
theorem Zo2 {f : FuncId} {args : Array Value} (he : entB P f = true) : (callFunc f args).run P w = .ok (.enter f args) w := by
 unfold entB at he
 cases hf : P.funcs[f]? with
 | none => rw [hf] at he; cases he
 | some fn =>
  rw [hf] at he
  simp only [Zk, bne_iff_ne, ne_eq] at he
  cases hb : fn.body with
  | none => rw [hb] at he; simp at he
  | some c => simp [callFunc, hf, he.1, hb]
theorem Zs2 (r : Sat G B s a w hd p) : ∀ l : List Operand, rdL hd s.h (only p w) (l.map (ev G s.env)) (l.map a.eval)
 | [] => by rw [List.map_nil, List.map_nil, rdL]
 | x :: t => by rw [Ze, Ze, rdL]; exact ⟨_, _, rfl, r.ev x, Zs2 r t⟩
theorem ao_call {x : Operand} {args : Array Operand} {tys : Array TypeId} {f : FuncId} {cap : List D} {R : List Ob → D → Prop} (hw : Yg ops gd s.env = some true) (hx : ev G s.env x = .fn f cap) (he : entB P f = true)
 (hc : Does P G f s.h (args.toList.map (ev G s.env) ++ cap) R) (H : ∀ h' r, R h' r → ao P G ops rest Q (({ s with h := h' } : S).put dst r)) : ao P G ops (⟨dst, .call ⟨.value x, args, tys⟩, ty, pos, aft, gd⟩ :: rest) Q s := by
 rintro B a w ⟨hd, p, r⟩ T hT
 have hw' := Xf (o := ⟨dst, .call ⟨.value x, args, tys⟩, ty, pos, aft, gd⟩) r hw
 unfold wpList
 rw [if_pos hw']
 left
 have q := r.ev x
 rw [hx, rd] at q
 obtain ⟨cs, e1, q⟩ := q
 have hrun : (execOp a.eval ⟨dst, .call ⟨.value x, args, tys⟩, ty, pos, aft, gd⟩).run P w = .ok (.enter f (args.map a.eval ++ cs)) w := by
  simp [execOp, resolve, e1, Deferred.ofValue, invoke, Zo2 he]
 unfold Oper.wp
 rw [hrun, Oper.upon_enter]
 have hargs : rdL hd s.h (only p w) (args.toList.map (ev G s.env) ++ cap) (args.toList.map a.eval ++ cs.toList) := Wr (Zs2 r _) q
 have := hc w hd p _ r.ok hargs
 rw [show (args.toList.map a.eval ++ cs.toList).toArray = args.map a.eval ++ cs by apply Array.ext'; simp] at this
 refine this.mono ?_
 rintro e w' ⟨v, hd', h', d, p', rfl, hk, o, q2, ev⟩
 exact H h' d hk B _ w' ⟨hd', p', r.put o ev q2 dst⟩ T hT
theorem aw_region {id : Nat} {l : List Oper} {Q : Exit → S → Prop} (H : ∀ K : S → Prop, (∀ s, Q .normal s → K s) → ao P G l.toArray l K s) : aw P G (.region id l.toArray false) Q s := fun B a w r =>
 wp_region_lit (H _ (fun _ h => h) B a w r _ fun s' _ _ q r' => ⟨s', q, r'⟩)
end
def resD (P : Program) (s : S) : List ResultVar → Option (List D)
 | [] => some []
 | .tmp t :: l => (resD P s l).map (s.env t :: ·)
 | .cell c t :: l => match Zb1 P s.h t (s.env c), resD P s l with
  | some d, some ds => some (d :: ds)
  | _, _ => none
def outD : List D → D
 | [d] => d
 | ds => .tup ds
def EndD (P : Program) (res : Array ResultVar) (m0 : Nat) (K : List Ob → D → Prop) (s : S) : Prop := ∃ ds m, resD P s res.toList = some ds ∧ m0 ≤ m ∧ m ≤ s.h.length ∧ lowH m (s.h.take m) ∧
 low m (cvD (fun i => decide (m ≤ i)) s.h (outD ds)) ∧ K (s.h.take m) (cvD (fun i => decide (m ≤ i)) s.h (outD ds))
def resF (tmps : Array Value) : ResultVar → Sem Value
 | .tmp t => pure (tmps.getD t undef)
 | .cell c t => do loadVar t (← asAddr (tmps.getD c undef))
theorem mapM_run {α β : Type} {f : α → Sem β} {x : α} {l : List α} {u : β} {vs : List β} (h1 : (f x).run P w = .ok u w) (h2 : (l.mapM f).run P w = .ok vs w) : ((x :: l).mapM f).run P w = .ok (u :: vs) w := by
 simp only [List.mapM_cons, Sem.run_bind, h1, Result.andThen_ok, h2, Sem.run_pure]
theorem Yk4 (r : Sat G B s a w hd p) : ∀ (l : List ResultVar) (ds : List D), resD P s l = some ds → ∃ vs, (l.mapM (resF a.tmps)).run P w = .ok vs w ∧ rdL hd s.h (only p w) ds vs
 | [], ds, q => by cases q; exact ⟨[], by simp, by rw [rdL]⟩
 | .tmp t :: l, ds, q => by
  simp only [resD, Z0] at q
  obtain ⟨ds', h1, rfl⟩ := q
  obtain ⟨vs, e, q⟩ := Yk4 r l ds' h1
  exact ⟨_ :: vs, mapM_run (by rfl) e, by rw [rdL]; exact ⟨_, _, rfl, r.tmp t, q⟩⟩
 | .cell c t :: l, ds, q => by
  simp only [resD] at q
  split at q
  · rename_i d ds' h1 h2
    cases q
    obtain ⟨vs, e, q⟩ := Yk4 r l ds' h2
    obtain ⟨u, e2, q2⟩ := run_loadD r.ok (r.tmp c) h1
    refine ⟨u :: vs, mapM_run ?_ e, by rw [rdL]; exact ⟨_, _, rfl, q2, q⟩⟩
    show (do loadVar t (← asAddr (a.tmps.getD c undef)) : Sem Value).run P w = .ok u w
    unfold Instr.loadAt Instr.sureAddr at e2
    cases hv : a.tmps.getD c undef with
    | pointer x => cases x with
      | some ad => rw [hv] at e2; simpa [asAddr] using e2
      | none => rw [hv] at e2; simp at e2
    | _ => rw [hv] at e2; simp at e2
  · cases q
theorem Yg1 (fn : Func) (tmps : Array Value) : results fn tmps = (do let vs ← fn.results.mapM (resF tmps); pure (if h : vs.size = 1 then vs[0] else .tuple vs)) := by
 have : (fun | .tmp t => pure (tmps.getD t undef) | .cell a t => do loadVar t (← asAddr (tmps.getD a undef)) : ResultVar → Sem Value) = resF tmps := by funext x; cases x <;> rfl
 unfold results
 rw [← this]
 rfl
def Yj2 (args : List D) : Nat → D := fun t => (args[t]?).getD .any
theorem Y6 {f : FuncId} {fn : Func} {c : Code} {args : List D} {K : List Ob → D → Prop} (hf : P.funcs[f]? = some fn) (hb : fn.body = some c) (hn : args.length ≤ fn.ntmps) (hG : ∀ g, low 0 (G g))
 (H : lowH h.length h → lowL h.length args → aw P G c (fun e s => (e = .normal ∨ e = .ret) ∧ EndD P fn.results h.length K s) ⟨fn.ntmps, Yj2 args, h⟩) : Does P G f h args K := by
 intro w hd p vs o ha
 have hlen := Ud ha
 refine calls_of_wp hf hb (Code.wp_mono ?_ (H o.allLow (Zf4 o.len _ _ ha) ⟨w, hd, h, p⟩ { tmps := vs.toArray ++ Zl (fn.ntmps - vs.toArray.size) undef, defers := [] } w ⟨hd, p, o, .refl _ _ _ _, fun t => ?_, by simp; omega, rfl⟩))
 · rintro e a' w' ⟨s', ⟨he, ds, m, h1, h2, h3, h4, h5, h6⟩, hd', p', r⟩
   have fin : ∃ v, (results fn a'.tmps).run P w' = .ok v w' ∧ rd hd' s'.h (only p' w') (outD ds) v := by
    obtain ⟨vs', e1, q1⟩ := Yk4 r _ _ h1
    have hl := Ud q1
    have e2 : (results fn a'.tmps).run P w' = .ok (if h : vs'.toArray.size = 1 then vs'.toArray[0] else .tuple vs'.toArray) w' := by
     rw [Yg1, Zh]
     simp only [Sem.run_bind, Sem.run_map, e1, Result.andThen_ok]
     rfl
    refine ⟨_, e2, ?_⟩
    match ds, vs', q1, hl with
    | [], vs', q1, hl => 
     have : vs' = [] := Z2 hl.symm
     subst this
     simp only [outD]; rw [rd]; exact ⟨#[], rfl, q1⟩
    | [d], vs', q1, hl =>
     rw [rdL] at q1; obtain ⟨u, t, rfl, q2, q3⟩ := q1
     rw [rdL] at q3; subst q3
     exact q2
    | d :: d2 :: ds, vs', q1, hl =>
     simp only [outD]
     have : ¬ vs'.toArray.size = 1 := by simp at hl ⊢; omega
     rw [dif_neg this, rd]; exact ⟨_, rfl, q1⟩
   obtain ⟨v, e2, q2⟩ := fin
   obtain ⟨p2, o2, ev2, cv⟩ := r.ok.give fun i => decide (m ≤ i)
   have htk : (Zm7 (fun i => decide (m ≤ i)) s'.h).take m = s'.h.take m := by
    apply Zj
    intro i
    rw [Zb, Zb]
    split
    · rename_i hi
      unfold Zm7
      rw [List.getElem?_mapIdx]
      cases s'.h[i]? with
      | none => rfl
      | some ob => simp [show ¬ m ≤ i by omega]
    · rfl
   have hlk : (Zm7 (fun i => decide (m ≤ i)) s'.h).length = s'.h.length := by simp [Zm7]
   have o3 := o2.take (m := m) (by rw [htk]; exact h4) fun g => Zp3 (Zn _) _ (hG g)
   have ev3 := (r.evo.trans ev2).take o h2 (by rw [hlk]; exact h3)
   have q3 := Zf1 (m := m) (by rw [hlk, r.ok.len]) _ _ h5 (cv _ _ q2)
   rw [htk] at o3 ev3 q3
   rcases he with rfl | rfl
   · exact ⟨r.defers, v, e2, v, _, _, _, _, rfl, h6, o3, q3, ev3⟩
   · exact ⟨r.defers, v, e2, v, _, _, _, _, rfl, h6, o3, q3, ev3⟩
 · show rd hd h (only p w) ((args[t]?).getD .any) _
   obtain ⟨_, q⟩ := (Xg _ _).1 ha
   cases hd' : args[t]? with
   | none => show rd hd h (only p w) .any _; rw [rd]; trivial
   | some d =>
    show rd hd h (only p w) d _
    obtain ⟨u, h1, h2⟩ := q t d hd'
    have : (vs.toArray ++ Zl (fn.ntmps - vs.toArray.size) undef).getD t undef = u := by
     rw [Z7, Zg (by simpa using (Z1.1 h1).1)]
     simp [h1]
    rw [this]
    exact h2
end
end Go.Proofs.YtbhkcbidcfofiaaGreat
