/-
  What the statements of the chapter share, part 17: MP, CM5, CM6.
-/
import Derived.Test.YtgkjcmglcnhpaaaGreatDoorR13
import Derived.Test.YtgkjcmglcnhpaaaGreatDoorR16
import Derived.Maps.Keyed
import Derived.Maps.RangeRun
set_option linter.unusedVariables false
set_option linter.unusedSimpArgs false
set_option maxRecDepth 100000
set_option maxHeartbeats 8000000
namespace Go.Proofs.YtgkjcmglcnhpaaaGreatDoor
open _root_.Array renaming getElem?_eq_some_iff → Zo
open _root_.Bool renaming false_eq_true → Z1, not_false → Zg, not_true → Zi
open _root_.ByteArray renaming empty → Ze
open _root_.Int renaming reduceEq → Z7, reduceLT → Z8, reduceLE → Z9, toNat_natCast → Zb
open _root_.List renaming getElem?_eq_getElem → Z0, getElem?_map → Za, getElem?_eq_some_iff → Zc, getElem_of_mem → Zd, getD_eq_getElem?_getD → Zh, mem_map → Zj, map_append → Zn, getElem?_eq_none_iff → Zp, getElem?_inj → Zq, getElem_mem → Zr
open _root_.Nat renaming reduceEqDiff → Z2, reduceLeDiff → Z3, reduceAdd → Z4, reduceBEq → Z5, reduceMul → Z6, le_of_ble_eq_true → Zk, not_lt_zero → Zl, zero_le → Zm, lt_or_ge → Zs
open _root_.Go.Proofs.Tryz renaming prog → Zf
open Go.RowKit
section
open Go.ChangeMaps (setBlock)
def mpE (l : List (ByteArray × D)) : List (Value × Nat × D) := l.zipIdx.map fun x => (.string x.1.1, x.2, x.1.2)
def Za6 (l : List (ByteArray × D)) : Ob := .map (mpE l) l.length
theorem mpE_len (l : List (ByteArray × D)) : (mpE l).length = l.length := by simp [mpE]
theorem mpE_get {l : List (ByteArray × D)} {k : Nat} {x : ByteArray × D} (h : l[k]? = some x) : (mpE l)[k]? = some (.string x.1, k, x.2) := by
 unfold mpE; rw [Za, List.getElem?_zipIdx, h]; simp
theorem mpE_snoc (l : List (ByteArray × D)) (x : ByteArray × D) : mpE (l ++ [x]) = mpE l ++ [(.string x.1, l.length, x.2)] := by
 simp [mpE, List.zipIdx_append]
theorem mpE_ds (l : List (ByteArray × D)) : (mpE l).map (·.2.2) = l.map (·.2) := by
 apply List.ext_getElem?
 intro i
 rw [Za, Za]
 cases h : l[i]? with
 | none => rw [List.getElem?_eq_none (by rw [mpE_len]; exact Zp.1 h)]; rfl
 | some x => rw [mpE_get h]; rfl
theorem Yb1 {P : Program} {kt : TypeId} (hk : P.underlying kt = some .string) {s : ByteArray} (hs : s.size ≤ maxLen) : ∃ kl, keyOf P kt (.string s) = some kl := by
 rw [keyOf_string hk]
 exact ⟨.string s.data.toList, by simp [mapKey, hk, hs]⟩
section
theorem Jh {arr : Array MapEntry} {l : List (ByteArray × D)} (q : arr.toList.map (fun e => (e.key, e.born)) = (mpE l).map (fun e => (e.1, e.2.1))) : arr.size = l.length ∧ (∀ (k : Nat) (e : MapEntry), arr.toList[k]? = some e → ∃ x, l[k]? = some x ∧ e.key = .string x.1 ∧ e.born = k) ∧ ∀ (k : Nat) x, l[k]? = some x → ∃ e : MapEntry, arr.toList[k]? = some e ∧ e.key = .string x.1 ∧ e.born = k := by
 have hl : arr.size = l.length := by have := congrArg List.length q; simpa [mpE_len] using this
 have g : ∀ (k : Nat) (e : MapEntry) x, arr.toList[k]? = some e → l[k]? = some x → e.key = .string x.1 ∧ e.born = k := fun k e x he hx => by
  have h1 := congrArg (fun z => z[k]?) q
  simp only [Za, he, mpE_get hx, Option.map_some, Option.some.injEq, Prod.mk.injEq] at h1
  exact h1
 refine ⟨hl, fun k e he => ?_, fun k x hx => ?_⟩
 · have hk : k < l.length := by have := (Zc.1 he).1; simpa [hl] using this
   exact ⟨l[k], Z0 hk, g k e _ he (Z0 hk)⟩
 · have hk : k < arr.toList.length := by have := (Zc.1 hx).1; simpa [hl] using this
   exact ⟨arr.toList[k], Z0 hk, g k _ x (Z0 hk) hx⟩
end
section
variable {P : Program} {G : Nat → D} {e : Nat → D} {h : List Ob}
theorem tri_makeMap {dst : Option Nat} {t ty : TypeId} {pos : String} {aft : Array Edge} {gd : Option (Nat × Bool)} :
 OpTri P G ⟨dst, .makeMap t none, ty, pos, aft, gd⟩ ((opds (.makeMap t none)).map (ev G e)) h (fun h' r => h' = h ++ [Za6 []] ∧ r = .mp h.length) :=
 Xu fun a w hd p ok hh => by
 have res := ok.grow (w' := w.alloc (.map #[] 0)) (ob := Za6 []) (u := .map (some w.heap.size)) rfl rfl rfl (by simp) (fun b hb => Xa w _ hb) (fun b hb => by cases hb; rfl)
  (fun c sb => ⟨w.heap.size, #[], rfl, heap_alloc_new w _, rfl, by simp only [mpE, List.zipIdx_nil, List.map_nil]; rw [rdL], by simp⟩)
 refine ⟨.map (some w.heap.size), _, .inl ?_, _, _, _, _, ⟨rfl, rfl⟩, res.1, by rw [rd]; exact ⟨w.heap.size, by rw [← ok.len]; simp, rfl⟩, res.2⟩
 simp [execOp, Instr.makeMap, newObj, Sem.run]
theorem tri_mapUpd {dst : Option Nat} {t kt et ty : TypeId} {m x y : Operand} {pos : String} {aft : Array Edge} {gd : Option (Nat × Bool)} {i : Nat} {l : List (ByteArray × D)} {s : ByteArray} {d : D}
 (hm : ev G e m = .mp i) (hx : ev G e x = .v (.string s)) (hy : ev G e y = d) (ht : P.underlying t = some (.map kt et)) (hk : P.underlying kt = some .string) (hi : h[i]? = some (Za6 l)) (hs : s.size ≤ maxLen) (hl : ∀ z ∈ l, z.1.size ≤ maxLen) (hn : ∀ z ∈ l, z.1 ≠ s) :
 OpTri P G ⟨dst, .mapUpdate t m x y, ty, pos, aft, gd⟩ ((opds (.mapUpdate t m x y)).map (ev G e)) h (fun h' r => h' = h.set i (Za6 (l ++ [(s, d)])) ∧ r = .v undef) :=
 Xu fun a w hd p ok hh => by
 have hox : opds (.mapUpdate t m x y) = [m, x, y] := by simp [opds, Op.operands]
 have q1 := hh m (by rw [hox]; simp)
 have q2 := hh x (by rw [hox]; simp)
 have q3 := hh y (by rw [hox]; simp)
 rw [hm, rd] at q1
 obtain ⟨r, hr, e1⟩ := q1
 rw [hx, rd] at q2
 rw [hy] at q3
 obtain ⟨r', arr, hr', o2, o3, o4, o5⟩ := ok.ob i _ _ hi hr
 cases hr'
 obtain ⟨c1, c2, c3⟩ := Jh o3
 have K := Go.Maps.string_keyed hk
 obtain ⟨kl, hkey⟩ := Yb1 hk hs
 rcases K.find w hkey arr.toList (fun en hen => by
   obtain ⟨k, hk1, hk2⟩ := Zd hen
   obtain ⟨z, hz, hz2, _⟩ := c2 k en (by rw [Z0 hk1, hk2])
   rw [hz2]; exact Yb1 hk (hl z (List.mem_of_getElem? hz))) with ⟨f1, f2⟩ | ⟨j, e0, f1, f2, f3⟩
 rotate_left
 · obtain ⟨z, hz, hz2, _⟩ := c2 j e0 f2
   rw [f3] at hz2
   injection hz2 with hz2
   exact absurd hz2.symm (hn z (List.mem_of_getElem? hz))
 have hlt := (Zo.1 o2).1
 have hb1 : ∀ ob' : Obj, (setBlock w r ob').heap[r]? = some ob' := fun ob' => by simp [setBlock, hlt]
 have hb2 : ∀ (ob' : Obj) b, b ≠ r → (setBlock w r ob').heap[b]? = w.heap[b]? := fun ob' b hb => by simp [setBlock, Ne.symm hb]
 have res := ok.repl (w' := setBlock w r (.map (arr.push ⟨.string s, a.eval y, l.length⟩) (l.length + 1))) (ob' := Za6 (l ++ [(s, d)])) (u' := .map (some r)) hi hr rfl rfl rfl rfl (by simp [setBlock]) (fun b _ hb => hb2 _ b fun e => hb (by rw [e]; rfl)) (fun b hb => .inl hb) (fun _ _ => rfl) (fun _ _ _ e => by cases e) fun c sb => by
  refine ⟨r, arr.push ⟨.string s, a.eval y, l.length⟩, rfl, by rw [hb1]; simp, ?_, ?_, by simp [o5]⟩
  · rw [mpE_snoc, Array.toList_push, Zn, Zn, o3]; rfl
  · rw [mpE_snoc, Array.toList_push, Zn, Zn]
    exact Xf (Yw c sb _ _ o4) (by simp only [List.map_cons, List.map_nil]; rw [rdL]; exact ⟨_, [], rfl, Zm3 c sb _ _ q3, by rw [rdL]⟩)
 refine ⟨undef, _, .inr ⟨?_, rfl⟩, _, _, _, _, ⟨rfl, rfl⟩, res.1, by rw [rd], res.2⟩
 simp [execOp, e1, q2, Instr.mapUpdate, run_underlying ht, MapKept.run_getObj_map o2, K.check w false hkey, f1, MapKept.run_setObj_map _ o2, Result.andThen, setBlock]
theorem tri_range {dst : Option Nat} {t kt et ty : TypeId} {m : Operand} {pos : String} {aft : Array Edge} {gd : Option (Nat × Bool)} {i : Nat} {l : List (ByteArray × D)}
 (hm : ev G e m = .mp i) (ht : P.underlying t = some (.map kt et)) (hi : h[i]? = some (Za6 l)) :
 OpTri P G ⟨dst, .range t m, ty, pos, aft, gd⟩ ((opds (.range t m)).map (ev G e)) h (fun h' r => h' = h ++ [.iter i l.length [] l.length] ∧ r = .ptr h.length 0) :=
 Xu fun a w hd p ok hh => by
 have hox : opds (.range t m) = [m] := by simp [opds, Op.operands]
 have q1 := hh m (by rw [hox]; simp)
 rw [hm, rd] at q1
 obtain ⟨r, hr, e1⟩ := q1
 obtain ⟨r', arr, hr', o2, o3, o4, o5⟩ := ok.ob i _ _ hi hr
 cases hr'
 have hrun := run_range_map (P := P) w t kt et r arr l.length ht o2
 have res := ok.grow (w' := w.alloc (.mapIter (some r) l.length #[] l.length)) (ob := .iter i l.length [] l.length) (u := .pointer (some ⟨w.heap.size, 0, none⟩)) rfl rfl rfl (by simp) (fun b hb => Xa w _ hb) (fun b hb => by cases hb; rfl)
  (fun c sb => ⟨w.heap.size, r, rfl, heap_alloc_new w _, c.mp i r hr, by simp⟩)
 refine ⟨_, _, .inl ?_, _, _, _, _, ⟨rfl, rfl⟩, res.1, by rw [rd]; exact ⟨w.heap.size, by rw [← ok.len]; simp, rfl⟩, res.2⟩
 simp [execOp, e1, hrun]
theorem tri_next {dst : Option Nat} {ty : TypeId} {m : Operand} {pos : String} {aft : Array Edge} {gd : Option (Nat × Bool)} {i j : Nat} {l : List (ByteArray × D)} {seen : List Nat}
 (hm : ev G e m = .ptr j 0) (hj : h[j]? = some (.iter i l.length seen l.length)) (hi : h[i]? = some (Za6 l)) :
 OpTri P G ⟨dst, .next m false, ty, pos, aft, gd⟩ ((opds (.next m false)).map (ev G e)) h (fun h' r => (h' = h ∧ r = .tup [.v (.bool false)] ∧ ∀ k, k < l.length → k ∈ seen) ∨ ∃ k x, l[k]? = some x ∧ k ∉ seen ∧ h' = h.set j (.iter i l.length (seen ++ [k]) l.length) ∧ r = .tup [.v (.bool true), .v (.string x.1), x.2]) :=
 Xu fun a w hd p ok hh => by
 have hox : opds (.next m false) = [m] := by simp [opds, Op.operands]
 have q1 := hh m (by rw [hox]; simp)
 rw [hm, rd] at q1
 obtain ⟨B, hB, e1⟩ := q1
 obtain ⟨B', r, hB', g2, g3, g4⟩ := ok.ob j _ _ hj hB
 cases hB'
 obtain ⟨r', arr, hr', o2, o3, o4, o5⟩ := ok.ob i _ _ hi g3
 cases hr'
 obtain ⟨c1, c2, c3⟩ := Jh o3
 have hleft : ∀ en, en ∈ (leftOf arr seen.toArray).toList → ∃ k x, arr.toList[k]? = some en ∧ l[k]? = some x ∧ en.key = .string x.1 ∧ en.born = k ∧ k ∉ seen := fun en hen => by
  unfold leftOf at hen
  simp at hen
  obtain ⟨hen1, hen2⟩ := hen
  obtain ⟨k, hk1, hk2⟩ := Zd (by simpa using hen1 : en ∈ arr.toList)
  have hk3 : arr.toList[k]? = some en := by rw [Z0 hk1, hk2]
  obtain ⟨x, hx, hx2, hx3⟩ := c2 k en hk3
  exact ⟨k, x, hk3, hx, hx2, hx3, by rw [← hx3]; exact hen2⟩
 rcases run_next_at (P := P) w ty B r l.length l.length seen.toArray arr l.length g2 o2 (fun en hen => by
   obtain ⟨k, hk1, hk2⟩ := Zd hen
   obtain ⟨x, hx, _, hx3⟩ := c2 k en (by rw [Z0 hk1, hk2])
   rw [hx3]; exact (Zc.1 hx).1) (Nat.le_refl _) with ⟨n1, n2⟩ | ⟨en, n1, w1, n2, n3⟩
 · refine ⟨.tuple #[.bool false], w, .inl ?_, .same ok (d := .tup [.v (.bool false)]) (.inl ⟨rfl, rfl, fun k hk => ?_⟩) (by rw [rd]; exact ⟨_, rfl, by simp [rdL, rd]⟩)⟩
   · simp [execOp, e1, n2]
   · apply Classical.byContradiction
     intro hns
     obtain ⟨x, hx⟩ : ∃ x, l[k]? = some x := ⟨_, Z0 hk⟩
     obtain ⟨en, he1, he2, he3⟩ := c3 k x hx
     have : en ∈ (leftOf arr seen.toArray).toList := by
      unfold leftOf
      simp
      exact ⟨by simpa using List.mem_of_getElem? he1, by rw [he3]; exact hns⟩
     have h0 : (leftOf arr seen.toArray).toList = [] := List.eq_nil_of_length_eq_zero (by simpa using n1)
     rw [h0] at this; cases this
 · obtain ⟨k, x, hk1, hx, hx2, hx3, hns⟩ := hleft en n1
   obtain ⟨ok1, ev1⟩ : Ok G w1 hd h p ∧ Evo w hd h p w1 hd h p := by
    rcases n2 with rfl | rfl
    · exact ⟨ok, .refl _ _ _ _⟩
    · exact ok.drew
   have hh1 : w1.heap = w.heap := by rcases n2 with rfl | rfl <;> rfl
   have hlt : B < w1.heap.size := by rw [hh1]; exact (Zo.1 g2).1
   have hb2 : ∀ (ob' : Obj) b, b ≠ B → (setBlock w1 B ob').heap[b]? = w1.heap[b]? := fun ob' b hb => by simp [setBlock, Ne.symm hb]
   have res := ok1.repl (w' := setBlock w1 B (.mapIter (some r) l.length (seen.toArray.push en.born) l.length)) (ob' := .iter i l.length (seen ++ [k]) l.length) (u' := .pointer (some ⟨B, 0, none⟩)) hj hB rfl rfl rfl rfl (by simp [setBlock]) (fun b _ hb => hb2 _ b fun e => hb (by rw [e]; rfl)) (fun b hb => .inl hb) (fun _ _ => rfl) (fun _ _ _ e => by cases e) fun c sb => by
    refine ⟨B, r, rfl, ?_, c.mp i r g3, by simp [g4]⟩
    simp [setBlock, hlt, hx3]
   have hrv : rd hd h (only p w) x.2 en.val := by
    have h1 := o4
    rw [mpE_ds] at h1
    obtain ⟨_, h2⟩ := (Yk _ _).1 h1
    obtain ⟨u, hu, hr⟩ := h2 k x.2 (by rw [Za, hx]; rfl)
    rw [Za, hk1] at hu
    cases hu; exact hr
   refine ⟨.tuple #[.bool true, en.key, en.val], _, .inl ?_, _, _, _, _, .inr ⟨k, x, hx, hns, rfl, rfl⟩, res.1, ?_, ev1.trans res.2⟩
   · simp [execOp, e1, n3]
   · rw [rd]
     refine ⟨_, rfl, ?_⟩
     simp only [rdL]
     exact ⟨_, _, rfl, by rw [rd], _, _, rfl, by rw [rd, hx2], _, _, rfl, (ev1.trans res.2).rd ok hrv, rfl⟩
theorem tri_entry {dst : Option Nat} {ty : TypeId} {m : Operand} {pos : String} {aft : Array Edge} {gd : Option (Nat × Bool)} {i j k : Nat} {l : List (ByteArray × D)} {seen : List Nat} {x : ByteArray × D}
 (hm : ev G e m = .ptr j 0) (hj : h[j]? = some (.iter i l.length (seen ++ [k]) l.length)) (hi : h[i]? = some (Za6 l)) (hx : l[k]? = some x) :
 OpTri P G ⟨dst, .entry m, ty, pos, aft, gd⟩ ((opds (.entry m)).map (ev G e)) h (fun h' r => h' = h ∧ r = .tup [.v (.string x.1), x.2]) :=
 Vw fun a w hd p ok hh => by
 have hox : opds (.entry m) = [m] := by simp [opds, Op.operands]
 have q1 := hh m (by rw [hox]; simp)
 rw [hm, rd] at q1
 obtain ⟨B, hB, e1⟩ := q1
 obtain ⟨B', r, hB', g2, g3, g4⟩ := ok.ob j _ _ hj hB
 cases hB'
 obtain ⟨r', arr, hr', o2, o3, o4, o5⟩ := ok.ob i _ _ hi g3
 cases hr'
 obtain ⟨c1, c2, c3⟩ := Jh o3
 obtain ⟨en, he1, he2, he3⟩ := c3 k x hx
 have hnd : (arr.toList.map (·.born)).Nodup := by
  have e2 : arr.toList.map (·.born) = List.range l.length := by
   apply List.ext_getElem?
   intro m
   rw [Za]
   cases hm : arr.toList[m]? with
   | none => rw [List.getElem?_eq_none (by rw [List.length_range]; have := Zp.1 hm; simp at this; omega)]; rfl
   | some en =>
    obtain ⟨x, hx, _, hx3⟩ := c2 m en hm
    rw [List.getElem?_range (Zc.1 hx).1, ← hx3]; rfl
  rw [e2]; exact List.nodup_range
 have hrun := run_entry_at (P := P) w B r l.length seen.toArray arr l.length en (by rw [g2, he3]; simp) o2 (List.mem_of_getElem? he1) hnd
 have hrv : rd hd h (only p w) x.2 en.val := by
  have h1 := o4
  rw [mpE_ds] at h1
  obtain ⟨_, h2⟩ := (Yk _ _).1 h1
  obtain ⟨u, hu, hr⟩ := h2 k x.2 (by rw [Za, hx]; rfl)
  rw [Za, he1] at hu
  cases hu; exact hr
 refine ⟨.tuple #[en.key, en.val], by simp [execOp, e1, hrun], ?_⟩
 rw [rd]
 refine ⟨_, rfl, ?_⟩
 simp only [rdL]
 exact ⟨_, _, rfl, by rw [rd, he2], _, _, rfl, hrv, rfl⟩
theorem Zi7 {dst : Option Nat} {t kt et ty : TypeId} {m x : Operand} {pos : String} {aft : Array Edge} {gd : Option (Nat × Bool)} {i k : Nat} {l : List (ByteArray × D)} {s : ByteArray} {d : D}
 (hm : ev G e m = .mp i) (hx : ev G e x = .v (.string s)) (ht : P.underlying t = some (.map kt et)) (hk : P.underlying kt = some .string) (hi : h[i]? = some (Za6 l)) (hl : ∀ z ∈ l, z.1.size ≤ maxLen) (hd : (l.map (·.1)).Nodup) (hg : l[k]? = some (s, d)) :
 OpTri P G ⟨dst, .lookup t m x false, ty, pos, aft, gd⟩ ((opds (.lookup t m x false)).map (ev G e)) h (fun h' r => h' = h ∧ r = d) :=
 Vw fun a w hdv p ok hh => by
 have hox : opds (.lookup t m x false) = [m, x] := by simp [opds, Op.operands]
 have q1 := hh m (by rw [hox]; simp)
 have q2 := hh x (by rw [hox]; simp)
 rw [hm, rd] at q1
 obtain ⟨r, hr, e1⟩ := q1
 rw [hx, rd] at q2
 obtain ⟨r', arr, hr', o2, o3, o4, o5⟩ := ok.ob i _ _ hi hr
 cases hr'
 obtain ⟨c1, c2, c3⟩ := Jh o3
 have K := Go.Maps.string_keyed hk
 obtain ⟨kl, hkey⟩ := Yb1 hk (hl _ (List.mem_of_getElem? hg))
 obtain ⟨en, he1, he2, he3⟩ := c3 k _ hg
 rcases K.find w hkey arr.toList (fun en hen => by
   obtain ⟨k, hk1, hk2⟩ := Zd hen
   obtain ⟨z, hz, hz2, _⟩ := c2 k en (by rw [Z0 hk1, hk2])
   rw [hz2]; exact Yb1 hk (hl z (List.mem_of_getElem? hz))) with ⟨f1, f2⟩ | ⟨j, e0, f1, f2, f3⟩
 · exact absurd he2 (f2 en (List.mem_of_getElem? he1))
 obtain ⟨z, hz, hz2, _⟩ := c2 j e0 f2
 have hzs : z.1 = s := by rw [f3] at hz2; injection hz2 with hz2; exact hz2.symm
 have hjk : j = k := by
  have h1 : (l.map (·.1))[j]? = some s := by rw [Za, hz, ← hzs]; rfl
  have h2 : (l.map (·.1))[k]? = some s := by rw [Za, hg]; rfl
  exact (Zq (Zc.1 h1).1 hd).1 (h1.trans h2.symm)
 subst hjk
 rw [hz] at hg; cases hg
 have hrv : rd hdv h (only p w) d e0.val := by
  have h1 := o4
  rw [mpE_ds] at h1
  obtain ⟨_, h2⟩ := (Yk _ _).1 h1
  obtain ⟨u, hu, hr⟩ := h2 j d (by rw [Za, hz]; rfl)
  rw [Za, f2] at hu
  cases hu; exact hr
 refine ⟨e0.val, ?_, hrv⟩
 simp [execOp, e1, q2, Instr.lookup, run_underlying ht, MapKept.run_getObj_map o2, K.check w _ hkey, f1, Result.andThen]
end
end
section
attribute [local irreducible] on aOp
attribute [local go_sem] decide_true decide_false Zi Zg
attribute [local simp] byD_len
section
variable {A B x y z v y' z' v' : Ob} {T : List Ob}
theorem sM_l2 : (sM A B x (T ++ [y, z]))[T.length + 3]? = some y := by simp [sM]
theorem Zp1 : (sM A B x (T ++ [y, z]))[T.length + 1 + 3]? = some z := by simp [sM]
theorem Zo7 : (sM A B x (T ++ [y, z])).set (T.length + 3) y' = sM A B x (T ++ [y', z]) := by simp [sM]
theorem Zo6 : (sM A B x (T ++ [y, z])).set (T.length + 1 + 3) z' = sM A B x (T ++ [y, z']) := by simp [sM]
theorem sM_l3 : (sM A B x (T ++ [y, z, v]))[T.length + 3]? = some y := by simp [sM]
theorem Zp0 : (sM A B x (T ++ [y, z, v]))[T.length + 1 + 3]? = some z := by simp [sM]
theorem Zo9 : (sM A B x (T ++ [y, z, v]))[T.length + 2 + 3]? = some v := by simp [sM]
theorem Zo8 : (sM A B x (T ++ [y, z, v]))[T.length + 1 + 1 + 3]? = some v := by simp [sM]
theorem Zo5 : (sM A B x (T ++ [y, z, v])).set (T.length + 2 + 3) v' = sM A B x (T ++ [y, z, v']) := by simp [sM]
theorem Zo4 : (sM A B x (T ++ [y, z, v])).set (T.length + 1 + 1 + 3) v' = sM A B x (T ++ [y, z, v']) := by simp [sM]
end
theorem Wl {A B x : Ob} {T l : List Ob} : sM A B x T ++ l = sM A B x (T ++ l) := rfl
structure Gen where
 mode : Int
 replicas : Int
 founders : List Int
 clients : Int
 admins : List Int
 objects : List (ByteArray × List D)
def obX (o : ByteArray × List D) : List D := .v (.string o.1) :: o.2
def genX (g : Gen) : List D := [.v (.int .i64 g.mode), .v (.int .i64 g.replicas), .sl 1 (g.founders.map intX), .v (.int .i64 g.clients), .sl 1 (g.admins.map intX), .sl 7 (g.objects.map obX)]
theorem W1 (g : Gen) : genX g = [.v (.int .i64 g.mode), .v (.int .i64 g.replicas), .sl 1 (g.founders.map intX), .v (.int .i64 g.clients), .sl 1 (g.admins.map intX), .sl 7 (g.objects.map obX)] := rfl
structure Gen.Ok (g : Gen) : Prop where
 many : g.objects.length ≤ 1000
 size : ∀ o ∈ g.objects, o.1.size ≤ 1000000
 six : ∀ o ∈ g.objects, o.2.length = 6
 low : ∀ o ∈ g.objects, lowL 0 o.2
 ones : ∀ o ∈ g.objects, o.2.all D.one = true
 nodup : (g.objects.map (·.1)).Nodup
def Gen.mp (g : Gen) : List (ByteArray × D) := g.objects.map fun o => (o.1, .agg o.2)
theorem Vz {g : Gen} (hg : g.Ok) (m : Nat) : lowL m (genX g) := by
 have h1 : ∀ l : List Int, low m (.sl 1 (l.map intX)) := fun l => by
  rw [low, Ji]
  intro row hr
  obtain ⟨b, _, rfl⟩ := Zj.1 hr
  simp [intX, lowL, low]
 have h2 : low m (.sl 7 (g.objects.map obX)) := by
  rw [low, Ji]
  intro row hr
  obtain ⟨o, ho, rfl⟩ := Zj.1 hr
  rw [obX, lowL]
  exact ⟨by rw [low]; trivial, V0 (Zm _) _ (hg.low o ho)⟩
 rw [genX]; simp only [lowL]
 exact ⟨by simp [low], by simp [low], h1 _, by simp [low], h1 _, h2, trivial⟩
theorem Gen.mp_len (g : Gen) : g.mp.length = g.objects.length := by simp [Gen.mp]
theorem Gen.mp_mem {g : Gen} {k : Nat} {z : ByteArray × D} (h : g.mp[k]? = some z) : z.1 ∈ g.objects.map (·.1) := by
 unfold Gen.mp at h
 rw [Za, Option.map_eq_some_iff] at h
 obtain ⟨o, ho, rfl⟩ := h
 exact Zj.2 ⟨o, List.mem_of_getElem? ho, rfl⟩
theorem Gen.mp_get {g : Gen} {k : Nat} {o : ByteArray × List D} (h : g.objects[k]? = some o) : g.mp[k]? = some (o.1, .agg o.2) := by
 unfold Gen.mp; rw [Za, h]; rfl
theorem ml {s : ByteArray} (h : s.size ≤ 1000000) : s.size ≤ maxLen := by unfold maxLen; omega
def okAt (g : Gen) (ws : List (ByteArray × List UInt8)) (i : Nat) : Prop := (0 < i → Op.bytesLess (ws.getD (i - 1) (Ze, [])).1.toList (ws.getD i (Ze, [])).1.toList = true) ∧ (ws.getD i (Ze, [])).1 ∈ g.objects.map (·.1)
def Yd0 (g : Gen) (dec : List D → List UInt8 → List D × Int) (bot : List D → List D → Bool) (ws : List (ByteArray × List UInt8)) (i : Nat) : Prop := ∃ o ∈ g.objects, o.1 = (ws.getD i (Ze, [])).1 ∧ ((dec o.2 (ws.getD i (Ze, [])).2).2 ≠ 0 ∨ bot o.2 (dec o.2 (ws.getD i (Ze, [])).2).1 = true)
theorem Zm6 : ∀ (n : Nat) (l : List Nat), l.Nodup → (∀ x ∈ l, x < n) → l.length ≤ n
 | 0, l, _, h => by
  cases l with
  | nil => simp
  | cons a t => exact absurd (h a (by simp)) (Zl a)
 | n + 1, l, hn, h => by
  by_cases hm : n ∈ l
  · have h1 := Zm6 n (l.erase n) (hn.erase n) fun x hx => by
     have h2 := h x (List.mem_of_mem_erase hx)
     have h3 : x ≠ n := fun e => by subst e; exact (List.Nodup.not_mem_erase hn) hx
     omega
    rw [List.length_erase_of_mem hm] at h1
    omega
  · have h1 := Zm6 n l hn fun x hx => by
     have h2 := h x hx
     have h3 : x ≠ n := fun e => by subst e; exact hm hx
     omega
    omega
section
variable {P : Program} {G : Nat → D} {n : Nat} {e : Nat → D} {h : List Ob} {ops : Array Oper} {rest : List Oper} {Q : S → Prop} {ty : TypeId} {pos : String} {aft : Array Edge} {gd : Option (Nat × Bool)}
theorem ao_ex1 {op : Op} {t : Nat} {KD : List Ob → D → Prop} (hw : Yc ops gd e = some true) (ht : decide (t < n) = true) (q : OpTri P G ⟨some t, op, ty, pos, aft, gd⟩ ((opds op).map (ev G e)) h KD) (k : ∀ h' d, KD h' d → ao P G ops rest Q ⟨n, upd e t d, h'⟩) : ao P G ops (⟨some t, op, ty, pos, aft, gd⟩ :: rest) Q ⟨n, e, h⟩ := by
 refine ao_ex hw q fun h' d hk => ?_
 have := k h' d hk
 unfold putE
 simp only [if_pos (of_decide_eq_true ht)]
 exact this
theorem ao_tri0 {op : Op} {h' : List Ob} {d : D} (hw : Yc ops gd e = some true) (q : OpTri P G ⟨none, op, ty, pos, aft, gd⟩ ((opds op).map (ev G e)) h (fun h1 d1 => h1 = h' ∧ d1 = d)) (k : ao P G ops rest Q ⟨n, e, h'⟩) : ao P G ops (⟨none, op, ty, pos, aft, gd⟩ :: rest) Q ⟨n, e, h⟩ := Zx3 hw q k
end
variable (G : Nat → D) (hG : ∀ g, low 0 (G g))
include hG
theorem writes0 (g : Gen) (hg : g.Ok) (c : Cmd) (hc : c.Ok) (dec : List D → List UInt8 → List D × Int) (bot : List D → List D → Bool) (z : Int)
 (hdec : ∀ o ∈ g.objects, ∀ w ∈ c.writes, ∀ h, Does Zf G 91 h [.agg o.2, .sl 1 (byD w.2)] (fun h' r => h' = h ∧ r = .tup [.agg (dec o.2 w.2).1, .v (.int .i64 (dec o.2 w.2).2)]))
 (hbot : ∀ o ∈ g.objects, ∀ w ∈ c.writes, (dec o.2 w.2).2 = 0 → ∀ h, Does Zf G 92 h [.agg o.2, .agg (dec o.2 w.2).1] (fun h' r => h' = h ∧ r = .v (.bool (bot o.2 (dec o.2 w.2).1))))
 (hval : ∀ o ∈ g.objects, ∀ w ∈ c.writes, (dec o.2 w.2).1.length = 4 ∧ (dec o.2 w.2).1.all D.one = true)
 (hz3 : (∃ i, i < c.writes.length ∧ ¬ okAt g c.writes i) → z = 3) (hz4 : (∀ i, i < c.writes.length → okAt g c.writes i) → (∃ i, i < c.writes.length ∧ Yd0 g dec bot c.writes i) → z = 4) (hz0 : (∀ i, i < c.writes.length → okAt g c.writes i) → (∀ i, i < c.writes.length → ¬ Yd0 g dec bot c.writes i) → z = 0) :
 Does Zf G 62 [] [.agg (genX g), .agg (cmdX c)] (fun h' r => h' = [] ∧ r = .v (.int .i64 z)) := by
 refine Y5 Tryz.func62 rfl (Zk rfl) hG fun hl0 _ => ?_
 simp only [Tryz.ntmps62]
 repeat' first
  | (refine aw_scope ?_)
  | (refine W2 rfl rfl tri_makeMap ?_)
  | refine sA rfl ?_
  | refine Y4 ?_
  | (refine ao1 rfl rfl fun K HK => ?_; simp only [go_sem, ↓reduceIte, Z2, Z4, Z3, Z5, Z6, Z7, Z8, Z9, W1, Yi] <;> (refine HK _ _ ?_; clear HK K))
 have hmany := hg.many
 refine Yr (fun m e h' => ∃ (k : Nat) (T : List Ob), k ≤ g.objects.length ∧ m = g.objects.length - k ∧ h' = sM (.cells (genX g)) (.cells (cmdX c)) (Za6 (g.mp.take k)) T ∧ e 2 = .ptr 0 0 ∧ e 3 = .ptr 1 0 ∧ e 5 = .mp 2 ∧ e 18 = .sl 7 (g.objects.map obX) ∧ e 19 = .v (.int .i64 g.objects.length) ∧ e 20 = .v (.int .i64 k)) g.objects.length ⟨0, [], Zm _, rfl, rfl, rfl, rfl, rfl, rfl, rfl, rfl⟩ ?_
 rintro m e h' ⟨k, T, hk, rfl, rfl, e2, e3, e5, e18, e19, e20⟩
 by_cases hlt : k < g.objects.length
 · have hx : g.objects[k]? = some g.objects[k] := Z0 hlt
   have hxm : g.objects[k] ∈ g.objects := Zr hlt
   have hnm : ∀ z ∈ g.mp.take k, z.1 ≠ (g.objects[k]).1 := fun z hz he => by
    obtain ⟨j, hj, hjz⟩ := Zd hz
    have hjk : j < k := by simp at hj; omega
    have h1 : (g.objects.map (·.1))[j]? = some (g.objects[k]).1 := by
     have h2 : (g.mp.take k)[j]? = some z := by rw [Z0 hj, hjz]
     rw [List.getElem?_take_of_lt hjk] at h2
     have hjo : g.objects[j]? = some (g.objects[j]'(by omega)) := Z0 (by omega)
     rw [Gen.mp_get hjo] at h2
     cases h2
     rw [Za, hjo]; exact congrArg some he
    have h3 : (g.objects.map (·.1))[k]? = some (g.objects[k]).1 := by rw [Za, hx]; rfl
    have := (Zq (Zc.1 h1).1 hg.nodup).1 (h1.trans h3.symm)
    omega
   have htk : g.mp.take (k + 1) = g.mp.take k ++ [((g.objects[k]).1, .agg (g.objects[k]).2)] := by
    rw [List.take_add_one, Gen.mp_get hx]; rfl
   have hsz := hg.size _ hxm
   have h6 := hg.six _ hxm
   have h1s := hg.ones _ hxm
   generalize g.objects[k] = o at hx hxm hnm htk hsz h6 h1s
   obtain ⟨nm, ls⟩ := o
   obtain ⟨a0, a1, a2, a3, a4, a5, rfl⟩ : ∃ a0 a1 a2 a3 a4 a5, ls = [a0, a1, a2, a3, a4, a5] := by
    match ls, h6 with
    | [a0, a1, a2, a3, a4, a5], _ => exact ⟨a0, a1, a2, a3, a4, a5, rfl⟩
   simp only at hnm htk hsz
   have wk : IntKind.i64.wrap ((k : Int) + 1) = ((k + 1 : Nat) : Int) := IntWalk.i64_in _ (by omega)
   have hlm : ∀ z ∈ g.mp.take k, z.1.size ≤ maxLen := fun z hz => by
    have := List.mem_of_mem_take hz
    unfold Gen.mp at this
    obtain ⟨o, ho, rfl⟩ := Zj.1 this
    exact ml (hg.size o ho)
   repeat' first
    | (refine ao_tri0 rfl (tri_mapUpd (i := 2) rfl rfl rfl (by kernel_rfl : Zf.underlying 129 = some (.map 9 31)) (by kernel_rfl : Zf.underlying 9 = some .string) sM_2 (ml hsz) hlm hnm) ?_)
    | refine sA rfl ?_ | refine sI rfl rfl ?_ | refine sT rfl ?_
    | refine Y4 ?_
    | (refine ao1 rfl rfl fun K HK => ?_; simp only [go_sem, ↓reduceIte, Z2, Z4, Z3, Z5, Z6, Z7, Z8, Z9, e2, e3, e5, e18, e19, e20, wk, sM_0, sM_1, sM_2, Xk, Xj, Xi, Xg, Xh, Yq, sM_l, Xn, Wl, obX, h1s, Zb]; (first | refine Y6 (fun hq => ?_) (fun hq => ?_) | (refine ⟨by omega, by omega, ?_⟩; refine Yg (by assumption) ?_) | skip) <;> (refine HK _ _ ?_; clear HK K))
    | (refine ao1' rfl fun K HK => ?_; simp only [go_sem, ↓reduceIte, Z2, Z4, Z3, Z5, Z6, Z7, Z8, Z9, e2, e3, e5, e18, e19, e20, wk, sM_0, sM_1, sM_2, Xk, Xj, Xi, Xg, Xh, Yq, sM_l, Xn, Wl, obX, h1s, Zb]; refine HK _ _ ?_; clear HK K)
    | (exfalso; omega)
   exact ⟨rfl, g.objects.length - (k + 1), by omega, k + 1, _, by omega, rfl, congrArg (fun x => sM (.cells (genX g)) (.cells (cmdX c)) (Za6 x) (T ++ [.cells [.v (.string nm), a0, a1, a2, a3, a4, a5]])) htk.symm, by simp [upd, e2], by simp [upd, e3], by simp [upd, e5], by simp [upd, e18], by simp [upd, e19], rfl⟩
 have hk' : k = g.objects.length := by omega
 subst hk'
 rw [show g.mp.take g.objects.length = g.mp from List.take_of_length_le (by rw [Gen.mp_len]; omega)]
 repeat' first
  | (refine aw_label ?_)
  | refine sA rfl ?_ | refine sI rfl rfl ?_
  | refine Y4 ?_
  | (refine ao1 rfl rfl fun K HK => ?_; simp only [go_sem, ↓reduceIte, Z2, Z4, Z3, Z5, Z6, Z7, Z8, Z9, e2, e3, e5, e18, e19, e20, sM_0, sM_1, sM_2, Xk, Xj, Xi, Xg, Xh, Yq, sM_l, Xn, Wl, Yi]; (first | refine Y6 (fun hq => ?_) (fun hq => ?_) | (refine ⟨by omega, by omega, ?_⟩; intro row hrow; obtain ⟨x, hx, rfl⟩ := Yn hrow; clear hrow) | skip) <;> (refine HK _ _ ?_; clear HK K))
  | (exfalso; omega)
 clear e18 e19 e20 hlt hk
 refine Yr (fun m e h' => ∃ (k : Nat) (T : List Ob), k ≤ c.writes.length ∧ m = c.writes.length - k ∧ (∀ j, j < k → okAt g c.writes j) ∧ h' = sM (.cells (genX g)) (.cells (cmdX c)) (Za6 g.mp) T ∧ e 2 = .ptr 0 0 ∧ e 3 = .ptr 1 0 ∧ e 5 = .mp 2 ∧ e 31 = .sl 2 (c.writes.map wrX) ∧ e 32 = .v (.int .i64 c.writes.length) ∧ e 33 = .v (.int .i64 k)) c.writes.length ⟨0, T, Zm _, rfl, fun j hj => absurd hj (Zl j), rfl, e2, e3, e5, rfl, rfl, rfl⟩ ?_
 clear e2 e3 e5 e T
 rintro m e h' ⟨k, T, hk, rfl, hO, rfl, e2, e3, e5, e31, e32, e33⟩
 have hcm := hc.many
 by_cases hlt : k < c.writes.length
 · have hx : c.writes[k]? = some c.writes[k] := Z0 hlt
   have wk : IntKind.i64.wrap ((k : Int) + 1) = ((k + 1 : Nat) : Int) := IntWalk.i64_in _ (by omega)
   have hxk : c.writes.getD k (Ze, []) = c.writes[k] := by rw [Zh, hx]; rfl
   generalize hxe : c.writes[k] = x at hx hxk
   by_cases hless : 0 < k → Op.bytesLess (c.writes.getD (k - 1) (Ze, [])).1.toList x.1.toList = true
   rotate_left
   · have h0 : 0 < k := Classical.byContradiction fun h => hless fun h' => absurd h' h
     have hx0 : c.writes[k - 1]? = some (c.writes[k - 1]'(by omega)) := Z0 (by omega)
     have hx0k : c.writes.getD (k - 1) (Ze, []) = c.writes[k - 1]'(by omega) := by rw [Zh, hx0]; rfl
     have hlf : Op.bytesLess (c.writes[k - 1]'(by omega)).1.toList x.1.toList = false := by
      rw [hx0k] at hless
      cases hb : Op.bytesLess (c.writes[k - 1]'(by omega)).1.toList x.1.toList with
      | false => rfl
      | true => exact absurd (fun _ => hb) hless
     generalize (c.writes[k - 1]'(by omega)) = x0 at hx0 hlf
     have w0 : IntKind.i64.wrap ((k : Int) - 1) = ((k - 1 : Nat) : Int) := (IntWalk.i64_in _ (by omega)).trans (by omega)
     repeat' first
      | refine sA rfl ?_ | refine sI rfl rfl ?_ | refine sT rfl ?_ | refine sB rfl ?_
      | refine Y4 ?_
      | ((first | refine ao1 rfl rfl fun K HK => ?_ | refine aq1 rfl rfl fun K HK => ?_); (first | refine Y7 rfl ?_ | skip); simp only [go_sem, ↓reduceIte, Z2, Z4, Z3, Z5, Z6, Z7, Z8, Z9, e2, e3, e5, e31, e32, e33, wk, w0, sM_0, sM_1, sM_2, Xk, Xj, Xi, Xg, Xh, Yq, sM_l, Xn, Wl, Yi, V6, hlf, Zb, Z1, Zg, Zi]; (first | refine Y6 (fun hq => ?_) (fun hq => ?_) | (refine ⟨by omega, by omega, ?_⟩; refine Yg (by assumption) ?_) | skip) <;> ((first | refine HK _ _ ?_ | refine HK _ _ rfl ?_); clear HK K))
      | refine aq0 rfl rfl ?_
      | refine X2 ?_
      | (refine Ya mixd (by kernel_rfl) ?_)
      | (refine ao1' rfl fun K HK => ?_; simp only [go_sem, ↓reduceIte, Z2, Z4, Z3, Z5, Z6, Z7, Z8, Z9, e2, e3, e5, e31, e32, e33, wk, w0, sM_0, sM_1, sM_2, Xk, Xj, Xi, Xg, Xh, Yq, sM_l, Xn, Wl, Yi, V6, hlf, Zb, Z1, Zg, Zi]; refine HK _ _ ?_; clear HK K)
      | (exfalso; omega)
     rw [hz3 ⟨k, hlt, fun h => hless (hxk ▸ h.1)⟩]
     exact (show (Exit.ret = Exit.normal ∨ Exit.ret = Exit.ret) ∧ _ from ⟨.inr rfl, endD (r := .v (.int .i64 3)) hl0 rfl (by simp) (by simp) rfl (by rw [low]; trivial) ⟨rfl, rfl⟩⟩)
   have hgo : ∀ (T2 : List Ob), True := fun _ => trivial
   by_cases h0 : 0 < k
   · have hx0 : c.writes[k - 1]? = some (c.writes[k - 1]'(by omega)) := Z0 (by omega)
     have hx0k : c.writes.getD (k - 1) (Ze, []) = c.writes[k - 1]'(by omega) := by rw [Zh, hx0]; rfl
     have hlf : Op.bytesLess (c.writes[k - 1]'(by omega)).1.toList x.1.toList = true := by rw [← hx0k]; exact hless h0
     generalize (c.writes[k - 1]'(by omega)) = x0 at hx0 hlf
     have w0 : IntKind.i64.wrap ((k : Int) - 1) = ((k - 1 : Nat) : Int) := (IntWalk.i64_in _ (by omega)).trans (by omega)
     repeat' first
      | (refine W2 rfl rfl (tri_range (i := 2) (l := g.mp) rfl (by kernel_rfl : Zf.underlying 129 = some (.map 9 31)) sM_2) ?_)
      | refine sA rfl ?_ | refine sI rfl rfl ?_
      | refine Y4 ?_
      | ((first | refine ao1 rfl rfl fun K HK => ?_ | refine aq1 rfl rfl fun K HK => ?_); (first | refine Y7 rfl ?_ | skip); simp only [go_sem, ↓reduceIte, Z2, Z4, Z3, Z5, Z6, Z7, Z8, Z9, e2, e3, e5, e31, e32, e33, wk, w0, sM_0, sM_1, sM_2, Xk, Xj, Xi, Xg, Xh, Yq, sM_l, Xn, Wl, Yi, V6, hlf, Zb, Z1, Zg, Zi]; (first | refine Y6 (fun hq => ?_) (fun hq => ?_) | (refine ⟨by omega, by omega, ?_⟩; refine Yg (by assumption) ?_) | skip) <;> ((first | refine HK _ _ ?_ | refine HK _ _ rfl ?_); clear HK K))
      | refine aq0 rfl rfl ?_
      | refine X2 ?_
      | (refine Ya mixd (by kernel_rfl) ?_)
      | (refine ao1' rfl fun K HK => ?_; simp only [go_sem, ↓reduceIte, Z2, Z4, Z3, Z5, Z6, Z7, Z8, Z9, e2, e3, e5, e31, e32, e33, wk, w0, sM_0, sM_1, sM_2, Xk, Xj, Xi, Xg, Xh, Yq, sM_l, Xn, Wl, Yi, V6, hlf, Zb, Z1, Zg, Zi]; refine HK _ _ ?_; clear HK K)
      | (exfalso; omega)
     generalize hT2 : T ++ [Ob.cells [D.v (.string x.1), .sl 1 (byD x.2)]] = T2
     have hT9 : ∀ y l, (sM (.cells (genX g)) (.cells (cmdX c)) (Za6 g.mp) (T2 ++ y :: l))[T.length + 3]? = some (.cells (wrX x)) := fun y l => by subst hT2; simp [sM, wrX]
     refine Yr (fun m e h' => ∃ (seen : List Nat), seen.Nodup ∧ (∀ j ∈ seen, j < g.mp.length ∧ ∀ z, g.mp[j]? = some z → z.1 ≠ x.1) ∧ m = g.mp.length - seen.length ∧ h' = sM (.cells (genX g)) (.cells (cmdX c)) (Za6 g.mp) (T2 ++ [.iter 2 g.mp.length seen g.mp.length]) ∧ e 2 = .ptr 0 0 ∧ e 3 = .ptr 1 0 ∧ e 5 = .mp 2 ∧ e 9 = .ptr (T.length + 3) 0 ∧ e 31 = .sl 2 (c.writes.map wrX) ∧ e 32 = .v (.int .i64 c.writes.length) ∧ e 33 = .v (.int .i64 k) ∧ e 53 = .ptr (T2.length + 3) 0) g.mp.length ⟨[], List.nodup_nil, by simp, rfl, rfl, by simp [upd, e2], by simp [upd, e3], by simp [upd, e5], by simp [upd], by simp [upd, e31], by simp [upd, e32], by simp [upd, e33], by simp [upd, sM, ← hT2]⟩ ?_
     clear e2 e3 e5 e31 e32 e33 e
     rintro m e h' ⟨seen, hsn, hsm, rfl, rfl, e2, e3, e5, e9, e31, e32, e33, e53⟩
     repeat' first
      | refine sA rfl ?_
     refine ao_ex1 rfl rfl (tri_next (i := 2) (j := T2.length + 3) (l := g.mp) (seen := seen) (by simp only [go_sem, e53]) sM_l sM_2) ?_
     rintro h' d (⟨rfl, rfl, hall⟩ | ⟨j, zz, hzj, hns, rfl, rfl⟩)
     · have hnot : ¬ okAt g c.writes k := fun h => by
        have h2 := h.2
        rw [hxk] at h2
        obtain ⟨o, ho, hoe⟩ := Zj.1 h2
        obtain ⟨q, hq1, hq2⟩ := Zd ho
        have hq3 : g.objects[q]? = some o := by rw [Z0 hq1, hq2]
        exact (hsm q (hall q (by rw [Gen.mp_len]; exact hq1))).2 _ (Gen.mp_get hq3) hoe
       repeat' first
        | refine sA rfl ?_ | refine sI rfl rfl ?_ | refine sT rfl ?_ | refine sB rfl ?_
        | refine Y4 ?_
        | (refine ao1 rfl rfl fun K HK => ?_; simp only [go_sem, ↓reduceIte, Z2, Z4, Z3, Z5, Z6, Z7, Z8, Z9, e2, e3, e5, e9, e31, e32, e33, e53, sM_0, sM_1, sM_2, Xk, Xj, Xi, Xg, Xh, Yq, sM_l, Xn, Wl, Z1] <;> (refine HK _ _ ?_; clear HK K))
       rw [hz3 ⟨k, hlt, hnot⟩]
       exact (show (Exit.ret = Exit.normal ∨ Exit.ret = Exit.ret) ∧ _ from ⟨.inr rfl, endD (r := .v (.int .i64 3)) hl0 rfl (by simp) (by simp) rfl (by rw [low]; trivial) ⟨rfl, rfl⟩⟩)
     · rw [Xn]
       repeat' first
        | (refine W2 rfl rfl (tri_entry (i := 2) (j := T2.length + 3) (l := g.mp) (seen := seen) (by simp [ev, upd, e53]) sM_l sM_2 hzj) ?_)
        | (refine ao1 rfl rfl fun K HK => ?_; refine Yy (by first | rfl | (simp only [go_sem, e9]; rfl)) (hT9 _ _) (by rw [getD_one (by simp only [go_sem])]; rfl) ?_; refine HK _ _ ?_; clear HK K)
        | refine sA rfl ?_ | refine sI rfl rfl ?_ | refine sT rfl ?_ | refine sB rfl ?_
        | refine Y4 ?_
        | (refine ao1 rfl rfl fun K HK => ?_; simp only [go_sem, ↓reduceIte, Z2, Z4, Z3, Z5, Z6, Z7, Z8, Z9, e2, e3, e5, e9, e31, e32, e33, e53, wk, sM_0, sM_1, sM_2, Xk, Xj, Xi, Xg, Xh, Yq, sM_l, Xn, Wl, V6, Z1]; (first | refine Y6 (fun hq => ?_) (fun hq => ?_) | skip) <;> (refine HK _ _ ?_; clear HK K))
       · have hzx : zz.1 = x.1 := hq
         refine ⟨rfl, c.writes.length - (k + 1), by omega, k + 1, T2 ++ [.iter 2 g.mp.length (seen ++ [j]) g.mp.length], by omega, rfl, fun i hi => ?_, rfl, by simp [upd, e2], by simp [upd, e3], by simp [upd, e5], by simp [upd, e31], by simp [upd, e32], rfl⟩
         rcases Zs i k with h | h
         · exact hO i h
         · have hik : i = k := by omega
           subst hik
           exact ⟨fun h => by rw [hxk]; exact hless h, by rw [hxk, ← hzx]; exact Gen.mp_mem hzj⟩
       · have hjl := (Zc.1 hzj).1
         have hnd : (seen ++ [j]).Nodup := List.nodup_append.2 ⟨hsn, by simp, fun a ha b hb => by simp at hb; subst hb; exact fun e => hns (e ▸ ha)⟩
         have hmem : ∀ q ∈ seen ++ [j], q < g.mp.length ∧ ∀ z, g.mp[q]? = some z → z.1 ≠ x.1 := fun q hqm => by
          rcases List.mem_append.1 hqm with h | h
          · exact hsm q h
          · simp at h
            subst h
            exact ⟨hjl, fun z hz => by rw [hzj] at hz; cases hz; exact hq⟩
         have hsl := Zm6 g.mp.length (seen ++ [j]) hnd fun q hqm => (hmem q hqm).1
         rw [List.length_append, List.length_singleton] at hsl
         exact ⟨rfl, g.mp.length - (seen.length + 1), by omega, seen ++ [j], hnd, hmem, by simp, rfl, by simp [upd, e2], by simp [upd, e3], by simp [upd, e5], by simp [upd, e9], by simp [upd, e31], by simp [upd, e32], by simp [upd, e33], by simp [upd, e53]⟩
   · have hk0 : k = 0 := by omega
     repeat' first
      | (refine W2 rfl rfl (tri_range (i := 2) (l := g.mp) rfl (by kernel_rfl : Zf.underlying 129 = some (.map 9 31)) sM_2) ?_)
      | refine sA rfl ?_ | refine sI rfl rfl ?_ | refine sT rfl ?_
      | refine Y4 ?_
      | ((first | refine ao1 rfl rfl fun K HK => ?_ | refine aq1 rfl rfl fun K HK => ?_); (first | refine Y7 rfl ?_ | skip); simp only [go_sem, ↓reduceIte, Z2, Z4, Z3, Z5, Z6, Z7, Z8, Z9, e2, e3, e5, e31, e32, e33, wk, sM_0, sM_1, sM_2, Xk, Xj, Xi, Xg, Xh, Yq, sM_l, Xn, Wl, Yi, V6, Zb, Z1, Zg, Zi]; (first | refine Y6 (fun hq => ?_) (fun hq => ?_) | (refine ⟨by omega, by omega, ?_⟩; refine Yg (by assumption) ?_) | (refine ⟨by omega, by omega, ?_⟩; intro row hrow; obtain ⟨x, hx, rfl⟩ := Yn hrow; clear hrow) | skip) <;> ((first | refine HK _ _ ?_ | refine HK _ _ rfl ?_); clear HK K))
      | refine aq0 rfl rfl ?_
      | refine X2 ?_
      | (refine Ya mixd (by kernel_rfl) ?_)
      | (refine ao1' rfl fun K HK => ?_; simp only [go_sem, ↓reduceIte, Z2, Z4, Z3, Z5, Z6, Z7, Z8, Z9, e2, e3, e5, e31, e32, e33, wk, sM_0, sM_1, sM_2, Xk, Xj, Xi, Xg, Xh, Yq, sM_l, Xn, Wl, Yi, V6, Zb, Z1, Zg, Zi]; refine HK _ _ ?_; clear HK K)
      | (exfalso; omega)
     generalize hT2 : T ++ [Ob.cells [D.v (.string x.1), .sl 1 (byD x.2)]] = T2
     have hT9 : ∀ y l, (sM (.cells (genX g)) (.cells (cmdX c)) (Za6 g.mp) (T2 ++ y :: l))[T.length + 3]? = some (.cells (wrX x)) := fun y l => by subst hT2; simp [sM, wrX]
     refine Yr (fun m e h' => ∃ (seen : List Nat), seen.Nodup ∧ (∀ j ∈ seen, j < g.mp.length ∧ ∀ z, g.mp[j]? = some z → z.1 ≠ x.1) ∧ m = g.mp.length - seen.length ∧ h' = sM (.cells (genX g)) (.cells (cmdX c)) (Za6 g.mp) (T2 ++ [.iter 2 g.mp.length seen g.mp.length]) ∧ e 2 = .ptr 0 0 ∧ e 3 = .ptr 1 0 ∧ e 5 = .mp 2 ∧ e 9 = .ptr (T.length + 3) 0 ∧ e 31 = .sl 2 (c.writes.map wrX) ∧ e 32 = .v (.int .i64 c.writes.length) ∧ e 33 = .v (.int .i64 k) ∧ e 53 = .ptr (T2.length + 3) 0) g.mp.length ⟨[], List.nodup_nil, by simp, rfl, rfl, by simp [upd, e2], by simp [upd, e3], by simp [upd, e5], by simp [upd], by simp [upd, e31], by simp [upd, e32], by simp [upd, e33], by simp [upd, sM, ← hT2]⟩ ?_
     clear e2 e3 e5 e31 e32 e33 e
     rintro m e h' ⟨seen, hsn, hsm, rfl, rfl, e2, e3, e5, e9, e31, e32, e33, e53⟩
     repeat' first
      | refine sA rfl ?_
     refine ao_ex1 rfl rfl (tri_next (i := 2) (j := T2.length + 3) (l := g.mp) (seen := seen) (by simp only [go_sem, e53]) sM_l sM_2) ?_
     rintro h' d (⟨rfl, rfl, hall⟩ | ⟨j, zz, hzj, hns, rfl, rfl⟩)
     · have hnot : ¬ okAt g c.writes k := fun h => by
        have h2 := h.2
        rw [hxk] at h2
        obtain ⟨o, ho, hoe⟩ := Zj.1 h2
        obtain ⟨q, hq1, hq2⟩ := Zd ho
        have hq3 : g.objects[q]? = some o := by rw [Z0 hq1, hq2]
        exact (hsm q (hall q (by rw [Gen.mp_len]; exact hq1))).2 _ (Gen.mp_get hq3) hoe
       repeat' first
        | refine sA rfl ?_ | refine sI rfl rfl ?_ | refine sT rfl ?_ | refine sB rfl ?_
        | refine Y4 ?_
        | (refine ao1 rfl rfl fun K HK => ?_; simp only [go_sem, ↓reduceIte, Z2, Z4, Z3, Z5, Z6, Z7, Z8, Z9, e2, e3, e5, e9, e31, e32, e33, e53, sM_0, sM_1, sM_2, Xk, Xj, Xi, Xg, Xh, Yq, sM_l, Xn, Wl, Z1] <;> (refine HK _ _ ?_; clear HK K))
       rw [hz3 ⟨k, hlt, hnot⟩]
       exact (show (Exit.ret = Exit.normal ∨ Exit.ret = Exit.ret) ∧ _ from ⟨.inr rfl, endD (r := .v (.int .i64 3)) hl0 rfl (by simp) (by simp) rfl (by rw [low]; trivial) ⟨rfl, rfl⟩⟩)
     · rw [Xn]
       repeat' first
        | (refine W2 rfl rfl (tri_entry (i := 2) (j := T2.length + 3) (l := g.mp) (seen := seen) (by simp [ev, upd, e53]) sM_l sM_2 hzj) ?_)
        | (refine ao1 rfl rfl fun K HK => ?_; refine Yy (by first | rfl | (simp only [go_sem, e9]; rfl)) (hT9 _ _) (by rw [getD_one (by simp only [go_sem])]; rfl) ?_; refine HK _ _ ?_; clear HK K)
        | refine sA rfl ?_ | refine sI rfl rfl ?_ | refine sT rfl ?_ | refine sB rfl ?_
        | refine Y4 ?_
        | (refine ao1 rfl rfl fun K HK => ?_; simp only [go_sem, ↓reduceIte, Z2, Z4, Z3, Z5, Z6, Z7, Z8, Z9, e2, e3, e5, e9, e31, e32, e33, e53, wk, sM_0, sM_1, sM_2, Xk, Xj, Xi, Xg, Xh, Yq, sM_l, Xn, Wl, V6, Z1]; (first | refine Y6 (fun hq => ?_) (fun hq => ?_) | skip) <;> (refine HK _ _ ?_; clear HK K))
       · have hzx : zz.1 = x.1 := hq
         refine ⟨rfl, c.writes.length - (k + 1), by omega, k + 1, T2 ++ [.iter 2 g.mp.length (seen ++ [j]) g.mp.length], by omega, rfl, fun i hi => ?_, rfl, by simp [upd, e2], by simp [upd, e3], by simp [upd, e5], by simp [upd, e31], by simp [upd, e32], rfl⟩
         rcases Zs i k with h | h
         · exact hO i h
         · have hik : i = k := by omega
           subst hik
           exact ⟨fun h => by rw [hxk]; exact hless h, by rw [hxk, ← hzx]; exact Gen.mp_mem hzj⟩
       · have hjl := (Zc.1 hzj).1
         have hnd : (seen ++ [j]).Nodup := List.nodup_append.2 ⟨hsn, by simp, fun a ha b hb => by simp at hb; subst hb; exact fun e => hns (e ▸ ha)⟩
         have hmem : ∀ q ∈ seen ++ [j], q < g.mp.length ∧ ∀ z, g.mp[q]? = some z → z.1 ≠ x.1 := fun q hqm => by
          rcases List.mem_append.1 hqm with h | h
          · exact hsm q h
          · simp at h
            subst h
            exact ⟨hjl, fun z hz => by rw [hzj] at hz; cases hz; exact hq⟩
         have hsl := Zm6 g.mp.length (seen ++ [j]) hnd fun q hqm => (hmem q hqm).1
         rw [List.length_append, List.length_singleton] at hsl
         exact ⟨rfl, g.mp.length - (seen.length + 1), by omega, seen ++ [j], hnd, hmem, by simp, rfl, by simp [upd, e2], by simp [upd, e3], by simp [upd, e5], by simp [upd, e9], by simp [upd, e31], by simp [upd, e32], by simp [upd, e33], by simp [upd, e53]⟩
 have hkl : k = c.writes.length := by omega
 subst hkl
 repeat' first
  | refine sA rfl ?_ | refine sI rfl rfl ?_
  | refine Y4 ?_
  | (refine ao1 rfl rfl fun K HK => ?_; simp only [go_sem, ↓reduceIte, Z2, Z4, Z3, Z5, Z6, Z7, Z8, Z9, e2, e3, e5, e31, e32, e33, sM_0, sM_1, sM_2, Xk, Xj, Xi, Xg, Xh, Yq, sM_l, Xn, Wl, Yi]; (first | refine Y6 (fun hq => ?_) (fun hq => ?_) | (refine ⟨by omega, by omega, ?_⟩; intro row hrow; obtain ⟨x, hx, rfl⟩ := Yn hrow; clear hrow) | skip) <;> (refine HK _ _ ?_; clear HK K))
  | (exfalso; omega)
 clear hlt hk e31 e32 e33
 have hcl := hcm
 refine Yr (fun m e h' => ∃ (k : Nat) (T : List Ob), k ≤ c.writes.length ∧ m = c.writes.length - k ∧ (∀ j, j < k → ¬ Yd0 g dec bot c.writes j) ∧ h' = sM (.cells (genX g)) (.cells (cmdX c)) (Za6 g.mp) T ∧ e 5 = .mp 2 ∧ e 64 = .sl 2 (c.writes.map wrX) ∧ e 65 = .v (.int .i64 c.writes.length) ∧ e 66 = .v (.int .i64 k)) c.writes.length ⟨0, T, Zm _, rfl, fun j hj => absurd hj (Zl j), rfl, e5, rfl, rfl, rfl⟩ ?_
 clear e2 e3 e5 e T
 rintro m e h' ⟨k, T, hk, rfl, hB, rfl, e5, e64, e65, e66⟩
 by_cases hlt : k < c.writes.length
 · have hx : c.writes[k]? = some c.writes[k] := Z0 hlt
   have hxm : c.writes[k] ∈ c.writes := Zr hlt
   have hxk : c.writes.getD k (Ze, []) = c.writes[k] := by rw [Zh, hx]; rfl
   have wk : IntKind.i64.wrap ((k : Int) + 1) = ((k + 1 : Nat) : Int) := IntWalk.i64_in _ (by omega)
   generalize c.writes[k] = x at hx hxk hxm
   have hok := (hO k hlt).2
   rw [hxk] at hok
   obtain ⟨o, ho, hox⟩ := Zj.1 hok
   obtain ⟨q, hq1, hq2⟩ := Zd ho
   have hq3 : g.objects[q]? = some o := by rw [Z0 hq1, hq2]
   have hq4 : g.mp[q]? = some (x.1, .agg o.2) := by rw [Gen.mp_get hq3, hox]
   have h6 := hg.six _ ho
   have hd := hdec o ho x hxm
   have hb := hbot o ho x hxm
   have hv := hval o ho x hxm
   have huniq : ∀ o' ∈ g.objects, o'.1 = x.1 → o' = o := fun o' ho' he => by
    obtain ⟨q', hq1', hq2'⟩ := Zd ho'
    have hq3' : g.objects[q']? = some o' := by rw [Z0 hq1', hq2']
    have h1 : (g.objects.map (·.1))[q]? = some x.1 := by rw [Za, hq3, ← hox]; rfl
    have h2 : (g.objects.map (·.1))[q']? = some x.1 := by rw [Za, hq3', ← he]; rfl
    have h3 := (Zq (Zc.1 h1).1 hg.nodup).1 (h1.trans h2.symm)
    subst h3
    rw [hq3] at hq3'; cases hq3'; rfl
   have hbad : Yd0 g dec bot c.writes k ↔ ((dec o.2 x.2).2 ≠ 0 ∨ bot o.2 (dec o.2 x.2).1 = true) := by
    unfold Yd0
    rw [hxk]
    constructor
    · rintro ⟨o', ho', he, h⟩
      rw [huniq o' ho' he] at h; exact h
    · intro h; exact ⟨o, ho, hox, h⟩
   clear huniq hq1 hq2 hq3
   obtain ⟨nm, ls⟩ := o
   simp only at hq4 h6 hd hb hv hbad
   obtain ⟨a0, a1, a2, a3, a4, a5, rfl⟩ : ∃ a0 a1 a2 a3 a4 a5, ls = [a0, a1, a2, a3, a4, a5] := by
    match ls, h6 with
    | [a0, a1, a2, a3, a4, a5], _ => exact ⟨a0, a1, a2, a3, a4, a5, rfl⟩
   have h1s := hg.ones _ ho
   simp only at h1s
   generalize dec [a0, a1, a2, a3, a4, a5] x.2 = de at hd hb hv hbad
   obtain ⟨vl, er⟩ := de
   simp only at hd hb hv hbad
   obtain ⟨v0, v1, v2, v3, rfl⟩ : ∃ v0 v1 v2 v3, vl = [v0, v1, v2, v3] := by
    match vl, hv.1 with
    | [v0, v1, v2, v3], _ => exact ⟨v0, v1, v2, v3, rfl⟩
   have h1v := hv.2
   have hlm : ∀ z ∈ g.mp, z.1.size ≤ maxLen := fun z hz => by
    unfold Gen.mp at hz
    obtain ⟨o, ho, rfl⟩ := Zj.1 hz
    exact ml (hg.size o ho)
   have hnd : (g.mp.map (·.1)).Nodup := by
    have : g.mp.map (·.1) = g.objects.map (·.1) := by unfold Gen.mp; rw [List.map_map]; rfl
    rw [this]; exact hg.nodup
   by_cases her : er = 0
   · subst her
     have hb := hb rfl
     generalize bot [a0, a1, a2, a3, a4, a5] [v0, v1, v2, v3] = bb at hb hbad
     cases bb
     · skip
       repeat' first
        | (refine W2 rfl rfl (Zi7 (i := 2) (l := g.mp) (d := .agg [a0, a1, a2, a3, a4, a5]) rfl rfl (by kernel_rfl : Zf.underlying 129 = some (.map 9 31)) (by kernel_rfl : Zf.underlying 9 = some .string) sM_2 hlm hnd hq4) ?_)
        | refine sA rfl ?_ | refine sI rfl rfl ?_ | refine sT rfl ?_
        | refine Y4 ?_
        | (refine ao1 rfl rfl fun K HK => ?_; (first | refine Y7 rfl ?_ | skip); simp only [go_sem, ↓reduceIte, Z2, Z4, Z3, Z5, Z6, Z7, Z8, Z9, e5, e64, e65, e66, wk, sM_0, sM_1, sM_2, Xk, Xj, Xi, Xg, Xh, Yq, sM_l, Xn, Wl, sM_l2, Zp1, Zo7, Zo6, sM_l3, Zp0, Zo9, Zo8, Zo5, Zo4, V6, h1s, h1v, Zb, Z1]; (first | refine Y6 (fun hq => ?_) (fun hq => ?_) | (refine ⟨by omega, by omega, ?_⟩; refine Yg (by assumption) ?_) | skip) <;> (refine HK _ _ ?_; clear HK K))
        | (refine ao2 rfl rfl rfl ent_91 (hd _) ?_; rintro _ _ ⟨rfl, rfl⟩)
        | (refine ao2 rfl rfl rfl ent_92 (hb _) ?_; rintro _ _ ⟨rfl, rfl⟩)
        | (refine ao1' rfl fun K HK => ?_; simp only [go_sem, ↓reduceIte, Z2, Z4, Z3, Z5, Z6, Z7, Z8, Z9, e5, e64, e65, e66, wk, sM_0, sM_1, sM_2, Xk, Xj, Xi, Xg, Xh, Yq, sM_l, Xn, Wl, sM_l2, Zp1, Zo7, Zo6, sM_l3, Zp0, Zo9, Zo8, Zo5, Zo4, V6, h1s, h1v, Zb, Z1]; refine HK _ _ ?_; clear HK K)
        | (exfalso; omega)
       exact ⟨rfl, c.writes.length - (k + 1), by omega, k + 1, _, by omega, rfl, fun i hi => (by
        rcases Zs i k with h | h
        · exact hB i h
        · have hik : i = k := by omega
          rw [hik, hbad]
          simp), rfl, by simp [upd, e5], by simp [upd, e64], by simp [upd, e65], rfl⟩
     · skip
       repeat' first
        | (refine W2 rfl rfl (Zi7 (i := 2) (l := g.mp) (d := .agg [a0, a1, a2, a3, a4, a5]) rfl rfl (by kernel_rfl : Zf.underlying 129 = some (.map 9 31)) (by kernel_rfl : Zf.underlying 9 = some .string) sM_2 hlm hnd hq4) ?_)
        | refine sA rfl ?_ | refine sI rfl rfl ?_ | refine sT rfl ?_ | refine sB rfl ?_
        | refine Y4 ?_
        | (refine ao1 rfl rfl fun K HK => ?_; (first | refine Y7 rfl ?_ | skip); simp only [go_sem, ↓reduceIte, Z2, Z4, Z3, Z5, Z6, Z7, Z8, Z9, e5, e64, e65, e66, wk, sM_0, sM_1, sM_2, Xk, Xj, Xi, Xg, Xh, Yq, sM_l, Xn, Wl, sM_l2, Zp1, Zo7, Zo6, sM_l3, Zp0, Zo9, Zo8, Zo5, Zo4, V6, h1s, h1v, Zb, Z1]; (first | refine Y6 (fun hq => ?_) (fun hq => ?_) | (refine ⟨by omega, by omega, ?_⟩; refine Yg (by assumption) ?_) | skip) <;> (refine HK _ _ ?_; clear HK K))
        | (refine ao2 rfl rfl rfl ent_91 (hd _) ?_; rintro _ _ ⟨rfl, rfl⟩)
        | (refine ao2 rfl rfl rfl ent_92 (hb _) ?_; rintro _ _ ⟨rfl, rfl⟩)
        | (refine ao1' rfl fun K HK => ?_; simp only [go_sem, ↓reduceIte, Z2, Z4, Z3, Z5, Z6, Z7, Z8, Z9, e5, e64, e65, e66, wk, sM_0, sM_1, sM_2, Xk, Xj, Xi, Xg, Xh, Yq, sM_l, Xn, Wl, sM_l2, Zp1, Zo7, Zo6, sM_l3, Zp0, Zo9, Zo8, Zo5, Zo4, V6, h1s, h1v, Zb, Z1]; refine HK _ _ ?_; clear HK K)
        | (exfalso; omega)
       rw [hz4 hO ⟨k, hlt, hbad.2 (.inr rfl)⟩]
       exact (show (Exit.ret = Exit.normal ∨ Exit.ret = Exit.ret) ∧ _ from ⟨.inr rfl, endD (r := .v (.int .i64 4)) hl0 rfl (by simp) (by simp) rfl (by rw [low]; trivial) ⟨rfl, rfl⟩⟩)
   · skip
     repeat' first
      | (refine W2 rfl rfl (Zi7 (i := 2) (l := g.mp) (d := .agg [a0, a1, a2, a3, a4, a5]) rfl rfl (by kernel_rfl : Zf.underlying 129 = some (.map 9 31)) (by kernel_rfl : Zf.underlying 9 = some .string) sM_2 hlm hnd hq4) ?_)
      | refine sA rfl ?_ | refine sI rfl rfl ?_ | refine sT rfl ?_ | refine sB rfl ?_
      | refine Y4 ?_
      | (refine ao1 rfl rfl fun K HK => ?_; (first | refine Y7 rfl ?_ | skip); simp only [go_sem, ↓reduceIte, Z2, Z4, Z3, Z5, Z6, Z7, Z8, Z9, e5, e64, e65, e66, wk, sM_0, sM_1, sM_2, Xk, Xj, Xi, Xg, Xh, Yq, sM_l, Xn, Wl, sM_l2, Zp1, Zo7, Zo6, sM_l3, Zp0, Zo9, Zo8, Zo5, Zo4, V6, h1s, h1v, Zb, Z1]; (first | refine Y6 (fun hq => ?_) (fun hq => ?_) | refine W7 (fun hq => ?_) (fun hq => ?_) | (refine ⟨by omega, by omega, ?_⟩; refine Yg (by assumption) ?_) | skip) <;> (refine HK _ _ ?_; clear HK K))
      | refine ao0 rfl rfl ?_
      | (refine ao2 rfl rfl rfl ent_91 (hd _) ?_; rintro _ _ ⟨rfl, rfl⟩)
      | (refine ao1' rfl fun K HK => ?_; simp only [go_sem, ↓reduceIte, Z2, Z4, Z3, Z5, Z6, Z7, Z8, Z9, e5, e64, e65, e66, wk, sM_0, sM_1, sM_2, Xk, Xj, Xi, Xg, Xh, Yq, sM_l, Xn, Wl, sM_l2, Zp1, Zo7, Zo6, sM_l3, Zp0, Zo9, Zo8, Zo5, Zo4, V6, h1s, h1v, Zb, Z1]; refine HK _ _ ?_; clear HK K)
      | (exfalso; omega)
     rw [hz4 hO ⟨k, hlt, hbad.2 (.inl her)⟩]
     exact (show (Exit.ret = Exit.normal ∨ Exit.ret = Exit.ret) ∧ _ from ⟨.inr rfl, endD (r := .v (.int .i64 4)) hl0 rfl (by simp) (by simp) rfl (by rw [low]; trivial) ⟨rfl, rfl⟩⟩)
 have hkl2 : k = c.writes.length := by omega
 subst hkl2
 repeat' first
  | refine sA rfl ?_ | refine sI rfl rfl ?_
  | refine Y4 ?_
  | (refine ao1 rfl rfl fun K HK => ?_; simp only [go_sem, ↓reduceIte, Z2, Z4, Z3, Z5, Z6, Z7, Z8, Z9, e5, e64, e65, e66, sM_0, sM_1, sM_2, Xk, Xj, Xi, Xg, Xh, Yq, sM_l, Xn, Wl, sM_l2, Zp1, Zo7, Zo6, sM_l3, Zp0, Zo9, Zo8, Zo5, Zo4]; (first | refine Y6 (fun hq => ?_) (fun hq => ?_) | (refine ⟨by omega, by omega, ?_⟩; intro row hrow; obtain ⟨x, hx, rfl⟩ := Yn hrow; clear hrow) | skip) <;> (refine HK _ _ ?_; clear HK K))
  | (exfalso; omega)
 rw [hz0 hO hB]
 exact (show (Exit.ret = Exit.normal ∨ Exit.ret = Exit.ret) ∧ _ from ⟨.inr rfl, endD (r := .v (.int .i64 0)) hl0 rfl (by simp) (by simp) rfl (by rw [low]; trivial) ⟨rfl, rfl⟩⟩)
end
section
attribute [local irreducible] on aOp
attribute [local go_sem] decide_true decide_false Zi Zg
attribute [local simp] byD_len
def fM (A : Ob) (T : List Ob) : List Ob := A :: T
section
variable {A B y z y' z' : Ob} {T l : List Ob}
theorem fM_0 : (fM A T)[0]? = some A := rfl
theorem fM_s0 : (fM A T).set 0 B = fM B T := rfl
theorem fM_len : (fM A T).length = T.length + 1 := rfl
theorem fM_app : fM A T ++ l = fM A (T ++ l) := rfl
theorem fM_a0 : (fM A T ++ l)[0]? = some A := rfl
theorem fM_l : (fM A (T ++ [y]))[T.length + 1]? = some y := by simp [fM]
theorem fM_sl : (fM A (T ++ [y])).set (T.length + 1) y' = fM A (T ++ [y']) := by simp [fM]
end
def Yc3 (c : Cmd) : Bool := decide (c.kind = 2) || decide (c.kind = 3)
def numE (g : Gen) (c : Cmd) : Int := if c.client < 0 ∨ g.clients ≤ c.client ∨ c.seq < 1 ∨ 2147483648 < c.seq ∨ (c.kind ≠ 1 ∧ Yc3 c = true ∧ (c.replica < 0 ∨ g.replicas ≤ c.replica)) then 5 else 0
def bigW (c : Cmd) : Prop := ∃ x ∈ c.writes, 512 < x.2.length
instance (c : Cmd) : Decidable (bigW c) := inferInstanceAs (Decidable (∃ x ∈ c.writes, _))
def Jl (c : Cmd) : Int := if c.kind = 1 then (if c.writes.length = 0 ∨ c.replica ≠ 0 then 1 else if 4 < c.writes.length then 6 else if bigW c then 6 else 0)
 else if Yc3 c = false ∨ 0 < c.writes.length then 1 else 0
variable (G : Nat → D) (hG : ∀ g, low 0 (G g))
include hG
theorem Zl4 (c : Cmd) (hc : c.Ok) (h : List Ob) : Does Zf G 63 h [.agg (cmdX c)] (fun h' r => h' = h ∧ r = .v (.bool (Yc3 c))) := by
 refine Yf G hG (by rw [lowL, lowL]; exact ⟨W0 _ _, trivial⟩) (by rw [low]; trivial) ?_ h
 unfold Yc3
 generalize hk2 : decide (c.kind = 2) = b2
 generalize hk3 : decide (c.kind = 3) = b3
 refine Y5 Tryz.func63 rfl (Zk rfl) hG fun hl0 _ => ?_
 simp only [Tryz.ntmps63]
 cases b2
 · skip
   repeat' first
    | refine sA rfl ?_
    | refine Y4 ?_
    | (refine ao1 rfl rfl fun K HK => ?_; (first | refine Y7 rfl ?_ | skip); simp only [go_sem, ↓reduceIte, Z2, Z4, Z3, Z5, Z6, Z7, Z8, Z9, Yi, hk2, hk3, Z1] <;> (refine HK _ _ ?_; clear HK K))
   exact ⟨.inr rfl, endD (r := .v (.bool b3)) hl0 rfl (by simp) (by simp) rfl (by rw [low]; trivial) ⟨rfl, rfl⟩⟩
 · skip
   repeat' first
    | refine sA rfl ?_
    | refine Y4 ?_
    | (refine ao1 rfl rfl fun K HK => ?_; (first | refine Y7 rfl ?_ | skip); simp only [go_sem, ↓reduceIte, Z2, Z4, Z3, Z5, Z6, Z7, Z8, Z9, Yi, hk2, hk3, Z1] <;> (refine HK _ _ ?_; clear HK K))
    | refine ao0 rfl rfl ?_
   exact ⟨.inr rfl, endD (r := .v (.bool true)) hl0 rfl (by simp) (by simp) rfl (by rw [low]; trivial) ⟨rfl, rfl⟩⟩
theorem conf_e {c : Cmd} {b : Bool} (q : Yc3 c = b) (hc : c.Ok) (h : List Ob) : Does Zf G 63 h [.agg (cmdX c)] (fun h' r => h' = h ∧ r = .v (.bool b)) := q ▸ Zl4 G hG c hc h
theorem numbers_d (g : Gen) (hg : g.Ok) (c : Cmd) (hc : c.Ok) (h : List Ob) : Does Zf G 60 h [.agg (genX g), .agg (cmdX c)] (fun h' r => h' = h ∧ r = .v (.int .i64 (numE g c))) := by
 refine Yf G hG (by rw [lowL, lowL, lowL, low]; exact ⟨Vz hg 0, W0 _ _, trivial⟩) (by rw [low]; trivial) ?_ h
 generalize hcb : Yc3 c = cb
 refine Y5 Tryz.func60 rfl (Zk rfl) hG fun hl0 _ => ?_
 simp only [Tryz.ntmps60]
 cases cb
 · skip
   repeat' first
    | refine sA rfl ?_ | refine sI rfl rfl ?_ | refine sT rfl ?_
    | refine Y4 ?_
    | (refine ao1 rfl rfl fun K HK => ?_; (first | refine Y7 rfl ?_ | skip); simp only [go_sem, ↓reduceIte, Z2, Z4, Z3, Z5, Z6, Z7, Z8, Z9, Yi, W1, Z1]; (first | refine Y6 (fun hq => ?_) (fun hq => ?_) | refine W7 (fun hq => ?_) (fun hq => ?_) | skip) <;> (refine HK _ _ ?_; clear HK K))
    | refine ao0 rfl rfl ?_
    | (refine ao2 rfl rfl rfl Zh0 (conf_e G hG hcb hc _) ?_; rintro _ _ ⟨rfl, rfl⟩)
   all_goals first
   | (have e1 : numE g c = 5 := by
       rw [numE, if_pos (by simp only [hcb, Z1, false_and, and_false, or_false, true_and]; omega)]
      rw [e1]
      exact ⟨.inr rfl, endD (r := .v (.int .i64 5)) hl0 rfl (by simp) (by simp) rfl (by rw [low]; trivial) ⟨rfl, rfl⟩⟩)
   | (have e1 : numE g c = 0 := by
       rw [numE, if_neg (by simp only [hcb, Z1, false_and, and_false, or_false, true_and]; omega)]
      rw [e1]
      exact ⟨.inr rfl, endD (r := .v (.int .i64 0)) hl0 rfl (by simp) (by simp) rfl (by rw [low]; trivial) ⟨rfl, rfl⟩⟩)
 · skip
   repeat' first
    | refine sA rfl ?_ | refine sI rfl rfl ?_ | refine sT rfl ?_
    | refine Y4 ?_
    | (refine ao1 rfl rfl fun K HK => ?_; (first | refine Y7 rfl ?_ | skip); simp only [go_sem, ↓reduceIte, Z2, Z4, Z3, Z5, Z6, Z7, Z8, Z9, Yi, W1, Z1]; (first | refine Y6 (fun hq => ?_) (fun hq => ?_) | refine W7 (fun hq => ?_) (fun hq => ?_) | skip) <;> (refine HK _ _ ?_; clear HK K))
    | refine ao0 rfl rfl ?_
    | (refine ao2 rfl rfl rfl Zh0 (conf_e G hG hcb hc _) ?_; rintro _ _ ⟨rfl, rfl⟩)
   all_goals first
   | (have e1 : numE g c = 5 := by
       rw [numE, if_pos (by simp only [hcb, Z1, false_and, and_false, or_false, true_and]; omega)]
      rw [e1]
      exact ⟨.inr rfl, endD (r := .v (.int .i64 5)) hl0 rfl (by simp) (by simp) rfl (by rw [low]; trivial) ⟨rfl, rfl⟩⟩)
   | (have e1 : numE g c = 0 := by
       rw [numE, if_neg (by simp only [hcb, Z1, false_and, and_false, or_false, true_and]; omega)]
      rw [e1]
      exact ⟨.inr rfl, endD (r := .v (.int .i64 0)) hl0 rfl (by simp) (by simp) rfl (by rw [low]; trivial) ⟨rfl, rfl⟩⟩)
theorem form_d (c : Cmd) (hc : c.Ok) (h : List Ob) : Does Zf G 61 h [.agg (cmdX c)] (fun h' r => h' = h ∧ r = .v (.int .i64 (Jl c))) := by
 refine Yf G hG (by rw [lowL, lowL]; exact ⟨W0 _ _, trivial⟩) (by rw [low]; trivial) ?_ h
 generalize hcb : Yc3 c = cb
 have hmany := hc.many
 refine Y5 Tryz.func61 rfl (Zk rfl) hG fun hl0 _ => ?_
 simp only [Tryz.ntmps61]
 by_cases hk1 : c.kind = 1
 · skip
   repeat' first
    | refine sA rfl ?_ | refine sI rfl rfl ?_ | refine sT rfl ?_ | refine sB rfl ?_
    | refine Y4 ?_
    | (refine ao1 rfl rfl fun K HK => ?_; (first | refine Y7 rfl ?_ | skip); simp only [go_sem, ↓reduceIte, Z2, Z4, Z3, Z5, Z6, Z7, Z8, Z9, Yi, hk1, Z1]; (first | refine Y6 (fun hq => ?_) (fun hq => ?_) | refine W7 (fun hq => ?_) (fun hq => ?_) | skip) <;> (refine HK _ _ ?_; clear HK K))
    | refine ao0 rfl rfl ?_
   · skip
     have e1 : Jl c = 1 := by rw [Jl, if_pos hk1, if_pos (by omega)]
     rw [e1]
     exact (show (Exit.ret = Exit.normal ∨ Exit.ret = Exit.ret) ∧ _ from ⟨.inr rfl, endD (r := .v (.int .i64 1)) hl0 rfl (by simp) (by simp) rfl (by rw [low]; trivial) ⟨rfl, rfl⟩⟩)
   · skip
     have e1 : Jl c = 6 := by rw [Jl, if_pos hk1, if_neg (by omega), if_pos (by omega)]
     rw [e1]
     exact (show (Exit.ret = Exit.normal ∨ Exit.ret = Exit.ret) ∧ _ from ⟨.inr rfl, endD (r := .v (.int .i64 6)) hl0 rfl (by simp) (by simp) rfl (by rw [low]; trivial) ⟨rfl, rfl⟩⟩)
   · skip
     refine Yr (fun m e h' => ∃ (A : Ob) (k : Nat) (T : List Ob), k ≤ c.writes.length ∧ m = c.writes.length - k ∧ (∀ j x, j < k → c.writes[j]? = some x → ¬ 512 < x.2.length) ∧ h' = fM A T ∧ e 33 = .sl 2 (c.writes.map wrX) ∧ e 34 = .v (.int .i64 c.writes.length) ∧ e 35 = .v (.int .i64 k)) c.writes.length ⟨_, 0, [], Zm _, rfl, fun j x hj => absurd hj (Zl j), rfl, rfl, rfl, rfl⟩ ?_
     rintro m e h' ⟨A, k, T, hk, rfl, hB, rfl, e33, e34, e35⟩
     by_cases hlt : k < c.writes.length
     · have hx : c.writes[k]? = some c.writes[k] := Z0 hlt
       have hxm : c.writes[k] ∈ c.writes := Zr hlt
       have wk : IntKind.i64.wrap ((k : Int) + 1) = ((k + 1 : Nat) : Int) := IntWalk.i64_in _ (by omega)
       generalize c.writes[k] = x at hx hxm
       repeat' first
        | refine sA rfl ?_ | refine sI rfl rfl ?_ | refine sT rfl ?_ | refine sB rfl ?_
        | refine Y4 ?_
        | (refine ao1 rfl rfl fun K HK => ?_; simp only [go_sem, ↓reduceIte, Z2, Z4, Z3, Z5, Z6, Z7, Z8, Z9, e33, e34, e35, wk, fM_0, fM_s0, fM_len, fM_app, fM_a0, fM_l, fM_sl, V6, Zb, Z1]; (first | refine Y6 (fun hq => ?_) (fun hq => ?_) | (refine ⟨by omega, by omega, ?_⟩; refine Yg (by assumption) ?_) | skip) <;> (refine HK _ _ ?_; clear HK K))
        | (refine ao1' rfl fun K HK => ?_; simp only [go_sem, ↓reduceIte, Z2, Z4, Z3, Z5, Z6, Z7, Z8, Z9, e33, e34, e35, wk, fM_0, fM_s0, fM_len, fM_app, fM_a0, fM_l, fM_sl, V6, Zb, Z1]; refine HK _ _ ?_; clear HK K)
        | (exfalso; omega)
       · skip
         have e1 : Jl c = 6 := by rw [Jl, if_pos hk1, if_neg (by omega), if_neg (by omega), if_pos ⟨x, hxm, by omega⟩]
         rw [e1]
         exact (show (Exit.ret = Exit.normal ∨ Exit.ret = Exit.ret) ∧ _ from ⟨.inr rfl, endD (r := .v (.int .i64 6)) hl0 rfl (by simp) (by simp) rfl (by rw [low]; trivial) ⟨rfl, rfl⟩⟩)
       · exact ⟨rfl, c.writes.length - (k + 1), by omega, _, k + 1, _, by omega, rfl, fun j y hj hy => (by
          rcases Zs j k with h | h
          · exact hB j y h hy
          · have hjk : j = k := by omega
            subst hjk
            rw [hx] at hy; cases hy
            omega), rfl, by simp [upd, e33], by simp [upd, e34], rfl⟩
     · have hkl : k = c.writes.length := by omega
       subst hkl
       have hno : ¬ bigW c := fun ⟨x, hx, hb⟩ => by
        obtain ⟨j, hj, hjx⟩ := Zd hx
        exact hB j x hj (by rw [Z0 hj, hjx]) hb
       repeat' first
        | refine sA rfl ?_ | refine sI rfl rfl ?_
        | refine Y4 ?_
        | (refine ao1 rfl rfl fun K HK => ?_; simp only [go_sem, ↓reduceIte, Z2, Z4, Z3, Z5, Z6, Z7, Z8, Z9, e33, e34, e35, fM_0, fM_s0, fM_len, fM_app, fM_a0, fM_l, fM_sl]; (first | refine Y6 (fun hq => ?_) (fun hq => ?_) | (refine ⟨by omega, by omega, ?_⟩; intro row hrow; obtain ⟨x, hx, rfl⟩ := Yn hrow; clear hrow) | skip) <;> (refine HK _ _ ?_; clear HK K))
        | (exfalso; omega)
       have e1 : Jl c = 0 := by rw [Jl, if_pos hk1, if_neg (by omega), if_neg (by omega), if_neg hno]
       rw [e1]
       exact (show (Exit.ret = Exit.normal ∨ Exit.ret = Exit.ret) ∧ _ from ⟨.inr rfl, endD (r := .v (.int .i64 0)) hl0 rfl (by simp) (by simp) rfl (by rw [low]; trivial) ⟨rfl, rfl⟩⟩)
   · skip
     have e1 : Jl c = 1 := by rw [Jl, if_pos hk1, if_pos (by omega)]
     rw [e1]
     exact (show (Exit.ret = Exit.normal ∨ Exit.ret = Exit.ret) ∧ _ from ⟨.inr rfl, endD (r := .v (.int .i64 1)) hl0 rfl (by simp) (by simp) rfl (by rw [low]; trivial) ⟨rfl, rfl⟩⟩)
 · cases cb
   · skip
     repeat' first
      | refine sA rfl ?_ | refine sI rfl rfl ?_ | refine sT rfl ?_ | refine sB rfl ?_
      | refine Y4 ?_
      | (refine ao1 rfl rfl fun K HK => ?_; (first | refine Y7 rfl ?_ | skip); simp only [go_sem, ↓reduceIte, Z2, Z4, Z3, Z5, Z6, Z7, Z8, Z9, Yi, hk1, Z1] <;> (refine HK _ _ ?_; clear HK K))
      | refine ao0 rfl rfl ?_
      | (refine ao2 rfl rfl rfl Zh0 (conf_e G hG hcb hc _) ?_; rintro _ _ ⟨rfl, rfl⟩)
     have e1 : Jl c = 1 := by rw [Jl, if_neg hk1, if_pos (.inl hcb)]
     rw [e1]
     exact (show (Exit.ret = Exit.normal ∨ Exit.ret = Exit.ret) ∧ _ from ⟨.inr rfl, endD (r := .v (.int .i64 1)) hl0 rfl (by simp) (by simp) rfl (by rw [low]; trivial) ⟨rfl, rfl⟩⟩)
   · skip
     repeat' first
      | refine sA rfl ?_ | refine sI rfl rfl ?_ | refine sT rfl ?_ | refine sB rfl ?_
      | refine Y4 ?_
      | (refine ao1 rfl rfl fun K HK => ?_; (first | refine Y7 rfl ?_ | skip); simp only [go_sem, ↓reduceIte, Z2, Z4, Z3, Z5, Z6, Z7, Z8, Z9, Yi, hk1, Z1]; (first | refine Y6 (fun hq => ?_) (fun hq => ?_) | skip) <;> (refine HK _ _ ?_; clear HK K))
      | (refine ao2 rfl rfl rfl Zh0 (conf_e G hG hcb hc _) ?_; rintro _ _ ⟨rfl, rfl⟩)
      | (exfalso; omega)
     · skip
       have e1 : Jl c = 1 := by rw [Jl, if_neg hk1, if_pos (.inr (by omega))]
       rw [e1]
       exact (show (Exit.ret = Exit.normal ∨ Exit.ret = Exit.ret) ∧ _ from ⟨.inr rfl, endD (r := .v (.int .i64 1)) hl0 rfl (by simp) (by simp) rfl (by rw [low]; trivial) ⟨rfl, rfl⟩⟩)
     · skip
       refine Yr (fun m e h' => ∃ (A : Ob) (k : Nat) (T : List Ob), k ≤ c.writes.length ∧ m = c.writes.length - k ∧ (∀ j x, j < k → c.writes[j]? = some x → ¬ 512 < x.2.length) ∧ h' = fM A T ∧ e 33 = .sl 2 (c.writes.map wrX) ∧ e 34 = .v (.int .i64 c.writes.length) ∧ e 35 = .v (.int .i64 k)) c.writes.length ⟨_, 0, [], Zm _, rfl, fun j x hj => absurd hj (Zl j), rfl, rfl, rfl, rfl⟩ ?_
       rintro m e h' ⟨A, k, T, hk, rfl, hB, rfl, e33, e34, e35⟩
       by_cases hlt : k < c.writes.length
       · exfalso; omega
       · have hkl : k = c.writes.length := by omega
         subst hkl
         have hno : ¬ bigW c := fun ⟨x, hx, hb⟩ => by
          obtain ⟨j, hj, hjx⟩ := Zd hx
          exact hB j x hj (by rw [Z0 hj, hjx]) hb
         repeat' first
          | refine sA rfl ?_ | refine sI rfl rfl ?_
          | refine Y4 ?_
          | (refine ao1 rfl rfl fun K HK => ?_; simp only [go_sem, ↓reduceIte, Z2, Z4, Z3, Z5, Z6, Z7, Z8, Z9, e33, e34, e35, fM_0, fM_s0, fM_len, fM_app, fM_a0, fM_l, fM_sl]; (first | refine Y6 (fun hq => ?_) (fun hq => ?_) | (refine ⟨by omega, by omega, ?_⟩; intro row hrow; obtain ⟨x, hx, rfl⟩ := Yn hrow; clear hrow) | skip) <;> (refine HK _ _ ?_; clear HK K))
          | (exfalso; omega)
         have e1 : Jl c = 0 := by rw [Jl, if_neg hk1, if_neg fun h => (by rcases h with h | h; rw [hcb] at h; cases h; omega)]
         rw [e1]
         exact (show (Exit.ret = Exit.normal ∨ Exit.ret = Exit.ret) ∧ _ from ⟨.inr rfl, endD (r := .v (.int .i64 0)) hl0 rfl (by simp) (by simp) rfl (by rw [low]; trivial) ⟨rfl, rfl⟩⟩)
end
end Go.Proofs.YtgkjcmglcnhpaaaGreatDoor
