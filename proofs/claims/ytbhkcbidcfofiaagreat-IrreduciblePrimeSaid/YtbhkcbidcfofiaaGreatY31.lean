/-
  What the statements of the chapter share, part 31: SB2, SB3.
-/
import Derived.Test.YtbhkcbidcfofiaaGreatY30
import Derived.Shelf.SlSortCmp.WholeK
set_option linter.unusedVariables false
set_option linter.unusedSimpArgs false
set_option maxRecDepth 100000
set_option maxHeartbeats 8000000
namespace Go.Proofs.YtbhkcbidcfofiaaGreat
open _root_.Array renaming getElem?_eq_getElem → Z1
open _root_.List renaming flatten_cons → Z0
open Go.RowKit
section
open Go.RowKit Go.Shelf
section
variable {P : Program} {G : Nat → D} {X : Type} (xX : X → List D) (okX : X → Prop) (k : Nat)
structure Item (w : World) (p : Nat → Bool) : Type where
 cs : List Value
 x : X
 len : cs.length = k
 one : ∀ v ∈ cs, v.oneCell' = true
 ok : okX x
 rd : rdL [] [] (only p w) (xX x) cs
variable {xX okX k} {w : World} {hd : List Value} {h : List Ob} {p : Nat → Bool}
theorem Zy4 {α : Type} [Inhabited α] {enc : α → List Value} {B m : Nat} {dk : Array α} {os : Array Obj} {b : Nat} (hb : b < w.heap.size) (hne : b ≠ B) : (sortWorldK enc k w B 0 m dk os).heap[b]? = w.heap[b]? := by
 have e : (Go.Sort.ahead w m).heap = w.heap := rfl
 unfold sortWorldK
 rw [Go.Sort.heap_grow_old _ _ (by unfold Go.Sort.putRowK; rw [Go.Sort.size_putRow, e]; exact hb)]
 unfold Go.Sort.putRowK Go.Sort.putRow Go.Sort.mapBlock
 simp only [Array.getElem?_modify, if_neg (Ne.symm hne), e]
theorem Zy3 {α : Type} [Inhabited α] {enc : α → List Value} {B m : Nat} {dk : Array α} {os : Array Obj} : w.heap.size ≤ (sortWorldK enc k w B 0 m dk os).heap.size := by
 have e : (Go.Sort.ahead w m).heap = w.heap := rfl
 unfold sortWorldK Go.Sort.putRowK
 rw [Go.Sort.size_grow, Go.Sort.size_putRow, e]; omega
theorem cmp_lays (hG : ∀ g, low 0 (G g)) [Inhabited (Item xX okX k w p)] (ok : Ok G w hd h p) {B : Nat} (hB : p B = false) {cmp : X → X → Int} {g : FuncId} (hc : ∀ x y, okX x → okX y → Does P G g [] [.agg (xX x), .agg (xX y)] (fun h' r => h' = [] ∧ r = .v (.int .i64 (cmp x y)))) (size : Nat) :
 CmpLays P g #[] (fun q : Item xX okX k w p => q.cs) k (fun q r => cmp q.x r.x) B 0 size w := by
 intro m os dk hs x y
 obtain ⟨x1, x2, hx1, hx2, hx3, hx4⟩ := x
 obtain ⟨y1, y2, hy1, hy2, hy3, hy4⟩ := y
 generalize hW : sortWorldK (fun q : Item xX okX k w p => q.cs) k w B 0 m dk os = W
 have hWh : ∀ b, b < w.heap.size → b ≠ B → W.heap[b]? = w.heap[b]? := fun b h1 h2 => by rw [← hW]; exact Zy4 h1 h2
 have hWs : w.heap.size ≤ W.heap.size := by rw [← hW]; exact Zy3
 have nB : ∀ b, p b = true → b ≠ B := fun b hb e => by rw [e, hB] at hb; cases hb
 have sub : Sub (only p w) (only (fun b => p b && decide (b < w.heap.size)) W) := only_keep fun b hb hl => ⟨by simp [hb, hl], hWh b hl (nB b hb)⟩
 have ok2 : Ok G W [] [] (fun b => p b && decide (b < w.heap.size)) := by
  refine ⟨rfl, fun i ob u h1 => by simp at h1, fun i j oi oj ui uj b h1 => by simp at h1, fun g => ?_, fun g ds hg => ?_⟩
  · exact Zw1 (.refl _ _) sub _ _ (rd_low0 ok.len (hG g) (ok.gl g))
  · obtain ⟨cs, t, fr, h1, h2, h3⟩ := ok.ex g ds hg
    have hl := (Array.getElem?_eq_some_iff.1 h1).1
    exact ⟨cs, t, fr, by rw [hWh g hl (nB g h3), h1], h2, by simp [h3, hl]⟩
 have ha : rdL [] [] (only (fun b => p b && decide (b < w.heap.size)) W) [.agg (xX x2), .agg (xX y2)] [.agg x1.toArray, .agg y1.toArray] := by
  rw [rdL]; refine ⟨_, _, rfl, ?_, ?_⟩
  · rw [rd]; exact ⟨_, rfl, Xv (.refl _ _) sub _ _ hx4⟩
  · rw [rdL]; refine ⟨_, _, rfl, ?_, by rw [rdL]⟩
    rw [rd]; exact ⟨_, rfl, Xv (.refl _ _) sub _ _ hy4⟩
 refine (hc x2 y2 hx3 hy3 W [] _ _ ok2 ha).mono ?_
 rintro e w' ⟨v, hd', h', r, p', rfl, ⟨rfl, rfl⟩, ok3, hr, ev⟩
 rw [rd] at hr
 subst hr
 exact ⟨rfl, evo_grow ev⟩
end
end
section
open Go.RowKit Go.Shelf
theorem rdL_split {hd : List Value} {h : List Ob} {W : World} : ∀ {a b : List D} {us : List Value}, rdL hd h W (a ++ b) us → ∃ x y, us = x ++ y ∧ rdL hd h W a x ∧ rdL hd h W b y
 | [], b, us, q => ⟨[], us, rfl, by rw [rdL], q⟩
 | d :: a, b, us, q => by
  rw [List.cons_append, rdL] at q
  obtain ⟨u, t, rfl, h1, h2⟩ := q
  obtain ⟨x, y, rfl, h3, h4⟩ := rdL_split h2
  exact ⟨u :: x, y, rfl, by rw [rdL]; exact ⟨u, x, rfl, h1, h3⟩, h4⟩
section
variable {P : Program} {G : Nat → D} {X : Type} {xX : X → List D} {okX : X → Prop} {k : Nat} {w : World} {p : Nat → Bool}
theorem items_of (hlen : ∀ x, okX x → (xX x).length = k) (hone : ∀ x, okX x → (xX x).all D.one = true) : ∀ (l : List X) (cs : List Value), (∀ x ∈ l, okX x) → rdL [] [] (only p w) (l.map xX).flatten cs → ∃ its : List (Item xX okX k w p), its.map Item.x = l ∧ (its.map Item.cs).flatten = cs
 | [], cs, _, q => by
  rw [List.map_nil, List.flatten_nil, rdL] at q
  exact ⟨[], rfl, q.symm⟩
 | x :: l, cs, hl, q => by
  rw [List.map_cons, Z0] at q
  obtain ⟨a, b, rfl, h1, h2⟩ := rdL_split q
  obtain ⟨its, h3, h4⟩ := items_of hlen hone l b (fun y hy => hl y (by simp [hy])) h2
  have hx := hl x (by simp)
  exact ⟨⟨a, x, (Ud h1).symm.trans (hlen x hx), Zi6 h1 (hone x hx), hx, h1⟩ :: its, by simp [h3], by simp [h4]⟩
theorem items_rd : ∀ its : List (Item xX okX k w p), rdL [] [] (only p w) ((its.map Item.x).map xX).flatten (its.map Item.cs).flatten
 | [] => by simp only [List.map_nil, List.flatten_nil]; rw [rdL]
 | ⟨a, x, h1, h2, h3, h4⟩ :: its => by
  simp only [List.map_cons, Z0]
  exact Wr h4 (items_rd its)
theorem flat_get {α : Type} {k : Nat} (k0 : 0 < k) : ∀ (rows : List (List α)), (∀ r ∈ rows, r.length = k) → ∀ t, t < rows.length * k → ∃ r, rows[t / k]? = some r ∧ rows.flatten[t]? = r[t % k]?
 | [], _, t, h => by simp at h
 | r :: rows, hk, t, h => by
  have hr := hk r (by simp)
  rcases Nat.lt_or_ge t k with ht | ht
  · refine ⟨r, by rw [Nat.div_eq_of_lt ht]; rfl, ?_⟩
    rw [Z0, List.getElem?_append_left (by omega), Nat.mod_eq_of_lt ht]
  · obtain ⟨r2, h1, h2⟩ := flat_get k0 rows (fun q hq => hk q (by simp [hq])) (t - k) (by simp only [List.length_cons, Nat.add_mul, Nat.one_mul] at h; omega)
    have e : t / k = (t - k) / k + 1 := by rw [Nat.div_eq_sub_div k0 ht]
    refine ⟨r2, by rw [e, List.getElem?_cons_succ, h1], ?_⟩
    rw [Z0, List.getElem?_append_right (by omega), hr, h2, Nat.mod_eq_sub_mod ht]
theorem flat_len {α : Type} {k : Nat} : ∀ (rows : List (List α)), (∀ r ∈ rows, r.length = k) → rows.flatten.length = rows.length * k
 | [], _ => by simp
 | r :: rows, hk => by
  rw [Z0, List.length_append, hk r (by simp), flat_len rows fun q hq => hk q (by simp [hq]), List.length_cons, Nat.add_mul, Nat.one_mul, Nat.add_comm]
theorem Yi0 {α : Type} [Inhabited α] {enc : α → List Value} {k : Nat} (k0 : 0 < k) (hk : ∀ x, (enc x).length = k) (d : Array α) : (Go.Sort.flatK enc k d).toList = (d.toList.map enc).flatten := by
 have hr : ∀ r ∈ d.toList.map enc, r.length = k := fun r h => by obtain ⟨x, _, rfl⟩ := List.mem_map.1 h; exact hk x
 have hl : (d.toList.map enc).length = d.size := by simp
 apply List.ext_getElem?
 intro t
 rcases Nat.lt_or_ge t (d.size * k) with ht | ht
 · obtain ⟨r, h1, h2⟩ := flat_get k0 _ hr t (by rw [hl]; exact ht)
   rw [h2]
   have hg := Go.Sort.get_flatK enc k d t ht
   have hdk : t / k < d.size := by rw [Nat.div_lt_iff_lt_mul k0]; exact ht
   have hmk : t % k < k := Nat.mod_lt _ k0
   have hts : t < (Go.Sort.flatK enc k d).size := by rw [Go.Sort.size_flatK]; exact ht
   rw [List.getElem?_map, Array.getElem?_toList, Z1 hdk] at h1
   simp only [Option.map_some, Option.some.injEq] at h1
   subst h1
   rw [getElem!_pos _ t hts, getElem!_pos d _ hdk, getElem!_pos _ _ (by rw [hk]; exact hmk)] at hg
   rw [Array.getElem?_toList, Z1 hts, hg, List.getElem?_eq_getElem]
 · rw [List.getElem?_eq_none (by simpa using ht), List.getElem?_eq_none (by rw [flat_len _ hr, hl]; exact ht)]
end
end
end Go.Proofs.YtbhkcbidcfofiaaGreat
