/-
  What the statements of the chapter share, part 17: SB4, SLay.
-/
import Derived.Test.YtidpdgdakghfnaaGreatW16
import Derived.Shelf.SlSortCmp.NoneTotal
set_option linter.unusedVariables false
set_option linter.unusedSimpArgs false
set_option maxRecDepth 100000
set_option maxHeartbeats 8000000
namespace Go.Proofs.YtidpdgdakghfnaaGreat
open Go.RowKit
section
open Go.RowKit Go.Shelf
section
variable {P : Program} {G : Nat → D} {X : Type} {xX : X → List D} {okX : X → Prop} {k : Nat} {w : World} {p : Nat → Bool}
theorem rdL_no {hd : List Value} {h : List Ob} {W : World} {ds : List D} {us : List Value} (q : rdL [] [] W ds us) : rdL hd h W ds us :=
 rdL_carry ⟨Nat.zero_le _, fun i B q => by simp at q, fun i r q => by simp at q, fun i ⟨ob, q, _⟩ => by simp at q, fun i e k xs ⟨ob, q, _⟩ => by simp at q⟩ (fun _ _ h => h) ds us q
theorem sorted_block {α : Type} [Inhabited α] {enc : α → List Value} {B m : Nat} {dk : Array α} {os : Array Obj} {cur : Array Value} {e : TypeId} (hB : w.heap[B]? = some (.cells cur e (0, 0))) : (sortWorldK enc k w B 0 m dk os).heap[B]? = some (.cells (Go.Sort.putCells id 0 (Go.Sort.flatK enc k dk) cur) e (0, 0)) := by
 have hlt := (Array.getElem?_eq_some_iff.1 hB).1
 have e1 : (Go.Sort.ahead w m).heap = w.heap := rfl
 unfold sortWorldK
 rw [Go.Sort.heap_grow_old _ _ (by unfold Go.Sort.putRowK; rw [Go.Sort.size_putRow, e1]; exact hlt)]
 unfold Go.Sort.putRowK Go.Sort.putRow Go.Sort.mapBlock
 simp only [Array.getElem?_modify, if_true, e1, hB, Option.map_some, Go.Sort.onCells]
theorem putCells_take {F cur : Array Value} (h : F.size ≤ cur.size) : (Go.Sort.putCells id 0 F cur).toList.take F.size = F.toList := by
 apply List.ext_getElem?
 intro t
 rw [List.getElem?_take]
 split
 · rename_i ht
   have htc : t < cur.size := by omega
   rw [Array.getElem?_toList, Array.getElem?_toList, Array.getElem?_eq_getElem ht]
   unfold Go.Sort.putCells
   rw [Array.getElem?_mapIdx, Array.getElem?_eq_getElem htc]
   simp only [Option.map_some, Nat.zero_add, Nat.zero_le, true_and, if_pos ht, Nat.sub_zero, id]
   rw [getElem!_pos F t ht]
 · rename_i ht
   rw [List.getElem?_eq_none (by simpa using ht)]
theorem putCells_size {F cur : Array Value} : (Go.Sort.putCells id 0 F cur).size = cur.size := by simp [Go.Sort.putCells]
theorem sort_does {ρ : Ren} (hG : ∀ g, low 0 (G g)) (L : SlLaysF0.n6 P ρ) (aE : ∀ w, (isAgg (ρ.t 24)).run P w = .ok true w) (zE : ∀ w, (Go.sizeOf (ρ.t 24)).run P w = .ok k w) (k0 : 0 < k)
 (hlen : ∀ x, okX x → (xX x).length = k) (hone : ∀ x, okX x → (xX x).all D.one = true) (hlow : ∀ x, lowL 0 (xX x)) {cmp : X → X → Int} (hO : Go.Sort.SWO (ltOf cmp)) {g : FuncId} (eg : ∀ args w, (callFunc g args).run P w = .ok (.enter g args) w)
 (hc : ∀ x y, okX x → okX y → Does P G g [] [.agg (xX x), .agg (xX y)] (fun h' r => h' = [] ∧ r = .v (.int .i64 (cmp x y)))) {l : List X} (hl : ∀ x ∈ l, okX x) (hsz : l.length ≤ 1000000) {h : List Ob} {i : Nat} {E : TypeId} (hi : h[i]? = some (.buf E k (l.map xX))) :
 Does P G (ρ.f 6) h [.buf i l.length, .fn g []] (fun h' r => ∃ l' : List X, l'.Perm l ∧ l'.Pairwise (fun x y => ¬ cmp y x < 0) ∧ h' = h.set i (.buf E k (l'.map xX)) ∧ r = .tup []) := by
 intro w hd p vs ok ha
 rw [rdL] at ha
 obtain ⟨u, t, rfl, hu, ha⟩ := ha
 rw [rdL] at ha
 obtain ⟨fv, t, rfl, hf, ha⟩ := ha
 rw [rdL] at ha
 subst ha
 rw [rd] at hu
 rw [rd] at hf
 obtain ⟨cb, rfl, hcb⟩ := hf
 rw [rdL] at hcb
 have hcb : cb = #[] := by apply Array.ext'; simpa using hcb
 subst hcb
 obtain ⟨_, _, hu⟩ := hu
 have hv := (hu E k _ hi).2 (by simp)
 obtain ⟨cs, hown, hrd, hrows, hp⟩ := ok.ob i _ u hi hv
 rw [List.length_map] at hown
 have hlowF : lowL 0 (l.map xX).flatten := by
  rw [lowL_iff]
  intro d hd'
  obtain ⟨row, hrow, hdr⟩ := List.mem_flatten.1 hd'
  obtain ⟨x, _, rfl⟩ := List.mem_map.1 hrow
  exact (lowL_iff _ _).1 (hlow x) d hdr
 have hrd0 := rdL_low0 ok.len hlowF hrd
 obtain ⟨its, hx, hcs⟩ := items_of (k := k) (okX := okX) hlen hone l cs hl hrd0
 rcases its with _ | ⟨it0, its0⟩
 · simp only [List.map_nil] at hx
   subst hx
   obtain ⟨a, c, hua⟩ : ∃ a c, u = .slice a 0 c := by
    rcases hown.2 with ⟨rfl, _⟩ | ⟨gg, cap, cur, rfl, _⟩ <;> exact ⟨_, _, rfl⟩
   subst hua
   refine (AnyF.slices_SortFunc_none L a c _ w).mono ?_
   rintro e w' ⟨rfl, rfl⟩
   exact ⟨_, hd, h, .tup [], p, rfl, ⟨[], .refl _, .nil, by rw [set_same hi], rfl⟩, ok, by rw [rd]; exact ⟨#[], rfl, by rw [rdL]⟩, .refl _ _ _ _⟩
 generalize hits : it0 :: its0 = its at hx hcs
 haveI : Inhabited (Item xX okX k w p) := ⟨it0⟩
 have hn : its.length = l.length := by rw [← hx, List.length_map]
 have hn0 : l.length ≠ 0 := by rw [← hn, ← hits]; simp
 rcases hown.2 with ⟨_, h0⟩ | ⟨B, cap, cur, rfl, _, hB, hcap, hmax, hcur, htake⟩
 · exact absurd h0 hn0
 have pB : p B = false := hp B rfl
 have hBl := (Array.getElem?_eq_some_iff.1 hB).1
 have hk : ∀ q : Item xX okX k w p, q.cs.length = k := fun q => q.len
 have hfl : (Go.Sort.flatK Item.cs k its.toArray).toList = cs := by rw [flatK_list k0 hk]; simpa using hcs
 have hcl : cs.length = l.length * k := hown.1
 have hcu : l.length * k ≤ cur.size := by rw [hcur]; exact Nat.mul_le_mul_right k hcap
 have hH : Go.Sort.HoldsK Item.cs k w B 0 its.toArray := by
  intro t ht
  have ht2 : t < l.length * k := by simpa [hn] using ht
  have e1 : (Go.Sort.flatK Item.cs k its.toArray)[t]? = cur[t]? := by
   rw [← Array.getElem?_toList, hfl, ← htake, List.getElem?_take, if_pos ht2, Array.getElem?_toList]
  have htc : t < cur.size := by omega
  rw [Array.getElem?_eq_getElem ht, Array.getElem?_eq_getElem htc] at e1
  have e1 := Option.some.inj e1
  rw [getElem!_pos _ t ht, e1]
  constructor
  · simp [World.cell?, hB, htc]
  · simp [World.frozen?, hB]
 have hS : Go.Sort.SWO (ltOf fun q r : Item xX okX k w p => cmp q.x r.x) := ⟨fun q => hO.irrefl q.x, fun q r s => hO.trans q.x r.x s.x, fun q r s => hO.ntrans q.x r.x s.x⟩
 have HS := AnyQ.slices_SortFunc L k aE zE Item.cs hk (fun q => q.one) (fun q r : Item xX okX k w p => cmp q.x r.x) hS g #[] B 0 cap its.toArray w eg (cmp_lays hG ok pB hc _) hH hBl (by simp [hn]; omega)
 rw [show its.toArray.size = l.length by simp [hn]] at HS
 refine HS.mono ?_
 rintro e w' ⟨rfl, d', m, os, hperm, hsort, rfl⟩
 obtain ⟨hps, _, hpp⟩ := hperm
 have hds : d'.size = l.length := by rw [hps]; simp [hn]
 have hdl : d'.toList.length = l.length := by simpa using hds
 have hperm2 : (d'.toList.map Item.x).Perm l := by
  rw [← hx]
  have e1 : d'.extract 0 l.length = d' := by rw [← hds]; simp
  have e2 : its.toArray.extract 0 l.length = its.toArray := by rw [← hn]; simp
  rw [e1, e2] at hpp
  exact (hpp.map Item.x)
 have hsort2 : (d'.toList.map Item.x).Pairwise (fun x y => ¬ cmp y x < 0) := by
  rw [List.pairwise_iff_getElem]
  intro a b ha hb hab
  have ha' : a < d'.size := by simpa using ha
  have hb' : b < d'.size := by simpa using hb
  have hs := hsort a b (Nat.zero_le _) hab (by omega)
  rw [getElem!_pos d' a ha', getElem!_pos d' b hb'] at hs
  simpa [ltOf] using hs
 have hfl2 : (Go.Sort.flatK Item.cs k d').toList = (d'.toList.map Item.cs).flatten := flatK_list k0 hk d'
 have hfs : (Go.Sort.flatK Item.cs k d').size = l.length * k := by rw [Go.Sort.size_flatK, hds]
 have hW := sorted_block (enc := Item.cs (xX := xX) (okX := okX) (k := k) (w := w) (p := p)) (k := k) (m := m) (dk := d') (os := os) hB
 obtain ⟨o, ev⟩ := Ok.repl (ob' := .buf E k ((d'.toList.map Item.x).map xX)) (u' := .slice (some ⟨B, 0, none⟩) l.length cap) (w' := sortWorldK Item.cs k w B 0 m d' os) ok hi hv rfl rfl rfl rfl sorted_size
  (fun b hb hne => sorted_heap hb fun e => hne (by rw [e]; rfl)) (fun b hb => .inl hb) (fun _ _ => rfl)
  (fun e kk xs' he => by cases he; exact ⟨E, _, rfl, by simp [hdl], fun _ => rfl⟩)
  (fun c s => by
   refine ⟨(d'.toList.map Item.cs).flatten, ?_, ?_, ?_, fun gg hg => ?_⟩
   · rw [List.length_map, List.length_map, hdl]
     refine ⟨by rw [← hfl2, Array.length_toList, hfs], .inr ⟨B, cap, _, rfl, Nat.zero_le _, hW, hcap, hmax, by rw [putCells_size, hcur], ?_⟩⟩
     rw [← hfl2, ← hfs]
     exact putCells_take (by rw [hfs]; exact hcu)
   · exact rdL_carry c s _ _ (rdL_no (items_rd d'.toList))
   · intro row hr
     obtain ⟨x, hx1, rfl⟩ := List.mem_map.1 hr
     exact hlen x (hl x (hperm2.mem_iff.1 hx1))
   · cases hg; simp [pB])
  (h0 := Nat.le_add_right _ _)
 exact ⟨_, _, _, .tup [], _, rfl, ⟨_, hperm2, hsort2, rfl, rfl⟩, o, by rw [rd]; exact ⟨#[], rfl, by rw [rdL]⟩, ev⟩
end
end
section
open Go.Shelf Go.RowKit
def laysSort_ren : Go.Shelf.Ren := ⟨fun | 6 => 42 | 15 => 76 | 14 => 75 | 28 => 130 | 29 => 131 | 20 => 122 | 21 => 123 | 22 => 124 | 23 => 125 | 24 => 126 | 25 => 127 | 26 => 128 | 27 => 129 | 46 => 183 | 47 => 184 | 48 => 185 | 49 => 186 | 50 => 187 | 57 => 243 | n => n, fun | 22 => 22 | 24 => 40 | 25 => 71 | 3 => 3 | 39 => 103 | 0 => 0 | 53 => 146 | 55 => 148 | 4 => 4 | 46 => 140 | 45 => 139 | 50 => 77 | 5 => 5 | 9 => 9 | 66 => 191 | 70 => 195 | 76 => 229 | 77 => 230 | n => n, fun | n => n⟩
theorem laysSort : Go.Proofs.SlLaysF0.n6 Tryz.prog laysSort_ren := {
  mixed := by kernel_rfl
  f6 := ⟨Tryz.f42.name, by decide, Tryz.func42.trans (congrArg some (by kernel_rfl))⟩
  f14 := ⟨Tryz.f75.name, by decide, Tryz.func75.trans (congrArg some (by kernel_rfl))⟩
  f15 := Tryz.func76.trans (congrArg some (by kernel_rfl))
  f20 := ⟨Tryz.f122.name, by decide, Tryz.func122.trans (congrArg some (by kernel_rfl))⟩
  f21 := ⟨Tryz.f123.name, by decide, Tryz.func123.trans (congrArg some (by kernel_rfl))⟩
  f22 := ⟨Tryz.f124.name, by decide, Tryz.func124.trans (congrArg some (by kernel_rfl))⟩
  f23 := ⟨Tryz.f125.name, by decide, Tryz.func125.trans (congrArg some (by kernel_rfl))⟩
  f24 := ⟨Tryz.f126.name, by decide, Tryz.func126.trans (congrArg some (by kernel_rfl))⟩
  f25 := ⟨Tryz.f127.name, by decide, Tryz.func127.trans (congrArg some (by kernel_rfl))⟩
  f26 := ⟨Tryz.f128.name, by decide, Tryz.func128.trans (congrArg some (by kernel_rfl))⟩
  f27 := ⟨Tryz.f129.name, by decide, Tryz.func129.trans (congrArg some (by kernel_rfl))⟩
  f28 := Tryz.func130.trans (congrArg some (by kernel_rfl))
  f29 := Tryz.func131.trans (congrArg some (by kernel_rfl))
  f46 := ⟨Tryz.f183.name, by decide, Tryz.func183.trans (congrArg some (by kernel_rfl))⟩
  f47 := Tryz.func184.trans (congrArg some (by kernel_rfl))
  f48 := Tryz.func185.trans (congrArg some (by kernel_rfl))
  f49 := ⟨Tryz.f186.name, by decide, Tryz.func186.trans (congrArg some (by kernel_rfl))⟩
  f50 := ⟨Tryz.f187.name, by decide, Tryz.func187.trans (congrArg some (by kernel_rfl))⟩
  f57 := ⟨Tryz.f243.name, by decide, Tryz.func243.trans (congrArg some (by kernel_rfl))⟩
  t0 := Tryz.underlying0
  a0 := Tryz.isAgg0
  z0 := Tryz.sizeOf0
  v0 := Tryz.zeroValue0
  t3 := Tryz.underlying3
  a3 := Tryz.isAgg3
  z3 := Tryz.sizeOf3
  v3 := Tryz.zeroValue3
  t4 := Tryz.underlying4
  a4 := Tryz.isAgg4
  z4 := Tryz.sizeOf4
  v4 := Tryz.zeroValue4
  t5 := Tryz.underlying5
  a5 := Tryz.isAgg5
  z5 := Tryz.sizeOf5
  v5 := Tryz.zeroValue5
  t9 := Tryz.underlying9
  a9 := Tryz.isAgg9
  z9 := Tryz.sizeOf9
  v9 := Tryz.zeroValue9
  t22 := Tryz.underlying22
  a22 := Tryz.isAgg22
  z22 := Tryz.sizeOf22
  v22 := Tryz.zeroValue22
  t25 := Tryz.underlying71
  a25 := Tryz.isAgg71
  z25 := Tryz.sizeOf71
  v25 := Tryz.zeroValue71
  t39 := Tryz.underlying103
  a39 := Tryz.isAgg103
  z39 := Tryz.sizeOf103
  v39 := Tryz.zeroValue103
  t45 := Tryz.underlying139
  a45 := Tryz.isAgg139
  z45 := Tryz.sizeOf139
  v45 := Tryz.zeroValue139
  t46 := Tryz.underlying140
  a46 := Tryz.isAgg140
  z46 := Tryz.sizeOf140
  v46 := Tryz.zeroValue140
  t50 := Tryz.underlying77
  a50 := Tryz.isAgg77
  z50 := Tryz.sizeOf77
  v50 := Tryz.zeroValue77
  t53 := Tryz.underlying146
  a53 := Tryz.isAgg146
  z53 := Tryz.sizeOf146
  v53 := Tryz.zeroValue146
  t55 := Tryz.underlying148
  a55 := Tryz.isAgg148
  z55 := Tryz.sizeOf148
  v55 := Tryz.zeroValue148
  t66 := Tryz.underlying191
  a66 := Tryz.isAgg191
  z66 := Tryz.sizeOf191
  v66 := Tryz.zeroValue191
  t70 := Tryz.underlying195
  a70 := Tryz.isAgg195
  z70 := Tryz.sizeOf195
  v70 := Tryz.zeroValue195
  t76 := Tryz.underlying229
  a76 := Tryz.isAgg229
  z76 := Tryz.sizeOf229
  v76 := Tryz.zeroValue229
  t77 := Tryz.underlying230
  a77 := Tryz.isAgg230
  z77 := Tryz.sizeOf230
  v77 := Tryz.zeroValue230 }
end
end Go.Proofs.YtidpdgdakghfnaaGreat
