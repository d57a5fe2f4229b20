/-
  What the statements of the chapter share, part 32: SB4, SLay, QD8.
-/
import Derived.Test.YtbhkcbidcfofiaaGreatY26
import Derived.Test.YtbhkcbidcfofiaaGreatY29
import Derived.Test.YtbhkcbidcfofiaaGreatY31
import Derived.Shelf.SlSortCmp.NoneTotal
set_option linter.unusedVariables false
set_option linter.unusedSimpArgs false
set_option maxRecDepth 100000
set_option maxHeartbeats 8000000
namespace Go.Proofs.YtbhkcbidcfofiaaGreat
open _root_.Array renaming getElem?_eq_getElem → Z1, getElem?_toList → Z3, getElem?_eq_some_iff → Z5
open _root_.List renaming mem_singleton → Z0, mem_map → Z2, length_map → Z4, getElem?_eq_some_iff → Z6
open _root_.Nat renaming zero_le → Z7
open Go.RowKit
section
open Go.RowKit Go.Shelf
section
variable {P : Program} {G : Nat → D} {X : Type} {xX : X → List D} {okX : X → Prop} {k : Nat} {w : World} {p : Nat → Bool}
theorem rdL_no {hd : List Value} {h : List Ob} {W : World} {ds : List D} {us : List Value} (q : rdL [] [] W ds us) : rdL hd h W ds us :=
 Xv ⟨Z7 _, fun i B q => by simp at q, fun i r q => by simp at q, fun i ⟨ob, q, _⟩ => by simp at q, fun i e k xs ⟨ob, q, _⟩ => by simp at q⟩ (fun _ _ h => h) ds us q
theorem sorted_block {α : Type} [Inhabited α] {enc : α → List Value} {B m : Nat} {dk : Array α} {os : Array Obj} {cur : Array Value} {e : TypeId} (hB : w.heap[B]? = some (.cells cur e (0, 0))) : (sortWorldK enc k w B 0 m dk os).heap[B]? = some (.cells (Go.Sort.putCells id 0 (Go.Sort.flatK enc k dk) cur) e (0, 0)) := by
 have hlt := (Z5.1 hB).1
 have e1 : (Go.Sort.ahead w m).heap = w.heap := rfl
 unfold sortWorldK
 rw [Go.Sort.heap_grow_old _ _ (by unfold Go.Sort.putRowK; rw [Go.Sort.size_putRow, e1]; exact hlt)]
 unfold Go.Sort.putRowK Go.Sort.putRow Go.Sort.mapBlock
 simp only [Array.getElem?_modify, if_true, e1, hB, Option.map_some, Go.Sort.onCells]
theorem Ym3 {F cur : Array Value} (h : F.size ≤ cur.size) : (Go.Sort.putCells id 0 F cur).toList.take F.size = F.toList := by
 apply List.ext_getElem?
 intro t
 rw [List.getElem?_take]
 split
 · rename_i ht
   have htc : t < cur.size := by omega
   rw [Z3, Z3, Z1 ht]
   unfold Go.Sort.putCells
   rw [Array.getElem?_mapIdx, Z1 htc]
   simp only [Option.map_some, Nat.zero_add, Z7, true_and, if_pos ht, Nat.sub_zero, id]
   rw [getElem!_pos F t ht]
 · rename_i ht
   rw [List.getElem?_eq_none (by simpa using ht)]
theorem Ym4 {F cur : Array Value} : (Go.Sort.putCells id 0 F cur).size = cur.size := by simp [Go.Sort.putCells]
theorem sort_does {ρ : Ren} (hG : ∀ g, low 0 (G g)) (L : SlLaysF0.n6 P ρ) (aE : ∀ w, (isAgg (ρ.t 24)).run P w = .ok true w) (zE : ∀ w, (Go.sizeOf (ρ.t 24)).run P w = .ok k w) (k0 : 0 < k)
 (hlen : ∀ x, okX x → (xX x).length = k) (hone : ∀ x, okX x → (xX x).all D.one = true) (hlow : ∀ x, lowL 0 (xX x)) {cmp : X → X → Int} (hO : Go.Sort.SWO (ltOf cmp)) {g : FuncId} (eg : ∀ args w, (callFunc g args).run P w = .ok (.enter g args) w)
 (hc : ∀ x y, okX x → okX y → Does P G g [] [.agg (xX x), .agg (xX y)] (fun h' r => h' = [] ∧ r = .v (.int .i64 (cmp x y)))) {l : List X} (hl : ∀ x ∈ l, okX x) (hsz : l.length ≤ 1000000) {h : List Ob} {i : Nat} {E : TypeId} (hi : h[i]? = some (.buf E k (l.map xX))) :
 Does P G (ρ.f 6) h [.buf i l.length, .fn g []] (fun h' r => ∃ l' : List X, l'.Perm l ∧ l'.Pairwise (fun x y => ¬ cmp y x < 0) ∧ h' = h.set i (.buf E k (l'.map xX)) ∧ r = .tup []) := by
 intro w hd p vs ok ha
 rw [rdL] at ha
 obtain ⟨u, t, rfl, hu, ha⟩ := ha
 rw [rdL] at ha
 obtain ⟨fv, t, rfl, hf, ha⟩ := ha
 rw [rdL] at ha
 subst ha
 rw [rd] at hu
 rw [rd] at hf
 obtain ⟨cb, rfl, hcb⟩ := hf
 rw [rdL] at hcb
 have hcb : cb = #[] := by apply Array.ext'; simpa using hcb
 subst hcb
 obtain ⟨_, _, hu⟩ := hu
 have hv := (hu E k _ hi).2 (by simp)
 obtain ⟨cs, hown, hrd, hrows, hp⟩ := ok.ob i _ u hi hv
 rw [Z4] at hown
 have hlowF : lowL 0 (l.map xX).flatten := by
  rw [Zj0]
  intro d hd'
  obtain ⟨row, hrow, hdr⟩ := List.mem_flatten.1 hd'
  obtain ⟨x, _, rfl⟩ := Z2.1 hrow
  exact (Zj0 _ _).1 (hlow x) d hdr
 have hrd0 := rdL_low0 ok.len hlowF hrd
 obtain ⟨its, hx, hcs⟩ := items_of (k := k) (okX := okX) hlen hone l cs hl hrd0
 rcases its with _ | ⟨it0, its0⟩
 · simp only [List.map_nil] at hx
   subst hx
   obtain ⟨a, c, hua⟩ : ∃ a c, u = .slice a 0 c := by
    rcases hown.2 with ⟨rfl, _⟩ | ⟨gg, cap, cur, rfl, _⟩ <;> exact ⟨_, _, rfl⟩
   subst hua
   refine (AnyF.slices_SortFunc_none L a c _ w).mono ?_
   rintro e w' ⟨rfl, rfl⟩
   exact ⟨_, hd, h, .tup [], p, rfl, ⟨[], .refl _, .nil, by rw [Js hi], rfl⟩, ok, by rw [rd]; exact ⟨#[], rfl, by rw [rdL]⟩, .refl _ _ _ _⟩
 generalize hits : it0 :: its0 = its at hx hcs
 haveI : Inhabited (Item xX okX k w p) := ⟨it0⟩
 have hn : its.length = l.length := by rw [← hx, Z4]
 have hn0 : l.length ≠ 0 := by rw [← hn, ← hits]; simp
 rcases hown.2 with ⟨_, h0⟩ | ⟨B, cap, cur, rfl, _, hB, hcap, hmax, hcur, htake⟩
 · exact absurd h0 hn0
 have pB : p B = false := hp B rfl
 have hBl := (Z5.1 hB).1
 have hk : ∀ q : Item xX okX k w p, q.cs.length = k := fun q => q.len
 have hfl : (Go.Sort.flatK Item.cs k its.toArray).toList = cs := by rw [Yi0 k0 hk]; simpa using hcs
 have hcl : cs.length = l.length * k := hown.1
 have hcu : l.length * k ≤ cur.size := by rw [hcur]; exact Nat.mul_le_mul_right k hcap
 have hH : Go.Sort.HoldsK Item.cs k w B 0 its.toArray := by
  intro t ht
  have ht2 : t < l.length * k := by simpa [hn] using ht
  have e1 : (Go.Sort.flatK Item.cs k its.toArray)[t]? = cur[t]? := by
   rw [← Z3, hfl, ← htake, List.getElem?_take, if_pos ht2, Z3]
  have htc : t < cur.size := by omega
  rw [Z1 ht, Z1 htc] at e1
  have e1 := Option.some.inj e1
  rw [getElem!_pos _ t ht, e1]
  constructor
  · simp [World.cell?, hB, htc]
  · simp [World.frozen?, hB]
 have hS : Go.Sort.SWO (ltOf fun q r : Item xX okX k w p => cmp q.x r.x) := ⟨fun q => hO.irrefl q.x, fun q r s => hO.trans q.x r.x s.x, fun q r s => hO.ntrans q.x r.x s.x⟩
 have HS := AnyQ.slices_SortFunc L k aE zE Item.cs hk (fun q => q.one) (fun q r : Item xX okX k w p => cmp q.x r.x) hS g #[] B 0 cap its.toArray w eg (cmp_lays hG ok pB hc _) hH hBl (by simp [hn]; omega)
 rw [show its.toArray.size = l.length by simp [hn]] at HS
 refine HS.mono ?_
 rintro e w' ⟨rfl, d', m, os, hperm, hsort, rfl⟩
 obtain ⟨hps, _, hpp⟩ := hperm
 have hds : d'.size = l.length := by rw [hps]; simp [hn]
 have hdl : d'.toList.length = l.length := by simpa using hds
 have hperm2 : (d'.toList.map Item.x).Perm l := by
  rw [← hx]
  have e1 : d'.extract 0 l.length = d' := by rw [← hds]; simp
  have e2 : its.toArray.extract 0 l.length = its.toArray := by rw [← hn]; simp
  rw [e1, e2] at hpp
  exact (hpp.map Item.x)
 have hsort2 : (d'.toList.map Item.x).Pairwise (fun x y => ¬ cmp y x < 0) := by
  rw [List.pairwise_iff_getElem]
  intro a b ha hb hab
  have ha' : a < d'.size := by simpa using ha
  have hb' : b < d'.size := by simpa using hb
  have hs := hsort a b (Z7 _) hab (by omega)
  rw [getElem!_pos d' a ha', getElem!_pos d' b hb'] at hs
  simpa [ltOf] using hs
 have hfl2 : (Go.Sort.flatK Item.cs k d').toList = (d'.toList.map Item.cs).flatten := Yi0 k0 hk d'
 have hfs : (Go.Sort.flatK Item.cs k d').size = l.length * k := by rw [Go.Sort.size_flatK, hds]
 have hW := sorted_block (enc := Item.cs (xX := xX) (okX := okX) (k := k) (w := w) (p := p)) (k := k) (m := m) (dk := d') (os := os) hB
 obtain ⟨o, ev⟩ := Ok.repl (ob' := .buf E k ((d'.toList.map Item.x).map xX)) (u' := .slice (some ⟨B, 0, none⟩) l.length cap) (w' := sortWorldK Item.cs k w B 0 m d' os) ok hi hv rfl rfl rfl rfl Zy3
  (fun b hb hne => Zy4 hb fun e => hne (by rw [e]; rfl)) (fun b hb => .inl hb) (fun _ _ => rfl)
  (fun e kk xs' he => by cases he; exact ⟨E, _, rfl, by simp [hdl], fun _ => rfl⟩)
  (fun c s => by
   refine ⟨(d'.toList.map Item.cs).flatten, ?_, ?_, ?_, fun gg hg => ?_⟩
   · rw [Z4, Z4, hdl]
     refine ⟨by rw [← hfl2, Array.length_toList, hfs], .inr ⟨B, cap, _, rfl, Z7 _, hW, hcap, hmax, by rw [Ym4, hcur], ?_⟩⟩
     rw [← hfl2, ← hfs]
     exact Ym3 (by rw [hfs]; exact hcu)
   · exact Xv c s _ _ (rdL_no (items_rd d'.toList))
   · intro row hr
     obtain ⟨x, hx1, rfl⟩ := Z2.1 hr
     exact hlen x (hl x (hperm2.mem_iff.1 hx1))
   · cases hg; simp [pB])
  (h0 := Nat.le_add_right _ _)
 exact ⟨_, _, _, .tup [], _, rfl, ⟨_, hperm2, hsort2, rfl, rfl⟩, o, by rw [rd]; exact ⟨#[], rfl, by rw [rdL]⟩, ev⟩
end
end
section
open Go.Shelf Go.RowKit
def Zu8 : Go.Shelf.Ren := ⟨fun | 6 => 43 | 15 => 87 | 14 => 86 | 28 => 149 | 29 => 150 | 20 => 141 | 21 => 142 | 22 => 143 | 23 => 144 | 24 => 145 | 25 => 146 | 26 => 147 | 27 => 148 | 46 => 208 | 47 => 209 | 48 => 210 | 49 => 211 | 50 => 212 | 57 => 241 | n => n, fun | 22 => 27 | 24 => 30 | 25 => 59 | 3 => 3 | 39 => 87 | 0 => 0 | 53 => 142 | 55 => 144 | 4 => 4 | 46 => 136 | 45 => 135 | 50 => 103 | 5 => 5 | 9 => 9 | 66 => 182 | 70 => 186 | 76 => 206 | 77 => 207 | n => n, fun | n => n⟩
theorem laysSort : Go.Proofs.SlLaysF0.n6 Tryz.prog Zu8 := {
  mixed := by kernel_rfl
  f6 := ⟨Tryz.f43.name, by decide, Tryz.func43.trans (congrArg some (by kernel_rfl))⟩
  f14 := ⟨Tryz.f86.name, by decide, Tryz.func86.trans (congrArg some (by kernel_rfl))⟩
  f15 := Tryz.func87.trans (congrArg some (by kernel_rfl))
  f20 := ⟨Tryz.f141.name, by decide, Tryz.func141.trans (congrArg some (by kernel_rfl))⟩
  f21 := ⟨Tryz.f142.name, by decide, Tryz.func142.trans (congrArg some (by kernel_rfl))⟩
  f22 := ⟨Tryz.f143.name, by decide, Tryz.func143.trans (congrArg some (by kernel_rfl))⟩
  f23 := ⟨Tryz.f144.name, by decide, Tryz.func144.trans (congrArg some (by kernel_rfl))⟩
  f24 := ⟨Tryz.f145.name, by decide, Tryz.func145.trans (congrArg some (by kernel_rfl))⟩
  f25 := ⟨Tryz.f146.name, by decide, Tryz.func146.trans (congrArg some (by kernel_rfl))⟩
  f26 := ⟨Tryz.f147.name, by decide, Tryz.func147.trans (congrArg some (by kernel_rfl))⟩
  f27 := ⟨Tryz.f148.name, by decide, Tryz.func148.trans (congrArg some (by kernel_rfl))⟩
  f28 := Tryz.func149.trans (congrArg some (by kernel_rfl))
  f29 := Tryz.func150.trans (congrArg some (by kernel_rfl))
  f46 := ⟨Tryz.f208.name, by decide, Tryz.func208.trans (congrArg some (by kernel_rfl))⟩
  f47 := Tryz.func209.trans (congrArg some (by kernel_rfl))
  f48 := Tryz.func210.trans (congrArg some (by kernel_rfl))
  f49 := ⟨Tryz.f211.name, by decide, Tryz.func211.trans (congrArg some (by kernel_rfl))⟩
  f50 := ⟨Tryz.f212.name, by decide, Tryz.func212.trans (congrArg some (by kernel_rfl))⟩
  f57 := ⟨Tryz.f241.name, by decide, Tryz.func241.trans (congrArg some (by kernel_rfl))⟩
  t0 := Tryz.underlying0
  a0 := Tryz.isAgg0
  z0 := Tryz.sizeOf0
  v0 := Tryz.zeroValue0
  t3 := Tryz.underlying3
  a3 := Tryz.isAgg3
  z3 := Tryz.sizeOf3
  v3 := Tryz.zeroValue3
  t4 := Tryz.underlying4
  a4 := Tryz.isAgg4
  z4 := Tryz.sizeOf4
  v4 := Tryz.zeroValue4
  t5 := Tryz.underlying5
  a5 := Tryz.isAgg5
  z5 := Tryz.sizeOf5
  v5 := Tryz.zeroValue5
  t9 := Tryz.underlying9
  a9 := Tryz.isAgg9
  z9 := Tryz.sizeOf9
  v9 := Tryz.zeroValue9
  t22 := Tryz.underlying27
  a22 := Tryz.isAgg27
  z22 := Tryz.sizeOf27
  v22 := Tryz.zeroValue27
  t25 := Tryz.underlying59
  a25 := Tryz.isAgg59
  z25 := Tryz.sizeOf59
  v25 := Tryz.zeroValue59
  t39 := Tryz.underlying87
  a39 := Tryz.isAgg87
  z39 := Tryz.sizeOf87
  v39 := Tryz.zeroValue87
  t45 := Tryz.underlying135
  a45 := Tryz.isAgg135
  z45 := Tryz.sizeOf135
  v45 := Tryz.zeroValue135
  t46 := Tryz.underlying136
  a46 := Tryz.isAgg136
  z46 := Tryz.sizeOf136
  v46 := Tryz.zeroValue136
  t50 := Tryz.underlying103
  a50 := Tryz.isAgg103
  z50 := Tryz.sizeOf103
  v50 := Tryz.zeroValue103
  t53 := Tryz.underlying142
  a53 := Tryz.isAgg142
  z53 := Tryz.sizeOf142
  v53 := Tryz.zeroValue142
  t55 := Tryz.underlying144
  a55 := Tryz.isAgg144
  z55 := Tryz.sizeOf144
  v55 := Tryz.zeroValue144
  t66 := Tryz.underlying182
  a66 := Tryz.isAgg182
  z66 := Tryz.sizeOf182
  v66 := Tryz.zeroValue182
  t70 := Tryz.underlying186
  a70 := Tryz.isAgg186
  z70 := Tryz.sizeOf186
  v70 := Tryz.zeroValue186
  t76 := Tryz.underlying206
  a76 := Tryz.isAgg206
  z76 := Tryz.sizeOf206
  v76 := Tryz.zeroValue206
  t77 := Tryz.underlying207
  a77 := Tryz.isAgg207
  z77 := Tryz.sizeOf207
  v77 := Tryz.zeroValue207 }
end
section
open Go.RowKit Go.Shelf
theorem vsm_parts {L : List Val} (hl : L.length ≤ 9223372036854775807) (h : ∀ x ∈ L, VSm x) : VSm (.mk 0 [] L []) := .mk _ (by simp [Val.names]) hl (by simp [Val.entries]) (by simp [Val.names]) (by simp [Val.entries]) h
theorem Zv5 : Go.Sort.SWO (ltOf valC) where
 irrefl x := by simp only [ltOf, decide_eq_false_iff_not]; rw [valC_self]; omega
 trans x y z h k := by
  simp only [ltOf, decide_eq_true_eq] at h k ⊢
  have := Zv4 x y z
  unfold Tri at this
  omega
 ntrans x y z h k := by
  simp only [ltOf, decide_eq_false_iff_not] at h k ⊢
  have h1 := Vm x y
  have h2 := Vm y z
  have h3 := Vm x z
  have := Zv4 z y x
  unfold Tri at this
  omega
theorem dec_vsm (f : Nat) : ∀ (l : Lat) (v : Val), SizeOf.sizeOf l ≤ f → Sm l → WfL l → VSm v → Ya l v = true → ∀ d ∈ decV l v, VSm d := by
 induction f with
 | zero => intro l v hn; cases l; simp at hn
 | succ f ih =>
  intro l v hn hs hw hv he d hd
  have hp := fun p (hp : p ∈ l.parts) x (hx : x ∈ v.parts) hex => ih p x (by have := Yu (l := l) hp; omega) (hs.part p hp) (hw.part hp) (hv.part x hx) hex
  have hvt := hv.texts
  have hve := hv.ents
  have hb := fun p (hp : p ∈ l.parts) => Yj7 _ p (Nat.le_refl _) (hs.part p hp)
  have hsp := hs.parts
  obtain ⟨_, hk5, hk7, _⟩ := hw.kinds
  have hlex : l.kind = 7 → _ := fun h7 => Zp5 hw h7 he
  obtain ⟨k, lo, hi, ns, ps, rs⟩ := l
  simp only [Lat.parts, Lat.kind] at hp hb hsp hk5 hk7 hlex
  by_cases h4 : k = 4
  · subst h4
    rw [dec_4] at hd
    obtain ⟨n, hn', rfl⟩ := Z2.1 hd
    exact .mk _ (by simp [Val.names]) (by simp [Val.parts]) (by simp [Val.entries]) (fun s hs' => by rw [Z0.1 (show s ∈ [n] from hs')]; exact hvt n hn') (by simp [Val.entries]) (by simp [Val.parts])
  by_cases h5 : k = 5
  · subst h5
    obtain ⟨p, rfl⟩ := List.length_eq_one_iff.1 (hk5 rfl)
    rw [dec_5] at hd
    obtain ⟨⟨s, x⟩, hsx, hd⟩ := List.mem_flatMap.1 hd
    obtain ⟨c, hc, rfl⟩ := Z2.1 hd
    have hm := List.of_mem_zip hsx
    have hc2 := hp p (by simp) x hm.2 ((Vh.1 he).2.2.2 x hm.2).1 c hc
    exact .mk _ (by simp [mapD, Val.names]) (by simp [mapD, Val.parts]) (by simp [mapD, Val.entries]) (fun t ht => by rw [Z0.1 (show t ∈ [s] from ht)]; exact hvt s hm.1) (by simp [mapD, Val.entries]) (fun t ht => by rw [Z0.1 (show t ∈ [c] from ht)]; exact hc2)
  by_cases h6 : k = 6
  · subst h6
    have hpe := (el67 (k := 6) (lo := lo) (hi := hi) (ns := ns) (ps := ps) (rs := rs) (v := v) (.inl rfl)).1 he
    rw [dec_6 hpe.1.1] at hd
    obtain ⟨i, hi', hd⟩ := List.mem_flatMap.1 hd
    unfold prdF at hd
    split at hd
    · rename_i p x h1 h2
      obtain ⟨c, hc, rfl⟩ := Z2.1 hd
      obtain ⟨q1, e1⟩ := Z6.1 h1
      obtain ⟨q2, e2⟩ := Z6.1 h2
      have hex := (Ue ps v.parts hpe.1.1).1 hpe.1.2 i q1 q2
      have hex2 : Ya p x = true := by rw [← e1, ← e2]; exact hex
      have hc2 := hp p (List.mem_of_getElem? h1) x (List.mem_of_getElem? h2) hex2 c hc
      refine vsm_parts (by simpa [Lat.parts] using hsp) fun y hy => ?_
      rcases List.mem_or_eq_of_mem_set hy with hy | rfl
      · obtain ⟨q, hq, rfl⟩ := Z2.1 hy
        exact hb q hq
      · exact hc2
    · cases hd
  by_cases h7 : k = 7
  · obtain ⟨p, q, a, w, hpq, hab, ha, hw', _⟩ := hlex h7
    subst h7
    subst hpq
    rw [dec_7 hab] at hd
    obtain ⟨c, hc, rfl⟩ := Z2.1 hd
    refine vsm_parts (by simp) fun y hy => ?_
    rcases List.mem_cons.1 hy with rfl | hy
    · exact hv.part _ (by rw [hab]; simp)
    · rw [Z0.1 hy]
      split at hc
      · rw [Z0.1 hc]; exact hb q (by simp)
      · exact hp q (by simp) w (by rw [hab]; simp) hw' c hc
  by_cases h9 : k = 9
  · subst h9
    rw [dec_9] at hd
    obtain ⟨x, hx, rfl⟩ := Z2.1 hd
    exact .mk _ (by simp [Val.names]) (by simp [Val.parts]) (by simp [Val.entries]) (by simp [Val.names]) (fun e he' => by rw [Z0.1 (show e ∈ [x] from he')]; exact hve x hx) (by simp [Val.parts])
  · rw [decV, if_neg h4, if_neg h5, if_neg h6, if_neg h7, if_neg h9] at hd
    split at hd
    · cases hd
    · rw [Z0.1 hd]; exact hv
end
end Go.Proofs.YtbhkcbidcfofiaaGreat
