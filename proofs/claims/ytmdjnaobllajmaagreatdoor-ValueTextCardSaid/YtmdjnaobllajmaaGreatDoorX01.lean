/-
  What the statements of the chapter share, part 01: VBase, VLat, VNames, VLat2.
-/
import Derived.Test.YtmdjnaobllajmaaGreatDoorRows
import Derived.BigQuiet
import Derived.Deep.AppendLies
import Derived.Deep.QuietTactic
import Derived.Deep.RegionHeld3
import Derived.Deep.RegionLaw
import Derived.Deep.RegionWith
import Derived.Laws.AppendOwnNone
import Derived.Laws.Pointers
import Derived.OneCell
import Derived.OwnWalk
import Derived.StillTactics
import Derived.WalkKit
import Derived.WalkLawsBesides
import Derived.WalkSpells
set_option linter.unusedVariables false
set_option linter.unusedSimpArgs false
set_option maxRecDepth 100000
set_option maxHeartbeats 8000000
namespace Go.Proofs.YtmdjnaobllajmaaGreatDoor
open Go.RowKit
theorem hid {p : Prop} (h : p) : Hid p := h
theorem ret_int {k : IntKind} {a b : Int} (h : a = b) : Ending.returned (.int k a) = .returned (.int k b) := by rw [h]
theorem ret_bool {a b : Bool} (h : a = b) : Ending.returned (.bool a) = .returned (.bool b) := by rw [h]
theorem below_drewN' {B : Nat} {a w : World} (h : Below B a w) (n : Nat) : Below B a (w.drewN n) := ⟨h.os, h.tape, h.output, h.size, h.block⟩
theorem heap_new_at (w : World) (o : Obj) (n : Nat) (h : n = w.heap.size) : (w.alloc o).heap[n]? = some o := by
 subst h; exact heap_alloc_new w o
def CellsAt (w : World) (b o : Nat) (cs : List Value) : Prop := ∀ j (h : j < cs.length), w.cell? ⟨b, o + j, none⟩ = some cs[j]
theorem CellsAt.below {w w' : World} {b o : Nat} {cs : List Value} (h : CellsAt w b o cs) (hb : Below w.heap.size w w') : CellsAt w' b o cs :=
 fun j hj => (hb.cell (World.block_lt_of_cell? w _ (h j hj))).trans (h j hj)
def SlRd {α : Type} (w : World) (sz : Nat) (R : α → List Value → Prop) (v : Value) (l : List α) : Prop :=
 ∃ a cap, v = .slice a l.length cap ∧ ((a = none → cap = 0) ∧ l.length ≤ cap) ∧ cap ≤ maxLen ∧
   ∀ i (h : i < l.length), ∃ b o cs, a = some ⟨b, o, none⟩ ∧ cs.length = sz ∧ CellsAt w b (o + i * sz) cs ∧ R l[i] cs
theorem SlRd.below {α : Type} {w w' : World} {sz : Nat} {R R' : α → List Value → Prop} {v : Value} {l : List α} (h : SlRd w sz R v l) (hb : Below w.heap.size w w') (hR : ∀ x cs, x ∈ l → R x cs → R' x cs) : SlRd w' sz R' v l := by
 obtain ⟨a, cap, hv, hn, hm, hc⟩ := h
 refine ⟨a, cap, hv, hn, hm, fun i hi => ?_⟩
 obtain ⟨b, o, cs, ha, hl, hcs, hr⟩ := hc i hi
 exact ⟨b, o, cs, ha, hl, hcs.below hb, hR _ _ (List.getElem_mem hi) hr⟩
theorem SlRd.shape {α : Type} {w : World} {sz : Nat} {R : α → List Value → Prop} {v : Value} {l : List α} (h : SlRd w sz R v l) : ∃ a cap, v = .slice a l.length cap ∧ l.length ≤ cap ∧ l.length ≤ 9223372036854775807 := by
 obtain ⟨a, cap, hv, hn, hm, _⟩ := h
 exact ⟨a, cap, hv, hn.2, by unfold maxLen at hm; omega⟩
def strRd (s : ByteArray) (cs : List Value) : Prop := cs = [.string s] ∧ s.size ≤ maxLen
def Strs (w : World) (v : Value) (l : List ByteArray) : Prop := SlRd w 1 strRd v l
theorem Strs.below {w w' : World} {v : Value} {l : List ByteArray} (h : Strs w v l) (hb : Below w.heap.size w w') : Strs w' v l := SlRd.below h hb fun _ _ _ h => h
theorem Strs.cell {w : World} {a : Option Addr} {n cap : Nat} {l : List ByteArray} (h : Strs w (.slice a n cap) l) (i : Nat) (hi : i < l.length) : ∃ b o, a = some ⟨b, o, none⟩ ∧ w.cell? ⟨b, o + i, none⟩ = some (.string l[i]) ∧ l[i].size ≤ maxLen := by
 obtain ⟨a', cap', hv, hn, hm, hc⟩ := h
 cases hv
 obtain ⟨b, o, cs, ha, hl, hcs, hr, hs⟩ := hc i hi
 subst hr
 exact ⟨b, o, ha, by simpa using hcs 0 (by simp), hs⟩
structure Rl where
 cond : List ByteArray
 concl : ByteArray
def ruleRd (w : World) (r : Rl) (cs : List Value) : Prop := ∃ v, cs = [v, .string r.concl] ∧ Strs w v r.cond ∧ r.concl.size ≤ maxLen
theorem ruleRd.below {w w' : World} {r : Rl} {cs : List Value} (h : ruleRd w r cs) (hb : Below w.heap.size w w') : ruleRd w' r cs := by
 obtain ⟨v, hv, hs, hm⟩ := h
 exact ⟨v, hv, hs.below hb, hm⟩
def I64 (n : Int) : Prop := -9223372036854775808 ≤ n ∧ n ≤ 9223372036854775807
inductive Lat where
 | mk (kind lo hi : Int) (names : List ByteArray) (parts : List Lat) (rules : List Rl)
namespace Lat
def kind : Lat → Int | mk k _ _ _ _ _ => k
def lo : Lat → Int | mk _ x _ _ _ _ => x
def hi : Lat → Int | mk _ _ x _ _ _ => x
def names : Lat → List ByteArray | mk _ _ _ x _ _ => x
def parts : Lat → List Lat | mk _ _ _ _ x _ => x
def rules : Lat → List Rl | mk _ _ _ _ _ x => x
end Lat
def latRd (w : World) : Lat → List Value → Prop
 | .mk k lo hi ns ps rs, cs => ∃ vn vp vr, cs = [.int .i64 k, .int .i64 lo, .int .i64 hi, vn, vp, vr] ∧ (I64 k ∧ I64 lo ∧ I64 hi) ∧ Strs w vn ns ∧
     SlRd w 6 (fun (p : {x // x ∈ ps}) cs => latRd w p.1 cs) vp ps.attach ∧ SlRd w 2 (ruleRd w) vr rs
 termination_by l => SizeOf.sizeOf l
 decreasing_by
  have := List.sizeOf_lt_of_mem p.2
  simp only [Lat.mk.sizeOf_spec]
  omega
theorem SlRd.unattach {α : Type} {w : World} {sz : Nat} {R : α → List Value → Prop} {v : Value} {l : List α} : SlRd w sz (fun (p : {x // x ∈ l}) cs => R p.1 cs) v l.attach ↔ SlRd w sz R v l := by
  unfold SlRd
  simp only [List.length_attach, List.getElem_attach]
theorem latRd_iff (w : World) (l : Lat) (cs : List Value) : latRd w l cs ↔ ∃ vn vp vr, cs = [.int .i64 l.kind, .int .i64 l.lo, .int .i64 l.hi, vn, vp, vr] ∧ (I64 l.kind ∧ I64 l.lo ∧ I64 l.hi) ∧ Strs w vn l.names ∧
 SlRd w 6 (latRd w) vp l.parts ∧ SlRd w 2 (ruleRd w) vr l.rules := by
 cases l with
 | mk k lo hi ns ps rs =>
   rw [latRd]
   simp only [Lat.kind, Lat.lo, Lat.hi, Lat.names, Lat.parts, Lat.rules]
   constructor
   · rintro ⟨vn, vp, vr, h1, h2, h3, h4, h5⟩
     exact ⟨vn, vp, vr, h1, h2, h3, SlRd.unattach.1 h4, h5⟩
   · rintro ⟨vn, vp, vr, h1, h2, h3, h4, h5⟩
     exact ⟨vn, vp, vr, h1, h2, h3, SlRd.unattach.2 h4, h5⟩
theorem latRd.below {w w' : World} (hb : Below w.heap.size w w') : ∀ (l : Lat) (cs : List Value), latRd w l cs → latRd w' l cs
 | .mk k lo hi ns ps rs, cs, h => by
   obtain ⟨vn, vp, vr, h1, h2, h3, h4, h5⟩ := (latRd_iff _ _ _).1 h
   refine (latRd_iff _ _ _).2 ⟨vn, vp, vr, h1, h2, h3.below hb, ?_, SlRd.below h5 hb fun _ _ _ h => h.below hb⟩
   refine SlRd.below h4 hb fun x cs hx hr => latRd.below hb x cs hr
 termination_by l => SizeOf.sizeOf l
 decreasing_by
  have := List.sizeOf_lt_of_mem hx
  simp only [Lat.parts] at this
  simp only [Lat.mk.sizeOf_spec]
  omega
structure Tk where
 process : Int
 n : Int
structure En where
 clock : List Tk
 name : ByteArray
def tickRd (t : Tk) (cs : List Value) : Prop := cs = [.int .i64 t.process, .int .i64 t.n] ∧ I64 t.process ∧ I64 t.n
def entryRd (w : World) (e : En) (cs : List Value) : Prop := ∃ v, cs = [v, .string e.name] ∧ SlRd w 2 tickRd v e.clock ∧ e.name.size ≤ maxLen
theorem entryRd.below {w w' : World} {r : En} {cs : List Value} (h : entryRd w r cs) (hb : Below w.heap.size w w') : entryRd w' r cs := by
 obtain ⟨v, hv, hs, hm⟩ := h
 exact ⟨v, hv, SlRd.below hs hb fun _ _ _ h => h, hm⟩
inductive Val where
 | mk (n : Int) (names : List ByteArray) (parts : List Val) (entries : List En)
namespace Val
def n : Val → Int | mk x _ _ _ => x
def names : Val → List ByteArray | mk _ x _ _ => x
def parts : Val → List Val | mk _ _ x _ => x
def entries : Val → List En | mk _ _ _ x => x
end Val
def valRd (w : World) : Val → List Value → Prop
 | .mk n ns ps es, cs => ∃ vn vp ve, cs = [.int .i64 n, vn, vp, ve] ∧ I64 n ∧ Strs w vn ns ∧
     SlRd w 4 (fun (p : {x // x ∈ ps}) cs => valRd w p.1 cs) vp ps.attach ∧ SlRd w 2 (entryRd w) ve es
 termination_by l => SizeOf.sizeOf l
 decreasing_by
  have := List.sizeOf_lt_of_mem p.2
  simp only [Val.mk.sizeOf_spec]
  omega
theorem valRd_iff (w : World) (l : Val) (cs : List Value) : valRd w l cs ↔ ∃ vn vp ve, cs = [.int .i64 l.n, vn, vp, ve] ∧ I64 l.n ∧ Strs w vn l.names ∧ SlRd w 4 (valRd w) vp l.parts ∧ SlRd w 2 (entryRd w) ve l.entries := by
 cases l with
 | mk n ns ps es =>
   rw [valRd]
   simp only [Val.n, Val.names, Val.parts, Val.entries]
   constructor
   · rintro ⟨vn, vp, vr, h1, h2, h3, h4, h5⟩
     exact ⟨vn, vp, vr, h1, h2, h3, SlRd.unattach.1 h4, h5⟩
   · rintro ⟨vn, vp, vr, h1, h2, h3, h4, h5⟩
     exact ⟨vn, vp, vr, h1, h2, h3, SlRd.unattach.2 h4, h5⟩
theorem latRd.lay {w : World} {l : Lat} {cs : List Value} (h : latRd w l cs) : ∃ an cn ap cp ar cr, cs = [.int .i64 l.kind, .int .i64 l.lo, .int .i64 l.hi, .slice an l.names.length cn, .slice ap l.parts.length cp, .slice ar l.rules.length cr] ∧
 (I64 l.kind ∧ I64 l.lo ∧ I64 l.hi) ∧ Strs w (.slice an l.names.length cn) l.names ∧ SlRd w 6 (latRd w) (.slice ap l.parts.length cp) l.parts ∧ SlRd w 2 (ruleRd w) (.slice ar l.rules.length cr) l.rules ∧
 (l.names.length ≤ cn ∧ l.names.length ≤ 9223372036854775807) ∧ (l.parts.length ≤ cp ∧ l.parts.length ≤ 9223372036854775807) ∧ l.rules.length ≤ cr ∧ l.rules.length ≤ 9223372036854775807 := by
 obtain ⟨vn, vp, vr, rfl, hi, hn, hp, hr⟩ := (latRd_iff _ _ _).1 h
 obtain ⟨an, cn, rfl, hn'⟩ := hn.shape
 obtain ⟨ap, cp, rfl, hp'⟩ := hp.shape
 obtain ⟨ar, cr, rfl, hr'⟩ := hr.shape
 exact ⟨an, cn, ap, cp, ar, cr, rfl, hi, hn, hp, hr, hn', hp', hr'⟩
theorem valRd.lay {w : World} {v : Val} {cs : List Value} (h : valRd w v cs) : ∃ an cn ap cp ae ce, cs = [.int .i64 v.n, .slice an v.names.length cn, .slice ap v.parts.length cp, .slice ae v.entries.length ce] ∧
 I64 v.n ∧ Strs w (.slice an v.names.length cn) v.names ∧ SlRd w 4 (valRd w) (.slice ap v.parts.length cp) v.parts ∧ SlRd w 2 (entryRd w) (.slice ae v.entries.length ce) v.entries ∧
 (v.names.length ≤ cn ∧ v.names.length ≤ 9223372036854775807) ∧ (v.parts.length ≤ cp ∧ v.parts.length ≤ 9223372036854775807) ∧ v.entries.length ≤ ce ∧ v.entries.length ≤ 9223372036854775807 := by
 obtain ⟨vn, vp, ve, rfl, hi, hn, hp, he⟩ := (valRd_iff _ _ _).1 h
 obtain ⟨an, cn, rfl, hn'⟩ := hn.shape
 obtain ⟨ap, cp, rfl, hp'⟩ := hp.shape
 obtain ⟨ae, ce, rfl, he'⟩ := he.shape
 exact ⟨an, cn, ap, cp, ae, ce, rfl, hi, hn, hp, he, hn', hp', he'⟩
theorem valRd.below {w w' : World} (hb : Below w.heap.size w w') : ∀ (l : Val) (cs : List Value), valRd w l cs → valRd w' l cs
 | .mk n ns ps es, cs, h => by
   obtain ⟨vn, vp, vr, h1, h2, h3, h4, h5⟩ := (valRd_iff _ _ _).1 h
   refine (valRd_iff _ _ _).2 ⟨vn, vp, vr, h1, h2, h3.below hb, ?_, SlRd.below h5 hb fun _ _ _ h => h.below hb⟩
   refine SlRd.below h4 hb fun x cs hx hr => valRd.below hb x cs hr
 termination_by l => SizeOf.sizeOf l
 decreasing_by
  have := List.sizeOf_lt_of_mem hx
  simp only [Val.parts] at this
  simp only [Val.mk.sizeOf_spec]
  omega
theorem all_attach {α : Type} (l : List α) (f : α → Bool) : (l.attach.all fun p => f p.1) = l.all f := by
  rw [Bool.eq_iff_iff]
  simp [List.all_eq_true]
def chainB : Lat → Bool
 | .mk k _ _ _ ps _ => decide (k = 1 ∨ k = 2 ∨ k = 3) || (decide (k = 7) && decide (ps.length = 2) && ps.attach.all fun p => chainB p.1)
 termination_by l => SizeOf.sizeOf l
 decreasing_by
  have := List.sizeOf_lt_of_mem p.2
  simp only [Lat.mk.sizeOf_spec]
  omega
theorem chainB_eq (l : Lat) : chainB l = (decide (l.kind = 1 ∨ l.kind = 2 ∨ l.kind = 3) || (decide (l.kind = 7) && decide (l.parts.length = 2) && l.parts.all chainB)) := by
 cases l with
 | mk k lo hi ns ps rs => rw [chainB, all_attach]; rfl
theorem cell_alloc {w : World} {p : Addr} {u : Value} (h : w.cell? p = some u) (o : Obj) : (w.alloc o).cell? p = some u :=
 (World.cell?_alloc_lt _ _ _ (World.block_lt_of_cell? w _ h)).trans h
theorem CellsAt.six {w : World} {b o : Nat} {c0 c1 c2 c3 c4 c5 : Value} (h : CellsAt w b o [c0, c1, c2, c3, c4, c5]) :
 w.cell? ⟨b, o, none⟩ = some c0 ∧ w.cell? ⟨b, o + 1, none⟩ = some c1 ∧ w.cell? ⟨b, o + 2, none⟩ = some c2 ∧ w.cell? ⟨b, o + 3, none⟩ = some c3 ∧ w.cell? ⟨b, o + 4, none⟩ = some c4 ∧ w.cell? ⟨b, o + 5, none⟩ = some c5 :=
 ⟨h 0 (by simp), h 1 (by simp), h 2 (by simp), h 3 (by simp), h 4 (by simp), h 5 (by simp)⟩
theorem CellsAt.six_alloc {w : World} {b o : Nat} {c0 c1 c2 c3 c4 c5 : Value} (h : CellsAt w b o [c0, c1, c2, c3, c4, c5]) :
 (∀ O, (w.alloc O).cell? ⟨b, o, none⟩ = some c0) ∧ (∀ O, (w.alloc O).cell? ⟨b, o + 1, none⟩ = some c1) ∧ (∀ O, (w.alloc O).cell? ⟨b, o + 2, none⟩ = some c2) ∧ (∀ O, (w.alloc O).cell? ⟨b, o + 3, none⟩ = some c3) ∧ (∀ O, (w.alloc O).cell? ⟨b, o + 4, none⟩ = some c4) ∧ (∀ O, (w.alloc O).cell? ⟨b, o + 5, none⟩ = some c5) := by
 obtain ⟨h0, h1, h2, h3, h4, h5⟩ := h.six
 exact ⟨cell_alloc h0, cell_alloc h1, cell_alloc h2, cell_alloc h3, cell_alloc h4, cell_alloc h5⟩
theorem sizeOf_part {l p : Lat} (h : p ∈ l.parts) : SizeOf.sizeOf p < SizeOf.sizeOf l := by
 cases l with
 | mk k lo hi ns ps rs =>
   have := List.sizeOf_lt_of_mem h
   simp only [Lat.parts] at this
   simp only [Lat.mk.sizeOf_spec]
   omega
theorem chain_any (n : Nat) : ∀ (l : Lat) (cs : List Value) (w : World), SizeOf.sizeOf l ≤ n → latRd w l cs →
 Calls Tryz.prog 151 #[.agg cs.toArray] w fun e w' => e = .returned (.bool (chainB l)) ∧ Below w.heap.size w w' := by
 induction n with
 | zero => intro l cs w hn; cases l; simp at hn
 | succ n ih =>
   intro l cs w hn hl
   obtain ⟨vn, vp, vr, rfl, hi, hns, hps, hrs⟩ := (latRd_iff _ _ _).1 hl
   obtain ⟨k, lo, hi', ns, ps, rs⟩ := l
   simp only [Lat.kind, Lat.lo, Lat.hi, Lat.names, Lat.parts, Lat.rules] at hi hns hps hrs ⊢
   obtain ⟨ap, cp, rfl, hcp, hmp⟩ := hps.shape
   have hb : Below w.heap.size w (w.alloc (.cells #[.int .i64 k, .int .i64 lo, .int .i64 hi', vn, .slice ap ps.length cp, vr] 26)) := (Below.refl _ _).alloc (Nat.le_refl _) _
   by_cases h1 : k = 1 ∨ k = 2 ∨ k = 3
   · have HC : Hid (chainB (.mk k lo hi' ns ps rs) = true) := hid (by rw [chainB_eq]; simp only [Lat.kind, h1, decide_true, Bool.true_or])
     rcases h1 with rfl | rfl | rfl
     all_goals
      go_enter Tryz.func151, Tryz.ntmps151
      go_wp2
      go_ret
      exact ⟨ret_bool HC.out.symm, hb⟩
   · by_cases h7 : k = 7
     · subst h7
       by_cases h2 : ps.length = 2
       · obtain ⟨p, q, rfl⟩ : ∃ p q, ps = [p, q] := by
          match ps, h2 with
          | [p, q], _ => exact ⟨p, q, rfl⟩
         obtain ⟨a', cp', heq, _, _, hcell⟩ := hps
         cases heq
         obtain ⟨b, o, cs0, hab, hl0, hc0, hr0⟩ := hcell 0 (by simp)
         obtain ⟨b', o', cs1, hab', hl1, hc1, hr1⟩ := hcell 1 (by simp)
         subst hab
         cases hab'
         simp only [List.getElem_cons_zero, List.getElem_cons_succ] at hr0 hr1
         obtain ⟨n0, p0, r0, rfl, _⟩ := (latRd_iff _ _ _).1 hr0
         obtain ⟨n1, p1, r1, rfl, _⟩ := (latRd_iff _ _ _).1 hr1
         simp only [Nat.zero_mul, Nat.add_zero, Nat.one_mul] at hc0 hc1
         obtain ⟨f0, f1, f2, f3, f4, f5⟩ := hc0.six_alloc
         skip
         have HC : Hid (chainB (.mk 7 lo hi' ns [p, q] rs) = (chainB p && chainB q)) := hid (by rw [chainB_eq]; simp [Lat.kind, Lat.parts])
         have hsp : SizeOf.sizeOf p ≤ n := by have := sizeOf_part (l := .mk 7 lo hi' ns [p, q] rs) (p := p) (by simp [Lat.parts]); omega
         have hsq : SizeOf.sizeOf q ≤ n := by have := sizeOf_part (l := .mk 7 lo hi' ns [p, q] rs) (p := q) (by simp [Lat.parts]); omega
         have hb0 : ∀ {O}, Below w.heap.size w (w.alloc O) := fun {O} => (Below.refl _ _).alloc (Nat.le_refl _) O
         clear hb hl h1 h2
         go_enter Tryz.func151, Tryz.ntmps151
         go_wp2_with fail
         refine (ih p [.int .i64 p.kind, .int .i64 p.lo, .int .i64 p.hi, n0, p0, r0] _ hsp (latRd.below ((Below.refl _ _).alloc (Nat.le_refl _) _) _ _ hr0)).mono ?_
         rintro e w1 ⟨rfl, hb1⟩
         cases hcp' : chainB p
         · have HC2 : Hid (chainB (.mk 7 lo hi' ns [p, q] rs) = false) := hid (by rw [HC.out, hcp']; rfl)
           have HB1 := hid (hb0.trans (hb1.mono (by simp)))
           clear hb1
           go_wp2_with fail
           go_ret
           exact ⟨ret_bool HC2.out.symm, HB1.out⟩
         · have HC2 : Hid (chainB (.mk 7 lo hi' ns [p, q] rs) = chainB q) := hid (by rw [HC.out, hcp']; rfl)
           have HB1 := hid (hb0.trans (hb1.mono (by simp)))
           obtain ⟨g0, g1, g2, g3, g4, g5⟩ := (hc1.below HB1.out).six
           have hbox : w1.cell? ⟨w.heap.size, 4, none⟩ = some (.slice (some ⟨b, o, none⟩) 2 cp) := (hb1.cell (by simp)).trans (by rw [World.cell?_alloc_at _ _ _ _ rfl]; rfl)
           clear hb1
           go_wp2_with fail
           refine (ih q [.int .i64 q.kind, .int .i64 q.lo, .int .i64 q.hi, n1, p1, r1] _ hsq (latRd.below HB1.out _ _ hr1)).mono ?_
           rintro e w2 ⟨rfl, hb2⟩
           have HB2 := hid (HB1.out.trans (hb2.mono HB1.out.size))
           clear hb2
           go_wp2_with fail
           go_ret
           exact ⟨ret_bool HC2.out.symm, HB2.out⟩
       · have HC : Hid (chainB (.mk 7 lo hi' ns ps rs) = false) := hid (by rw [chainB_eq]; simp [Lat.kind, Lat.parts, h2])
         have e2 : ((ps.length : Int) == 2) = false := by simp; omega
         clear h2
         go_enter Tryz.func151, Tryz.ntmps151
         go_wp2
         go_ret
         exact ⟨ret_bool HC.out.symm, hb⟩
     · have HC : Hid (chainB (.mk k lo hi' ns ps rs) = false) := hid (by rw [chainB_eq]; simp only [Lat.kind, h1, h7, decide_false, Bool.false_or, Bool.false_and])
       have e1 : (k == 1) = false := by simp; omega
       have e2 : (k == 2) = false := by simp; omega
       have e3 : (k == 3) = false := by simp; omega
       have e7 : (k == 7) = false := by simp; omega
       clear h1 h7
       go_enter Tryz.func151, Tryz.ntmps151
       go_wp2
       go_ret
       exact ⟨ret_bool HC.out.symm, hb⟩
def wordB (c : Int) : Bool := decide ((97 ≤ c ∧ c ≤ 122) ∨ (48 ≤ c ∧ c ≤ 57) ∨ c = 45)
theorem wordByte_any (c : Int) (w : World) : Calls Tryz.prog 152 #[.int .u8 c] w fun e w' => e = .returned (.bool (wordB c)) ∧ w' = w := by
  by_cases h1 : 97 ≤ c ∧ c ≤ 122
  · obtain ⟨a, b⟩ := h1
    have e1 : wordB c = true := by unfold wordB; exact decide_eq_true (by omega)
    have E := hid e1
    clear e1
    go_enter Tryz.func152, Tryz.ntmps152
    go_wp2
    go_ret
    exact ⟨ret_bool E.out.symm, rfl⟩
  · by_cases h2 : 48 ≤ c ∧ c ≤ 57
    · obtain ⟨a, b⟩ := h2
      have e1 : wordB c = true := by unfold wordB; exact decide_eq_true (by omega)
      have E := hid e1
      have hx : c < 97 := by omega
      clear e1 h1
      go_enter Tryz.func152, Tryz.ntmps152
      go_wp2
      go_ret
      exact ⟨ret_bool E.out.symm, rfl⟩
    · have hx : c < 48 ∨ (57 < c ∧ c < 97) ∨ 122 < c := by omega
      have HN := hid h1
      have HN2 := hid h2
      clear h1 h2
      rcases hx with hx | ⟨hx, hy⟩ | hx
      all_goals
       go_enter Tryz.func152, Tryz.ntmps152
       go_wp2
       go_ret
       have h1 := HN.out
       have h2 := HN2.out
       exact ⟨ret_bool (by unfold wordB; rw [Bool.eq_iff_iff]; simp; omega), rfl⟩
def strEq (a b : ByteArray) : Bool := a.toList == b.toList
def idxN : List ByteArray → ByteArray → Nat → Option Nat
 | [], _, _ => none
 | x :: t, s, k => if strEq s x = true then some k else idxN t s (k + 1)
def idxI (l : List ByteArray) (s : ByteArray) : Int := match idxN l s 0 with
 | some k => k
 | none => -1
def hasS (l : List ByteArray) (s : ByteArray) : Bool := l.any fun x => strEq s x
theorem idxN_some (l : List ByteArray) (s : ByteArray) : ∀ k, (idxN l s k).isSome = hasS l s := by
 induction l with
 | nil => intro k; rfl
 | cons x t ih =>
   intro k
   rw [idxN]
   unfold hasS
   rw [List.any_cons]
   cases h : strEq s x
   · simp only [Bool.false_or]; exact ih (k + 1)
   · simp
theorem idxI_has (l : List ByteArray) (s : ByteArray) : decide (0 ≤ idxI l s) = hasS l s := by
 rw [← idxN_some l s 0]
 unfold idxI
 cases h : idxN l s 0 <;> simp
theorem drop_consS {α : Type} (xs : List α) (k : Nat) (h : k < xs.length) : xs.drop k = xs[k] :: xs.drop (k + 1) := List.drop_eq_getElem_cons h
theorem index_any (v : Value) (l : List ByteArray) (s : ByteArray) (w : World) (hv : Strs w v l) :
 Calls Tryz.prog 169 #[v, .string s] w fun e w' => e = .returned (.int .i64 (idxI l s)) ∧ w' = w := by
 obtain ⟨a, cap, rfl, _, hmax⟩ := hv.shape
 have HV := hid hv
 clear hv
 go_enter Tryz.func169, Tryz.ntmps169
 go_wp2
 go_loop [8] (fun i => ∃ (k : Nat), k ≤ l.length ∧ i = .int .i64 k ∧ Hid (idxN l s 0 = idxN (l.drop k) s k)) (fun i => l.length - (intOf i).toNat)
 case atStart => exact ⟨0, Nat.zero_le _, rfl, hid (by simp)⟩
 case round =>
  obtain ⟨k, hk, rfl, He⟩ := hrel
  by_cases hlt : k < l.length
  · obtain ⟨b, o, rfl, hcell, _⟩ := HV.out.cell k hlt
    have HD := hid (drop_consS l k hlt)
    have HN : Hid (strEq s l[k] = false → idxN l s 0 = idxN (l.drop (k + 1)) s (k + 1)) := hid fun hc => by rw [He.out, HD.out, idxN, if_neg (by rw [hc]; exact Bool.false_ne_true)]
    have HY : Hid (strEq s l[k] = true → idxI l s = k) := hid fun hc => by unfold idxI; rw [He.out, HD.out, idxN, if_pos hc]
    go_wp2
    · have ht : (s.toList == l[k].toList) = true := by assumption
      go_ret
      exact ⟨ret_int (HY.out ht).symm, rfl⟩
    · have ht : (s.toList == l[k].toList) = false := by assumption
      go_round
      case rel => exact ⟨k + 1, by omega, by go_num, hid (HN.out ht)⟩
      case measure => simp [intOf]; omega
  · have HF : Hid (idxI l s = -1) := hid (by unfold idxI; rw [He.out, List.drop_eq_nil_of_le (by omega)]; rfl)
    go_wp2
    go_ret
    exact ⟨ret_int HF.out.symm, rfl⟩
theorem contains_any (v : Value) (l : List ByteArray) (s : ByteArray) (w : World) (hv : Strs w v l) :
 Calls Tryz.prog 150 #[v, .string s] w fun e w' => e = .returned (.bool (hasS l s)) ∧ w' = w := by
 have HI := hid (index_any v l s w hv)
 have HH := hid (idxI_has l s)
 go_enter Tryz.func150, Tryz.ntmps150
 go_wp2_with fail
 refine HI.out.mono ?_
 rintro e w' ⟨rfl, rfl⟩
 go_wp2_with fail
 go_ret
 exact ⟨ret_bool HH.out, rfl⟩
theorem has_any (v : Value) (l : List ByteArray) (s : ByteArray) (w : World) (hv : Strs w v l) :
 Calls Tryz.prog 115 #[v, .string s] w fun e w' => e = .returned (.bool (hasS l s)) ∧ w' = w := by
 have HI := hid (contains_any v l s w hv)
 go_enter Tryz.func115, Tryz.ntmps115
 go_wp2_with fail
 refine HI.out.mono ?_
 rintro e w' ⟨rfl, rfl⟩
 go_wp2_with fail
 go_ret
 exact ⟨rfl, rfl⟩
def subsetS (a b : List ByteArray) : Bool := a.all fun s => hasS b s
theorem subset_any (v u : Value) (a b : List ByteArray) (w : World) (hv : Strs w v a) (hu : Strs w u b) :
 Calls Tryz.prog 116 #[v, u] w fun e w' => e = .returned (.bool (subsetS a b)) ∧ w' = w := by
 obtain ⟨ad, cap, rfl, _, hmax⟩ := hv.shape
 have HV := hid hv
 have HU := hid hu
 clear hv hu
 go_enter Tryz.func116, Tryz.ntmps116
 go_wp2
 go_loop [9] (fun i => ∃ (k : Nat), k ≤ a.length ∧ i = .int .i64 k ∧ Hid (subsetS a b = subsetS (a.drop k) b)) (fun i => a.length - (intOf i).toNat)
 case atStart => exact ⟨0, Nat.zero_le _, rfl, hid (by simp)⟩
 case round =>
  obtain ⟨k, hk, rfl, He⟩ := hrel
  by_cases hlt : k < a.length
  · obtain ⟨bb, o, rfl, hcell, _⟩ := HV.out.cell k hlt
    have HD : Hid (subsetS a b = (hasS b a[k] && subsetS (a.drop (k + 1)) b)) := hid (by rw [He.out, drop_consS a k hlt]; unfold subsetS; rw [List.all_cons])
    have HH := hid (has_any u b a[k] w HU.out)
    cases hc : hasS b a[k]
    all_goals
     have HC := hid hc
     clear hc
     go_wp2_with fail
     refine HH.out.mono ?_
     rintro e w' ⟨rfl, rfl⟩
     rw [HC.out]
    · go_wp2
      go_ret
      exact ⟨ret_bool (by rw [HD.out, HC.out]; rfl), rfl⟩
    · go_wp2
      go_round
      case rel => exact ⟨k + 1, by omega, by go_num, hid (by rw [HD.out, HC.out]; rfl)⟩
      case measure => simp [intOf]; omega
  · have HF : Hid (subsetS a b = true) := hid (by rw [He.out, List.drop_eq_nil_of_le (by omega)]; rfl)
    go_wp2
    go_ret
    exact ⟨ret_bool HF.out.symm, rfl⟩
def strLt (a b : ByteArray) : Bool := Op.bytesLess a.toList b.toList
def sortedFrom : ByteArray → List ByteArray → Bool
 | _, [] => true
 | p, x :: t => strLt p x && sortedFrom x t
def sortedB : List ByteArray → Bool
 | [] => true
 | x :: t => sortedFrom x t
theorem sorted_step (l : List ByteArray) (k : Nat) (h : k + 1 < l.length) : sortedFrom (l[k]'(by omega)) (l.drop (k + 1)) = (strLt (l[k]'(by omega)) l[k + 1] && sortedFrom l[k + 1] (l.drop (k + 2))) := by
  rw [drop_consS l (k + 1) h, sortedFrom]
theorem sorted_any (v : Value) (l : List ByteArray) (w : World) (hv : Strs w v l) :
 Calls Tryz.prog 113 #[v] w fun e w' => e = .returned (.bool (sortedB l)) ∧ ∃ n, w' = w.drewN n := by
 obtain ⟨ad, cap, rfl, _, hmax⟩ := hv.shape
 have HV := hid hv
 clear hv
 by_cases h0 : l.length = 0
 · have HB : Hid (sortedB l = true) := hid (by rw [List.eq_nil_of_length_eq_zero h0]; rfl)
   have h0' : l.length ≤ 0 := by omega
   have Hl := hid h0
   clear h0
   go_enter Tryz.func113, Tryz.ntmps113
   go_wp2
   refine wp_loop_rounds 1 ?_
   rw [rounds_succ]
   go_wp2
   go_ret
   exact ⟨ret_bool HB.out.symm, 0, rfl⟩
 go_enter Tryz.func113, Tryz.ntmps113
 go_wp2
 go_loopw [3] (fun i wr => ∃ (k : Nat), k < l.length ∧ i = .int .i64 ((k : Int) + 1) ∧ Hid ((∃ n, wr = w.drewN n) ∧ ∀ h : k < l.length, sortedB l = sortedFrom l[k] (l.drop (k + 1)))) (fun i _ => l.length + 1 - (intOf i).toNat)
 case atStart => exact ⟨0, by omega, rfl, hid ⟨⟨0, rfl⟩, fun h => by cases l <;> first | rfl | simp at h⟩⟩
 case round =>
  obtain ⟨k, hk, rfl, HR⟩ := hrel
  by_cases hlt : k + 1 < l.length
  · obtain ⟨b, o, rfl, hc0, _⟩ := HV.out.cell k hk
    obtain ⟨b', o', heq, hc1, _⟩ := HV.out.cell (k + 1) hlt
    cases heq
    have hcell : wr.cell? ⟨b, o + k, none⟩ = some (.string l[k]) := by obtain ⟨⟨n, rfl⟩, _⟩ := HR.out; exact hc0
    have hcell1 : wr.cell? ⟨b, o + (k + 1), none⟩ = some (.string l[k + 1]) := by obtain ⟨⟨n, rfl⟩, _⟩ := HR.out; exact hc1
    have HS : Hid (sortedB l = (strLt l[k] l[k + 1] && sortedFrom l[k + 1] (l.drop (k + 2)))) := hid (by rw [HR.out.2 hk, sorted_step l k hlt])
    have hw1 : IntKind.i64.wrap ((k : Int) + 1 - 1) = (k : Int) := by rw [show (k : Int) + 1 - 1 = k by omega]; exact IntWalk.i64_in _ (by omega)
    have e1 : ((k : Int) + 1 - 1) = (k : Int) := by omega
    have hk0 : (0 : Int) ≤ (k : Int) := by omega
    have hk1 : (k : Int) < (l.length : Int) := by omega
    have hk2 : (k : Int) + 1 < (l.length : Int) := by omega
    have hk3 : ((k : Int) + 1).toNat = k + 1 := by omega
    clear hc0 hc1
    cases hc : strLt l[k] l[k + 1]
    all_goals
     have HC := hid hc
     have hb : Op.bytesLess l[k].toList l[k + 1].toList = _ := hc
     clear hc
     go_wp2
     go_quiet (fail)
     go_wp2
    · go_ret
      exact ⟨ret_bool (by rw [HS.out, HC.out]; rfl), by obtain ⟨⟨n, rfl⟩, _⟩ := HR.out; exact ⟨n + nq, by rw [World.drewN_drewN]⟩⟩
    · go_roundw
      case rel => exact ⟨k + 1, hlt, by go_num, hid ⟨by obtain ⟨⟨n, rfl⟩, _⟩ := HR.out; exact ⟨n + nq, by rw [World.drewN_drewN]⟩, fun h => by rw [HS.out, HC.out]; rfl⟩⟩
      case measure => simp [intOf]; omega
  · have HB : Hid (sortedB l = true) := hid (by rw [HR.out.2 hk, List.drop_eq_nil_of_le (by omega)]; rfl)
    go_wp2
    go_ret
    exact ⟨ret_bool HB.out.symm, HR.out.1⟩
def nameB (s : ByteArray) : Bool := decide (1 ≤ s.size ∧ s.size ≤ 16) && (decide ((97 : Int) ≤ ((s.data.toList.getD 0 0).toNat : Int) ∧ ((s.data.toList.getD 0 0).toNat : Int) ≤ 122) && s.data.toList.all fun c => wordB c.toNat)
theorem nameB_drop (s : ByteArray) (k : Nat) (h : k < s.size) : (s.data.toList.drop k).all (fun c => wordB c.toNat) = (wordB s[k].toNat && (s.data.toList.drop (k + 1)).all fun c => wordB c.toNat) := by
  rw [drop_consS s.data.toList k h, List.all_cons]
  rfl
theorem nameValid_any (s : ByteArray) (w : World) (hs : s.size ≤ maxLen) : Calls Tryz.prog 114 #[.string s] w fun e w' => e = .returned (.bool (nameB s)) ∧ w' = w := by
  unfold maxLen at hs
  have hsz : s.data.toList.length = s.size := rfl
  by_cases h0 : s.size = 0
  · have HB : Hid (nameB s = false) := hid (by unfold nameB; rw [decide_eq_false (show ¬ (1 ≤ s.size ∧ s.size ≤ 16) by omega), Bool.false_and])
    have e0 : ((s.size : Int) == 0) = true := by rw [h0]; rfl
    have Hs := hid h0
    clear h0 hsz
    go_enter Tryz.func114, Tryz.ntmps114
    go_wp2
    go_ret
    exact ⟨ret_bool HB.out.symm, rfl⟩
  have hne : ¬ s = ByteArray.empty := fun h => h0 (by rw [h]; rfl)
  have e0 : ((s.size : Int) == 0) = false := by rw [beq_eq_false_iff_ne]; omega
  have hlt : 0 < s.size := by omega
  by_cases h16 : 16 < s.size
  · have HB : Hid (nameB s = false) := hid (by unfold nameB; rw [decide_eq_false (show ¬ (1 ≤ s.size ∧ s.size ≤ 16) by omega), Bool.false_and])
    have e1 : (16 : Int) < (s.size : Int) := by omega
    clear hsz
    go_enter Tryz.func114, Tryz.ntmps114
    go_wp2
    go_ret
    exact ⟨ret_bool HB.out.symm, rfl⟩
  have h16' : (s.size : Int) ≤ 16 := by omega
  have hg : s.data.toList.getD 0 0 = s[0] := by rw [List.getD_eq_getElem?_getD, List.getElem?_eq_getElem (by omega)]; rfl
  by_cases h97 : (s[0].toNat : Int) < 97
  · have HB : Hid (nameB s = false) := hid (by unfold nameB; rw [hg, decide_eq_true (show 1 ≤ s.size ∧ s.size ≤ 16 by omega), decide_eq_false (show ¬ ((97 : Int) ≤ (s[0].toNat : Int) ∧ (s[0].toNat : Int) ≤ 122) by omega)]; rfl)
    clear hsz hg
    go_enter Tryz.func114, Tryz.ntmps114
    go_wp2
    go_ret
    exact ⟨ret_bool HB.out.symm, rfl⟩
  have h97' : (97 : Int) ≤ (s[0].toNat : Int) := by omega
  by_cases h122 : 122 < (s[0].toNat : Int)
  · have HB : Hid (nameB s = false) := hid (by unfold nameB; rw [hg, decide_eq_true (show 1 ≤ s.size ∧ s.size ≤ 16 by omega), decide_eq_false (show ¬ ((97 : Int) ≤ (s[0].toNat : Int) ∧ (s[0].toNat : Int) ≤ 122) by omega)]; rfl)
    clear hsz hg
    go_enter Tryz.func114, Tryz.ntmps114
    go_wp2
    go_ret
    exact ⟨ret_bool HB.out.symm, rfl⟩
  have h122' : (s[0].toNat : Int) ≤ 122 := by omega
  have HB : Hid (nameB s = s.data.toList.all fun c => wordB c.toNat) := hid (by unfold nameB; rw [hg, decide_eq_true (show 1 ≤ s.size ∧ s.size ≤ 16 by omega), decide_eq_true (show (97 : Int) ≤ (s[0].toNat : Int) ∧ (s[0].toNat : Int) ≤ 122 by omega), Bool.true_and, Bool.true_and])
  clear hg hsz h97 h122 h16 h0
  go_enter Tryz.func114, Tryz.ntmps114
  go_wp2
  go_loop [24] (fun i => ∃ (k : Nat), k ≤ s.size ∧ i = .int .i64 k ∧ Hid (nameB s = (s.data.toList.drop k).all fun c => wordB c.toNat)) (fun i => s.size - (intOf i).toNat)
  case atStart => exact ⟨0, Nat.zero_le _, rfl, hid (by rw [HB.out, List.drop_zero])⟩
  case round =>
   obtain ⟨k, hk, rfl, He⟩ := hrel
   by_cases hlt : k < s.size
   · have HD : Hid (nameB s = (wordB s[k].toNat && (s.data.toList.drop (k + 1)).all fun c => wordB c.toNat)) := hid (by rw [He.out, nameB_drop s k hlt])
     cases hc : wordB s[k].toNat
     all_goals
      have HC := hid hc
      clear hc
      go_wp2_with fail
      refine (wordByte_any _ _).mono ?_
      rintro e w' ⟨rfl, rfl⟩
      rw [HC.out]
     · go_wp2
       go_ret
       exact ⟨ret_bool (by rw [HD.out, HC.out]; rfl), rfl⟩
     · go_wp2
       go_round
       case rel => exact ⟨k + 1, by omega, by go_num, hid (by rw [HD.out, HC.out]; rfl)⟩
       case measure => simp [intOf]; omega
   · have HF : Hid (nameB s = true) := hid (by rw [He.out, List.drop_eq_nil_of_le (by have : s.data.toList.length = s.size := rfl; omega)]; rfl)
     go_wp2
     go_ret
     exact ⟨ret_bool HF.out.symm, rfl⟩
def whenI (b : Bool) (e : Int) : Int := if b then e else 0
theorem when_any (b : Bool) (e : Int) (w : World) : Calls Tryz.prog 149 #[.bool b, .int .i64 e] w fun r w' => r = .returned (.int .i64 (whenI b e)) ∧ w' = w := by
  cases b
  all_goals
   go_enter Tryz.func149, Tryz.ntmps149
   go_wp2
   go_ret
   exact ⟨rfl, rfl⟩
def mostN (k : Int) : Nat := if k = 6 then 8 else if k = 10 then 12 else 32
def limitsB (l : Lat) : Bool := decide (mostN l.kind < l.names.length ∨ 32 < l.rules.length)
def rangesB (l : Lat) : Bool := decide (l.hi < l.lo ∨ l.lo < -1000000000 ∨ 1000000000 < l.lo ∨ l.hi < -1000000000 ∨ 1000000000 < l.hi)
def chainsB (l : Lat) : Bool := decide (l.kind = 7) && !(match l.parts with
 | p :: _ => chainB p
 | [] => true)
theorem limits_any (l : Lat) (cs : List Value) (w : World) (hl : latRd w l cs) :
 Calls Tryz.prog 109 #[.agg cs.toArray] w fun e w' => e = .returned (.int .i64 (whenI (limitsB l) 6)) ∧ Below w.heap.size w w' := by
 obtain ⟨vn, vp, vr, rfl, hi, hns, hps, hrs⟩ := (latRd_iff _ _ _).1 hl
 obtain ⟨k, lo, hi', ns, ps, rs⟩ := l
 simp only [Lat.kind, Lat.lo, Lat.hi, Lat.names, Lat.parts, Lat.rules] at hi hns hps hrs ⊢
 obtain ⟨an, cn, rfl, _, hmn⟩ := hns.shape
 obtain ⟨ar, cr, rfl, _, hmr⟩ := hrs.shape
 have HB : Hid (∀ O, Below w.heap.size w (w.alloc O)) := hid fun O => (Below.refl _ _).alloc (Nat.le_refl _) O
 clear hl hi hns hps hrs
 have hk : (k = 6 ∧ mostN k = 8) ∨ (k = 10 ∧ mostN k = 12) ∨ ((k == 6) = false ∧ (k == 10) = false ∧ mostN k = 32) := by
  unfold mostN
  by_cases h6 : k = 6
  · left; simp [h6]
  · by_cases h10 : k = 10
    · right; left; simp [h10]
    · right; right; simp [h6, h10]
 rcases hk with ⟨rfl, hm⟩ | ⟨rfl, hm⟩ | ⟨e1, e2, hm⟩
 all_goals
  have HM := hid hm
  clear hm
  go_enter Tryz.func109, Tryz.ntmps109
  go_wp2_with fail
  all_goals
   refine (when_any _ _ _).mono ?_
   rintro e w' ⟨rfl, rfl⟩
   go_wp2_with fail
   go_ret
   refine ⟨ret_int (congrArg (whenI · 6) ?_), HB.out _⟩
   refine Bool.eq_iff_iff.2 ?_
   unfold limitsB
   simp only [Lat.kind, Lat.names, Lat.rules, Bool.or_eq_true, decide_eq_true_eq, HM.out, eq_self, true_iff, Bool.false_eq_true, false_iff] <;> omega
theorem ranges_any (l : Lat) (cs : List Value) (w : World) (hl : latRd w l cs) :
 Calls Tryz.prog 111 #[.agg cs.toArray] w fun e w' => e = .returned (.int .i64 (whenI (rangesB l) 5)) ∧ Below w.heap.size w w' := by
 obtain ⟨vn, vp, vr, rfl, hi, hns, hps, hrs⟩ := (latRd_iff _ _ _).1 hl
 obtain ⟨k, lo, hi', ns, ps, rs⟩ := l
 simp only [Lat.kind, Lat.lo, Lat.hi, Lat.names, Lat.parts, Lat.rules] at hi hns hps hrs ⊢
 obtain ⟨an, cn, rfl, _, hmn⟩ := hns.shape
 obtain ⟨ar, cr, rfl, _, hmr⟩ := hrs.shape
 have HB : Hid (∀ O, Below w.heap.size w (w.alloc O)) := hid fun O => (Below.refl _ _).alloc (Nat.le_refl _) O
 clear hl hi hns hps hrs
 go_enter Tryz.func111, Tryz.ntmps111
 go_wp2_with fail
 all_goals
  refine (when_any _ _ _).mono ?_
  rintro e w' ⟨rfl, rfl⟩
  go_wp2_with fail
  go_ret
  refine ⟨ret_int (congrArg (whenI · 5) ?_), HB.out _⟩
  refine Bool.eq_iff_iff.2 ?_
  refine Iff.trans ?_ (decide_eq_true_iff).symm
  show _ ↔ (hi' < lo ∨ lo < -1000000000 ∨ 1000000000 < lo ∨ hi' < -1000000000 ∨ 1000000000 < hi')
  simp only [Bool.or_eq_true, decide_eq_true_eq, eq_self, true_iff, Bool.false_eq_true, false_iff] <;> omega
theorem chains_any (l : Lat) (cs : List Value) (w : World) (hl : latRd w l cs) (h7 : l.kind = 7 → l.parts.length = 2) :
 Calls Tryz.prog 112 #[.agg cs.toArray] w fun e w' => e = .returned (.int .i64 (whenI (chainsB l) 4)) ∧ Below w.heap.size w w' := by
 obtain ⟨vn, vp, vr, rfl, hi, hns, hps, hrs⟩ := (latRd_iff _ _ _).1 hl
 obtain ⟨k, lo, hi', ns, ps, rs⟩ := l
 simp only [Lat.kind, Lat.lo, Lat.hi, Lat.names, Lat.parts, Lat.rules] at hi hns hps hrs ⊢
 obtain ⟨an, cn, rfl, _, hmn⟩ := hns.shape
 obtain ⟨ar, cr, rfl, _, hmr⟩ := hrs.shape
 have HB : Hid (∀ O, Below w.heap.size w (w.alloc O)) := hid fun O => (Below.refl _ _).alloc (Nat.le_refl _) O
 by_cases hk : k = 7
 · subst hk
   obtain ⟨p, q, rfl⟩ : ∃ p q, ps = [p, q] := by
    match ps, h7 rfl with
    | [p, q], _ => exact ⟨p, q, rfl⟩
   obtain ⟨a', cp', rfl, _, _, hcell⟩ := hps
   obtain ⟨b, o, cs0, hab, hl0, hc0, hr0⟩ := hcell 0 (by simp)
   subst hab
   simp only [List.getElem_cons_zero] at hr0
   have Hr0 := hid hr0
   obtain ⟨n0, p0, r0, rfl, _⟩ := (latRd_iff _ _ _).1 hr0
   simp only [Nat.zero_mul, Nat.add_zero] at hc0
   obtain ⟨f0, f1, f2, f3, f4, f5⟩ := hc0.six_alloc
   have HC : Hid (chainsB (.mk 7 lo hi' ns [p, q] rs) = !chainB p) := hid (by unfold chainsB; simp [Lat.kind, Lat.parts])
   clear hl hi hns hrs hcell hc0 hr0 h7
   go_enter Tryz.func112, Tryz.ntmps112
   go_wp2_with fail
   refine (chain_any _ p [.int .i64 p.kind, .int .i64 p.lo, .int .i64 p.hi, n0, p0, r0] _ (Nat.le_refl _) (latRd.below (HB.out _) _ _ Hr0.out)).mono ?_
   rintro e w1 ⟨rfl, hb1⟩
   have HB1 := hid ((HB.out _).trans (hb1.mono (by simp)))
   clear hb1
   go_wp2_with fail
   refine (when_any _ _ _).mono ?_
   rintro e w' ⟨rfl, rfl⟩
   go_wp2_with fail
   go_ret
   exact ⟨ret_int (by rw [HC.out]), HB1.out⟩
 · have e1 : (k == 7) = false := by simp; omega
   have HC : Hid (chainsB (.mk k lo hi' ns ps rs) = false) := hid (by unfold chainsB; simp [Lat.kind, hk])
   clear hl hi hns hps hrs h7 hk
   go_enter Tryz.func112, Tryz.ntmps112
   go_wp2_with fail
   refine (when_any _ _ _).mono ?_
   rintro e w' ⟨rfl, rfl⟩
   go_wp2_with fail
   go_ret
   exact ⟨ret_int (by rw [HC.out]), HB.out _⟩
def orI : List Int → Int
 | [] => 0
 | x :: t => if x = 0 then orI t else x
def I64s (w : World) (v : Value) (l : List Int) : Prop := SlRd w 1 (fun x cs => cs = [.int .i64 x]) v l
theorem I64s.cell {w : World} {a : Option Addr} {n cap : Nat} {l : List Int} (h : I64s w (.slice a n cap) l) (i : Nat) (hi : i < l.length) : ∃ b o, a = some ⟨b, o, none⟩ ∧ w.cell? ⟨b, o + i, none⟩ = some (.int .i64 l[i]) := by
 obtain ⟨a', cap', hv, hn, hm, hc⟩ := h
 cases hv
 obtain ⟨b, o, cs, ha, hl, hcs, hr⟩ := hc i hi
 subst hr
 exact ⟨b, o, ha, by simpa using hcs 0 (by simp)⟩
theorem orErr_any (v : Value) (l : List Int) (w : World) (hv : I64s w v l) :
 Calls Tryz.prog 108 #[v] w fun e w' => e = .returned (.int .i64 (orI l)) ∧ w' = w := by
 obtain ⟨a, cap, rfl, _, hmax⟩ := hv.shape
 have HV := hid hv
 clear hv
 go_enter Tryz.func108, Tryz.ntmps108
 go_wp2
 go_loop [8] (fun i => ∃ (k : Nat), k ≤ l.length ∧ i = .int .i64 k ∧ Hid (orI l = orI (l.drop k))) (fun i => l.length - (intOf i).toNat)
 case atStart => exact ⟨0, Nat.zero_le _, rfl, hid (by simp)⟩
 case round =>
  obtain ⟨k, hk, rfl, He⟩ := hrel
  by_cases hlt : k < l.length
  · obtain ⟨b, o, rfl, hcell⟩ := HV.out.cell k hlt
    have HD : Hid (orI l = if l[k] = 0 then orI (l.drop (k + 1)) else l[k]) := hid (by rw [He.out, drop_consS l k hlt, orI])
    cases hz : (l[k] != 0)
    · have HZ : Hid (l[k] = 0) := hid (by simpa using hz)
      go_wp2
      go_round
      case rel => exact ⟨k + 1, by omega, by go_num, hid (by rw [HD.out, if_pos HZ.out])⟩
      case measure => simp [intOf]; omega
    · have HZ : Hid (¬ l[k] = 0) := hid (by simpa using hz)
      go_wp2
      go_ret
      exact ⟨ret_int (by rw [HD.out, if_neg HZ.out]), rfl⟩
  · have HF : Hid (orI l = 0) := hid (by rw [He.out, List.drop_eq_nil_of_le (by omega)]; rfl)
    go_wp2
    go_ret
    exact ⟨ret_int HF.out.symm, rfl⟩
def kindI (k : Int) (n : Nat) : Option (Nat × Bool × Bool × Bool) :=
 if k = 1 ∨ k = 9 then some (0, false, false, false) else if k = 2 ∨ k = 3 then some (0, false, false, true)
 else if k = 4 ∨ k = 8 then some (0, true, false, false) else if k = 5 then some (1, true, false, false)
 else if k = 7 then some (2, false, false, false) else if k = 6 then some (n, true, false, false)
 else if k = 10 then some (0, true, true, false) else none
def shapeC (k lo hi : Int) (nn np nr : Nat) : Bool := match kindI k nn with
 | none => true
 | some (p, named, ruled, ranged) => decide (np ≠ p) || (!named && decide (0 < nn)) || (!ruled && decide (0 < nr)) || (!ranged && decide (lo ≠ 0 ∨ hi ≠ 0)) || (decide (k = 6 ∨ k = 10) && decide (nn = 0))
def shapeB (l : Lat) : Bool := shapeC l.kind l.lo l.hi l.names.length l.parts.length l.rules.length
end Go.Proofs.YtmdjnaobllajmaaGreatDoor
