/-
  What the statements of the chapter share, part 01: VBase.
-/
import Derived.Test.YtbhkcbidcfofiaaGreatRows
import Derived.BigQuiet
import Derived.Deep.AppendLies
import Derived.Deep.QuietTactic
import Derived.Deep.RegionHeld3
import Derived.Deep.RegionLaw
import Derived.Deep.RegionWith
import Derived.Laws.AppendOwnNone
import Derived.Laws.Pointers
import Derived.OneCell
import Derived.OwnWalk
import Derived.StillTactics
import Derived.WalkKit
import Derived.WalkLawsBesides
import Derived.WalkSpells
set_option linter.unusedVariables false
set_option linter.unusedSimpArgs false
set_option maxRecDepth 100000
set_option maxHeartbeats 8000000
namespace Go.Proofs.YtbhkcbidcfofiaaGreat
open _root_.List renaming sizeOf_lt_of_mem → Z0
open Go.RowKit
section
theorem hid {p : Prop} (h : p) : Hid p := h
def CellsAt (w : World) (b o : Nat) (cs : List Value) : Prop := ∀ j (h : j < cs.length), w.cell? ⟨b, o + j, none⟩ = some cs[j]
theorem CellsAt.below {w w' : World} {b o : Nat} {cs : List Value} (h : CellsAt w b o cs) (hb : Below w.heap.size w w') : CellsAt w' b o cs :=
 fun j hj => (hb.cell (World.block_lt_of_cell? w _ (h j hj))).trans (h j hj)
def SlRd {α : Type} (w : World) (sz : Nat) (R : α → List Value → Prop) (v : Value) (l : List α) : Prop :=
 ∃ a cap, v = .slice a l.length cap ∧ ((a = none → cap = 0) ∧ l.length ≤ cap) ∧ cap ≤ maxLen ∧
   ∀ i (h : i < l.length), ∃ b o cs, a = some ⟨b, o, none⟩ ∧ cs.length = sz ∧ CellsAt w b (o + i * sz) cs ∧ R l[i] cs
theorem SlRd.below {α : Type} {w w' : World} {sz : Nat} {R R' : α → List Value → Prop} {v : Value} {l : List α} (h : SlRd w sz R v l) (hb : Below w.heap.size w w') (hR : ∀ x cs, x ∈ l → R x cs → R' x cs) : SlRd w' sz R' v l := by
 obtain ⟨a, cap, hv, hn, hm, hc⟩ := h
 refine ⟨a, cap, hv, hn, hm, fun i hi => ?_⟩
 obtain ⟨b, o, cs, ha, hl, hcs, hr⟩ := hc i hi
 exact ⟨b, o, cs, ha, hl, hcs.below hb, hR _ _ (List.getElem_mem hi) hr⟩
def strRd (s : ByteArray) (cs : List Value) : Prop := cs = [.string s] ∧ s.size ≤ maxLen
def Strs (w : World) (v : Value) (l : List ByteArray) : Prop := SlRd w 1 strRd v l
theorem Strs.below {w w' : World} {v : Value} {l : List ByteArray} (h : Strs w v l) (hb : Below w.heap.size w w') : Strs w' v l := SlRd.below h hb fun _ _ _ h => h
theorem Strs.cell {w : World} {a : Option Addr} {n cap : Nat} {l : List ByteArray} (h : Strs w (.slice a n cap) l) (i : Nat) (hi : i < l.length) : ∃ b o, a = some ⟨b, o, none⟩ ∧ w.cell? ⟨b, o + i, none⟩ = some (.string l[i]) ∧ l[i].size ≤ maxLen := by
 obtain ⟨a', cap', hv, hn, hm, hc⟩ := h
 cases hv
 obtain ⟨b, o, cs, ha, hl, hcs, hr, hs⟩ := hc i hi
 subst hr
 exact ⟨b, o, ha, by simpa using hcs 0 (by simp), hs⟩
structure Rl where
 cond : List ByteArray
 concl : ByteArray
def ruleRd (w : World) (r : Rl) (cs : List Value) : Prop := ∃ v, cs = [v, .string r.concl] ∧ Strs w v r.cond ∧ r.concl.size ≤ maxLen
theorem ruleRd.below {w w' : World} {r : Rl} {cs : List Value} (h : ruleRd w r cs) (hb : Below w.heap.size w w') : ruleRd w' r cs := by
 obtain ⟨v, hv, hs, hm⟩ := h
 exact ⟨v, hv, hs.below hb, hm⟩
def I64 (n : Int) : Prop := -9223372036854775808 ≤ n ∧ n ≤ 9223372036854775807
inductive Lat where
 | mk (kind lo hi : Int) (names : List ByteArray) (parts : List Lat) (rules : List Rl)
namespace Lat
def kind : Lat → Int | mk k _ _ _ _ _ => k
def lo : Lat → Int | mk _ x _ _ _ _ => x
def hi : Lat → Int | mk _ _ x _ _ _ => x
def names : Lat → List ByteArray | mk _ _ _ x _ _ => x
def parts : Lat → List Lat | mk _ _ _ _ x _ => x
def rules : Lat → List Rl | mk _ _ _ _ _ x => x
end Lat
def latRd (w : World) : Lat → List Value → Prop
 | .mk k lo hi ns ps rs, cs => ∃ vn vp vr, cs = [.int .i64 k, .int .i64 lo, .int .i64 hi, vn, vp, vr] ∧ (I64 k ∧ I64 lo ∧ I64 hi) ∧ Strs w vn ns ∧
     SlRd w 6 (fun (p : {x // x ∈ ps}) cs => latRd w p.1 cs) vp ps.attach ∧ SlRd w 2 (ruleRd w) vr rs
 termination_by l => SizeOf.sizeOf l
 decreasing_by
  have := Z0 p.2
  simp only [Lat.mk.sizeOf_spec]
  omega
theorem SlRd.unattach {α : Type} {w : World} {sz : Nat} {R : α → List Value → Prop} {v : Value} {l : List α} : SlRd w sz (fun (p : {x // x ∈ l}) cs => R p.1 cs) v l.attach ↔ SlRd w sz R v l := by
  unfold SlRd
  simp only [List.length_attach, List.getElem_attach]
theorem Zq1 (w : World) (l : Lat) (cs : List Value) : latRd w l cs ↔ ∃ vn vp vr, cs = [.int .i64 l.kind, .int .i64 l.lo, .int .i64 l.hi, vn, vp, vr] ∧ (I64 l.kind ∧ I64 l.lo ∧ I64 l.hi) ∧ Strs w vn l.names ∧
 SlRd w 6 (latRd w) vp l.parts ∧ SlRd w 2 (ruleRd w) vr l.rules := by
 cases l with
 | mk k lo hi ns ps rs =>
   rw [latRd]
   simp only [Lat.kind, Lat.lo, Lat.hi, Lat.names, Lat.parts, Lat.rules]
   constructor
   · rintro ⟨vn, vp, vr, h1, h2, h3, h4, h5⟩
     exact ⟨vn, vp, vr, h1, h2, h3, SlRd.unattach.1 h4, h5⟩
   · rintro ⟨vn, vp, vr, h1, h2, h3, h4, h5⟩
     exact ⟨vn, vp, vr, h1, h2, h3, SlRd.unattach.2 h4, h5⟩
theorem latRd.below {w w' : World} (hb : Below w.heap.size w w') : ∀ (l : Lat) (cs : List Value), latRd w l cs → latRd w' l cs
 | .mk k lo hi ns ps rs, cs, h => by
   obtain ⟨vn, vp, vr, h1, h2, h3, h4, h5⟩ := (Zq1 _ _ _).1 h
   refine (Zq1 _ _ _).2 ⟨vn, vp, vr, h1, h2, h3.below hb, ?_, SlRd.below h5 hb fun _ _ _ h => h.below hb⟩
   refine SlRd.below h4 hb fun x cs hx hr => latRd.below hb x cs hr
 termination_by l => SizeOf.sizeOf l
 decreasing_by
  have := Z0 hx
  simp only [Lat.parts] at this
  simp only [Lat.mk.sizeOf_spec]
  omega
structure Tk where
 process : Int
 n : Int
structure En where
 clock : List Tk
 name : ByteArray
def tickRd (t : Tk) (cs : List Value) : Prop := cs = [.int .i64 t.process, .int .i64 t.n] ∧ I64 t.process ∧ I64 t.n
def entryRd (w : World) (e : En) (cs : List Value) : Prop := ∃ v, cs = [v, .string e.name] ∧ SlRd w 2 tickRd v e.clock ∧ e.name.size ≤ maxLen
theorem entryRd.below {w w' : World} {r : En} {cs : List Value} (h : entryRd w r cs) (hb : Below w.heap.size w w') : entryRd w' r cs := by
 obtain ⟨v, hv, hs, hm⟩ := h
 exact ⟨v, hv, SlRd.below hs hb fun _ _ _ h => h, hm⟩
inductive Val where
 | mk (n : Int) (names : List ByteArray) (parts : List Val) (entries : List En)
namespace Val
def n : Val → Int | mk x _ _ _ => x
def names : Val → List ByteArray | mk _ x _ _ => x
def parts : Val → List Val | mk _ _ x _ => x
def entries : Val → List En | mk _ _ _ x => x
end Val
def valRd (w : World) : Val → List Value → Prop
 | .mk n ns ps es, cs => ∃ vn vp ve, cs = [.int .i64 n, vn, vp, ve] ∧ I64 n ∧ Strs w vn ns ∧
     SlRd w 4 (fun (p : {x // x ∈ ps}) cs => valRd w p.1 cs) vp ps.attach ∧ SlRd w 2 (entryRd w) ve es
 termination_by l => SizeOf.sizeOf l
 decreasing_by
  have := Z0 p.2
  simp only [Val.mk.sizeOf_spec]
  omega
theorem Zn4 (w : World) (l : Val) (cs : List Value) : valRd w l cs ↔ ∃ vn vp ve, cs = [.int .i64 l.n, vn, vp, ve] ∧ I64 l.n ∧ Strs w vn l.names ∧ SlRd w 4 (valRd w) vp l.parts ∧ SlRd w 2 (entryRd w) ve l.entries := by
 cases l with
 | mk n ns ps es =>
   rw [valRd]
   simp only [Val.n, Val.names, Val.parts, Val.entries]
   constructor
   · rintro ⟨vn, vp, vr, h1, h2, h3, h4, h5⟩
     exact ⟨vn, vp, vr, h1, h2, h3, SlRd.unattach.1 h4, h5⟩
   · rintro ⟨vn, vp, vr, h1, h2, h3, h4, h5⟩
     exact ⟨vn, vp, vr, h1, h2, h3, SlRd.unattach.2 h4, h5⟩
theorem valRd.below {w w' : World} (hb : Below w.heap.size w w') : ∀ (l : Val) (cs : List Value), valRd w l cs → valRd w' l cs
 | .mk n ns ps es, cs, h => by
   obtain ⟨vn, vp, vr, h1, h2, h3, h4, h5⟩ := (Zn4 _ _ _).1 h
   refine (Zn4 _ _ _).2 ⟨vn, vp, vr, h1, h2, h3.below hb, ?_, SlRd.below h5 hb fun _ _ _ h => h.below hb⟩
   refine SlRd.below h4 hb fun x cs hx hr => valRd.below hb x cs hr
 termination_by l => SizeOf.sizeOf l
 decreasing_by
  have := Z0 hx
  simp only [Val.parts] at this
  simp only [Val.mk.sizeOf_spec]
  omega
end
end Go.Proofs.YtbhkcbidcfofiaaGreat
