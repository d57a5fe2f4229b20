/-
  What the statements of the chapter share, part 09: VTri, VRws2, VWr.
-/
import Derived.Test.YtmdjnaobllajmaaGreatDoorT05
import Derived.Test.YtmdjnaobllajmaaGreatDoorT07
import Derived.Test.YtmdjnaobllajmaaGreatDoorT08
set_option linter.unusedVariables false
set_option linter.unusedSimpArgs false
set_option maxRecDepth 100000
set_option maxHeartbeats 8000000
namespace Go.Proofs.YtmdjnaobllajmaaGreatDoor
open Go.RowKit
mutual
def trivB : Lat → Bool
 | .mk k lo hi _ ps _ => if k = 2 ∨ k = 3 then decide (lo = hi) else if k = 5 ∨ k = 6 ∨ k = 7 then trivBs ps else false
def trivBs : List Lat → Bool
 | [] => true
 | p :: t => trivB p && trivBs t
end
def idxT : List Lat → Nat → Int
 | [], _ => -1
 | p :: t, k => if trivB p then idxT t (k + 1) else k
theorem idxT_cases : ∀ (l : List Lat) (k : Nat), (idxT l k = -1 ∧ trivBs l = true) ∨ (0 ≤ idxT l k ∧ trivBs l = false)
 | [], k => .inl ⟨rfl, by rw [trivBs]⟩
 | p :: t, k => by
   rw [idxT, trivBs]
   cases h : trivB p
   · rw [if_neg (by decide)]
     exact .inr ⟨by omega, rfl⟩
   · rw [if_pos (by rfl), Bool.true_and]
     exact idxT_cases t (k + 1)
theorem idxT_geq (l : List Lat) : (decide ((0 : Int) ≤ idxT l 0)) = !trivBs l := by
 rcases idxT_cases l 0 with ⟨h, h'⟩ | ⟨h, h'⟩
 · rw [h, h']; rfl
 · rw [h', decide_eq_true h]; rfl
theorem idxT_drop (l : List Lat) (j : Nat) (h : j < l.length) : idxT (l.drop j) j = if trivB l[j] then idxT (l.drop (j + 1)) (j + 1) else j := by
 rw [drop_consS l j h, idxT]
def TrivOk (l : Lat) : Prop := ∀ (cl : List Value) (w : World), latRd w l cl → Calls Tryz.prog 72 #[.agg cl.toArray] w fun e w' => e = .returned (.bool (trivB l)) ∧ Below w.heap.size w w'
theorem trivF_any (l : Lat) (ih : TrivOk l) (cl : List Value) (w : World) (hl : latRd w l cl) : Calls Tryz.prog 126 #[.agg cl.toArray] w fun e w' => e = .returned (.bool (!trivB l)) ∧ Below w.heap.size w w' := by
  have HC := hid fun (W : World) (h : Below w.heap.size w W) => ih cl W (latRd.below h _ _ hl)
  have HB : Hid (∀ O, Below w.heap.size w (w.alloc O)) := hid fun O => (Below.refl _ _).alloc (Nat.le_refl _) O
  obtain ⟨aln, cln, alp, clp, alr, clr, rfl, hli, hln, hlp, hlr, ⟨_, mln⟩, ⟨_, mlp⟩, _, mlr⟩ := latRd.lay hl
  clear hl hli hln hlp hlr ih
  generalize trivB l = T at HC ⊢
  go_enter Tryz.func126, Tryz.ntmps126
  go_wp2_with fail
  refine (HC.out _ (HB.out _)).mono ?_
  rintro e w1 ⟨rfl, hb1⟩
  have HB1 := hid ((HB.out _).trans (hb1.mono (HB.out _).size))
  clear hb1
  go_wp2_with fail
  go_ret
  exact ⟨rfl, HB1.out⟩
theorem trivIdx_any (v : Value) (ps : List Lat) (ih : ∀ p ∈ ps, TrivOk p) (w : World) (hv : SlRd w 6 (latRd w) v ps) :
 Calls Tryz.prog 157 #[v, .func (.func 126) #[] #[]] w fun e w' => e = .returned (.int .i64 (idxT ps 0)) ∧ Below w.heap.size w w' := by
 have HV := hid hv
 have IH := hid ih
 obtain ⟨a, cp, rfl, _, hm⟩ := hv.shape
 have HE : Hid (idxT ps 0 = idxT (ps.drop 0) 0) := hid rfl
 generalize idxT ps 0 = R at HE ⊢
 clear hv ih
 go_enter Tryz.func157, Tryz.ntmps157
 go_wp2_with fail
 go_loopw [5, 8] (fun _ i wr => ∃ (j : Nat), j ≤ ps.length ∧ i = .int .i64 j ∧ Hid (Below w.heap.size w wr) ∧ Hid (R = idxT (ps.drop j) j)) (fun _ i _ => ps.length - (intOf i).toNat)
 case atStart => exact ⟨0, Nat.zero_le _, rfl, hid (Below.refl _ _), HE⟩
 case round =>
  obtain ⟨j, hj, rfl, HW, He⟩ := hrel
  by_cases hlt : j < ps.length
  · obtain ⟨b, o, cs, ha, hl0, hcs, hlp⟩ := HV.out.at j hlt
    subst ha
    have HLP := hid hlp
    obtain ⟨axn, cxn, axp, cxp, axr, cxr, rfl, hxi, hxn, hxp, hxr, ⟨_, mxn⟩, ⟨_, mxp⟩, _, mxr⟩ := latRd.lay hlp
    obtain ⟨f0, f1, f2, f3, f4, f5⟩ := (hcs.below HW.out).six
    have HS : Hid (R = if trivB ps[j] then idxT (ps.drop (j + 1)) (j + 1) else j) := hid (by rw [He.out, idxT_drop ps j hlt])
    clear hlp hcs hxi hxn hxp hxr
    go_wp2_with fail
    refine (trivF_any ps[j] (IH.out _ (List.getElem_mem hlt)) [.int .i64 ps[j].kind, .int .i64 ps[j].lo, .int .i64 ps[j].hi, .slice axn ps[j].names.length cxn, .slice axp ps[j].parts.length cxp, .slice axr ps[j].rules.length cxr] _ (latRd.below HW.out _ _ HLP.out)).mono ?_
    rintro e w1 ⟨rfl, hb1⟩
    have HW1 : Hid (Below w.heap.size w w1) := hid (HW.out.trans (hb1.mono HW.out.size))
    clear hb1 f0 f1 f2 f3 f4 f5
    cases ht : trivB ps[j]
    · have HR : Hid (R = j) := hid (by rw [HS.out, ht]; rfl)
      clear ht
      go_wp2_with fail
      go_ret
      exact ⟨ret_int HR.out.symm, HW1.out⟩
    · have HR : Hid (R = idxT (ps.drop (j + 1)) (j + 1)) := hid (by rw [HS.out, ht]; rfl)
      clear ht
      go_wp2_with fail
      go_roundw
      case rel => exact ⟨j + 1, by omega, by go_num, HW1, HR⟩
      case measure => simp [intOf]; omega
  · have HR : Hid (R = -1) := hid (by rw [He.out, show ps.drop j = [] from List.drop_eq_nil_of_le (by omega)]; rfl)
    go_wp2_with fail
    go_ret
    exact ⟨ret_int HR.out.symm, HW.out⟩
theorem trivHas_any (v : Value) (ps : List Lat) (ih : ∀ p ∈ ps, TrivOk p) (w : World) (hv : SlRd w 6 (latRd w) v ps) :
 Calls Tryz.prog 125 #[v, .func (.func 126) #[] #[]] w fun e w' => e = .returned (.bool (!trivBs ps)) ∧ Below w.heap.size w w' := by
 have HC := hid (trivIdx_any v ps ih w hv)
 have HG := hid (idxT_geq ps)
 obtain ⟨a, cp, rfl, _, hm⟩ := hv.shape
 clear hv ih
 generalize trivBs ps = T at HG ⊢
 generalize idxT ps 0 = I at HC HG
 go_enter Tryz.func125, Tryz.ntmps125
 go_wp2_with fail
 refine HC.out.mono ?_
 rintro e w1 ⟨rfl, hb1⟩
 have HB1 := hid hb1
 clear hb1
 go_wp2_with fail
 go_ret
 exact ⟨by rw [← HG.out]; simp, HB1.out⟩
theorem sizeOf_lp {l p : Lat} (h : p ∈ l.parts) : SizeOf.sizeOf p < SizeOf.sizeOf l := by
 cases l
 have := List.sizeOf_lt_of_mem h
 simp only [Lat.parts] at this
 simp only [Lat.mk.sizeOf_spec]
 omega
theorem beqI' (a b : Int) : (a == b) = decide (a = b) := by
 by_cases h : a = b
 · subst h; simp
 · rw [decide_eq_false h]; simpa using h
theorem trivial_any (f : Nat) : ∀ l : Lat, SizeOf.sizeOf l ≤ f → TrivOk l := by
 induction f with
 | zero => intro l hn; cases l; simp at hn
 | succ f ih =>
   intro l hn cl w hl
   have IH : Hid (∀ p ∈ l.parts, TrivOk p) := hid fun p hp => ih p (by have := sizeOf_lp hp; omega)
   obtain ⟨aln, cln, alp, clp, alr, clr, rfl, hli, hln, hlp, hlr, ⟨_, mln⟩, ⟨_, mlp⟩, _, mlr⟩ := latRd.lay hl
   obtain ⟨k, lo, hi, ns, ps, rs⟩ := l
   simp only [Lat.kind, Lat.lo, Lat.hi, Lat.names, Lat.parts, Lat.rules] at hli hln hlp hlr mln mlp mlr IH ⊢
   have HPS := hid hlp
   have HT : Hid (trivB (.mk k lo hi ns ps rs) = if k = 2 ∨ k = 3 then decide (lo = hi) else if k = 5 ∨ k = 6 ∨ k = 7 then trivBs ps else false) := hid (by rw [trivB])
   generalize trivB (.mk k lo hi ns ps rs) = T at HT ⊢
   clear hl hn ih hli hln hlp hlr
   have HB : Hid (∀ O, Below w.heap.size w (w.alloc O)) := hid fun O => (Below.refl _ _).alloc (Nat.le_refl _) O
   by_cases h23 : k = 2 ∨ k = 3
   · have HR : Hid (T = decide (lo = hi)) := hid (by rw [HT.out, if_pos h23])
     clear HT
     rcases h23 with rfl | rfl
     all_goals
      go_enter Tryz.func72, Tryz.ntmps72
      go_wp2_with fail
      go_ret
      exact ⟨ret_bool (by rw [HR.out, ← beqI']), HB.out _⟩
   by_cases h567 : k = 5 ∨ k = 6 ∨ k = 7
   · have HR : Hid (T = trivBs ps) := hid (by rw [HT.out, if_neg h23, if_pos h567])
     clear HT h23
     have HC : Hid (∀ W, Below w.heap.size w W → Calls Tryz.prog 125 #[.slice alp ps.length clp, .func (.func 126) #[] #[]] W fun e w' => e = .returned (.bool (!T)) ∧ Below W.heap.size W w') := hid fun W h => by
       rw [HR.out]
       exact trivHas_any _ ps IH.out W (SlRd.below HPS.out h fun _ _ _ h' => latRd.below h _ _ h')
     clear HR
     rcases h567 with rfl | rfl | rfl
     all_goals
      go_enter Tryz.func72, Tryz.ntmps72
      go_wp2_with fail
      refine (HC.out _ (HB.out _)).mono ?_
      rintro e w1 ⟨rfl, hb1⟩
      have HB1 := hid ((HB.out _).trans (hb1.mono (HB.out _).size))
      clear hb1
      go_wp2_with fail
      go_ret
      exact ⟨by simp, HB1.out⟩
   · have HR : Hid (T = false) := hid (by rw [HT.out, if_neg h23, if_neg h567])
     have e2 : (k == 2) = false := by simp; omega
     have e3 : (k == 3) = false := by simp; omega
     have e5 : (k == 5) = false := by simp; omega
     have e6 : (k == 6) = false := by simp; omega
     have e7 : (k == 7) = false := by simp; omega
     clear h23 h567 HT
     go_enter Tryz.func72, Tryz.ntmps72
     go_wp2_with fail
     go_ret
     exact ⟨ret_bool HR.out.symm, HB.out _⟩
def butTwo (n : Nat) (v u : Value) : Nat → Bool := fun b => decide (n ≤ b) && decide (v.ownBlock ≠ some b) && decide (u.ownBlock ≠ some b)
theorem butTwo_iff {n : Nat} {v u : Value} {b : Nat} : butTwo n v u b = true ↔ n ≤ b ∧ v.ownBlock ≠ some b ∧ u.ownBlock ≠ some b := by
 unfold butTwo
 simp only [Bool.and_eq_true, decide_eq_true_eq]
 exact and_assoc
structure Rws2 {α : Type} (w : World) (base E sz : Nat) (R : World → α → List Value → Prop) (v u : Value) (l : List α) (css : List (List Value)) : Prop where
 own : w.ownsRow base E sz v l.length css.flatten
 len : css.length = l.length
 each : ∀ cs ∈ css, cs.length = sz
 read : ∀ i (h : i < l.length) (h' : i < css.length), R (only (butTwo base v u) w) l[i] css[i]
 sep : ∀ g, v.ownBlock = some g → u.ownBlock ≠ some g
theorem Rws2.nil {α : Type} (w : World) (base E sz : Nat) (R : World → α → List Value → Prop) (u : Value) : Rws2 w base E sz R (.slice none 0 0) u [] [] :=
 ⟨World.ownsRow_nil _ _ _ _, rfl, by simp, fun i h => by simp at h, fun g h => by simp [Value.ownBlock] at h⟩
theorem Rws2.one {α : Type} {w : World} {base E sz : Nat} {R : World → α → List Value → Prop} {v u : Value} {l : List α} {css : List (List Value)} (h : Rws2 w base E sz R v u l css)
 (hR : ∀ {a b : World} {x cs}, Sub a b → R a x cs → R b x cs) : Rws w base E sz R v l css :=
 ⟨h.own, h.len, h.each, fun i hi hi' => hR (only_keep fun b hb hl => by
   obtain ⟨h1, h2, _⟩ := butTwo_iff.1 hb
   refine ⟨?_, rfl⟩
   unfold butOwn
   simp only [Bool.and_eq_true, decide_eq_true_eq]
   exact ⟨h1, h2⟩) (h.read i hi hi')⟩
theorem Rws2.other {α : Type} {w w' : World} {base E sz : Nat} {R : World → α → List Value → Prop} {v u u' : Value} {l : List α} {css : List (List Value)} (h : Rws2 w base E sz R v u l css)
 (hR : ∀ {a b : World} {x cs}, Sub a b → R a x cs → R b x cs) (hk : ∀ b, base ≤ b → b < w.heap.size → u.ownBlock ≠ some b → w'.heap[b]? = w.heap[b]?) (hu : u'.ownBlock = u.ownBlock ∨ u'.ownBlock = some w.heap.size) :
 Rws2 w' base E sz R v u' l css := by
 have hne : ∀ b, b < w.heap.size → u.ownBlock ≠ some b → u'.ownBlock ≠ some b := fun b hb hn => by
   rcases hu with e | e
   · rw [e]; exact hn
   · rw [e]; intro e2; injection e2 with e2; omega
 refine ⟨owns_of_block h.own fun g hg => hk g (h.own.lt g hg).1 (h.own.lt g hg).2 (h.sep g hg), h.len, h.each, fun i hi hi' => hR (only_keep fun b hb hl => ?_) (h.read i hi hi'), fun g hg => hne g (h.own.lt g hg).2 (h.sep g hg)⟩
 obtain ⟨h1, h2, h3⟩ := butTwo_iff.1 hb
 exact ⟨butTwo_iff.2 ⟨h1, h2, hne b hl h3⟩, hk b h1 hl h3⟩
theorem Rws2.keep {α : Type} {w w' : World} {base E sz : Nat} {R : World → α → List Value → Prop} {v u : Value} {l : List α} {css : List (List Value)} (h : Rws2 w base E sz R v u l css)
 (hR : ∀ {a b : World} {x cs}, Sub a b → R a x cs → R b x cs) (hk : ∀ b, base ≤ b → b < w.heap.size → w'.heap[b]? = w.heap[b]?) : Rws2 w' base E sz R v u l css :=
 h.other hR (fun b h1 h2 _ => hk b h1 h2) (.inl rfl)
theorem Rws2.push {α : Type} {w w' : World} {base E sz : Nat} {R : World → α → List Value → Prop} {v v' u : Value} {l : List α} {css : List (List Value)} {x : α} {cs : List Value} {N : Nat} {L : List Value} (h : Rws2 w base E sz R v u l css)
 (hR : ∀ {a b : World} {x cs}, Sub a b → R a x cs → R b x cs) (hA : Appd w w' base E sz v v' N L) (hN : N = l.length + 1) (hL : L = css.flatten ++ cs) (hc : cs.length = sz) (hx : R (only (butTwo base v u) w) x cs)
 (hu : ∀ g, u.ownBlock = some g → g < w.heap.size) : Rws2 w' base E sz R v' u (l ++ [x]) (css ++ [cs]) := by
 have hsub : Sub (only (butTwo base v u) w) (only (butTwo base v' u) w') := only_keep fun b hb hl => by
   obtain ⟨h1, h2, h3⟩ := butTwo_iff.1 hb
   refine ⟨butTwo_iff.2 ⟨h1, ?_, h3⟩, hA.grown.block b hl (fun e => h2 e.symm)⟩
   rcases hA.at_ with e | e
   · rw [e]; exact h2
   · rw [e]
     intro e2
     injection e2 with e2
     omega
 refine ⟨?_, by rw [List.length_append, List.length_append, h.len]; rfl, ?_, fun i hi hi' => ?_, fun g hg => ?_⟩
 · have := hA.own
   rw [hN, hL] at this
   rw [List.length_append, List.flatten_append, List.flatten_cons, List.flatten_nil, List.append_nil]
   exact this
 · intro c hcm
   rcases List.mem_append.1 hcm with hm | hm
   · exact h.each c hm
   · rw [List.mem_singleton.1 hm]; exact hc
 · by_cases hlt : i < l.length
   · rw [List.getElem_append_left hlt, List.getElem_append_left (by rw [h.len]; exact hlt)]
     exact hR hsub (h.read i hlt (by rw [h.len]; exact hlt))
   · have hil : i = l.length := by simp at hi; omega
     subst hil
     rw [List.getElem_append_right (by omega), List.getElem_append_right (by rw [h.len]; omega)]
     simp only [h.len, Nat.sub_self, List.getElem_singleton]
     exact hR hsub hx
 · rcases hA.at_ with e | e
   · exact h.sep g (by rw [← e]; exact hg)
   · intro e2
     have := hu g e2
     rw [e] at hg
     injection hg with hg
     omega
theorem Rws.flat {α : Type} {w w' : World} {base E sz : Nat} {R : α → List Value → Prop} {v : Value} {l : List α} {css : List (List Value)} (h : Rws w base E sz (fun _ => R) v l css)
    (hk : ∀ b, v.ownBlock = some b → w'.heap[b]? = w.heap[b]?) : Rws w' base E sz (fun _ => R) v l css :=
  ⟨owns_of_block h.own hk, h.len, h.each, h.read⟩
def u8v (c : UInt8) : Value := .int .u8 c.toNat
structure WrAt (w : World) (B : Nat) (v : Value) (bs : List UInt8) : Prop where
 blk : w.heap[B]? = some (.cells #[v] 69 (0, 0))
 own : w.ownsRow (B + 1) 5 1 v bs.length (bs.map u8v)
structure Wf (B : Nat) (v v' : Value) (w w' : World) : Prop where
 os : w'.os = w.os
 tape : w'.tape = w.tape
 output : w'.output = w.output
 size : w.heap.size ≤ w'.heap.size
 block : ∀ k, k < w.heap.size → k ≠ B → v.ownBlock ≠ some k → w'.heap[k]? = w.heap[k]?
 own : ∀ k, v'.ownBlock = some k → v.ownBlock = some k ∨ w.heap.size ≤ k
theorem Wf.refl (B : Nat) (v : Value) (w : World) : Wf B v v w w := ⟨rfl, rfl, rfl, Nat.le_refl _, fun _ _ _ _ => rfl, fun _ h => .inl h⟩
theorem Wf.trans {B : Nat} {v v' v'' : Value} {a b c : World} (h : Wf B v v' a b) (k : Wf B v' v'' b c) : Wf B v v'' a c :=
 ⟨k.os.trans h.os, k.tape.trans h.tape, k.output.trans h.output, Nat.le_trans h.size k.size,
  fun i hi hn ho => (k.block i (Nat.lt_of_lt_of_le hi h.size) hn (fun e => by rcases h.own i e with e' | e'; exact ho e'; omega)).trans (h.block i hi hn ho),
  fun i e => by
    rcases k.own i e with e' | e'
    · exact h.own i e'
    · exact .inr (Nat.le_trans h.size e')⟩
theorem Wf.below {B : Nat} {v v' : Value} {w w' : World} (h : Wf B v v' w w') (hv : ∀ k, v.ownBlock = some k → B ≤ k) (hB : B ≤ w.heap.size) : Below B w w' :=
 ⟨h.os, h.tape, h.output, h.size, fun k hk => h.block k (by omega) (by omega) (fun e => by have := hv k e; omega)⟩
theorem WrAt.lt {w : World} {B : Nat} {v : Value} {bs : List UInt8} (h : WrAt w B v bs) : B < w.heap.size := (Array.getElem?_eq_some_iff.1 h.blk).1
theorem WrAt.base {w : World} {B : Nat} {v : Value} {bs : List UInt8} (h : WrAt w B v bs) : ∀ k, v.ownBlock = some k → B + 1 ≤ k ∧ k < w.heap.size := fun k e => h.own.lt k e
theorem WrAt.cell {w : World} {B : Nat} {v : Value} {bs : List UInt8} (h : WrAt w B v bs) : w.cell? ⟨B, 0, none⟩ = some v := by rw [cell_of_row w B 0 _ _ _ h.blk]; rfl
theorem WrAt.free {w : World} {B : Nat} {v : Value} {bs : List UInt8} (h : WrAt w B v bs) : w.frozen? ⟨B, 0, none⟩ = false := by simp [World.frozen?, h.blk]
def WrPost (B : Nat) (v : Value) (w : World) (bs' : List UInt8) (w' : World) : Prop := ∃ v', WrAt w' B v' bs' ∧ Wf B v v' w w'
theorem wr_store {w w1 w2 : World} {B : Nat} {v v' : Value} {bs bs' : List UInt8} {N : Nat} {L : List Value} (h : WrAt w B v bs) (h1 : Wf B v v w w1) (hb : w1.heap[B]? = w.heap[B]?) (ho : ∀ k, v.ownBlock = some k → w1.heap[k]? = w.heap[k]?)
 (hA : Appd w1 w2 (B + 1) 5 1 v v' N L) (hN : N = bs'.length) (hL : L = bs'.map u8v) : WrPost B v w bs' (w2.setCell ⟨B, 0, none⟩ v') := by
 subst hN
 subst hL
 have hlt := h.lt
 have hne : ∀ k, v.ownBlock = some k → k ≠ B := fun k e => by have := (h.base k e).1; omega
 have hB2 : w2.heap[B]? = some (.cells #[v] 69 (0, 0)) := (hA.grown.block B (Nat.lt_of_lt_of_le hlt h1.size) (fun e => hne B e.symm rfl)).trans (hb.trans h.blk)
 have hv' : ∀ k, v'.ownBlock = some k → B + 1 ≤ k := fun k e => (hA.own.lt k e).1
 refine ⟨v', ⟨?_, ?_⟩, ?_⟩
 · have e : (w2.setCell ⟨B, 0, none⟩ v').heap[B]? = some (.cells (#[v].setIfInBounds 0 v') 69 (0, 0)) := by simp [World.setCell, Array.getElem?_modify, hB2]
   rw [e]; rfl
 · exact owns_of_block hA.own fun g hg => Below.heap_setCell _ _ _ _ (by have := hv' g hg; show g ≠ B; omega)
 · refine ⟨hA.grown.os.trans h1.os, hA.grown.tape.trans h1.tape, hA.grown.output.trans h1.output, by have := h1.size; have := hA.grown.size; simp [World.setCell]; omega, fun k hk hn hvk => ?_, fun k e => ?_⟩
   · rw [Below.heap_setCell _ _ _ _ hn, hA.grown.block k (Nat.lt_of_lt_of_le hk h1.size) (fun e => hvk e.symm)]
     exact h1.block k hk hn hvk
   · rcases hA.at_ with e' | e'
     · rw [e'] at e; exact .inl e
     · rw [e'] at e; injection e with e; have := h1.size; exact .inr (by omega)
theorem wr_after {w w1 w2 : World} {B : Nat} {v v' : Value} {bs : List UInt8} {N : Nat} {L : List Value} (h : WrAt w B v bs) (hs : w.heap.size ≤ w1.heap.size) (hb : w1.heap[B]? = w.heap[B]?) (hA : Appd w1 w2 (B + 1) 5 1 v v' N L) : w2.cell? ⟨B, 0, none⟩ = some v ∧ w2.frozen? ⟨B, 0, none⟩ = false := by
 have hB2 : w2.heap[B]? = some (.cells #[v] 69 (0, 0)) := (hA.grown.block B (Nat.lt_of_lt_of_le h.lt hs) (fun e => by have := (h.base B e.symm).1; omega)).trans (hb.trans h.blk)
 exact ⟨by rw [cell_of_row w2 B 0 _ _ _ hB2]; rfl, by simp [World.frozen?, hB2]⟩
theorem wf_alloc (B : Nat) (v : Value) (w : World) (O : Obj) : Wf B v v w (w.alloc O) := ⟨rfl, rfl, rfl, by simp, fun _ hk _ _ => Below.heap_alloc _ _ _ hk, fun _ h => .inl h⟩
theorem WrPost.after {B : Nat} {v v1 : Value} {w w1 w' : World} {bs : List UInt8} (h : Wf B v v1 w w1) (k : WrPost B v1 w1 bs w') : WrPost B v w bs w' := by
 obtain ⟨v', h1, h2⟩ := k
 exact ⟨v', h1, h.trans h2⟩
theorem or_byte : ∀ m : Fin 256, bits .or .u8 (m.val : Int) 128 = ((m.val % 128 + 128 : Nat) : Int) := by decide +kernel
theorem or_byte' (k : Nat) : bits .or .u8 ((k : Int) % 256) 128 = ((UInt8.ofNat (k % 128 + 128)).toNat : Int) := by
 have h := or_byte ⟨k % 256, by omega⟩
 have e : ((k : Int) % 256) = ((k % 256 : Nat) : Int) := by omega
 rw [e]
 rw [h]
 have e2 : (UInt8.ofNat (k % 128 + 128)).toNat = k % 128 + 128 := by simp; omega
 rw [e2]
 show ((k % 256 % 128 + 128 : Nat) : Int) = _
 omega
theorem one_byte (k : Nat) (h : k < 256) : (k : Int) = ((UInt8.ofNat k).toNat : Int) := by
 have : (UInt8.ofNat k).toNat = k := by simp; omega
 rw [this]
theorem infoByte : (Tryz.prog.info? 5).map (fun i => (i.zero, i.size, i.bytes)) = some (some (.int .u8 0), 1, 1) := by kernel_rfl
theorem wUint_any (B : Nat) (v : Value) (bs : List UInt8) (n : Nat) (w : World) (h : WrAt w B v bs) (hn : n < 18446744073709551616) (hl : bs.length ≤ 100000000) :
 Calls Tryz.prog 82 #[.pointer (some ⟨B, 0, none⟩), .int .u64 n] w fun e w' => e = .returned (.tuple #[]) ∧ WrPost B v w (bs ++ uintE n) w' := by
 obtain ⟨i0, hi0, hz0, hz1, hz2⟩ := info_parts infoByte
 have HW := hid h
 have HN := hid hn
 have HL := hid hl
 clear h hn hl
 go_enter Tryz.func82, Tryz.ntmps82
 go_wp2_with fail
 go_loopw [1] (fun i wr => ∃ (k : Nat) (cur : List UInt8) (v' : Value), i = .int .u64 k ∧ WrAt wr B v' cur ∧ Hid (Wf B v v' w wr) ∧ Hid (cur ++ uintE k = bs ++ uintE n) ∧ Hid (k < 18446744073709551616)) (fun i _ => (intOf i).toNat)
 case atStart => exact ⟨n, bs, v, rfl, HW.out, hid (Wf.refl _ _ _), hid rfl, HN⟩
 case round =>
  obtain ⟨k, cur, v', rfl, hw, HF, HE, HK⟩ := hrel
  have hcell := hw.cell
  have hfree := hw.free
  obtain ⟨av, cv, rfl⟩ := owns_shape hw.own
  have HW1 := hid hw
  clear hw
  have HOW := hid HW1.out.own
  have HLEN : Hid (cur.length + 1 ≤ maxLen ∧ (cur.length + 1) * 1 ≤ 140737488355328 ∧ B + 1 ≤ wr.heap.size) := hid (by
   have h1 := congrArg List.length HE.out
   rw [List.length_append, List.length_append] at h1
   have := (uintE_len10 n HN.out).1
   have := (uintE_len10 k HK.out).2
   have := HL.out
   have := HW1.out.lt
   unfold maxLen
   omega)
  by_cases hlt : k < 128
  · go_wp2_with (at_builtin; refine wpList_append rfl (.tmp 24) (.tmp 27) 46 rfl (B + 1) 5 1 1 Tryz.underlying46 hi0 hz0 hz1 hz2 rfl (by decide) (.slice av cur.length cv) cur.length (cur.map u8v) rfl (HOW.out.alloc _) _ 1 [.int .u8 k] rfl (Src.of_block (cs := #[.int .u8 k]) (heap_alloc_new _ _) 1 1 1 rfl (by simp [Value.oneCell'])) _ rfl _ rfl HLEN.out.1 HLEN.out.2.1 (by have := HLEN.out.2.2; simp; omega) ?_; intro na nc w2 had; obtain ⟨hc2, hf2⟩ := wr_after HW1.out (by simp) (Below.heap_alloc _ _ _ HW1.out.lt) had; have HAD := hid had; clear had)
    go_end0
    refine ⟨rfl, WrPost.after HF.out ?_⟩
    rw [← HE.out, uintE_lt hlt]
    refine wr_store HW1.out (wf_alloc _ _ _ _) (Below.heap_alloc _ _ _ HW1.out.lt) (fun g hg => Below.heap_alloc _ _ _ (HW1.out.base g hg).2) HAD.out (by rw [List.length_append]; rfl) ?_
    rw [List.map_append, one_byte k (by omega)]
    rfl
  · have hge : (128 : Int) ≤ (k : Int) := by omega
    go_wp2_with (at_builtin; refine wpList_append rfl (.tmp 12) (.tmp 16) 46 rfl (B + 1) 5 1 1 Tryz.underlying46 hi0 hz0 hz1 hz2 rfl (by decide) (.slice av cur.length cv) cur.length (cur.map u8v) rfl (HOW.out.alloc _) _ 1 [_] rfl (Src.of_block (cs := #[_]) (heap_alloc_new _ _) 1 1 1 rfl (by simp [Value.oneCell'])) _ rfl _ rfl HLEN.out.1 HLEN.out.2.1 (by have := HLEN.out.2.2; simp; omega) ?_; intro na nc w2 had; obtain ⟨hc2, hf2⟩ := wr_after HW1.out (by simp) (Below.heap_alloc _ _ _ HW1.out.lt) had; have HAD := hid had; clear had)
    have HP : Hid (∀ u, u = Value.slice na (cur.length + 1) nc → WrPost B (Value.slice av cur.length cv) wr (cur ++ [UInt8.ofNat (k % 128 + 128)]) (w2.setCell ⟨B, 0, none⟩ u)) := hid fun u hu => by
      subst hu
      refine wr_store HW1.out (wf_alloc _ _ _ _) (Below.heap_alloc _ _ _ HW1.out.lt) (fun g hg => Below.heap_alloc _ _ _ (HW1.out.base g hg).2) HAD.out (by rw [List.length_append]; rfl) ?_
      rw [List.map_append, or_byte']
      rfl
    obtain ⟨v2, hw2, hf⟩ := HP.out _ rfl
    refine ⟨⟨k / 128, cur ++ [UInt8.ofNat (k % 128 + 128)], v2, by go_num, hw2, hid (HF.out.trans hf), hid (by rw [← HE.out, uintE_ge (n := k) (by omega), List.append_assoc]; rfl), hid (by have := HK.out; omega)⟩, by simp [intOf]; omega⟩
theorem wBool_any (B : Nat) (v : Value) (bs : List UInt8) (b : Bool) (w : World) (h : WrAt w B v bs) (hl : bs.length ≤ 100000000) :
 Calls Tryz.prog 80 #[.pointer (some ⟨B, 0, none⟩), .bool b] w fun e w' => e = .returned (.tuple #[]) ∧ WrPost B v w (bs ++ boolE b) w' := by
 obtain ⟨i0, hi0, hz0, hz1, hz2⟩ := info_parts infoByte
 have hcell := h.cell
 have hfree := h.free
 obtain ⟨av, cv, rfl⟩ := owns_shape h.own
 have HW1 := hid h
 have HOW := hid h.own
 have HLEN : Hid (bs.length + 1 ≤ maxLen ∧ (bs.length + 1) * 1 ≤ 140737488355328 ∧ B + 1 ≤ w.heap.size) := hid (by have := h.lt; unfold maxLen; omega)
 clear h hl
 cases b
 · go_enter Tryz.func80, Tryz.ntmps80
   go_wp2_with (at_builtin; refine wpList_append rfl (.tmp 18) (.tmp 19) 46 rfl (B + 1) 5 1 1 Tryz.underlying46 hi0 hz0 hz1 hz2 rfl (by decide) (.slice av bs.length cv) bs.length (bs.map u8v) rfl (HOW.out.alloc _) _ 1 [.int .u8 0] rfl (Src.of_block (cs := #[.int .u8 0]) (heap_alloc_new _ _) 1 1 1 rfl (by simp [Value.oneCell'])) _ rfl _ rfl HLEN.out.1 HLEN.out.2.1 (by have := HLEN.out.2.2; simp; omega) ?_; intro na nc w2 had; obtain ⟨hc2, hf2⟩ := wr_after HW1.out (by simp) (Below.heap_alloc _ _ _ HW1.out.lt) had; have HAD := hid had; clear had)
   (try simp only [Exit.inBlock, Exit.then])
   first
    | go_end0
    | refine bodyPost_ret (results_none rfl _ _ _) rfl ?_
   refine ⟨rfl, wr_store HW1.out (wf_alloc _ _ _ _) (Below.heap_alloc _ _ _ HW1.out.lt) (fun g hg => Below.heap_alloc _ _ _ (HW1.out.base g hg).2) HAD.out (by rw [List.length_append]; rfl) (by rw [List.map_append]; rfl)⟩
 · go_enter Tryz.func80, Tryz.ntmps80
   go_wp2_with (at_builtin; refine wpList_append rfl (.tmp 9) (.tmp 10) 46 rfl (B + 1) 5 1 1 Tryz.underlying46 hi0 hz0 hz1 hz2 rfl (by decide) (.slice av bs.length cv) bs.length (bs.map u8v) rfl (HOW.out.alloc _) _ 1 [.int .u8 1] rfl (Src.of_block (cs := #[.int .u8 1]) (heap_alloc_new _ _) 1 1 1 rfl (by simp [Value.oneCell'])) _ rfl _ rfl HLEN.out.1 HLEN.out.2.1 (by have := HLEN.out.2.2; simp; omega) ?_; intro na nc w2 had; obtain ⟨hc2, hf2⟩ := wr_after HW1.out (by simp) (Below.heap_alloc _ _ _ HW1.out.lt) had; have HAD := hid had; clear had)
   (try simp only [Exit.inBlock, Exit.then])
   first
    | go_end0
    | refine bodyPost_ret (results_none rfl _ _ _) rfl ?_
   refine ⟨rfl, wr_store HW1.out (wf_alloc _ _ _ _) (Below.heap_alloc _ _ _ HW1.out.lt) (fun g hg => Below.heap_alloc _ _ _ (HW1.out.base g hg).2) HAD.out (by rw [List.length_append]; rfl) (by rw [List.map_append]; rfl)⟩
theorem strCells_u8v (s : ByteArray) : Lib.strCells s = s.data.toList.map u8v := rfl
theorem wText_any (B : Nat) (v : Value) (bs : List UInt8) (s : ByteArray) (w : World) (h : WrAt w B v bs) (hl : bs.length ≤ 90000000) (hs : s.size ≤ 1000000) :
 Calls Tryz.prog 83 #[.pointer (some ⟨B, 0, none⟩), .string s] w fun e w' => e = .returned (.tuple #[]) ∧ WrPost B v w (bs ++ textE s) w' := by
 obtain ⟨i0, hi0, hz0, hz1, hz2⟩ := info_parts infoByte
 have HU := hid (wUint_any B v bs s.size w h (by omega) (by omega))
 have HUL := hid (uintE_len10 s.size (by omega)).1
 have HL := hid hl
 have HS := hid hs
 have hs1 : (s.size : Int) ≤ 1000000 := by omega
 clear h hl hs
 go_enter Tryz.func83, Tryz.ntmps83
 go_wp2_with fail
 refine HU.out.mono ?_
 rintro e w1 ⟨rfl, v1, hw1, hf1⟩
 have HF1 := hid hf1
 clear hf1
 have hcell := hw1.cell
 have hfree := hw1.free
 generalize hcur : bs ++ uintE s.size = cur at hw1 hcell
 have HC := hid hcur
 obtain ⟨av, cv, rfl⟩ := owns_shape hw1.own
 have HW1 := hid hw1
 have HOW := hid hw1.own
 have HLEN : Hid (cur.length + s.size ≤ maxLen ∧ cur.length + s.size ≤ 140737488355328 ∧ B + 1 ≤ w1.heap.size) := hid (by
  have := hw1.lt
  have := HUL.out
  have := HL.out
  have := HS.out
  rw [← hcur, List.length_append]
  unfold maxLen
  omega)
 clear hw1 hcur
 go_wp2_with (at_builtin; refine wpList_appendS rfl (.tmp 13) (.tmp 14) 46 9 rfl (B + 1) 5 Tryz.underlying46 Tryz.underlying9 hi0 hz0 hz1 hz2 (.slice av cur.length cv) cur.length (cur.map u8v) rfl HOW.out s rfl _ rfl _ rfl HLEN.out.1 HLEN.out.2.1 HLEN.out.2.2 ?_; intro na nc w2 had; obtain ⟨hc2, hf2⟩ := wr_after HW1.out (Nat.le_refl _) rfl had; have HAD := hid had; clear had)
 go_end0
 refine ⟨rfl, WrPost.after HF1.out (wr_store HW1.out (Wf.refl _ _ _) rfl (fun _ _ => rfl) HAD.out ?_ ?_)⟩
 · rw [← HC.out]; unfold textE; simp only [List.length_append]; have : s.data.toList.length = s.size := rfl; omega
 · rw [← HC.out]; unfold textE; rw [strCells_u8v, ← List.map_append, List.append_assoc]
end Go.Proofs.YtmdjnaobllajmaaGreatDoor
