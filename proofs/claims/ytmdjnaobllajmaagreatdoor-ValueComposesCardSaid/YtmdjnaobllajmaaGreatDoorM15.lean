/-
  What the statements of the chapter share, part 15: VEnc, VDec, VTri, VTop0.
-/
import Derived.Test.YtmdjnaobllajmaaGreatDoorM11
import Derived.Test.YtmdjnaobllajmaaGreatDoorM13
import Derived.Test.YtmdjnaobllajmaaGreatDoorM14
set_option linter.unusedVariables false
set_option linter.unusedSimpArgs false
/- The walks of value.Encode, value.Decode. -/
namespace Go.Proofs.YtmdjnaobllajmaaGreatDoor
open Go.RowKit

/-- Bytes by new blocks, and an error. -/
def BytesEPost (w : World) (x : List UInt8 × Int) (e : Ending) (w' : World) : Prop := ∃ r, e = .returned (.tuple #[r, .int .i64 x.2]) ∧ w'.ownsRow w.heap.size 5 1 r x.1.length (x.1.map u8v) ∧ Below w.heap.size w w'
def encodeE (l : Lat) (v : Val) : List UInt8 × Int := if chkE l ≠ 0 then ([], 1) else if elemB l v = false then ([], 4) else (putV l v, 0)
theorem sub_lows {w w1 : World} {B : Nat} (h : Below w.heap.size w w1) (hB : w.heap.size ≤ B) : Sub w (only (lows B) w1) := fun p v hp => by
  have hlt := World.block_lt_of_cell? w p hp
  rw [only_cell, show lows B p.block = true from decide_eq_true (by omega)]
  exact (h.cell hlt).trans hp
theorem sub_notB {w w1 : World} {B : Nat} (h : Below w.heap.size w w1) (hB : w.heap.size ≤ B) : Sub w (only (notB B) w1) := fun p v hp => by
  have hlt := World.block_lt_of_cell? w p hp
  rw [only_cell, show notB B p.block = true from decide_eq_true (by omega)]
  exact (h.cell hlt).trans hp

set_option maxRecDepth 100000 in
set_option maxHeartbeats 4000000 in
theorem Encode_any (l : Lat) (v : Val) (cl cv : List Value) (w : World) (hl : latRd w l cl) (hv : valRd w v cv) (hsz : chkE l = 0 → elemB l v = true → (putV l v).length ≤ 80000000) :
    Calls Tryz.prog 24 #[.agg cl.toArray, .agg cv.toArray] w (BytesEPost w (encodeE l v)) := by
  have HC : Hid (∀ W, Below w.heap.size w W → Calls Tryz.prog 36 #[.agg cl.toArray] W fun e w' => e = .returned (.int .i64 (chkE l)) ∧ Below W.heap.size W w') := hid fun W h => check_any l cl W (latRd.below h _ _ hl)
  have HEL : Hid (chkE l = 0 → ∀ W, Below w.heap.size w W → Calls Tryz.prog 37 #[.agg cl.toArray, .agg cv.toArray] W fun e w' => e = .returned (.bool (elemB l v)) ∧ Below W.heap.size W w') := hid fun h0 W h => element_any _ l v cl cv W (Nat.le_refl _) (latRd.below h _ _ hl) (valRd.below h _ _ hv) (chkE_wf h0)
  have HWR : Hid (chkE l = 0 → elemB l v = true → ∀ (W : World) (B : Nat), Below w.heap.size w W → w.heap.size ≤ B → WrAt W B (.slice none 0 0) [] → Calls Tryz.prog 50 #[.pointer (some ⟨B, 0, none⟩), .agg cl.toArray, .agg cv.toArray] W fun e w' => e = .returned (.tuple #[]) ∧ WrPost B (.slice none 0 0) W (putV l v) w') :=
    hid fun h0 h1 W B h hB hw => write_any _ l v (Nat.le_refl _) (chkE_wf h0) h1 B (.slice none 0 0) [] cl cv W (latRd.mono (sub_lows h hB) _ _ hl) (valRd.mono (sub_lows h hB) _ _ hv) hw (by have := hsz h0 h1; simpa using this)
  have HE : Hid (encodeE l v = if chkE l ≠ 0 then ([], 1) else if elemB l v = false then ([], 4) else (putV l v, 0)) := hid rfl
  have HSZ := hid hsz
  generalize encodeE l v = R at HE ⊢
  generalize elemB l v = F at HEL HWR HE HSZ
  generalize chkE l = E at HC HEL HWR HE HSZ
  generalize putV l v = PB at HWR HE HSZ
  obtain ⟨vln, vlp, vlr, rfl, hli, hln, hlp, hlr⟩ := (latRd_iff _ _ _).1 hl
  obtain ⟨aln, cln, rfl, _, mln⟩ := hln.shape
  obtain ⟨alp, clp, rfl, _, mlp⟩ := hlp.shape
  obtain ⟨alr, clr, rfl, _, mlr⟩ := hlr.shape
  obtain ⟨uvn, uvp, uve, rfl, gvi, gvn, gvp, gve⟩ := (valRd_iff _ _ _).1 hv
  obtain ⟨bvn, dvn, rfl, _, nvn⟩ := gvn.shape
  obtain ⟨bvp, dvp, rfl, _, nvp⟩ := gvp.shape
  obtain ⟨bve, dve, rfl, _, nve⟩ := gve.shape
  clear hl hli hln hlp hlr hv gvi gvn gvp gve hsz
  have HB : Hid (∀ x : Ext ((w.alloc (.cells #[.int .i64 l.kind, .int .i64 l.lo, .int .i64 l.hi, .slice aln l.names.length cln, .slice alp l.parts.length clp, .slice alr l.rules.length clr] 26)).alloc (.cells #[.int .i64 v.n, .slice bvn v.names.length dvn, .slice bvp v.parts.length dvp, .slice bve v.entries.length dve] 30)), Below w.heap.size w x.1) := hid fun x => (((Below.refl _ _).alloc (Nat.le_refl _) _).alloc (by simp) _).trans (x.2.mono (by simp; omega))
  have HX : Hid (∀ x : Ext ((w.alloc (.cells #[.int .i64 l.kind, .int .i64 l.lo, .int .i64 l.hi, .slice aln l.names.length cln, .slice alp l.parts.length clp, .slice alr l.rules.length clr] 26)).alloc (.cells #[.int .i64 v.n, .slice bvn v.names.length dvn, .slice bvp v.parts.length dvp, .slice bve v.entries.length dve] 30)), (∀ (i : Nat) q, #[.int .i64 l.kind, .int .i64 l.lo, .int .i64 l.hi, .slice aln l.names.length cln, .slice alp l.parts.length clp, .slice alr l.rules.length clr][i]? = some q → x.1.cell? ⟨w.heap.size, i, none⟩ = some q) ∧ (∀ (i : Nat) q, #[.int .i64 v.n, .slice bvn v.names.length dvn, .slice bvp v.parts.length dvp, .slice bve v.entries.length dve][i]? = some q → x.1.cell? ⟨w.heap.size + 1, i, none⟩ = some q)) :=
    hid fun x => two_boxes w #[.int .i64 l.kind, .int .i64 l.lo, .int .i64 l.hi, .slice aln l.names.length cln, .slice alp l.parts.length clp, .slice alr l.rules.length clr] #[.int .i64 v.n, .slice bvn v.names.length dvn, .slice bvp v.parts.length dvp, .slice bve v.entries.length dve] 26 30 (x.2.mono (by simp))
  show Calls _ _ _ _ fun e w' => Hid (BytesEPost w R e w')
  go_enter Tryz.func24, Tryz.ntmps24
  go_wp2_with fail
  generalize (w.alloc (.cells #[.int .i64 l.kind, .int .i64 l.lo, .int .i64 l.hi, .slice aln l.names.length cln, .slice alp l.parts.length clp, .slice alr l.rules.length clr] 26)).alloc (.cells #[.int .i64 v.n, .slice bvn v.names.length dvn, .slice bvp v.parts.length dvp, .slice bve v.entries.length dve] 30) = W2 at HB HX ⊢
  refine (HC.out _ (HB.out ⟨_, Below.refl _ _⟩)).mono ?_
  rintro e w1 ⟨rfl, hb1⟩
  have HB1 := hid hb1
  clear hb1
  have p0 : w1.cell? ⟨w.heap.size, 0, none⟩ = some (.int .i64 l.kind) := (HX.out ⟨_, HB1.out⟩).1 0 _ rfl
  have p1 : w1.cell? ⟨w.heap.size, 1, none⟩ = some (.int .i64 l.lo) := (HX.out ⟨_, HB1.out⟩).1 1 _ rfl
  have p2 : w1.cell? ⟨w.heap.size, 2, none⟩ = some (.int .i64 l.hi) := (HX.out ⟨_, HB1.out⟩).1 2 _ rfl
  have p3 : w1.cell? ⟨w.heap.size, 3, none⟩ = some (.slice aln l.names.length cln) := (HX.out ⟨_, HB1.out⟩).1 3 _ rfl
  have p4 : w1.cell? ⟨w.heap.size, 4, none⟩ = some (.slice alp l.parts.length clp) := (HX.out ⟨_, HB1.out⟩).1 4 _ rfl
  have p5 : w1.cell? ⟨w.heap.size, 5, none⟩ = some (.slice alr l.rules.length clr) := (HX.out ⟨_, HB1.out⟩).1 5 _ rfl
  have pv0 : w1.cell? ⟨w.heap.size + 1, 0, none⟩ = some (.int .i64 v.n) := (HX.out ⟨_, HB1.out⟩).2 0 _ rfl
  have pv1 : w1.cell? ⟨w.heap.size + 1, 1, none⟩ = some (.slice bvn v.names.length dvn) := (HX.out ⟨_, HB1.out⟩).2 1 _ rfl
  have pv2 : w1.cell? ⟨w.heap.size + 1, 2, none⟩ = some (.slice bvp v.parts.length dvp) := (HX.out ⟨_, HB1.out⟩).2 2 _ rfl
  have pv3 : w1.cell? ⟨w.heap.size + 1, 3, none⟩ = some (.slice bve v.entries.length dve) := (HX.out ⟨_, HB1.out⟩).2 3 _ rfl
  by_cases hE : E = 0
  · have HEL2 := hid (HEL.out hE)
    have HWR2 := hid (HWR.out hE)
    have HSZ2 := hid (HSZ.out hE)
    have HE2 : Hid (R = if F = false then ([], 4) else (PB, 0)) := hid (by rw [HE.out, if_neg (fun h => h hE)])
    subst hE
    clear HC HEL HWR HSZ HE
    go_wp2_with fail
    refine (HEL2.out _ (HB.out ⟨_, HB1.out⟩)).mono ?_
    rintro e w2 ⟨rfl, hb2⟩
    have HB2 : Hid (Below W2.heap.size W2 w2) := hid (HB1.out.trans (hb2.mono HB1.out.size))
    clear hb2 HEL2 p0 p1 p2 p3 p4 p5 pv0 pv1 pv2 pv3
    cases hF : F
    · have HR : Hid (R = ([], 4)) := hid (by rw [HE2.out, if_pos hF])
      subst hF
      clear HE2 HWR2 HSZ2
      go_wp2_with fail
      go_ret2
      exact hid ⟨.slice none 0 0, by rw [HR.out]; rfl, by rw [HR.out]; exact World.ownsRow_nil _ _ _ _, HB.out ⟨_, HB2.out⟩⟩
    · have HR : Hid (R = (PB, 0)) := hid (by rw [HE2.out, hF]; rfl)
      have HWR3 := hid (HWR2.out hF)
      have HSZ3 := hid (HSZ2.out hF)
      subst hF
      clear HE2 HWR2 HSZ2
      have q0 : w2.cell? ⟨w.heap.size, 0, none⟩ = some (.int .i64 l.kind) := (HX.out ⟨_, HB2.out⟩).1 0 _ rfl
      have q1 : w2.cell? ⟨w.heap.size, 1, none⟩ = some (.int .i64 l.lo) := (HX.out ⟨_, HB2.out⟩).1 1 _ rfl
      have q2 : w2.cell? ⟨w.heap.size, 2, none⟩ = some (.int .i64 l.hi) := (HX.out ⟨_, HB2.out⟩).1 2 _ rfl
      have q3 : w2.cell? ⟨w.heap.size, 3, none⟩ = some (.slice aln l.names.length cln) := (HX.out ⟨_, HB2.out⟩).1 3 _ rfl
      have q4 : w2.cell? ⟨w.heap.size, 4, none⟩ = some (.slice alp l.parts.length clp) := (HX.out ⟨_, HB2.out⟩).1 4 _ rfl
      have q5 : w2.cell? ⟨w.heap.size, 5, none⟩ = some (.slice alr l.rules.length clr) := (HX.out ⟨_, HB2.out⟩).1 5 _ rfl
      have qv0 : w2.cell? ⟨w.heap.size + 1, 0, none⟩ = some (.int .i64 v.n) := (HX.out ⟨_, HB2.out⟩).2 0 _ rfl
      have qv1 : w2.cell? ⟨w.heap.size + 1, 1, none⟩ = some (.slice bvn v.names.length dvn) := (HX.out ⟨_, HB2.out⟩).2 1 _ rfl
      have qv2 : w2.cell? ⟨w.heap.size + 1, 2, none⟩ = some (.slice bvp v.parts.length dvp) := (HX.out ⟨_, HB2.out⟩).2 2 _ rfl
      have qv3 : w2.cell? ⟨w.heap.size + 1, 3, none⟩ = some (.slice bve v.entries.length dve) := (HX.out ⟨_, HB2.out⟩).2 3 _ rfl
      have HBA : Hid (∀ O, Below W2.heap.size W2 (w2.alloc O)) := hid fun O => HB2.out.alloc HB2.out.size _
      have s0 : ∀ O, (w2.alloc O).cell? ⟨w.heap.size, 0, none⟩ = some (.int .i64 l.kind) := fun O => (HX.out ⟨_, HBA.out O⟩).1 0 _ rfl
      have s1 : ∀ O, (w2.alloc O).cell? ⟨w.heap.size, 1, none⟩ = some (.int .i64 l.lo) := fun O => (HX.out ⟨_, HBA.out O⟩).1 1 _ rfl
      have s2 : ∀ O, (w2.alloc O).cell? ⟨w.heap.size, 2, none⟩ = some (.int .i64 l.hi) := fun O => (HX.out ⟨_, HBA.out O⟩).1 2 _ rfl
      have s3 : ∀ O, (w2.alloc O).cell? ⟨w.heap.size, 3, none⟩ = some (.slice aln l.names.length cln) := fun O => (HX.out ⟨_, HBA.out O⟩).1 3 _ rfl
      have s4 : ∀ O, (w2.alloc O).cell? ⟨w.heap.size, 4, none⟩ = some (.slice alp l.parts.length clp) := fun O => (HX.out ⟨_, HBA.out O⟩).1 4 _ rfl
      have s5 : ∀ O, (w2.alloc O).cell? ⟨w.heap.size, 5, none⟩ = some (.slice alr l.rules.length clr) := fun O => (HX.out ⟨_, HBA.out O⟩).1 5 _ rfl
      have sv0 : ∀ O, (w2.alloc O).cell? ⟨w.heap.size + 1, 0, none⟩ = some (.int .i64 v.n) := fun O => (HX.out ⟨_, HBA.out O⟩).2 0 _ rfl
      have sv1 : ∀ O, (w2.alloc O).cell? ⟨w.heap.size + 1, 1, none⟩ = some (.slice bvn v.names.length dvn) := fun O => (HX.out ⟨_, HBA.out O⟩).2 1 _ rfl
      have sv2 : ∀ O, (w2.alloc O).cell? ⟨w.heap.size + 1, 2, none⟩ = some (.slice bvp v.parts.length dvp) := fun O => (HX.out ⟨_, HBA.out O⟩).2 2 _ rfl
      have sv3 : ∀ O, (w2.alloc O).cell? ⟨w.heap.size + 1, 3, none⟩ = some (.slice bve v.entries.length dve) := fun O => (HX.out ⟨_, HBA.out O⟩).2 3 _ rfl
      go_wp2_with fail
      have HLE : Hid (w.heap.size ≤ w2.heap.size) := hid (HB.out ⟨_, HB2.out⟩).size
      refine (HWR3.out _ w2.heap.size (HB.out ⟨_, HBA.out _⟩) HLE.out ⟨heap_alloc_new _ _, World.ownsRow_nil _ _ _ _⟩).mono ?_
      rintro e w3 ⟨rfl, rv3, hw3, hf3⟩
      have HW3 := hid hw3
      have HB3 : Hid (Below w.heap.size w w3) := hid ((HB.out ⟨_, HBA.out _⟩).trans ((hf3.below (fun k e => by simp [Value.ownBlock] at e) (by simp)).mono HLE.out))
      clear hw3 hf3 q0 q1 q2 q3 q4 q5 qv0 qv1 qv2 qv3 s0 s1 s2 s3 s4 s5 sv0 sv1 sv2 sv3
      go_wp2_with fail
      refine (wData_any w2.heap.size rv3 PB w3 HW3.out (by have := HSZ3.out; omega)).mono ?_
      rintro e w4 ⟨r, rfl, hr, hb4⟩
      have HR4 := hid hr
      have HB4 : Hid (Below w.heap.size w w4) := hid (HB3.out.trans (hb4.mono HB3.out.size))
      have HS3 : Hid (w.heap.size ≤ w3.heap.size) := hid HB3.out.size
      clear hr hb4
      go_wp2_with fail
      go_ret2
      exact hid ⟨r, by rw [HR.out]; rfl, by rw [HR.out]; exact owns_base HR4.out HS3.out, HB4.out⟩
  · have hEb : (E != 0) = true := by simpa using hE
    have HR : Hid (R = ([], 1)) := hid (by rw [HE.out, if_pos hE])
    clear hE HC HEL HWR HSZ HE
    go_wp2_with fail
    go_ret2
    exact hid ⟨.slice none 0 0, by rw [HR.out]; rfl, by rw [HR.out]; exact World.ownsRow_nil _ _ _ _, HB.out ⟨_, HB1.out⟩⟩
end Go.Proofs.YtmdjnaobllajmaaGreatDoor

/- The walk of value.Decode. -/
namespace Go.Proofs.YtmdjnaobllajmaaGreatDoor
open Go.RowKit
theorem h_bytes {w W : World} {v : Value} {b : List UInt8} (h : SlRd w 1 byteRd v b) (k : Below w.heap.size w W) : SlRd W 1 byteRd v b := SlRd.below h k fun _ _ _ h => h

def decPost (w : World) (x : Val × Int) (e : Ending) (w' : World) : Prop := ValEPost w x e w'
set_option maxRecDepth 100000 in
set_option maxHeartbeats 4000000 in
theorem Decode_any (l : Lat) (b : List UInt8) (cl : List Value) (vb : Value) (w : World) (hl : latRd w l cl) (hb : SlRd w 1 byteRd vb b) (hsz : b.length ≤ 1000000000) :
    Calls Tryz.prog 27 #[.agg cl.toArray, vb] w (ValEPost w (decodeV l b)) := by
  have HC : Hid (∀ W, Below w.heap.size w W → Calls Tryz.prog 36 #[.agg cl.toArray] W fun e w' => e = .returned (.int .i64 (chkE l)) ∧ Below W.heap.size W w') := hid fun W h => check_any l cl W (latRd.below h _ _ hl)
  have HEL : Hid (chkE l = 0 → ∀ (W : World) (x : Val) (cv : List Value), Below w.heap.size w W → valRd W x cv → Calls Tryz.prog 37 #[.agg cl.toArray, .agg cv.toArray] W fun e w' => e = .returned (.bool (elemB l x)) ∧ Below W.heap.size W w') := hid fun h0 W x cv h hx => element_any _ l x cl cv W (Nat.le_refl _) (latRd.below h _ _ hl) hx (chkE_wf h0)
  have HNR : Hid (∀ W, Below w.heap.size w W → Calls Tryz.prog 53 #[vb] W (NewPost W b)) := hid fun W h => newReader_any vb b W (h_bytes hb h) hsz
  have HRD : Hid (chkE l = 0 → ∀ (W : World) (B : Nat) (rv : Value) (s : RS), Below w.heap.size w W → w.heap.size ≤ B → RdAt W B rv s → s.data.length ≤ 1000000000 → Calls Tryz.prog 54 #[.pointer (some ⟨B, 0, none⟩), .agg cl.toArray] W (ReadPost B rv W (readV l s))) :=
    hid fun h0 W B rv s h hB hs hd => read_any _ l B rv s cl W (Nat.le_refl _) (chkE_wf h0) hs hd (latRd.mono (sub_notB h hB) _ _ hl)
  have HE : Hid (decodeV l b = if chkE l ≠ 0 then (zeroV, 1) else if (readV l (RS.new b)).2.ends ≠ 0 ∨ elemB l (readV l (RS.new b)).1 = false then (zeroV, 2) else ((readV l (RS.new b)).1, 0)) := hid rfl
  have HSB := hid hsz
  have HOK : Hid (RS.Ok (RS.new b)) := hid (new_ok b)
  have HRL : Hid (∀ W B rv W2, RdAt W B rv (RS.new b) → RdAt W2 B rv (readV l (RS.new b)).2 → (readV l (RS.new b)).2.data.length ≤ 1000000000) := hid fun W B rv W2 h k => by have := h.len k; have e : (RS.new b).data.length = b.length := rfl; omega
  generalize decodeV l b = R at HE ⊢
  generalize hq : readV l (RS.new b) = Q at HE HRL
  have HQ := hid hq
  clear hq
  generalize chkE l = E at HC HEL HRD HE
  obtain ⟨vln, vlp, vlr, rfl, hli, hln, hlp, hlr⟩ := (latRd_iff _ _ _).1 hl
  obtain ⟨aln, cln, rfl, _, mln⟩ := hln.shape
  obtain ⟨alp, clp, rfl, _, mlp⟩ := hlp.shape
  obtain ⟨alr, clr, rfl, _, mlr⟩ := hlr.shape
  obtain ⟨ba, bc, rfl, _, hbm⟩ := hb.shape
  clear hl hli hln hlp hlr hb hsz
  have HB : Hid (Below w.heap.size w ((w.alloc (.cells #[.int .i64 l.kind, .int .i64 l.lo, .int .i64 l.hi, .slice aln l.names.length cln, .slice alp l.parts.length clp, .slice alr l.rules.length clr] 26)).alloc (.cells #[.int .i64 0, .slice none 0 0, .slice none 0 0, .slice none 0 0] 30))) := hid (((Below.refl _ _).alloc (Nat.le_refl _) _).alloc (by simp) _)
  have HX : Hid (∀ w', Below (w.heap.size + 2) ((w.alloc (.cells #[.int .i64 l.kind, .int .i64 l.lo, .int .i64 l.hi, .slice aln l.names.length cln, .slice alp l.parts.length clp, .slice alr l.rules.length clr] 26)).alloc (.cells #[.int .i64 0, .slice none 0 0, .slice none 0 0, .slice none 0 0] 30)) w' → (∀ (i : Nat) v, #[.int .i64 l.kind, .int .i64 l.lo, .int .i64 l.hi, .slice aln l.names.length cln, .slice alp l.parts.length clp, .slice alr l.rules.length clr][i]? = some v → w'.cell? ⟨w.heap.size, i, none⟩ = some v) ∧ w'.heap[w.heap.size + 1]? = some (.cells #[.int .i64 0, .slice none 0 0, .slice none 0 0, .slice none 0 0] 30 (0, 0))) := hid fun w' h => ⟨(two_boxes w #[.int .i64 l.kind, .int .i64 l.lo, .int .i64 l.hi, .slice aln l.names.length cln, .slice alp l.parts.length clp, .slice alr l.rules.length clr] #[.int .i64 0, .slice none 0 0, .slice none 0 0, .slice none 0 0] 26 30 h).1, (h.block _ (by omega)).trans (heap_new_at _ _ _ (by simp))⟩
  go_enter Tryz.func27, Tryz.ntmps27
  go_wp2_with fail
  have HSZ : Hid (((w.alloc (.cells #[.int .i64 l.kind, .int .i64 l.lo, .int .i64 l.hi, .slice aln l.names.length cln, .slice alp l.parts.length clp, .slice alr l.rules.length clr] 26)).alloc (.cells #[.int .i64 0, .slice none 0 0, .slice none 0 0, .slice none 0 0] 30)).heap.size = w.heap.size + 2) := hid (by simp)
  generalize (w.alloc (.cells #[.int .i64 l.kind, .int .i64 l.lo, .int .i64 l.hi, .slice aln l.names.length cln, .slice alp l.parts.length clp, .slice alr l.rules.length clr] 26)).alloc (.cells #[.int .i64 0, .slice none 0 0, .slice none 0 0, .slice none 0 0] 30) = W2 at HB HX HSZ ⊢
  refine (HC.out _ HB.out).mono ?_
  rintro e w1 ⟨rfl, hb1⟩
  have HB1 : Hid (Below (w.heap.size + 2) W2 w1) := hid (hb1.mono (Nat.le_of_eq HSZ.out.symm))
  clear hb1
  have HUP : Hid (∀ {u : World}, Below (w.heap.size + 2) W2 u → Below w.heap.size w u) := hid fun h => HB.out.trans (h.mono (by omega))
  have HLE : Hid (∀ {u : World}, Below (w.heap.size + 2) W2 u → w.heap.size + 2 ≤ u.heap.size) := hid fun h => by have := h.size; have := HSZ.out; omega
  have f0 : w1.cell? ⟨w.heap.size, 0, none⟩ = some (.int .i64 l.kind) := (HX.out _ HB1.out).1 0 _ rfl
  have f1 : w1.cell? ⟨w.heap.size, 1, none⟩ = some (.int .i64 l.lo) := (HX.out _ HB1.out).1 1 _ rfl
  have f2 : w1.cell? ⟨w.heap.size, 2, none⟩ = some (.int .i64 l.hi) := (HX.out _ HB1.out).1 2 _ rfl
  have f3 : w1.cell? ⟨w.heap.size, 3, none⟩ = some (.slice aln l.names.length cln) := (HX.out _ HB1.out).1 3 _ rfl
  have f4 : w1.cell? ⟨w.heap.size, 4, none⟩ = some (.slice alp l.parts.length clp) := (HX.out _ HB1.out).1 4 _ rfl
  have f5 : w1.cell? ⟨w.heap.size, 5, none⟩ = some (.slice alr l.rules.length clr) := (HX.out _ HB1.out).1 5 _ rfl
  have r0 : w1.cell? ⟨w.heap.size + 1, 0, none⟩ = some (.int .i64 0) := cell_at_block (HX.out _ HB1.out).2
  have e0 : w1.frozen? ⟨w.heap.size + 1, 0, none⟩ = false := free_at_block (HX.out _ HB1.out).2
  have r1 : w1.cell? ⟨w.heap.size + 1, 1, none⟩ = some (.slice none 0 0) := cell_at_block (HX.out _ HB1.out).2
  have e1 : w1.frozen? ⟨w.heap.size + 1, 1, none⟩ = false := free_at_block (HX.out _ HB1.out).2
  have r2 : w1.cell? ⟨w.heap.size + 1, 2, none⟩ = some (.slice none 0 0) := cell_at_block (HX.out _ HB1.out).2
  have e2 : w1.frozen? ⟨w.heap.size + 1, 2, none⟩ = false := free_at_block (HX.out _ HB1.out).2
  have r3 : w1.cell? ⟨w.heap.size + 1, 3, none⟩ = some (.slice none 0 0) := cell_at_block (HX.out _ HB1.out).2
  have e3 : w1.frozen? ⟨w.heap.size + 1, 3, none⟩ = false := free_at_block (HX.out _ HB1.out).2
  by_cases hE : E = 0
  · have HEL2 := hid (HEL.out hE)
    have HRD2 := hid (HRD.out hE)
    have HE2 : Hid (R = if Q.2.ends ≠ 0 ∨ elemB l Q.1 = false then (zeroV, 2) else (Q.1, 0)) := hid (by rw [HE.out, if_neg (fun h => h hE)])
    subst hE
    clear HC HEL HRD HE f0 f1 f2 f3 f4 f5 r0 r1 r2 r3 e0 e1 e2 e3
    go_wp2_with fail
    refine (HNR.out _ (HUP.out HB1.out)).mono ?_
    rintro e w3 ⟨B, rv, rfl, hB, hrd, hb3⟩
    have HRA := hid hrd
    have HBB : Hid (w1.heap.size ≤ B ∧ B < w3.heap.size) := hid ⟨hB, block_lt hrd.blk⟩
    have HB3 : Hid (Below (w.heap.size + 2) W2 w3) := hid (HB1.out.trans (hb3.mono (HLE.out HB1.out)))
    clear hB hrd hb3
    have f0 : w3.cell? ⟨w.heap.size, 0, none⟩ = some (.int .i64 l.kind) := (HX.out _ HB3.out).1 0 _ rfl
    have f1 : w3.cell? ⟨w.heap.size, 1, none⟩ = some (.int .i64 l.lo) := (HX.out _ HB3.out).1 1 _ rfl
    have f2 : w3.cell? ⟨w.heap.size, 2, none⟩ = some (.int .i64 l.hi) := (HX.out _ HB3.out).1 2 _ rfl
    have f3 : w3.cell? ⟨w.heap.size, 3, none⟩ = some (.slice aln l.names.length cln) := (HX.out _ HB3.out).1 3 _ rfl
    have f4 : w3.cell? ⟨w.heap.size, 4, none⟩ = some (.slice alp l.parts.length clp) := (HX.out _ HB3.out).1 4 _ rfl
    have f5 : w3.cell? ⟨w.heap.size, 5, none⟩ = some (.slice alr l.rules.length clr) := (HX.out _ HB3.out).1 5 _ rfl
    have r0 : w3.cell? ⟨w.heap.size + 1, 0, none⟩ = some (.int .i64 0) := cell_at_block (HX.out _ HB3.out).2
    have e0 : w3.frozen? ⟨w.heap.size + 1, 0, none⟩ = false := free_at_block (HX.out _ HB3.out).2
    have r1 : w3.cell? ⟨w.heap.size + 1, 1, none⟩ = some (.slice none 0 0) := cell_at_block (HX.out _ HB3.out).2
    have e1 : w3.frozen? ⟨w.heap.size + 1, 1, none⟩ = false := free_at_block (HX.out _ HB3.out).2
    have r2 : w3.cell? ⟨w.heap.size + 1, 2, none⟩ = some (.slice none 0 0) := cell_at_block (HX.out _ HB3.out).2
    have e2 : w3.frozen? ⟨w.heap.size + 1, 2, none⟩ = false := free_at_block (HX.out _ HB3.out).2
    have r3 : w3.cell? ⟨w.heap.size + 1, 3, none⟩ = some (.slice none 0 0) := cell_at_block (HX.out _ HB3.out).2
    have e3 : w3.frozen? ⟨w.heap.size + 1, 3, none⟩ = false := free_at_block (HX.out _ HB3.out).2
    go_wp2_with fail
    refine (HRD2.out _ B rv (RS.new b) (HUP.out HB3.out) (by have := HLE.out HB1.out; have := HBB.out; omega) HRA.out HSB.out).mono ?_
    rintro e w4 ⟨cs4, rfl, hv4, hp4⟩
    rw [HQ.out] at hv4 hp4
    have HV4 := hid hv4
    have HP4 := hid hp4
    have HQL : Hid (Q.2.data.length ≤ 1000000000) := hid (HRL.out _ _ _ _ HRA.out hp4.1)
    have HB4 : Hid (Below (w.heap.size + 2) W2 w4) := hid ⟨hp4.2.os.trans HB3.out.os, hp4.2.tape.trans HB3.out.tape, hp4.2.output.trans HB3.out.output, Nat.le_trans HB3.out.size hp4.2.size, fun k hk => (hp4.2.block k (by have := HLE.out HB3.out; omega) (by have := HLE.out HB1.out; have := HBB.out; omega)).trans (HB3.out.block k hk)⟩
    clear hp4 f0 f1 f2 f3 f4 f5 r0 r1 r2 r3 e0 e1 e2 e3 HRD2 HNR
    obtain ⟨uxn, uxp, uxe, rfl, gxi, gxn, gxp, gxe⟩ := (valRd_iff _ _ _).1 hv4
    obtain ⟨bxn, dxn, rfl, _, nxn⟩ := gxn.shape
    obtain ⟨bxp, dxp, rfl, _, nxp⟩ := gxp.shape
    obtain ⟨bxe, dxe, rfl, _, nxe⟩ := gxe.shape
    clear hv4 gxi gxn gxp gxe
    have HRB4 : Hid (∀ O, RdAt (w4.alloc O) B rv Q.2) := hid fun O => HP4.out.1.below ((Below.refl _ _).alloc (Nat.le_refl _) O)
    go_wp2_with fail
    refine (rEnd_any B rv Q.2 _ (HRB4.out _) HQL.out).mono ?_
    rintro e w5 ⟨rfl, q5, rfl⟩
    have HB6 : Hid (Below (w.heap.size + 2) W2 ((w4.alloc (.cells #[.int .i64 Q.1.n, .slice bxn Q.1.names.length dxn, .slice bxp Q.1.parts.length dxp, .slice bxe Q.1.entries.length dxe] 30)).drewN q5)) := hid (below_drewN' (HB4.out.alloc (HLE.out HB4.out) _) _)
    have HVX : Hid (∀ u, Below ((w4.alloc (.cells #[.int .i64 Q.1.n, .slice bxn Q.1.names.length dxn, .slice bxp Q.1.parts.length dxp, .slice bxe Q.1.entries.length dxe] 30)).drewN q5).heap.size ((w4.alloc (.cells #[.int .i64 Q.1.n, .slice bxn Q.1.names.length dxn, .slice bxp Q.1.parts.length dxp, .slice bxe Q.1.entries.length dxe] 30)).drewN q5) u → valRd (only (from_ w3.heap.size) u) Q.1 [.int .i64 Q.1.n, .slice bxn Q.1.names.length dxn, .slice bxp Q.1.parts.length dxp, .slice bxe Q.1.entries.length dxe]) := hid fun u hu => valRd_mono' (only_keep fun g hg hl => ⟨hg, by
      have h2 : Below w4.heap.size w4 u := ((below_drewN' ((Below.refl _ _).alloc (Nat.le_refl _) _) q5).trans (hu.mono (below_drewN' ((Below.refl _ _).alloc (Nat.le_refl _) _) q5).size))
      exact h2.block g hl⟩) HV4.out
    have HXB : Hid (∀ u, Below ((w4.alloc (.cells #[.int .i64 Q.1.n, .slice bxn Q.1.names.length dxn, .slice bxp Q.1.parts.length dxp, .slice bxe Q.1.entries.length dxe] 30)).drewN q5).heap.size ((w4.alloc (.cells #[.int .i64 Q.1.n, .slice bxn Q.1.names.length dxn, .slice bxp Q.1.parts.length dxp, .slice bxe Q.1.entries.length dxe] 30)).drewN q5) u → ∀ (i : Nat) v, #[.int .i64 Q.1.n, .slice bxn Q.1.names.length dxn, .slice bxp Q.1.parts.length dxp, .slice bxe Q.1.entries.length dxe][i]? = some v → u.cell? ⟨w4.heap.size, i, none⟩ = some v) := hid fun u hu i v hv => by
      have h0 : ((w4.alloc (.cells #[.int .i64 Q.1.n, .slice bxn Q.1.names.length dxn, .slice bxp Q.1.parts.length dxp, .slice bxe Q.1.entries.length dxe] 30)).drewN q5).cell? ⟨w4.heap.size, i, none⟩ = some v := ((below_drewN' (Below.refl (w4.alloc (.cells #[.int .i64 Q.1.n, .slice bxn Q.1.names.length dxn, .slice bxp Q.1.parts.length dxp, .slice bxe Q.1.entries.length dxe] 30)).heap.size _) q5).cell (by simp)).trans (by rw [World.cell?_alloc_at _ _ _ _ rfl]; exact hv)
      exact (hu.cell (World.block_lt_of_cell? _ _ h0)).trans h0
    generalize (w4.alloc (.cells #[.int .i64 Q.1.n, .slice bxn Q.1.names.length dxn, .slice bxp Q.1.parts.length dxp, .slice bxe Q.1.entries.length dxe] 30)).drewN q5 = w6 at HXB HVX HB6 ⊢
    have HL3 : Hid (w.heap.size + 2 ≤ w3.heap.size) := hid (HLE.out HB3.out)
    clear HRB4 HP4 HQL
    have f0 : w6.cell? ⟨w.heap.size, 0, none⟩ = some (.int .i64 l.kind) := (HX.out _ HB6.out).1 0 _ rfl
    have f1 : w6.cell? ⟨w.heap.size, 1, none⟩ = some (.int .i64 l.lo) := (HX.out _ HB6.out).1 1 _ rfl
    have f2 : w6.cell? ⟨w.heap.size, 2, none⟩ = some (.int .i64 l.hi) := (HX.out _ HB6.out).1 2 _ rfl
    have f3 : w6.cell? ⟨w.heap.size, 3, none⟩ = some (.slice aln l.names.length cln) := (HX.out _ HB6.out).1 3 _ rfl
    have f4 : w6.cell? ⟨w.heap.size, 4, none⟩ = some (.slice alp l.parts.length clp) := (HX.out _ HB6.out).1 4 _ rfl
    have f5 : w6.cell? ⟨w.heap.size, 5, none⟩ = some (.slice alr l.rules.length clr) := (HX.out _ HB6.out).1 5 _ rfl
    have r0 : w6.cell? ⟨w.heap.size + 1, 0, none⟩ = some (.int .i64 0) := cell_at_block (HX.out _ HB6.out).2
    have e0 : w6.frozen? ⟨w.heap.size + 1, 0, none⟩ = false := free_at_block (HX.out _ HB6.out).2
    have r1 : w6.cell? ⟨w.heap.size + 1, 1, none⟩ = some (.slice none 0 0) := cell_at_block (HX.out _ HB6.out).2
    have e1 : w6.frozen? ⟨w.heap.size + 1, 1, none⟩ = false := free_at_block (HX.out _ HB6.out).2
    have r2 : w6.cell? ⟨w.heap.size + 1, 2, none⟩ = some (.slice none 0 0) := cell_at_block (HX.out _ HB6.out).2
    have e2 : w6.frozen? ⟨w.heap.size + 1, 2, none⟩ = false := free_at_block (HX.out _ HB6.out).2
    have r3 : w6.cell? ⟨w.heap.size + 1, 3, none⟩ = some (.slice none 0 0) := cell_at_block (HX.out _ HB6.out).2
    have e3 : w6.frozen? ⟨w.heap.size + 1, 3, none⟩ = false := free_at_block (HX.out _ HB6.out).2
    have b0 := HXB.out _ (Below.refl _ _) 0 _ rfl
    have b1 := HXB.out _ (Below.refl _ _) 1 _ rfl
    have b2 := HXB.out _ (Below.refl _ _) 2 _ rfl
    have b3 := HXB.out _ (Below.refl _ _) 3 _ rfl
    by_cases hQ : Q.2.ends = 0
    · have hQb : (Q.2.ends != 0) = false := by rw [hQ]; rfl
      have HE3 : Hid (R = if elemB l Q.1 = false then (zeroV, 2) else (Q.1, 0)) := hid (by
        rw [HE2.out]
        by_cases h : elemB l Q.1 = false
        · rw [if_pos h, if_pos (.inr h)]
        · rw [if_neg h, if_neg (by rintro (h' | h'); exact h' hQ; exact h h')])
      clear hQ HE2
      go_wp2_with fail
      refine (HEL2.out _ Q.1 [.int .i64 Q.1.n, .slice bxn Q.1.names.length dxn, .slice bxp Q.1.parts.length dxp, .slice bxe Q.1.entries.length dxe] (HUP.out HB6.out) (valRd_mono' (only_sub _ _) (HVX.out _ (Below.refl _ _)))).mono ?_
      rintro e w7 ⟨rfl, hb7⟩
      have HB67 : Hid (Below w6.heap.size w6 w7) := hid hb7
      have HB7 : Hid (Below (w.heap.size + 2) W2 w7) := hid (HB6.out.trans (hb7.mono (HLE.out HB6.out)))
      clear hb7 f0 f1 f2 f3 f4 f5 r0 r1 r2 r3 e0 e1 e2 e3 b0 b1 b2 b3
      have f0 : w7.cell? ⟨w.heap.size, 0, none⟩ = some (.int .i64 l.kind) := (HX.out _ HB7.out).1 0 _ rfl
      have f1 : w7.cell? ⟨w.heap.size, 1, none⟩ = some (.int .i64 l.lo) := (HX.out _ HB7.out).1 1 _ rfl
      have f2 : w7.cell? ⟨w.heap.size, 2, none⟩ = some (.int .i64 l.hi) := (HX.out _ HB7.out).1 2 _ rfl
      have f3 : w7.cell? ⟨w.heap.size, 3, none⟩ = some (.slice aln l.names.length cln) := (HX.out _ HB7.out).1 3 _ rfl
      have f4 : w7.cell? ⟨w.heap.size, 4, none⟩ = some (.slice alp l.parts.length clp) := (HX.out _ HB7.out).1 4 _ rfl
      have f5 : w7.cell? ⟨w.heap.size, 5, none⟩ = some (.slice alr l.rules.length clr) := (HX.out _ HB7.out).1 5 _ rfl
      have r0 : w7.cell? ⟨w.heap.size + 1, 0, none⟩ = some (.int .i64 0) := cell_at_block (HX.out _ HB7.out).2
      have e0 : w7.frozen? ⟨w.heap.size + 1, 0, none⟩ = false := free_at_block (HX.out _ HB7.out).2
      have r1 : w7.cell? ⟨w.heap.size + 1, 1, none⟩ = some (.slice none 0 0) := cell_at_block (HX.out _ HB7.out).2
      have e1 : w7.frozen? ⟨w.heap.size + 1, 1, none⟩ = false := free_at_block (HX.out _ HB7.out).2
      have r2 : w7.cell? ⟨w.heap.size + 1, 2, none⟩ = some (.slice none 0 0) := cell_at_block (HX.out _ HB7.out).2
      have e2 : w7.frozen? ⟨w.heap.size + 1, 2, none⟩ = false := free_at_block (HX.out _ HB7.out).2
      have r3 : w7.cell? ⟨w.heap.size + 1, 3, none⟩ = some (.slice none 0 0) := cell_at_block (HX.out _ HB7.out).2
      have e3 : w7.frozen? ⟨w.heap.size + 1, 3, none⟩ = false := free_at_block (HX.out _ HB7.out).2
      have b0 := HXB.out _ HB67.out 0 _ rfl
      have b1 := HXB.out _ HB67.out 1 _ rfl
      have b2 := HXB.out _ HB67.out 2 _ rfl
      have b3 := HXB.out _ HB67.out 3 _ rfl
      cases hF : elemB l Q.1
      · have HR : Hid (R = (zeroV, 2)) := hid (by rw [HE3.out, if_pos hF])
        clear hF HE3
        have HBF := hid (below_sets (b := w.heap.size + 1) (HUP.out HB7.out) (by omega) (.int .i64 0) (.slice none 0 0) (.slice none 0 0) (.slice none 0 0))
        go_wp2_with fail
        refine bodyPost_ret (v := .tuple #[.agg #[.int .i64 0, .slice none 0 0, .slice none 0 0, .slice none 0 0], .int .i64 2]) (by simp [results, Tryz.results27, go_sem, r0, r1, r2, r3, e0, e1, e2, e3]) rfl ?_
        rw [HR.out]
        exact ⟨_, rfl, zeroV_rd _, HBF.out⟩
      · have HR : Hid (R = (Q.1, 0)) := hid (by rw [HE3.out, if_neg (by rw [hF]; decide)])
        clear hF HE3
        have HV7 := hid (HVX.out _ HB67.out)
        have HBF := hid (below_sets (b := w.heap.size + 1) (HUP.out HB7.out) (by omega) (.int .i64 Q.1.n) (.slice bxn Q.1.names.length dxn) (.slice bxp Q.1.parts.length dxp) (.slice bxe Q.1.entries.length dxe))
        go_wp2_with fail
        refine bodyPost_ret (v := .tuple #[.agg #[.int .i64 Q.1.n, .slice bxn Q.1.names.length dxn, .slice bxp Q.1.parts.length dxp, .slice bxe Q.1.entries.length dxe], .int .i64 0]) (by simp [results, Tryz.results27, go_sem, r0, r1, r2, r3, e0, e1, e2, e3]) rfl ?_
        rw [HR.out]
        exact ⟨_, rfl, valRd_mono' ((sub_sets w7 (w.heap.size + 1) w3.heap.size (by have := HL3.out; omega) _ _ _ _).trans (only_from_mono _ (by have := HL3.out; omega))) HV7.out, HBF.out⟩
    · have hQb : (Q.2.ends != 0) = true := by simpa using hQ
      have HR : Hid (R = (zeroV, 2)) := hid (by rw [HE2.out, if_pos (.inl hQ)])
      clear hQ HE2
      have HBF := hid (below_sets (b := w.heap.size + 1) (HUP.out HB6.out) (by omega) (.int .i64 0) (.slice none 0 0) (.slice none 0 0) (.slice none 0 0))
      go_wp2_with fail
      refine bodyPost_ret (v := .tuple #[.agg #[.int .i64 0, .slice none 0 0, .slice none 0 0, .slice none 0 0], .int .i64 2]) (by simp [results, Tryz.results27, go_sem, r0, r1, r2, r3, e0, e1, e2, e3]) rfl ?_
      rw [HR.out]
      exact ⟨_, rfl, zeroV_rd _, HBF.out⟩
  · have hEb : (E != 0) = true := by simpa using hE
    have HR : Hid (R = (zeroV, 1)) := hid (by rw [HE.out, if_pos hE])
    clear hE HC HEL HRD HE
    have HBF := hid (below_sets (b := w.heap.size + 1) (HUP.out HB1.out) (by omega) (.int .i64 0) (.slice none 0 0) (.slice none 0 0) (.slice none 0 0))
    go_wp2_with fail
    refine bodyPost_ret (v := .tuple #[.agg #[.int .i64 0, .slice none 0 0, .slice none 0 0, .slice none 0 0], .int .i64 1]) (by simp [results, Tryz.results27, go_sem, r0, r1, r2, r3, e0, e1, e2, e3]) rfl ?_
    rw [HR.out]
    exact ⟨_, rfl, zeroV_rd _, HBF.out⟩
end Go.Proofs.YtmdjnaobllajmaaGreatDoor

/- The walk of value.trivial. -/
namespace Go.Proofs.YtmdjnaobllajmaaGreatDoor
open Go.RowKit

mutual
def trivB : Lat → Bool
  | .mk k lo hi _ ps _ => if k = 2 ∨ k = 3 then decide (lo = hi) else if k = 5 ∨ k = 6 ∨ k = 7 then trivBs ps else false
def trivBs : List Lat → Bool
  | [] => true
  | p :: t => trivB p && trivBs t
end
def idxT : List Lat → Nat → Int
  | [], _ => -1
  | p :: t, k => if trivB p then idxT t (k + 1) else k
theorem idxT_cases : ∀ (l : List Lat) (k : Nat), (idxT l k = -1 ∧ trivBs l = true) ∨ (0 ≤ idxT l k ∧ trivBs l = false)
  | [], k => .inl ⟨rfl, by rw [trivBs]⟩
  | p :: t, k => by
    rw [idxT, trivBs]
    cases h : trivB p
    · rw [if_neg (by decide)]
      exact .inr ⟨by omega, rfl⟩
    · rw [if_pos (by rfl), Bool.true_and]
      exact idxT_cases t (k + 1)
theorem idxT_geq (l : List Lat) : (decide ((0 : Int) ≤ idxT l 0)) = !trivBs l := by
  rcases idxT_cases l 0 with ⟨h, h'⟩ | ⟨h, h'⟩
  · rw [h, h']; rfl
  · rw [h', decide_eq_true h]; rfl
theorem idxT_drop (l : List Lat) (j : Nat) (h : j < l.length) : idxT (l.drop j) j = if trivB l[j] then idxT (l.drop (j + 1)) (j + 1) else j := by
  rw [drop_consS l j h, idxT]

def TrivOk (l : Lat) : Prop := ∀ (cl : List Value) (w : World), latRd w l cl → Calls Tryz.prog 72 #[.agg cl.toArray] w fun e w' => e = .returned (.bool (trivB l)) ∧ Below w.heap.size w w'

set_option maxHeartbeats 1000000 in
theorem trivF_any (l : Lat) (ih : TrivOk l) (cl : List Value) (w : World) (hl : latRd w l cl) : Calls Tryz.prog 126 #[.agg cl.toArray] w fun e w' => e = .returned (.bool (!trivB l)) ∧ Below w.heap.size w w' := by
  have HC := hid fun (W : World) (h : Below w.heap.size w W) => ih cl W (latRd.below h _ _ hl)
  have HB : Hid (∀ O, Below w.heap.size w (w.alloc O)) := hid fun O => (Below.refl _ _).alloc (Nat.le_refl _) O
  obtain ⟨vln, vlp, vlr, rfl, hli, hln, hlp, hlr⟩ := (latRd_iff _ _ _).1 hl
  obtain ⟨aln, cln, rfl, _, mln⟩ := hln.shape
  obtain ⟨alp, clp, rfl, _, mlp⟩ := hlp.shape
  obtain ⟨alr, clr, rfl, _, mlr⟩ := hlr.shape
  clear hl hli hln hlp hlr ih
  generalize trivB l = T at HC ⊢
  go_enter Tryz.func126, Tryz.ntmps126
  go_wp2_with fail
  refine (HC.out _ (HB.out _)).mono ?_
  rintro e w1 ⟨rfl, hb1⟩
  have HB1 := hid ((HB.out _).trans (hb1.mono (HB.out _).size))
  clear hb1
  go_wp2_with fail
  go_ret
  exact ⟨rfl, HB1.out⟩

set_option maxRecDepth 100000 in
set_option maxHeartbeats 2000000 in
theorem trivIdx_any (v : Value) (ps : List Lat) (ih : ∀ p ∈ ps, TrivOk p) (w : World) (hv : SlRd w 6 (latRd w) v ps) :
    Calls Tryz.prog 157 #[v, .func (.func 126) #[] #[]] w fun e w' => e = .returned (.int .i64 (idxT ps 0)) ∧ Below w.heap.size w w' := by
  have HV := hid hv
  have IH := hid ih
  obtain ⟨a, cp, rfl, _, hm⟩ := hv.shape
  have HE : Hid (idxT ps 0 = idxT (ps.drop 0) 0) := hid rfl
  generalize idxT ps 0 = R at HE ⊢
  clear hv ih
  go_enter Tryz.func157, Tryz.ntmps157
  go_wp2_with fail
  go_loopw [5, 8] (fun _ i wr => ∃ (j : Nat), j ≤ ps.length ∧ i = .int .i64 j ∧ Hid (Below w.heap.size w wr) ∧ Hid (R = idxT (ps.drop j) j)) (fun _ i _ => ps.length - (intOf i).toNat)
  case atStart => exact ⟨0, Nat.zero_le _, rfl, hid (Below.refl _ _), HE⟩
  case round =>
    obtain ⟨j, hj, rfl, HW, He⟩ := hrel
    by_cases hlt : j < ps.length
    · obtain ⟨b, o, cs, ha, hl0, hcs, hlp⟩ := HV.out.at j hlt
      subst ha
      have HLP := hid hlp
      obtain ⟨vxn, vxp, vxr, rfl, hxi, hxn, hxp, hxr⟩ := (latRd_iff _ _ _).1 hlp
      obtain ⟨axn, cxn, rfl, _, mxn⟩ := hxn.shape
      obtain ⟨axp, cxp, rfl, _, mxp⟩ := hxp.shape
      obtain ⟨axr, cxr, rfl, _, mxr⟩ := hxr.shape
      obtain ⟨f0, f1, f2, f3, f4, f5⟩ := (hcs.below HW.out).six
      have HS : Hid (R = if trivB ps[j] then idxT (ps.drop (j + 1)) (j + 1) else j) := hid (by rw [He.out, idxT_drop ps j hlt])
      clear hlp hcs hxi hxn hxp hxr
      go_wp2_with fail
      refine (trivF_any ps[j] (IH.out _ (List.getElem_mem hlt)) [.int .i64 ps[j].kind, .int .i64 ps[j].lo, .int .i64 ps[j].hi, .slice axn ps[j].names.length cxn, .slice axp ps[j].parts.length cxp, .slice axr ps[j].rules.length cxr] _ (latRd.below HW.out _ _ HLP.out)).mono ?_
      rintro e w1 ⟨rfl, hb1⟩
      have HW1 : Hid (Below w.heap.size w w1) := hid (HW.out.trans (hb1.mono HW.out.size))
      clear hb1 f0 f1 f2 f3 f4 f5
      cases ht : trivB ps[j]
      · have HR : Hid (R = j) := hid (by rw [HS.out, ht]; rfl)
        clear ht
        go_wp2_with fail
        go_ret
        exact ⟨ret_int HR.out.symm, HW1.out⟩
      · have HR : Hid (R = idxT (ps.drop (j + 1)) (j + 1)) := hid (by rw [HS.out, ht]; rfl)
        clear ht
        go_wp2_with fail
        go_roundw
        case rel => exact ⟨j + 1, by omega, by go_num, HW1, HR⟩
        case measure => simp [intOf]; omega
    · have HR : Hid (R = -1) := hid (by rw [He.out, show ps.drop j = [] from List.drop_eq_nil_of_le (by omega)]; rfl)
      go_wp2_with fail
      go_ret
      exact ⟨ret_int HR.out.symm, HW.out⟩

set_option maxHeartbeats 1000000 in
theorem trivHas_any (v : Value) (ps : List Lat) (ih : ∀ p ∈ ps, TrivOk p) (w : World) (hv : SlRd w 6 (latRd w) v ps) :
    Calls Tryz.prog 125 #[v, .func (.func 126) #[] #[]] w fun e w' => e = .returned (.bool (!trivBs ps)) ∧ Below w.heap.size w w' := by
  have HC := hid (trivIdx_any v ps ih w hv)
  have HG := hid (idxT_geq ps)
  obtain ⟨a, cp, rfl, _, hm⟩ := hv.shape
  clear hv ih
  generalize trivBs ps = T at HG ⊢
  generalize idxT ps 0 = I at HC HG
  go_enter Tryz.func125, Tryz.ntmps125
  go_wp2_with fail
  refine HC.out.mono ?_
  rintro e w1 ⟨rfl, hb1⟩
  have HB1 := hid hb1
  clear hb1
  go_wp2_with fail
  go_ret
  exact ⟨by rw [← HG.out]; simp, HB1.out⟩

theorem sizeOf_lp {l p : Lat} (h : p ∈ l.parts) : SizeOf.sizeOf p < SizeOf.sizeOf l := by
  cases l
  have := List.sizeOf_lt_of_mem h
  simp only [Lat.parts] at this
  simp only [Lat.mk.sizeOf_spec]
  omega
theorem beqI' (a b : Int) : (a == b) = decide (a = b) := by
  by_cases h : a = b
  · subst h; simp
  · rw [decide_eq_false h]; simpa using h
set_option maxRecDepth 100000 in
set_option maxHeartbeats 2000000 in
theorem trivial_any (f : Nat) : ∀ l : Lat, SizeOf.sizeOf l ≤ f → TrivOk l := by
  induction f with
  | zero => intro l hn; cases l; simp at hn
  | succ f ih =>
    intro l hn cl w hl
    have IH : Hid (∀ p ∈ l.parts, TrivOk p) := hid fun p hp => ih p (by have := sizeOf_lp hp; omega)
    obtain ⟨vln, vlp, vlr, rfl, hli, hln, hlp, hlr⟩ := (latRd_iff _ _ _).1 hl
    obtain ⟨aln, cln, rfl, _, mln⟩ := hln.shape
    obtain ⟨alp, clp, rfl, _, mlp⟩ := hlp.shape
    obtain ⟨alr, clr, rfl, _, mlr⟩ := hlr.shape
    obtain ⟨k, lo, hi, ns, ps, rs⟩ := l
    simp only [Lat.kind, Lat.lo, Lat.hi, Lat.names, Lat.parts, Lat.rules] at hli hln hlp hlr mln mlp mlr IH ⊢
    have HPS := hid hlp
    have HT : Hid (trivB (.mk k lo hi ns ps rs) = if k = 2 ∨ k = 3 then decide (lo = hi) else if k = 5 ∨ k = 6 ∨ k = 7 then trivBs ps else false) := hid (by rw [trivB])
    generalize trivB (.mk k lo hi ns ps rs) = T at HT ⊢
    clear hl hn ih hli hln hlp hlr
    have HB : Hid (∀ O, Below w.heap.size w (w.alloc O)) := hid fun O => (Below.refl _ _).alloc (Nat.le_refl _) O
    by_cases h23 : k = 2 ∨ k = 3
    · have HR : Hid (T = decide (lo = hi)) := hid (by rw [HT.out, if_pos h23])
      clear HT
      rcases h23 with rfl | rfl
      all_goals
        go_enter Tryz.func72, Tryz.ntmps72
        go_wp2_with fail
        go_ret
        exact ⟨ret_bool (by rw [HR.out, ← beqI']), HB.out _⟩
    by_cases h567 : k = 5 ∨ k = 6 ∨ k = 7
    · have HR : Hid (T = trivBs ps) := hid (by rw [HT.out, if_neg h23, if_pos h567])
      clear HT h23
      have HC : Hid (∀ W, Below w.heap.size w W → Calls Tryz.prog 125 #[.slice alp ps.length clp, .func (.func 126) #[] #[]] W fun e w' => e = .returned (.bool (!T)) ∧ Below W.heap.size W w') := hid fun W h => by
        rw [HR.out]
        exact trivHas_any _ ps IH.out W (SlRd.below HPS.out h fun _ _ _ h' => latRd.below h _ _ h')
      clear HR
      rcases h567 with rfl | rfl | rfl
      all_goals
        go_enter Tryz.func72, Tryz.ntmps72
        go_wp2_with fail
        refine (HC.out _ (HB.out _)).mono ?_
        rintro e w1 ⟨rfl, hb1⟩
        have HB1 := hid ((HB.out _).trans (hb1.mono (HB.out _).size))
        clear hb1
        go_wp2_with fail
        go_ret
        exact ⟨by simp, HB1.out⟩
    · have HR : Hid (T = false) := hid (by rw [HT.out, if_neg h23, if_neg h567])
      have e2 : (k == 2) = false := by simp; omega
      have e3 : (k == 3) = false := by simp; omega
      have e5 : (k == 5) = false := by simp; omega
      have e6 : (k == 6) = false := by simp; omega
      have e7 : (k == 7) = false := by simp; omega
      clear h23 h567 HT
      go_enter Tryz.func72, Tryz.ntmps72
      go_wp2_with fail
      go_ret
      exact ⟨ret_bool HR.out.symm, HB.out _⟩
end Go.Proofs.YtmdjnaobllajmaaGreatDoor

/- The walk of slices.Clone at []string; the state of value.top. -/
namespace Go.Proofs.YtmdjnaobllajmaaGreatDoor
open Go.RowKit

mutual
def topV : Lat → Val × Bool
  | .mk k lo hi ns ps _ => if k = 1 then (.mk 1 [] [] [], true) else if k = 2 then (.mk hi [] [] [], true) else if k = 3 then (.mk lo [] [] [], true) else if k = 8 then (.mk 2 [] [] [], true)
    else if k = 4 ∨ k = 10 then (.mk 0 ns [] [], decide (0 < ns.length)) else if k = 9 then (zeroV, false)
    else if k = 5 then topMap ns ps else if topOk ps then (.mk 0 [] (topVs ps) [], true) else (zeroV, false)
def topMap : List ByteArray → List Lat → Val × Bool
  | _, [] => (zeroV, true)
  | ns, p :: _ => if trivB p then (zeroV, true) else if (topV p).2 = false ∨ ns.length = 0 then (zeroV, false) else (.mk 0 ns (List.replicate ns.length (topV p).1) [], true)
def topVs : List Lat → List Val
  | [] => []
  | p :: t => (topV p).1 :: topVs t
def topOk : List Lat → Bool
  | [] => true
  | p :: t => (topV p).2 && topOk t
end
theorem topVs_eq : ∀ l, topVs l = l.map fun p => (topV p).1
  | [] => by rw [topVs]; rfl
  | p :: t => by rw [topVs, topVs_eq t]; rfl
theorem topOk_eq : ∀ l, topOk l = l.all fun p => (topV p).2
  | [] => by rw [topOk]; rfl
  | p :: t => by rw [topOk, topOk_eq t]; rfl
def TopPost (w : World) (x : Val × Bool) (e : Ending) (w' : World) : Prop := ∃ cs, e = .returned (.tuple #[.agg cs.toArray, .bool x.2]) ∧ valRd (only (from_ w.heap.size) w') x.1 cs ∧ Below w.heap.size w w'

/-- A slice of strings as a source. -/
theorem Src.of_strs {w : World} {a : Option Addr} {n cap : Nat} {l : List ByteArray} (h : Strs w (.slice a n cap) l) : Src w 1 (.slice a n cap) l.length (l.map Value.string) := by
  obtain ⟨a', c', hv, hn, hm, hc⟩ := h
  cases hv
  refine ⟨a, cap, rfl, by simp, fun e => ?_, fun ad had j q hq => ?_, fun q hq => ?_⟩
  · have := hn.1 e
    have := hn.2
    exact ⟨by omega, by omega⟩
  · have hj : j < l.length := by
      rcases Nat.lt_or_ge j l.length with h | h
      · exact h
      · rw [List.getElem?_eq_none (by simpa using h)] at hq; cases hq
    obtain ⟨b, o, cs, ha, hl, hcs, hr, _⟩ := hc j hj
    rw [had] at ha
    cases ha
    subst hr
    rw [addr_add]
    have := hcs 0 (by simp)
    simp only [List.getElem_cons_zero, Nat.mul_one, Nat.add_zero] at this
    rw [this]
    rw [List.getElem?_eq_getElem (by simpa using hj), List.getElem_map] at hq
    exact hq
  · obtain ⟨s, _, rfl⟩ := List.mem_map.1 hq
    rfl
theorem strs_le {w : World} {v : Value} {l : List ByteArray} (h : Strs w v l) : ∀ s ∈ l, s.size ≤ maxLen := fun s hs => by
  obtain ⟨a', c', hv, hn, hm, hc⟩ := h
  obtain ⟨i, hi, rfl⟩ := List.getElem_of_mem hs
  obtain ⟨b, o, cs, ha, hl, hcs, hr, hq⟩ := hc i hi
  exact hq
/-- The world's new strings. -/
theorem strs_owns {w : World} {base : Nat} {v : Value} {l : List ByteArray} (h : w.ownsRow base 9 1 v l.length (l.map Value.string)) (hl : ∀ s ∈ l, s.size ≤ maxLen) : Strs (only (from_ base) w) v l := by
  have hR : Rws w base 9 1 (fun _ => strRd) v l (l.map fun s => [Value.string s]) := ⟨by
    have e : (l.map fun s => [Value.string s]).flatten = l.map Value.string := by
      rw [← List.flatMap_def]
      clear h hl
      induction l with
      | nil => rfl
      | cons x t ih => rw [List.flatMap_cons, ih]; rfl
    rw [e]; exact h, by simp, fun cs hc => by obtain ⟨s, _, rfl⟩ := List.mem_map.1 hc; rfl, fun i hi hi' => by rw [List.getElem_map]; exact ⟨rfl, hl _ (List.getElem_mem hi)⟩⟩
  exact hR.reads fun _ h => h

def StrsPost (w : World) (l : List ByteArray) (e : Ending) (w' : World) : Prop := ∃ a c, e = .returned (.slice a l.length c) ∧ Strs (only (from_ w.heap.size) w') (.slice a l.length c) l ∧ Below w.heap.size w w'
set_option maxRecDepth 100000 in
set_option maxHeartbeats 2000000 in
theorem clone_any (v : Value) (l : List ByteArray) (w : World) (hv : Strs w v l) (hl : l.length ≤ 1000000000) : Calls Tryz.prog 71 #[v] w (StrsPost w l) := by
  obtain ⟨i0, hi0, hz0, hz1, hz2⟩ := info_parts infoString
  obtain ⟨a, c, rfl, hcap, hm⟩ := hv.shape
  have HV := hid hv
  have HM := hid hl
  have HLE := hid (strs_le hv)
  have HN : Hid (a = none → l = [] ∧ c = 0) := hid fun e => by
    obtain ⟨a', c', hq, hn, _⟩ := hv
    cases hq
    have h1 := hn.1 e
    exact ⟨List.eq_nil_of_length_eq_zero (by omega), h1⟩
  clear hv hl
  show Calls _ _ _ _ fun e w' => Hid (StrsPost w l e w')
  cases a with
  | none =>
    obtain ⟨rfl, rfl⟩ := HN.out rfl
    have hnil := run_eql_nil_slice (P := Tryz.prog) w 22 9 none 0 0 0 0 Tryz.underlying22
    go_enter Tryz.func71, Tryz.ntmps71
    go_wp2_with fail
    go_ret
    exact hid ⟨_, _, rfl, sl_none _ _ _, Below.refl _ _⟩
  | some ad =>
    have hnil := Lib.run_eql_slice_nil (P := Tryz.prog) w 22 9 (some ad) l.length c 0 0 Tryz.underlying22
    have HSRC : Hid (∀ O, Src (w.alloc O) 1 (.slice (some ad) l.length c) l.length (l.map Value.string)) := hid fun O => Src.of_strs (Strs.below HV.out ((Below.refl _ _).alloc (Nat.le_refl _) O))
    go_enter Tryz.func71, Tryz.ntmps71
    go_wp2_with (at_builtin; refine wpList_append rfl (.tmp 5) (.tmp 6) 22 rfl w.heap.size 9 1 16 Tryz.underlying22 hi0 hz0 hz1 hz2 rfl (by decide) (.slice (some ⟨w.heap.size, 0, none⟩) 0 0) 0 [] rfl (owns_made #[] 0 (heap_alloc_new w _) (Nat.le_refl _) rfl (by decide)) (.slice (some ad) l.length c) l.length (l.map Value.string) rfl (HSRC.out _) l.length (Nat.zero_add _) (l.map Value.string) rfl (by have := HM.out; unfold maxLen; omega) (by have := HM.out; omega) (by simp) ?_; intro na nc w2 had; have HAD := hid had; clear had)
    go_ret
    exact hid ⟨_, _, rfl, strs_owns HAD.out.own HLE.out, ((Below.refl _ _).alloc (Nat.le_refl _) _).grown HAD.out.grown (by simp) (fun g hg => by simp [Value.ownBlock] at hg; omega)⟩

/-- Within a call: the given description's block, the result's and the value's. -/
structure BvSt (w wr : World) (lc : Array Value) (n vn vp ve : Value) : Prop where
  box : wr.heap[w.heap.size]? = some (.cells lc 26 (0, 0))
  res : wr.heap[w.heap.size + 1]? = some (.cells #[.int .i64 0, .slice none 0 0, .slice none 0 0, .slice none 0 0] 30 (0, 0))
  val : wr.heap[w.heap.size + 1 + 1]? = some (.cells #[n, vn, vp, ve] 30 (0, 0))
  bel : Below w.heap.size w wr
section
variable {w wr w1 : World} {lc : Array Value} {n vn vp ve : Value}
theorem BvSt.cellL (h : BvSt w wr lc n vn vp ve) {i : Nat} {v : Value} (e : lc[i]? = some v) : wr.cell? ⟨w.heap.size, i, none⟩ = some v := (cell_at_block h.box).trans e
theorem BvSt.cellR (h : BvSt w wr lc n vn vp ve) {i : Nat} {v : Value} (e : (#[.int .i64 0, .slice none 0 0, .slice none 0 0, .slice none 0 0] : Array Value)[i]? = some v) : wr.cell? ⟨w.heap.size + 1, i, none⟩ = some v := (cell_at_block h.res).trans e
theorem BvSt.cellV (h : BvSt w wr lc n vn vp ve) {i : Nat} {v : Value} (e : (#[n, vn, vp, ve] : Array Value)[i]? = some v) : wr.cell? ⟨w.heap.size + 1 + 1, i, none⟩ = some v := (cell_at_block h.val).trans e
theorem BvSt.freeR (h : BvSt w wr lc n vn vp ve) (i : Nat) : wr.frozen? ⟨w.heap.size + 1, i, none⟩ = false := free_at_block h.res
theorem BvSt.freeV (h : BvSt w wr lc n vn vp ve) (i : Nat) : wr.frozen? ⟨w.heap.size + 1 + 1, i, none⟩ = false := free_at_block h.val
theorem BvSt.big (h : BvSt w wr lc n vn vp ve) : w.heap.size + 3 ≤ wr.heap.size := block_lt h.val
theorem BvSt.far (h : BvSt w wr lc n vn vp ve) (k : Below (w.heap.size + 3) wr w1) : BvSt w w1 lc n vn vp ve :=
  ⟨(k.block _ (by omega)).trans h.box, (k.block _ (by omega)).trans h.res, (k.block _ (by omega)).trans h.val, h.bel.trans (k.mono (by omega))⟩
theorem BvSt.below (h : BvSt w wr lc n vn vp ve) (k : Below wr.heap.size wr w1) : BvSt w w1 lc n vn vp ve := h.far (k.mono h.big)
theorem BvSt.alloc (h : BvSt w wr lc n vn vp ve) (O : Obj) : BvSt w (wr.alloc O) lc n vn vp ve := h.below ((Below.refl _ _).alloc (Nat.le_refl _) O)
theorem BvSt.drewN (h : BvSt w wr lc n vn vp ve) (q : Nat) : BvSt w (wr.drewN q) lc n vn vp ve := h.below (below_drewN' (Below.refl _ _) q)
theorem BvSt.grown (h : BvSt w wr lc n vn vp ve) {row : Option Nat} (hg : wr.grownBy w1 row) (hr : ∀ k, row = some k → w.heap.size + 3 ≤ k) : BvSt w w1 lc n vn vp ve :=
  h.far ((Below.refl _ _).grown hg h.big hr)
theorem BvSt.set (h : BvSt w wr lc n vn vp ve) (i : Nat) (u : Value) {n' vn' vp' ve' : Value} (hc : (#[n, vn, vp, ve]).setIfInBounds i u = #[n', vn', vp', ve']) : BvSt w (wr.setCell ⟨w.heap.size + 1 + 1, i, none⟩ u) lc n' vn' vp' ve' :=
  ⟨(Below.heap_setCell _ _ _ _ (by show w.heap.size ≠ w.heap.size + 1 + 1; omega)).trans h.box, (Below.heap_setCell _ _ _ _ (by simp)).trans h.res, by rw [← hc]; exact block_set h.val u, h.bel.setCell (by simp; omega) u⟩
/-- The end: what lies in the value's block is returned. -/
theorem BvSt.post (h : BvSt w wr lc n vn vp ve) {x : Val × Bool} {y : Val} {b : Bool} (hx : valRd (only (from_ (w.heap.size + 3)) wr) y [n, vn, vp, ve]) (hR : x = (y, b)) (p q r s : Value) :
    TopPost w x (.returned (.tuple #[.agg #[n, vn, vp, ve], .bool b])) ((((wr.setCell ⟨w.heap.size + 1, 0, none⟩ p).setCell ⟨w.heap.size + 1, 1, none⟩ q).setCell ⟨w.heap.size + 1, 2, none⟩ r).setCell ⟨w.heap.size + 1, 3, none⟩ s) := by
  subst hR
  exact ⟨_, rfl, valRd_mono' ((sub_sets wr (w.heap.size + 1) (w.heap.size + 3) (by omega) p q r s).trans (only_from_mono _ (by omega))) hx, below_sets h.bel (by omega) p q r s⟩
theorem BvSt.post0 (h : BvSt w wr lc n vn vp ve) {x : Val × Bool} (hR : x = (zeroV, false)) (p q r s : Value) :
    TopPost w x (.returned (.tuple #[.agg #[.int .i64 0, .slice none 0 0, .slice none 0 0, .slice none 0 0], .bool false])) ((((wr.setCell ⟨w.heap.size + 1, 0, none⟩ p).setCell ⟨w.heap.size + 1, 1, none⟩ q).setCell ⟨w.heap.size + 1, 2, none⟩ r).setCell ⟨w.heap.size + 1, 3, none⟩ s) := by
  subst hR
  exact ⟨_, rfl, zeroV_rd _, below_sets h.bel (by omega) p q r s⟩
theorem BvSt.start (w : World) (lc : Array Value) : BvSt w (((w.alloc (.cells lc 26 (0, 0))).alloc (.cells #[.int .i64 0, .slice none 0 0, .slice none 0 0, .slice none 0 0] 30 (0, 0))).alloc (.cells #[.int .i64 0, .slice none 0 0, .slice none 0 0, .slice none 0 0] 30 (0, 0))) lc (.int .i64 0) (.slice none 0 0) (.slice none 0 0) (.slice none 0 0) :=
  ⟨block_alloc (block_alloc (heap_alloc_new _ _) _) _, block_alloc (heap_new_at _ _ _ (by simp)) _, heap_new_at _ _ _ (by simp), (((Below.refl _ _).alloc (Nat.le_refl _) _).alloc (by simp) _).alloc (by simp; omega) _⟩
end
theorem TopPost.drew {w w' : World} {x : Val × Bool} {e : Ending} (h : TopPost w x e w') : TopPost w x e w'.drew := by
  obtain ⟨cs, h1, h2, h3⟩ := h
  exact ⟨cs, h1, valRd_mono' (a := only (from_ w.heap.size) w') (only_keep fun _ hb _ => ⟨hb, rfl⟩) h2, h3.drew⟩
def TopOk (l : Lat) : Prop := ∀ (cl : List Value) (w : World), latRd w l cl → Calls Tryz.prog 39 #[.agg cl.toArray] w (TopPost w (topV l))
end Go.Proofs.YtmdjnaobllajmaaGreatDoor

