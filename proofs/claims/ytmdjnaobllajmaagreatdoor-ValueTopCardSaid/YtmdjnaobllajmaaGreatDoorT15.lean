/-
  What the statements of the chapter share, part 15: VEnc, VDec.
-/
import Derived.Test.YtmdjnaobllajmaaGreatDoorT08
import Derived.Test.YtmdjnaobllajmaaGreatDoorT13
import Derived.Test.YtmdjnaobllajmaaGreatDoorT14
set_option linter.unusedVariables false
set_option linter.unusedSimpArgs false
set_option maxRecDepth 100000
set_option maxHeartbeats 8000000
namespace Go.Proofs.YtmdjnaobllajmaaGreatDoor
open Go.RowKit
def BytesEPost (w : World) (x : List UInt8 × Int) (e : Ending) (w' : World) : Prop := ∃ r, e = .returned (.tuple #[r, .int .i64 x.2]) ∧ w'.ownsRow w.heap.size 5 1 r x.1.length (x.1.map u8v) ∧ Below w.heap.size w w'
def encodeE (l : Lat) (v : Val) : List UInt8 × Int := if chkE l ≠ 0 then ([], 1) else if elemB l v = false then ([], 4) else (putV l v, 0)
theorem sub_lows {w w1 : World} {B : Nat} (h : Below w.heap.size w w1) (hB : w.heap.size ≤ B) : Sub w (only (lows B) w1) := fun p v hp => by
  have hlt := World.block_lt_of_cell? w p hp
  rw [only_cell, show lows B p.block = true from decide_eq_true (by omega)]
  exact (h.cell hlt).trans hp
theorem sub_notB {w w1 : World} {B : Nat} (h : Below w.heap.size w w1) (hB : w.heap.size ≤ B) : Sub w (only (notB B) w1) := fun p v hp => by
  have hlt := World.block_lt_of_cell? w p hp
  rw [only_cell, show notB B p.block = true from decide_eq_true (by omega)]
  exact (h.cell hlt).trans hp
theorem Encode_any (l : Lat) (v : Val) (cl cv : List Value) (w : World) (hl : latRd w l cl) (hv : valRd w v cv) (hsz : chkE l = 0 → elemB l v = true → (putV l v).length ≤ 80000000) :
 Calls Tryz.prog 24 #[.agg cl.toArray, .agg cv.toArray] w (BytesEPost w (encodeE l v)) := by
 have HC : Hid (∀ W, Below w.heap.size w W → Calls Tryz.prog 36 #[.agg cl.toArray] W fun e w' => e = .returned (.int .i64 (chkE l)) ∧ Below W.heap.size W w') := hid fun W h => check_any l cl W (latRd.below h _ _ hl)
 have HEL : Hid (chkE l = 0 → ∀ W, Below w.heap.size w W → Calls Tryz.prog 37 #[.agg cl.toArray, .agg cv.toArray] W fun e w' => e = .returned (.bool (elemB l v)) ∧ Below W.heap.size W w') := hid fun h0 W h => element_any _ l v cl cv W (Nat.le_refl _) (latRd.below h _ _ hl) (valRd.below h _ _ hv) (chkE_wf h0)
 have HWR : Hid (chkE l = 0 → elemB l v = true → ∀ (W : World) (B : Nat), Below w.heap.size w W → w.heap.size ≤ B → WrAt W B (.slice none 0 0) [] → Calls Tryz.prog 50 #[.pointer (some ⟨B, 0, none⟩), .agg cl.toArray, .agg cv.toArray] W fun e w' => e = .returned (.tuple #[]) ∧ WrPost B (.slice none 0 0) W (putV l v) w') :=
   hid fun h0 h1 W B h hB hw => write_any _ l v (Nat.le_refl _) (chkE_wf h0) h1 B (.slice none 0 0) [] cl cv W (latRd.mono (sub_lows h hB) _ _ hl) (valRd.mono (sub_lows h hB) _ _ hv) hw (by have := hsz h0 h1; simpa using this)
 have HE : Hid (encodeE l v = if chkE l ≠ 0 then ([], 1) else if elemB l v = false then ([], 4) else (putV l v, 0)) := hid rfl
 have HSZ := hid hsz
 generalize encodeE l v = R at HE ⊢
 generalize elemB l v = F at HEL HWR HE HSZ
 generalize chkE l = E at HC HEL HWR HE HSZ
 generalize putV l v = PB at HWR HE HSZ
 obtain ⟨aln, cln, alp, clp, alr, clr, rfl, hli, hln, hlp, hlr, ⟨_, mln⟩, ⟨_, mlp⟩, _, mlr⟩ := latRd.lay hl
 obtain ⟨bvn, dvn, bvp, dvp, bve, dve, rfl, gvi, gvn, gvp, gve, ⟨_, nvn⟩, ⟨_, nvp⟩, _, nve⟩ := valRd.lay hv
 clear hl hli hln hlp hlr hv gvi gvn gvp gve hsz
 have HB : Hid (∀ x : Ext ((w.alloc (.cells #[.int .i64 l.kind, .int .i64 l.lo, .int .i64 l.hi, .slice aln l.names.length cln, .slice alp l.parts.length clp, .slice alr l.rules.length clr] 26)).alloc (.cells #[.int .i64 v.n, .slice bvn v.names.length dvn, .slice bvp v.parts.length dvp, .slice bve v.entries.length dve] 30)), Below w.heap.size w x.1) := hid fun x => (((Below.refl _ _).alloc (Nat.le_refl _) _).alloc (by simp) _).trans (x.2.mono (by simp; omega))
 have HX : Hid (∀ x : Ext ((w.alloc (.cells #[.int .i64 l.kind, .int .i64 l.lo, .int .i64 l.hi, .slice aln l.names.length cln, .slice alp l.parts.length clp, .slice alr l.rules.length clr] 26)).alloc (.cells #[.int .i64 v.n, .slice bvn v.names.length dvn, .slice bvp v.parts.length dvp, .slice bve v.entries.length dve] 30)), (∀ (i : Nat) q, #[.int .i64 l.kind, .int .i64 l.lo, .int .i64 l.hi, .slice aln l.names.length cln, .slice alp l.parts.length clp, .slice alr l.rules.length clr][i]? = some q → x.1.cell? ⟨w.heap.size, i, none⟩ = some q) ∧ (∀ (i : Nat) q, #[.int .i64 v.n, .slice bvn v.names.length dvn, .slice bvp v.parts.length dvp, .slice bve v.entries.length dve][i]? = some q → x.1.cell? ⟨w.heap.size + 1, i, none⟩ = some q)) :=
  hid fun x => two_boxes w #[.int .i64 l.kind, .int .i64 l.lo, .int .i64 l.hi, .slice aln l.names.length cln, .slice alp l.parts.length clp, .slice alr l.rules.length clr] #[.int .i64 v.n, .slice bvn v.names.length dvn, .slice bvp v.parts.length dvp, .slice bve v.entries.length dve] 26 30 (x.2.mono (by simp))
 show Calls _ _ _ _ fun e w' => Hid (BytesEPost w R e w')
 go_enter Tryz.func24, Tryz.ntmps24
 go_wp2_with fail
 generalize (w.alloc (.cells #[.int .i64 l.kind, .int .i64 l.lo, .int .i64 l.hi, .slice aln l.names.length cln, .slice alp l.parts.length clp, .slice alr l.rules.length clr] 26)).alloc (.cells #[.int .i64 v.n, .slice bvn v.names.length dvn, .slice bvp v.parts.length dvp, .slice bve v.entries.length dve] 30) = W2 at HB HX ⊢
 refine (HC.out _ (HB.out ⟨_, Below.refl _ _⟩)).mono ?_
 rintro e w1 ⟨rfl, hb1⟩
 have HB1 := hid hb1
 clear hb1
 have p0 : w1.cell? ⟨w.heap.size, 0, none⟩ = some (.int .i64 l.kind) := (HX.out ⟨_, HB1.out⟩).1 0 _ rfl
 have p1 : w1.cell? ⟨w.heap.size, 1, none⟩ = some (.int .i64 l.lo) := (HX.out ⟨_, HB1.out⟩).1 1 _ rfl
 have p2 : w1.cell? ⟨w.heap.size, 2, none⟩ = some (.int .i64 l.hi) := (HX.out ⟨_, HB1.out⟩).1 2 _ rfl
 have p3 : w1.cell? ⟨w.heap.size, 3, none⟩ = some (.slice aln l.names.length cln) := (HX.out ⟨_, HB1.out⟩).1 3 _ rfl
 have p4 : w1.cell? ⟨w.heap.size, 4, none⟩ = some (.slice alp l.parts.length clp) := (HX.out ⟨_, HB1.out⟩).1 4 _ rfl
 have p5 : w1.cell? ⟨w.heap.size, 5, none⟩ = some (.slice alr l.rules.length clr) := (HX.out ⟨_, HB1.out⟩).1 5 _ rfl
 have pv0 : w1.cell? ⟨w.heap.size + 1, 0, none⟩ = some (.int .i64 v.n) := (HX.out ⟨_, HB1.out⟩).2 0 _ rfl
 have pv1 : w1.cell? ⟨w.heap.size + 1, 1, none⟩ = some (.slice bvn v.names.length dvn) := (HX.out ⟨_, HB1.out⟩).2 1 _ rfl
 have pv2 : w1.cell? ⟨w.heap.size + 1, 2, none⟩ = some (.slice bvp v.parts.length dvp) := (HX.out ⟨_, HB1.out⟩).2 2 _ rfl
 have pv3 : w1.cell? ⟨w.heap.size + 1, 3, none⟩ = some (.slice bve v.entries.length dve) := (HX.out ⟨_, HB1.out⟩).2 3 _ rfl
 by_cases hE : E = 0
 · have HEL2 := hid (HEL.out hE)
   have HWR2 := hid (HWR.out hE)
   have HSZ2 := hid (HSZ.out hE)
   have HE2 : Hid (R = if F = false then ([], 4) else (PB, 0)) := hid (by rw [HE.out, if_neg (fun h => h hE)])
   subst hE
   clear HC HEL HWR HSZ HE
   go_wp2_with fail
   refine (HEL2.out _ (HB.out ⟨_, HB1.out⟩)).mono ?_
   rintro e w2 ⟨rfl, hb2⟩
   have HB2 : Hid (Below W2.heap.size W2 w2) := hid (HB1.out.trans (hb2.mono HB1.out.size))
   clear hb2 HEL2 p0 p1 p2 p3 p4 p5 pv0 pv1 pv2 pv3
   cases hF : F
   · have HR : Hid (R = ([], 4)) := hid (by rw [HE2.out, if_pos hF])
     subst hF
     clear HE2 HWR2 HSZ2
     go_wp2_with fail
     go_ret2
     exact hid ⟨.slice none 0 0, by rw [HR.out]; rfl, by rw [HR.out]; exact World.ownsRow_nil _ _ _ _, HB.out ⟨_, HB2.out⟩⟩
   · have HR : Hid (R = (PB, 0)) := hid (by rw [HE2.out, hF]; rfl)
     have HWR3 := hid (HWR2.out hF)
     have HSZ3 := hid (HSZ2.out hF)
     subst hF
     clear HE2 HWR2 HSZ2
     have q0 : w2.cell? ⟨w.heap.size, 0, none⟩ = some (.int .i64 l.kind) := (HX.out ⟨_, HB2.out⟩).1 0 _ rfl
     have q1 : w2.cell? ⟨w.heap.size, 1, none⟩ = some (.int .i64 l.lo) := (HX.out ⟨_, HB2.out⟩).1 1 _ rfl
     have q2 : w2.cell? ⟨w.heap.size, 2, none⟩ = some (.int .i64 l.hi) := (HX.out ⟨_, HB2.out⟩).1 2 _ rfl
     have q3 : w2.cell? ⟨w.heap.size, 3, none⟩ = some (.slice aln l.names.length cln) := (HX.out ⟨_, HB2.out⟩).1 3 _ rfl
     have q4 : w2.cell? ⟨w.heap.size, 4, none⟩ = some (.slice alp l.parts.length clp) := (HX.out ⟨_, HB2.out⟩).1 4 _ rfl
     have q5 : w2.cell? ⟨w.heap.size, 5, none⟩ = some (.slice alr l.rules.length clr) := (HX.out ⟨_, HB2.out⟩).1 5 _ rfl
     have qv0 : w2.cell? ⟨w.heap.size + 1, 0, none⟩ = some (.int .i64 v.n) := (HX.out ⟨_, HB2.out⟩).2 0 _ rfl
     have qv1 : w2.cell? ⟨w.heap.size + 1, 1, none⟩ = some (.slice bvn v.names.length dvn) := (HX.out ⟨_, HB2.out⟩).2 1 _ rfl
     have qv2 : w2.cell? ⟨w.heap.size + 1, 2, none⟩ = some (.slice bvp v.parts.length dvp) := (HX.out ⟨_, HB2.out⟩).2 2 _ rfl
     have qv3 : w2.cell? ⟨w.heap.size + 1, 3, none⟩ = some (.slice bve v.entries.length dve) := (HX.out ⟨_, HB2.out⟩).2 3 _ rfl
     have HBA : Hid (∀ O, Below W2.heap.size W2 (w2.alloc O)) := hid fun O => HB2.out.alloc HB2.out.size _
     have s0 : ∀ O, (w2.alloc O).cell? ⟨w.heap.size, 0, none⟩ = some (.int .i64 l.kind) := fun O => (HX.out ⟨_, HBA.out O⟩).1 0 _ rfl
     have s1 : ∀ O, (w2.alloc O).cell? ⟨w.heap.size, 1, none⟩ = some (.int .i64 l.lo) := fun O => (HX.out ⟨_, HBA.out O⟩).1 1 _ rfl
     have s2 : ∀ O, (w2.alloc O).cell? ⟨w.heap.size, 2, none⟩ = some (.int .i64 l.hi) := fun O => (HX.out ⟨_, HBA.out O⟩).1 2 _ rfl
     have s3 : ∀ O, (w2.alloc O).cell? ⟨w.heap.size, 3, none⟩ = some (.slice aln l.names.length cln) := fun O => (HX.out ⟨_, HBA.out O⟩).1 3 _ rfl
     have s4 : ∀ O, (w2.alloc O).cell? ⟨w.heap.size, 4, none⟩ = some (.slice alp l.parts.length clp) := fun O => (HX.out ⟨_, HBA.out O⟩).1 4 _ rfl
     have s5 : ∀ O, (w2.alloc O).cell? ⟨w.heap.size, 5, none⟩ = some (.slice alr l.rules.length clr) := fun O => (HX.out ⟨_, HBA.out O⟩).1 5 _ rfl
     have sv0 : ∀ O, (w2.alloc O).cell? ⟨w.heap.size + 1, 0, none⟩ = some (.int .i64 v.n) := fun O => (HX.out ⟨_, HBA.out O⟩).2 0 _ rfl
     have sv1 : ∀ O, (w2.alloc O).cell? ⟨w.heap.size + 1, 1, none⟩ = some (.slice bvn v.names.length dvn) := fun O => (HX.out ⟨_, HBA.out O⟩).2 1 _ rfl
     have sv2 : ∀ O, (w2.alloc O).cell? ⟨w.heap.size + 1, 2, none⟩ = some (.slice bvp v.parts.length dvp) := fun O => (HX.out ⟨_, HBA.out O⟩).2 2 _ rfl
     have sv3 : ∀ O, (w2.alloc O).cell? ⟨w.heap.size + 1, 3, none⟩ = some (.slice bve v.entries.length dve) := fun O => (HX.out ⟨_, HBA.out O⟩).2 3 _ rfl
     go_wp2_with fail
     have HLE : Hid (w.heap.size ≤ w2.heap.size) := hid (HB.out ⟨_, HB2.out⟩).size
     refine (HWR3.out _ w2.heap.size (HB.out ⟨_, HBA.out _⟩) HLE.out ⟨heap_alloc_new _ _, World.ownsRow_nil _ _ _ _⟩).mono ?_
     rintro e w3 ⟨rfl, rv3, hw3, hf3⟩
     have HW3 := hid hw3
     have HB3 : Hid (Below w.heap.size w w3) := hid ((HB.out ⟨_, HBA.out _⟩).trans ((hf3.below (fun k e => by simp [Value.ownBlock] at e) (by simp)).mono HLE.out))
     clear hw3 hf3 q0 q1 q2 q3 q4 q5 qv0 qv1 qv2 qv3 s0 s1 s2 s3 s4 s5 sv0 sv1 sv2 sv3
     go_wp2_with fail
     refine (wData_any w2.heap.size rv3 PB w3 HW3.out (by have := HSZ3.out; omega)).mono ?_
     rintro e w4 ⟨r, rfl, hr, hb4⟩
     have HR4 := hid hr
     have HB4 : Hid (Below w.heap.size w w4) := hid (HB3.out.trans (hb4.mono HB3.out.size))
     have HS3 : Hid (w.heap.size ≤ w3.heap.size) := hid HB3.out.size
     clear hr hb4
     go_wp2_with fail
     go_ret2
     exact hid ⟨r, by rw [HR.out]; rfl, by rw [HR.out]; exact owns_base HR4.out HS3.out, HB4.out⟩
 · have hEb : (E != 0) = true := by simpa using hE
   have HR : Hid (R = ([], 1)) := hid (by rw [HE.out, if_pos hE])
   clear hE HC HEL HWR HSZ HE
   go_wp2_with fail
   go_ret2
   exact hid ⟨.slice none 0 0, by rw [HR.out]; rfl, by rw [HR.out]; exact World.ownsRow_nil _ _ _ _, HB.out ⟨_, HB1.out⟩⟩
theorem h_bytes {w W : World} {v : Value} {b : List UInt8} (h : SlRd w 1 byteRd v b) (k : Below w.heap.size w W) : SlRd W 1 byteRd v b := SlRd.below h k fun _ _ _ h => h
def decPost (w : World) (x : Val × Int) (e : Ending) (w' : World) : Prop := ValEPost w x e w'
theorem Decode_any (l : Lat) (b : List UInt8) (cl : List Value) (vb : Value) (w : World) (hl : latRd w l cl) (hb : SlRd w 1 byteRd vb b) (hsz : b.length ≤ 1000000000) :
 Calls Tryz.prog 27 #[.agg cl.toArray, vb] w (ValEPost w (decodeV l b)) := by
 have HC : Hid (∀ W, Below w.heap.size w W → Calls Tryz.prog 36 #[.agg cl.toArray] W fun e w' => e = .returned (.int .i64 (chkE l)) ∧ Below W.heap.size W w') := hid fun W h => check_any l cl W (latRd.below h _ _ hl)
 have HEL : Hid (chkE l = 0 → ∀ (W : World) (x : Val) (cv : List Value), Below w.heap.size w W → valRd W x cv → Calls Tryz.prog 37 #[.agg cl.toArray, .agg cv.toArray] W fun e w' => e = .returned (.bool (elemB l x)) ∧ Below W.heap.size W w') := hid fun h0 W x cv h hx => element_any _ l x cl cv W (Nat.le_refl _) (latRd.below h _ _ hl) hx (chkE_wf h0)
 have HNR : Hid (∀ W, Below w.heap.size w W → Calls Tryz.prog 53 #[vb] W (NewPost W b)) := hid fun W h => newReader_any vb b W (h_bytes hb h) hsz
 have HRD : Hid (chkE l = 0 → ∀ (W : World) (B : Nat) (rv : Value) (s : RS), Below w.heap.size w W → w.heap.size ≤ B → RdAt W B rv s → s.data.length ≤ 1000000000 → Calls Tryz.prog 54 #[.pointer (some ⟨B, 0, none⟩), .agg cl.toArray] W (ReadPost B rv W (readV l s))) :=
  hid fun h0 W B rv s h hB hs hd => read_any _ l B rv s cl W (Nat.le_refl _) (chkE_wf h0) hs hd (latRd.mono (sub_notB h hB) _ _ hl)
 have HE : Hid (decodeV l b = if chkE l ≠ 0 then (zeroV, 1) else if (readV l (RS.new b)).2.ends ≠ 0 ∨ elemB l (readV l (RS.new b)).1 = false then (zeroV, 2) else ((readV l (RS.new b)).1, 0)) := hid rfl
 have HSB := hid hsz
 have HOK : Hid (RS.Ok (RS.new b)) := hid (new_ok b)
 have HRL : Hid (∀ W B rv W2, RdAt W B rv (RS.new b) → RdAt W2 B rv (readV l (RS.new b)).2 → (readV l (RS.new b)).2.data.length ≤ 1000000000) := hid fun W B rv W2 h k => by have := h.len k; have e : (RS.new b).data.length = b.length := rfl; omega
 generalize decodeV l b = R at HE ⊢
 generalize hq : readV l (RS.new b) = Q at HE HRL
 have HQ := hid hq
 clear hq
 generalize chkE l = E at HC HEL HRD HE
 obtain ⟨aln, cln, alp, clp, alr, clr, rfl, hli, hln, hlp, hlr, ⟨_, mln⟩, ⟨_, mlp⟩, _, mlr⟩ := latRd.lay hl
 obtain ⟨ba, bc, rfl, _, hbm⟩ := hb.shape
 clear hl hli hln hlp hlr hb hsz
 have HB : Hid (Below w.heap.size w ((w.alloc (.cells #[.int .i64 l.kind, .int .i64 l.lo, .int .i64 l.hi, .slice aln l.names.length cln, .slice alp l.parts.length clp, .slice alr l.rules.length clr] 26)).alloc (.cells #[.int .i64 0, .slice none 0 0, .slice none 0 0, .slice none 0 0] 30))) := hid (((Below.refl _ _).alloc (Nat.le_refl _) _).alloc (by simp) _)
 have HX : Hid (∀ w', Below (w.heap.size + 2) ((w.alloc (.cells #[.int .i64 l.kind, .int .i64 l.lo, .int .i64 l.hi, .slice aln l.names.length cln, .slice alp l.parts.length clp, .slice alr l.rules.length clr] 26)).alloc (.cells #[.int .i64 0, .slice none 0 0, .slice none 0 0, .slice none 0 0] 30)) w' → (∀ (i : Nat) v, #[.int .i64 l.kind, .int .i64 l.lo, .int .i64 l.hi, .slice aln l.names.length cln, .slice alp l.parts.length clp, .slice alr l.rules.length clr][i]? = some v → w'.cell? ⟨w.heap.size, i, none⟩ = some v) ∧ w'.heap[w.heap.size + 1]? = some (.cells #[.int .i64 0, .slice none 0 0, .slice none 0 0, .slice none 0 0] 30 (0, 0))) := hid fun w' h => ⟨(two_boxes w #[.int .i64 l.kind, .int .i64 l.lo, .int .i64 l.hi, .slice aln l.names.length cln, .slice alp l.parts.length clp, .slice alr l.rules.length clr] #[.int .i64 0, .slice none 0 0, .slice none 0 0, .slice none 0 0] 26 30 h).1, (h.block _ (by omega)).trans (heap_new_at _ _ _ (by simp))⟩
 go_enter Tryz.func27, Tryz.ntmps27
 go_wp2_with fail
 have HSZ : Hid (((w.alloc (.cells #[.int .i64 l.kind, .int .i64 l.lo, .int .i64 l.hi, .slice aln l.names.length cln, .slice alp l.parts.length clp, .slice alr l.rules.length clr] 26)).alloc (.cells #[.int .i64 0, .slice none 0 0, .slice none 0 0, .slice none 0 0] 30)).heap.size = w.heap.size + 2) := hid (by simp)
 generalize (w.alloc (.cells #[.int .i64 l.kind, .int .i64 l.lo, .int .i64 l.hi, .slice aln l.names.length cln, .slice alp l.parts.length clp, .slice alr l.rules.length clr] 26)).alloc (.cells #[.int .i64 0, .slice none 0 0, .slice none 0 0, .slice none 0 0] 30) = W2 at HB HX HSZ ⊢
 refine (HC.out _ HB.out).mono ?_
 rintro e w1 ⟨rfl, hb1⟩
 have HB1 : Hid (Below (w.heap.size + 2) W2 w1) := hid (hb1.mono (Nat.le_of_eq HSZ.out.symm))
 clear hb1
 have HUP : Hid (∀ {u : World}, Below (w.heap.size + 2) W2 u → Below w.heap.size w u) := hid fun h => HB.out.trans (h.mono (by omega))
 have HLE : Hid (∀ {u : World}, Below (w.heap.size + 2) W2 u → w.heap.size + 2 ≤ u.heap.size) := hid fun h => by have := h.size; have := HSZ.out; omega
 have f0 : w1.cell? ⟨w.heap.size, 0, none⟩ = some (.int .i64 l.kind) := (HX.out _ HB1.out).1 0 _ rfl
 have f1 : w1.cell? ⟨w.heap.size, 1, none⟩ = some (.int .i64 l.lo) := (HX.out _ HB1.out).1 1 _ rfl
 have f2 : w1.cell? ⟨w.heap.size, 2, none⟩ = some (.int .i64 l.hi) := (HX.out _ HB1.out).1 2 _ rfl
 have f3 : w1.cell? ⟨w.heap.size, 3, none⟩ = some (.slice aln l.names.length cln) := (HX.out _ HB1.out).1 3 _ rfl
 have f4 : w1.cell? ⟨w.heap.size, 4, none⟩ = some (.slice alp l.parts.length clp) := (HX.out _ HB1.out).1 4 _ rfl
 have f5 : w1.cell? ⟨w.heap.size, 5, none⟩ = some (.slice alr l.rules.length clr) := (HX.out _ HB1.out).1 5 _ rfl
 have r0 : w1.cell? ⟨w.heap.size + 1, 0, none⟩ = some (.int .i64 0) := cell_at_block (HX.out _ HB1.out).2
 have e0 : w1.frozen? ⟨w.heap.size + 1, 0, none⟩ = false := free_at_block (HX.out _ HB1.out).2
 have r1 : w1.cell? ⟨w.heap.size + 1, 1, none⟩ = some (.slice none 0 0) := cell_at_block (HX.out _ HB1.out).2
 have e1 : w1.frozen? ⟨w.heap.size + 1, 1, none⟩ = false := free_at_block (HX.out _ HB1.out).2
 have r2 : w1.cell? ⟨w.heap.size + 1, 2, none⟩ = some (.slice none 0 0) := cell_at_block (HX.out _ HB1.out).2
 have e2 : w1.frozen? ⟨w.heap.size + 1, 2, none⟩ = false := free_at_block (HX.out _ HB1.out).2
 have r3 : w1.cell? ⟨w.heap.size + 1, 3, none⟩ = some (.slice none 0 0) := cell_at_block (HX.out _ HB1.out).2
 have e3 : w1.frozen? ⟨w.heap.size + 1, 3, none⟩ = false := free_at_block (HX.out _ HB1.out).2
 by_cases hE : E = 0
 · have HEL2 := hid (HEL.out hE)
   have HRD2 := hid (HRD.out hE)
   have HE2 : Hid (R = if Q.2.ends ≠ 0 ∨ elemB l Q.1 = false then (zeroV, 2) else (Q.1, 0)) := hid (by rw [HE.out, if_neg (fun h => h hE)])
   subst hE
   clear HC HEL HRD HE f0 f1 f2 f3 f4 f5 r0 r1 r2 r3 e0 e1 e2 e3
   go_wp2_with fail
   refine (HNR.out _ (HUP.out HB1.out)).mono ?_
   rintro e w3 ⟨B, rv, rfl, hB, hrd, hb3⟩
   have HRA := hid hrd
   have HBB : Hid (w1.heap.size ≤ B ∧ B < w3.heap.size) := hid ⟨hB, block_lt hrd.blk⟩
   have HB3 : Hid (Below (w.heap.size + 2) W2 w3) := hid (HB1.out.trans (hb3.mono (HLE.out HB1.out)))
   clear hB hrd hb3
   have f0 : w3.cell? ⟨w.heap.size, 0, none⟩ = some (.int .i64 l.kind) := (HX.out _ HB3.out).1 0 _ rfl
   have f1 : w3.cell? ⟨w.heap.size, 1, none⟩ = some (.int .i64 l.lo) := (HX.out _ HB3.out).1 1 _ rfl
   have f2 : w3.cell? ⟨w.heap.size, 2, none⟩ = some (.int .i64 l.hi) := (HX.out _ HB3.out).1 2 _ rfl
   have f3 : w3.cell? ⟨w.heap.size, 3, none⟩ = some (.slice aln l.names.length cln) := (HX.out _ HB3.out).1 3 _ rfl
   have f4 : w3.cell? ⟨w.heap.size, 4, none⟩ = some (.slice alp l.parts.length clp) := (HX.out _ HB3.out).1 4 _ rfl
   have f5 : w3.cell? ⟨w.heap.size, 5, none⟩ = some (.slice alr l.rules.length clr) := (HX.out _ HB3.out).1 5 _ rfl
   have r0 : w3.cell? ⟨w.heap.size + 1, 0, none⟩ = some (.int .i64 0) := cell_at_block (HX.out _ HB3.out).2
   have e0 : w3.frozen? ⟨w.heap.size + 1, 0, none⟩ = false := free_at_block (HX.out _ HB3.out).2
   have r1 : w3.cell? ⟨w.heap.size + 1, 1, none⟩ = some (.slice none 0 0) := cell_at_block (HX.out _ HB3.out).2
   have e1 : w3.frozen? ⟨w.heap.size + 1, 1, none⟩ = false := free_at_block (HX.out _ HB3.out).2
   have r2 : w3.cell? ⟨w.heap.size + 1, 2, none⟩ = some (.slice none 0 0) := cell_at_block (HX.out _ HB3.out).2
   have e2 : w3.frozen? ⟨w.heap.size + 1, 2, none⟩ = false := free_at_block (HX.out _ HB3.out).2
   have r3 : w3.cell? ⟨w.heap.size + 1, 3, none⟩ = some (.slice none 0 0) := cell_at_block (HX.out _ HB3.out).2
   have e3 : w3.frozen? ⟨w.heap.size + 1, 3, none⟩ = false := free_at_block (HX.out _ HB3.out).2
   go_wp2_with fail
   refine (HRD2.out _ B rv (RS.new b) (HUP.out HB3.out) (by have := HLE.out HB1.out; have := HBB.out; omega) HRA.out HSB.out).mono ?_
   rintro e w4 ⟨cs4, rfl, hv4, hp4⟩
   rw [HQ.out] at hv4 hp4
   have HV4 := hid hv4
   have HP4 := hid hp4
   have HQL : Hid (Q.2.data.length ≤ 1000000000) := hid (HRL.out _ _ _ _ HRA.out hp4.1)
   have HB4 : Hid (Below (w.heap.size + 2) W2 w4) := hid ⟨hp4.2.os.trans HB3.out.os, hp4.2.tape.trans HB3.out.tape, hp4.2.output.trans HB3.out.output, Nat.le_trans HB3.out.size hp4.2.size, fun k hk => (hp4.2.block k (by have := HLE.out HB3.out; omega) (by have := HLE.out HB1.out; have := HBB.out; omega)).trans (HB3.out.block k hk)⟩
   clear hp4 f0 f1 f2 f3 f4 f5 r0 r1 r2 r3 e0 e1 e2 e3 HRD2 HNR
   obtain ⟨bxn, dxn, bxp, dxp, bxe, dxe, rfl, gxi, gxn, gxp, gxe, ⟨_, nxn⟩, ⟨_, nxp⟩, _, nxe⟩ := valRd.lay hv4
   clear hv4 gxi gxn gxp gxe
   have HRB4 : Hid (∀ O, RdAt (w4.alloc O) B rv Q.2) := hid fun O => HP4.out.1.below ((Below.refl _ _).alloc (Nat.le_refl _) O)
   go_wp2_with fail
   refine (rEnd_any B rv Q.2 _ (HRB4.out _) HQL.out).mono ?_
   rintro e w5 ⟨rfl, q5, rfl⟩
   have HB6 : Hid (Below (w.heap.size + 2) W2 ((w4.alloc (.cells #[.int .i64 Q.1.n, .slice bxn Q.1.names.length dxn, .slice bxp Q.1.parts.length dxp, .slice bxe Q.1.entries.length dxe] 30)).drewN q5)) := hid (below_drewN' (HB4.out.alloc (HLE.out HB4.out) _) _)
   have HVX : Hid (∀ u, Below ((w4.alloc (.cells #[.int .i64 Q.1.n, .slice bxn Q.1.names.length dxn, .slice bxp Q.1.parts.length dxp, .slice bxe Q.1.entries.length dxe] 30)).drewN q5).heap.size ((w4.alloc (.cells #[.int .i64 Q.1.n, .slice bxn Q.1.names.length dxn, .slice bxp Q.1.parts.length dxp, .slice bxe Q.1.entries.length dxe] 30)).drewN q5) u → valRd (only (from_ w3.heap.size) u) Q.1 [.int .i64 Q.1.n, .slice bxn Q.1.names.length dxn, .slice bxp Q.1.parts.length dxp, .slice bxe Q.1.entries.length dxe]) := hid fun u hu => valRd_mono' (only_keep fun g hg hl => ⟨hg, by
     have h2 : Below w4.heap.size w4 u := ((below_drewN' ((Below.refl _ _).alloc (Nat.le_refl _) _) q5).trans (hu.mono (below_drewN' ((Below.refl _ _).alloc (Nat.le_refl _) _) q5).size))
     exact h2.block g hl⟩) HV4.out
   have HXB : Hid (∀ u, Below ((w4.alloc (.cells #[.int .i64 Q.1.n, .slice bxn Q.1.names.length dxn, .slice bxp Q.1.parts.length dxp, .slice bxe Q.1.entries.length dxe] 30)).drewN q5).heap.size ((w4.alloc (.cells #[.int .i64 Q.1.n, .slice bxn Q.1.names.length dxn, .slice bxp Q.1.parts.length dxp, .slice bxe Q.1.entries.length dxe] 30)).drewN q5) u → ∀ (i : Nat) v, #[.int .i64 Q.1.n, .slice bxn Q.1.names.length dxn, .slice bxp Q.1.parts.length dxp, .slice bxe Q.1.entries.length dxe][i]? = some v → u.cell? ⟨w4.heap.size, i, none⟩ = some v) := hid fun u hu i v hv => by
     have h0 : ((w4.alloc (.cells #[.int .i64 Q.1.n, .slice bxn Q.1.names.length dxn, .slice bxp Q.1.parts.length dxp, .slice bxe Q.1.entries.length dxe] 30)).drewN q5).cell? ⟨w4.heap.size, i, none⟩ = some v := ((below_drewN' (Below.refl (w4.alloc (.cells #[.int .i64 Q.1.n, .slice bxn Q.1.names.length dxn, .slice bxp Q.1.parts.length dxp, .slice bxe Q.1.entries.length dxe] 30)).heap.size _) q5).cell (by simp)).trans (by rw [World.cell?_alloc_at _ _ _ _ rfl]; exact hv)
     exact (hu.cell (World.block_lt_of_cell? _ _ h0)).trans h0
   generalize (w4.alloc (.cells #[.int .i64 Q.1.n, .slice bxn Q.1.names.length dxn, .slice bxp Q.1.parts.length dxp, .slice bxe Q.1.entries.length dxe] 30)).drewN q5 = w6 at HXB HVX HB6 ⊢
   have HL3 : Hid (w.heap.size + 2 ≤ w3.heap.size) := hid (HLE.out HB3.out)
   clear HRB4 HP4 HQL
   have f0 : w6.cell? ⟨w.heap.size, 0, none⟩ = some (.int .i64 l.kind) := (HX.out _ HB6.out).1 0 _ rfl
   have f1 : w6.cell? ⟨w.heap.size, 1, none⟩ = some (.int .i64 l.lo) := (HX.out _ HB6.out).1 1 _ rfl
   have f2 : w6.cell? ⟨w.heap.size, 2, none⟩ = some (.int .i64 l.hi) := (HX.out _ HB6.out).1 2 _ rfl
   have f3 : w6.cell? ⟨w.heap.size, 3, none⟩ = some (.slice aln l.names.length cln) := (HX.out _ HB6.out).1 3 _ rfl
   have f4 : w6.cell? ⟨w.heap.size, 4, none⟩ = some (.slice alp l.parts.length clp) := (HX.out _ HB6.out).1 4 _ rfl
   have f5 : w6.cell? ⟨w.heap.size, 5, none⟩ = some (.slice alr l.rules.length clr) := (HX.out _ HB6.out).1 5 _ rfl
   have r0 : w6.cell? ⟨w.heap.size + 1, 0, none⟩ = some (.int .i64 0) := cell_at_block (HX.out _ HB6.out).2
   have e0 : w6.frozen? ⟨w.heap.size + 1, 0, none⟩ = false := free_at_block (HX.out _ HB6.out).2
   have r1 : w6.cell? ⟨w.heap.size + 1, 1, none⟩ = some (.slice none 0 0) := cell_at_block (HX.out _ HB6.out).2
   have e1 : w6.frozen? ⟨w.heap.size + 1, 1, none⟩ = false := free_at_block (HX.out _ HB6.out).2
   have r2 : w6.cell? ⟨w.heap.size + 1, 2, none⟩ = some (.slice none 0 0) := cell_at_block (HX.out _ HB6.out).2
   have e2 : w6.frozen? ⟨w.heap.size + 1, 2, none⟩ = false := free_at_block (HX.out _ HB6.out).2
   have r3 : w6.cell? ⟨w.heap.size + 1, 3, none⟩ = some (.slice none 0 0) := cell_at_block (HX.out _ HB6.out).2
   have e3 : w6.frozen? ⟨w.heap.size + 1, 3, none⟩ = false := free_at_block (HX.out _ HB6.out).2
   have b0 := HXB.out _ (Below.refl _ _) 0 _ rfl
   have b1 := HXB.out _ (Below.refl _ _) 1 _ rfl
   have b2 := HXB.out _ (Below.refl _ _) 2 _ rfl
   have b3 := HXB.out _ (Below.refl _ _) 3 _ rfl
   by_cases hQ : Q.2.ends = 0
   · have hQb : (Q.2.ends != 0) = false := by rw [hQ]; rfl
     have HE3 : Hid (R = if elemB l Q.1 = false then (zeroV, 2) else (Q.1, 0)) := hid (by
      rw [HE2.out]
      by_cases h : elemB l Q.1 = false
      · rw [if_pos h, if_pos (.inr h)]
      · rw [if_neg h, if_neg (by rintro (h' | h'); exact h' hQ; exact h h')])
     clear hQ HE2
     go_wp2_with fail
     refine (HEL2.out _ Q.1 [.int .i64 Q.1.n, .slice bxn Q.1.names.length dxn, .slice bxp Q.1.parts.length dxp, .slice bxe Q.1.entries.length dxe] (HUP.out HB6.out) (valRd_mono' (only_sub _ _) (HVX.out _ (Below.refl _ _)))).mono ?_
     rintro e w7 ⟨rfl, hb7⟩
     have HB67 : Hid (Below w6.heap.size w6 w7) := hid hb7
     have HB7 : Hid (Below (w.heap.size + 2) W2 w7) := hid (HB6.out.trans (hb7.mono (HLE.out HB6.out)))
     clear hb7 f0 f1 f2 f3 f4 f5 r0 r1 r2 r3 e0 e1 e2 e3 b0 b1 b2 b3
     have f0 : w7.cell? ⟨w.heap.size, 0, none⟩ = some (.int .i64 l.kind) := (HX.out _ HB7.out).1 0 _ rfl
     have f1 : w7.cell? ⟨w.heap.size, 1, none⟩ = some (.int .i64 l.lo) := (HX.out _ HB7.out).1 1 _ rfl
     have f2 : w7.cell? ⟨w.heap.size, 2, none⟩ = some (.int .i64 l.hi) := (HX.out _ HB7.out).1 2 _ rfl
     have f3 : w7.cell? ⟨w.heap.size, 3, none⟩ = some (.slice aln l.names.length cln) := (HX.out _ HB7.out).1 3 _ rfl
     have f4 : w7.cell? ⟨w.heap.size, 4, none⟩ = some (.slice alp l.parts.length clp) := (HX.out _ HB7.out).1 4 _ rfl
     have f5 : w7.cell? ⟨w.heap.size, 5, none⟩ = some (.slice alr l.rules.length clr) := (HX.out _ HB7.out).1 5 _ rfl
     have r0 : w7.cell? ⟨w.heap.size + 1, 0, none⟩ = some (.int .i64 0) := cell_at_block (HX.out _ HB7.out).2
     have e0 : w7.frozen? ⟨w.heap.size + 1, 0, none⟩ = false := free_at_block (HX.out _ HB7.out).2
     have r1 : w7.cell? ⟨w.heap.size + 1, 1, none⟩ = some (.slice none 0 0) := cell_at_block (HX.out _ HB7.out).2
     have e1 : w7.frozen? ⟨w.heap.size + 1, 1, none⟩ = false := free_at_block (HX.out _ HB7.out).2
     have r2 : w7.cell? ⟨w.heap.size + 1, 2, none⟩ = some (.slice none 0 0) := cell_at_block (HX.out _ HB7.out).2
     have e2 : w7.frozen? ⟨w.heap.size + 1, 2, none⟩ = false := free_at_block (HX.out _ HB7.out).2
     have r3 : w7.cell? ⟨w.heap.size + 1, 3, none⟩ = some (.slice none 0 0) := cell_at_block (HX.out _ HB7.out).2
     have e3 : w7.frozen? ⟨w.heap.size + 1, 3, none⟩ = false := free_at_block (HX.out _ HB7.out).2
     have b0 := HXB.out _ HB67.out 0 _ rfl
     have b1 := HXB.out _ HB67.out 1 _ rfl
     have b2 := HXB.out _ HB67.out 2 _ rfl
     have b3 := HXB.out _ HB67.out 3 _ rfl
     cases hF : elemB l Q.1
     · have HR : Hid (R = (zeroV, 2)) := hid (by rw [HE3.out, if_pos hF])
       clear hF HE3
       have HBF := hid (below_sets (b := w.heap.size + 1) (HUP.out HB7.out) (by omega) (.int .i64 0) (.slice none 0 0) (.slice none 0 0) (.slice none 0 0))
       go_wp2_with fail
       refine bodyPost_ret (v := .tuple #[.agg #[.int .i64 0, .slice none 0 0, .slice none 0 0, .slice none 0 0], .int .i64 2]) (by simp [results, Tryz.results27, go_sem, r0, r1, r2, r3, e0, e1, e2, e3]) rfl ?_
       rw [HR.out]
       exact ⟨_, rfl, zeroV_rd _, HBF.out⟩
     · have HR : Hid (R = (Q.1, 0)) := hid (by rw [HE3.out, if_neg (by rw [hF]; decide)])
       clear hF HE3
       have HV7 := hid (HVX.out _ HB67.out)
       have HBF := hid (below_sets (b := w.heap.size + 1) (HUP.out HB7.out) (by omega) (.int .i64 Q.1.n) (.slice bxn Q.1.names.length dxn) (.slice bxp Q.1.parts.length dxp) (.slice bxe Q.1.entries.length dxe))
       go_wp2_with fail
       refine bodyPost_ret (v := .tuple #[.agg #[.int .i64 Q.1.n, .slice bxn Q.1.names.length dxn, .slice bxp Q.1.parts.length dxp, .slice bxe Q.1.entries.length dxe], .int .i64 0]) (by simp [results, Tryz.results27, go_sem, r0, r1, r2, r3, e0, e1, e2, e3]) rfl ?_
       rw [HR.out]
       exact ⟨_, rfl, valRd_mono' ((sub_sets w7 (w.heap.size + 1) w3.heap.size (by have := HL3.out; omega) _ _ _ _).trans (only_from_mono _ (by have := HL3.out; omega))) HV7.out, HBF.out⟩
   · have hQb : (Q.2.ends != 0) = true := by simpa using hQ
     have HR : Hid (R = (zeroV, 2)) := hid (by rw [HE2.out, if_pos (.inl hQ)])
     clear hQ HE2
     have HBF := hid (below_sets (b := w.heap.size + 1) (HUP.out HB6.out) (by omega) (.int .i64 0) (.slice none 0 0) (.slice none 0 0) (.slice none 0 0))
     go_wp2_with fail
     refine bodyPost_ret (v := .tuple #[.agg #[.int .i64 0, .slice none 0 0, .slice none 0 0, .slice none 0 0], .int .i64 2]) (by simp [results, Tryz.results27, go_sem, r0, r1, r2, r3, e0, e1, e2, e3]) rfl ?_
     rw [HR.out]
     exact ⟨_, rfl, zeroV_rd _, HBF.out⟩
 · have hEb : (E != 0) = true := by simpa using hE
   have HR : Hid (R = (zeroV, 1)) := hid (by rw [HE.out, if_pos hE])
   clear hE HC HEL HRD HE
   have HBF := hid (below_sets (b := w.heap.size + 1) (HUP.out HB1.out) (by omega) (.int .i64 0) (.slice none 0 0) (.slice none 0 0) (.slice none 0 0))
   go_wp2_with fail
   refine bodyPost_ret (v := .tuple #[.agg #[.int .i64 0, .slice none 0 0, .slice none 0 0, .slice none 0 0], .int .i64 1]) (by simp [results, Tryz.results27, go_sem, r0, r1, r2, r3, e0, e1, e2, e3]) rfl ?_
   rw [HR.out]
   exact ⟨_, rfl, zeroV_rd _, HBF.out⟩
end Go.Proofs.YtmdjnaobllajmaaGreatDoor
