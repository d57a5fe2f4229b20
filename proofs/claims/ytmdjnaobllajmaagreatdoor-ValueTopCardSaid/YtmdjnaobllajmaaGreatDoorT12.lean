/-
  What the statements of the chapter share, part 12: VRd6, VRead, VRead2, VRead3, VTop0, PElem.
-/
import Derived.Test.YtmdjnaobllajmaaGreatDoorT07
import Derived.Test.YtmdjnaobllajmaaGreatDoorT08
import Derived.Test.YtmdjnaobllajmaaGreatDoorT09
import Derived.Test.YtmdjnaobllajmaaGreatDoorT11
import Derived.Laws.BytesString
set_option linter.unusedVariables false
set_option linter.unusedSimpArgs false
set_option maxRecDepth 100000
set_option maxHeartbeats 8000000
namespace Go.Proofs.YtmdjnaobllajmaaGreatDoor
open Go.RowKit
theorem conv_bytes {w : World} {base n : Nat} {v : Value} {l : List UInt8} (h : w.ownsRow base 5 1 v n (l.map u8v)) : (convert 46 9 v).run Tryz.prog w = .ok (.string (strOf l)) w := by
 have hl : l.length = n := by simpa using h.1
 rcases h.2 with ⟨rfl, hn⟩ | ⟨g, cap, cur, rfl, hb, hg, hn, hcap, hsz, htake⟩
 · have : l = [] := List.eq_nil_of_length_eq_zero (by omega)
   subst this
   rw [run_convert_bytes_string w 46 9 5 none 0 0 Tryz.underlying46 Tryz.underlying5 Tryz.underlying9]
   rfl
 · subst hl
   have hB : Lib.Bytes w g 0 (strOf l) := fun i hi => by
     have hi' : i < l.length := hi
     have := h.cells (g := g) rfl i (u8v l[i]) (by rw [List.getElem?_map, List.getElem?_eq_getElem hi']; rfl)
     rw [addr_add] at this
     exact this
   have := Lib.run_convert_whole (P := Tryz.prog) w 46 5 9 Tryz.underlying46 Tryz.underlying5 Tryz.underlying9 g 0 (strOf l) hB cap
   exact this
theorem rText_any (B : Nat) (v : Value) (s : RS) (w : World) (h : RdAt w B v s) (hl : s.data.length ≤ 1000000000) :
 Calls Tryz.prog 92 #[.pointer (some ⟨B, 0, none⟩)] w fun e w' => e = .returned (.string (rdText s).1) ∧ RdPost B v (rdText s).2 w w' := by
 have HB := hid (rBytes_any B v s w h hl)
 have HT : Hid (rdText s = (strOf (rdBytes s).1, (rdBytes s).2)) := hid rfl
 generalize rdText s = T at HT ⊢
 generalize rdBytes s = R at HB HT
 obtain ⟨l, s'⟩ := R
 clear h hl
 go_enter Tryz.func92, Tryz.ntmps92
 go_wp2_with fail
 refine HB.out.mono ?_
 rintro e w1 ⟨r, rfl, hr, hp⟩
 have hcv := conv_bytes hr
 have HP := hid hp
 clear hr hp
 go_wp2_with fail
 go_ret
 exact ⟨by rw [HT.out]; rfl, by rw [HT.out]; exact HP.out⟩
def RS.new (l : List UInt8) : RS := ⟨l, 0, 0, 0⟩
def NewPost (w : World) (l : List UInt8) (e : Ending) (w' : World) : Prop := ∃ B v, e = .returned (.pointer (some ⟨B, 0, none⟩)) ∧ w.heap.size ≤ B ∧ RdAt w' B v (RS.new l) ∧ Below w.heap.size w w'
theorem bytes_src {w : World} {v : Value} {l : List UInt8} (h : SlRd w 1 byteRd v l) : Src w 1 v l.length (l.map u8v) := by
 obtain ⟨a, cap, rfl, hn, hm, hc⟩ := h
 cases a with
 | none =>
   have h0 := hn.1 rfl
   have : l = [] := List.eq_nil_of_length_eq_zero (by omega)
   subst this
   subst h0
   exact ⟨none, 0, rfl, rfl, fun _ => ⟨rfl, rfl⟩, by simp, by simp⟩
 | some ad =>
   refine ⟨some ad, cap, rfl, by simp, by simp, fun a ha j q hq => ?_, u8v_one l⟩
   cases ha
   rw [List.getElem?_map] at hq
   have hj : j < l.length := by
    rcases Nat.lt_or_ge j l.length with h' | h'
    · exact h'
    · rw [List.getElem?_eq_none h'] at hq; cases hq
   obtain ⟨b, o, cs, hb, _, hcs, rfl⟩ := hc j hj
   cases hb
   have := hcs 0 (by simp)
   rw [addr_add]
   rw [List.getElem?_eq_getElem hj] at hq
   simpa using this.trans hq
theorem newReader_any (v : Value) (l : List UInt8) (w : World) (h : SlRd w 1 byteRd v l) (hl : l.length ≤ 1000000000) :
 Calls Tryz.prog 53 #[v] w (NewPost w l) := by
 obtain ⟨i0, hi0, hz0, hz1, hz2⟩ := info_parts infoByte
 obtain ⟨a, cap, rfl, _, _⟩ := h.shape
 have HS : Hid (∀ O, Src (w.alloc O) 1 (.slice a l.length cap) l.length (l.map u8v)) := hid fun O => bytes_src (h.sub' (Sub.of_below ((Below.refl _ _).alloc (Nat.le_refl _) O)))
 have HL := hid hl
 clear h hl
 go_enter Tryz.func53, Tryz.ntmps53
 go_wp2_with (at_builtin; refine wpList_append rfl (.tmp 3) (.tmp 4) 46 rfl w.heap.size 5 1 1 Tryz.underlying46 hi0 hz0 hz1 hz2 rfl (by decide) (.slice (some ⟨w.heap.size, 0, none⟩) 0 0) 0 [] rfl (owns_made #[] 0 (heap_alloc_new w _) (Nat.le_refl _) rfl (by decide)) (.slice a l.length cap) l.length (l.map u8v) rfl (HS.out _) l.length (Nat.zero_add _) (l.map u8v) rfl (by have := HL.out; unfold maxLen; omega) (by have := HL.out; omega) (by simp) ?_; intro na nc w2 had; have HAD := hid had; clear had)
 go_ret
 have hb2 : Below w.heap.size w w2 := ((Below.refl _ _).alloc (Nat.le_refl _) _).grown HAD.out.grown (by simp) (fun g hg => by simp [Value.ownBlock] at hg; omega)
 refine ⟨w2.heap.size, _, rfl, hb2.size, ⟨heap_alloc_new w2 _, ?_, ⟨Nat.zero_le _, Nat.le_refl _, .inl rfl⟩⟩, hb2.alloc hb2.size _⟩
 have hs : SlRd w2 1 byteRd (.slice na l.length nc) l := SlRd.of_owns (f := fun c => [u8v c]) (fun _ => rfl) (fun _ _ => rfl) (by
   have := HAD.out.own
   have e : ∀ l : List UInt8, l.flatMap (fun c => [u8v c]) = l.map u8v := fun l => by
     induction l with
     | nil => rfl
     | cons x t ih => rw [List.flatMap_cons, ih]; rfl
   rw [e]; exact this)
 refine SlRd.mono hs (fun p u hp => ?_) fun _ _ _ h => h
 have hlt := World.block_lt_of_cell? w2 p hp
 rw [only_cell, show notB w2.heap.size p.block = true from decide_eq_true (by omega)]
 exact (World.cell?_alloc_lt _ _ _ hlt).trans hp
theorem small_any (B : Nat) (v : Value) (s : RS) (m : Nat) (w : World) (h : RdAt w B v s) (hl : s.data.length ≤ 1000000000) (hm : m ≤ 1000000000000000) :
 Calls Tryz.prog 93 #[.pointer (some ⟨B, 0, none⟩), .int .u64 m] w fun e w' => e = .returned (.int .i64 (if m < (rdUint s).1 then 0 else (rdUint s).1 : Nat)) ∧ RdPost B v (if m < (rdUint s).1 then (rdUint s).2.fail else (rdUint s).2) w w' := by
 have HU := hid (rUint_any B v s w h hl)
 generalize rdUint s = R at HU ⊢
 obtain ⟨n, s'⟩ := R
 clear h hl
 simp only at HU ⊢
 by_cases hb : m < n
 · have hd : (m : Int) < (n : Int) := by omega
   rw [if_pos hb, if_pos hb]
   clear hb
   go_enter Tryz.func93, Tryz.ntmps93
   go_wp2_with fail
   refine HU.out.mono ?_
   rintro e w1 ⟨rfl, hp⟩
   have HP := hid hp
   clear hp
   go_wp2_with fail
   refine (rFail_any B v s' _ HP.out.1).mono ?_
   rintro e w2 ⟨rfl, hp2⟩
   have HP2 := hid (RdPost.trans HP.out.2 hp2)
   clear hp2
   go_wp2_with fail
   go_ret
   exact ⟨rfl, HP2.out⟩
 · have hd : (n : Int) ≤ (m : Int) := by omega
   have hn9 : (n : Int) ≤ 9223372036854775807 := by omega
   rw [if_neg hb, if_neg hb]
   clear hb
   go_enter Tryz.func93, Tryz.ntmps93
   go_wp2_with fail
   refine HU.out.mono ?_
   rintro e w1 ⟨rfl, hp⟩
   have HP := hid hp
   clear hp
   go_wp2_with fail
   go_ret
   exact ⟨rfl, HP.out⟩
theorem rSmall_any (B : Nat) (v : Value) (s : RS) (m : Nat) (w : World) (h : RdAt w B v s) (hl : s.data.length ≤ 1000000000) (hm : m ≤ 1000000000000000) :
 Calls Tryz.prog 93 #[.pointer (some ⟨B, 0, none⟩), .int .u64 m] w fun e w' => e = .returned (.int .i64 ((rdSmall m s).1 : Nat)) ∧ RdPost B v (rdSmall m s).2 w w' := small_any B v s m w h hl hm
theorem RdAt.len {w w' : World} {B : Nat} {v : Value} {s s' : RS} (h : RdAt w B v s) (k : RdAt w' B v s') : s'.data.length = s.data.length := by
 obtain ⟨a, c, e, _⟩ := h.shape
 obtain ⟨a', c', e', _⟩ := k.shape
 rw [e] at e'
 injection e' with _ e' _
 exact e'.symm
def ReadPost (B : Nat) (rv : Value) (w : World) (x : Val × RS) (e : Ending) (w' : World) : Prop :=
 ∃ cs, e = .returned (.agg cs.toArray) ∧ valRd (only (from_ w.heap.size) w') x.1 cs ∧ RdPost B rv x.2 w w'
theorem u8v_inj {a b : UInt8} (h : u8v a = u8v b) : a = b := by
 unfold u8v at h
 injection h with _ h
 exact UInt8.toNat_inj.1 (by omega)
theorem bytes_same {w : World} {v : Value} {l l' : List UInt8} (h : SlRd w 1 byteRd v l) (k : SlRd w 1 byteRd v l') : l = l' := by
 obtain ⟨a, c, rfl, _, _, h1⟩ := h
 obtain ⟨a', c', e, _, _, k1⟩ := k
 injection e with e1 e2 _
 subst e1
 refine List.ext_getElem e2 fun i hi hi' => ?_
 obtain ⟨b, o, cs, hb, _, hc, rfl⟩ := h1 i hi
 obtain ⟨b', o', cs', hb', _, hc', rfl⟩ := k1 i hi'
 rw [hb] at hb'
 injection hb' with hb'
 injection hb' with e3 e4 _
 subst e3
 subst e4
 have p := hc 0 (by simp)
 have q := hc' 0 (by simp)
 rw [p] at q
 simp only [List.getElem_cons_zero] at q
 injection q with q
 exact u8v_inj q
theorem only_block {S : Nat → Bool} {w : World} {g : Nat} {o : Obj} (hs : S g = true) (h : w.heap[g]? = some o) : (only S w).heap[g]? = some o := by
 unfold only
 rw [Array.getElem?_mapIdx, h]
 simp [hs]
structure RdSt (w wr : World) (B : Nat) (rv : Value) (s : RS) (lc : Array Value) (n vn vp ve : Value) : Prop where
 old : SlRd (only (notB B) w) 1 byteRd rv s.data
 blk : wr.heap[B]? = some (.cells #[rv, .int .i64 s.pos, .int .i64 s.item, .int .i64 s.err] 112 (0, 0))
 ok : s.Ok
 lt : B < w.heap.size
 box : wr.heap[w.heap.size]? = some (.cells lc 26 (0, 0))
 res : wr.heap[w.heap.size + 1]? = some (.cells #[.int .i64 0, .slice none 0 0, .slice none 0 0, .slice none 0 0] 30 (0, 0))
 val : wr.heap[w.heap.size + 1 + 1]? = some (.cells #[n, vn, vp, ve] 30 (0, 0))
 but : But B w wr
section
variable {w wr w1 : World} {B : Nat} {rv : Value} {s s' : RS} {lc : Array Value} {n vn vp ve : Value}
theorem RdSt.cellL (h : RdSt w wr B rv s lc n vn vp ve) (i : Nat) : wr.cell? ⟨w.heap.size, i, none⟩ = lc[i]? := cell_at_block h.box
theorem RdSt.cellR (h : RdSt w wr B rv s lc n vn vp ve) (i : Nat) : wr.cell? ⟨w.heap.size + 1, i, none⟩ = #[.int .i64 0, .slice none 0 0, .slice none 0 0, .slice none 0 0][i]? := cell_at_block h.res
theorem RdSt.cellV (h : RdSt w wr B rv s lc n vn vp ve) (i : Nat) : wr.cell? ⟨w.heap.size + 1 + 1, i, none⟩ = #[n, vn, vp, ve][i]? := cell_at_block h.val
theorem RdSt.freeR (h : RdSt w wr B rv s lc n vn vp ve) (i : Nat) : wr.frozen? ⟨w.heap.size + 1, i, none⟩ = false := free_at_block h.res
theorem RdSt.freeV (h : RdSt w wr B rv s lc n vn vp ve) (i : Nat) : wr.frozen? ⟨w.heap.size + 1 + 1, i, none⟩ = false := free_at_block h.val
theorem RdSt.big (h : RdSt w wr B rv s lc n vn vp ve) : w.heap.size + 3 ≤ wr.heap.size := block_lt h.val
theorem RdSt.rd (h : RdSt w wr B rv s lc n vn vp ve) : RdAt wr B rv s :=
 ⟨h.blk, SlRd.mono h.old (only_keep fun b hb hl => ⟨hb, h.but.block b hl (of_decide_eq_true hb)⟩) fun _ _ _ h => h, h.ok⟩
theorem RdSt.call (h : RdSt w wr B rv s lc n vn vp ve) (k : RdPost B rv s' wr w1) : RdSt w w1 B rv s' lc n vn vp ve :=
 have hl := h.lt
 have hb := h.big
 have e : s'.data = s.data := bytes_same k.1.rd (SlRd.mono h.old (only_keep fun b hb hl => ⟨hb, (h.but.trans k.2).block b hl (of_decide_eq_true hb)⟩) fun _ _ _ h => h)
 ⟨by rw [e]; exact h.old, k.1.blk, k.1.ok, h.lt, (k.2.block _ (by omega) (by omega)).trans h.box, (k.2.block _ (by omega) (by omega)).trans h.res, (k.2.block _ (by omega) (by omega)).trans h.val, h.but.trans k.2⟩
theorem RdSt.below (h : RdSt w wr B rv s lc n vn vp ve) (k : Below wr.heap.size wr w1) : RdSt w w1 B rv s lc n vn vp ve :=
 h.call ⟨h.rd.below k, But.of_below k⟩
theorem RdSt.alloc (h : RdSt w wr B rv s lc n vn vp ve) (O : Obj) : RdSt w (wr.alloc O) B rv s lc n vn vp ve := h.below ((Below.refl _ _).alloc (Nat.le_refl _) O)
theorem RdSt.drewN (h : RdSt w wr B rv s lc n vn vp ve) (q : Nat) : RdSt w (wr.drewN q) B rv s lc n vn vp ve := h.below (below_drewN' (Below.refl _ _) q)
theorem RdSt.far (h : RdSt w wr B rv s lc n vn vp ve) (k : Below (w.heap.size + 3) wr w1) : RdSt w w1 B rv s lc n vn vp ve :=
 have hl := h.lt
 have hb := h.big
 ⟨h.old, (k.block _ (by omega)).trans h.blk, h.ok, h.lt, (k.block _ (by omega)).trans h.box, (k.block _ (by omega)).trans h.res, (k.block _ (by omega)).trans h.val,
   ⟨k.os.trans h.but.os, k.tape.trans h.but.tape, k.output.trans h.but.output, Nat.le_trans h.but.size k.size, fun b hb hn => (k.block b (by omega)).trans (h.but.block b hb hn)⟩⟩
theorem RdSt.grown (h : RdSt w wr B rv s lc n vn vp ve) {row : Option Nat} (hg : wr.grownBy w1 row) (hr : ∀ k, row = some k → w.heap.size + 3 ≤ k) : RdSt w w1 B rv s lc n vn vp ve :=
 h.far ((Below.refl _ _).grown hg h.big hr)
theorem but_set {K : Nat} {w w' : World} (h : But K w w') {g i : Nat} (hg : w.heap.size ≤ g) (u : Value) : But K w (w'.setCell ⟨g, i, none⟩ u) :=
 ⟨h.os, h.tape, h.output, by simpa [World.setCell] using h.size, fun b hb hn => (Below.heap_setCell _ _ _ _ (by show b ≠ g; omega)).trans (h.block b hb hn)⟩
theorem RdSt.set (h : RdSt w wr B rv s lc n vn vp ve) (i : Nat) (u : Value) {n' vn' vp' ve' : Value} (hc : (#[n, vn, vp, ve]).setIfInBounds i u = #[n', vn', vp', ve']) : RdSt w (wr.setCell ⟨w.heap.size + 1 + 1, i, none⟩ u) B rv s lc n' vn' vp' ve' :=
 have hl := h.lt
 ⟨h.old, (Below.heap_setCell _ _ _ _ (by show B ≠ w.heap.size + 1 + 1; omega)).trans h.blk, h.ok, h.lt, (Below.heap_setCell _ _ _ _ (by show w.heap.size ≠ w.heap.size + 1 + 1; omega)).trans h.box, (Below.heap_setCell _ _ _ _ (by simp)).trans h.res, by rw [← hc]; exact block_set h.val u, but_set h.but (by omega) u⟩
theorem RdSt.post (h : RdSt w wr B rv s lc n vn vp ve) {x : Val} (hx : valRd (only (from_ (w.heap.size + 3)) wr) x [n, vn, vp, ve]) {R : Val × RS} (hR : R = (x, s)) (a b c d : Value) :
 ReadPost B rv w R (.returned (.agg #[n, vn, vp, ve])) ((((wr.setCell ⟨w.heap.size + 1, 0, none⟩ a).setCell ⟨w.heap.size + 1, 1, none⟩ b).setCell ⟨w.heap.size + 1, 2, none⟩ c).setCell ⟨w.heap.size + 1, 3, none⟩ d) := by
 subst hR
 have hl := h.lt
 have hz : ∀ g : Nat, g ≠ w.heap.size + 1 → ((((wr.setCell ⟨w.heap.size + 1, 0, none⟩ a).setCell ⟨w.heap.size + 1, 1, none⟩ b).setCell ⟨w.heap.size + 1, 2, none⟩ c).setCell ⟨w.heap.size + 1, 3, none⟩ d).heap[g]? = wr.heap[g]? := fun g hg => by
   rw [Below.heap_setCell _ _ _ _ hg, Below.heap_setCell _ _ _ _ hg, Below.heap_setCell _ _ _ _ hg, Below.heap_setCell _ _ _ _ hg]
 have hbut := but_set (but_set (but_set (but_set h.but (g := w.heap.size + 1) (i := 0) (by omega) a) (g := w.heap.size + 1) (i := 1) (by omega) b) (g := w.heap.size + 1) (i := 2) (by omega) c) (g := w.heap.size + 1) (i := 3) (by omega) d
 refine ⟨[n, vn, vp, ve], rfl, valRd_mono' (only_keep fun g hg _ => ?_) hx, ⟨(hz B (by omega)).trans h.blk, SlRd.mono h.old (only_keep fun b hb hl => ⟨hb, hbut.block b hl (of_decide_eq_true hb)⟩) fun _ _ _ h => h, h.ok⟩, hbut⟩
 have hg' := of_decide_eq_true hg
 exact ⟨decide_eq_true (by omega), hz g (by omega)⟩
theorem RdSt.start (h : RdAt w B rv s) (lc : Array Value) : RdSt w (((w.alloc (.cells lc 26 (0, 0))).alloc (.cells #[.int .i64 0, .slice none 0 0, .slice none 0 0, .slice none 0 0] 30 (0, 0))).alloc (.cells #[.int .i64 0, .slice none 0 0, .slice none 0 0, .slice none 0 0] 30 (0, 0))) B rv s lc (.int .i64 0) (.slice none 0 0) (.slice none 0 0) (.slice none 0 0) :=
 have hb : Below w.heap.size w (((w.alloc (.cells lc 26 (0, 0))).alloc (.cells #[.int .i64 0, .slice none 0 0, .slice none 0 0, .slice none 0 0] 30 (0, 0))).alloc (.cells #[.int .i64 0, .slice none 0 0, .slice none 0 0, .slice none 0 0] 30 (0, 0))) := (((Below.refl _ _).alloc (Nat.le_refl _) _).alloc (by simp) _).alloc (by simp; omega) _
 ⟨h.rd, (h.below hb).blk, h.ok, h.lt, block_alloc (block_alloc (heap_alloc_new _ _) _) _, block_alloc (heap_new_at _ _ _ (by simp)) _, heap_new_at _ _ _ (by simp), But.of_below hb⟩
end
theorem read_flag (l : Lat) (B : Nat) (rv : Value) (s : RS) (cs : List Value) (w : World) (h : RdAt w B rv s) (hl : s.data.length ≤ 1000000000) (hr : latRd (only (notB B) w) l cs) (hk : l.kind = 1) :
 Calls Tryz.prog 54 #[.pointer (some ⟨B, 0, none⟩), .agg cs.toArray] w (ReadPost B rv w (readV l s)) := by
 obtain ⟨vn, vp, vr, rfl, ⟨hi1, hi2, hi3⟩, hns, hps, hrs⟩ := (latRd_iff _ _ _).1 hr
 obtain ⟨k, lo, hi', ns, ps, rs⟩ := l
 simp only [Lat.kind, Lat.lo, Lat.hi, Lat.names, Lat.parts, Lat.rules] at hi1 hi2 hi3 hns hps hrs hk ⊢
 subst hk
 have HRV : Hid (readV (.mk 1 lo hi' ns ps rs) s = (.mk (if (rdBool s).1 then 1 else 0) [] [] [], (rdBool s).2)) := hid (by rw [readV]; rfl)
 generalize readV (.mk 1 lo hi' ns ps rs) s = R at HRV ⊢
 have HST := hid (RdSt.start h #[.int .i64 1, .int .i64 lo, .int .i64 hi', vn, vp, vr])
 have HL := hid hl
 have HO := hid h
 have HO1 := hid HST.out.rd
 clear h hl hr hns hps hrs
 go_enter Tryz.func54, Tryz.ntmps54
 go_wp2_with fail
 refine (rBool_any B rv s _ HO1.out HL.out).mono ?_
 rintro e w1 ⟨rfl, hp⟩
 have ST1 := hid (HST.out.call hp)
 clear hp
 have k0 := ST1.out.cellV 0
 have k1 := ST1.out.cellV 1
 have k2 := ST1.out.cellV 2
 have k3 := ST1.out.cellV 3
 have r0 := ST1.out.cellR 0
 have r1 := ST1.out.cellR 1
 have r2 := ST1.out.cellR 2
 have r3 := ST1.out.cellR 3
 have e0 := ST1.out.freeR 0
 have e1 := ST1.out.freeR 1
 have e2 := ST1.out.freeR 2
 have e3 := ST1.out.freeR 3
 have z0 := ST1.out.freeV 0
 simp only [List.getElem?_toArray, List.getElem?_cons_zero, List.getElem?_cons_succ] at k0 k1 k2 k3 r0 r1 r2 r3
 cases hb : (rdBool s).1
 · have HB := hid hb
   clear hb
   go_wp2_with fail
   refine bodyPost_ret (v := .agg #[.int .i64 0, .slice none 0 0, .slice none 0 0, .slice none 0 0]) (by simp [results, Tryz.results54, go_sem, k0, k1, k2, k3, r0, r1, r2, r3, e0, e1, e2, e3]) rfl (RdSt.post (x := .mk 0 [] [] []) ST1.out (valRd_flat _ _ i64_0) (by rw [HRV.out, HB.out]; rfl) _ _ _ _)
 · have HB := hid hb
   clear hb
   go_wp2_with fail
   have HT := hid (ST1.out.set 0 (.int .i64 1) (n' := .int .i64 1) rfl)
   refine bodyPost_ret (v := .agg #[.int .i64 1, .slice none 0 0, .slice none 0 0, .slice none 0 0]) (by simp [results, Tryz.results54, go_sem, k0, k1, k2, k3, r0, r1, r2, r3, e0, e1, e2, e3]) rfl (RdSt.post (x := .mk 1 [] [] []) HT.out (valRd_flat _ _ (by unfold I64; omega)) (by rw [HRV.out, HB.out]; rfl) _ _ _ _)
theorem read_max (l : Lat) (B : Nat) (rv : Value) (s : RS) (cs : List Value) (w : World) (h : RdAt w B rv s) (hl : s.data.length ≤ 1000000000) (hr : latRd (only (notB B) w) l cs) (hk : l.kind = 2) :
 Calls Tryz.prog 54 #[.pointer (some ⟨B, 0, none⟩), .agg cs.toArray] w (ReadPost B rv w (readV l s)) := by
 obtain ⟨vn, vp, vr, rfl, ⟨hi1, hi2, hi3⟩, hns, hps, hrs⟩ := (latRd_iff _ _ _).1 hr
 obtain ⟨k, lo, hi', ns, ps, rs⟩ := l
 simp only [Lat.kind, Lat.lo, Lat.hi, Lat.names, Lat.parts, Lat.rules] at hi1 hi2 hi3 hns hps hrs hk ⊢
 subst hk
 have HRV : Hid (readV (.mk 2 lo hi' ns ps rs) s = (.mk (rdInt s).1 [] [] [], (rdInt s).2)) := hid (by rw [readV]; rfl)
 generalize readV (.mk 2 lo hi' ns ps rs) s = R at HRV ⊢
 have HST := hid (RdSt.start h #[.int .i64 2, .int .i64 lo, .int .i64 hi', vn, vp, vr])
 have HL := hid hl
 have HO := hid h
 have HO1 := hid HST.out.rd
 clear h hl hr hns hps hrs
 go_enter Tryz.func54, Tryz.ntmps54
 go_wp2_with fail
 refine (rInt_any B rv s _ HO1.out HL.out).mono ?_
 rintro e w1 ⟨rfl, hp⟩
 have ST1 := hid (HST.out.call hp)
 clear hp
 have k0 := ST1.out.cellV 0
 have k1 := ST1.out.cellV 1
 have k2 := ST1.out.cellV 2
 have k3 := ST1.out.cellV 3
 have r0 := ST1.out.cellR 0
 have r1 := ST1.out.cellR 1
 have r2 := ST1.out.cellR 2
 have r3 := ST1.out.cellR 3
 have e0 := ST1.out.freeR 0
 have e1 := ST1.out.freeR 1
 have e2 := ST1.out.freeR 2
 have e3 := ST1.out.freeR 3
 have z0 := ST1.out.freeV 0
 simp only [List.getElem?_toArray, List.getElem?_cons_zero, List.getElem?_cons_succ] at k0 k1 k2 k3 r0 r1 r2 r3
 go_wp2_with fail
 have HT := hid (ST1.out.set 0 (.int .i64 (rdInt s).1) (n' := .int .i64 (rdInt s).1) rfl)
 refine bodyPost_ret (v := .agg #[.int .i64 (rdInt s).1, .slice none 0 0, .slice none 0 0, .slice none 0 0]) (by simp [results, Tryz.results54, go_sem, k0, k1, k2, k3, r0, r1, r2, r3, e0, e1, e2, e3]) rfl (RdSt.post (x := .mk (rdInt s).1 [] [] []) HT.out (valRd_flat _ _ (rdInt_ok HO.out.ok).2.2) (by rw [HRV.out]) _ _ _ _)
theorem read_min (l : Lat) (B : Nat) (rv : Value) (s : RS) (cs : List Value) (w : World) (h : RdAt w B rv s) (hl : s.data.length ≤ 1000000000) (hr : latRd (only (notB B) w) l cs) (hk : l.kind = 3) :
 Calls Tryz.prog 54 #[.pointer (some ⟨B, 0, none⟩), .agg cs.toArray] w (ReadPost B rv w (readV l s)) := by
 obtain ⟨vn, vp, vr, rfl, ⟨hi1, hi2, hi3⟩, hns, hps, hrs⟩ := (latRd_iff _ _ _).1 hr
 obtain ⟨k, lo, hi', ns, ps, rs⟩ := l
 simp only [Lat.kind, Lat.lo, Lat.hi, Lat.names, Lat.parts, Lat.rules] at hi1 hi2 hi3 hns hps hrs hk ⊢
 subst hk
 have HRV : Hid (readV (.mk 3 lo hi' ns ps rs) s = (.mk (rdInt s).1 [] [] [], (rdInt s).2)) := hid (by rw [readV]; rfl)
 generalize readV (.mk 3 lo hi' ns ps rs) s = R at HRV ⊢
 have HST := hid (RdSt.start h #[.int .i64 3, .int .i64 lo, .int .i64 hi', vn, vp, vr])
 have HL := hid hl
 have HO := hid h
 have HO1 := hid HST.out.rd
 clear h hl hr hns hps hrs
 go_enter Tryz.func54, Tryz.ntmps54
 go_wp2_with fail
 refine (rInt_any B rv s _ HO1.out HL.out).mono ?_
 rintro e w1 ⟨rfl, hp⟩
 have ST1 := hid (HST.out.call hp)
 clear hp
 have k0 := ST1.out.cellV 0
 have k1 := ST1.out.cellV 1
 have k2 := ST1.out.cellV 2
 have k3 := ST1.out.cellV 3
 have r0 := ST1.out.cellR 0
 have r1 := ST1.out.cellR 1
 have r2 := ST1.out.cellR 2
 have r3 := ST1.out.cellR 3
 have e0 := ST1.out.freeR 0
 have e1 := ST1.out.freeR 1
 have e2 := ST1.out.freeR 2
 have e3 := ST1.out.freeR 3
 have z0 := ST1.out.freeV 0
 simp only [List.getElem?_toArray, List.getElem?_cons_zero, List.getElem?_cons_succ] at k0 k1 k2 k3 r0 r1 r2 r3
 go_wp2_with fail
 have HT := hid (ST1.out.set 0 (.int .i64 (rdInt s).1) (n' := .int .i64 (rdInt s).1) rfl)
 refine bodyPost_ret (v := .agg #[.int .i64 (rdInt s).1, .slice none 0 0, .slice none 0 0, .slice none 0 0]) (by simp [results, Tryz.results54, go_sem, k0, k1, k2, k3, r0, r1, r2, r3, e0, e1, e2, e3]) rfl (RdSt.post (x := .mk (rdInt s).1 [] [] []) HT.out (valRd_flat _ _ (rdInt_ok HO.out.ok).2.2) (by rw [HRV.out]) _ _ _ _)
theorem strs_one {w : World} {g : Nat} {t : TypeId} {q : ByteArray} (h : w.heap[g]? = some (.cells #[.string q] t (0, 0))) (hq : q.size ≤ maxLen) : Strs w (.slice (some ⟨g, 0, none⟩) 1 1) [q] :=
 ⟨some ⟨g, 0, none⟩, 1, rfl, ⟨fun e => (by cases e), Nat.le_refl _⟩, by decide, fun i hi => by
   have : i = 0 := by simp at hi; exact hi
   subst this
   exact ⟨g, 0, [.string q], rfl, rfl, fun j hj => (by
     have : j = 0 := by simp at hj; exact hj
     subst this
     exact (cell_at_block h).trans rfl), rfl, hq⟩⟩
theorem rdText_le {s : RS} (h : s.Ok) : (rdText s).1.size ≤ s.data.length := (rdBytes_ok h).2.2
theorem read_flat (l : Lat) (B : Nat) (rv : Value) (s : RS) (cs : List Value) (w : World) (h : RdAt w B rv s) (hl : s.data.length ≤ 1000000000) (hr : latRd (only (notB B) w) l cs) (hk : l.kind = 8) :
 Calls Tryz.prog 54 #[.pointer (some ⟨B, 0, none⟩), .agg cs.toArray] w (ReadPost B rv w (readV l s)) := by
 obtain ⟨vn, vp, vr, rfl, ⟨hi1, hi2, hi3⟩, hns, hps, hrs⟩ := (latRd_iff _ _ _).1 hr
 obtain ⟨k, lo, hi', ns, ps, rs⟩ := l
 simp only [Lat.kind, Lat.lo, Lat.hi, Lat.names, Lat.parts, Lat.rules] at hi1 hi2 hi3 hns hps hrs hk ⊢
 subst hk
 have HRV : Hid (readV (.mk 8 lo hi' ns ps rs) s = if (rdSmall 2 s).1 = 1 then (.mk 1 [(rdText (rdSmall 2 s).2).1] [] [], (rdText (rdSmall 2 s).2).2) else (.mk ((rdSmall 2 s).1 : Nat) [] [] [], (rdSmall 2 s).2)) := hid (by rw [readV]; rfl)
 generalize readV (.mk 8 lo hi' ns ps rs) s = R at HRV ⊢
 have HST := hid (RdSt.start h #[.int .i64 8, .int .i64 lo, .int .i64 hi', vn, vp, vr])
 have HL := hid hl
 have HO := hid h
 have HO1 := hid HST.out.rd
 clear h hl hr hns hps hrs
 have HM := hid (rdSmall_le 2 s)
 go_enter Tryz.func54, Tryz.ntmps54
 go_wp2_with fail
 refine (rSmall_any B rv s 2 _ HO1.out HL.out (by decide)).mono ?_
 rintro e w1 ⟨rfl, hp⟩
 have ST1 := hid (HST.out.call hp)
 generalize rdSmall 2 s = q at HRV HM hp ST1 ⊢
 obtain ⟨m, s1⟩ := q
 simp only at HRV HM ST1 ⊢
 have HL1 : Hid (s1.data.length ≤ 1000000000) := hid (by have := hp.1.len HO1.out; have := HL.out; simp only at *; omega)
 clear hp
 have k0 := ST1.out.cellV 0
 have k1 := ST1.out.cellV 1
 have k2 := ST1.out.cellV 2
 have k3 := ST1.out.cellV 3
 have r0 := ST1.out.cellR 0
 have r1 := ST1.out.cellR 1
 have r2 := ST1.out.cellR 2
 have r3 := ST1.out.cellR 3
 have e0 := ST1.out.freeR 0
 have e1 := ST1.out.freeR 1
 have e2 := ST1.out.freeR 2
 have e3 := ST1.out.freeR 3
 have z0 := ST1.out.freeV 0
 have z1 := ST1.out.freeV 1
 simp only [List.getElem?_toArray, List.getElem?_cons_zero, List.getElem?_cons_succ] at k0 k1 k2 k3 r0 r1 r2 r3
 by_cases h1 : m = 1
 · subst h1
   go_wp2_with fail
   have ST2 := hid (ST1.out.set 0 (.int .i64 1) (n' := .int .i64 1) rfl)
   have ST3 := hid (fun q => ST2.out.drewN q)
   have HX := hid (rdText_le ST1.out.ok)
   refine (rText_any B rv s1 _ ST2.out.rd HL1.out).mono ?_
   rintro e w3 ⟨rfl, hp⟩
   have ST4 := hid (ST2.out.call hp)
   generalize rdText s1 = q at HRV HX hp ST4 ⊢
   obtain ⟨x, s2⟩ := q
   simp only at HRV HX ST4 ⊢
   clear hp k0 k1 k2 k3 r0 r1 r2 r3 e0 e1 e2 e3 z0 z1
   have k0 := ST4.out.cellV 0
   have k1 := ST4.out.cellV 1
   have k2 := ST4.out.cellV 2
   have k3 := ST4.out.cellV 3
   have r0 := ST4.out.cellR 0
   have r1 := ST4.out.cellR 1
   have r2 := ST4.out.cellR 2
   have r3 := ST4.out.cellR 3
   have e0 := ST4.out.freeR 0
   have e1 := ST4.out.freeR 1
   have e2 := ST4.out.freeR 2
   have e3 := ST4.out.freeR 3
   have z0 := ST4.out.freeV 0
   have z1 := ST4.out.freeV 1
   simp only [List.getElem?_toArray, List.getElem?_cons_zero, List.getElem?_cons_succ] at k0 k1 k2 k3 r0 r1 r2 r3
   have ka0 := (ST4.out.alloc (.cells #[.string x] 9 (0, 0))).cellV 0
   have ka1 := (ST4.out.alloc (.cells #[.string x] 9 (0, 0))).cellV 1
   have ka2 := (ST4.out.alloc (.cells #[.string x] 9 (0, 0))).cellV 2
   have ka3 := (ST4.out.alloc (.cells #[.string x] 9 (0, 0))).cellV 3
   have ra0 := (ST4.out.alloc (.cells #[.string x] 9 (0, 0))).cellR 0
   have ra1 := (ST4.out.alloc (.cells #[.string x] 9 (0, 0))).cellR 1
   have ra2 := (ST4.out.alloc (.cells #[.string x] 9 (0, 0))).cellR 2
   have ra3 := (ST4.out.alloc (.cells #[.string x] 9 (0, 0))).cellR 3
   have ea0 := (ST4.out.alloc (.cells #[.string x] 9 (0, 0))).freeR 0
   have ea1 := (ST4.out.alloc (.cells #[.string x] 9 (0, 0))).freeR 1
   have ea2 := (ST4.out.alloc (.cells #[.string x] 9 (0, 0))).freeR 2
   have ea3 := (ST4.out.alloc (.cells #[.string x] 9 (0, 0))).freeR 3
   have za0 := (ST4.out.alloc (.cells #[.string x] 9 (0, 0))).freeV 0
   have za1 := (ST4.out.alloc (.cells #[.string x] 9 (0, 0))).freeV 1
   simp only [List.getElem?_toArray, List.getElem?_cons_zero, List.getElem?_cons_succ] at ka0 ka1 ka2 ka3 ra0 ra1 ra2 ra3
   have hbig := ST4.out.big
   go_wp2_with fail
   have ST5 := hid ((ST4.out.alloc (.cells #[.string x] 9 (0, 0))).set 1 (.slice (some ⟨w3.heap.size, 0, none⟩) 1 1) (n' := .int .i64 1) rfl)
   have HS : Hid (Strs (only (from_ (w.heap.size + 3)) ((w3.alloc (.cells #[.string x] 9 (0, 0))).setCell ⟨w.heap.size + 1 + 1, 1, none⟩ (.slice (some ⟨w3.heap.size, 0, none⟩) 1 1))) (.slice (some ⟨w3.heap.size, 0, none⟩) 1 1) [x]) := hid (by
    have hb := ST4.out.big
    refine Strs.mono (strs_one (w := only (from_ (w.heap.size + 3)) ((w3.alloc (.cells #[.string x] 9 (0, 0))).setCell ⟨w.heap.size + 1 + 1, 1, none⟩ (.slice (some ⟨w3.heap.size, 0, none⟩) 1 1))) (g := w3.heap.size) (t := 9) ?_ (by have := HX.out; have := HL1.out; unfold maxLen; omega)) (Sub.refl _)
    have h1 : ((w3.alloc (.cells #[.string x] 9 (0, 0))).setCell ⟨w.heap.size + 1 + 1, 1, none⟩ (.slice (some ⟨w3.heap.size, 0, none⟩) 1 1)).heap[w3.heap.size]? = some (.cells #[.string x] 9 (0, 0)) := by
     rw [Below.heap_setCell _ _ _ _ (by show w3.heap.size ≠ w.heap.size + 1 + 1; omega)]; exact heap_alloc_new _ _
    exact only_block (decide_eq_true (by omega)) h1)
   generalize w3.alloc (.cells #[.string x] 9 (0, 0)) = W at ka0 ka1 ka2 ka3 ra0 ra1 ra2 ra3 ea0 ea1 ea2 ea3 ST5 HS ⊢
   clear k0 k1 k2 k3 r0 r1 r2 r3 e0 e1 e2 e3
   refine bodyPost_ret (v := .agg #[.int .i64 1, .slice (some ⟨w3.heap.size, 0, none⟩) 1 1, .slice none 0 0, .slice none 0 0]) (by simp [results, Tryz.results54, go_sem, ka0, ka1, ka2, ka3, ra0, ra1, ra2, ra3, ea0, ea1, ea2, ea3]) rfl (RdSt.post (x := .mk 1 [x] [] []) ST5.out ((valRd_iff _ _ _).2 ⟨_, _, _, rfl, by show I64 1; unfold I64; omega, HS.out, sl_none _ _ _, sl_none _ _ _⟩) (by rw [HRV.out]; rfl) _ _ _ _)
 · have hb : ((m : Int) == 1) = false := by simp; omega
   have H1 := hid h1
   clear h1
   go_wp2_with fail
   have HT := hid (ST1.out.set 0 (.int .i64 m) (n' := .int .i64 m) rfl)
   refine bodyPost_ret (v := .agg #[.int .i64 m, .slice none 0 0, .slice none 0 0, .slice none 0 0]) (by simp [results, Tryz.results54, go_sem, k0, k1, k2, k3, r0, r1, r2, r3, e0, e1, e2, e3]) rfl (RdSt.post (x := .mk m [] [] []) HT.out (valRd_flat _ _ (by have := HM.out; unfold I64; omega)) (by rw [HRV.out, if_neg H1.out]) _ _ _ _)
theorem infoString : (Tryz.prog.info? 9).map (fun i => (i.zero, i.size, i.bytes)) = some (some (.string ByteArray.empty), 1, 16) := by kernel_rfl
theorem read_set4 (l : Lat) (B : Nat) (rv : Value) (s : RS) (cs : List Value) (w : World) (h : RdAt w B rv s) (hl : s.data.length ≤ 1000000000) (hr : latRd (only (notB B) w) l cs) (hk : l.kind = 4) :
 Calls Tryz.prog 54 #[.pointer (some ⟨B, 0, none⟩), .agg cs.toArray] w (ReadPost B rv w (readV l s)) := by
 obtain ⟨vn, vp, vr, rfl, ⟨hi1, hi2, hi3⟩, hns, hps, hrs⟩ := (latRd_iff _ _ _).1 hr
 obtain ⟨k, lo, hi', ns, ps, rs⟩ := l
 simp only [Lat.kind, Lat.lo, Lat.hi, Lat.names, Lat.parts, Lat.rules] at hi1 hi2 hi3 hns hps hrs hk ⊢
 subst hk
 have HRV : Hid (readV (.mk 4 lo hi' ns ps rs) s = (.mk 0 (rdLoop rdText (rdCount s).1 (rdCount s).2).1 [] [], (rdLoop rdText (rdCount s).1 (rdCount s).2).2)) := hid (by rw [readV]; rfl)
 generalize readV (.mk 4 lo hi' ns ps rs) s = R at HRV ⊢
 have HST := hid (RdSt.start h #[.int .i64 4, .int .i64 lo, .int .i64 hi', vn, vp, vr])
 have HL := hid hl
 have HO := hid h
 have HO1 := hid HST.out.rd
 have HC := hid (rdCount_ok h.ok)
 clear h hl hr hns hps hrs
 obtain ⟨i0, hi0, hz0, hz1, hz2⟩ := info_parts infoString
 go_enter Tryz.func54, Tryz.ntmps54
 go_wp2_with fail
 refine (rCount_any B rv s _ HO1.out HL.out).mono ?_
 rintro e w1 ⟨rfl, hp⟩
 have ST1 := hid (HST.out.call hp)
 clear hp
 have HL1 : Hid ((rdCount s).2.data.length = s.data.length) := hid (congrArg List.length HC.out.2.1)
 generalize rdCount s = q at HRV HC HL1 ST1 ⊢
 obtain ⟨N, s1⟩ := q
 simp only at HRV HC HL1 ST1 ⊢
 have HLA := hid (LoopAt.start rdText N s1)
 generalize rdLoop rdText N s1 = RL at HRV HLA
 have HN : Hid (N ≤ 1000000000 ∧ s1.data.length ≤ 1000000000) := hid (by have := HC.out.2.2; have := HL1.out; have := HL.out; omega)
 clear HC HL1
 go_wp2_with fail
 go_loopw [6] (fun n wr => ∃ (k : Nat) (s : RS) (vo : Value) (acc : List ByteArray) (css : List (List Value)), n = .int .i64 k ∧ Hid (RdSt w wr B rv s #[.int .i64 4, .int .i64 lo, .int .i64 hi', vn, vp, vr] (.int .i64 0) vo (.slice none 0 0) (.slice none 0 0)) ∧
     Hid (Rws wr (w.heap.size + 3) 9 1 (fun _ => strRd) vo acc css) ∧ Hid (LoopAt RL rdText acc k s) ∧ Hid (acc.length + k ≤ 1000000000 ∧ s.data.length ≤ 1000000000)) (fun n _ => (intOf n).toNat)
 case atStart => exact ⟨N, s1, _, [], [], rfl, ST1, hid (Rws.nil _ _ _ _ _), HLA, hid (by have := HN.out; simp; omega)⟩
 case round =>
  obtain ⟨k, s2, vo, acc, css, rfl, STW, HRW, HLW, HNW⟩ := hrel
  obtain ⟨ao, co, rfl⟩ := owns_shape HRW.out.own
  have HOW := hid STW.out.rd
  clear HLA
  have kw0 := STW.out.cellV 0
  have kw1 := STW.out.cellV 1
  have kw2 := STW.out.cellV 2
  have kw3 := STW.out.cellV 3
  have rw0 := STW.out.cellR 0
  have rw1 := STW.out.cellR 1
  have rw2 := STW.out.cellR 2
  have rw3 := STW.out.cellR 3
  have ew0 := STW.out.freeR 0
  have ew1 := STW.out.freeR 1
  have ew2 := STW.out.freeR 2
  have ew3 := STW.out.freeR 3
  have zw0 := STW.out.freeV 0
  have zw1 := STW.out.freeV 1
  have zw2 := STW.out.freeV 2
  have zw3 := STW.out.freeV 3
  simp only [List.getElem?_toArray, List.getElem?_cons_zero, List.getElem?_cons_succ] at kw0 kw1 kw2 kw3 rw0 rw1 rw2 rw3
  by_cases hk0 : k = 0
  · have HK := hid hk0
    subst hk0
    have HE := hid HLW.out.end0
    have HRS := hid (HRW.out.reads fun _ h => h)
    go_wp2_with fail
    refine bodyPost_ret (v := .agg #[.int .i64 0, .slice ao acc.length co, .slice none 0 0, .slice none 0 0]) (by simp [results, Tryz.results54, go_sem, kw0, kw1, kw2, kw3, rw0, rw1, rw2, rw3, ew0, ew1, ew2, ew3]) rfl (RdSt.post (x := .mk 0 acc [] []) STW.out ((valRd_iff _ _ _).2 ⟨_, _, _, rfl, i64_0, HRS.out, sl_none _ _ _, sl_none _ _ _⟩) (by rw [HRV.out, HE.out]) _ _ _ _)
  · have hkp : 0 < k := by omega
    have HK := hid hk0
    clear hk0
    go_wp2_with fail
    refine (rErr_any B rv s2 _ HOW.out).mono ?_
    rintro e w2 ⟨rfl, rfl⟩
    by_cases he : s2.err = 0
    · have HE := hid he
      have heb : (s2.err == 0) = true := by simpa using he
      have HLS : Hid (LoopAt RL rdText (acc ++ [(rdText s2).1]) (k - 1) (rdText s2).2) := hid (by
       have := HLW.out
       rw [show k = k - 1 + 1 by omega] at this
       exact this.step HE.out)
      have HX : Hid ((rdText s2).1.size ≤ maxLen) := hid (by have := rdText_le STW.out.ok; have := HNW.out.2; unfold maxLen; omega)
      have HNX : Hid ((rdText s2).2.data.length ≤ 1000000000) := hid (by have := (rdBytes_ok STW.out.ok).2.1; have := HNW.out.2; show (rdBytes s2).2.data.length ≤ _; rw [(rdBytes_ok STW.out.ok).2.1]; exact this)
      have HMX : Hid (acc.length + 1 ≤ maxLen ∧ (acc.length + 1) * 16 ≤ 140737488355328) := hid (by have := HNW.out; have := HK.out; unfold maxLen; omega)
      have HDR : Hid (∀ q, RdAt (w2.drewN q) B rv s2) := hid fun q => (STW.out.drewN q).rd
      clear he
      go_wp2_with fail
      go_region_law
       (first
         | (refine step_append (by rfl) (.tmp 58) (.tmp 61) 22 (by rfl) (w.heap.size + 3) 9 1 16 Tryz.underlying22 hi0 hz0 hz1 hz2 rfl (by decide) (.slice ao acc.length co) acc.length css.flatten (by rfl) (HOWN.out _) _ 1 [.string x] (by rfl) (Src.of_block (cs := #[.string x]) (heap_alloc_new _ _) 1 1 1 rfl (by simp [Value.oneCell'])) (acc.length + 1) rfl _ rfl HMX.out.1 HMX.out.2 (HBS.out _) ?_
            intro na nc w5 had
            have HAD := hid had
            have ST5 : Hid (RdSt w w5 B rv s3 #[.int .i64 4, .int .i64 lo, .int .i64 hi', vn, vp, vr] (.int .i64 0) (.slice ao acc.length co) (.slice none 0 0) (.slice none 0 0)) := hid ((ST3.out.alloc _).grown had.grown (fun g hg => ((HOWN.out (.cells #[] 0 (0, 0))).lt g hg).1))
            have kv1 := ST5.out.cellV 1
            have zv1 := ST5.out.freeV 1
            simp only [List.getElem?_toArray, List.getElem?_cons_zero, List.getElem?_cons_succ] at kv1
            clear had)
         | (go_simp
            go_at_call 92
            refine (rText_any B rv s2 _ (HDR.out _) HNW.out.2).mono ?_
            rintro e w3 ⟨rfl, hp⟩
            have ST3 : Hid (RdSt w w3 B rv (rdText s2).2 #[.int .i64 4, .int .i64 lo, .int .i64 hi', vn, vp, vr] (.int .i64 0) (.slice ao acc.length co) (.slice none 0 0) (.slice none 0 0)) := hid ((STW.out.drewN _).call hp)
            have HRW3 : Hid (Rws w3 (w.heap.size + 3) 9 1 (fun _ => strRd) (.slice ao acc.length co) acc css) := hid (HRW.out.keep (fun _ h => h) fun b hb hl => hp.2.block b hl (by have := STW.out.lt; omega))
            have HOWN : Hid (∀ O, (w3.alloc O).ownsRow (w.heap.size + 3) 9 1 (.slice ao acc.length co) acc.length css.flatten) := hid fun O => owns_below HRW3.out.own ((Below.refl _ _).alloc (Nat.le_refl _) O)
            have HBS : Hid (∀ O, w.heap.size + 3 ≤ (w3.alloc O).heap.size) := hid fun O => (ST3.out.alloc O).big
            have ka1 := fun O => (ST3.out.alloc O).cellV 1
            have za1 := fun O => (ST3.out.alloc O).freeV 1
            have kb1 := ST3.out.cellV 1
            simp only [List.getElem?_toArray, List.getElem?_cons_zero, List.getElem?_cons_succ] at ka1 kb1
            generalize rdText s2 = q at HX HLS HNX hp ST3 ⊢
            obtain ⟨x, s3⟩ := q
            simp only at HX HLS HNX ST3 ⊢
            clear hp))
      all_goals
       have HAX : Hid (Appd (w3.alloc (.cells #[.string x] 9 (0, 0))) w5 (w.heap.size + 3) 9 1 (.slice ao acc.length co) (.slice na (acc.length + 1) nc) (acc.length + 1) (css.flatten ++ [.string x])) := HAD
       have ST6 := hid (ST5.out.set 1 (.slice na (acc.length + 1) nc) (n' := .int .i64 0) rfl)
       have HR6 : Hid (Rws (w5.setCell ⟨w.heap.size + 1 + 1, 1, none⟩ (.slice na (acc.length + 1) nc)) (w.heap.size + 3) 9 1 (fun _ => strRd) (.slice na (acc.length + 1) nc) (acc ++ [x]) (css ++ [[.string x]])) := hid
         (((HRW3.out.keep (fun _ h => h) fun b _ hl => Below.heap_alloc _ _ _ hl).push (fun _ h => h) HAX.out rfl rfl rfl ⟨rfl, HX.out⟩).keep (fun _ h => h) fun b hb _ => Below.heap_setCell _ _ _ _ (by show b ≠ w.heap.size + 1 + 1; omega))
       have HLN : Hid (acc.length + 1 = (acc ++ [x]).length) := hid (by simp)
       have HN6 : Hid ((acc ++ [x]).length + (k - 1) ≤ 1000000000 ∧ s3.data.length ≤ 1000000000) := hid (by have := HNW.out; have := HNX.out; have := HK.out; simp; omega)
       have b0 := ST6.out.cellL 0
       simp only [List.getElem?_toArray, List.getElem?_cons_zero, List.getElem?_cons_succ] at b0
       clear HAD kv1 zv1 ka1 za1 kb1
       generalize w5.setCell ⟨w.heap.size + 1 + 1, 1, none⟩ (.slice na (acc.length + 1) nc) = w6 at ST6 HR6 b0 ⊢
       go_wp2_with fail
       have hw1 : wrap64 ((k : Int) - 1) = ((k - 1 : Nat) : Int) := by rw [IntWalk.wrap64_in _ (by have := HNW.out; omega)]; omega
       go_roundw
       case rel => exact ⟨k - 1, s3, _, acc ++ [x], _, by rw [hw1], ST6, HR6, HLS, HN6⟩
       case measure => simp [intOf, hw1]; omega
    · have heb : (s2.err == 0) = false := by simpa using he
      have HE := hid (HLW.out.endE he)
      clear he
      have HRS := hid (HRW.out.reads fun _ h => h)
      go_wp2_with fail
      refine bodyPost_ret (v := .agg #[.int .i64 0, .slice ao acc.length co, .slice none 0 0, .slice none 0 0]) (by simp [results, Tryz.results54, go_sem, kw0, kw1, kw2, kw3, rw0, rw1, rw2, rw3, ew0, ew1, ew2, ew3]) rfl (RdSt.post (x := .mk 0 acc [] []) STW.out ((valRd_iff _ _ _).2 ⟨_, _, _, rfl, i64_0, HRS.out, sl_none _ _ _, sl_none _ _ _⟩) (by rw [HRV.out, HE.out]) _ _ _ _)
theorem read_set10 (l : Lat) (B : Nat) (rv : Value) (s : RS) (cs : List Value) (w : World) (h : RdAt w B rv s) (hl : s.data.length ≤ 1000000000) (hr : latRd (only (notB B) w) l cs) (hk : l.kind = 10) :
 Calls Tryz.prog 54 #[.pointer (some ⟨B, 0, none⟩), .agg cs.toArray] w (ReadPost B rv w (readV l s)) := by
 obtain ⟨vn, vp, vr, rfl, ⟨hi1, hi2, hi3⟩, hns, hps, hrs⟩ := (latRd_iff _ _ _).1 hr
 obtain ⟨k, lo, hi', ns, ps, rs⟩ := l
 simp only [Lat.kind, Lat.lo, Lat.hi, Lat.names, Lat.parts, Lat.rules] at hi1 hi2 hi3 hns hps hrs hk ⊢
 subst hk
 have HRV : Hid (readV (.mk 10 lo hi' ns ps rs) s = (.mk 0 (rdLoop rdText (rdCount s).1 (rdCount s).2).1 [] [], (rdLoop rdText (rdCount s).1 (rdCount s).2).2)) := hid (by rw [readV]; rfl)
 generalize readV (.mk 10 lo hi' ns ps rs) s = R at HRV ⊢
 have HST := hid (RdSt.start h #[.int .i64 10, .int .i64 lo, .int .i64 hi', vn, vp, vr])
 have HL := hid hl
 have HO := hid h
 have HO1 := hid HST.out.rd
 have HC := hid (rdCount_ok h.ok)
 clear h hl hr hns hps hrs
 obtain ⟨i0, hi0, hz0, hz1, hz2⟩ := info_parts infoString
 go_enter Tryz.func54, Tryz.ntmps54
 go_wp2_with fail
 refine (rCount_any B rv s _ HO1.out HL.out).mono ?_
 rintro e w1 ⟨rfl, hp⟩
 have ST1 := hid (HST.out.call hp)
 clear hp
 have HL1 : Hid ((rdCount s).2.data.length = s.data.length) := hid (congrArg List.length HC.out.2.1)
 generalize rdCount s = q at HRV HC HL1 ST1 ⊢
 obtain ⟨N, s1⟩ := q
 simp only at HRV HC HL1 ST1 ⊢
 have HLA := hid (LoopAt.start rdText N s1)
 generalize rdLoop rdText N s1 = RL at HRV HLA
 have HN : Hid (N ≤ 1000000000 ∧ s1.data.length ≤ 1000000000) := hid (by have := HC.out.2.2; have := HL1.out; have := HL.out; omega)
 clear HC HL1
 go_wp2_with fail
 go_loopw [6] (fun n wr => ∃ (k : Nat) (s : RS) (vo : Value) (acc : List ByteArray) (css : List (List Value)), n = .int .i64 k ∧ Hid (RdSt w wr B rv s #[.int .i64 10, .int .i64 lo, .int .i64 hi', vn, vp, vr] (.int .i64 0) vo (.slice none 0 0) (.slice none 0 0)) ∧
     Hid (Rws wr (w.heap.size + 3) 9 1 (fun _ => strRd) vo acc css) ∧ Hid (LoopAt RL rdText acc k s) ∧ Hid (acc.length + k ≤ 1000000000 ∧ s.data.length ≤ 1000000000)) (fun n _ => (intOf n).toNat)
 case atStart => exact ⟨N, s1, _, [], [], rfl, ST1, hid (Rws.nil _ _ _ _ _), HLA, hid (by have := HN.out; simp; omega)⟩
 case round =>
  obtain ⟨k, s2, vo, acc, css, rfl, STW, HRW, HLW, HNW⟩ := hrel
  obtain ⟨ao, co, rfl⟩ := owns_shape HRW.out.own
  have HOW := hid STW.out.rd
  clear HLA
  have kw0 := STW.out.cellV 0
  have kw1 := STW.out.cellV 1
  have kw2 := STW.out.cellV 2
  have kw3 := STW.out.cellV 3
  have rw0 := STW.out.cellR 0
  have rw1 := STW.out.cellR 1
  have rw2 := STW.out.cellR 2
  have rw3 := STW.out.cellR 3
  have ew0 := STW.out.freeR 0
  have ew1 := STW.out.freeR 1
  have ew2 := STW.out.freeR 2
  have ew3 := STW.out.freeR 3
  have zw0 := STW.out.freeV 0
  have zw1 := STW.out.freeV 1
  have zw2 := STW.out.freeV 2
  have zw3 := STW.out.freeV 3
  simp only [List.getElem?_toArray, List.getElem?_cons_zero, List.getElem?_cons_succ] at kw0 kw1 kw2 kw3 rw0 rw1 rw2 rw3
  by_cases hk0 : k = 0
  · have HK := hid hk0
    subst hk0
    have HE := hid HLW.out.end0
    have HRS := hid (HRW.out.reads fun _ h => h)
    go_wp2_with fail
    refine bodyPost_ret (v := .agg #[.int .i64 0, .slice ao acc.length co, .slice none 0 0, .slice none 0 0]) (by simp [results, Tryz.results54, go_sem, kw0, kw1, kw2, kw3, rw0, rw1, rw2, rw3, ew0, ew1, ew2, ew3]) rfl (RdSt.post (x := .mk 0 acc [] []) STW.out ((valRd_iff _ _ _).2 ⟨_, _, _, rfl, i64_0, HRS.out, sl_none _ _ _, sl_none _ _ _⟩) (by rw [HRV.out, HE.out]) _ _ _ _)
  · have hkp : 0 < k := by omega
    have HK := hid hk0
    clear hk0
    go_wp2_with fail
    refine (rErr_any B rv s2 _ HOW.out).mono ?_
    rintro e w2 ⟨rfl, rfl⟩
    by_cases he : s2.err = 0
    · have HE := hid he
      have heb : (s2.err == 0) = true := by simpa using he
      have HLS : Hid (LoopAt RL rdText (acc ++ [(rdText s2).1]) (k - 1) (rdText s2).2) := hid (by
       have := HLW.out
       rw [show k = k - 1 + 1 by omega] at this
       exact this.step HE.out)
      have HX : Hid ((rdText s2).1.size ≤ maxLen) := hid (by have := rdText_le STW.out.ok; have := HNW.out.2; unfold maxLen; omega)
      have HNX : Hid ((rdText s2).2.data.length ≤ 1000000000) := hid (by have := (rdBytes_ok STW.out.ok).2.1; have := HNW.out.2; show (rdBytes s2).2.data.length ≤ _; rw [(rdBytes_ok STW.out.ok).2.1]; exact this)
      have HMX : Hid (acc.length + 1 ≤ maxLen ∧ (acc.length + 1) * 16 ≤ 140737488355328) := hid (by have := HNW.out; have := HK.out; unfold maxLen; omega)
      have HDR : Hid (∀ q, RdAt (w2.drewN q) B rv s2) := hid fun q => (STW.out.drewN q).rd
      clear he
      go_wp2_with fail
      go_region_law
       (first
         | (refine step_append (by rfl) (.tmp 58) (.tmp 61) 22 (by rfl) (w.heap.size + 3) 9 1 16 Tryz.underlying22 hi0 hz0 hz1 hz2 rfl (by decide) (.slice ao acc.length co) acc.length css.flatten (by rfl) (HOWN.out _) _ 1 [.string x] (by rfl) (Src.of_block (cs := #[.string x]) (heap_alloc_new _ _) 1 1 1 rfl (by simp [Value.oneCell'])) (acc.length + 1) rfl _ rfl HMX.out.1 HMX.out.2 (HBS.out _) ?_
            intro na nc w5 had
            have HAD := hid had
            have ST5 : Hid (RdSt w w5 B rv s3 #[.int .i64 10, .int .i64 lo, .int .i64 hi', vn, vp, vr] (.int .i64 0) (.slice ao acc.length co) (.slice none 0 0) (.slice none 0 0)) := hid ((ST3.out.alloc _).grown had.grown (fun g hg => ((HOWN.out (.cells #[] 0 (0, 0))).lt g hg).1))
            have kv1 := ST5.out.cellV 1
            have zv1 := ST5.out.freeV 1
            simp only [List.getElem?_toArray, List.getElem?_cons_zero, List.getElem?_cons_succ] at kv1
            clear had)
         | (go_simp
            go_at_call 92
            refine (rText_any B rv s2 _ (HDR.out _) HNW.out.2).mono ?_
            rintro e w3 ⟨rfl, hp⟩
            have ST3 : Hid (RdSt w w3 B rv (rdText s2).2 #[.int .i64 10, .int .i64 lo, .int .i64 hi', vn, vp, vr] (.int .i64 0) (.slice ao acc.length co) (.slice none 0 0) (.slice none 0 0)) := hid ((STW.out.drewN _).call hp)
            have HRW3 : Hid (Rws w3 (w.heap.size + 3) 9 1 (fun _ => strRd) (.slice ao acc.length co) acc css) := hid (HRW.out.keep (fun _ h => h) fun b hb hl => hp.2.block b hl (by have := STW.out.lt; omega))
            have HOWN : Hid (∀ O, (w3.alloc O).ownsRow (w.heap.size + 3) 9 1 (.slice ao acc.length co) acc.length css.flatten) := hid fun O => owns_below HRW3.out.own ((Below.refl _ _).alloc (Nat.le_refl _) O)
            have HBS : Hid (∀ O, w.heap.size + 3 ≤ (w3.alloc O).heap.size) := hid fun O => (ST3.out.alloc O).big
            have ka1 := fun O => (ST3.out.alloc O).cellV 1
            have za1 := fun O => (ST3.out.alloc O).freeV 1
            have kb1 := ST3.out.cellV 1
            simp only [List.getElem?_toArray, List.getElem?_cons_zero, List.getElem?_cons_succ] at ka1 kb1
            generalize rdText s2 = q at HX HLS HNX hp ST3 ⊢
            obtain ⟨x, s3⟩ := q
            simp only at HX HLS HNX ST3 ⊢
            clear hp))
      all_goals
       have HAX : Hid (Appd (w3.alloc (.cells #[.string x] 9 (0, 0))) w5 (w.heap.size + 3) 9 1 (.slice ao acc.length co) (.slice na (acc.length + 1) nc) (acc.length + 1) (css.flatten ++ [.string x])) := HAD
       have ST6 := hid (ST5.out.set 1 (.slice na (acc.length + 1) nc) (n' := .int .i64 0) rfl)
       have HR6 : Hid (Rws (w5.setCell ⟨w.heap.size + 1 + 1, 1, none⟩ (.slice na (acc.length + 1) nc)) (w.heap.size + 3) 9 1 (fun _ => strRd) (.slice na (acc.length + 1) nc) (acc ++ [x]) (css ++ [[.string x]])) := hid
         (((HRW3.out.keep (fun _ h => h) fun b _ hl => Below.heap_alloc _ _ _ hl).push (fun _ h => h) HAX.out rfl rfl rfl ⟨rfl, HX.out⟩).keep (fun _ h => h) fun b hb _ => Below.heap_setCell _ _ _ _ (by show b ≠ w.heap.size + 1 + 1; omega))
       have HLN : Hid (acc.length + 1 = (acc ++ [x]).length) := hid (by simp)
       have HN6 : Hid ((acc ++ [x]).length + (k - 1) ≤ 1000000000 ∧ s3.data.length ≤ 1000000000) := hid (by have := HNW.out; have := HNX.out; have := HK.out; simp; omega)
       have b0 := ST6.out.cellL 0
       simp only [List.getElem?_toArray, List.getElem?_cons_zero, List.getElem?_cons_succ] at b0
       clear HAD kv1 zv1 ka1 za1 kb1
       generalize w5.setCell ⟨w.heap.size + 1 + 1, 1, none⟩ (.slice na (acc.length + 1) nc) = w6 at ST6 HR6 b0 ⊢
       go_wp2_with fail
       have hw1 : wrap64 ((k : Int) - 1) = ((k - 1 : Nat) : Int) := by rw [IntWalk.wrap64_in _ (by have := HNW.out; omega)]; omega
       go_roundw
       case rel => exact ⟨k - 1, s3, _, acc ++ [x], _, by rw [hw1], ST6, HR6, HLS, HN6⟩
       case measure => simp [intOf, hw1]; omega
    · have heb : (s2.err == 0) = false := by simpa using he
      have HE := hid (HLW.out.endE he)
      clear he
      have HRS := hid (HRW.out.reads fun _ h => h)
      go_wp2_with fail
      refine bodyPost_ret (v := .agg #[.int .i64 0, .slice ao acc.length co, .slice none 0 0, .slice none 0 0]) (by simp [results, Tryz.results54, go_sem, kw0, kw1, kw2, kw3, rw0, rw1, rw2, rw3, ew0, ew1, ew2, ew3]) rfl (RdSt.post (x := .mk 0 acc [] []) STW.out ((valRd_iff _ _ _).2 ⟨_, _, _, rfl, i64_0, HRS.out, sl_none _ _ _, sl_none _ _ _⟩) (by rw [HRV.out, HE.out]) _ _ _ _)
mutual
def topV : Lat → Val × Bool
 | .mk k lo hi ns ps _ => if k = 1 then (.mk 1 [] [] [], true) else if k = 2 then (.mk hi [] [] [], true) else if k = 3 then (.mk lo [] [] [], true) else if k = 8 then (.mk 2 [] [] [], true)
   else if k = 4 ∨ k = 10 then (.mk 0 ns [] [], decide (0 < ns.length)) else if k = 9 then (zeroV, false)
   else if k = 5 then topMap ns ps else if topOk ps then (.mk 0 [] (topVs ps) [], true) else (zeroV, false)
def topMap : List ByteArray → List Lat → Val × Bool
 | _, [] => (zeroV, true)
 | ns, p :: _ => if trivB p then (zeroV, true) else if (topV p).2 = false ∨ ns.length = 0 then (zeroV, false) else (.mk 0 ns (List.replicate ns.length (topV p).1) [], true)
def topVs : List Lat → List Val
 | [] => []
 | p :: t => (topV p).1 :: topVs t
def topOk : List Lat → Bool
 | [] => true
 | p :: t => (topV p).2 && topOk t
end
theorem topVs_eq : ∀ l, topVs l = l.map fun p => (topV p).1
  | [] => by rw [topVs]; rfl
  | p :: t => by rw [topVs, topVs_eq t]; rfl
theorem topOk_eq : ∀ l, topOk l = l.all fun p => (topV p).2
  | [] => by rw [topOk]; rfl
  | p :: t => by rw [topOk, topOk_eq t]; rfl
def TopPost (w : World) (x : Val × Bool) (e : Ending) (w' : World) : Prop := ∃ cs, e = .returned (.tuple #[.agg cs.toArray, .bool x.2]) ∧ valRd (only (from_ w.heap.size) w') x.1 cs ∧ Below w.heap.size w w'
theorem Src.of_strs {w : World} {a : Option Addr} {n cap : Nat} {l : List ByteArray} (h : Strs w (.slice a n cap) l) : Src w 1 (.slice a n cap) l.length (l.map Value.string) := by
 obtain ⟨a', c', hv, hn, hm, hc⟩ := h
 cases hv
 refine ⟨a, cap, rfl, by simp, fun e => ?_, fun ad had j q hq => ?_, fun q hq => ?_⟩
 · have := hn.1 e
   have := hn.2
   exact ⟨by omega, by omega⟩
 · have hj : j < l.length := by
    rcases Nat.lt_or_ge j l.length with h | h
    · exact h
    · rw [List.getElem?_eq_none (by simpa using h)] at hq; cases hq
   obtain ⟨b, o, cs, ha, hl, hcs, hr, _⟩ := hc j hj
   rw [had] at ha
   cases ha
   subst hr
   rw [addr_add]
   have := hcs 0 (by simp)
   simp only [List.getElem_cons_zero, Nat.mul_one, Nat.add_zero] at this
   rw [this]
   rw [List.getElem?_eq_getElem (by simpa using hj), List.getElem_map] at hq
   exact hq
 · obtain ⟨s, _, rfl⟩ := List.mem_map.1 hq
   rfl
theorem strs_le {w : World} {v : Value} {l : List ByteArray} (h : Strs w v l) : ∀ s ∈ l, s.size ≤ maxLen := fun s hs => by
  obtain ⟨a', c', hv, hn, hm, hc⟩ := h
  obtain ⟨i, hi, rfl⟩ := List.getElem_of_mem hs
  obtain ⟨b, o, cs, ha, hl, hcs, hr, hq⟩ := hc i hi
  exact hq
theorem strs_owns {w : World} {base : Nat} {v : Value} {l : List ByteArray} (h : w.ownsRow base 9 1 v l.length (l.map Value.string)) (hl : ∀ s ∈ l, s.size ≤ maxLen) : Strs (only (from_ base) w) v l := by
 have hR : Rws w base 9 1 (fun _ => strRd) v l (l.map fun s => [Value.string s]) := ⟨by
   have e : (l.map fun s => [Value.string s]).flatten = l.map Value.string := by
     rw [← List.flatMap_def]
     clear h hl
     induction l with
     | nil => rfl
     | cons x t ih => rw [List.flatMap_cons, ih]; rfl
   rw [e]; exact h, by simp, fun cs hc => by obtain ⟨s, _, rfl⟩ := List.mem_map.1 hc; rfl, fun i hi hi' => by rw [List.getElem_map]; exact ⟨rfl, hl _ (List.getElem_mem hi)⟩⟩
 exact hR.reads fun _ h => h
def StrsPost (w : World) (l : List ByteArray) (e : Ending) (w' : World) : Prop := ∃ a c, e = .returned (.slice a l.length c) ∧ Strs (only (from_ w.heap.size) w') (.slice a l.length c) l ∧ Below w.heap.size w w'
theorem clone_any (v : Value) (l : List ByteArray) (w : World) (hv : Strs w v l) (hl : l.length ≤ 1000000000) : Calls Tryz.prog 71 #[v] w (StrsPost w l) := by
 obtain ⟨i0, hi0, hz0, hz1, hz2⟩ := info_parts infoString
 obtain ⟨a, c, rfl, hcap, hm⟩ := hv.shape
 have HV := hid hv
 have HM := hid hl
 have HLE := hid (strs_le hv)
 have HN : Hid (a = none → l = [] ∧ c = 0) := hid fun e => by
   obtain ⟨a', c', hq, hn, _⟩ := hv
   cases hq
   have h1 := hn.1 e
   exact ⟨List.eq_nil_of_length_eq_zero (by omega), h1⟩
 clear hv hl
 show Calls _ _ _ _ fun e w' => Hid (StrsPost w l e w')
 cases a with
 | none =>
   obtain ⟨rfl, rfl⟩ := HN.out rfl
   have hnil := run_eql_nil_slice (P := Tryz.prog) w 22 9 none 0 0 0 0 Tryz.underlying22
   go_enter Tryz.func71, Tryz.ntmps71
   go_wp2_with fail
   go_ret
   exact hid ⟨_, _, rfl, sl_none _ _ _, Below.refl _ _⟩
 | some ad =>
   have hnil := Lib.run_eql_slice_nil (P := Tryz.prog) w 22 9 (some ad) l.length c 0 0 Tryz.underlying22
   have HSRC : Hid (∀ O, Src (w.alloc O) 1 (.slice (some ad) l.length c) l.length (l.map Value.string)) := hid fun O => Src.of_strs (Strs.below HV.out ((Below.refl _ _).alloc (Nat.le_refl _) O))
   go_enter Tryz.func71, Tryz.ntmps71
   go_wp2_with (at_builtin; refine wpList_append rfl (.tmp 5) (.tmp 6) 22 rfl w.heap.size 9 1 16 Tryz.underlying22 hi0 hz0 hz1 hz2 rfl (by decide) (.slice (some ⟨w.heap.size, 0, none⟩) 0 0) 0 [] rfl (owns_made #[] 0 (heap_alloc_new w _) (Nat.le_refl _) rfl (by decide)) (.slice (some ad) l.length c) l.length (l.map Value.string) rfl (HSRC.out _) l.length (Nat.zero_add _) (l.map Value.string) rfl (by have := HM.out; unfold maxLen; omega) (by have := HM.out; omega) (by simp) ?_; intro na nc w2 had; have HAD := hid had; clear had)
   go_ret
   exact hid ⟨_, _, rfl, strs_owns HAD.out.own HLE.out, ((Below.refl _ _).alloc (Nat.le_refl _) _).grown HAD.out.grown (by simp) (fun g hg => by simp [Value.ownBlock] at hg; omega)⟩
structure BvSt (w wr : World) (lc : Array Value) (n vn vp ve : Value) : Prop where
 box : wr.heap[w.heap.size]? = some (.cells lc 26 (0, 0))
 res : wr.heap[w.heap.size + 1]? = some (.cells #[.int .i64 0, .slice none 0 0, .slice none 0 0, .slice none 0 0] 30 (0, 0))
 val : wr.heap[w.heap.size + 1 + 1]? = some (.cells #[n, vn, vp, ve] 30 (0, 0))
 bel : Below w.heap.size w wr
section
variable {w wr w1 : World} {lc : Array Value} {n vn vp ve : Value}
theorem BvSt.cellL (h : BvSt w wr lc n vn vp ve) {i : Nat} {v : Value} (e : lc[i]? = some v) : wr.cell? ⟨w.heap.size, i, none⟩ = some v := (cell_at_block h.box).trans e
theorem BvSt.cellR (h : BvSt w wr lc n vn vp ve) {i : Nat} {v : Value} (e : (#[.int .i64 0, .slice none 0 0, .slice none 0 0, .slice none 0 0] : Array Value)[i]? = some v) : wr.cell? ⟨w.heap.size + 1, i, none⟩ = some v := (cell_at_block h.res).trans e
theorem BvSt.cellV (h : BvSt w wr lc n vn vp ve) {i : Nat} {v : Value} (e : (#[n, vn, vp, ve] : Array Value)[i]? = some v) : wr.cell? ⟨w.heap.size + 1 + 1, i, none⟩ = some v := (cell_at_block h.val).trans e
theorem BvSt.freeR (h : BvSt w wr lc n vn vp ve) (i : Nat) : wr.frozen? ⟨w.heap.size + 1, i, none⟩ = false := free_at_block h.res
theorem BvSt.freeV (h : BvSt w wr lc n vn vp ve) (i : Nat) : wr.frozen? ⟨w.heap.size + 1 + 1, i, none⟩ = false := free_at_block h.val
theorem BvSt.big (h : BvSt w wr lc n vn vp ve) : w.heap.size + 3 ≤ wr.heap.size := block_lt h.val
theorem BvSt.far (h : BvSt w wr lc n vn vp ve) (k : Below (w.heap.size + 3) wr w1) : BvSt w w1 lc n vn vp ve :=
 ⟨(k.block _ (by omega)).trans h.box, (k.block _ (by omega)).trans h.res, (k.block _ (by omega)).trans h.val, h.bel.trans (k.mono (by omega))⟩
theorem BvSt.below (h : BvSt w wr lc n vn vp ve) (k : Below wr.heap.size wr w1) : BvSt w w1 lc n vn vp ve := h.far (k.mono h.big)
theorem BvSt.alloc (h : BvSt w wr lc n vn vp ve) (O : Obj) : BvSt w (wr.alloc O) lc n vn vp ve := h.below ((Below.refl _ _).alloc (Nat.le_refl _) O)
theorem BvSt.drewN (h : BvSt w wr lc n vn vp ve) (q : Nat) : BvSt w (wr.drewN q) lc n vn vp ve := h.below (below_drewN' (Below.refl _ _) q)
theorem BvSt.grown (h : BvSt w wr lc n vn vp ve) {row : Option Nat} (hg : wr.grownBy w1 row) (hr : ∀ k, row = some k → w.heap.size + 3 ≤ k) : BvSt w w1 lc n vn vp ve :=
 h.far ((Below.refl _ _).grown hg h.big hr)
theorem BvSt.set (h : BvSt w wr lc n vn vp ve) (i : Nat) (u : Value) {n' vn' vp' ve' : Value} (hc : (#[n, vn, vp, ve]).setIfInBounds i u = #[n', vn', vp', ve']) : BvSt w (wr.setCell ⟨w.heap.size + 1 + 1, i, none⟩ u) lc n' vn' vp' ve' :=
 ⟨(Below.heap_setCell _ _ _ _ (by show w.heap.size ≠ w.heap.size + 1 + 1; omega)).trans h.box, (Below.heap_setCell _ _ _ _ (by simp)).trans h.res, by rw [← hc]; exact block_set h.val u, h.bel.setCell (by simp; omega) u⟩
theorem BvSt.post (h : BvSt w wr lc n vn vp ve) {x : Val × Bool} {y : Val} {b : Bool} (hx : valRd (only (from_ (w.heap.size + 3)) wr) y [n, vn, vp, ve]) (hR : x = (y, b)) (p q r s : Value) :
 TopPost w x (.returned (.tuple #[.agg #[n, vn, vp, ve], .bool b])) ((((wr.setCell ⟨w.heap.size + 1, 0, none⟩ p).setCell ⟨w.heap.size + 1, 1, none⟩ q).setCell ⟨w.heap.size + 1, 2, none⟩ r).setCell ⟨w.heap.size + 1, 3, none⟩ s) := by
 subst hR
 exact ⟨_, rfl, valRd_mono' ((sub_sets wr (w.heap.size + 1) (w.heap.size + 3) (by omega) p q r s).trans (only_from_mono _ (by omega))) hx, below_sets h.bel (by omega) p q r s⟩
theorem BvSt.post0 (h : BvSt w wr lc n vn vp ve) {x : Val × Bool} (hR : x = (zeroV, false)) (p q r s : Value) :
 TopPost w x (.returned (.tuple #[.agg #[.int .i64 0, .slice none 0 0, .slice none 0 0, .slice none 0 0], .bool false])) ((((wr.setCell ⟨w.heap.size + 1, 0, none⟩ p).setCell ⟨w.heap.size + 1, 1, none⟩ q).setCell ⟨w.heap.size + 1, 2, none⟩ r).setCell ⟨w.heap.size + 1, 3, none⟩ s) := by
 subst hR
 exact ⟨_, rfl, zeroV_rd _, below_sets h.bel (by omega) p q r s⟩
theorem BvSt.start (w : World) (lc : Array Value) : BvSt w (((w.alloc (.cells lc 26 (0, 0))).alloc (.cells #[.int .i64 0, .slice none 0 0, .slice none 0 0, .slice none 0 0] 30 (0, 0))).alloc (.cells #[.int .i64 0, .slice none 0 0, .slice none 0 0, .slice none 0 0] 30 (0, 0))) lc (.int .i64 0) (.slice none 0 0) (.slice none 0 0) (.slice none 0 0) :=
 ⟨block_alloc (block_alloc (heap_alloc_new _ _) _) _, block_alloc (heap_new_at _ _ _ (by simp)) _, heap_new_at _ _ _ (by simp), (((Below.refl _ _).alloc (Nat.le_refl _) _).alloc (by simp) _).alloc (by simp; omega) _⟩
end
theorem TopPost.drew {w w' : World} {x : Val × Bool} {e : Ending} (h : TopPost w x e w') : TopPost w x e w'.drew := by
 obtain ⟨cs, h1, h2, h3⟩ := h
 exact ⟨cs, h1, valRd_mono' (a := only (from_ w.heap.size) w') (only_keep fun _ hb _ => ⟨hb, rfl⟩) h2, h3.drew⟩
def TopOk (l : Lat) : Prop := ∀ (cl : List Value) (w : World), latRd w l cl → Calls Tryz.prog 39 #[.agg cl.toArray] w (TopPost w (topV l))
theorem usedB_4 {v : Val} {n list parts entries : Bool} : usedB v n list parts entries = true ↔ (n = true ∨ v.n = 0) ∧ (list = true ∨ v.names = []) ∧ (parts = true ∨ v.parts = []) ∧ (entries = true ∨ v.entries = []) := by
 unfold usedB
 simp only [Bool.and_eq_true, Bool.or_eq_true, decide_eq_true_eq, List.length_eq_zero_iff, and_assoc]
section
variable {k lo hi : Int} {ns : List ByteArray} {ps : List Lat} {rs : List Rl} {v : Val}
theorem isE_1 : elemB (.mk 1 lo hi ns ps rs) v = true ↔ (v.n = 0 ∨ v.n = 1) ∧ v.names = [] ∧ v.parts = [] ∧ v.entries = [] := by
 rw [elemB, if_pos (by rfl), Bool.and_eq_true, usedB_4, decide_eq_true_eq]
 simp only [Bool.false_eq_true, false_or, true_or, true_and]
 exact and_comm
theorem isE_23 (e : k = 2 ∨ k = 3) : elemB (.mk k lo hi ns ps rs) v = true ↔ (lo ≤ v.n ∧ v.n ≤ hi) ∧ v.names = [] ∧ v.parts = [] ∧ v.entries = [] := by
 rw [elemB, if_neg (by omega), if_pos e, Bool.and_eq_true, usedB_4, decide_eq_true_eq]
 simp only [Bool.false_eq_true, false_or, true_or, true_and]
 exact and_comm
theorem isE_4 : elemB (.mk 4 lo hi ns ps rs) v = true ↔ (v.n = 0 ∧ v.parts = [] ∧ v.entries = []) ∧ allowedB ns v.names = true := by
 rw [elemB, if_neg (by decide), if_neg (by decide), if_pos (by rfl), Bool.and_eq_true, usedB_4]
 simp only [Bool.false_eq_true, false_or, true_or, true_and]
theorem isE_10 : elemB (.mk 10 lo hi ns ps rs) v = true ↔ (v.n = 0 ∧ v.parts = [] ∧ v.entries = []) ∧ allowedB ns v.names = true ∧ closedB rs v.names = true := by
 rw [elemB, if_neg (by decide), if_neg (by decide), if_neg (by decide), if_pos (by rfl), Bool.and_eq_true, Bool.and_eq_true, usedB_4]
 simp only [Bool.false_eq_true, false_or, true_or, true_and, and_assoc]
theorem isE_410 (e : k = 4 ∨ k = 10) (h : elemB (.mk k lo hi ns ps rs) v = true) : (v.n = 0 ∧ v.parts = [] ∧ v.entries = []) ∧ allowedB ns v.names = true := by
 rcases e with rfl | rfl
 · exact isE_4.1 h
 · exact ⟨(isE_10.1 h).1, (isE_10.1 h).2.1⟩
theorem isE_8 : elemB (.mk 8 lo hi ns ps rs) v = true ↔ v.parts = [] ∧ v.entries = [] ∧ ((v.n = 0 ∧ v.names = []) ∨ (v.n = 2 ∧ v.names = []) ∨ (v.n = 1 ∧ v.names.length = 1 ∧ allowedB ns v.names = true)) := by
 rw [elemB, if_neg (by decide), if_neg (by decide), if_neg (by decide), if_neg (by decide), if_pos (by rfl)]
 by_cases h02 : v.n = 0 ∨ v.n = 2
 · rw [if_pos h02, usedB_4]
   simp only [Bool.false_eq_true, false_or, true_or, true_and]
   constructor
   · rintro ⟨a, b, c⟩
     refine ⟨b, c, ?_⟩
     rcases h02 with h | h
     · exact .inl ⟨h, a⟩
     · exact .inr (.inl ⟨h, a⟩)
   · rintro ⟨b, c, h | h | h⟩
     · exact ⟨h.2, b, c⟩
     · exact ⟨h.2, b, c⟩
     · omega
 · rw [if_neg h02]
   by_cases h1 : v.n = 1
   · rw [if_pos h1, Bool.and_eq_true, Bool.and_eq_true, usedB_4, decide_eq_true_eq]
     simp only [Bool.false_eq_true, false_or, true_or, true_and]
     constructor
     · rintro ⟨⟨⟨a, b⟩, c⟩, d⟩
       exact ⟨a, b, .inr (.inr ⟨h1, c, d⟩)⟩
     · rintro ⟨b, c, h | h | h⟩
       · omega
       · omega
       · exact ⟨⟨⟨b, c⟩, h.2.1⟩, h.2.2⟩
   · rw [if_neg h1]
     constructor
     · intro h; cases h
     · rintro ⟨_, _, h | h | h⟩ <;> omega
theorem isE_9 : elemB (.mk 9 lo hi ns ps rs) v = true ↔ (v.n = 0 ∧ v.names = [] ∧ v.parts = []) ∧ regB v.entries = true := by
 rw [elemB, if_neg (by decide), if_neg (by decide), if_neg (by decide), if_neg (by decide), if_neg (by decide), if_pos (by rfl), Bool.and_eq_true, usedB_4]
 simp only [Bool.false_eq_true, false_or, true_or, true_and, and_true]
theorem isE_5 : elemB (.mk 5 lo hi ns ps rs) v = true ↔ (v.n = 0 ∧ v.entries = []) ∧ v.names.length = v.parts.length ∧ allowedB ns v.names = true ∧ mapB ps v.parts = true := by
 rw [elemB, if_neg (by decide), if_neg (by decide), if_neg (by decide), if_neg (by decide), if_neg (by decide), if_neg (by decide), if_pos (by rfl), Bool.and_eq_true, Bool.and_eq_true, Bool.and_eq_true, usedB_4, decide_eq_true_eq]
 simp only [Bool.false_eq_true, false_or, true_or, true_and, and_assoc]
theorem isE_67 (e : k = 6 ∨ k = 7) : elemB (.mk k lo hi ns ps rs) v = true ↔ (v.n = 0 ∧ v.names = [] ∧ v.entries = []) ∧ v.parts.length = ps.length ∧ elemsB ps v.parts = true := by
 rw [elemB, if_neg (by omega), if_neg (by omega), if_neg (by omega), if_neg (by omega), if_neg (by omega), if_neg (by omega), if_neg (by omega), Bool.and_eq_true, Bool.and_eq_true, usedB_4, decide_eq_true_eq]
 simp only [Bool.false_eq_true, false_or, true_or, true_and, and_assoc]
end
theorem mapB_one (p : Lat) (vs : List Val) : mapB [p] vs = true ↔ ∀ v ∈ vs, elemB p v = true ∧ valC v (botV p) ≠ 0 := by
 rw [mapB, List.all_eq_true]
 constructor
 · intro h v hv
   have := h v hv
   rw [Bool.and_eq_true, decide_eq_true_eq] at this
   exact this
 · intro h v hv
   rw [Bool.and_eq_true, decide_eq_true_eq]
   exact h v hv
theorem elemsB_iff : ∀ (ps : List Lat) (vs : List Val), vs.length = ps.length → (elemsB ps vs = true ↔ ∀ i (h : i < ps.length) (h' : i < vs.length), elemB ps[i] vs[i] = true)
 | [], [], _ => ⟨fun _ i h => by simp at h, fun _ => by rw [elemsB]⟩
 | [], _ :: _, h => by simp at h
 | _ :: _, [], h => by simp at h
 | p :: ps, v :: vs, h => by
   rw [elemsB, Bool.and_eq_true, elemsB_iff ps vs (by simpa using h)]
   constructor
   · rintro ⟨h1, h2⟩ i hi hi'
     cases i with
     | zero => exact h1
     | succ i => exact h2 i (by simpa using hi) (by simpa using hi')
   · intro h
     exact ⟨h 0 (by simp) (by simp), fun i hi hi' => h (i + 1) (by simpa using hi) (by simpa using hi')⟩
theorem allowed_names {only list : List ByteArray} (h : allowedB only list = true) : ∀ s ∈ list, nameB s = true := fun s hs => by
  unfold allowedB at h
  rw [Bool.and_eq_true] at h
  have := List.all_eq_true.1 h.2 s hs
  unfold memB at this
  rw [Bool.and_eq_true] at this
  exact this.1
theorem name_le {s : ByteArray} (h : nameB s = true) : 1 ≤ s.size ∧ s.size ≤ 16 := by
 unfold nameB at h
 rw [Bool.and_eq_true] at h
 exact of_decide_eq_true h.1
end Go.Proofs.YtmdjnaobllajmaaGreatDoor
