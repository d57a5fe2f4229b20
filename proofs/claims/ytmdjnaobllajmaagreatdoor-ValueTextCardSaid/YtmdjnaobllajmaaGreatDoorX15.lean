/-
  What the statements of the chapter share, part 15: VRd6, VRead, VRead2, VRead3, VRws2, VRead4, VRead5, VRead6.
-/
import Derived.Test.YtmdjnaobllajmaaGreatDoorX07
import Derived.Test.YtmdjnaobllajmaaGreatDoorX08
import Derived.Test.YtmdjnaobllajmaaGreatDoorX14
import Derived.Laws.BytesString
set_option linter.unusedVariables false
set_option linter.unusedSimpArgs false
set_option maxRecDepth 100000
set_option maxHeartbeats 8000000
namespace Go.Proofs.YtmdjnaobllajmaaGreatDoor
open Go.RowKit
theorem conv_bytes {w : World} {base n : Nat} {v : Value} {l : List UInt8} (h : w.ownsRow base 5 1 v n (l.map u8v)) : (convert 46 9 v).run Tryz.prog w = .ok (.string (strOf l)) w := by
 have hl : l.length = n := by simpa using h.1
 rcases h.2 with ⟨rfl, hn⟩ | ⟨g, cap, cur, rfl, hb, hg, hn, hcap, hsz, htake⟩
 · have : l = [] := List.eq_nil_of_length_eq_zero (by omega)
   subst this
   rw [run_convert_bytes_string w 46 9 5 none 0 0 Tryz.underlying46 Tryz.underlying5 Tryz.underlying9]
   rfl
 · subst hl
   have hB : Lib.Bytes w g 0 (strOf l) := fun i hi => by
     have hi' : i < l.length := hi
     have := h.cells (g := g) rfl i (u8v l[i]) (by rw [List.getElem?_map, List.getElem?_eq_getElem hi']; rfl)
     rw [addr_add] at this
     exact this
   have := Lib.run_convert_whole (P := Tryz.prog) w 46 5 9 Tryz.underlying46 Tryz.underlying5 Tryz.underlying9 g 0 (strOf l) hB cap
   exact this
theorem rText_any (B : Nat) (v : Value) (s : RS) (w : World) (h : RdAt w B v s) (hl : s.data.length ≤ 1000000000) :
 Calls Tryz.prog 92 #[.pointer (some ⟨B, 0, none⟩)] w fun e w' => e = .returned (.string (rdText s).1) ∧ RdPost B v (rdText s).2 w w' := by
 have HB := hid (rBytes_any B v s w h hl)
 have HT : Hid (rdText s = (strOf (rdBytes s).1, (rdBytes s).2)) := hid rfl
 generalize rdText s = T at HT ⊢
 generalize rdBytes s = R at HB HT
 obtain ⟨l, s'⟩ := R
 clear h hl
 go_enter Tryz.func92, Tryz.ntmps92
 go_wp2_with fail
 refine HB.out.mono ?_
 rintro e w1 ⟨r, rfl, hr, hp⟩
 have hcv := conv_bytes hr
 have HP := hid hp
 clear hr hp
 go_wp2_with fail
 go_ret
 exact ⟨by rw [HT.out]; rfl, by rw [HT.out]; exact HP.out⟩
def RS.new (l : List UInt8) : RS := ⟨l, 0, 0, 0⟩
def NewPost (w : World) (l : List UInt8) (e : Ending) (w' : World) : Prop := ∃ B v, e = .returned (.pointer (some ⟨B, 0, none⟩)) ∧ w.heap.size ≤ B ∧ RdAt w' B v (RS.new l) ∧ Below w.heap.size w w'
theorem bytes_src {w : World} {v : Value} {l : List UInt8} (h : SlRd w 1 byteRd v l) : Src w 1 v l.length (l.map u8v) := by
 obtain ⟨a, cap, rfl, hn, hm, hc⟩ := h
 cases a with
 | none =>
   have h0 := hn.1 rfl
   have : l = [] := List.eq_nil_of_length_eq_zero (by omega)
   subst this
   subst h0
   exact ⟨none, 0, rfl, rfl, fun _ => ⟨rfl, rfl⟩, by simp, by simp⟩
 | some ad =>
   refine ⟨some ad, cap, rfl, by simp, by simp, fun a ha j q hq => ?_, u8v_one l⟩
   cases ha
   rw [List.getElem?_map] at hq
   have hj : j < l.length := by
    rcases Nat.lt_or_ge j l.length with h' | h'
    · exact h'
    · rw [List.getElem?_eq_none h'] at hq; cases hq
   obtain ⟨b, o, cs, hb, _, hcs, rfl⟩ := hc j hj
   cases hb
   have := hcs 0 (by simp)
   rw [addr_add]
   rw [List.getElem?_eq_getElem hj] at hq
   simpa using this.trans hq
theorem newReader_any (v : Value) (l : List UInt8) (w : World) (h : SlRd w 1 byteRd v l) (hl : l.length ≤ 1000000000) :
 Calls Tryz.prog 53 #[v] w (NewPost w l) := by
 obtain ⟨i0, hi0, hz0, hz1, hz2⟩ := info_parts infoByte
 obtain ⟨a, cap, rfl, _, _⟩ := h.shape
 have HS : Hid (∀ O, Src (w.alloc O) 1 (.slice a l.length cap) l.length (l.map u8v)) := hid fun O => bytes_src (h.sub' (Sub.of_below ((Below.refl _ _).alloc (Nat.le_refl _) O)))
 have HL := hid hl
 clear h hl
 go_enter Tryz.func53, Tryz.ntmps53
 go_wp2_with (at_builtin; refine wpList_append rfl (.tmp 3) (.tmp 4) 46 rfl w.heap.size 5 1 1 Tryz.underlying46 hi0 hz0 hz1 hz2 rfl (by decide) (.slice (some ⟨w.heap.size, 0, none⟩) 0 0) 0 [] rfl (owns_made #[] 0 (heap_alloc_new w _) (Nat.le_refl _) rfl (by decide)) (.slice a l.length cap) l.length (l.map u8v) rfl (HS.out _) l.length (Nat.zero_add _) (l.map u8v) rfl (by have := HL.out; unfold maxLen; omega) (by have := HL.out; omega) (by simp) ?_; intro na nc w2 had; have HAD := hid had; clear had)
 go_ret
 have hb2 : Below w.heap.size w w2 := ((Below.refl _ _).alloc (Nat.le_refl _) _).grown HAD.out.grown (by simp) (fun g hg => by simp [Value.ownBlock] at hg; omega)
 refine ⟨w2.heap.size, _, rfl, hb2.size, ⟨heap_alloc_new w2 _, ?_, ⟨Nat.zero_le _, Nat.le_refl _, .inl rfl⟩⟩, hb2.alloc hb2.size _⟩
 have hs : SlRd w2 1 byteRd (.slice na l.length nc) l := SlRd.of_owns (f := fun c => [u8v c]) (fun _ => rfl) (fun _ _ => rfl) (by
   have := HAD.out.own
   have e : ∀ l : List UInt8, l.flatMap (fun c => [u8v c]) = l.map u8v := fun l => by
     induction l with
     | nil => rfl
     | cons x t ih => rw [List.flatMap_cons, ih]; rfl
   rw [e]; exact this)
 refine SlRd.mono hs (fun p u hp => ?_) fun _ _ _ h => h
 have hlt := World.block_lt_of_cell? w2 p hp
 rw [only_cell, show notB w2.heap.size p.block = true from decide_eq_true (by omega)]
 exact (World.cell?_alloc_lt _ _ _ hlt).trans hp
theorem small_any (B : Nat) (v : Value) (s : RS) (m : Nat) (w : World) (h : RdAt w B v s) (hl : s.data.length ≤ 1000000000) (hm : m ≤ 1000000000000000) :
 Calls Tryz.prog 93 #[.pointer (some ⟨B, 0, none⟩), .int .u64 m] w fun e w' => e = .returned (.int .i64 (if m < (rdUint s).1 then 0 else (rdUint s).1 : Nat)) ∧ RdPost B v (if m < (rdUint s).1 then (rdUint s).2.fail else (rdUint s).2) w w' := by
 have HU := hid (rUint_any B v s w h hl)
 generalize rdUint s = R at HU ⊢
 obtain ⟨n, s'⟩ := R
 clear h hl
 simp only at HU ⊢
 by_cases hb : m < n
 · have hd : (m : Int) < (n : Int) := by omega
   rw [if_pos hb, if_pos hb]
   clear hb
   go_enter Tryz.func93, Tryz.ntmps93
   go_wp2_with fail
   refine HU.out.mono ?_
   rintro e w1 ⟨rfl, hp⟩
   have HP := hid hp
   clear hp
   go_wp2_with fail
   refine (rFail_any B v s' _ HP.out.1).mono ?_
   rintro e w2 ⟨rfl, hp2⟩
   have HP2 := hid (RdPost.trans HP.out.2 hp2)
   clear hp2
   go_wp2_with fail
   go_ret
   exact ⟨rfl, HP2.out⟩
 · have hd : (n : Int) ≤ (m : Int) := by omega
   have hn9 : (n : Int) ≤ 9223372036854775807 := by omega
   rw [if_neg hb, if_neg hb]
   clear hb
   go_enter Tryz.func93, Tryz.ntmps93
   go_wp2_with fail
   refine HU.out.mono ?_
   rintro e w1 ⟨rfl, hp⟩
   have HP := hid hp
   clear hp
   go_wp2_with fail
   go_ret
   exact ⟨rfl, HP.out⟩
theorem rSmall_any (B : Nat) (v : Value) (s : RS) (m : Nat) (w : World) (h : RdAt w B v s) (hl : s.data.length ≤ 1000000000) (hm : m ≤ 1000000000000000) :
 Calls Tryz.prog 93 #[.pointer (some ⟨B, 0, none⟩), .int .u64 m] w fun e w' => e = .returned (.int .i64 ((rdSmall m s).1 : Nat)) ∧ RdPost B v (rdSmall m s).2 w w' := small_any B v s m w h hl hm
theorem RdAt.len {w w' : World} {B : Nat} {v : Value} {s s' : RS} (h : RdAt w B v s) (k : RdAt w' B v s') : s'.data.length = s.data.length := by
 obtain ⟨a, c, e, _⟩ := h.shape
 obtain ⟨a', c', e', _⟩ := k.shape
 rw [e] at e'
 injection e' with _ e' _
 exact e'.symm
def ReadPost (B : Nat) (rv : Value) (w : World) (x : Val × RS) (e : Ending) (w' : World) : Prop :=
 ∃ cs, e = .returned (.agg cs.toArray) ∧ valRd (only (from_ w.heap.size) w') x.1 cs ∧ RdPost B rv x.2 w w'
theorem u8v_inj {a b : UInt8} (h : u8v a = u8v b) : a = b := by
 unfold u8v at h
 injection h with _ h
 exact UInt8.toNat_inj.1 (by omega)
theorem bytes_same {w : World} {v : Value} {l l' : List UInt8} (h : SlRd w 1 byteRd v l) (k : SlRd w 1 byteRd v l') : l = l' := by
 obtain ⟨a, c, rfl, _, _, h1⟩ := h
 obtain ⟨a', c', e, _, _, k1⟩ := k
 injection e with e1 e2 _
 subst e1
 refine List.ext_getElem e2 fun i hi hi' => ?_
 obtain ⟨b, o, cs, hb, _, hc, rfl⟩ := h1 i hi
 obtain ⟨b', o', cs', hb', _, hc', rfl⟩ := k1 i hi'
 rw [hb] at hb'
 injection hb' with hb'
 injection hb' with e3 e4 _
 subst e3
 subst e4
 have p := hc 0 (by simp)
 have q := hc' 0 (by simp)
 rw [p] at q
 simp only [List.getElem_cons_zero] at q
 injection q with q
 exact u8v_inj q
theorem only_block {S : Nat → Bool} {w : World} {g : Nat} {o : Obj} (hs : S g = true) (h : w.heap[g]? = some o) : (only S w).heap[g]? = some o := by
 unfold only
 rw [Array.getElem?_mapIdx, h]
 simp [hs]
structure RdSt (w wr : World) (B : Nat) (rv : Value) (s : RS) (lc : Array Value) (n vn vp ve : Value) : Prop where
 old : SlRd (only (notB B) w) 1 byteRd rv s.data
 blk : wr.heap[B]? = some (.cells #[rv, .int .i64 s.pos, .int .i64 s.item, .int .i64 s.err] 112 (0, 0))
 ok : s.Ok
 lt : B < w.heap.size
 box : wr.heap[w.heap.size]? = some (.cells lc 26 (0, 0))
 res : wr.heap[w.heap.size + 1]? = some (.cells #[.int .i64 0, .slice none 0 0, .slice none 0 0, .slice none 0 0] 30 (0, 0))
 val : wr.heap[w.heap.size + 1 + 1]? = some (.cells #[n, vn, vp, ve] 30 (0, 0))
 but : But B w wr
section
variable {w wr w1 : World} {B : Nat} {rv : Value} {s s' : RS} {lc : Array Value} {n vn vp ve : Value}
theorem RdSt.cellL (h : RdSt w wr B rv s lc n vn vp ve) (i : Nat) : wr.cell? ⟨w.heap.size, i, none⟩ = lc[i]? := cell_at_block h.box
theorem RdSt.cellR (h : RdSt w wr B rv s lc n vn vp ve) (i : Nat) : wr.cell? ⟨w.heap.size + 1, i, none⟩ = #[.int .i64 0, .slice none 0 0, .slice none 0 0, .slice none 0 0][i]? := cell_at_block h.res
theorem RdSt.cellV (h : RdSt w wr B rv s lc n vn vp ve) (i : Nat) : wr.cell? ⟨w.heap.size + 1 + 1, i, none⟩ = #[n, vn, vp, ve][i]? := cell_at_block h.val
theorem RdSt.freeR (h : RdSt w wr B rv s lc n vn vp ve) (i : Nat) : wr.frozen? ⟨w.heap.size + 1, i, none⟩ = false := free_at_block h.res
theorem RdSt.freeV (h : RdSt w wr B rv s lc n vn vp ve) (i : Nat) : wr.frozen? ⟨w.heap.size + 1 + 1, i, none⟩ = false := free_at_block h.val
theorem RdSt.big (h : RdSt w wr B rv s lc n vn vp ve) : w.heap.size + 3 ≤ wr.heap.size := block_lt h.val
theorem RdSt.rd (h : RdSt w wr B rv s lc n vn vp ve) : RdAt wr B rv s :=
 ⟨h.blk, SlRd.mono h.old (only_keep fun b hb hl => ⟨hb, h.but.block b hl (of_decide_eq_true hb)⟩) fun _ _ _ h => h, h.ok⟩
theorem RdSt.call (h : RdSt w wr B rv s lc n vn vp ve) (k : RdPost B rv s' wr w1) : RdSt w w1 B rv s' lc n vn vp ve :=
 have hl := h.lt
 have hb := h.big
 have e : s'.data = s.data := bytes_same k.1.rd (SlRd.mono h.old (only_keep fun b hb hl => ⟨hb, (h.but.trans k.2).block b hl (of_decide_eq_true hb)⟩) fun _ _ _ h => h)
 ⟨by rw [e]; exact h.old, k.1.blk, k.1.ok, h.lt, (k.2.block _ (by omega) (by omega)).trans h.box, (k.2.block _ (by omega) (by omega)).trans h.res, (k.2.block _ (by omega) (by omega)).trans h.val, h.but.trans k.2⟩
theorem RdSt.below (h : RdSt w wr B rv s lc n vn vp ve) (k : Below wr.heap.size wr w1) : RdSt w w1 B rv s lc n vn vp ve :=
 h.call ⟨h.rd.below k, But.of_below k⟩
theorem RdSt.alloc (h : RdSt w wr B rv s lc n vn vp ve) (O : Obj) : RdSt w (wr.alloc O) B rv s lc n vn vp ve := h.below ((Below.refl _ _).alloc (Nat.le_refl _) O)
theorem RdSt.drewN (h : RdSt w wr B rv s lc n vn vp ve) (q : Nat) : RdSt w (wr.drewN q) B rv s lc n vn vp ve := h.below (below_drewN' (Below.refl _ _) q)
theorem RdSt.far (h : RdSt w wr B rv s lc n vn vp ve) (k : Below (w.heap.size + 3) wr w1) : RdSt w w1 B rv s lc n vn vp ve :=
 have hl := h.lt
 have hb := h.big
 ⟨h.old, (k.block _ (by omega)).trans h.blk, h.ok, h.lt, (k.block _ (by omega)).trans h.box, (k.block _ (by omega)).trans h.res, (k.block _ (by omega)).trans h.val,
   ⟨k.os.trans h.but.os, k.tape.trans h.but.tape, k.output.trans h.but.output, Nat.le_trans h.but.size k.size, fun b hb hn => (k.block b (by omega)).trans (h.but.block b hb hn)⟩⟩
theorem RdSt.grown (h : RdSt w wr B rv s lc n vn vp ve) {row : Option Nat} (hg : wr.grownBy w1 row) (hr : ∀ k, row = some k → w.heap.size + 3 ≤ k) : RdSt w w1 B rv s lc n vn vp ve :=
 h.far ((Below.refl _ _).grown hg h.big hr)
theorem but_set {K : Nat} {w w' : World} (h : But K w w') {g i : Nat} (hg : w.heap.size ≤ g) (u : Value) : But K w (w'.setCell ⟨g, i, none⟩ u) :=
 ⟨h.os, h.tape, h.output, by simpa [World.setCell] using h.size, fun b hb hn => (Below.heap_setCell _ _ _ _ (by show b ≠ g; omega)).trans (h.block b hb hn)⟩
theorem RdSt.set (h : RdSt w wr B rv s lc n vn vp ve) (i : Nat) (u : Value) {n' vn' vp' ve' : Value} (hc : (#[n, vn, vp, ve]).setIfInBounds i u = #[n', vn', vp', ve']) : RdSt w (wr.setCell ⟨w.heap.size + 1 + 1, i, none⟩ u) B rv s lc n' vn' vp' ve' :=
 have hl := h.lt
 ⟨h.old, (Below.heap_setCell _ _ _ _ (by show B ≠ w.heap.size + 1 + 1; omega)).trans h.blk, h.ok, h.lt, (Below.heap_setCell _ _ _ _ (by show w.heap.size ≠ w.heap.size + 1 + 1; omega)).trans h.box, (Below.heap_setCell _ _ _ _ (by simp)).trans h.res, by rw [← hc]; exact block_set h.val u, but_set h.but (by omega) u⟩
theorem RdSt.post (h : RdSt w wr B rv s lc n vn vp ve) {x : Val} (hx : valRd (only (from_ (w.heap.size + 3)) wr) x [n, vn, vp, ve]) {R : Val × RS} (hR : R = (x, s)) (a b c d : Value) :
 ReadPost B rv w R (.returned (.agg #[n, vn, vp, ve])) ((((wr.setCell ⟨w.heap.size + 1, 0, none⟩ a).setCell ⟨w.heap.size + 1, 1, none⟩ b).setCell ⟨w.heap.size + 1, 2, none⟩ c).setCell ⟨w.heap.size + 1, 3, none⟩ d) := by
 subst hR
 have hl := h.lt
 have hz : ∀ g : Nat, g ≠ w.heap.size + 1 → ((((wr.setCell ⟨w.heap.size + 1, 0, none⟩ a).setCell ⟨w.heap.size + 1, 1, none⟩ b).setCell ⟨w.heap.size + 1, 2, none⟩ c).setCell ⟨w.heap.size + 1, 3, none⟩ d).heap[g]? = wr.heap[g]? := fun g hg => by
   rw [Below.heap_setCell _ _ _ _ hg, Below.heap_setCell _ _ _ _ hg, Below.heap_setCell _ _ _ _ hg, Below.heap_setCell _ _ _ _ hg]
 have hbut := but_set (but_set (but_set (but_set h.but (g := w.heap.size + 1) (i := 0) (by omega) a) (g := w.heap.size + 1) (i := 1) (by omega) b) (g := w.heap.size + 1) (i := 2) (by omega) c) (g := w.heap.size + 1) (i := 3) (by omega) d
 refine ⟨[n, vn, vp, ve], rfl, valRd_mono' (only_keep fun g hg _ => ?_) hx, ⟨(hz B (by omega)).trans h.blk, SlRd.mono h.old (only_keep fun b hb hl => ⟨hb, hbut.block b hl (of_decide_eq_true hb)⟩) fun _ _ _ h => h, h.ok⟩, hbut⟩
 have hg' := of_decide_eq_true hg
 exact ⟨decide_eq_true (by omega), hz g (by omega)⟩
theorem RdSt.start (h : RdAt w B rv s) (lc : Array Value) : RdSt w (((w.alloc (.cells lc 26 (0, 0))).alloc (.cells #[.int .i64 0, .slice none 0 0, .slice none 0 0, .slice none 0 0] 30 (0, 0))).alloc (.cells #[.int .i64 0, .slice none 0 0, .slice none 0 0, .slice none 0 0] 30 (0, 0))) B rv s lc (.int .i64 0) (.slice none 0 0) (.slice none 0 0) (.slice none 0 0) :=
 have hb : Below w.heap.size w (((w.alloc (.cells lc 26 (0, 0))).alloc (.cells #[.int .i64 0, .slice none 0 0, .slice none 0 0, .slice none 0 0] 30 (0, 0))).alloc (.cells #[.int .i64 0, .slice none 0 0, .slice none 0 0, .slice none 0 0] 30 (0, 0))) := (((Below.refl _ _).alloc (Nat.le_refl _) _).alloc (by simp) _).alloc (by simp; omega) _
 ⟨h.rd, (h.below hb).blk, h.ok, h.lt, block_alloc (block_alloc (heap_alloc_new _ _) _) _, block_alloc (heap_new_at _ _ _ (by simp)) _, heap_new_at _ _ _ (by simp), But.of_below hb⟩
end
theorem read_flag (l : Lat) (B : Nat) (rv : Value) (s : RS) (cs : List Value) (w : World) (h : RdAt w B rv s) (hl : s.data.length ≤ 1000000000) (hr : latRd (only (notB B) w) l cs) (hk : l.kind = 1) :
 Calls Tryz.prog 54 #[.pointer (some ⟨B, 0, none⟩), .agg cs.toArray] w (ReadPost B rv w (readV l s)) := by
 obtain ⟨vn, vp, vr, rfl, ⟨hi1, hi2, hi3⟩, hns, hps, hrs⟩ := (latRd_iff _ _ _).1 hr
 obtain ⟨k, lo, hi', ns, ps, rs⟩ := l
 simp only [Lat.kind, Lat.lo, Lat.hi, Lat.names, Lat.parts, Lat.rules] at hi1 hi2 hi3 hns hps hrs hk ⊢
 subst hk
 have HRV : Hid (readV (.mk 1 lo hi' ns ps rs) s = (.mk (if (rdBool s).1 then 1 else 0) [] [] [], (rdBool s).2)) := hid (by rw [readV]; rfl)
 generalize readV (.mk 1 lo hi' ns ps rs) s = R at HRV ⊢
 have HST := hid (RdSt.start h #[.int .i64 1, .int .i64 lo, .int .i64 hi', vn, vp, vr])
 have HL := hid hl
 have HO := hid h
 have HO1 := hid HST.out.rd
 clear h hl hr hns hps hrs
 go_enter Tryz.func54, Tryz.ntmps54
 go_wp2_with fail
 refine (rBool_any B rv s _ HO1.out HL.out).mono ?_
 rintro e w1 ⟨rfl, hp⟩
 have ST1 := hid (HST.out.call hp)
 clear hp
 have k0 := ST1.out.cellV 0
 have k1 := ST1.out.cellV 1
 have k2 := ST1.out.cellV 2
 have k3 := ST1.out.cellV 3
 have r0 := ST1.out.cellR 0
 have r1 := ST1.out.cellR 1
 have r2 := ST1.out.cellR 2
 have r3 := ST1.out.cellR 3
 have e0 := ST1.out.freeR 0
 have e1 := ST1.out.freeR 1
 have e2 := ST1.out.freeR 2
 have e3 := ST1.out.freeR 3
 have z0 := ST1.out.freeV 0
 simp only [List.getElem?_toArray, List.getElem?_cons_zero, List.getElem?_cons_succ] at k0 k1 k2 k3 r0 r1 r2 r3
 cases hb : (rdBool s).1
 · have HB := hid hb
   clear hb
   go_wp2_with fail
   refine bodyPost_ret (v := .agg #[.int .i64 0, .slice none 0 0, .slice none 0 0, .slice none 0 0]) (by simp [results, Tryz.results54, go_sem, k0, k1, k2, k3, r0, r1, r2, r3, e0, e1, e2, e3]) rfl (RdSt.post (x := .mk 0 [] [] []) ST1.out (valRd_flat _ _ i64_0) (by rw [HRV.out, HB.out]; rfl) _ _ _ _)
 · have HB := hid hb
   clear hb
   go_wp2_with fail
   have HT := hid (ST1.out.set 0 (.int .i64 1) (n' := .int .i64 1) rfl)
   refine bodyPost_ret (v := .agg #[.int .i64 1, .slice none 0 0, .slice none 0 0, .slice none 0 0]) (by simp [results, Tryz.results54, go_sem, k0, k1, k2, k3, r0, r1, r2, r3, e0, e1, e2, e3]) rfl (RdSt.post (x := .mk 1 [] [] []) HT.out (valRd_flat _ _ (by unfold I64; omega)) (by rw [HRV.out, HB.out]; rfl) _ _ _ _)
theorem read_max (l : Lat) (B : Nat) (rv : Value) (s : RS) (cs : List Value) (w : World) (h : RdAt w B rv s) (hl : s.data.length ≤ 1000000000) (hr : latRd (only (notB B) w) l cs) (hk : l.kind = 2) :
 Calls Tryz.prog 54 #[.pointer (some ⟨B, 0, none⟩), .agg cs.toArray] w (ReadPost B rv w (readV l s)) := by
 obtain ⟨vn, vp, vr, rfl, ⟨hi1, hi2, hi3⟩, hns, hps, hrs⟩ := (latRd_iff _ _ _).1 hr
 obtain ⟨k, lo, hi', ns, ps, rs⟩ := l
 simp only [Lat.kind, Lat.lo, Lat.hi, Lat.names, Lat.parts, Lat.rules] at hi1 hi2 hi3 hns hps hrs hk ⊢
 subst hk
 have HRV : Hid (readV (.mk 2 lo hi' ns ps rs) s = (.mk (rdInt s).1 [] [] [], (rdInt s).2)) := hid (by rw [readV]; rfl)
 generalize readV (.mk 2 lo hi' ns ps rs) s = R at HRV ⊢
 have HST := hid (RdSt.start h #[.int .i64 2, .int .i64 lo, .int .i64 hi', vn, vp, vr])
 have HL := hid hl
 have HO := hid h
 have HO1 := hid HST.out.rd
 clear h hl hr hns hps hrs
 go_enter Tryz.func54, Tryz.ntmps54
 go_wp2_with fail
 refine (rInt_any B rv s _ HO1.out HL.out).mono ?_
 rintro e w1 ⟨rfl, hp⟩
 have ST1 := hid (HST.out.call hp)
 clear hp
 have k0 := ST1.out.cellV 0
 have k1 := ST1.out.cellV 1
 have k2 := ST1.out.cellV 2
 have k3 := ST1.out.cellV 3
 have r0 := ST1.out.cellR 0
 have r1 := ST1.out.cellR 1
 have r2 := ST1.out.cellR 2
 have r3 := ST1.out.cellR 3
 have e0 := ST1.out.freeR 0
 have e1 := ST1.out.freeR 1
 have e2 := ST1.out.freeR 2
 have e3 := ST1.out.freeR 3
 have z0 := ST1.out.freeV 0
 simp only [List.getElem?_toArray, List.getElem?_cons_zero, List.getElem?_cons_succ] at k0 k1 k2 k3 r0 r1 r2 r3
 go_wp2_with fail
 have HT := hid (ST1.out.set 0 (.int .i64 (rdInt s).1) (n' := .int .i64 (rdInt s).1) rfl)
 refine bodyPost_ret (v := .agg #[.int .i64 (rdInt s).1, .slice none 0 0, .slice none 0 0, .slice none 0 0]) (by simp [results, Tryz.results54, go_sem, k0, k1, k2, k3, r0, r1, r2, r3, e0, e1, e2, e3]) rfl (RdSt.post (x := .mk (rdInt s).1 [] [] []) HT.out (valRd_flat _ _ (rdInt_ok HO.out.ok).2.2) (by rw [HRV.out]) _ _ _ _)
theorem read_min (l : Lat) (B : Nat) (rv : Value) (s : RS) (cs : List Value) (w : World) (h : RdAt w B rv s) (hl : s.data.length ≤ 1000000000) (hr : latRd (only (notB B) w) l cs) (hk : l.kind = 3) :
 Calls Tryz.prog 54 #[.pointer (some ⟨B, 0, none⟩), .agg cs.toArray] w (ReadPost B rv w (readV l s)) := by
 obtain ⟨vn, vp, vr, rfl, ⟨hi1, hi2, hi3⟩, hns, hps, hrs⟩ := (latRd_iff _ _ _).1 hr
 obtain ⟨k, lo, hi', ns, ps, rs⟩ := l
 simp only [Lat.kind, Lat.lo, Lat.hi, Lat.names, Lat.parts, Lat.rules] at hi1 hi2 hi3 hns hps hrs hk ⊢
 subst hk
 have HRV : Hid (readV (.mk 3 lo hi' ns ps rs) s = (.mk (rdInt s).1 [] [] [], (rdInt s).2)) := hid (by rw [readV]; rfl)
 generalize readV (.mk 3 lo hi' ns ps rs) s = R at HRV ⊢
 have HST := hid (RdSt.start h #[.int .i64 3, .int .i64 lo, .int .i64 hi', vn, vp, vr])
 have HL := hid hl
 have HO := hid h
 have HO1 := hid HST.out.rd
 clear h hl hr hns hps hrs
 go_enter Tryz.func54, Tryz.ntmps54
 go_wp2_with fail
 refine (rInt_any B rv s _ HO1.out HL.out).mono ?_
 rintro e w1 ⟨rfl, hp⟩
 have ST1 := hid (HST.out.call hp)
 clear hp
 have k0 := ST1.out.cellV 0
 have k1 := ST1.out.cellV 1
 have k2 := ST1.out.cellV 2
 have k3 := ST1.out.cellV 3
 have r0 := ST1.out.cellR 0
 have r1 := ST1.out.cellR 1
 have r2 := ST1.out.cellR 2
 have r3 := ST1.out.cellR 3
 have e0 := ST1.out.freeR 0
 have e1 := ST1.out.freeR 1
 have e2 := ST1.out.freeR 2
 have e3 := ST1.out.freeR 3
 have z0 := ST1.out.freeV 0
 simp only [List.getElem?_toArray, List.getElem?_cons_zero, List.getElem?_cons_succ] at k0 k1 k2 k3 r0 r1 r2 r3
 go_wp2_with fail
 have HT := hid (ST1.out.set 0 (.int .i64 (rdInt s).1) (n' := .int .i64 (rdInt s).1) rfl)
 refine bodyPost_ret (v := .agg #[.int .i64 (rdInt s).1, .slice none 0 0, .slice none 0 0, .slice none 0 0]) (by simp [results, Tryz.results54, go_sem, k0, k1, k2, k3, r0, r1, r2, r3, e0, e1, e2, e3]) rfl (RdSt.post (x := .mk (rdInt s).1 [] [] []) HT.out (valRd_flat _ _ (rdInt_ok HO.out.ok).2.2) (by rw [HRV.out]) _ _ _ _)
theorem strs_one {w : World} {g : Nat} {t : TypeId} {q : ByteArray} (h : w.heap[g]? = some (.cells #[.string q] t (0, 0))) (hq : q.size ≤ maxLen) : Strs w (.slice (some ⟨g, 0, none⟩) 1 1) [q] :=
 ⟨some ⟨g, 0, none⟩, 1, rfl, ⟨fun e => (by cases e), Nat.le_refl _⟩, by decide, fun i hi => by
   have : i = 0 := by simp at hi; exact hi
   subst this
   exact ⟨g, 0, [.string q], rfl, rfl, fun j hj => (by
     have : j = 0 := by simp at hj; exact hj
     subst this
     exact (cell_at_block h).trans rfl), rfl, hq⟩⟩
theorem rdText_le {s : RS} (h : s.Ok) : (rdText s).1.size ≤ s.data.length := (rdBytes_ok h).2.2
theorem read_flat (l : Lat) (B : Nat) (rv : Value) (s : RS) (cs : List Value) (w : World) (h : RdAt w B rv s) (hl : s.data.length ≤ 1000000000) (hr : latRd (only (notB B) w) l cs) (hk : l.kind = 8) :
 Calls Tryz.prog 54 #[.pointer (some ⟨B, 0, none⟩), .agg cs.toArray] w (ReadPost B rv w (readV l s)) := by
 obtain ⟨vn, vp, vr, rfl, ⟨hi1, hi2, hi3⟩, hns, hps, hrs⟩ := (latRd_iff _ _ _).1 hr
 obtain ⟨k, lo, hi', ns, ps, rs⟩ := l
 simp only [Lat.kind, Lat.lo, Lat.hi, Lat.names, Lat.parts, Lat.rules] at hi1 hi2 hi3 hns hps hrs hk ⊢
 subst hk
 have HRV : Hid (readV (.mk 8 lo hi' ns ps rs) s = if (rdSmall 2 s).1 = 1 then (.mk 1 [(rdText (rdSmall 2 s).2).1] [] [], (rdText (rdSmall 2 s).2).2) else (.mk ((rdSmall 2 s).1 : Nat) [] [] [], (rdSmall 2 s).2)) := hid (by rw [readV]; rfl)
 generalize readV (.mk 8 lo hi' ns ps rs) s = R at HRV ⊢
 have HST := hid (RdSt.start h #[.int .i64 8, .int .i64 lo, .int .i64 hi', vn, vp, vr])
 have HL := hid hl
 have HO := hid h
 have HO1 := hid HST.out.rd
 clear h hl hr hns hps hrs
 have HM := hid (rdSmall_le 2 s)
 go_enter Tryz.func54, Tryz.ntmps54
 go_wp2_with fail
 refine (rSmall_any B rv s 2 _ HO1.out HL.out (by decide)).mono ?_
 rintro e w1 ⟨rfl, hp⟩
 have ST1 := hid (HST.out.call hp)
 generalize rdSmall 2 s = q at HRV HM hp ST1 ⊢
 obtain ⟨m, s1⟩ := q
 simp only at HRV HM ST1 ⊢
 have HL1 : Hid (s1.data.length ≤ 1000000000) := hid (by have := hp.1.len HO1.out; have := HL.out; simp only at *; omega)
 clear hp
 have k0 := ST1.out.cellV 0
 have k1 := ST1.out.cellV 1
 have k2 := ST1.out.cellV 2
 have k3 := ST1.out.cellV 3
 have r0 := ST1.out.cellR 0
 have r1 := ST1.out.cellR 1
 have r2 := ST1.out.cellR 2
 have r3 := ST1.out.cellR 3
 have e0 := ST1.out.freeR 0
 have e1 := ST1.out.freeR 1
 have e2 := ST1.out.freeR 2
 have e3 := ST1.out.freeR 3
 have z0 := ST1.out.freeV 0
 have z1 := ST1.out.freeV 1
 simp only [List.getElem?_toArray, List.getElem?_cons_zero, List.getElem?_cons_succ] at k0 k1 k2 k3 r0 r1 r2 r3
 by_cases h1 : m = 1
 · subst h1
   go_wp2_with fail
   have ST2 := hid (ST1.out.set 0 (.int .i64 1) (n' := .int .i64 1) rfl)
   have ST3 := hid (fun q => ST2.out.drewN q)
   have HX := hid (rdText_le ST1.out.ok)
   refine (rText_any B rv s1 _ ST2.out.rd HL1.out).mono ?_
   rintro e w3 ⟨rfl, hp⟩
   have ST4 := hid (ST2.out.call hp)
   generalize rdText s1 = q at HRV HX hp ST4 ⊢
   obtain ⟨x, s2⟩ := q
   simp only at HRV HX ST4 ⊢
   clear hp k0 k1 k2 k3 r0 r1 r2 r3 e0 e1 e2 e3 z0 z1
   have k0 := ST4.out.cellV 0
   have k1 := ST4.out.cellV 1
   have k2 := ST4.out.cellV 2
   have k3 := ST4.out.cellV 3
   have r0 := ST4.out.cellR 0
   have r1 := ST4.out.cellR 1
   have r2 := ST4.out.cellR 2
   have r3 := ST4.out.cellR 3
   have e0 := ST4.out.freeR 0
   have e1 := ST4.out.freeR 1
   have e2 := ST4.out.freeR 2
   have e3 := ST4.out.freeR 3
   have z0 := ST4.out.freeV 0
   have z1 := ST4.out.freeV 1
   simp only [List.getElem?_toArray, List.getElem?_cons_zero, List.getElem?_cons_succ] at k0 k1 k2 k3 r0 r1 r2 r3
   have ka0 := (ST4.out.alloc (.cells #[.string x] 9 (0, 0))).cellV 0
   have ka1 := (ST4.out.alloc (.cells #[.string x] 9 (0, 0))).cellV 1
   have ka2 := (ST4.out.alloc (.cells #[.string x] 9 (0, 0))).cellV 2
   have ka3 := (ST4.out.alloc (.cells #[.string x] 9 (0, 0))).cellV 3
   have ra0 := (ST4.out.alloc (.cells #[.string x] 9 (0, 0))).cellR 0
   have ra1 := (ST4.out.alloc (.cells #[.string x] 9 (0, 0))).cellR 1
   have ra2 := (ST4.out.alloc (.cells #[.string x] 9 (0, 0))).cellR 2
   have ra3 := (ST4.out.alloc (.cells #[.string x] 9 (0, 0))).cellR 3
   have ea0 := (ST4.out.alloc (.cells #[.string x] 9 (0, 0))).freeR 0
   have ea1 := (ST4.out.alloc (.cells #[.string x] 9 (0, 0))).freeR 1
   have ea2 := (ST4.out.alloc (.cells #[.string x] 9 (0, 0))).freeR 2
   have ea3 := (ST4.out.alloc (.cells #[.string x] 9 (0, 0))).freeR 3
   have za0 := (ST4.out.alloc (.cells #[.string x] 9 (0, 0))).freeV 0
   have za1 := (ST4.out.alloc (.cells #[.string x] 9 (0, 0))).freeV 1
   simp only [List.getElem?_toArray, List.getElem?_cons_zero, List.getElem?_cons_succ] at ka0 ka1 ka2 ka3 ra0 ra1 ra2 ra3
   have hbig := ST4.out.big
   go_wp2_with fail
   have ST5 := hid ((ST4.out.alloc (.cells #[.string x] 9 (0, 0))).set 1 (.slice (some ⟨w3.heap.size, 0, none⟩) 1 1) (n' := .int .i64 1) rfl)
   have HS : Hid (Strs (only (from_ (w.heap.size + 3)) ((w3.alloc (.cells #[.string x] 9 (0, 0))).setCell ⟨w.heap.size + 1 + 1, 1, none⟩ (.slice (some ⟨w3.heap.size, 0, none⟩) 1 1))) (.slice (some ⟨w3.heap.size, 0, none⟩) 1 1) [x]) := hid (by
    have hb := ST4.out.big
    refine Strs.mono (strs_one (w := only (from_ (w.heap.size + 3)) ((w3.alloc (.cells #[.string x] 9 (0, 0))).setCell ⟨w.heap.size + 1 + 1, 1, none⟩ (.slice (some ⟨w3.heap.size, 0, none⟩) 1 1))) (g := w3.heap.size) (t := 9) ?_ (by have := HX.out; have := HL1.out; unfold maxLen; omega)) (Sub.refl _)
    have h1 : ((w3.alloc (.cells #[.string x] 9 (0, 0))).setCell ⟨w.heap.size + 1 + 1, 1, none⟩ (.slice (some ⟨w3.heap.size, 0, none⟩) 1 1)).heap[w3.heap.size]? = some (.cells #[.string x] 9 (0, 0)) := by
     rw [Below.heap_setCell _ _ _ _ (by show w3.heap.size ≠ w.heap.size + 1 + 1; omega)]; exact heap_alloc_new _ _
    exact only_block (decide_eq_true (by omega)) h1)
   generalize w3.alloc (.cells #[.string x] 9 (0, 0)) = W at ka0 ka1 ka2 ka3 ra0 ra1 ra2 ra3 ea0 ea1 ea2 ea3 ST5 HS ⊢
   clear k0 k1 k2 k3 r0 r1 r2 r3 e0 e1 e2 e3
   refine bodyPost_ret (v := .agg #[.int .i64 1, .slice (some ⟨w3.heap.size, 0, none⟩) 1 1, .slice none 0 0, .slice none 0 0]) (by simp [results, Tryz.results54, go_sem, ka0, ka1, ka2, ka3, ra0, ra1, ra2, ra3, ea0, ea1, ea2, ea3]) rfl (RdSt.post (x := .mk 1 [x] [] []) ST5.out ((valRd_iff _ _ _).2 ⟨_, _, _, rfl, by show I64 1; unfold I64; omega, HS.out, sl_none _ _ _, sl_none _ _ _⟩) (by rw [HRV.out]; rfl) _ _ _ _)
 · have hb : ((m : Int) == 1) = false := by simp; omega
   have H1 := hid h1
   clear h1
   go_wp2_with fail
   have HT := hid (ST1.out.set 0 (.int .i64 m) (n' := .int .i64 m) rfl)
   refine bodyPost_ret (v := .agg #[.int .i64 m, .slice none 0 0, .slice none 0 0, .slice none 0 0]) (by simp [results, Tryz.results54, go_sem, k0, k1, k2, k3, r0, r1, r2, r3, e0, e1, e2, e3]) rfl (RdSt.post (x := .mk m [] [] []) HT.out (valRd_flat _ _ (by have := HM.out; unfold I64; omega)) (by rw [HRV.out, if_neg H1.out]) _ _ _ _)
theorem infoString : (Tryz.prog.info? 9).map (fun i => (i.zero, i.size, i.bytes)) = some (some (.string ByteArray.empty), 1, 16) := by kernel_rfl
theorem read_set4 (l : Lat) (B : Nat) (rv : Value) (s : RS) (cs : List Value) (w : World) (h : RdAt w B rv s) (hl : s.data.length ≤ 1000000000) (hr : latRd (only (notB B) w) l cs) (hk : l.kind = 4) :
 Calls Tryz.prog 54 #[.pointer (some ⟨B, 0, none⟩), .agg cs.toArray] w (ReadPost B rv w (readV l s)) := by
 obtain ⟨vn, vp, vr, rfl, ⟨hi1, hi2, hi3⟩, hns, hps, hrs⟩ := (latRd_iff _ _ _).1 hr
 obtain ⟨k, lo, hi', ns, ps, rs⟩ := l
 simp only [Lat.kind, Lat.lo, Lat.hi, Lat.names, Lat.parts, Lat.rules] at hi1 hi2 hi3 hns hps hrs hk ⊢
 subst hk
 have HRV : Hid (readV (.mk 4 lo hi' ns ps rs) s = (.mk 0 (rdLoop rdText (rdCount s).1 (rdCount s).2).1 [] [], (rdLoop rdText (rdCount s).1 (rdCount s).2).2)) := hid (by rw [readV]; rfl)
 generalize readV (.mk 4 lo hi' ns ps rs) s = R at HRV ⊢
 have HST := hid (RdSt.start h #[.int .i64 4, .int .i64 lo, .int .i64 hi', vn, vp, vr])
 have HL := hid hl
 have HO := hid h
 have HO1 := hid HST.out.rd
 have HC := hid (rdCount_ok h.ok)
 clear h hl hr hns hps hrs
 obtain ⟨i0, hi0, hz0, hz1, hz2⟩ := info_parts infoString
 go_enter Tryz.func54, Tryz.ntmps54
 go_wp2_with fail
 refine (rCount_any B rv s _ HO1.out HL.out).mono ?_
 rintro e w1 ⟨rfl, hp⟩
 have ST1 := hid (HST.out.call hp)
 clear hp
 have HL1 : Hid ((rdCount s).2.data.length = s.data.length) := hid (congrArg List.length HC.out.2.1)
 generalize rdCount s = q at HRV HC HL1 ST1 ⊢
 obtain ⟨N, s1⟩ := q
 simp only at HRV HC HL1 ST1 ⊢
 have HLA := hid (LoopAt.start rdText N s1)
 generalize rdLoop rdText N s1 = RL at HRV HLA
 have HN : Hid (N ≤ 1000000000 ∧ s1.data.length ≤ 1000000000) := hid (by have := HC.out.2.2; have := HL1.out; have := HL.out; omega)
 clear HC HL1
 go_wp2_with fail
 go_loopw [6] (fun n wr => ∃ (k : Nat) (s : RS) (vo : Value) (acc : List ByteArray) (css : List (List Value)), n = .int .i64 k ∧ Hid (RdSt w wr B rv s #[.int .i64 4, .int .i64 lo, .int .i64 hi', vn, vp, vr] (.int .i64 0) vo (.slice none 0 0) (.slice none 0 0)) ∧
     Hid (Rws wr (w.heap.size + 3) 9 1 (fun _ => strRd) vo acc css) ∧ Hid (LoopAt RL rdText acc k s) ∧ Hid (acc.length + k ≤ 1000000000 ∧ s.data.length ≤ 1000000000)) (fun n _ => (intOf n).toNat)
 case atStart => exact ⟨N, s1, _, [], [], rfl, ST1, hid (Rws.nil _ _ _ _ _), HLA, hid (by have := HN.out; simp; omega)⟩
 case round =>
  obtain ⟨k, s2, vo, acc, css, rfl, STW, HRW, HLW, HNW⟩ := hrel
  obtain ⟨ao, co, rfl⟩ := owns_shape HRW.out.own
  have HOW := hid STW.out.rd
  clear HLA
  have kw0 := STW.out.cellV 0
  have kw1 := STW.out.cellV 1
  have kw2 := STW.out.cellV 2
  have kw3 := STW.out.cellV 3
  have rw0 := STW.out.cellR 0
  have rw1 := STW.out.cellR 1
  have rw2 := STW.out.cellR 2
  have rw3 := STW.out.cellR 3
  have ew0 := STW.out.freeR 0
  have ew1 := STW.out.freeR 1
  have ew2 := STW.out.freeR 2
  have ew3 := STW.out.freeR 3
  have zw0 := STW.out.freeV 0
  have zw1 := STW.out.freeV 1
  have zw2 := STW.out.freeV 2
  have zw3 := STW.out.freeV 3
  simp only [List.getElem?_toArray, List.getElem?_cons_zero, List.getElem?_cons_succ] at kw0 kw1 kw2 kw3 rw0 rw1 rw2 rw3
  by_cases hk0 : k = 0
  · have HK := hid hk0
    subst hk0
    have HE := hid HLW.out.end0
    have HRS := hid (HRW.out.reads fun _ h => h)
    go_wp2_with fail
    refine bodyPost_ret (v := .agg #[.int .i64 0, .slice ao acc.length co, .slice none 0 0, .slice none 0 0]) (by simp [results, Tryz.results54, go_sem, kw0, kw1, kw2, kw3, rw0, rw1, rw2, rw3, ew0, ew1, ew2, ew3]) rfl (RdSt.post (x := .mk 0 acc [] []) STW.out ((valRd_iff _ _ _).2 ⟨_, _, _, rfl, i64_0, HRS.out, sl_none _ _ _, sl_none _ _ _⟩) (by rw [HRV.out, HE.out]) _ _ _ _)
  · have hkp : 0 < k := by omega
    have HK := hid hk0
    clear hk0
    go_wp2_with fail
    refine (rErr_any B rv s2 _ HOW.out).mono ?_
    rintro e w2 ⟨rfl, rfl⟩
    by_cases he : s2.err = 0
    · have HE := hid he
      have heb : (s2.err == 0) = true := by simpa using he
      have HLS : Hid (LoopAt RL rdText (acc ++ [(rdText s2).1]) (k - 1) (rdText s2).2) := hid (by
       have := HLW.out
       rw [show k = k - 1 + 1 by omega] at this
       exact this.step HE.out)
      have HX : Hid ((rdText s2).1.size ≤ maxLen) := hid (by have := rdText_le STW.out.ok; have := HNW.out.2; unfold maxLen; omega)
      have HNX : Hid ((rdText s2).2.data.length ≤ 1000000000) := hid (by have := (rdBytes_ok STW.out.ok).2.1; have := HNW.out.2; show (rdBytes s2).2.data.length ≤ _; rw [(rdBytes_ok STW.out.ok).2.1]; exact this)
      have HMX : Hid (acc.length + 1 ≤ maxLen ∧ (acc.length + 1) * 16 ≤ 140737488355328) := hid (by have := HNW.out; have := HK.out; unfold maxLen; omega)
      have HDR : Hid (∀ q, RdAt (w2.drewN q) B rv s2) := hid fun q => (STW.out.drewN q).rd
      clear he
      go_wp2_with fail
      go_region_law
       (first
         | (refine step_append (by rfl) (.tmp 58) (.tmp 61) 22 (by rfl) (w.heap.size + 3) 9 1 16 Tryz.underlying22 hi0 hz0 hz1 hz2 rfl (by decide) (.slice ao acc.length co) acc.length css.flatten (by rfl) (HOWN.out _) _ 1 [.string x] (by rfl) (Src.of_block (cs := #[.string x]) (heap_alloc_new _ _) 1 1 1 rfl (by simp [Value.oneCell'])) (acc.length + 1) rfl _ rfl HMX.out.1 HMX.out.2 (HBS.out _) ?_
            intro na nc w5 had
            have HAD := hid had
            have ST5 : Hid (RdSt w w5 B rv s3 #[.int .i64 4, .int .i64 lo, .int .i64 hi', vn, vp, vr] (.int .i64 0) (.slice ao acc.length co) (.slice none 0 0) (.slice none 0 0)) := hid ((ST3.out.alloc _).grown had.grown (fun g hg => ((HOWN.out (.cells #[] 0 (0, 0))).lt g hg).1))
            have kv1 := ST5.out.cellV 1
            have zv1 := ST5.out.freeV 1
            simp only [List.getElem?_toArray, List.getElem?_cons_zero, List.getElem?_cons_succ] at kv1
            clear had)
         | (go_simp
            go_at_call 92
            refine (rText_any B rv s2 _ (HDR.out _) HNW.out.2).mono ?_
            rintro e w3 ⟨rfl, hp⟩
            have ST3 : Hid (RdSt w w3 B rv (rdText s2).2 #[.int .i64 4, .int .i64 lo, .int .i64 hi', vn, vp, vr] (.int .i64 0) (.slice ao acc.length co) (.slice none 0 0) (.slice none 0 0)) := hid ((STW.out.drewN _).call hp)
            have HRW3 : Hid (Rws w3 (w.heap.size + 3) 9 1 (fun _ => strRd) (.slice ao acc.length co) acc css) := hid (HRW.out.keep (fun _ h => h) fun b hb hl => hp.2.block b hl (by have := STW.out.lt; omega))
            have HOWN : Hid (∀ O, (w3.alloc O).ownsRow (w.heap.size + 3) 9 1 (.slice ao acc.length co) acc.length css.flatten) := hid fun O => owns_below HRW3.out.own ((Below.refl _ _).alloc (Nat.le_refl _) O)
            have HBS : Hid (∀ O, w.heap.size + 3 ≤ (w3.alloc O).heap.size) := hid fun O => (ST3.out.alloc O).big
            have ka1 := fun O => (ST3.out.alloc O).cellV 1
            have za1 := fun O => (ST3.out.alloc O).freeV 1
            have kb1 := ST3.out.cellV 1
            simp only [List.getElem?_toArray, List.getElem?_cons_zero, List.getElem?_cons_succ] at ka1 kb1
            generalize rdText s2 = q at HX HLS HNX hp ST3 ⊢
            obtain ⟨x, s3⟩ := q
            simp only at HX HLS HNX ST3 ⊢
            clear hp))
      all_goals
       have HAX : Hid (Appd (w3.alloc (.cells #[.string x] 9 (0, 0))) w5 (w.heap.size + 3) 9 1 (.slice ao acc.length co) (.slice na (acc.length + 1) nc) (acc.length + 1) (css.flatten ++ [.string x])) := HAD
       have ST6 := hid (ST5.out.set 1 (.slice na (acc.length + 1) nc) (n' := .int .i64 0) rfl)
       have HR6 : Hid (Rws (w5.setCell ⟨w.heap.size + 1 + 1, 1, none⟩ (.slice na (acc.length + 1) nc)) (w.heap.size + 3) 9 1 (fun _ => strRd) (.slice na (acc.length + 1) nc) (acc ++ [x]) (css ++ [[.string x]])) := hid
         (((HRW3.out.keep (fun _ h => h) fun b _ hl => Below.heap_alloc _ _ _ hl).push (fun _ h => h) HAX.out rfl rfl rfl ⟨rfl, HX.out⟩).keep (fun _ h => h) fun b hb _ => Below.heap_setCell _ _ _ _ (by show b ≠ w.heap.size + 1 + 1; omega))
       have HLN : Hid (acc.length + 1 = (acc ++ [x]).length) := hid (by simp)
       have HN6 : Hid ((acc ++ [x]).length + (k - 1) ≤ 1000000000 ∧ s3.data.length ≤ 1000000000) := hid (by have := HNW.out; have := HNX.out; have := HK.out; simp; omega)
       have b0 := ST6.out.cellL 0
       simp only [List.getElem?_toArray, List.getElem?_cons_zero, List.getElem?_cons_succ] at b0
       clear HAD kv1 zv1 ka1 za1 kb1
       generalize w5.setCell ⟨w.heap.size + 1 + 1, 1, none⟩ (.slice na (acc.length + 1) nc) = w6 at ST6 HR6 b0 ⊢
       go_wp2_with fail
       have hw1 : wrap64 ((k : Int) - 1) = ((k - 1 : Nat) : Int) := by rw [IntWalk.wrap64_in _ (by have := HNW.out; omega)]; omega
       go_roundw
       case rel => exact ⟨k - 1, s3, _, acc ++ [x], _, by rw [hw1], ST6, HR6, HLS, HN6⟩
       case measure => simp [intOf, hw1]; omega
    · have heb : (s2.err == 0) = false := by simpa using he
      have HE := hid (HLW.out.endE he)
      clear he
      have HRS := hid (HRW.out.reads fun _ h => h)
      go_wp2_with fail
      refine bodyPost_ret (v := .agg #[.int .i64 0, .slice ao acc.length co, .slice none 0 0, .slice none 0 0]) (by simp [results, Tryz.results54, go_sem, kw0, kw1, kw2, kw3, rw0, rw1, rw2, rw3, ew0, ew1, ew2, ew3]) rfl (RdSt.post (x := .mk 0 acc [] []) STW.out ((valRd_iff _ _ _).2 ⟨_, _, _, rfl, i64_0, HRS.out, sl_none _ _ _, sl_none _ _ _⟩) (by rw [HRV.out, HE.out]) _ _ _ _)
theorem read_set10 (l : Lat) (B : Nat) (rv : Value) (s : RS) (cs : List Value) (w : World) (h : RdAt w B rv s) (hl : s.data.length ≤ 1000000000) (hr : latRd (only (notB B) w) l cs) (hk : l.kind = 10) :
 Calls Tryz.prog 54 #[.pointer (some ⟨B, 0, none⟩), .agg cs.toArray] w (ReadPost B rv w (readV l s)) := by
 obtain ⟨vn, vp, vr, rfl, ⟨hi1, hi2, hi3⟩, hns, hps, hrs⟩ := (latRd_iff _ _ _).1 hr
 obtain ⟨k, lo, hi', ns, ps, rs⟩ := l
 simp only [Lat.kind, Lat.lo, Lat.hi, Lat.names, Lat.parts, Lat.rules] at hi1 hi2 hi3 hns hps hrs hk ⊢
 subst hk
 have HRV : Hid (readV (.mk 10 lo hi' ns ps rs) s = (.mk 0 (rdLoop rdText (rdCount s).1 (rdCount s).2).1 [] [], (rdLoop rdText (rdCount s).1 (rdCount s).2).2)) := hid (by rw [readV]; rfl)
 generalize readV (.mk 10 lo hi' ns ps rs) s = R at HRV ⊢
 have HST := hid (RdSt.start h #[.int .i64 10, .int .i64 lo, .int .i64 hi', vn, vp, vr])
 have HL := hid hl
 have HO := hid h
 have HO1 := hid HST.out.rd
 have HC := hid (rdCount_ok h.ok)
 clear h hl hr hns hps hrs
 obtain ⟨i0, hi0, hz0, hz1, hz2⟩ := info_parts infoString
 go_enter Tryz.func54, Tryz.ntmps54
 go_wp2_with fail
 refine (rCount_any B rv s _ HO1.out HL.out).mono ?_
 rintro e w1 ⟨rfl, hp⟩
 have ST1 := hid (HST.out.call hp)
 clear hp
 have HL1 : Hid ((rdCount s).2.data.length = s.data.length) := hid (congrArg List.length HC.out.2.1)
 generalize rdCount s = q at HRV HC HL1 ST1 ⊢
 obtain ⟨N, s1⟩ := q
 simp only at HRV HC HL1 ST1 ⊢
 have HLA := hid (LoopAt.start rdText N s1)
 generalize rdLoop rdText N s1 = RL at HRV HLA
 have HN : Hid (N ≤ 1000000000 ∧ s1.data.length ≤ 1000000000) := hid (by have := HC.out.2.2; have := HL1.out; have := HL.out; omega)
 clear HC HL1
 go_wp2_with fail
 go_loopw [6] (fun n wr => ∃ (k : Nat) (s : RS) (vo : Value) (acc : List ByteArray) (css : List (List Value)), n = .int .i64 k ∧ Hid (RdSt w wr B rv s #[.int .i64 10, .int .i64 lo, .int .i64 hi', vn, vp, vr] (.int .i64 0) vo (.slice none 0 0) (.slice none 0 0)) ∧
     Hid (Rws wr (w.heap.size + 3) 9 1 (fun _ => strRd) vo acc css) ∧ Hid (LoopAt RL rdText acc k s) ∧ Hid (acc.length + k ≤ 1000000000 ∧ s.data.length ≤ 1000000000)) (fun n _ => (intOf n).toNat)
 case atStart => exact ⟨N, s1, _, [], [], rfl, ST1, hid (Rws.nil _ _ _ _ _), HLA, hid (by have := HN.out; simp; omega)⟩
 case round =>
  obtain ⟨k, s2, vo, acc, css, rfl, STW, HRW, HLW, HNW⟩ := hrel
  obtain ⟨ao, co, rfl⟩ := owns_shape HRW.out.own
  have HOW := hid STW.out.rd
  clear HLA
  have kw0 := STW.out.cellV 0
  have kw1 := STW.out.cellV 1
  have kw2 := STW.out.cellV 2
  have kw3 := STW.out.cellV 3
  have rw0 := STW.out.cellR 0
  have rw1 := STW.out.cellR 1
  have rw2 := STW.out.cellR 2
  have rw3 := STW.out.cellR 3
  have ew0 := STW.out.freeR 0
  have ew1 := STW.out.freeR 1
  have ew2 := STW.out.freeR 2
  have ew3 := STW.out.freeR 3
  have zw0 := STW.out.freeV 0
  have zw1 := STW.out.freeV 1
  have zw2 := STW.out.freeV 2
  have zw3 := STW.out.freeV 3
  simp only [List.getElem?_toArray, List.getElem?_cons_zero, List.getElem?_cons_succ] at kw0 kw1 kw2 kw3 rw0 rw1 rw2 rw3
  by_cases hk0 : k = 0
  · have HK := hid hk0
    subst hk0
    have HE := hid HLW.out.end0
    have HRS := hid (HRW.out.reads fun _ h => h)
    go_wp2_with fail
    refine bodyPost_ret (v := .agg #[.int .i64 0, .slice ao acc.length co, .slice none 0 0, .slice none 0 0]) (by simp [results, Tryz.results54, go_sem, kw0, kw1, kw2, kw3, rw0, rw1, rw2, rw3, ew0, ew1, ew2, ew3]) rfl (RdSt.post (x := .mk 0 acc [] []) STW.out ((valRd_iff _ _ _).2 ⟨_, _, _, rfl, i64_0, HRS.out, sl_none _ _ _, sl_none _ _ _⟩) (by rw [HRV.out, HE.out]) _ _ _ _)
  · have hkp : 0 < k := by omega
    have HK := hid hk0
    clear hk0
    go_wp2_with fail
    refine (rErr_any B rv s2 _ HOW.out).mono ?_
    rintro e w2 ⟨rfl, rfl⟩
    by_cases he : s2.err = 0
    · have HE := hid he
      have heb : (s2.err == 0) = true := by simpa using he
      have HLS : Hid (LoopAt RL rdText (acc ++ [(rdText s2).1]) (k - 1) (rdText s2).2) := hid (by
       have := HLW.out
       rw [show k = k - 1 + 1 by omega] at this
       exact this.step HE.out)
      have HX : Hid ((rdText s2).1.size ≤ maxLen) := hid (by have := rdText_le STW.out.ok; have := HNW.out.2; unfold maxLen; omega)
      have HNX : Hid ((rdText s2).2.data.length ≤ 1000000000) := hid (by have := (rdBytes_ok STW.out.ok).2.1; have := HNW.out.2; show (rdBytes s2).2.data.length ≤ _; rw [(rdBytes_ok STW.out.ok).2.1]; exact this)
      have HMX : Hid (acc.length + 1 ≤ maxLen ∧ (acc.length + 1) * 16 ≤ 140737488355328) := hid (by have := HNW.out; have := HK.out; unfold maxLen; omega)
      have HDR : Hid (∀ q, RdAt (w2.drewN q) B rv s2) := hid fun q => (STW.out.drewN q).rd
      clear he
      go_wp2_with fail
      go_region_law
       (first
         | (refine step_append (by rfl) (.tmp 58) (.tmp 61) 22 (by rfl) (w.heap.size + 3) 9 1 16 Tryz.underlying22 hi0 hz0 hz1 hz2 rfl (by decide) (.slice ao acc.length co) acc.length css.flatten (by rfl) (HOWN.out _) _ 1 [.string x] (by rfl) (Src.of_block (cs := #[.string x]) (heap_alloc_new _ _) 1 1 1 rfl (by simp [Value.oneCell'])) (acc.length + 1) rfl _ rfl HMX.out.1 HMX.out.2 (HBS.out _) ?_
            intro na nc w5 had
            have HAD := hid had
            have ST5 : Hid (RdSt w w5 B rv s3 #[.int .i64 10, .int .i64 lo, .int .i64 hi', vn, vp, vr] (.int .i64 0) (.slice ao acc.length co) (.slice none 0 0) (.slice none 0 0)) := hid ((ST3.out.alloc _).grown had.grown (fun g hg => ((HOWN.out (.cells #[] 0 (0, 0))).lt g hg).1))
            have kv1 := ST5.out.cellV 1
            have zv1 := ST5.out.freeV 1
            simp only [List.getElem?_toArray, List.getElem?_cons_zero, List.getElem?_cons_succ] at kv1
            clear had)
         | (go_simp
            go_at_call 92
            refine (rText_any B rv s2 _ (HDR.out _) HNW.out.2).mono ?_
            rintro e w3 ⟨rfl, hp⟩
            have ST3 : Hid (RdSt w w3 B rv (rdText s2).2 #[.int .i64 10, .int .i64 lo, .int .i64 hi', vn, vp, vr] (.int .i64 0) (.slice ao acc.length co) (.slice none 0 0) (.slice none 0 0)) := hid ((STW.out.drewN _).call hp)
            have HRW3 : Hid (Rws w3 (w.heap.size + 3) 9 1 (fun _ => strRd) (.slice ao acc.length co) acc css) := hid (HRW.out.keep (fun _ h => h) fun b hb hl => hp.2.block b hl (by have := STW.out.lt; omega))
            have HOWN : Hid (∀ O, (w3.alloc O).ownsRow (w.heap.size + 3) 9 1 (.slice ao acc.length co) acc.length css.flatten) := hid fun O => owns_below HRW3.out.own ((Below.refl _ _).alloc (Nat.le_refl _) O)
            have HBS : Hid (∀ O, w.heap.size + 3 ≤ (w3.alloc O).heap.size) := hid fun O => (ST3.out.alloc O).big
            have ka1 := fun O => (ST3.out.alloc O).cellV 1
            have za1 := fun O => (ST3.out.alloc O).freeV 1
            have kb1 := ST3.out.cellV 1
            simp only [List.getElem?_toArray, List.getElem?_cons_zero, List.getElem?_cons_succ] at ka1 kb1
            generalize rdText s2 = q at HX HLS HNX hp ST3 ⊢
            obtain ⟨x, s3⟩ := q
            simp only at HX HLS HNX ST3 ⊢
            clear hp))
      all_goals
       have HAX : Hid (Appd (w3.alloc (.cells #[.string x] 9 (0, 0))) w5 (w.heap.size + 3) 9 1 (.slice ao acc.length co) (.slice na (acc.length + 1) nc) (acc.length + 1) (css.flatten ++ [.string x])) := HAD
       have ST6 := hid (ST5.out.set 1 (.slice na (acc.length + 1) nc) (n' := .int .i64 0) rfl)
       have HR6 : Hid (Rws (w5.setCell ⟨w.heap.size + 1 + 1, 1, none⟩ (.slice na (acc.length + 1) nc)) (w.heap.size + 3) 9 1 (fun _ => strRd) (.slice na (acc.length + 1) nc) (acc ++ [x]) (css ++ [[.string x]])) := hid
         (((HRW3.out.keep (fun _ h => h) fun b _ hl => Below.heap_alloc _ _ _ hl).push (fun _ h => h) HAX.out rfl rfl rfl ⟨rfl, HX.out⟩).keep (fun _ h => h) fun b hb _ => Below.heap_setCell _ _ _ _ (by show b ≠ w.heap.size + 1 + 1; omega))
       have HLN : Hid (acc.length + 1 = (acc ++ [x]).length) := hid (by simp)
       have HN6 : Hid ((acc ++ [x]).length + (k - 1) ≤ 1000000000 ∧ s3.data.length ≤ 1000000000) := hid (by have := HNW.out; have := HNX.out; have := HK.out; simp; omega)
       have b0 := ST6.out.cellL 0
       simp only [List.getElem?_toArray, List.getElem?_cons_zero, List.getElem?_cons_succ] at b0
       clear HAD kv1 zv1 ka1 za1 kb1
       generalize w5.setCell ⟨w.heap.size + 1 + 1, 1, none⟩ (.slice na (acc.length + 1) nc) = w6 at ST6 HR6 b0 ⊢
       go_wp2_with fail
       have hw1 : wrap64 ((k : Int) - 1) = ((k - 1 : Nat) : Int) := by rw [IntWalk.wrap64_in _ (by have := HNW.out; omega)]; omega
       go_roundw
       case rel => exact ⟨k - 1, s3, _, acc ++ [x], _, by rw [hw1], ST6, HR6, HLS, HN6⟩
       case measure => simp [intOf, hw1]; omega
    · have heb : (s2.err == 0) = false := by simpa using he
      have HE := hid (HLW.out.endE he)
      clear he
      have HRS := hid (HRW.out.reads fun _ h => h)
      go_wp2_with fail
      refine bodyPost_ret (v := .agg #[.int .i64 0, .slice ao acc.length co, .slice none 0 0, .slice none 0 0]) (by simp [results, Tryz.results54, go_sem, kw0, kw1, kw2, kw3, rw0, rw1, rw2, rw3, ew0, ew1, ew2, ew3]) rfl (RdSt.post (x := .mk 0 acc [] []) STW.out ((valRd_iff _ _ _).2 ⟨_, _, _, rfl, i64_0, HRS.out, sl_none _ _ _, sl_none _ _ _⟩) (by rw [HRV.out, HE.out]) _ _ _ _)
def butTwo (n : Nat) (v u : Value) : Nat → Bool := fun b => decide (n ≤ b) && decide (v.ownBlock ≠ some b) && decide (u.ownBlock ≠ some b)
theorem butTwo_iff {n : Nat} {v u : Value} {b : Nat} : butTwo n v u b = true ↔ n ≤ b ∧ v.ownBlock ≠ some b ∧ u.ownBlock ≠ some b := by
 unfold butTwo
 simp only [Bool.and_eq_true, decide_eq_true_eq]
 exact and_assoc
structure Rws2 {α : Type} (w : World) (base E sz : Nat) (R : World → α → List Value → Prop) (v u : Value) (l : List α) (css : List (List Value)) : Prop where
 own : w.ownsRow base E sz v l.length css.flatten
 len : css.length = l.length
 each : ∀ cs ∈ css, cs.length = sz
 read : ∀ i (h : i < l.length) (h' : i < css.length), R (only (butTwo base v u) w) l[i] css[i]
 sep : ∀ g, v.ownBlock = some g → u.ownBlock ≠ some g
theorem Rws2.nil {α : Type} (w : World) (base E sz : Nat) (R : World → α → List Value → Prop) (u : Value) : Rws2 w base E sz R (.slice none 0 0) u [] [] :=
 ⟨World.ownsRow_nil _ _ _ _, rfl, by simp, fun i h => by simp at h, fun g h => by simp [Value.ownBlock] at h⟩
theorem Rws2.one {α : Type} {w : World} {base E sz : Nat} {R : World → α → List Value → Prop} {v u : Value} {l : List α} {css : List (List Value)} (h : Rws2 w base E sz R v u l css)
 (hR : ∀ {a b : World} {x cs}, Sub a b → R a x cs → R b x cs) : Rws w base E sz R v l css :=
 ⟨h.own, h.len, h.each, fun i hi hi' => hR (only_keep fun b hb hl => by
   obtain ⟨h1, h2, _⟩ := butTwo_iff.1 hb
   refine ⟨?_, rfl⟩
   unfold butOwn
   simp only [Bool.and_eq_true, decide_eq_true_eq]
   exact ⟨h1, h2⟩) (h.read i hi hi')⟩
theorem Rws2.other {α : Type} {w w' : World} {base E sz : Nat} {R : World → α → List Value → Prop} {v u u' : Value} {l : List α} {css : List (List Value)} (h : Rws2 w base E sz R v u l css)
 (hR : ∀ {a b : World} {x cs}, Sub a b → R a x cs → R b x cs) (hk : ∀ b, base ≤ b → b < w.heap.size → u.ownBlock ≠ some b → w'.heap[b]? = w.heap[b]?) (hu : u'.ownBlock = u.ownBlock ∨ u'.ownBlock = some w.heap.size) :
 Rws2 w' base E sz R v u' l css := by
 have hne : ∀ b, b < w.heap.size → u.ownBlock ≠ some b → u'.ownBlock ≠ some b := fun b hb hn => by
   rcases hu with e | e
   · rw [e]; exact hn
   · rw [e]; intro e2; injection e2 with e2; omega
 refine ⟨owns_of_block h.own fun g hg => hk g (h.own.lt g hg).1 (h.own.lt g hg).2 (h.sep g hg), h.len, h.each, fun i hi hi' => hR (only_keep fun b hb hl => ?_) (h.read i hi hi'), fun g hg => hne g (h.own.lt g hg).2 (h.sep g hg)⟩
 obtain ⟨h1, h2, h3⟩ := butTwo_iff.1 hb
 exact ⟨butTwo_iff.2 ⟨h1, h2, hne b hl h3⟩, hk b h1 hl h3⟩
theorem Rws2.keep {α : Type} {w w' : World} {base E sz : Nat} {R : World → α → List Value → Prop} {v u : Value} {l : List α} {css : List (List Value)} (h : Rws2 w base E sz R v u l css)
 (hR : ∀ {a b : World} {x cs}, Sub a b → R a x cs → R b x cs) (hk : ∀ b, base ≤ b → b < w.heap.size → w'.heap[b]? = w.heap[b]?) : Rws2 w' base E sz R v u l css :=
 h.other hR (fun b h1 h2 _ => hk b h1 h2) (.inl rfl)
theorem Rws2.push {α : Type} {w w' : World} {base E sz : Nat} {R : World → α → List Value → Prop} {v v' u : Value} {l : List α} {css : List (List Value)} {x : α} {cs : List Value} {N : Nat} {L : List Value} (h : Rws2 w base E sz R v u l css)
 (hR : ∀ {a b : World} {x cs}, Sub a b → R a x cs → R b x cs) (hA : Appd w w' base E sz v v' N L) (hN : N = l.length + 1) (hL : L = css.flatten ++ cs) (hc : cs.length = sz) (hx : R (only (butTwo base v u) w) x cs)
 (hu : ∀ g, u.ownBlock = some g → g < w.heap.size) : Rws2 w' base E sz R v' u (l ++ [x]) (css ++ [cs]) := by
 have hsub : Sub (only (butTwo base v u) w) (only (butTwo base v' u) w') := only_keep fun b hb hl => by
   obtain ⟨h1, h2, h3⟩ := butTwo_iff.1 hb
   refine ⟨butTwo_iff.2 ⟨h1, ?_, h3⟩, hA.grown.block b hl (fun e => h2 e.symm)⟩
   rcases hA.at_ with e | e
   · rw [e]; exact h2
   · rw [e]
     intro e2
     injection e2 with e2
     omega
 refine ⟨?_, by rw [List.length_append, List.length_append, h.len]; rfl, ?_, fun i hi hi' => ?_, fun g hg => ?_⟩
 · have := hA.own
   rw [hN, hL] at this
   rw [List.length_append, List.flatten_append, List.flatten_cons, List.flatten_nil, List.append_nil]
   exact this
 · intro c hcm
   rcases List.mem_append.1 hcm with hm | hm
   · exact h.each c hm
   · rw [List.mem_singleton.1 hm]; exact hc
 · by_cases hlt : i < l.length
   · rw [List.getElem_append_left hlt, List.getElem_append_left (by rw [h.len]; exact hlt)]
     exact hR hsub (h.read i hlt (by rw [h.len]; exact hlt))
   · have hil : i = l.length := by simp at hi; omega
     subst hil
     rw [List.getElem_append_right (by omega), List.getElem_append_right (by rw [h.len]; omega)]
     simp only [h.len, Nat.sub_self, List.getElem_singleton]
     exact hR hsub hx
 · rcases hA.at_ with e | e
   · exact h.sep g (by rw [← e]; exact hg)
   · intro e2
     have := hu g e2
     rw [e] at hg
     injection hg with hg
     omega
theorem Rws.flat {α : Type} {w w' : World} {base E sz : Nat} {R : α → List Value → Prop} {v : Value} {l : List α} {css : List (List Value)} (h : Rws w base E sz (fun _ => R) v l css)
    (hk : ∀ b, v.ownBlock = some b → w'.heap[b]? = w.heap[b]?) : Rws w' base E sz (fun _ => R) v l css :=
  ⟨owns_of_block h.own hk, h.len, h.each, h.read⟩
theorem RdSt.latCell {w wr : World} {B : Nat} {rv : Value} {s : RS} {lc : Array Value} {n vn vp ve : Value} (h : RdSt w wr B rv s lc n vn vp ve) {p : Addr} {v : Value} (hp : (only (notB B) w).cell? p = some v) : wr.cell? p = some v := by
 have hs := only_sub _ _ _ _ hp
 rw [only_cell] at hp
 have hn : p.block ≠ B := by
  intro e
  rw [show notB B p.block = false from decide_eq_false (by simp [e])] at hp
  cases hp
 exact (h.but.cell (World.block_lt_of_cell? w _ hs) hn).trans hs
theorem RdSt.lat {w wr : World} {B : Nat} {rv : Value} {s : RS} {lc : Array Value} {n vn vp ve : Value} (h : RdSt w wr B rv s lc n vn vp ve) {l : Lat} {cs : List Value} (hp : latRd (only (notB B) w) l cs) : latRd (only (notB B) wr) l cs :=
 latRd.mono (only_keep fun b hb hl => ⟨hb, h.but.block b hl (of_decide_eq_true hb)⟩) _ _ hp
theorem read_map (l p : Lat) (B : Nat) (rv : Value) (s : RS) (cs : List Value) (w : World) (h : RdAt w B rv s) (hl : s.data.length ≤ 1000000000) (hr : latRd (only (notB B) w) l cs) (hk : l.kind = 5) (hp1 : l.parts = [p])
 (ih : ∀ (s : RS) (cs : List Value) (w : World), RdAt w B rv s → s.data.length ≤ 1000000000 → latRd (only (notB B) w) p cs → Calls Tryz.prog 54 #[.pointer (some ⟨B, 0, none⟩), .agg cs.toArray] w (ReadPost B rv w (readV p s))) :
 Calls Tryz.prog 54 #[.pointer (some ⟨B, 0, none⟩), .agg cs.toArray] w (ReadPost B rv w (readV l s)) := by
 obtain ⟨vn, vp, vr, rfl, ⟨hi1, hi2, hi3⟩, hns, hps, hrs⟩ := (latRd_iff _ _ _).1 hr
 obtain ⟨k, lo, hi', ns, ps, rs⟩ := l
 simp only [Lat.kind, Lat.lo, Lat.hi, Lat.names, Lat.parts, Lat.rules] at hi1 hi2 hi3 hns hps hrs hk hp1 ⊢
 subst hk
 subst hp1
 have IH := hid ih
 have HRV : Hid (readV (.mk 5 lo hi' ns [p] rs) s = (.mk 0 ((rdLoop (rdPair (readV p)) (rdCount s).1 (rdCount s).2).1.map Prod.fst) ((rdLoop (rdPair (readV p)) (rdCount s).1 (rdCount s).2).1.map Prod.snd) [], (rdLoop (rdPair (readV p)) (rdCount s).1 (rdCount s).2).2)) := hid (by rw [readV]; simp only [readMap]; rfl)
 generalize readV (.mk 5 lo hi' ns [p] rs) s = R at HRV ⊢
 obtain ⟨a, cp, rfl, _, hm⟩ := hps.shape
 obtain ⟨b, o, cs0, rfl, hl0, hcs, hlp⟩ := hps.at 0 (by simp)
 obtain ⟨an0, cn0, ap0, cp0, ar0, cr0, rfl, hyi, hyn, hyp, hyr, _⟩ := latRd.lay hlp
 have HLP := hid hlp
 have HF := hid hcs.six
 simp only [List.getElem_cons_zero, Nat.zero_mul, Nat.add_zero] at HLP HF
 have HST := hid (RdSt.start h #[.int .i64 5, .int .i64 lo, .int .i64 hi', vn, .slice (some ⟨b, o, none⟩) 1 cp, vr])
 have HL := hid hl
 have HO := hid h
 have HO1 := hid HST.out.rd
 have HC := hid (rdCount_ok h.ok)
 clear h hl hr hns hps hrs ih hcs hlp hyi hyn hyp hyr
 obtain ⟨i0, hi0, hz0, hz1, hz2⟩ := info_parts infoString
 obtain ⟨j0, hj0, hy0, hy1, hy2⟩ := info_parts infoVal
 go_enter Tryz.func54, Tryz.ntmps54
 go_wp2_with fail
 refine (rCount_any B rv s _ HO1.out HL.out).mono ?_
 rintro e w1 ⟨rfl, hp⟩
 have ST1 := hid (HST.out.call hp)
 clear hp
 have HL1 : Hid ((rdCount s).2.data.length = s.data.length) := hid (congrArg List.length HC.out.2.1)
 generalize rdCount s = q at HRV HC HL1 ST1 ⊢
 obtain ⟨N, s1⟩ := q
 simp only at HRV HC HL1 ST1 ⊢
 have HLA := hid (LoopAt.start (rdPair (readV p)) N s1)
 generalize rdLoop (rdPair (readV p)) N s1 = RL at HRV HLA
 have HN : Hid (N ≤ 1000000000 ∧ s1.data.length ≤ 1000000000) := hid (by have := HC.out.2.2; have := HL1.out; have := HL.out; omega)
 clear HC HL1
 go_wp2_with fail
 go_loopw [6] (fun n wr => ∃ (k : Nat) (s : RS) (vo vq : Value) (acc : List (ByteArray × Val)) (an : List ByteArray) (av : List Val) (cN cV : List (List Value)), n = .int .i64 k ∧ Hid (RdSt w wr B rv s #[.int .i64 5, .int .i64 lo, .int .i64 hi', vn, .slice (some ⟨b, o, none⟩) 1 cp, vr] (.int .i64 0) vo vq (.slice none 0 0)) ∧
     Hid (Rws wr (w.heap.size + 3) 9 1 (fun _ => strRd) vo an cN) ∧ Hid (Rws2 wr (w.heap.size + 3) 30 4 valRd vq vo av cV) ∧ Hid (an = acc.map Prod.fst ∧ av = acc.map Prod.snd) ∧ Hid (LoopAt RL (rdPair (readV p)) acc k s) ∧ Hid (an.length + k ≤ 1000000000 ∧ av.length + k ≤ 1000000000 ∧ s.data.length ≤ 1000000000)) (fun n _ => (intOf n).toNat)
 case atStart => exact ⟨N, s1, _, _, [], [], [], [], [], rfl, ST1, hid (Rws.nil _ _ _ _ _), hid (Rws2.nil _ _ _ _ _ _), hid ⟨rfl, rfl⟩, HLA, hid (by have := HN.out; simp; omega)⟩
 case round =>
  obtain ⟨k, s2, vo, vq, acc, an, av, cN, cV, rfl, STW, HRN, HRP, HAC, HLW, HNW⟩ := hrel
  obtain ⟨ao, co, rfl⟩ := owns_shape HRN.out.own
  obtain ⟨aq, cq, rfl⟩ := owns_shape HRP.out.own
  have HOW := hid STW.out.rd
  clear HLA
  have kw0 := STW.out.cellV 0
  have kw1 := STW.out.cellV 1
  have kw2 := STW.out.cellV 2
  have kw3 := STW.out.cellV 3
  have rw0 := STW.out.cellR 0
  have rw1 := STW.out.cellR 1
  have rw2 := STW.out.cellR 2
  have rw3 := STW.out.cellR 3
  have ew0 := STW.out.freeR 0
  have ew1 := STW.out.freeR 1
  have ew2 := STW.out.freeR 2
  have ew3 := STW.out.freeR 3
  have zw0 := STW.out.freeV 0
  have zw1 := STW.out.freeV 1
  have zw2 := STW.out.freeV 2
  have zw3 := STW.out.freeV 3
  simp only [List.getElem?_toArray, List.getElem?_cons_zero, List.getElem?_cons_succ] at kw0 kw1 kw2 kw3 rw0 rw1 rw2 rw3
  have HFIN : Hid (∀ (a b c d : Value), RL = (acc, s2) → ReadPost B rv w R (.returned (.agg #[.int .i64 0, .slice ao an.length co, .slice aq av.length cq, .slice none 0 0])) ((((wr.setCell ⟨w.heap.size + 1, 0, none⟩ a).setCell ⟨w.heap.size + 1, 1, none⟩ b).setCell ⟨w.heap.size + 1, 2, none⟩ c).setCell ⟨w.heap.size + 1, 3, none⟩ d)) := hid fun a b c d hE =>
   RdSt.post (x := .mk 0 an av []) STW.out ((valRd_iff _ _ _).2 ⟨_, _, _, rfl, i64_0, HRN.out.reads fun _ h => h, (HRP.out.one valRd_mono').reads valRd_mono', sl_none _ _ _⟩) (by rw [HRV.out, hE, HAC.out.1, HAC.out.2]) _ _ _ _
  by_cases hk0 : k = 0
  · have HK := hid hk0
    subst hk0
    have HE := hid HLW.out.end0
    go_wp2_with fail
    refine bodyPost_ret (v := .agg #[.int .i64 0, .slice ao an.length co, .slice aq av.length cq, .slice none 0 0]) (by simp [results, Tryz.results54, go_sem, kw0, kw1, kw2, kw3, rw0, rw1, rw2, rw3, ew0, ew1, ew2, ew3]) rfl (HFIN.out _ _ _ _ HE.out)
  · have hkp : 0 < k := by omega
    have HK := hid hk0
    clear hk0
    go_wp2_with fail
    refine (rErr_any B rv s2 _ HOW.out).mono ?_
    rintro e w2 ⟨rfl, rfl⟩
    by_cases he : s2.err = 0
    · have HE := hid he
      have heb : (s2.err == 0) = true := by simpa using he
      have HLS : Hid (LoopAt RL (rdPair (readV p)) (acc ++ [((rdText s2).1, (readV p (rdText s2).2).1)]) (k - 1) (readV p (rdText s2).2).2) := hid (by
       have := HLW.out
       rw [show k = k - 1 + 1 by omega] at this
       exact this.step HE.out)
      have HX : Hid ((rdText s2).1.size ≤ maxLen) := hid (by have := rdText_le STW.out.ok; have := HNW.out.2.2; unfold maxLen; omega)
      have HNX : Hid ((rdText s2).2.data.length ≤ 1000000000) := hid (by have := (rdBytes_ok STW.out.ok).2.1; have := HNW.out.2.2; show (rdBytes s2).2.data.length ≤ _; rw [(rdBytes_ok STW.out.ok).2.1]; exact this)
      have HMX : Hid (an.length + 1 ≤ maxLen ∧ (an.length + 1) * 16 ≤ 140737488355328) := hid (by have := HNW.out; have := HK.out; unfold maxLen; omega)
      have HMY : Hid (av.length + 1 ≤ maxLen ∧ (av.length + 1) * 80 ≤ 140737488355328) := hid (by have := HNW.out; have := HK.out; unfold maxLen; omega)
      have HDR : Hid (∀ q, RdAt (w2.drewN q) B rv s2) := hid fun q => (STW.out.drewN q).rd
      clear he
      go_wp2_with fail
      go_region_law
       (first
         | (refine step_append (by rfl) (.tmp 58) (.tmp 61) 22 (by rfl) (w.heap.size + 3) 9 1 16 Tryz.underlying22 hi0 hz0 hz1 hz2 rfl (by decide) (.slice ao an.length co) an.length cN.flatten (by rfl) (HOWN.out _) _ 1 [.string x'] (by rfl) (Src.of_block (cs := #[.string x']) (heap_alloc_new _ _) 1 1 1 rfl (by simp [Value.oneCell'])) (an.length + 1) rfl _ rfl HMX.out.1 HMX.out.2 (HBS.out _) ?_
            intro na nc w5 had
            have HAD := hid had
            have ST5 : Hid (RdSt w w5 B rv s3 #[.int .i64 5, .int .i64 lo, .int .i64 hi', vn, .slice (some ⟨b, o, none⟩) 1 cp, vr] (.int .i64 0) (.slice ao an.length co) (.slice aq av.length cq) (.slice none 0 0)) := hid ((ST3.out.alloc _).grown had.grown (fun g hg => ((HOWN.out (.cells #[] 0 (0, 0))).lt g hg).1))
            have kv1 := ST5.out.cellV 1
            have zv1 := ST5.out.freeV 1
            simp only [List.getElem?_toArray, List.getElem?_cons_zero, List.getElem?_cons_succ] at kv1
            clear had)
         | (go_simp
            go_at_call 92
            refine (rText_any B rv s2 _ (HDR.out _) HNW.out.2.2).mono ?_
            rintro e w3 ⟨rfl, hp⟩
            have ST3 : Hid (RdSt w w3 B rv (rdText s2).2 #[.int .i64 5, .int .i64 lo, .int .i64 hi', vn, .slice (some ⟨b, o, none⟩) 1 cp, vr] (.int .i64 0) (.slice ao an.length co) (.slice aq av.length cq) (.slice none 0 0)) := hid ((STW.out.drewN _).call hp)
            have HKP : Hid (∀ b, w.heap.size + 3 ≤ b → b < w2.heap.size → w3.heap[b]? = w2.heap[b]?) := hid fun b hb hl => hp.2.block b hl (by have := STW.out.lt; omega)
            have HRN3 : Hid (Rws w3 (w.heap.size + 3) 9 1 (fun _ => strRd) (.slice ao an.length co) an cN) := hid (HRN.out.keep (fun _ h => h) HKP.out)
            have HRP3 : Hid (Rws2 w3 (w.heap.size + 3) 30 4 valRd (.slice aq av.length cq) (.slice ao an.length co) av cV) := hid (HRP.out.keep valRd_mono' HKP.out)
            have HOWN : Hid (∀ O, (w3.alloc O).ownsRow (w.heap.size + 3) 9 1 (.slice ao an.length co) an.length cN.flatten) := hid fun O => owns_below HRN3.out.own ((Below.refl _ _).alloc (Nat.le_refl _) O)
            have HBS : Hid (∀ O, w.heap.size + 3 ≤ (w3.alloc O).heap.size) := hid fun O => (ST3.out.alloc O).big
            have ka1 := fun O => (ST3.out.alloc O).cellV 1
            have za1 := fun O => (ST3.out.alloc O).freeV 1
            have kb1 := ST3.out.cellV 1
            simp only [List.getElem?_toArray, List.getElem?_cons_zero, List.getElem?_cons_succ] at ka1 kb1
            generalize rdText s2 = q at HX HLS HNX hp ST3 ⊢
            obtain ⟨x', s3⟩ := q
            simp only at HX HLS HNX ST3 ⊢
            clear hp))
      all_goals
       have HAX : Hid (Appd (w3.alloc (.cells #[.string x'] 9 (0, 0))) w5 (w.heap.size + 3) 9 1 (.slice ao an.length co) (.slice na (an.length + 1) nc) (an.length + 1) (cN.flatten ++ [.string x'])) := HAD
       have ST6 := hid (ST5.out.set 1 (.slice na (an.length + 1) nc) (n' := .int .i64 0) rfl)
       have HR6 : Hid (Rws (w5.setCell ⟨w.heap.size + 1 + 1, 1, none⟩ (.slice na (an.length + 1) nc)) (w.heap.size + 3) 9 1 (fun _ => strRd) (.slice na (an.length + 1) nc) (an ++ [x']) (cN ++ [[.string x']])) := hid
         (((HRN3.out.keep (fun _ h => h) fun b _ hl => Below.heap_alloc _ _ _ hl).push (fun _ h => h) HAX.out rfl rfl rfl ⟨rfl, HX.out⟩).keep (fun _ h => h) fun b hb _ => Below.heap_setCell _ _ _ _ (by show b ≠ w.heap.size + 1 + 1; omega))
       have HP6 : Hid (Rws2 (w5.setCell ⟨w.heap.size + 1 + 1, 1, none⟩ (.slice na (an.length + 1) nc)) (w.heap.size + 3) 30 4 valRd (.slice aq av.length cq) (.slice na (an.length + 1) nc) av cV) := hid
        (((HRP3.out.keep valRd_mono' fun b _ hl => Below.heap_alloc _ _ _ hl).other valRd_mono' (fun b _ hl hn => HAX.out.grown.block b hl (fun e => hn e.symm)) HAX.out.at_).keep valRd_mono' fun b hb _ => Below.heap_setCell _ _ _ _ (by show b ≠ w.heap.size + 1 + 1; omega))
       have HLN : Hid ((an ++ [x']).length = an.length + 1) := hid (by simp)
       have b0 := ST6.out.cellL 0
       have b4 := ST6.out.cellL 4
       have k62 := ST6.out.cellV 2
       simp only [List.getElem?_toArray, List.getElem?_cons_zero, List.getElem?_cons_succ] at b0 b4 k62
       clear HAD kv1 zv1 ka1 za1 kb1 HAX ST5 HRN3 HRP3
       have HACO := HAC
       generalize w5.setCell ⟨w.heap.size + 1 + 1, 1, none⟩ (.slice na (an.length + 1) nc) = w6 at ST6 HR6 HP6 b0 b4 k62 ⊢
       have HDR6 : Hid (∀ q, RdAt (w6.drewN q) B rv s3 ∧ latRd (only (notB B) (w6.drewN q)) p [.int .i64 p.kind, .int .i64 p.lo, .int .i64 p.hi, .slice an0 p.names.length cn0, .slice ap0 p.parts.length cp0, .slice ar0 p.rules.length cr0]) := hid fun q => ⟨(ST6.out.drewN q).rd, (ST6.out.drewN q).lat HLP.out⟩
       obtain ⟨f0, f1, f2, f3, f4, f5⟩ := HF.out
       have f0 := ST6.out.latCell f0
       have f1 := ST6.out.latCell f1
       have f2 := ST6.out.latCell f2
       have f3 := ST6.out.latCell f3
       have f4 := ST6.out.latCell f4
       have f5 := ST6.out.latCell f5
       clear HRN HRP STW HFIN HAC HMX HDR kw0 kw1 kw2 kw3 rw0 rw1 rw2 rw3 ew0 ew1 ew2 ew3 zw0 zw1 zw2 zw3
       go_wp2_with fail
       go_region_law
        (first
          | (refine step_append (by rfl) (.tmp 68) (.tmp 75) 27 (by rfl) (w.heap.size + 3) 30 4 80 Tryz.underlying27 hj0 hy0 hy1 hy2 rfl (by decide) (.slice aq av.length cq) av.length cV.flatten (by rfl) (HOWV.out _) _ 1 [.int .i64 x.n, .slice xn x.names.length xcn, .slice xp x.parts.length xcp, .slice xe x.entries.length xce] (by rfl) (Src.of_block (cs := #[.int .i64 x.n, .slice xn x.names.length xcn, .slice xp x.parts.length xcp, .slice xe x.entries.length xce]) (heap_alloc_new _ _) 4 1 1 rfl (by simp [Value.oneCell'])) (av.length + 1) rfl _ rfl HMY.out.1 HMY.out.2 (HBV.out _) ?_
             intro na2 nc2 w9 had
             have HAD := hid had
             have ST9 : Hid (RdSt w w9 B rv s4 #[.int .i64 5, .int .i64 lo, .int .i64 hi', vn, .slice (some ⟨b, o, none⟩) 1 cp, vr] (.int .i64 0) (.slice na (an ++ [x']).length nc) (.slice aq av.length cq) (.slice none 0 0)) := hid ((ST7.out.alloc _).grown had.grown (fun g hg => ((HOWV.out (.cells #[] 0 (0, 0))).lt g hg).1))
             have kv2 := ST9.out.cellV 2
             have zv2 := ST9.out.freeV 2
             simp only [List.getElem?_toArray, List.getElem?_cons_zero, List.getElem?_cons_succ] at kv2
             clear had)
          | (go_simp
             go_at_call 54
             refine (IH.out s3 [.int .i64 p.kind, .int .i64 p.lo, .int .i64 p.hi, .slice an0 p.names.length cn0, .slice ap0 p.parts.length cp0, .slice ar0 p.rules.length cr0] _ (HDR6.out _).1 HNX.out (HDR6.out _).2).mono ?_
             rintro e w7 ⟨cs7, rfl, hv7, hp⟩
             have ST7 : Hid (RdSt w w7 B rv (readV p s3).2 #[.int .i64 5, .int .i64 lo, .int .i64 hi', vn, .slice (some ⟨b, o, none⟩) 1 cp, vr] (.int .i64 0) (.slice na (an ++ [x']).length nc) (.slice aq av.length cq) (.slice none 0 0)) := hid (by rw [HLN.out]; exact (ST6.out.drewN _).call hp)
             have HX7 : Hid (valRd (only (from_ w6.heap.size) w7) (readV p s3).1 cs7) := hid hv7
             have HKP : Hid (∀ b, w.heap.size + 3 ≤ b → b < w6.heap.size → w7.heap[b]? = w6.heap[b]?) := hid fun b hb hl => hp.2.block b hl (by have := ST7.out.lt; omega)
             have HRN7 : Hid (Rws w7 (w.heap.size + 3) 9 1 (fun _ => strRd) (.slice na (an ++ [x']).length nc) (an ++ [x']) (cN ++ [[.string x']])) := hid (by rw [HLN.out]; exact HR6.out.keep (fun _ h => h) HKP.out)
             have HRP7 : Hid (Rws2 w7 (w.heap.size + 3) 30 4 valRd (.slice aq av.length cq) (.slice na (an ++ [x']).length nc) av cV) := hid (by rw [HLN.out]; exact HP6.out.keep valRd_mono' HKP.out)
             have HOLD : Hid (∀ g, g < w7.heap.size → (Value.slice aq av.length cq).ownBlock = some g ∨ (Value.slice na (an ++ [x']).length nc).ownBlock = some g → g < w6.heap.size) := hid (by
              rintro g _ (h | h)
              · exact (HP6.out.own.lt g h).2
              · rw [HLN.out] at h; exact (HR6.out.own.lt g h).2)
             have HSZ7 : Hid (w6.heap.size ≤ w7.heap.size) := hid hp.2.size
             have HOWV : Hid (∀ O, (w7.alloc O).ownsRow (w.heap.size + 3) 30 4 (.slice aq av.length cq) av.length cV.flatten) := hid fun O => owns_below HRP7.out.own ((Below.refl _ _).alloc (Nat.le_refl _) O)
             have HBV : Hid (∀ O, w.heap.size + 3 ≤ (w7.alloc O).heap.size) := hid fun O => (ST7.out.alloc O).big
             have ka2 := fun O => (ST7.out.alloc O).cellV 2
             have za2 := fun O => (ST7.out.alloc O).freeV 2
             have kb2 := ST7.out.cellV 2
             simp only [List.getElem?_toArray, List.getElem?_cons_zero, List.getElem?_cons_succ] at ka2 kb2
             have HD4 : Hid ((readV p s3).2.data.length ≤ 1000000000) := hid (by have := (HDR6.out 0).1.len hp.1; have := HNX.out; omega)
             generalize readV p s3 = q at HX7 HLS HD4 hp hv7 ST7 ⊢
             obtain ⟨x, s4⟩ := q
             simp only at HX7 HLS HD4 hv7 ST7 ⊢
             obtain ⟨xn, xcn, xp, xcp, xe, xce, rfl, _, hsn, hsp, hse, _⟩ := valRd.lay hv7
             clear hp hv7 hsn hsp hse))
       all_goals
        have HAX : Hid (Appd (w7.alloc (.cells #[.int .i64 x.n, .slice xn x.names.length xcn, .slice xp x.parts.length xcp, .slice xe x.entries.length xce] 30 (0, 0))) w9 (w.heap.size + 3) 30 4 (.slice aq av.length cq) (.slice na2 (av.length + 1) nc2) (av.length + 1) (cV.flatten ++ [.int .i64 x.n, .slice xn x.names.length xcn, .slice xp x.parts.length xcp, .slice xe x.entries.length xce])) := HAD
        have STA := hid (ST9.out.set 2 (.slice na2 (av.length + 1) nc2) (n' := .int .i64 0) rfl)
        have HRA : Hid (Rws (w9.setCell ⟨w.heap.size + 1 + 1, 2, none⟩ (.slice na2 (av.length + 1) nc2)) (w.heap.size + 3) 9 1 (fun _ => strRd) (.slice na (an ++ [x']).length nc) (an ++ [x']) (cN ++ [[.string x']])) := hid
          (((HRN7.out.keep (fun _ h => h) fun b _ hl => Below.heap_alloc _ _ _ hl).flat fun b hb => HAX.out.grown.block b (by have := HRN7.out.own.lt b hb; simp; omega) (fun e => HRP7.out.sep b e.symm hb)).keep (fun _ h => h) fun b hb _ => Below.heap_setCell _ _ _ _ (by show b ≠ w.heap.size + 1 + 1; omega))
        have HPA : Hid (Rws2 (w9.setCell ⟨w.heap.size + 1 + 1, 2, none⟩ (.slice na2 (av.length + 1) nc2)) (w.heap.size + 3) 30 4 valRd (.slice na2 (av.length + 1) nc2) (.slice na (an ++ [x']).length nc) (av ++ [x]) (cV ++ [[.int .i64 x.n, .slice xn x.names.length xcn, .slice xp x.parts.length xcp, .slice xe x.entries.length xce]])) := hid
         (((HRP7.out.keep valRd_mono' fun b _ hl => Below.heap_alloc _ _ _ hl).push valRd_mono' HAX.out rfl rfl rfl (valRd_mono' (only_keep fun b hb hl => by
             have hb' := of_decide_eq_true hb
             refine ⟨butTwo_iff.2 ⟨by have := ST6.out.big; omega, fun e => ?_, fun e => ?_⟩, Below.heap_alloc _ _ _ hl⟩
             · have := HOLD.out b hl (.inl e); omega
             · have := HOLD.out b hl (.inr e); omega) HX7.out) (fun g hg => by have := (HRN7.out.own.lt g hg).2; simp; omega)).keep valRd_mono' fun b hb _ => Below.heap_setCell _ _ _ _ (by show b ≠ w.heap.size + 1 + 1; omega))
        have HNA : Hid ((an ++ [x']).length + (k - 1) ≤ 1000000000 ∧ (av ++ [x]).length + (k - 1) ≤ 1000000000 ∧ s4.data.length ≤ 1000000000) := hid (by have := HNW.out; have := HD4.out; have := HK.out; simp; omega)
        have HLV : Hid ((av ++ [x]).length = av.length + 1) := hid (by simp)
        have HACN : Hid (an ++ [x'] = (acc ++ [(x', x)]).map Prod.fst ∧ av ++ [x] = (acc ++ [(x', x)]).map Prod.snd) := hid (by rw [HACO.out.1, HACO.out.2]; simp)
        clear HAD kv2 zv2 ka2 za2 kb2 b0 b4 k62 f0 f1 f2 f3 f4 f5
        go_wp2_with fail
        have hw1 : wrap64 ((k : Int) - 1) = ((k - 1 : Nat) : Int) := by rw [IntWalk.wrap64_in _ (by have := HNW.out; omega)]; omega
        go_roundw
        case rel => exact ⟨k - 1, s4, _, _, acc ++ [(x', x)], an ++ [x'], av ++ [x], _, _, by rw [hw1], STA, HRA, HPA, HACN, HLS, HNA⟩
        case measure => simp [intOf, hw1]; omega
    · have heb : (s2.err == 0) = false := by simpa using he
      have HE := hid (HLW.out.endE he)
      clear he
      go_wp2_with fail
      refine bodyPost_ret (v := .agg #[.int .i64 0, .slice ao an.length co, .slice aq av.length cq, .slice none 0 0]) (by simp [results, Tryz.results54, go_sem, kw0, kw1, kw2, kw3, rw0, rw1, rw2, rw3, ew0, ew1, ew2, ew3]) rfl (HFIN.out _ _ _ _ HE.out)
def PartsAt (R : List Val × RS) (ps : List Lat) (acc : List Val) (j : Nat) (s : RS) : Prop := R = (acc ++ (readParts (ps.drop j) s).1, (readParts (ps.drop j) s).2)
theorem PartsAt.start (ps : List Lat) (s : RS) : PartsAt (readParts ps s) ps [] 0 s := rfl
theorem PartsAt.step {R : List Val × RS} {ps : List Lat} {acc : List Val} {j : Nat} {s : RS} (h : PartsAt R ps acc j s) (hj : j < ps.length) : PartsAt R ps (acc ++ [(readV ps[j] s).1]) (j + 1) (readV ps[j] s).2 := by
 unfold PartsAt at h ⊢
 rw [h, List.drop_eq_getElem_cons hj, readParts, List.append_assoc]
 rfl
theorem PartsAt.end0 {R : List Val × RS} {ps : List Lat} {acc : List Val} {s : RS} (h : PartsAt R ps acc ps.length s) : R = (acc, s) := by
 unfold PartsAt at h
 rw [h, List.drop_length, readParts, List.append_nil]
theorem read_prod6 (l : Lat) (B : Nat) (rv : Value) (s : RS) (cs : List Value) (w : World) (h : RdAt w B rv s) (hl : s.data.length ≤ 1000000000) (hr : latRd (only (notB B) w) l cs) (hk : l.kind = 6) (hp8 : l.parts.length ≤ 8)
 (ih : ∀ p ∈ l.parts, ∀ (s : RS) (cs : List Value) (w : World), RdAt w B rv s → s.data.length ≤ 1000000000 → latRd (only (notB B) w) p cs → Calls Tryz.prog 54 #[.pointer (some ⟨B, 0, none⟩), .agg cs.toArray] w (ReadPost B rv w (readV p s))) :
 Calls Tryz.prog 54 #[.pointer (some ⟨B, 0, none⟩), .agg cs.toArray] w (ReadPost B rv w (readV l s)) := by
 obtain ⟨vn, vp, vr, rfl, ⟨hi1, hi2, hi3⟩, hns, hps, hrs⟩ := (latRd_iff _ _ _).1 hr
 obtain ⟨k, lo, hi', ns, ps, rs⟩ := l
 simp only [Lat.kind, Lat.lo, Lat.hi, Lat.names, Lat.parts, Lat.rules] at hi1 hi2 hi3 hns hps hrs hk hp8 ih ⊢
 subst hk
 have IH := hid ih
 have HP8 := hid hp8
 have HPS := hid hps
 have HRV : Hid (readV (.mk 6 lo hi' ns ps rs) s = (.mk 0 [] (readParts ps s).1 [], (readParts ps s).2)) := hid (by rw [readV]; rfl)
 generalize readV (.mk 6 lo hi' ns ps rs) s = R at HRV ⊢
 have HLA := hid (PartsAt.start ps s)
 generalize readParts ps s = RL at HRV HLA
 obtain ⟨ap, cp, rfl, _, hm⟩ := hps.shape
 have HST := hid (RdSt.start h #[.int .i64 6, .int .i64 lo, .int .i64 hi', vn, .slice ap ps.length cp, vr])
 have HL := hid hl
 clear h hl hr hns hps hrs ih hp8
 obtain ⟨j0, hj0, hy0, hy1, hy2⟩ := info_parts infoVal
 have ks0 := HST.out.cellV 0
 have ks1 := HST.out.cellV 1
 have ks2 := HST.out.cellV 2
 have ks3 := HST.out.cellV 3
 have rr0 := HST.out.cellR 0
 have rr1 := HST.out.cellR 1
 have rr2 := HST.out.cellR 2
 have rr3 := HST.out.cellR 3
 have es0 := HST.out.freeR 0
 have es1 := HST.out.freeR 1
 have es2 := HST.out.freeR 2
 have es3 := HST.out.freeR 3
 have zs0 := HST.out.freeV 0
 have zs1 := HST.out.freeV 1
 have zs2 := HST.out.freeV 2
 have zs3 := HST.out.freeV 3
 simp only [List.getElem?_toArray, List.getElem?_cons_zero, List.getElem?_cons_succ] at ks0 ks1 ks2 ks3 rr0 rr1 rr2 rr3
 clear ks0 ks1 ks2 ks3 rr0 rr1 rr2 rr3 es0 es1 es2 es3 zs0 zs1 zs2 zs3
 go_enter Tryz.func54, Tryz.ntmps54
 go_wp2_with fail
 go_loopw [12, 18] (fun _ i wr => ∃ (j : Nat) (s : RS) (vq : Value) (av : List Val) (cV : List (List Value)), j ≤ ps.length ∧ i = .int .i64 j ∧ Hid (av.length = j) ∧ Hid (RdSt w wr B rv s #[.int .i64 6, .int .i64 lo, .int .i64 hi', vn, .slice ap ps.length cp, vr] (.int .i64 0) (.slice none 0 0) vq (.slice none 0 0)) ∧
     Hid (Rws wr (w.heap.size + 3) 30 4 valRd vq av cV) ∧ Hid (PartsAt RL ps av j s) ∧ Hid (s.data.length ≤ 1000000000)) (fun _ i _ => ps.length - (intOf i).toNat)
 case atStart => exact ⟨0, s, _, [], [], Nat.zero_le _, rfl, hid rfl, HST, hid (Rws.nil _ _ _ _ _), HLA, HL⟩
 case round =>
  obtain ⟨j, s2, vq, av, cV, hj, rfl, HAV, STW, HRP, HLW, HNW⟩ := hrel
  obtain ⟨aq, cq, rfl⟩ := owns_shape HRP.out.own
  clear HLA
  by_cases hlt : j < ps.length
  · obtain ⟨b, o, cs0, ha, hl0, hcs, hlp⟩ := HPS.out.at j hlt
    subst ha
    obtain ⟨an0, cn0, ap0, cp0, ar0, cr0, rfl, hyi, hyn, hyp, hyr, _⟩ := latRd.lay hlp
    have HLP := hid hlp
    obtain ⟨f0, f1, f2, f3, f4, f5⟩ := hcs.six
    have f0 := STW.out.latCell f0
    have f1 := STW.out.latCell f1
    have f2 := STW.out.latCell f2
    have f3 := STW.out.latCell f3
    have f4 := STW.out.latCell f4
    have f5 := STW.out.latCell f5
    clear hlp hcs hyi hyn hyp hyr
    have HLS : Hid (PartsAt RL ps (av ++ [(readV ps[j] s2).1]) (j + 1) (readV ps[j] s2).2) := hid (HLW.out.step hlt)
    have HJ : Hid (j + 1 ≤ 9223372036854775807 ∧ j + 1 ≤ ps.length) := hid (by omega)
    have HMY : Hid (av.length + 1 ≤ maxLen ∧ (av.length + 1) * 80 ≤ 140737488355328) := hid (by have := HAV.out; have := HP8.out; unfold maxLen; omega)
    go_wp2_with fail
    have ST6 := hid (STW.out.alloc (.cells #[.int .i64 ps[j].kind, .int .i64 ps[j].lo, .int .i64 ps[j].hi, .slice an0 ps[j].names.length cn0, .slice ap0 ps[j].parts.length cp0, .slice ar0 ps[j].rules.length cr0] 26 (0, 0)))
    have HP6 : Hid (Rws (wr.alloc (.cells #[.int .i64 ps[j].kind, .int .i64 ps[j].lo, .int .i64 ps[j].hi, .slice an0 ps[j].names.length cn0, .slice ap0 ps[j].parts.length cp0, .slice ar0 ps[j].rules.length cr0] 26 (0, 0))) (w.heap.size + 3) 30 4 valRd (.slice aq av.length cq) av cV) := hid (HRP.out.keep valRd_mono' fun b _ hl => Below.heap_alloc _ _ _ hl)
    have HBX : Hid (∀ (i : Nat) (v : Value), #[.int .i64 ps[j].kind, .int .i64 ps[j].lo, .int .i64 ps[j].hi, .slice an0 ps[j].names.length cn0, .slice ap0 ps[j].parts.length cp0, .slice ar0 ps[j].rules.length cr0][i]? = some v → (wr.alloc (.cells #[.int .i64 ps[j].kind, .int .i64 ps[j].lo, .int .i64 ps[j].hi, .slice an0 ps[j].names.length cn0, .slice ap0 ps[j].parts.length cp0, .slice ar0 ps[j].rules.length cr0] 26 (0, 0))).cell? ⟨wr.heap.size, i, none⟩ = some v) := hid fun i v hv => by
      rw [World.cell?_alloc_at _ _ _ _ rfl]; exact hv
    have g0 := HBX.out 0 _ rfl
    have g1 := HBX.out 1 _ rfl
    have g2 := HBX.out 2 _ rfl
    have g3 := HBX.out 3 _ rfl
    have g4 := HBX.out 4 _ rfl
    have g5 := HBX.out 5 _ rfl
    have k62 := ST6.out.cellV 2
    simp only [List.getElem?_toArray, List.getElem?_cons_zero, List.getElem?_cons_succ] at k62
    clear f0 f1 f2 f3 f4 f5 STW HRP HBX
    generalize wr.alloc (.cells #[.int .i64 ps[j].kind, .int .i64 ps[j].lo, .int .i64 ps[j].hi, .slice an0 ps[j].names.length cn0, .slice ap0 ps[j].parts.length cp0, .slice ar0 ps[j].rules.length cr0] 26 (0, 0)) = w6 at ST6 HP6 g0 g1 g2 g3 g4 g5 k62 ⊢
    have HDR6 : Hid (∀ q, RdAt (w6.drewN q) B rv s2 ∧ latRd (only (notB B) (w6.drewN q)) ps[j] [.int .i64 ps[j].kind, .int .i64 ps[j].lo, .int .i64 ps[j].hi, .slice an0 ps[j].names.length cn0, .slice ap0 ps[j].parts.length cp0, .slice ar0 ps[j].rules.length cr0]) := hid fun q => ⟨(ST6.out.drewN q).rd, (ST6.out.drewN q).lat HLP.out⟩
    go_region_law
     (first
       | (refine step_append (by rfl) (.tmp 23) (.tmp 27) 27 (by rfl) (w.heap.size + 3) 30 4 80 Tryz.underlying27 hj0 hy0 hy1 hy2 rfl (by decide) (.slice aq av.length cq) av.length cV.flatten (by rfl) (HOWV.out _) _ 1 [.int .i64 x.n, .slice xn x.names.length xcn, .slice xp x.parts.length xcp, .slice xe x.entries.length xce] (by rfl) (Src.of_block (cs := #[.int .i64 x.n, .slice xn x.names.length xcn, .slice xp x.parts.length xcp, .slice xe x.entries.length xce]) (heap_alloc_new _ _) 4 1 1 rfl (by simp [Value.oneCell'])) (av.length + 1) rfl _ rfl HMY.out.1 HMY.out.2 (HBV.out _) ?_
          intro na2 nc2 w9 had
          have HAD := hid had
          have ST9 : Hid (RdSt w w9 B rv s4 #[.int .i64 6, .int .i64 lo, .int .i64 hi', vn, .slice (some ⟨b, o, none⟩) ps.length cp, vr] (.int .i64 0) (.slice none 0 0) (.slice aq av.length cq) (.slice none 0 0)) := hid ((ST7.out.alloc _).grown had.grown (fun g hg => ((HOWV.out (.cells #[] 0 (0, 0))).lt g hg).1))
          have kv2 := ST9.out.cellV 2
          have zv2 := ST9.out.freeV 2
          simp only [List.getElem?_toArray, List.getElem?_cons_zero, List.getElem?_cons_succ] at kv2
          clear had)
       | (go_simp
          go_at_call 54
          refine (IH.out ps[j] (List.getElem_mem hlt) s2 [.int .i64 ps[j].kind, .int .i64 ps[j].lo, .int .i64 ps[j].hi, .slice an0 ps[j].names.length cn0, .slice ap0 ps[j].parts.length cp0, .slice ar0 ps[j].rules.length cr0] _ (HDR6.out _).1 HNW.out (HDR6.out _).2).mono ?_
          rintro e w7 ⟨cs7, rfl, hv7, hp⟩
          have ST7 : Hid (RdSt w w7 B rv (readV ps[j] s2).2 #[.int .i64 6, .int .i64 lo, .int .i64 hi', vn, .slice (some ⟨b, o, none⟩) ps.length cp, vr] (.int .i64 0) (.slice none 0 0) (.slice aq av.length cq) (.slice none 0 0)) := hid ((ST6.out.drewN _).call hp)
          have HX7 : Hid (valRd (only (from_ w6.heap.size) w7) (readV ps[j] s2).1 cs7) := hid hv7
          have HKP : Hid (∀ b, w.heap.size + 3 ≤ b → b < w6.heap.size → w7.heap[b]? = w6.heap[b]?) := hid fun b hb hl => hp.2.block b hl (by have := ST7.out.lt; omega)
          have HRP7 : Hid (Rws w7 (w.heap.size + 3) 30 4 valRd (.slice aq av.length cq) av cV) := hid (HP6.out.keep valRd_mono' HKP.out)
          have HOLD : Hid (∀ g, (Value.slice aq av.length cq).ownBlock = some g → g < w6.heap.size) := hid fun g h => (HP6.out.own.lt g h).2
          have HOWV : Hid (∀ O, (w7.alloc O).ownsRow (w.heap.size + 3) 30 4 (.slice aq av.length cq) av.length cV.flatten) := hid fun O => owns_below HRP7.out.own ((Below.refl _ _).alloc (Nat.le_refl _) O)
          have HBV : Hid (∀ O, w.heap.size + 3 ≤ (w7.alloc O).heap.size) := hid fun O => (ST7.out.alloc O).big
          have ka2 := fun O => (ST7.out.alloc O).cellV 2
          have za2 := fun O => (ST7.out.alloc O).freeV 2
          have kb2 := ST7.out.cellV 2
          simp only [List.getElem?_toArray, List.getElem?_cons_zero, List.getElem?_cons_succ] at ka2 kb2
          have HD4 : Hid ((readV ps[j] s2).2.data.length ≤ 1000000000) := hid (by have := (HDR6.out 0).1.len hp.1; have := HNW.out; omega)
          generalize readV ps[j] s2 = q at HX7 HLS HD4 hp hv7 ST7 ⊢
          obtain ⟨x, s4⟩ := q
          simp only at HX7 HLS HD4 hv7 ST7 ⊢
          obtain ⟨xn, xcn, xp, xcp, xe, xce, rfl, _, hsn, hsp, hse, _⟩ := valRd.lay hv7
          clear hp hv7 hsn hsp hse))
    all_goals
     have HAX : Hid (Appd (w7.alloc (.cells #[.int .i64 x.n, .slice xn x.names.length xcn, .slice xp x.parts.length xcp, .slice xe x.entries.length xce] 30 (0, 0))) w9 (w.heap.size + 3) 30 4 (.slice aq av.length cq) (.slice na2 (av.length + 1) nc2) (av.length + 1) (cV.flatten ++ [.int .i64 x.n, .slice xn x.names.length xcn, .slice xp x.parts.length xcp, .slice xe x.entries.length xce])) := HAD
     have STA := hid (ST9.out.set 2 (.slice na2 (av.length + 1) nc2) (n' := .int .i64 0) rfl)
     have HPA : Hid (Rws (w9.setCell ⟨w.heap.size + 1 + 1, 2, none⟩ (.slice na2 (av.length + 1) nc2)) (w.heap.size + 3) 30 4 valRd (.slice na2 (av.length + 1) nc2) (av ++ [x]) (cV ++ [[.int .i64 x.n, .slice xn x.names.length xcn, .slice xp x.parts.length xcp, .slice xe x.entries.length xce]])) := hid
      (((HRP7.out.keep valRd_mono' fun b _ hl => Below.heap_alloc _ _ _ hl).push valRd_mono' HAX.out rfl rfl rfl (valRd_mono' (only_keep fun b hb hl => by
          have hb' := of_decide_eq_true hb
          refine ⟨?_, Below.heap_alloc _ _ _ hl⟩
          unfold butOwn
          simp only [Bool.and_eq_true, decide_eq_true_eq]
          refine ⟨by have := ST6.out.big; omega, fun e => ?_⟩
          have := HOLD.out b e; omega) HX7.out)).keep valRd_mono' fun b hb _ => Below.heap_setCell _ _ _ _ (by show b ≠ w.heap.size + 1 + 1; omega))
     have HLV : Hid ((av ++ [x]).length = j + 1) := hid (by have := HAV.out; simp; omega)
     clear HAD kv2 zv2 ka2 za2 kb2 k62 g0 g1 g2 g3 g4 g5
     go_wp2_with fail
     go_roundw
     case rel => exact ⟨j + 1, s4, _, av ++ [x], _, HJ.out.2, by go_num, HLV, STA, HPA, HLS, HD4⟩
     case measure => simp [intOf]; omega
  · have hjj : j = ps.length := by omega
    subst hjj
    have HE := hid HLW.out.end0
    have kw0 := STW.out.cellV 0
    have kw1 := STW.out.cellV 1
    have kw2 := STW.out.cellV 2
    have kw3 := STW.out.cellV 3
    have rw0 := STW.out.cellR 0
    have rw1 := STW.out.cellR 1
    have rw2 := STW.out.cellR 2
    have rw3 := STW.out.cellR 3
    have ew0 := STW.out.freeR 0
    have ew1 := STW.out.freeR 1
    have ew2 := STW.out.freeR 2
    have ew3 := STW.out.freeR 3
    have zw0 := STW.out.freeV 0
    have zw1 := STW.out.freeV 1
    have zw2 := STW.out.freeV 2
    have zw3 := STW.out.freeV 3
    simp only [List.getElem?_toArray, List.getElem?_cons_zero, List.getElem?_cons_succ] at kw0 kw1 kw2 kw3 rw0 rw1 rw2 rw3
    go_wp2_with fail
    refine bodyPost_ret (v := .agg #[.int .i64 0, .slice none 0 0, .slice aq av.length cq, .slice none 0 0]) (by simp [results, Tryz.results54, go_sem, kw0, kw1, kw2, kw3, rw0, rw1, rw2, rw3, ew0, ew1, ew2, ew3]) rfl (RdSt.post (x := .mk 0 [] av []) STW.out ((valRd_iff _ _ _).2 ⟨_, _, _, rfl, i64_0, sl_none _ _ _, HRP.out.reads valRd_mono', sl_none _ _ _⟩) (by rw [HRV.out, HE.out]) _ _ _ _)
end Go.Proofs.YtmdjnaobllajmaaGreatDoor
