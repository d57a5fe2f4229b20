/-
  The walk of 'ValueComposes'.
-/
import Derived.Test.YtmdjnaobllajmaaGreatDoorM21
import Derived.Test.YtmdjnaobllajmaaGreatDoorM24
import Derived.Test.YtmdjnaobllajmaaGreatDoorM20
set_option linter.unusedVariables false
set_option linter.unusedSimpArgs false
namespace Go.Proofs.YtmdjnaobllajmaaGreatDoor
open Go.RowKit

/-- The cells of a block. -/
def Box (W : World) (b : Nat) (cs : Array Value) : Prop := ∀ (i : Nat) q, cs[i]? = some q → W.cell? ⟨b, i, none⟩ = some q
theorem Box.ext {W : World} {b : Nat} {cs : Array Value} (h : Box W b cs) (x : Ext W) : Box x.1 b cs := fun i q hq => x.cell (h i q hq)
theorem Box.below {W W' : World} {b : Nat} {cs : Array Value} (h : Box W b cs) (hb : Below W.heap.size W W') : Box W' b cs := h.ext ⟨W', hb⟩
theorem Box.new (W : World) (cs : Array Value) (t : TypeId) (b : Nat) (h : b = W.heap.size) : Box (W.alloc (.cells cs t)) b cs := fun i q hq => by subst h; rw [World.cell?_alloc_at _ _ _ _ rfl]; exact hq
theorem Box.alloc {W : World} {b : Nat} {cs : Array Value} (h : Box W b cs) (O : Obj) : Box (W.alloc O) b cs := h.below ((Below.refl _ _).alloc (Nat.le_refl _) O)
theorem latRd_len {w : World} {l : Lat} {cs : List Value} (h : latRd w l cs) : cs.length = 6 := by
  obtain ⟨_, _, _, rfl, _⟩ := (latRd_iff _ _ _).1 h
  rfl
theorem valRd_len {w : World} {v : Val} {cs : List Value} (h : valRd w v cs) : cs.length = 4 := by
  obtain ⟨_, _, _, rfl, _⟩ := (valRd_iff _ _ _).1 h
  rfl
theorem sums_le {a b : Nat} (ha : a ≤ 60) (hb : b ≤ 60) : (1 : Int) + (a : Int) ≤ 1000000000000 ∧ (1 : Int) + (a : Int) + (b : Int) ≤ 1000000000000 := by omega
theorem wpList_appendG {P : Program} {w : World} {ops : Array Oper} {rest : List Oper} {o : Oper} {a : Act} {Q : Exit → Act → World → Prop} (hw : Region.wanted o (yielded ops a.tmps) = true) (s x : Operand) (t : TypeId) (ho : o.op = .call { callee := .builtin .append, args := #[s, x], argTypes := #[t, t] })
    (base e size bytes : Nat) {z : Value} {i : TypeInfo} (ht : P.underlying t = some (.slice e)) (hi : P.info? e = some i) (hz : i.zero = some z)
    (hsize : i.size = size) (hby : i.bytes = bytes) (hzs : z.cells.size = size) (hsz : 0 < size) (v : Value) (n : Nat) (xs : List Value) (hs : a.eval s = v) (hown : w.ownsRow base e size v n xs)
    (u : Value) (m : Nat) (news : List Value) (hx : a.eval x = u) (hsrc : Src w size u m news) (N : Nat) (hN : n + m = N) (L : List Value) (hL : xs ++ news = L) (h63 : N ≤ maxLen) (hbytes : N * bytes ≤ 140737488355328) (hbase : base ≤ w.heap.size)
    (h : ∀ a' cap' w', Appd w w' base e size v (.slice a' N cap') N L → wpList P ops Q rest (a.put o.dst (.slice a' N cap')) w') : wpList P ops Q (o :: rest) a w :=
  wpList_step fun K hK => by
    rw [if_pos hw]
    exact wp_append s x t ho base e size bytes ht hi hz hsize hby hzs hsz v n xs hs hown u m news hx hsrc N hN L hL h63 hbytes hbase fun a' cap' w' h2 => hK _ _ (h a' cap' w' h2)
/-- A literal of a product of two. -/
theorem pair_lat (W : World) (l k : Lat) (cl ck : List Value) (hl : latRd W l cl) (hk : latRd W k ck) (y x : UInt8) (O : Obj) :
    latRd (((W.alloc (.cells #[.string (s1 y), .string (s1 x)] 9)).alloc (.cells (cl ++ ck).toArray 26)).alloc O) (pairL (s1 y) (s1 x) l k) [.int .i64 6, .int .i64 0, .int .i64 0, .slice (some ⟨W.heap.size, 0, none⟩) 2 2, .slice (some ⟨W.heap.size + 1, 0, none⟩) 2 2, .slice none 0 0] := by
  have hb : Below W.heap.size W (((W.alloc (.cells #[.string (s1 y), .string (s1 x)] 9)).alloc (.cells (cl ++ ck).toArray 26)).alloc O) := (((Below.refl _ _).alloc (Nat.le_refl _) _).alloc (by simp) _).alloc (by simp; omega) _
  have h0 : (((W.alloc (.cells #[.string (s1 y), .string (s1 x)] 9)).alloc (.cells (cl ++ ck).toArray 26)).alloc O).heap[W.heap.size]? = some (.cells #[.string (s1 y), .string (s1 x)] 9 (0, 0)) := block_alloc (block_alloc (heap_new_at _ _ _ rfl) _) _
  have h1 : (((W.alloc (.cells #[.string (s1 y), .string (s1 x)] 9)).alloc (.cells (cl ++ ck).toArray 26)).alloc O).heap[W.heap.size + 1]? = some (.cells (cl ++ ck).toArray 26 (0, 0)) := block_alloc (heap_new_at _ _ _ (by simp)) _
  refine (latRd_iff _ _ _).2 ⟨_, _, _, rfl, ⟨i64_of (n := 6) (by decide), i64_0, i64_0⟩, ?_, ?_, sl_none _ _ _⟩
  · exact sl_row (R := strRd) (l := [s1 y, s1 x]) [[.string (s1 y)], [.string (s1 x)]] h0 rfl rfl (by simp) (fun i h h' => two_idx (P := fun i => ∀ (h : i < 2) (h' : i < 2), strRd ([s1 y, s1 x][i]) ([[Value.string (s1 y)], [.string (s1 x)]][i])) (fun _ _ => ⟨rfl, s1_le _⟩) (fun _ _ => ⟨rfl, s1_le _⟩) i h h h') (by show 2 ≤ maxLen; decide)
  · exact sl_row (R := latRd _) (l := [l, k]) [cl, ck] h1 (by simp) rfl (by
      have a := latRd_len hl
      have b := latRd_len hk
      simp [a, b]) (fun i h h' => two_idx (P := fun i => ∀ (h : i < 2) (h' : i < 2), latRd _ ([l, k][i]) ([cl, ck][i])) (fun _ _ => latRd.below hb _ _ hl) (fun _ _ => latRd.below hb _ _ hk) i h h h') (by show 2 ≤ maxLen; decide)
theorem pair_val (W : World) (v u : Val) (cv cu : List Value) (hv : valRd W v cv) (hu : valRd W u cu) (O : Obj) :
    valRd ((W.alloc (.cells (cv ++ cu).toArray 30)).alloc O) (pairV v u) [.int .i64 0, .slice none 0 0, .slice (some ⟨W.heap.size, 0, none⟩) 2 2, .slice none 0 0] := by
  have hb : Below W.heap.size W ((W.alloc (.cells (cv ++ cu).toArray 30)).alloc O) := ((Below.refl _ _).alloc (Nat.le_refl _) _).alloc (by simp) _
  have h1 : ((W.alloc (.cells (cv ++ cu).toArray 30)).alloc O).heap[W.heap.size]? = some (.cells (cv ++ cu).toArray 30 (0, 0)) := block_alloc (heap_new_at _ _ _ rfl) _
  refine (valRd_iff _ _ _).2 ⟨_, _, _, rfl, i64_0, sl_none _ _ _, ?_, sl_none _ _ _⟩
  exact sl_row (R := valRd _) (l := [v, u]) [cv, cu] h1 (by simp) rfl (by
      have a := valRd_len hv
      have b := valRd_len hu
      simp [a, b]) (fun i h h' => two_idx (P := fun i => ∀ (h : i < 2) (h' : i < 2), valRd _ ([v, u][i]) ([cv, cu][i])) (fun _ _ => valRd.below hb _ _ hv) (fun _ _ => valRd.below hb _ _ hu) i h h h') (by show 2 ≤ maxLen; decide)

set_option maxRecDepth 100000 in
set_option maxHeartbeats 4000000 in
theorem valueComposes_walk (l k : Lat) (v u : Val) (cl ck cv cu : List Value) (w : World) (hl : latRd w l cl) (hk : latRd w k ck) (hv : valRd w v cv) (hu : valRd w u cu) (ht : Tab w) :
    Calls Tryz.prog 11 #[.agg cl.toArray, .agg ck.toArray, .agg cv.toArray, .agg cu.toArray] w fun e w' => e = .returned (.bool true) ∧ Below w.heap.size w w' := by
  have HSv : Hid (∀ W, Below w.heap.size w W → Calls Tryz.prog 13 #[.agg cv.toArray, .int .i64 60] W fun e w' => e = .returned (.bool (decide (nodesN v ≤ 60))) ∧ Below W.heap.size W w') := hid fun W h => small_ref v cv 60 W (valRd.below h _ _ hv) (by decide)
  have HSu : Hid (∀ W, Below w.heap.size w W → Calls Tryz.prog 13 #[.agg cu.toArray, .int .i64 60] W fun e w' => e = .returned (.bool (decide (nodesN u ≤ 60))) ∧ Below W.heap.size W w') := hid fun W h => small_ref u cu 60 W (valRd.below h _ _ hu) (by decide)
  have HEv : Hid (nodesN v ≤ 60 → ∀ W, Below w.heap.size w W → Calls Tryz.prog 24 #[.agg cl.toArray, .agg cv.toArray] W (BytesEPost W (encodeE l v))) := hid fun hs W h => Encode_any l v cl cv W (latRd.below h _ _ hl) (valRd.below h _ _ hv) (fun h1 h2 => Nat.le_trans (put_small hs h1 h2) (by decide))
  have HEu : Hid (nodesN u ≤ 60 → ∀ W, Below w.heap.size w W → Calls Tryz.prog 24 #[.agg ck.toArray, .agg cu.toArray] W (BytesEPost W (encodeE k u))) := hid fun hs W h => Encode_any k u ck cu W (latRd.below h _ _ hk) (valRd.below h _ _ hu) (fun h1 h2 => Nat.le_trans (put_small hs h1 h2) (by decide))
  have HVv : Hid (∀ W, Below w.heap.size w W → Calls Tryz.prog 15 #[.agg cl.toArray, .agg cv.toArray] W fun e w' => e = .returned (.bool (validB l v)) ∧ Below W.heap.size W w') := hid fun W h => valid_any l v cl cv W (latRd.below h _ _ hl) (valRd.below h _ _ hv)
  have HVu : Hid (∀ W, Below w.heap.size w W → Calls Tryz.prog 15 #[.agg ck.toArray, .agg cu.toArray] W fun e w' => e = .returned (.bool (validB k u)) ∧ Below W.heap.size W w') := hid fun W h => valid_any k u ck cu W (latRd.below h _ _ hk) (valRd.below h _ _ hu)
  have HIv : Hid (∀ W, Below w.heap.size w W → Calls Tryz.prog 32 #[.agg cl.toArray, .agg cv.toArray] W fun e w' => e = .returned (.bool (isBotB l v)) ∧ Below W.heap.size W w') := hid fun W h => isBottom_any l v cl cv W (latRd.below h _ _ hl) (valRd.below h _ _ hv)
  have HIu : Hid (∀ W, Below w.heap.size w W → Calls Tryz.prog 32 #[.agg ck.toArray, .agg cu.toArray] W fun e w' => e = .returned (.bool (isBotB k u)) ∧ Below W.heap.size W w') := hid fun W h => isBottom_any k u ck cu W (latRd.below h _ _ hk) (valRd.below h _ _ hu)
  have HNv : Hid (nodesN v ≤ 60 → ∀ W, Below w.heap.size w W → Calls Tryz.prog 23 #[.agg cv.toArray] W fun e w' => e = .returned (.int .i64 (nodesN v : Nat)) ∧ Below W.heap.size W w') := hid fun hs W h => nodes_any _ v cv W (Nat.le_refl _) (valRd.below h _ _ hv) (Nat.le_trans hs (by decide))
  have HNu : Hid (nodesN u ≤ 60 → ∀ W, Below w.heap.size w W → Calls Tryz.prog 23 #[.agg cu.toArray] W fun e w' => e = .returned (.int .i64 (nodesN u : Nat)) ∧ Below W.heap.size W w') := hid fun hs W h => nodes_any _ u cu W (Nat.le_refl _) (valRd.below h _ _ hu) (Nat.le_trans hs (by decide))
  have HAW0 : Hid (∀ W, Below w.heap.size w W → Calls Tryz.prog 14 #[] W fun e w' => e = .returned (.bool true) ∧ Below W.heap.size W w') := hid fun W h => awake_any W (ht.below h)
  have HAW := HAW0
  have HL := hid hl
  have HK := hid hk
  have HV := hid hv
  have HU := hid hu
  obtain ⟨vln, vlp, vlr, rfl, hli, hln, hlp, hlr⟩ := (latRd_iff _ _ _).1 hl
  obtain ⟨aln, cln, rfl, _, mln⟩ := hln.shape
  obtain ⟨alp, clp, rfl, _, mlp⟩ := hlp.shape
  obtain ⟨alr, clr, rfl, _, mlr⟩ := hlr.shape
  obtain ⟨vkn, vkp, vkr, rfl, hki, hkn, hkp, hkr⟩ := (latRd_iff _ _ _).1 hk
  obtain ⟨akn, ckn, rfl, _, mkn⟩ := hkn.shape
  obtain ⟨akp, ckp, rfl, _, mkp⟩ := hkp.shape
  obtain ⟨akr, ckr, rfl, _, mkr⟩ := hkr.shape
  obtain ⟨uan, uap, uae, rfl, gai, gan, gap, gae⟩ := (valRd_iff _ _ _).1 hv
  obtain ⟨ban, dan, rfl, _, nan⟩ := gan.shape
  obtain ⟨bap, dap, rfl, _, nap⟩ := gap.shape
  obtain ⟨bae, dae, rfl, _, nae⟩ := gae.shape
  obtain ⟨ubn, ubp, ube, rfl, gbi, gbn, gbp, gbe⟩ := (valRd_iff _ _ _).1 hu
  obtain ⟨bbn, dbn, rfl, _, nbn⟩ := gbn.shape
  obtain ⟨bbp, dbp, rfl, _, nbp⟩ := gbp.shape
  obtain ⟨bbe, dbe, rfl, _, nbe⟩ := gbe.shape
  clear hl hk hv hu ht hli hln hlp hlr hki hkn hkp hkr gai gan gap gae gbi gbn gbp gbe
  have HNV : Hid (∀ b, decide (nodesN v ≤ 60) = b → b = true → nodesN v ≤ 60) := hid fun b h1 h2 => of_decide_eq_true (h1.trans h2)
  have HNU : Hid (∀ b, decide (nodesN u ≤ 60) = b → b = true → nodesN u ≤ 60) := hid fun b h1 h2 => of_decide_eq_true (h1.trans h2)
  generalize hSv : decide (nodesN v ≤ 60) = Sv at HSv
  generalize hSu : decide (nodesN u ≤ 60) = Su at HSu
  replace HNV := hid (HNV.out _ hSv)
  replace HNU := hid (HNU.out _ hSu)
  clear hSv hSu
  have HB : Hid (∀ x : Ext ((((w.alloc (.cells #[.int .i64 l.kind, .int .i64 l.lo, .int .i64 l.hi, .slice aln l.names.length cln, .slice alp l.parts.length clp, .slice alr l.rules.length clr] 26)).alloc (.cells #[.int .i64 k.kind, .int .i64 k.lo, .int .i64 k.hi, .slice akn k.names.length ckn, .slice akp k.parts.length ckp, .slice akr k.rules.length ckr] 26)).alloc (.cells #[.int .i64 v.n, .slice ban v.names.length dan, .slice bap v.parts.length dap, .slice bae v.entries.length dae] 30)).alloc (.cells #[.int .i64 u.n, .slice bbn u.names.length dbn, .slice bbp u.parts.length dbp, .slice bbe u.entries.length dbe] 30)), Below w.heap.size w x.1) := hid fun x => (((((Below.refl _ _).alloc (Nat.le_refl _) _).alloc (by simp) _).alloc (by simp; omega) _).alloc (by simp; omega) _).trans (x.2.mono (by simp; omega))
  have HBl : Hid (Box ((((w.alloc (.cells #[.int .i64 l.kind, .int .i64 l.lo, .int .i64 l.hi, .slice aln l.names.length cln, .slice alp l.parts.length clp, .slice alr l.rules.length clr] 26)).alloc (.cells #[.int .i64 k.kind, .int .i64 k.lo, .int .i64 k.hi, .slice akn k.names.length ckn, .slice akp k.parts.length ckp, .slice akr k.rules.length ckr] 26)).alloc (.cells #[.int .i64 v.n, .slice ban v.names.length dan, .slice bap v.parts.length dap, .slice bae v.entries.length dae] 30)).alloc (.cells #[.int .i64 u.n, .slice bbn u.names.length dbn, .slice bbp u.parts.length dbp, .slice bbe u.entries.length dbe] 30)) (w.heap.size) #[.int .i64 l.kind, .int .i64 l.lo, .int .i64 l.hi, .slice aln l.names.length cln, .slice alp l.parts.length clp, .slice alr l.rules.length clr]) := hid ((((Box.new _ _ _ _ rfl).alloc _).alloc _).alloc _)
  have HBk : Hid (Box ((((w.alloc (.cells #[.int .i64 l.kind, .int .i64 l.lo, .int .i64 l.hi, .slice aln l.names.length cln, .slice alp l.parts.length clp, .slice alr l.rules.length clr] 26)).alloc (.cells #[.int .i64 k.kind, .int .i64 k.lo, .int .i64 k.hi, .slice akn k.names.length ckn, .slice akp k.parts.length ckp, .slice akr k.rules.length ckr] 26)).alloc (.cells #[.int .i64 v.n, .slice ban v.names.length dan, .slice bap v.parts.length dap, .slice bae v.entries.length dae] 30)).alloc (.cells #[.int .i64 u.n, .slice bbn u.names.length dbn, .slice bbp u.parts.length dbp, .slice bbe u.entries.length dbe] 30)) (w.heap.size + 1) #[.int .i64 k.kind, .int .i64 k.lo, .int .i64 k.hi, .slice akn k.names.length ckn, .slice akp k.parts.length ckp, .slice akr k.rules.length ckr]) := hid (((Box.new _ _ _ _ (by simp)).alloc _).alloc _)
  have HBa : Hid (Box ((((w.alloc (.cells #[.int .i64 l.kind, .int .i64 l.lo, .int .i64 l.hi, .slice aln l.names.length cln, .slice alp l.parts.length clp, .slice alr l.rules.length clr] 26)).alloc (.cells #[.int .i64 k.kind, .int .i64 k.lo, .int .i64 k.hi, .slice akn k.names.length ckn, .slice akp k.parts.length ckp, .slice akr k.rules.length ckr] 26)).alloc (.cells #[.int .i64 v.n, .slice ban v.names.length dan, .slice bap v.parts.length dap, .slice bae v.entries.length dae] 30)).alloc (.cells #[.int .i64 u.n, .slice bbn u.names.length dbn, .slice bbp u.parts.length dbp, .slice bbe u.entries.length dbe] 30)) (w.heap.size + 1 + 1) #[.int .i64 v.n, .slice ban v.names.length dan, .slice bap v.parts.length dap, .slice bae v.entries.length dae]) := hid ((Box.new _ _ _ _ (by simp)).alloc _)
  have HBb : Hid (Box ((((w.alloc (.cells #[.int .i64 l.kind, .int .i64 l.lo, .int .i64 l.hi, .slice aln l.names.length cln, .slice alp l.parts.length clp, .slice alr l.rules.length clr] 26)).alloc (.cells #[.int .i64 k.kind, .int .i64 k.lo, .int .i64 k.hi, .slice akn k.names.length ckn, .slice akp k.parts.length ckp, .slice akr k.rules.length ckr] 26)).alloc (.cells #[.int .i64 v.n, .slice ban v.names.length dan, .slice bap v.parts.length dap, .slice bae v.entries.length dae] 30)).alloc (.cells #[.int .i64 u.n, .slice bbn u.names.length dbn, .slice bbp u.parts.length dbp, .slice bbe u.entries.length dbe] 30)) (w.heap.size + 1 + 1 + 1) #[.int .i64 u.n, .slice bbn u.names.length dbn, .slice bbp u.parts.length dbp, .slice bbe u.entries.length dbe]) := hid (Box.new _ _ _ _ (by simp))
  go_enter Tryz.func11, Tryz.ntmps11
  go_wp2_with fail
  generalize (((w.alloc (.cells #[.int .i64 l.kind, .int .i64 l.lo, .int .i64 l.hi, .slice aln l.names.length cln, .slice alp l.parts.length clp, .slice alr l.rules.length clr] 26)).alloc (.cells #[.int .i64 k.kind, .int .i64 k.lo, .int .i64 k.hi, .slice akn k.names.length ckn, .slice akp k.parts.length ckp, .slice akr k.rules.length ckr] 26)).alloc (.cells #[.int .i64 v.n, .slice ban v.names.length dan, .slice bap v.parts.length dap, .slice bae v.entries.length dae] 30)).alloc (.cells #[.int .i64 u.n, .slice bbn u.names.length dbn, .slice bbp u.parts.length dbp, .slice bbe u.entries.length dbe] 30) = W4 at HB HBl HBk HBa HBb ⊢
  obtain ⟨x0, hx⟩ := ext_self W4
  rw [hx]
  clear hx
  replace HSv := hid (ext_of HB.out HSv.out)
  replace HSu := hid (ext_of HB.out HSu.out)
  replace HAW := hid (ext_of HB.out HAW.out)
  have l0 : ∀ x : Ext W4, x.1.cell? ⟨w.heap.size, 0, none⟩ = some (.int .i64 l.kind) := fun x => (HBl.out.ext x) 0 _ rfl
  have l1 : ∀ x : Ext W4, x.1.cell? ⟨w.heap.size, 1, none⟩ = some (.int .i64 l.lo) := fun x => (HBl.out.ext x) 1 _ rfl
  have l2 : ∀ x : Ext W4, x.1.cell? ⟨w.heap.size, 2, none⟩ = some (.int .i64 l.hi) := fun x => (HBl.out.ext x) 2 _ rfl
  have l3 : ∀ x : Ext W4, x.1.cell? ⟨w.heap.size, 3, none⟩ = some (.slice aln l.names.length cln) := fun x => (HBl.out.ext x) 3 _ rfl
  have l4 : ∀ x : Ext W4, x.1.cell? ⟨w.heap.size, 4, none⟩ = some (.slice alp l.parts.length clp) := fun x => (HBl.out.ext x) 4 _ rfl
  have l5 : ∀ x : Ext W4, x.1.cell? ⟨w.heap.size, 5, none⟩ = some (.slice alr l.rules.length clr) := fun x => (HBl.out.ext x) 5 _ rfl
  have k0 : ∀ x : Ext W4, x.1.cell? ⟨w.heap.size + 1, 0, none⟩ = some (.int .i64 k.kind) := fun x => (HBk.out.ext x) 0 _ rfl
  have k1 : ∀ x : Ext W4, x.1.cell? ⟨w.heap.size + 1, 1, none⟩ = some (.int .i64 k.lo) := fun x => (HBk.out.ext x) 1 _ rfl
  have k2 : ∀ x : Ext W4, x.1.cell? ⟨w.heap.size + 1, 2, none⟩ = some (.int .i64 k.hi) := fun x => (HBk.out.ext x) 2 _ rfl
  have k3 : ∀ x : Ext W4, x.1.cell? ⟨w.heap.size + 1, 3, none⟩ = some (.slice akn k.names.length ckn) := fun x => (HBk.out.ext x) 3 _ rfl
  have k4 : ∀ x : Ext W4, x.1.cell? ⟨w.heap.size + 1, 4, none⟩ = some (.slice akp k.parts.length ckp) := fun x => (HBk.out.ext x) 4 _ rfl
  have k5 : ∀ x : Ext W4, x.1.cell? ⟨w.heap.size + 1, 5, none⟩ = some (.slice akr k.rules.length ckr) := fun x => (HBk.out.ext x) 5 _ rfl
  have a0 : ∀ x : Ext W4, x.1.cell? ⟨w.heap.size + 1 + 1, 0, none⟩ = some (.int .i64 v.n) := fun x => (HBa.out.ext x) 0 _ rfl
  have a1 : ∀ x : Ext W4, x.1.cell? ⟨w.heap.size + 1 + 1, 1, none⟩ = some (.slice ban v.names.length dan) := fun x => (HBa.out.ext x) 1 _ rfl
  have a2 : ∀ x : Ext W4, x.1.cell? ⟨w.heap.size + 1 + 1, 2, none⟩ = some (.slice bap v.parts.length dap) := fun x => (HBa.out.ext x) 2 _ rfl
  have a3 : ∀ x : Ext W4, x.1.cell? ⟨w.heap.size + 1 + 1, 3, none⟩ = some (.slice bae v.entries.length dae) := fun x => (HBa.out.ext x) 3 _ rfl
  have b0 : ∀ x : Ext W4, x.1.cell? ⟨w.heap.size + 1 + 1 + 1, 0, none⟩ = some (.int .i64 u.n) := fun x => (HBb.out.ext x) 0 _ rfl
  have b1 : ∀ x : Ext W4, x.1.cell? ⟨w.heap.size + 1 + 1 + 1, 1, none⟩ = some (.slice bbn u.names.length dbn) := fun x => (HBb.out.ext x) 1 _ rfl
  have b2 : ∀ x : Ext W4, x.1.cell? ⟨w.heap.size + 1 + 1 + 1, 2, none⟩ = some (.slice bbp u.parts.length dbp) := fun x => (HBb.out.ext x) 2 _ rfl
  have b3 : ∀ x : Ext W4, x.1.cell? ⟨w.heap.size + 1 + 1 + 1, 3, none⟩ = some (.slice bbe u.entries.length dbe) := fun x => (HBb.out.ext x) 3 _ rfl
  refine ((HSv.out _)).mono ?_
  rintro e _ ⟨rfl, x, rfl⟩
  cases Sv
  · go_wp2_with fail
    refine ((HAW.out _)).mono ?_
    rintro e _ ⟨rfl, x, rfl⟩
    go_wp2_with fail
    go_ret
    exact ⟨rfl, HB.out _⟩
  go_wp2_with fail
  refine ((HSu.out _)).mono ?_
  rintro e _ ⟨rfl, x1, rfl⟩
  cases Su
  · go_wp2_with fail
    refine ((HAW.out _)).mono ?_
    rintro e _ ⟨rfl, x, rfl⟩
    go_wp2_with fail
    go_ret
    exact ⟨rfl, HB.out _⟩
  have HN1 : Hid (nodesN v ≤ 60) := hid (HNV.out (by trivial))
  have HN2 : Hid (nodesN u ≤ 60) := hid (HNU.out (by trivial))
  have HLP : Hid (latRd (((x1.1.alloc (.cells #[.string (s1 121), .string (s1 120)] 9)).alloc (.cells #[.int .i64 l.kind, .int .i64 l.lo, .int .i64 l.hi, .slice aln l.names.length cln, .slice alp l.parts.length clp, .slice alr l.rules.length clr, .int .i64 k.kind, .int .i64 k.lo, .int .i64 k.hi, .slice akn k.names.length ckn, .slice akp k.parts.length ckp, .slice akr k.rules.length ckr] 26)).alloc (.cells #[.int .i64 6, .int .i64 0, .int .i64 0, .slice (some ⟨x1.1.heap.size, 0, none⟩) 2 2, .slice (some ⟨x1.1.heap.size + 1, 0, none⟩) 2 2, .slice none 0 0] 26)) (pairL (s1 121) (s1 120) l k) [.int .i64 6, .int .i64 0, .int .i64 0, .slice (some ⟨x1.1.heap.size, 0, none⟩) 2 2, .slice (some ⟨x1.1.heap.size + 1, 0, none⟩) 2 2, .slice none 0 0]) := hid (pair_lat x1.1 l k [.int .i64 l.kind, .int .i64 l.lo, .int .i64 l.hi, .slice aln l.names.length cln, .slice alp l.parts.length clp, .slice alr l.rules.length clr] [.int .i64 k.kind, .int .i64 k.lo, .int .i64 k.hi, .slice akn k.names.length ckn, .slice akp k.parts.length ckp, .slice akr k.rules.length ckr] (latRd.below (HB.out _) _ _ HL.out) (latRd.below (HB.out _) _ _ HK.out) 121 120 _)
  have HUP : Hid (Below x1.1.heap.size x1.1 (((x1.1.alloc (.cells #[.string (s1 121), .string (s1 120)] 9)).alloc (.cells #[.int .i64 l.kind, .int .i64 l.lo, .int .i64 l.hi, .slice aln l.names.length cln, .slice alp l.parts.length clp, .slice alr l.rules.length clr, .int .i64 k.kind, .int .i64 k.lo, .int .i64 k.hi, .slice akn k.names.length ckn, .slice akp k.parts.length ckp, .slice akr k.rules.length ckr] 26)).alloc (.cells #[.int .i64 6, .int .i64 0, .int .i64 0, .slice (some ⟨x1.1.heap.size, 0, none⟩) 2 2, .slice (some ⟨x1.1.heap.size + 1, 0, none⟩) 2 2, .slice none 0 0] 26))) := hid ((((Below.refl _ _).alloc (Nat.le_refl _) _).alloc (by simp) _).alloc (by simp; omega) _)
  have HBp : Hid (Box (((x1.1.alloc (.cells #[.string (s1 121), .string (s1 120)] 9)).alloc (.cells #[.int .i64 l.kind, .int .i64 l.lo, .int .i64 l.hi, .slice aln l.names.length cln, .slice alp l.parts.length clp, .slice alr l.rules.length clr, .int .i64 k.kind, .int .i64 k.lo, .int .i64 k.hi, .slice akn k.names.length ckn, .slice akp k.parts.length ckp, .slice akr k.rules.length ckr] 26)).alloc (.cells #[.int .i64 6, .int .i64 0, .int .i64 0, .slice (some ⟨x1.1.heap.size, 0, none⟩) 2 2, .slice (some ⟨x1.1.heap.size + 1, 0, none⟩) 2 2, .slice none 0 0] 26)) (x1.1.heap.size + 1 + 1) #[.int .i64 6, .int .i64 0, .int .i64 0, .slice (some ⟨x1.1.heap.size, 0, none⟩) 2 2, .slice (some ⟨x1.1.heap.size + 1, 0, none⟩) 2 2, .slice none 0 0]) := hid (Box.new _ _ _ _ (by simp))
  clear HNV HNU HSv HSu HAW
  have l0' : ∀ O, (x1.1.alloc O).cell? ⟨w.heap.size, 0, none⟩ = some (.int .i64 l.kind) := fun O => cell_alloc (l0 x1) O
  have l1' : ∀ O, (x1.1.alloc O).cell? ⟨w.heap.size, 1, none⟩ = some (.int .i64 l.lo) := fun O => cell_alloc (l1 x1) O
  have l2' : ∀ O, (x1.1.alloc O).cell? ⟨w.heap.size, 2, none⟩ = some (.int .i64 l.hi) := fun O => cell_alloc (l2 x1) O
  have l3' : ∀ O, (x1.1.alloc O).cell? ⟨w.heap.size, 3, none⟩ = some (.slice aln l.names.length cln) := fun O => cell_alloc (l3 x1) O
  have l4' : ∀ O, (x1.1.alloc O).cell? ⟨w.heap.size, 4, none⟩ = some (.slice alp l.parts.length clp) := fun O => cell_alloc (l4 x1) O
  have l5' : ∀ O, (x1.1.alloc O).cell? ⟨w.heap.size, 5, none⟩ = some (.slice alr l.rules.length clr) := fun O => cell_alloc (l5 x1) O
  have k0' : ∀ O, (x1.1.alloc O).cell? ⟨w.heap.size + 1, 0, none⟩ = some (.int .i64 k.kind) := fun O => cell_alloc (k0 x1) O
  have k1' : ∀ O, (x1.1.alloc O).cell? ⟨w.heap.size + 1, 1, none⟩ = some (.int .i64 k.lo) := fun O => cell_alloc (k1 x1) O
  have k2' : ∀ O, (x1.1.alloc O).cell? ⟨w.heap.size + 1, 2, none⟩ = some (.int .i64 k.hi) := fun O => cell_alloc (k2 x1) O
  have k3' : ∀ O, (x1.1.alloc O).cell? ⟨w.heap.size + 1, 3, none⟩ = some (.slice akn k.names.length ckn) := fun O => cell_alloc (k3 x1) O
  have k4' : ∀ O, (x1.1.alloc O).cell? ⟨w.heap.size + 1, 4, none⟩ = some (.slice akp k.parts.length ckp) := fun O => cell_alloc (k4 x1) O
  have k5' : ∀ O, (x1.1.alloc O).cell? ⟨w.heap.size + 1, 5, none⟩ = some (.slice akr k.rules.length ckr) := fun O => cell_alloc (k5 x1) O
  go_wp2_with fail
  clear l0' l1' l2' l3' l4' l5' k0' k1' k2' k3' k4' k5'
  have hs : (((x1.1.alloc (.cells #[.string ⟨#[121]⟩, .string ⟨#[120]⟩] 9)).alloc (.cells #[.int .i64 l.kind, .int .i64 l.lo, .int .i64 l.hi, .slice aln l.names.length cln, .slice alp l.parts.length clp, .slice alr l.rules.length clr, .int .i64 k.kind, .int .i64 k.lo, .int .i64 k.hi, .slice akn k.names.length ckn, .slice akp k.parts.length ckp, .slice akr k.rules.length ckr] 26)).alloc (.cells #[.int .i64 6, .int .i64 0, .int .i64 0, .slice (some ⟨x1.1.heap.size, 0, none⟩) 2 2, .slice (some ⟨x1.1.heap.size + 1, 0, none⟩) 2 2, .slice none 0 0] 26)) = (((x1.1.alloc (.cells #[.string (s1 121), .string (s1 120)] 9)).alloc (.cells #[.int .i64 l.kind, .int .i64 l.lo, .int .i64 l.hi, .slice aln l.names.length cln, .slice alp l.parts.length clp, .slice alr l.rules.length clr, .int .i64 k.kind, .int .i64 k.lo, .int .i64 k.hi, .slice akn k.names.length ckn, .slice akp k.parts.length ckp, .slice akr k.rules.length ckr] 26)).alloc (.cells #[.int .i64 6, .int .i64 0, .int .i64 0, .slice (some ⟨x1.1.heap.size, 0, none⟩) 2 2, .slice (some ⟨x1.1.heap.size + 1, 0, none⟩) 2 2, .slice none 0 0] 26)) := rfl
  rw [hs]
  clear hs
  generalize ((x1.1.alloc (.cells #[.string (s1 121), .string (s1 120)] 9)).alloc (.cells #[.int .i64 l.kind, .int .i64 l.lo, .int .i64 l.hi, .slice aln l.names.length cln, .slice alp l.parts.length clp, .slice alr l.rules.length clr, .int .i64 k.kind, .int .i64 k.lo, .int .i64 k.hi, .slice akn k.names.length ckn, .slice akp k.parts.length ckp, .slice akr k.rules.length ckr] 26)).alloc (.cells #[.int .i64 6, .int .i64 0, .int .i64 0, .slice (some ⟨x1.1.heap.size, 0, none⟩) 2 2, .slice (some ⟨x1.1.heap.size + 1, 0, none⟩) 2 2, .slice none 0 0] 26) = W7 at HLP HUP HBp ⊢
  have HK7 : Hid (Below W4.heap.size W4 W7) := hid (Ext.trans_ x1 HUP.out)
  generalize x1.1.heap.size = N at HLP HUP HBp ⊢
  replace HB : Hid (∀ x : Ext W7, Below w.heap.size w x.1) := hid fun x => (HB.out ⟨W7, HK7.out⟩).trans (x.2.mono (HB.out ⟨W7, HK7.out⟩).size)
  replace HBl := hid (HBl.out.below HK7.out)
  replace HBk := hid (HBk.out.below HK7.out)
  replace HBa := hid (HBa.out.below HK7.out)
  replace HBb := hid (HBb.out.below HK7.out)
  clear l0 l1 l2 l3 l4 l5 k0 k1 k2 k3 k4 k5 a0 a1 a2 a3 b0 b1 b2 b3 HK7 HUP x1 x x0
  obtain ⟨x0, hx⟩ := ext_self W7
  rw [hx]
  clear hx
  have HCK : Hid (∀ x : Ext W7, Calls Tryz.prog 31 #[.agg #[.int .i64 6, .int .i64 0, .int .i64 0, .slice (some ⟨N, 0, none⟩) 2 2, .slice (some ⟨N + 1, 0, none⟩) 2 2, .slice none 0 0]] x.1 fun e w' => e = .returned (.int .i64 (chkE (pairL (s1 121) (s1 120) l k))) ∧ ∃ y : Ext W7, w' = y.1) := hid fun x => ext_call x (rCheck_any _ _ x.1 (latRd.below x.2 _ _ HLP.out))
  have HAW := hid (ext_of HB.out HAW0.out)
  refine (HCK.out _).mono ?_
  rintro e _ ⟨rfl, x1, rfl⟩
  clear HCK x0
  by_cases hc : chkE (pairL (s1 121) (s1 120) l k) = 0
  case neg =>
    have hcb : (chkE (pairL (s1 121) (s1 120) l k) != 0) = true := by rw [bne_iff_ne]; exact hc
    generalize chkE (pairL (s1 121) (s1 120) l k) = CE at hcb ⊢
    clear hc
    go_wp2_with fail
    refine ((HAW.out _)).mono ?_
    rintro e _ ⟨rfl, x, rfl⟩
    go_wp2_with fail
    go_ret
    exact ⟨rfl, HB.out _⟩
  have HVX : Hid (valRd ((x1.1.alloc (.cells #[.int .i64 v.n, .slice ban v.names.length dan, .slice bap v.parts.length dap, .slice bae v.entries.length dae, .int .i64 u.n, .slice bbn u.names.length dbn, .slice bbp u.parts.length dbp, .slice bbe u.entries.length dbe] 30)).alloc (.cells #[.int .i64 0, .slice none 0 0, .slice (some ⟨x1.1.heap.size, 0, none⟩) 2 2, .slice none 0 0] 30)) (pairV v u) [.int .i64 0, .slice none 0 0, .slice (some ⟨x1.1.heap.size, 0, none⟩) 2 2, .slice none 0 0]) := hid (pair_val x1.1 v u [.int .i64 v.n, .slice ban v.names.length dan, .slice bap v.parts.length dap, .slice bae v.entries.length dae] [.int .i64 u.n, .slice bbn u.names.length dbn, .slice bbp u.parts.length dbp, .slice bbe u.entries.length dbe] (valRd.below (HB.out _) _ _ HV.out) (valRd.below (HB.out _) _ _ HU.out) _)
  have HUP : Hid (Below x1.1.heap.size x1.1 ((x1.1.alloc (.cells #[.int .i64 v.n, .slice ban v.names.length dan, .slice bap v.parts.length dap, .slice bae v.entries.length dae, .int .i64 u.n, .slice bbn u.names.length dbn, .slice bbp u.parts.length dbp, .slice bbe u.entries.length dbe] 30)).alloc (.cells #[.int .i64 0, .slice none 0 0, .slice (some ⟨x1.1.heap.size, 0, none⟩) 2 2, .slice none 0 0] 30))) := hid (((Below.refl _ _).alloc (Nat.le_refl _) _).alloc (by simp) _)
  have HBx : Hid (Box ((x1.1.alloc (.cells #[.int .i64 v.n, .slice ban v.names.length dan, .slice bap v.parts.length dap, .slice bae v.entries.length dae, .int .i64 u.n, .slice bbn u.names.length dbn, .slice bbp u.parts.length dbp, .slice bbe u.entries.length dbe] 30)).alloc (.cells #[.int .i64 0, .slice none 0 0, .slice (some ⟨x1.1.heap.size, 0, none⟩) 2 2, .slice none 0 0] 30)) (x1.1.heap.size + 1) #[.int .i64 0, .slice none 0 0, .slice (some ⟨x1.1.heap.size, 0, none⟩) 2 2, .slice none 0 0]) := hid (Box.new _ _ _ _ (by simp))
  have HCZ := hid hc
  have l0 : ∀ x : Ext W7, x.1.cell? ⟨w.heap.size, 0, none⟩ = some (.int .i64 l.kind) := fun x => (HBl.out.ext x) 0 _ rfl
  have l1 : ∀ x : Ext W7, x.1.cell? ⟨w.heap.size, 1, none⟩ = some (.int .i64 l.lo) := fun x => (HBl.out.ext x) 1 _ rfl
  have l2 : ∀ x : Ext W7, x.1.cell? ⟨w.heap.size, 2, none⟩ = some (.int .i64 l.hi) := fun x => (HBl.out.ext x) 2 _ rfl
  have l3 : ∀ x : Ext W7, x.1.cell? ⟨w.heap.size, 3, none⟩ = some (.slice aln l.names.length cln) := fun x => (HBl.out.ext x) 3 _ rfl
  have l4 : ∀ x : Ext W7, x.1.cell? ⟨w.heap.size, 4, none⟩ = some (.slice alp l.parts.length clp) := fun x => (HBl.out.ext x) 4 _ rfl
  have l5 : ∀ x : Ext W7, x.1.cell? ⟨w.heap.size, 5, none⟩ = some (.slice alr l.rules.length clr) := fun x => (HBl.out.ext x) 5 _ rfl
  have k0 : ∀ x : Ext W7, x.1.cell? ⟨w.heap.size + 1, 0, none⟩ = some (.int .i64 k.kind) := fun x => (HBk.out.ext x) 0 _ rfl
  have k1 : ∀ x : Ext W7, x.1.cell? ⟨w.heap.size + 1, 1, none⟩ = some (.int .i64 k.lo) := fun x => (HBk.out.ext x) 1 _ rfl
  have k2 : ∀ x : Ext W7, x.1.cell? ⟨w.heap.size + 1, 2, none⟩ = some (.int .i64 k.hi) := fun x => (HBk.out.ext x) 2 _ rfl
  have k3 : ∀ x : Ext W7, x.1.cell? ⟨w.heap.size + 1, 3, none⟩ = some (.slice akn k.names.length ckn) := fun x => (HBk.out.ext x) 3 _ rfl
  have k4 : ∀ x : Ext W7, x.1.cell? ⟨w.heap.size + 1, 4, none⟩ = some (.slice akp k.parts.length ckp) := fun x => (HBk.out.ext x) 4 _ rfl
  have k5 : ∀ x : Ext W7, x.1.cell? ⟨w.heap.size + 1, 5, none⟩ = some (.slice akr k.rules.length ckr) := fun x => (HBk.out.ext x) 5 _ rfl
  have a0 : ∀ x : Ext W7, x.1.cell? ⟨w.heap.size + 1 + 1, 0, none⟩ = some (.int .i64 v.n) := fun x => (HBa.out.ext x) 0 _ rfl
  have a1 : ∀ x : Ext W7, x.1.cell? ⟨w.heap.size + 1 + 1, 1, none⟩ = some (.slice ban v.names.length dan) := fun x => (HBa.out.ext x) 1 _ rfl
  have a2 : ∀ x : Ext W7, x.1.cell? ⟨w.heap.size + 1 + 1, 2, none⟩ = some (.slice bap v.parts.length dap) := fun x => (HBa.out.ext x) 2 _ rfl
  have a3 : ∀ x : Ext W7, x.1.cell? ⟨w.heap.size + 1 + 1, 3, none⟩ = some (.slice bae v.entries.length dae) := fun x => (HBa.out.ext x) 3 _ rfl
  have b0 : ∀ x : Ext W7, x.1.cell? ⟨w.heap.size + 1 + 1 + 1, 0, none⟩ = some (.int .i64 u.n) := fun x => (HBb.out.ext x) 0 _ rfl
  have b1 : ∀ x : Ext W7, x.1.cell? ⟨w.heap.size + 1 + 1 + 1, 1, none⟩ = some (.slice bbn u.names.length dbn) := fun x => (HBb.out.ext x) 1 _ rfl
  have b2 : ∀ x : Ext W7, x.1.cell? ⟨w.heap.size + 1 + 1 + 1, 2, none⟩ = some (.slice bbp u.parts.length dbp) := fun x => (HBb.out.ext x) 2 _ rfl
  have b3 : ∀ x : Ext W7, x.1.cell? ⟨w.heap.size + 1 + 1 + 1, 3, none⟩ = some (.slice bbe u.entries.length dbe) := fun x => (HBb.out.ext x) 3 _ rfl
  have p0 : ∀ x : Ext W7, x.1.cell? ⟨N + 1 + 1, 0, none⟩ = some (.int .i64 6) := fun x => (HBp.out.ext x) 0 _ rfl
  have p1 : ∀ x : Ext W7, x.1.cell? ⟨N + 1 + 1, 1, none⟩ = some (.int .i64 0) := fun x => (HBp.out.ext x) 1 _ rfl
  have p2 : ∀ x : Ext W7, x.1.cell? ⟨N + 1 + 1, 2, none⟩ = some (.int .i64 0) := fun x => (HBp.out.ext x) 2 _ rfl
  have p3 : ∀ x : Ext W7, x.1.cell? ⟨N + 1 + 1, 3, none⟩ = some (.slice (some ⟨N, 0, none⟩) 2 2) := fun x => (HBp.out.ext x) 3 _ rfl
  have p4 : ∀ x : Ext W7, x.1.cell? ⟨N + 1 + 1, 4, none⟩ = some (.slice (some ⟨N + 1, 0, none⟩) 2 2) := fun x => (HBp.out.ext x) 4 _ rfl
  have p5 : ∀ x : Ext W7, x.1.cell? ⟨N + 1 + 1, 5, none⟩ = some (.slice none 0 0) := fun x => (HBp.out.ext x) 5 _ rfl
  rw [hc]
  clear hc HAW
  go_wp2_with fail
  generalize (x1.1.alloc (.cells #[.int .i64 v.n, .slice ban v.names.length dan, .slice bap v.parts.length dap, .slice bae v.entries.length dae, .int .i64 u.n, .slice bbn u.names.length dbn, .slice bbp u.parts.length dbp, .slice bbe u.entries.length dbe] 30)).alloc (.cells #[.int .i64 0, .slice none 0 0, .slice (some ⟨x1.1.heap.size, 0, none⟩) 2 2, .slice none 0 0] 30) = W9 at HVX HUP HBx ⊢
  have HK9 : Hid (Below W7.heap.size W7 W9) := hid (Ext.trans_ x1 HUP.out)
  generalize x1.1.heap.size = M at HVX HUP HBx ⊢
  replace HB : Hid (∀ x : Ext W9, Below w.heap.size w x.1) := hid fun x => (HB.out ⟨W9, HK9.out⟩).trans (x.2.mono (HB.out ⟨W9, HK9.out⟩).size)
  replace HLP : Hid (latRd W9 (pairL (s1 121) (s1 120) l k) [.int .i64 6, .int .i64 0, .int .i64 0, .slice (some ⟨N, 0, none⟩) 2 2, .slice (some ⟨N + 1, 0, none⟩) 2 2, .slice none 0 0]) := hid (latRd.below HK9.out _ _ HLP.out)
  replace HBl := hid (HBl.out.below HK9.out)
  replace HBk := hid (HBk.out.below HK9.out)
  replace HBa := hid (HBa.out.below HK9.out)
  replace HBb := hid (HBb.out.below HK9.out)
  replace HBp := hid (HBp.out.below HK9.out)
  clear l0 l1 l2 l3 l4 l5 k0 k1 k2 k3 k4 k5 a0 a1 a2 a3 b0 b1 b2 b3 p0 p1 p2 p3 p4 p5 HK9 HUP x1
  obtain ⟨x1, hx⟩ := ext_self W9
  rw [hx]
  clear hx
  have l0 : ∀ x : Ext W9, x.1.cell? ⟨w.heap.size, 0, none⟩ = some (.int .i64 l.kind) := fun x => (HBl.out.ext x) 0 _ rfl
  have l1 : ∀ x : Ext W9, x.1.cell? ⟨w.heap.size, 1, none⟩ = some (.int .i64 l.lo) := fun x => (HBl.out.ext x) 1 _ rfl
  have l2 : ∀ x : Ext W9, x.1.cell? ⟨w.heap.size, 2, none⟩ = some (.int .i64 l.hi) := fun x => (HBl.out.ext x) 2 _ rfl
  have l3 : ∀ x : Ext W9, x.1.cell? ⟨w.heap.size, 3, none⟩ = some (.slice aln l.names.length cln) := fun x => (HBl.out.ext x) 3 _ rfl
  have l4 : ∀ x : Ext W9, x.1.cell? ⟨w.heap.size, 4, none⟩ = some (.slice alp l.parts.length clp) := fun x => (HBl.out.ext x) 4 _ rfl
  have l5 : ∀ x : Ext W9, x.1.cell? ⟨w.heap.size, 5, none⟩ = some (.slice alr l.rules.length clr) := fun x => (HBl.out.ext x) 5 _ rfl
  have k0 : ∀ x : Ext W9, x.1.cell? ⟨w.heap.size + 1, 0, none⟩ = some (.int .i64 k.kind) := fun x => (HBk.out.ext x) 0 _ rfl
  have k1 : ∀ x : Ext W9, x.1.cell? ⟨w.heap.size + 1, 1, none⟩ = some (.int .i64 k.lo) := fun x => (HBk.out.ext x) 1 _ rfl
  have k2 : ∀ x : Ext W9, x.1.cell? ⟨w.heap.size + 1, 2, none⟩ = some (.int .i64 k.hi) := fun x => (HBk.out.ext x) 2 _ rfl
  have k3 : ∀ x : Ext W9, x.1.cell? ⟨w.heap.size + 1, 3, none⟩ = some (.slice akn k.names.length ckn) := fun x => (HBk.out.ext x) 3 _ rfl
  have k4 : ∀ x : Ext W9, x.1.cell? ⟨w.heap.size + 1, 4, none⟩ = some (.slice akp k.parts.length ckp) := fun x => (HBk.out.ext x) 4 _ rfl
  have k5 : ∀ x : Ext W9, x.1.cell? ⟨w.heap.size + 1, 5, none⟩ = some (.slice akr k.rules.length ckr) := fun x => (HBk.out.ext x) 5 _ rfl
  have a0 : ∀ x : Ext W9, x.1.cell? ⟨w.heap.size + 1 + 1, 0, none⟩ = some (.int .i64 v.n) := fun x => (HBa.out.ext x) 0 _ rfl
  have a1 : ∀ x : Ext W9, x.1.cell? ⟨w.heap.size + 1 + 1, 1, none⟩ = some (.slice ban v.names.length dan) := fun x => (HBa.out.ext x) 1 _ rfl
  have a2 : ∀ x : Ext W9, x.1.cell? ⟨w.heap.size + 1 + 1, 2, none⟩ = some (.slice bap v.parts.length dap) := fun x => (HBa.out.ext x) 2 _ rfl
  have a3 : ∀ x : Ext W9, x.1.cell? ⟨w.heap.size + 1 + 1, 3, none⟩ = some (.slice bae v.entries.length dae) := fun x => (HBa.out.ext x) 3 _ rfl
  have b0 : ∀ x : Ext W9, x.1.cell? ⟨w.heap.size + 1 + 1 + 1, 0, none⟩ = some (.int .i64 u.n) := fun x => (HBb.out.ext x) 0 _ rfl
  have b1 : ∀ x : Ext W9, x.1.cell? ⟨w.heap.size + 1 + 1 + 1, 1, none⟩ = some (.slice bbn u.names.length dbn) := fun x => (HBb.out.ext x) 1 _ rfl
  have b2 : ∀ x : Ext W9, x.1.cell? ⟨w.heap.size + 1 + 1 + 1, 2, none⟩ = some (.slice bbp u.parts.length dbp) := fun x => (HBb.out.ext x) 2 _ rfl
  have b3 : ∀ x : Ext W9, x.1.cell? ⟨w.heap.size + 1 + 1 + 1, 3, none⟩ = some (.slice bbe u.entries.length dbe) := fun x => (HBb.out.ext x) 3 _ rfl
  have p0 : ∀ x : Ext W9, x.1.cell? ⟨N + 1 + 1, 0, none⟩ = some (.int .i64 6) := fun x => (HBp.out.ext x) 0 _ rfl
  have p1 : ∀ x : Ext W9, x.1.cell? ⟨N + 1 + 1, 1, none⟩ = some (.int .i64 0) := fun x => (HBp.out.ext x) 1 _ rfl
  have p2 : ∀ x : Ext W9, x.1.cell? ⟨N + 1 + 1, 2, none⟩ = some (.int .i64 0) := fun x => (HBp.out.ext x) 2 _ rfl
  have p3 : ∀ x : Ext W9, x.1.cell? ⟨N + 1 + 1, 3, none⟩ = some (.slice (some ⟨N, 0, none⟩) 2 2) := fun x => (HBp.out.ext x) 3 _ rfl
  have p4 : ∀ x : Ext W9, x.1.cell? ⟨N + 1 + 1, 4, none⟩ = some (.slice (some ⟨N + 1, 0, none⟩) 2 2) := fun x => (HBp.out.ext x) 4 _ rfl
  have p5 : ∀ x : Ext W9, x.1.cell? ⟨N + 1 + 1, 5, none⟩ = some (.slice none 0 0) := fun x => (HBp.out.ext x) 5 _ rfl
  have x0 : ∀ x : Ext W9, x.1.cell? ⟨M + 1, 0, none⟩ = some (.int .i64 0) := fun x => (HBx.out.ext x) 0 _ rfl
  have x1 : ∀ x : Ext W9, x.1.cell? ⟨M + 1, 1, none⟩ = some (.slice none 0 0) := fun x => (HBx.out.ext x) 1 _ rfl
  have x2 : ∀ x : Ext W9, x.1.cell? ⟨M + 1, 2, none⟩ = some (.slice (some ⟨M, 0, none⟩) 2 2) := fun x => (HBx.out.ext x) 2 _ rfl
  have x3 : ∀ x : Ext W9, x.1.cell? ⟨M + 1, 3, none⟩ = some (.slice none 0 0) := fun x => (HBx.out.ext x) 3 _ rfl
  have HPV := hid (pair_valid HCZ.out v u).2
  have HPI := hid (pair_bot HCZ.out v u)
  have HPE := hid (pair_enc HCZ.out v u)
  have HPN := hid (pair_nodes v u)
  have HVX1 : Hid (∀ x : Ext W9, Calls Tryz.prog 15 #[.agg #[.int .i64 6, .int .i64 0, .int .i64 0, .slice (some ⟨N, 0, none⟩) 2 2, .slice (some ⟨N + 1, 0, none⟩) 2 2, .slice none 0 0], .agg #[.int .i64 0, .slice none 0 0, .slice (some ⟨M, 0, none⟩) 2 2, .slice none 0 0]] x.1 fun e w' => e = .returned (.bool (validB l v && validB k u)) ∧ ∃ y : Ext W9, w' = y.1) := hid fun x => ext_call x (by rw [← HPV.out]; exact valid_any _ _ _ _ x.1 (latRd.below x.2 _ _ HLP.out) (valRd.below x.2 _ _ HVX.out))
  have HIX1 : Hid (∀ x : Ext W9, Calls Tryz.prog 32 #[.agg #[.int .i64 6, .int .i64 0, .int .i64 0, .slice (some ⟨N, 0, none⟩) 2 2, .slice (some ⟨N + 1, 0, none⟩) 2 2, .slice none 0 0], .agg #[.int .i64 0, .slice none 0 0, .slice (some ⟨M, 0, none⟩) 2 2, .slice none 0 0]] x.1 fun e w' => e = .returned (.bool (isBotB l v && isBotB k u)) ∧ ∃ y : Ext W9, w' = y.1) := hid fun x => ext_call x (by rw [← HPI.out]; exact isBottom_any _ _ _ _ x.1 (latRd.below x.2 _ _ HLP.out) (valRd.below x.2 _ _ HVX.out))
  have HNX1 : Hid (∀ x : Ext W9, Calls Tryz.prog 23 #[.agg #[.int .i64 0, .slice none 0 0, .slice (some ⟨M, 0, none⟩) 2 2, .slice none 0 0]] x.1 fun e w' => e = .returned (.int .i64 (1 + (nodesN v : Nat) + (nodesN u : Nat))) ∧ ∃ y : Ext W9, w' = y.1) := hid fun x => ext_call x (by
    have h := nodes_any _ (pairV v u) _ x.1 (Nat.le_refl _) (valRd.below x.2 _ _ HVX.out) (by rw [HPN.out]; have := HN1.out; have := HN2.out; omega)
    rw [HPN.out] at h
    push_cast at h
    exact h)
  have HEX : Hid (∀ x : Ext W9, Calls Tryz.prog 24 #[.agg #[.int .i64 6, .int .i64 0, .int .i64 0, .slice (some ⟨N, 0, none⟩) 2 2, .slice (some ⟨N + 1, 0, none⟩) 2 2, .slice none 0 0], .agg #[.int .i64 0, .slice none 0 0, .slice (some ⟨M, 0, none⟩) 2 2, .slice none 0 0]] x.1 (BytesEPost x.1 (encodeE (pairL (s1 121) (s1 120) l k) (pairV v u)))) := hid fun x => Encode_any _ _ _ _ x.1 (latRd.below x.2 _ _ HLP.out) (valRd.below x.2 _ _ HVX.out) (fun h1 h2 => by
    have he := (pair_valid HCZ.out v u).1
    rw [h2, eq_comm, Bool.and_eq_true] at he
    have a := put_small HN1.out (pair_chk HCZ.out).1 he.1
    have b := put_small HN2.out (pair_chk HCZ.out).2 he.2
    rw [pair_put, List.length_append]
    omega)
  have HVV := hid (ext_of HB.out HVv.out)
  have HVU := hid (ext_of HB.out HVu.out)
  have HIV := hid (ext_of HB.out HIv.out)
  have HIU := hid (ext_of HB.out HIu.out)
  have HNV := hid (ext_of HB.out (HNv.out HN1.out))
  have HNU := hid (ext_of HB.out (HNu.out HN2.out))
  have HL1 : Hid (nodesN v ≤ 60 → chkE l = 0 → elemB l v = true → (putV l v).length ≤ 2400) := hid fun a b c => put_small a b c
  have HL2 : Hid (nodesN u ≤ 60 → chkE k = 0 → elemB k u = true → (putV k u).length ≤ 2400) := hid fun a b c => put_small a b c
  have HC1 := hid (enc_code l v)
  have HC2 := hid (enc_code k u)
  clear HVv HVu HIv HIu HNv HNu HPV HPI HPN HCZ HLP HVX HV HU HL HK
  generalize validB l v = VA at HVX1 HVV
  generalize validB k u = VB at HVX1 HVU
  generalize isBotB l v = IA at HIX1 HIV
  generalize isBotB k u = IB at HIX1 HIU
  generalize encodeE (pairL (s1 121) (s1 120) l k) (pairV v u) = EX at HEX HPE
  generalize encodeE l v = EV at HEv HPE HC1
  generalize encodeE k u = EU at HEu HPE HC2
  have hnv : nodesN v ≤ 60 := HN1.out
  have hnu : nodesN u ≤ 60 := HN2.out
  have HNN1 := HN1
  have HNN2 := HN2
  generalize nodesN v = nv at HNX1 HNV hnv HEv HN1 HL1 ⊢
  generalize nodesN u = nu at HNX1 HNU hnu HEu HN2 HL2 ⊢
  obtain ⟨q1, q2⟩ := sums_le hnv hnu
  obtain ⟨BX, ex⟩ := EX
  obtain ⟨BV, ev⟩ := EV
  obtain ⟨BU, eu⟩ := EU
  simp only at HPE HC1 HC2
  cases VA <;> cases IA
  all_goals
    go_wp2_with fail
    refine wp_region_ext2 _ (by kernel_rfl) (by kernel_rfl) ?_
    repeat (go_big_quiet_step (with_reducible first | exact HVX1.out _ | exact HVV.out _ | exact HVU.out _ | exact HNX1.out _ | exact HNV.out _ | exact HNU.out _ | exact HIX1.out _ | exact HIV.out _ | exact HIU.out _))
    refine wpQuiet_nil ?_
    rintro _ ⟨x2, rfl⟩
    clear HVX1 HVV HVU HNX1 HNV HNU HIX1 HIV HIU q1 q2
    go_wp2_with fail
    refine (HEX.out _).mono ?_
    rintro e u1 ⟨r1, he, hr1, hb1⟩
    simp only at he hr1
    subst he
    obtain ⟨ra, rc, rfl⟩ := owns_shape hr1
    have HR1 : Hid (SlRd u1 1 byteRd (.slice ra BX.length rc) BX) := hid (bytes_owns hr1)
    obtain ⟨x3, hx⟩ : ∃ y : Ext W9, u1 = y.1 := ⟨⟨u1, Ext.trans_ x2 hb1⟩, rfl⟩
    subst hx
    clear hr1 hb1
    go_wp2_with fail
    refine (HEv.out HN1.out _ (HB.out _)).mono ?_
    rintro e u2 ⟨r2, he, hr2, hb2⟩
    simp only at he hr2
    subst he
    obtain ⟨qa, qc, rfl⟩ := owns_shape hr2
    have HR2 : Hid (SlRd u2 1 byteRd (.slice qa BV.length qc) BV) := hid (bytes_owns hr2)
    replace HR1 : Hid (SlRd u2 1 byteRd (.slice ra BX.length rc) BX) := hid (SlRd.below HR1.out hb2 fun _ _ _ h => h)
    obtain ⟨x4, hx⟩ : ∃ y : Ext W9, u2 = y.1 := ⟨⟨u2, Ext.trans_ x3 hb2⟩, rfl⟩
    subst hx
    clear hr2 hb2
    go_wp2_with fail
    refine (HEu.out HN2.out _ (HB.out _)).mono ?_
    rintro e u3 ⟨r3, he, hr3, hb3⟩
    simp only at he hr3
    subst he
    obtain ⟨sa, sc, rfl⟩ := owns_shape hr3
    have HR3 : Hid (SlRd u3 1 byteRd (.slice sa BU.length sc) BU) := hid (bytes_owns hr3)
    replace HR1 : Hid (SlRd u3 1 byteRd (.slice ra BX.length rc) BX) := hid (SlRd.below HR1.out hb3 fun _ _ _ h => h)
    replace HR2 : Hid (SlRd u3 1 byteRd (.slice qa BV.length qc) BV) := hid (SlRd.below HR2.out hb3 fun _ _ _ h => h)
    obtain ⟨x5, hx⟩ : ∃ y : Ext W9, u3 = y.1 := ⟨⟨u3, Ext.trans_ x4 hb3⟩, rfl⟩
    subst hx
    clear hr3 hb3
    have HAW := hid (ext_of HB.out HAW0.out)
    rcases HC1.out with rfl | rfl | ⟨rfl, h1, h2, h3⟩
    · have hx0 : ex ≠ 0 := fun h => by have := HPE.out.1; rw [h] at this; simp at this
      have hx1 : (ex == 0) = false := by rw [beq_eq_false_iff_ne]; exact hx0
      have hx2 : (ex != 0) = true := by rw [bne_iff_ne]; exact hx0
      clear hx0
      go_wp2_with fail
      refine (HAW.out _).mono ?_
      rintro e _ ⟨rfl, x6, rfl⟩
      go_wp2_with fail
      go_ret
      exact ⟨rfl, HB.out _⟩
    · have hx0 : ex ≠ 0 := fun h => by have := HPE.out.1; rw [h] at this; simp at this
      have hx1 : (ex == 0) = false := by rw [beq_eq_false_iff_ne]; exact hx0
      have hx2 : (ex != 0) = true := by rw [bne_iff_ne]; exact hx0
      clear hx0
      go_wp2_with fail
      refine (HAW.out _).mono ?_
      rintro e _ ⟨rfl, x6, rfl⟩
      go_wp2_with fail
      go_ret
      exact ⟨rfl, HB.out _⟩
    · rcases HC2.out with rfl | rfl | ⟨rfl, h1', h2', h3'⟩
      · have hx0 : ex ≠ 0 := fun h => by have := HPE.out.1; rw [h] at this; simp at this
        have hx1 : (ex == 0) = false := by rw [beq_eq_false_iff_ne]; exact hx0
        have hx2 : (ex != 0) = true := by rw [bne_iff_ne]; exact hx0
        clear hx0
        go_wp2_with fail
        refine (HAW.out _).mono ?_
        rintro e _ ⟨rfl, x6, rfl⟩
        go_wp2_with fail
        go_ret
        exact ⟨rfl, HB.out _⟩
      · have hx0 : ex ≠ 0 := fun h => by have := HPE.out.1; rw [h] at this; simp at this
        have hx1 : (ex == 0) = false := by rw [beq_eq_false_iff_ne]; exact hx0
        have hx2 : (ex != 0) = true := by rw [bne_iff_ne]; exact hx0
        clear hx0
        go_wp2_with fail
        refine (HAW.out _).mono ?_
        rintro e _ ⟨rfl, x6, rfl⟩
        go_wp2_with fail
        go_ret
        exact ⟨rfl, HB.out _⟩
      · have hx0 : ex = 0 := of_decide_eq_true (HPE.out.1.trans rfl)
        subst hx0
        have HBX : Hid (BX = BV ++ BU) := hid (HPE.out.2 rfl)
        have HLV : Hid (BV.length ≤ 2400 ∧ BU.length ≤ 2400) := hid ⟨by rw [h3]; exact HL1.out HN1.out h1 h2, by rw [h3']; exact HL2.out HN2.out h1' h2'⟩
        clear h1 h2 h3 h1' h2' h3' HL1 HL2 HC1 HC2 HPE
        go_wp2_with fail
        refine (HAW0.out _ (HB.out _)).mono ?_
        rintro e w6 ⟨rfl, hb6⟩
        obtain ⟨x6, hx6⟩ : ∃ y : Ext W9, w6 = y.1 := ⟨⟨w6, Ext.trans_ x5 hb6⟩, rfl⟩
        subst hx6
        obtain ⟨i0, hi0, hz0, hz1, hz2⟩ := info_parts infoByte
        have HS2 : Hid (∀ O, Src (x6.1.alloc O) 1 (.slice qa BV.length qc) BV.length (BV.map u8v)) := hid fun O => bytes_src (SlRd.below HR2.out (hb6.trans (((Below.refl _ _).alloc (Nat.le_refl _) O).mono hb6.size)) fun _ _ _ h => h)
        have HS3 : Hid (∀ u, Below x6.1.heap.size x6.1 u → Src u 1 (.slice sa BU.length sc) BU.length (BU.map u8v)) := hid fun u hu => bytes_src (SlRd.below (SlRd.below HR3.out hb6 fun _ _ _ h => h) hu fun _ _ _ h => h)
        have HBX1 : Hid (SlRd x6.1 1 byteRd (.slice ra BX.length rc) BX) := hid (SlRd.below HR1.out hb6 fun _ _ _ h => h)
        clear hb6
        go_wp2_with (first
          | (at_builtin
             refine wpList_appendG rfl (.tmp 111) (.tmp 112) 46 rfl x6.1.heap.size 5 1 1 Tryz.underlying46 hi0 hz0 hz1 hz2 rfl (by decide) (.slice (some ⟨x6.1.heap.size, 0, none⟩) 0 0) 0 [] rfl (owns_made #[] 0 (heap_alloc_new _ _) (Nat.le_refl _) rfl (by decide)) (.slice qa BV.length qc) BV.length (BV.map u8v) rfl (HS2.out _) BV.length (Nat.zero_add _) (BV.map u8v) rfl (by have := HLV.out.1; unfold maxLen; omega) (by have := HLV.out.1; omega) (by simp) ?_
             intro na nc w7 had
             have HA7 := hid had
             have HW7 : Hid (Below x6.1.heap.size x6.1 w7) := hid (((Below.refl _ _).alloc (Nat.le_refl _) _).grown had.grown (by simp) (fun g hg => by simp [Value.ownBlock] at hg; omega))
             clear had)
          | (at_builtin
             refine wpList_appendG rfl (.tmp 113) (.tmp 114) 46 rfl x6.1.heap.size 5 1 1 Tryz.underlying46 hi0 hz0 hz1 hz2 rfl (by decide) (.slice na BV.length nc) BV.length (BV.map u8v) rfl HA7.out.own (.slice sa BU.length sc) BU.length (BU.map u8v) rfl (HS3.out _ HW7.out) (BV.length + BU.length) rfl (BV.map u8v ++ BU.map u8v) rfl (by have := HLV.out; unfold maxLen; omega) (by have := HLV.out; omega) HW7.out.size ?_
             intro nb nd w8 had
             have HA8 := hid had
             have HW8 : Hid (Below x6.1.heap.size x6.1 w8) := hid (HW7.out.grown had.grown HW7.out.size (fun g hg => (owns_tag HA7.out.own hg).1))
             clear had))
        have HY1 : Hid (SlRd w8 1 byteRd (.slice ra BX.length rc) BX) := hid (SlRd.below HBX1.out HW8.out fun _ _ _ h => h)
        have HY2 : Hid (SlRd w8 1 byteRd (.slice nb (BV.length + BU.length) nd) (BV ++ BU)) := hid (bytes_owns (by
          have h := HA8.out.own
          rw [← List.map_append, ← List.length_append] at h
          rw [← List.length_append]
          exact h))
        refine (bytes_any _ _ _ _ _ HY1.out HY2.out).mono ?_
        rintro e w9 ⟨rfl, hb9⟩
        have HFB : Hid (Below w.heap.size w w9) := hid ((HB.out x6).trans ((HW8.out.trans (hb9.mono HW8.out.size)).mono (HB.out x6).size))
        have HDD : Hid (decide (BX = BV ++ BU) = true) := hid (decide_eq_true HBX.out)
        rw [HDD.out]
        clear hb9
        go_wp2_with fail
        go_ret
        exact ⟨rfl, HFB.out⟩
end Go.Proofs.YtmdjnaobllajmaaGreatDoor
