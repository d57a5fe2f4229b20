/-
  The walk of 'ValueNodes'.
-/
import Derived.Test.YtmdjnaobllajmaaGreatDoorN21
import Derived.Test.YtmdjnaobllajmaaGreatDoorN20
import Derived.Test.YtmdjnaobllajmaaGreatDoorN28
import Derived.Deep.Cut
import Derived.Deep.CutRange
set_option linter.unusedVariables false
set_option linter.unusedSimpArgs false
namespace Go.Proofs.YtmdjnaobllajmaaGreatDoor
open Go.RowKit

theorem Src.below {w w' : World} {sz : Nat} {u : Value} {m : Nat} {news : List Value} (h : Src w sz u m news) (hb : Below w.heap.size w w') : Src w' sz u m news := by
  obtain ⟨ax, c, h1, h2, h3, h4, h5⟩ := h
  exact ⟨ax, c, h1, h2, h3, fun ad had j q hq => (hb.cell (World.block_lt_of_cell? w _ (h4 ad had j q hq))).trans (h4 ad had j q hq), h5⟩
theorem names_le (v : Val) : v.names.length ≤ nodesN v ∧ True := ⟨by
  cases v with
  | mk n ns ps es => rw [nodesN]; show ns.length ≤ _; omega, trivial⟩
theorem Strs.mem_size' {w : World} {v : Value} {l : List ByteArray} (h : Strs w v l) {s : ByteArray} (hs : s ∈ l) : s.size ≤ maxLen := by
  obtain ⟨a, c, rfl, _, _⟩ := h.shape
  obtain ⟨i, hi, rfl⟩ := List.getElem_of_mem hs
  obtain ⟨_, _, _, _, h2⟩ := h.cell i hi
  exact h2
theorem ents_le (v : Val) : v.entries.length ≤ nodesN v := by
  cases v with
  | mk n ns ps es => rw [nodesN]; show es.length ≤ _; omega
theorem nodesNs_snoc (ps : List Val) (u : Val) : nodesNs (ps ++ [u]) = nodesNs ps + nodesN u := by
  induction ps with
  | nil => simp [nodesNs]
  | cons x t ih => rw [List.cons_append, nodesNs, nodesNs, ih]; omega
theorem nodes_part (v u : Val) : nodesN (.mk v.n v.names (v.parts ++ [u]) v.entries) = nodesN v + nodesN u := by
  cases v with
  | mk n ns ps es =>
    rw [nodesN, nodesN]
    show 1 + ns.length + es.length + nodesNs (ps ++ [u]) + _ = _
    rw [nodesNs_snoc]
    show _ = 1 + ns.length + es.length + nodesNs ps + _ + nodesN u
    simp only [Val.entries]
    omega
theorem nodes_name (v : Val) (s : ByteArray) : nodesN (.mk v.n (v.names ++ [s]) v.parts v.entries) = nodesN v + 1 := by
  cases v with
  | mk n ns ps es =>
    rw [nodesN, nodesN]
    simp only [Val.names, Val.parts, Val.entries, List.length_append, List.length_singleton]
    omega
theorem nodes_entry (v : Val) (e : En) : nodesN (.mk v.n v.names v.parts (v.entries ++ [e])) = nodesN v + 1 + e.clock.length := by
  cases v with
  | mk n ns ps es =>
    rw [nodesN, nodesN]
    simp only [Val.names, Val.parts, Val.entries, List.length_append, List.length_singleton, List.map_append, List.sum_append, List.map_cons, List.map_nil, List.sum_cons, List.sum_nil]
    omega
theorem nod_le {a b c : Nat} (ha : a ≤ 60) (hb : b ≤ 60) (hc : c ≤ 60) : (a : Int) + (b : Int) ≤ 1000000000000 ∧ (a : Int) + 1 ≤ 1000000000000 ∧ (a : Int) + 1 + (c : Int) ≤ 1000000000000 := by omega
theorem parts_le (v : Val) : v.parts.length ≤ nodesN v := by
  cases v with
  | mk n ns ps es =>
    rw [nodesN]
    show ps.length ≤ _
    have : ∀ ps : List Val, ps.length ≤ nodesNs ps := fun ps => by
      induction ps with
      | nil => exact Nat.le_refl _
      | cons x t ih =>
        rw [nodesNs, List.length_cons]
        have : 1 ≤ nodesN x := by cases x; rw [nodesN]; omega
        omega
    have := this ps
    omega
/-- What is old or new is kept: the three blocks alone may have turned. -/
def Kept (N : Nat) (w w' : World) : Prop := Below N w w' ∧ ∀ b, N + 3 ≤ b → b < w.heap.size → w'.heap[b]? = w.heap[b]?
theorem Kept.refl (N : Nat) (w : World) : Kept N w w := ⟨Below.refl _ _, fun _ _ _ => rfl⟩
theorem Kept.trans {N : Nat} {a b c : World} (h : Kept N a b) (k : Kept N b c) : Kept N a c := ⟨h.1.trans k.1, fun i h1 h2 => (k.2 i h1 (Nat.lt_of_lt_of_le h2 h.1.size)).trans (h.2 i h1 h2)⟩
theorem Kept.of_but {N K : Nat} {w w' : World} (h : But K w w') (hk : N ≤ K ∧ K < N + 3) (hn : N ≤ w.heap.size) : Kept N w w' := ⟨h.below hk.1 hn, fun b h1 h2 => h.block b h2 (by omega)⟩
theorem Kept.of_below {N : Nat} {w w' : World} (h : Below w.heap.size w w') (hn : N ≤ w.heap.size) : Kept N w w' := ⟨h.mono hn, fun b _ h2 => h.block b h2⟩
theorem row_after {α : Type} {R : World → α → List Value → Prop} {W4 w6 w : World} {B N b1 k E sz : Nat} {nb : Value} {l : List α} {u : α} {csv : List (List Value)} {cu : List Value} {q : Value} (hRm : ∀ w' x cs, Below w.heap.size w w' → R w x cs → R w' x cs) (hb : Below B W4 w6) (hNB : N + 3 ≤ B) (h1 : N ≤ b1 ∧ b1 < N + 3) (hbw : ∀ w', Below N W4 w' → Below w.heap.size w w')
    (hown : w6.ownsRow B E sz nb (l.length + 1) (csv.flatten ++ cu)) (hl : csv.length = l.length) (he : ∀ cs ∈ csv, cs.length = sz) (hr : ∀ i (h : i < l.length) (h' : i < csv.length), R w l[i] csv[i]) (hul : cu.length = sz) (hu : R w u cu) :
    ∀ w', Kept N (w6.setCell ⟨b1, k, none⟩ q) w' → SlRd w' sz (R w') nb (l ++ [u]) := by
  intro w' hk
  have hB : Below w.heap.size w w' := hbw _ (((hb.mono (by omega)).setCell h1.1 _).trans hk.1)
  refine SlRd.of_rows (base := B) (E := E) (css := csv ++ [cu]) ?_ (by rw [List.length_append, List.length_append, hl]; rfl) (fun cs hcs => ?_) (fun i hi hi' => ?_)
  · have e : (csv ++ [cu]).flatten = csv.flatten ++ cu := by simp
    rw [e, List.length_append]
    exact owns_of_block hown fun g hg => by
      have h2 := hown.lt g hg
      have hs : (w6.setCell ⟨b1, k, none⟩ q).heap.size = w6.heap.size := by simp [World.setCell]
      exact (hk.2 g (by omega) (by rw [hs]; exact h2.2)).trans (Below.heap_setCell _ _ _ _ (by show g ≠ b1; omega))
  · rcases List.mem_append.1 hcs with h | h
    · exact he cs h
    · rw [List.mem_singleton.1 h]; exact hul
  · by_cases h : i < l.length
    · rw [List.getElem_append_left h, List.getElem_append_left (by omega)]
      exact hRm _ _ _ hB (hr i h (by omega))
    · have hi2 : i = l.length := by rw [List.length_append] at hi; simp at hi; omega
      subst hi2
      have e1 : (l ++ [u])[l.length] = u := by simp
      have e2 : (csv ++ [cu])[l.length] = cu := by simp [← hl]
      rw [e1, e2]
      exact hRm _ _ _ hB hu
theorem flat_oneN {α : Type} (g : α → Value) : ∀ l : List α, l.flatMap (fun c => [g c]) = l.map g
  | [] => rfl
  | x :: t => by rw [List.flatMap_cons, flat_oneN g t]; rfl
theorem names_flat (l : List ByteArray) : (l.map fun s => [Value.string s]).flatten = l.map Value.string := by
  rw [← List.flatMap_def]
  exact flat_oneN _ l
theorem three_rows (W : World) (O : Obj) (b : Nat) (h1 : W.heap.size ≤ b) (h2 : b < W.heap.size + 3) : (((W.alloc O).alloc O).alloc O).drew.heap[b]? = some O := by
  show (((W.alloc O).alloc O).alloc O).heap[b]? = some O
  rcases (show b = W.heap.size ∨ b = W.heap.size + 1 ∨ b = W.heap.size + 2 by omega) with rfl | rfl | rfl
  · exact block_alloc (block_alloc (heap_new_at _ _ _ rfl) _) _
  · exact block_alloc (heap_new_at _ _ _ (by simp)) _
  · exact heap_new_at _ _ _ (by simp)
theorem three_size (W : World) (O : Obj) : (((W.alloc O).alloc O).alloc O).drew.heap.size = W.heap.size + 3 := by
  show (((W.alloc O).alloc O).alloc O).heap.size = _
  simp
/-- Three blocks next to one another, in some order. -/
def Perm3 (n a b c : Nat) : Prop := a ≠ b ∧ a ≠ c ∧ b ≠ c ∧ n ≤ a ∧ a < n + 3 ∧ n ≤ b ∧ b < n + 3 ∧ n ≤ c ∧ c < n + 3

set_option maxRecDepth 100000 in
set_option maxHeartbeats 4000000 in
theorem valueNodes_walk (v u : Val) (nm : ByteArray) (e : En) (cv cu ce : List Value) (w : World) (hv : valRd w v cv) (hu : valRd w u cu) (hm : nm.size ≤ maxLen) (he : entryRd w e ce) (ht : Tab w) :
    Calls Tryz.prog 6 #[.agg cv.toArray, .agg cu.toArray, .string nm, .agg ce.toArray] w fun e w' => e = .returned (.bool true) ∧ Below w.heap.size w w' := by
  have HSv : Hid (∀ W, Below w.heap.size w W → Calls Tryz.prog 13 #[.agg cv.toArray, .int .i64 60] W fun e w' => e = .returned (.bool (decide (nodesN v ≤ 60))) ∧ Below W.heap.size W w') := hid fun W h => small_ref v cv 60 W (valRd.below h _ _ hv) (by decide)
  have HSu : Hid (∀ W, Below w.heap.size w W → Calls Tryz.prog 13 #[.agg cu.toArray, .int .i64 60] W fun e w' => e = .returned (.bool (decide (nodesN u ≤ 60))) ∧ Below W.heap.size W w') := hid fun W h => small_ref u cu 60 W (valRd.below h _ _ hu) (by decide)
  have HNv : Hid (nodesN v ≤ 60 → ∀ W, Below w.heap.size w W → Calls Tryz.prog 23 #[.agg cv.toArray] W fun e w' => e = .returned (.int .i64 (nodesN v : Nat)) ∧ Below W.heap.size W w') := hid fun hs W h => nodes_any _ v cv W (Nat.le_refl _) (valRd.below h _ _ hv) (Nat.le_trans hs (by decide))
  have HNu : Hid (nodesN u ≤ 60 → ∀ W, Below w.heap.size w W → Calls Tryz.prog 23 #[.agg cu.toArray] W fun e w' => e = .returned (.int .i64 (nodesN u : Nat)) ∧ Below W.heap.size W w') := hid fun hs W h => nodes_any _ u cu W (Nat.le_refl _) (valRd.below h _ _ hu) (Nat.le_trans hs (by decide))
  have HAW0 : Hid (∀ W, Below w.heap.size w W → Calls Tryz.prog 14 #[] W fun e w' => e = .returned (.bool true) ∧ Below W.heap.size W w') := hid fun W h => awake_any W (ht.below h)
  have HAW := HAW0
  have HV := hid hv
  have HU := hid hu
  have HEN := hid he
  obtain ⟨uan, uap, uae, rfl, gai, gan, gap, gae⟩ := (valRd_iff _ _ _).1 hv
  obtain ⟨ban, dan, rfl, _, nan⟩ := gan.shape
  obtain ⟨bap, dap, rfl, _, nap⟩ := gap.shape
  obtain ⟨bae, dae, rfl, _, nae⟩ := gae.shape
  obtain ⟨ubn, ubp, ube, rfl, gbi, gbn, gbp, gbe⟩ := (valRd_iff _ _ _).1 hu
  obtain ⟨bbn, dbn, rfl, _, nbn⟩ := gbn.shape
  obtain ⟨bbp, dbp, rfl, _, nbp⟩ := gbp.shape
  obtain ⟨bbe, dbe, rfl, _, nbe⟩ := gbe.shape
  obtain ⟨vk, rfl, hxk, hxn⟩ := he
  obtain ⟨xk, xc, rfl, _, _⟩ := hxk.shape
  have HNM := hid hm
  have HGI := hid gai
  have HPAR := hid gap
  have HPRD : Hid (valRd w u [.int .i64 u.n, .slice bbn u.names.length dbn, .slice bbp u.parts.length dbp, .slice bbe u.entries.length dbe]) := HU
  have HNAM := hid gan
  have HENT := hid gae
  clear hv hu ht gai gan gap gae gbi gbn gbp gbe hxk
  have HNV : Hid (∀ b, decide (nodesN v ≤ 60) = b → b = true → nodesN v ≤ 60) := hid fun b h1 h2 => of_decide_eq_true (h1.trans h2)
  have HNU : Hid (∀ b, decide (nodesN u ≤ 60) = b → b = true → nodesN u ≤ 60) := hid fun b h1 h2 => of_decide_eq_true (h1.trans h2)
  generalize hSv : decide (nodesN v ≤ 60) = Sv at HSv
  generalize hSu : decide (nodesN u ≤ 60) = Su at HSu
  replace HNV := hid (HNV.out _ hSv)
  replace HNU := hid (HNU.out _ hSu)
  clear hSv hSu
  have HB : Hid (∀ x : Ext (((w.alloc (.cells #[.int .i64 v.n, .slice ban v.names.length dan, .slice bap v.parts.length dap, .slice bae v.entries.length dae] 30)).alloc (.cells #[.int .i64 u.n, .slice bbn u.names.length dbn, .slice bbp u.parts.length dbp, .slice bbe u.entries.length dbe] 30)).alloc (.cells #[.slice xk e.clock.length xc, .string e.name] 43)), Below w.heap.size w x.1) := hid fun x => ((((Below.refl _ _).alloc (Nat.le_refl _) _).alloc (by simp) _).alloc (by simp; omega) _).trans (x.2.mono (by simp; omega))
  have HZ3 : Hid ((((w.alloc (.cells #[.int .i64 v.n, .slice ban v.names.length dan, .slice bap v.parts.length dap, .slice bae v.entries.length dae] 30)).alloc (.cells #[.int .i64 u.n, .slice bbn u.names.length dbn, .slice bbp u.parts.length dbp, .slice bbe u.entries.length dbe] 30)).alloc (.cells #[.slice xk e.clock.length xc, .string e.name] 43)).heap.size = w.heap.size + 3) := hid (by simp)
  have HBa : Hid (Box (((w.alloc (.cells #[.int .i64 v.n, .slice ban v.names.length dan, .slice bap v.parts.length dap, .slice bae v.entries.length dae] 30)).alloc (.cells #[.int .i64 u.n, .slice bbn u.names.length dbn, .slice bbp u.parts.length dbp, .slice bbe u.entries.length dbe] 30)).alloc (.cells #[.slice xk e.clock.length xc, .string e.name] 43)) (w.heap.size) #[.int .i64 v.n, .slice ban v.names.length dan, .slice bap v.parts.length dap, .slice bae v.entries.length dae]) := hid (((Box.new _ _ _ _ rfl).alloc _).alloc _)
  have HBb : Hid (Box (((w.alloc (.cells #[.int .i64 v.n, .slice ban v.names.length dan, .slice bap v.parts.length dap, .slice bae v.entries.length dae] 30)).alloc (.cells #[.int .i64 u.n, .slice bbn u.names.length dbn, .slice bbp u.parts.length dbp, .slice bbe u.entries.length dbe] 30)).alloc (.cells #[.slice xk e.clock.length xc, .string e.name] 43)) (w.heap.size + 1) #[.int .i64 u.n, .slice bbn u.names.length dbn, .slice bbp u.parts.length dbp, .slice bbe u.entries.length dbe]) := hid ((Box.new _ _ _ _ (by simp)).alloc _)
  have HBx : Hid (Box (((w.alloc (.cells #[.int .i64 v.n, .slice ban v.names.length dan, .slice bap v.parts.length dap, .slice bae v.entries.length dae] 30)).alloc (.cells #[.int .i64 u.n, .slice bbn u.names.length dbn, .slice bbp u.parts.length dbp, .slice bbe u.entries.length dbe] 30)).alloc (.cells #[.slice xk e.clock.length xc, .string e.name] 43)) (w.heap.size + 1 + 1) #[.slice xk e.clock.length xc, .string e.name]) := hid (Box.new _ _ _ _ (by simp))
  go_enter Tryz.func6, Tryz.ntmps6
  go_wp2_with fail
  generalize ((w.alloc (.cells #[.int .i64 v.n, .slice ban v.names.length dan, .slice bap v.parts.length dap, .slice bae v.entries.length dae] 30)).alloc (.cells #[.int .i64 u.n, .slice bbn u.names.length dbn, .slice bbp u.parts.length dbp, .slice bbe u.entries.length dbe] 30)).alloc (.cells #[.slice xk e.clock.length xc, .string e.name] 43) = W3 at HB HZ3 HBa HBb HBx ⊢
  obtain ⟨x0, hx⟩ := ext_self W3
  rw [hx]
  clear hx
  have a0 : ∀ x : Ext W3, x.1.cell? ⟨w.heap.size, 0, none⟩ = some (.int .i64 v.n) := fun x => (HBa.out.ext x) 0 _ rfl
  have a1 : ∀ x : Ext W3, x.1.cell? ⟨w.heap.size, 1, none⟩ = some (.slice ban v.names.length dan) := fun x => (HBa.out.ext x) 1 _ rfl
  have a2 : ∀ x : Ext W3, x.1.cell? ⟨w.heap.size, 2, none⟩ = some (.slice bap v.parts.length dap) := fun x => (HBa.out.ext x) 2 _ rfl
  have a3 : ∀ x : Ext W3, x.1.cell? ⟨w.heap.size, 3, none⟩ = some (.slice bae v.entries.length dae) := fun x => (HBa.out.ext x) 3 _ rfl
  have b0 : ∀ x : Ext W3, x.1.cell? ⟨w.heap.size + 1, 0, none⟩ = some (.int .i64 u.n) := fun x => (HBb.out.ext x) 0 _ rfl
  have b1 : ∀ x : Ext W3, x.1.cell? ⟨w.heap.size + 1, 1, none⟩ = some (.slice bbn u.names.length dbn) := fun x => (HBb.out.ext x) 1 _ rfl
  have b2 : ∀ x : Ext W3, x.1.cell? ⟨w.heap.size + 1, 2, none⟩ = some (.slice bbp u.parts.length dbp) := fun x => (HBb.out.ext x) 2 _ rfl
  have b3 : ∀ x : Ext W3, x.1.cell? ⟨w.heap.size + 1, 3, none⟩ = some (.slice bbe u.entries.length dbe) := fun x => (HBb.out.ext x) 3 _ rfl
  have xx0 : ∀ x : Ext W3, x.1.cell? ⟨w.heap.size + 1 + 1, 0, none⟩ = some (.slice xk e.clock.length xc) := fun x => (HBx.out.ext x) 0 _ rfl
  have xx1 : ∀ x : Ext W3, x.1.cell? ⟨w.heap.size + 1 + 1, 1, none⟩ = some (.string e.name) := fun x => (HBx.out.ext x) 1 _ rfl
  replace HSv := hid (ext_of HB.out HSv.out)
  replace HSu := hid (ext_of HB.out HSu.out)
  replace HAW := hid (ext_of HB.out HAW.out)
  refine (HSv.out _).mono ?_
  rintro r _ ⟨rfl, x1, rfl⟩
  cases Sv
  · go_wp2_with fail
    refine (HAW.out _).mono ?_
    rintro r _ ⟨rfl, x, rfl⟩
    go_wp2_with fail
    go_ret
    exact ⟨rfl, HB.out _⟩
  go_wp2_with fail
  refine (HSu.out _).mono ?_
  rintro r _ ⟨rfl, x2, rfl⟩
  cases Su
  · go_wp2_with fail
    refine (HAW.out _).mono ?_
    rintro r _ ⟨rfl, x, rfl⟩
    go_wp2_with fail
    go_ret
    exact ⟨rfl, HB.out _⟩
  obtain ⟨K, hK⟩ : ∃ K, K = e.clock.length := ⟨_, rfl⟩
  have HK := hid hK
  have x0' : ∀ x : Ext W3, x.1.cell? ⟨w.heap.size + 1 + 1, 0, none⟩ = some (.slice xk K xc) := fun x => by rw [HK.out]; exact xx0 x
  clear hK xx0
  by_cases hk : 60 < K
  · have hdk : decide ((60 : Int) < (K : Int)) = true := decide_eq_true (by omega)
    go_wp2_with fail
    refine (HAW.out _).mono ?_
    rintro r _ ⟨rfl, x, rfl⟩
    go_wp2_with fail
    go_ret
    exact ⟨rfl, HB.out _⟩
  have hdk : decide ((60 : Int) < (K : Int)) = false := decide_eq_false (by omega)
  have HKS : Hid (K ≤ 60) := hid (by omega)
  have HN1 : Hid (nodesN v ≤ 60) := hid (HNV.out (by trivial))
  have HN2 : Hid (nodesN u ≤ 60) := hid (HNU.out (by trivial))
  have HNV1 := hid (ext_of HB.out (HNv.out HN1.out))
  clear hk HNV HNU HSv HSu
  go_wp2_with fail
  refine (HNV1.out _).mono ?_
  rintro r _ ⟨rfl, x3, rfl⟩
  go_upto_region 4 with fail
  have HSX : Hid (∀ w', Below x3.1.heap.size x3.1 w' → w'.cell? ⟨w.heap.size, 0, none⟩ = some (.int .i64 v.n) ∧ w'.cell? ⟨w.heap.size, 1, none⟩ = some (.slice ban v.names.length dan) ∧ w'.cell? ⟨w.heap.size, 2, none⟩ = some (.slice bap v.parts.length dap) ∧ w'.cell? ⟨w.heap.size, 3, none⟩ = some (.slice bae v.entries.length dae)) := hid fun w' h => ⟨a0 ⟨w', x3.2.trans (h.mono x3.2.size)⟩, a1 ⟨w', x3.2.trans (h.mono x3.2.size)⟩, a2 ⟨w', x3.2.trans (h.mono x3.2.size)⟩, a3 ⟨w', x3.2.trans (h.mono x3.2.size)⟩⟩
  clear a0 a1 a2 a3 b0 b1 b2 b3 xx1 x0'
  go_cut [10, 11, 12] from 30 to 32 (fun p q r wx => ∃ b1 b2 b3 : Nat, p = .pointer (some ⟨b1, 0, none⟩) ∧ q = .pointer (some ⟨b2, 0, none⟩) ∧ r = .pointer (some ⟨b3, 0, none⟩) ∧ Hid (Perm3 x3.1.heap.size b1 b2 b3) ∧ wx = (((x3.1.alloc (.cells #[.int .i64 v.n, .slice ban v.names.length dan, .slice bap v.parts.length dap, .slice bae v.entries.length dae] 30)).alloc (.cells #[.int .i64 v.n, .slice ban v.names.length dan, .slice bap v.parts.length dap, .slice bae v.entries.length dae] 30)).alloc (.cells #[.int .i64 v.n, .slice ban v.names.length dan, .slice bap v.parts.length dap, .slice bae v.entries.length dae] 30)).drew)
  case first =>
    go_region_held3 (fun w' => w'.cell? ⟨w.heap.size, 0, none⟩ = some (.int .i64 v.n) ∧ w'.cell? ⟨w.heap.size, 1, none⟩ = some (.slice ban v.names.length dan) ∧ w'.cell? ⟨w.heap.size, 2, none⟩ = some (.slice bap v.parts.length dap) ∧ w'.cell? ⟨w.heap.size, 3, none⟩ = some (.slice bae v.entries.length dae))
      (exact HSX.out _ (by repeat (first | exact Below.refl _ _ | refine Below.setCell ?_ (by simp) _ | refine Below.alloc ?_ (by simp <;> omega) _ | refine Below.drew ?_)))
      (first | fail)
    all_goals
      go_wp2_with fail
      go_meet
      exact ⟨_, _, _, rfl, rfl, rfl, hid (by unfold Perm3; omega), rfl⟩
  case rest =>
    obtain ⟨b1, b2, b3, rfl, rfl, rfl, HPM, rfl⟩ := hcut
    have HROW : Hid (∀ b, x3.1.heap.size ≤ b → b < x3.1.heap.size + 3 → (((x3.1.alloc (.cells #[.int .i64 v.n, .slice ban v.names.length dan, .slice bap v.parts.length dap, .slice bae v.entries.length dae] 30)).alloc (.cells #[.int .i64 v.n, .slice ban v.names.length dan, .slice bap v.parts.length dap, .slice bae v.entries.length dae] 30)).alloc (.cells #[.int .i64 v.n, .slice ban v.names.length dan, .slice bap v.parts.length dap, .slice bae v.entries.length dae] 30)).drew.heap[b]? = some (.cells #[.int .i64 v.n, .slice ban v.names.length dan, .slice bap v.parts.length dap, .slice bae v.entries.length dae] 30 (0, 0))) := hid fun b h1 h2 => three_rows x3.1 _ b h1 h2
    have HK4 : Hid (Below x3.1.heap.size x3.1 (((x3.1.alloc (.cells #[.int .i64 v.n, .slice ban v.names.length dan, .slice bap v.parts.length dap, .slice bae v.entries.length dae] 30)).alloc (.cells #[.int .i64 v.n, .slice ban v.names.length dan, .slice bap v.parts.length dap, .slice bae v.entries.length dae] 30)).alloc (.cells #[.int .i64 v.n, .slice ban v.names.length dan, .slice bap v.parts.length dap, .slice bae v.entries.length dae] 30)).drew) := hid ((((Below.refl _ _).alloc (Nat.le_refl _) _).alloc (by simp) _).alloc (by simp; omega) _).drew
    have HN4 : Hid ((((x3.1.alloc (.cells #[.int .i64 v.n, .slice ban v.names.length dan, .slice bap v.parts.length dap, .slice bae v.entries.length dae] 30)).alloc (.cells #[.int .i64 v.n, .slice ban v.names.length dan, .slice bap v.parts.length dap, .slice bae v.entries.length dae] 30)).alloc (.cells #[.int .i64 v.n, .slice ban v.names.length dan, .slice bap v.parts.length dap, .slice bae v.entries.length dae] 30)).drew.heap.size = x3.1.heap.size + 3) := hid (three_size x3.1 _)
    have HX4 : Hid (Below W3.heap.size W3 (((x3.1.alloc (.cells #[.int .i64 v.n, .slice ban v.names.length dan, .slice bap v.parts.length dap, .slice bae v.entries.length dae] 30)).alloc (.cells #[.int .i64 v.n, .slice ban v.names.length dan, .slice bap v.parts.length dap, .slice bae v.entries.length dae] 30)).alloc (.cells #[.int .i64 v.n, .slice ban v.names.length dan, .slice bap v.parts.length dap, .slice bae v.entries.length dae] 30)).drew) := hid (x3.2.trans (HK4.out.mono x3.2.size))
    have HZN : Hid (W3.heap.size ≤ x3.1.heap.size) := hid x3.2.size
    have HKW : Hid (Below w.heap.size w (((x3.1.alloc (.cells #[.int .i64 v.n, .slice ban v.names.length dan, .slice bap v.parts.length dap, .slice bae v.entries.length dae] 30)).alloc (.cells #[.int .i64 v.n, .slice ban v.names.length dan, .slice bap v.parts.length dap, .slice bae v.entries.length dae] 30)).alloc (.cells #[.int .i64 v.n, .slice ban v.names.length dan, .slice bap v.parts.length dap, .slice bae v.entries.length dae] 30)).drew) := hid ((HB.out x3).trans (HK4.out.mono (HB.out x3).size))
    have HWN : Hid (w.heap.size + 3 ≤ x3.1.heap.size) := hid (by have := HZ3.out; have := HZN.out; omega)
    have hb1 : x3.1.heap.size ≤ b1 ∧ b1 < x3.1.heap.size + 3 := by have := HPM.out; unfold Perm3 at this; omega
    have HB1 := hid hb1
    have HRB1 := hid (HROW.out b1 hb1.1 hb1.2)
    clear hb1 HSX HK4
    generalize (((x3.1.alloc (.cells #[.int .i64 v.n, .slice ban v.names.length dan, .slice bap v.parts.length dap, .slice bae v.entries.length dae] 30)).alloc (.cells #[.int .i64 v.n, .slice ban v.names.length dan, .slice bap v.parts.length dap, .slice bae v.entries.length dae] 30)).alloc (.cells #[.int .i64 v.n, .slice ban v.names.length dan, .slice bap v.parts.length dap, .slice bae v.entries.length dae] 30)).drew = W4 at HROW HN4 HX4 HKW HRB1 ⊢
    generalize x3.1.heap.size = N at HPM HROW HN4 HZN HWN HB1 HRB1 ⊢
    have HBW : Hid (∀ w', Below N W4 w' → Below w.heap.size w w') := hid fun w' h => HKW.out.trans (h.mono (by have := HWN.out; omega))
    have HXW : Hid (∀ w', Below N W4 w' → ∃ y : Ext W3, w' = y.1) := hid fun w' h => ⟨⟨w', HX4.out.trans (h.mono HZN.out)⟩, rfl⟩
    have HS5 : Hid (∀ w', Below N W4 w' → w'.cell? ⟨w.heap.size, 2, none⟩ = some (.slice bap v.parts.length dap) ∧ w'.cell? ⟨w.heap.size + 1, 0, none⟩ = some (.int .i64 u.n) ∧ w'.cell? ⟨w.heap.size + 1, 1, none⟩ = some (.slice bbn u.names.length dbn) ∧ w'.cell? ⟨w.heap.size + 1, 2, none⟩ = some (.slice bbp u.parts.length dbp) ∧ w'.cell? ⟨w.heap.size + 1, 3, none⟩ = some (.slice bbe u.entries.length dbe)) := hid fun w' h => by
      obtain ⟨y, rfl⟩ := HXW.out w' h
      exact ⟨(HBa.out.ext y) 2 _ rfl, (HBb.out.ext y) 0 _ rfl, (HBb.out.ext y) 1 _ rfl, (HBb.out.ext y) 2 _ rfl, (HBb.out.ext y) 3 _ rfl⟩
    obtain ⟨csv, hcv1, hcv2, hcv3, hcv4⟩ := Src.of_sl (HPAR.out) val_one
    have HC1 := hid hcv1
    have HC2 := hid hcv2
    have HC3 := hid hcv3
    have HSV : Hid (∀ w', Below N W4 w' → Src w' 4 (.slice bap v.parts.length dap) v.parts.length csv.flatten) := hid fun w' h => hcv4.below (HBW.out w' h)
    clear hcv1 hcv2 hcv3 hcv4
    obtain ⟨i0, hi0, hz0, hz1, hz2⟩ := info_parts infoVal
    have HLP : Hid (v.parts.length ≤ 60) := hid (Nat.le_trans (parts_le v) HN1.out)
    have hb1n : ¬ (W4.heap.size = b1) := by have := HN4.out; have := HB1.out; omega
    go_upto_region 5 with fail
    go_cut [9] from 33 to 40 (fun n wx => n = .int .i64 (nodesN v : Nat) ∧ ∃ sp, Hid (wx.heap[b1]? = some (.cells #[.int .i64 v.n, .slice ban v.names.length dan, sp, .slice bae v.entries.length dae] 30 (0, 0))) ∧ Hid (∀ w', Kept N wx w' → SlRd w' 4 (valRd w') sp (v.parts ++ [u])) ∧ Hid (But b1 W4 wx))
    case first =>
      go_region_held3 (fun w' => w'.cell? ⟨w.heap.size, 2, none⟩ = some (.slice bap v.parts.length dap) ∧ w'.cell? ⟨w.heap.size + 1, 0, none⟩ = some (.int .i64 u.n) ∧ w'.cell? ⟨w.heap.size + 1, 1, none⟩ = some (.slice bbn u.names.length dbn) ∧ w'.cell? ⟨w.heap.size + 1, 2, none⟩ = some (.slice bbp u.parts.length dbp) ∧ w'.cell? ⟨w.heap.size + 1, 3, none⟩ = some (.slice bbe u.entries.length dbe))
        (first
          | exact HS5.out _ (by repeat (first | exact Below.refl _ _ | exact HB5.out.mono (Nat.le_add_right _ _) | exact HB6.out.mono (Nat.le_add_right _ _) | refine Below.alloc ?_ (by have := HN4.out; first | (have := HB6.out.size; simp; omega) | (have := HB6.out.size; omega) | (have := HB5.out.size; simp; omega) | (have := HB5.out.size; omega) | (simp; omega) | omega) _ | refine Below.drew ?_ | refine Below.setCell ?_ HB1.out.1 _))
          | skip)
        (first
          | (refine step_append (by rfl) (.tmp 33) (.tmp 35) 27 (by rfl) (N + 3) 30 4 80 Tryz.underlying27 hi0 hz0 hz1 hz2 rfl (by decide) _ 0 [] (by rfl) (owns_made #[] 0 (by first | exact heap_new_at _ _ _ (by simp) | exact heap_new_at _ _ _ rfl | exact block_alloc (heap_new_at _ _ _ (by simp)) _ | exact block_alloc (heap_new_at _ _ _ rfl) _) (by have := HN4.out; first | omega | (simp; omega)) rfl (by decide)) (.slice bap v.parts.length dap) v.parts.length csv.flatten (by rfl) (HSV.out _ (by repeat (first | exact Below.refl _ _ | refine Below.alloc ?_ (by have := HN4.out; first | (simp; omega) | omega) _ | refine Below.drew ?_))) v.parts.length (Nat.zero_add _) csv.flatten rfl (by have := HLP.out; unfold maxLen; omega) (by have := HLP.out; omega) (by have := HN4.out; first | omega | (simp; omega)) ?_
             intro na nc w5 had
             have HA5 := hid had
             have HB5 : Hid (Below (N + 3) W4 w5) := hid (Below.grown (by repeat (first | exact Below.refl _ _ | refine Below.alloc ?_ (by have := HN4.out; first | (simp; omega) | omega) _ | refine Below.drew ?_)) had.grown (by have := HN4.out; first | omega | (simp; omega)) (fun g hg => by simp [Value.ownBlock] at hg; have := HN4.out; omega))
             clear had)
          | (refine step_append (by rfl) (.tmp 36) (.tmp 38) 27 (by rfl) (N + 3) 30 4 80 Tryz.underlying27 hi0 hz0 hz1 hz2 rfl (by decide) (.slice na v.parts.length nc) v.parts.length csv.flatten (by rfl) (by first | exact HA5.out.own | exact HA5.out.own.alloc _) _ 1 [.int .i64 u.n, .slice bbn u.names.length dbn, .slice bbp u.parts.length dbp, .slice bbe u.entries.length dbe] (by rfl) (Src.of_block (cs := #[.int .i64 u.n, .slice bbn u.names.length dbn, .slice bbp u.parts.length dbp, .slice bbe u.entries.length dbe]) (by first | exact heap_new_at _ _ _ rfl | exact heap_new_at _ _ _ (by simp) | exact (HA5.out.grown.block _ (by first | (simp; done) | (simp; omega) | omega) (by simp [Value.ownBlock])).trans (heap_new_at _ _ _ (by simp)) | exact (HA5.out.grown.block _ (by first | (simp; done) | (simp; omega) | omega) (by simp [Value.ownBlock])).trans (block_alloc (heap_new_at _ _ _ rfl) _) | exact (HA5.out.grown.block _ (by first | (simp; done) | (simp; omega) | omega) (by simp [Value.ownBlock])).trans (block_alloc (heap_new_at _ _ _ rfl) _)) 4 1 1 rfl (by simp [Value.oneCell'])) (v.parts.length + 1) rfl _ rfl (by have := HLP.out; unfold maxLen; omega) (by have := HLP.out; omega) (by have h4 := HN4.out; have h5 := HB5.out.size; first | (simp; omega) | omega) ?_
             intro nb nd w6 had
             have HA6 := hid had
             have HB6 : Hid (Below (N + 3) W4 w6) := hid (Below.grown (by first | exact HB5.out | exact HB5.out.alloc (by have h4 := HN4.out; have h5 := HB5.out.size; first | (simp; omega) | omega) _) had.grown (by have h4 := HN4.out; have h5 := HB5.out.size; first | (simp; omega) | omega) (fun g hg => (owns_tag HA5.out.own hg).1))
             have HR6 : Hid (w6.heap[b1]? = some (.cells #[.int .i64 v.n, .slice ban v.names.length dan, .slice bap v.parts.length dap, .slice bae v.entries.length dae] 30 (0, 0))) := hid ((HB6.out.block b1 HB1.out.2).trans HRB1.out)
             have hk4 : w6.cell? ⟨b1, 2, none⟩ = some (.slice bap v.parts.length dap) := by rw [cell_at_block HR6.out]; rfl
             have hk5 : w6.frozen? ⟨b1, 2, none⟩ = false := free_at_block HR6.out
             clear had))
      all_goals
        go_wp2_with fail
        go_meet
        exact ⟨rfl, _, hid (block_set HR6.out _), hid (row_after (R := valRd) (fun w' x cs h k => valRd.below h _ _ k) HB6.out (Nat.le_refl _) HB1.out HBW.out HA6.out.own HC1.out HC2.out HC3.out rfl HPRD.out), hid ((But.of_below (by rw [HN4.out]; exact HB6.out)).trans (But.set _ _ _))⟩
    case rest =>
      obtain ⟨rfl, sp, HR5, HSP, HBT⟩ := hcut
      have hpm : b2 ≠ b1 ∧ b3 ≠ b1 ∧ b3 ≠ b2 ∧ (N ≤ b2 ∧ b2 < N + 3) ∧ (N ≤ b3 ∧ b3 < N + 3) := by have := HPM.out; unfold Perm3 at this; omega
      have HPX := hid hpm
      have hnw : N ≤ W4.heap.size := by have := HN4.out; omega
      have HKT := hid (Kept.of_but HBT.out HB1.out hnw)
      have HZ5 : Hid (N + 3 ≤ wc.heap.size) := hid (by have := HBT.out.size; have := HN4.out; omega)
      have HR2 : Hid (wc.heap[b2]? = some (.cells #[.int .i64 v.n, .slice ban v.names.length dan, .slice bap v.parts.length dap, .slice bae v.entries.length dae] 30 (0, 0))) := hid ((HBT.out.block b2 (by have := HN4.out; omega) hpm.1).trans (HROW.out b2 hpm.2.2.2.1.1 hpm.2.2.2.1.2))
      have HR3 : Hid (wc.heap[b3]? = some (.cells #[.int .i64 v.n, .slice ban v.names.length dan, .slice bap v.parts.length dap, .slice bae v.entries.length dae] 30 (0, 0))) := hid ((HBT.out.block b3 (by have := HN4.out; omega) hpm.2.1).trans (HROW.out b3 hpm.2.2.2.2.1 hpm.2.2.2.2.2))
      clear hpm hnw hb1n
      have HBW5 : Hid (∀ w', Below N wc w' → Below w.heap.size w w') := hid fun w' h => HBW.out w' (HKT.out.1.trans h)
      have HXW5 : Hid (∀ w', Below N wc w' → ∃ y : Ext W3, w' = y.1) := hid fun w' h => HXW.out w' (HKT.out.1.trans h)
      have HSN : Hid (∀ w', Below N wc w' → Src w' 1 (.slice ban v.names.length dan) v.names.length ((v.names.map fun s => [Value.string s]).flatten)) := hid fun w' h => by rw [names_flat]; exact (Src.of_strs HNAM.out).below (HBW5.out w' h)
      have HLN : Hid (v.names.length ≤ 60) := hid (Nat.le_trans (names_le v).1 HN1.out)
      have a1' : ∀ O, (wc.alloc O).cell? ⟨w.heap.size, 1, none⟩ = some (.slice ban v.names.length dan) := fun O => by
        obtain ⟨y, hy⟩ := HXW5.out (wc.alloc O) ((Below.refl _ _).alloc (by have := HZ5.out; omega) O)
        rw [hy]; exact (HBa.out.ext y) 1 _ rfl
      obtain ⟨j0, hj0, hy0, hy1, hy2⟩ := info_parts infoString3
      go_upto_region 7 with (first
        | (at_builtin
           refine wpList_append rfl (.tmp 41) (.tmp 43) 22 rfl wc.heap.size 9 1 16 Tryz.underlying22 hj0 hy0 hy1 hy2 rfl (by decide) (.slice (some ⟨wc.heap.size, 0, none⟩) 0 0) 0 [] rfl (owns_made #[] 0 (heap_alloc_new wc _) (Nat.le_refl _) rfl (by decide)) (.slice ban v.names.length dan) v.names.length _ rfl (HSN.out _ ((Below.refl _ _).alloc (by have := HZ5.out; omega) _)) v.names.length (Nat.zero_add _) _ rfl (by have := HLN.out; unfold maxLen; omega) (by have := HLN.out; omega) (by simp) ?_
           intro na nc w5 had
           have HA5 := hid had
           have HB5 : Hid (Below wc.heap.size wc w5) := hid (((Below.refl _ _).alloc (Nat.le_refl _) _).grown had.grown (by simp) (fun g hg => by simp [Value.ownBlock] at hg; omega))
           clear had)
        | (at_builtin
           refine wpList_append rfl (.tmp 44) (.tmp 46) 22 rfl wc.heap.size 9 1 16 Tryz.underlying22 hj0 hy0 hy1 hy2 rfl (by decide) (.slice na v.names.length nc) v.names.length _ rfl (HA5.out.own.alloc _) _ 1 [.string nm] rfl (Src.of_block (cs := #[.string nm]) (heap_alloc_new _ _) 1 1 1 rfl (by simp [Value.oneCell'])) (v.names.length + 1) rfl _ rfl (by have := HLN.out; unfold maxLen; omega) (by have := HLN.out; omega) (by have := HB5.out.size; simp; omega) ?_
           intro nb nd w6 had
           have HA6 := hid had
           have HB6 : Hid (Below wc.heap.size wc w6) := hid ((HB5.out.alloc HB5.out.size _).grown had.grown (by have := HB5.out.size; simp; omega) (fun g hg => (owns_tag HA5.out.own hg).1))
           have HR6 : Hid (w6.heap[b2]? = some (.cells #[.int .i64 v.n, .slice ban v.names.length dan, .slice bap v.parts.length dap, .slice bae v.entries.length dae] 30 (0, 0))) := hid ((HB6.out.block b2 (by have := HPX.out; have := HZ5.out; omega)).trans HR2.out)
           have hk4 : w6.cell? ⟨b2, 1, none⟩ = some (.slice ban v.names.length dan) := by rw [cell_at_block HR6.out]; rfl
           have hk5 : w6.frozen? ⟨b2, 1, none⟩ = false := free_at_block HR6.out
           clear had))
      have HQ2 : Hid ((w6.setCell ⟨b2, 1, none⟩ (.slice nb (v.names.length + 1) nd)).heap[b2]? = some (.cells #[.int .i64 v.n, .slice nb (v.names.length + 1) nd, .slice bap v.parts.length dap, .slice bae v.entries.length dae] 30 (0, 0))) := hid (block_set HR6.out _)
      have HSQ : Hid (∀ w', Kept N (w6.setCell ⟨b2, 1, none⟩ (.slice nb (v.names.length + 1) nd)) w' → SlRd w' 1 strRd (.slice nb (v.names.length + 1) nd) (v.names ++ [nm])) := hid (row_after (R := fun _ => strRd) (fun w' x cs _ k => k) HB6.out HZ5.out HPX.out.2.2.2.1 HBW5.out HA6.out.own (by rw [List.length_map]) (fun cs hcs => by obtain ⟨s, _, rfl⟩ := List.mem_map.1 hcs; rfl) (fun i h h' => by rw [List.getElem_map]; exact ⟨rfl, Strs.mem_size' HNAM.out (List.getElem_mem h)⟩) rfl ⟨rfl, HNM.out⟩)
      have HBT6 : Hid (But b2 wc (w6.setCell ⟨b2, 1, none⟩ (.slice nb (v.names.length + 1) nd))) := hid ((But.of_below HB6.out).trans (But.set _ _ _))
      generalize w6.setCell ⟨b2, 1, none⟩ (.slice nb (v.names.length + 1) nd) = W6 at HQ2 HSQ HBT6 ⊢
      generalize Value.slice nb (v.names.length + 1) nd = sq at HQ2 HSQ ⊢
      clear hk4 hk5 HR6 HA5 HA6 HB5 HB6 a1'
      have HZ6 : Hid (N + 3 ≤ W6.heap.size) := hid (Nat.le_trans HZ5.out HBT6.out.size)
      have hZ6 : N ≤ W6.heap.size := by have := HZ6.out; omega
      have HKT6 := hid (Kept.of_but HBT6.out HPX.out.2.2.2.1 (by have := HZ5.out; omega))
      have HR31 : Hid (W6.heap[b3]? = some (.cells #[.int .i64 v.n, .slice ban v.names.length dan, .slice bap v.parts.length dap, .slice bae v.entries.length dae] 30 (0, 0))) := hid ((HBT6.out.block b3 (by have := HPX.out; have := HZ5.out; omega) HPX.out.2.2.1).trans HR3.out)
      have HR51 : Hid (W6.heap[b1]? = some (.cells #[.int .i64 v.n, .slice ban v.names.length dan, sp, .slice bae v.entries.length dae] 30 (0, 0))) := hid ((HBT6.out.block b1 (by have := HB1.out; have := HZ5.out; omega) (fun h => HPX.out.1 h.symm)).trans HR5.out)
      have HBW6 : Hid (∀ w', Below N W6 w' → Below w.heap.size w w') := hid fun w' h => HBW5.out w' (HKT6.out.1.trans h)
      have HXW6 : Hid (∀ w', Below N W6 w' → ∃ y : Ext W3, w' = y.1) := hid fun w' h => HXW5.out w' (HKT6.out.1.trans h)
      have HS7 : Hid (∀ w', Below N W6 w' → w'.cell? ⟨w.heap.size, 3, none⟩ = some (.slice bae v.entries.length dae) ∧ w'.cell? ⟨w.heap.size + 1 + 1, 0, none⟩ = some (.slice xk K xc) ∧ w'.cell? ⟨w.heap.size + 1 + 1, 1, none⟩ = some (.string e.name)) := hid fun w' h => by
        obtain ⟨y, rfl⟩ := HXW6.out w' h
        exact ⟨(HBa.out.ext y) 3 _ rfl, by rw [HK.out]; exact (HBx.out.ext y) 0 _ rfl, (HBx.out.ext y) 1 _ rfl⟩
      obtain ⟨cse, hce1, hce2, hce3, hce4⟩ := Src.of_sl (HENT.out) ent_one
      have HE1 := hid hce1
      have HE2 := hid hce2
      have HE3 := hid hce3
      have HSE : Hid (∀ w', Below N W6 w' → Src w' 2 (.slice bae v.entries.length dae) v.entries.length cse.flatten) := hid fun w' h => hce4.below (HBW6.out w' h)
      clear hce1 hce2 hce3 hce4
      obtain ⟨k0, hk0, hw0, hw1, hw2⟩ := info_parts infoEntry
      have HLE : Hid (v.entries.length ≤ 60) := hid (Nat.le_trans (ents_le v) HN1.out)
      have HER : Hid (entryRd w e [.slice xk K xc, .string e.name]) := hid (by rw [HK.out]; exact HEN.out)
      have hb3n : ¬ (W6.heap.size = b3) := by have := HZ6.out; have := HPX.out; omega
      go_upto_region 7 with fail
      go_cut [9] from 49 to 56 (fun n wx => n = .int .i64 (nodesN v : Nat) ∧ ∃ se, Hid (wx.heap[b3]? = some (.cells #[.int .i64 v.n, .slice ban v.names.length dan, .slice bap v.parts.length dap, se] 30 (0, 0))) ∧ Hid (∀ w', Kept N wx w' → SlRd w' 2 (entryRd w') se (v.entries ++ [e])) ∧ Hid (But b3 W6 wx))
      case first =>
        go_region_held3 (fun w' => w'.cell? ⟨w.heap.size, 3, none⟩ = some (.slice bae v.entries.length dae) ∧ w'.cell? ⟨w.heap.size + 1 + 1, 0, none⟩ = some (.slice xk K xc) ∧ w'.cell? ⟨w.heap.size + 1 + 1, 1, none⟩ = some (.string e.name))
          (first
            | exact HS7.out _ (by repeat (first | exact Below.refl _ _ | exact HB5.out.mono hZ6 | exact HB6.out.mono hZ6 | refine Below.alloc ?_ (by first | (have := HB6.out.size; simp; omega) | (have := HB6.out.size; omega) | (have := HB5.out.size; simp; omega) | (have := HB5.out.size; omega) | (simp; omega) | omega) _ | refine Below.drew ?_ | refine Below.setCell ?_ HPX.out.2.2.2.2.1 _))
            | skip)
          (first
            | (refine step_append (by rfl) (.tmp 49) (.tmp 51) 28 (by rfl) W6.heap.size 43 2 40 Tryz.underlying28 hk0 hw0 hw1 hw2 rfl (by decide) _ 0 [] (by rfl) (owns_made #[] 0 (by first | exact heap_new_at _ _ _ (by simp) | exact heap_new_at _ _ _ rfl | exact block_alloc (heap_new_at _ _ _ (by simp)) _ | exact block_alloc (heap_new_at _ _ _ rfl) _) (by first | exact Nat.le_refl _ | (simp; done) | (simp; omega) | omega) rfl (by decide)) (.slice bae v.entries.length dae) v.entries.length cse.flatten (by rfl) (HSE.out _ (by repeat (first | exact Below.refl _ _ | refine Below.alloc ?_ (by first | (simp; omega) | omega) _ | refine Below.drew ?_))) v.entries.length (Nat.zero_add _) cse.flatten rfl (by have := HLE.out; unfold maxLen; omega) (by have := HLE.out; omega) (by first | exact Nat.le_refl _ | (simp; done) | (simp; omega) | omega) ?_
               intro na nc w5 had
               have HA5 := hid had
               have HB5 : Hid (Below W6.heap.size W6 w5) := hid (Below.grown (by repeat (first | exact Below.refl _ _ | refine Below.alloc ?_ (by first | exact Nat.le_refl _ | (simp; done) | (simp; omega) | omega) _ | refine Below.drew ?_)) had.grown (by first | exact Nat.le_refl _ | (simp; done) | (simp; omega) | omega) (fun g hg => by simp [Value.ownBlock] at hg; omega))
               clear had)
            | (refine step_append (by rfl) (.tmp 52) (.tmp 54) 28 (by rfl) W6.heap.size 43 2 40 Tryz.underlying28 hk0 hw0 hw1 hw2 rfl (by decide) (.slice na v.entries.length nc) v.entries.length cse.flatten (by rfl) (by first | exact HA5.out.own | exact HA5.out.own.alloc _) _ 1 [.slice xk K xc, .string e.name] (by rfl) (Src.of_block (cs := #[.slice xk K xc, .string e.name]) (by first | exact heap_new_at _ _ _ rfl | exact heap_new_at _ _ _ (by simp) | exact (HA5.out.grown.block _ (by first | (simp; done) | (simp; omega) | omega) (by simp [Value.ownBlock])).trans (heap_new_at _ _ _ (by simp)) | exact (HA5.out.grown.block _ (by first | (simp; done) | (simp; omega) | omega) (by simp [Value.ownBlock])).trans (block_alloc (heap_new_at _ _ _ rfl) _)) 2 1 1 rfl (by simp [Value.oneCell'])) (v.entries.length + 1) rfl _ rfl (by have := HLE.out; unfold maxLen; omega) (by have := HLE.out; omega) (by have h5 := HB5.out.size; first | exact h5 | (simp; omega) | omega) ?_
               intro nb nd w6 had
               have HA6 := hid had
               have HB6 : Hid (Below W6.heap.size W6 w6) := hid (Below.grown (by first | exact HB5.out | exact HB5.out.alloc (by have h5 := HB5.out.size; first | exact h5 | (simp; omega) | omega) _) had.grown (by have h5 := HB5.out.size; first | exact h5 | (simp; omega) | omega) (fun g hg => (owns_tag HA5.out.own hg).1))
               have HR6 : Hid (w6.heap[b3]? = some (.cells #[.int .i64 v.n, .slice ban v.names.length dan, .slice bap v.parts.length dap, .slice bae v.entries.length dae] 30 (0, 0))) := hid ((HB6.out.block b3 (by have := HPX.out; have := HZ6.out; omega)).trans HR31.out)
               have hk4 : w6.cell? ⟨b3, 3, none⟩ = some (.slice bae v.entries.length dae) := by rw [cell_at_block HR6.out]; rfl
               have hk5 : w6.frozen? ⟨b3, 3, none⟩ = false := free_at_block HR6.out
               clear had))
        all_goals
          go_wp2_with fail
          go_meet
          exact ⟨rfl, _, hid (block_set HR6.out _), hid (row_after (R := entryRd) (fun w' x cs h k => k.below h) HB6.out HZ6.out HPX.out.2.2.2.2 HBW6.out HA6.out.own HE1.out HE2.out HE3.out rfl HER.out), hid ((But.of_below HB6.out).trans (But.set _ _ _))⟩
      case rest =>
        obtain ⟨rfl, se, HQ3, HSE7, HBT7⟩ := hcut
        have HKT7 := hid (Kept.of_but HBT7.out HPX.out.2.2.2.2 hZ6)
        have HR17 : Hid (wc.heap[b1]? = some (.cells #[.int .i64 v.n, .slice ban v.names.length dan, sp, .slice bae v.entries.length dae] 30 (0, 0))) := hid ((HBT7.out.block b1 (by have := HB1.out; have := HZ6.out; omega) (fun h => HPX.out.2.1 h.symm)).trans HR51.out)
        have HR27 : Hid (wc.heap[b2]? = some (.cells #[.int .i64 v.n, sq, .slice bap v.parts.length dap, .slice bae v.entries.length dae] 30 (0, 0))) := hid ((HBT7.out.block b2 (by have := HPX.out; have := HZ6.out; omega) (fun h => HPX.out.2.2.1 h.symm)).trans HQ2.out)
        have HXp : Hid (Box wc b1 #[.int .i64 v.n, .slice ban v.names.length dan, sp, .slice bae v.entries.length dae]) := hid fun i q hq => (cell_at_block HR17.out).trans hq
        have HXq : Hid (Box wc b2 #[.int .i64 v.n, sq, .slice bap v.parts.length dap, .slice bae v.entries.length dae]) := hid fun i q hq => (cell_at_block HR27.out).trans hq
        have HXr : Hid (Box wc b3 #[.int .i64 v.n, .slice ban v.names.length dan, .slice bap v.parts.length dap, se]) := hid fun i q hq => (cell_at_block HQ3.out).trans hq
        have HBW7 : Hid (∀ w', Below N wc w' → Below w.heap.size w w') := hid fun w' h => HBW6.out w' (HKT7.out.1.trans h)
        have HXW7 : Hid (∀ w', Below N wc w' → ∃ y : Ext W3, w' = y.1) := hid fun w' h => HXW6.out w' (HKT7.out.1.trans h)
        have hnz : N ≤ wc.heap.size := by have := HBT7.out.size; omega
        have HNZ := hid hnz
        have HBE : Hid (∀ x : Ext wc, Below w.heap.size w x.1) := hid fun x => HBW7.out x.1 (x.2.mono HNZ.out)
        have HWW : Hid (Below w.heap.size w wc) := hid (HBW7.out wc (Below.refl _ _))
        have HVp : Hid (valRd wc (.mk v.n v.names (v.parts ++ [u]) v.entries) [.int .i64 v.n, .slice ban v.names.length dan, sp, .slice bae v.entries.length dae]) := hid ((valRd_iff _ _ _).2 ⟨_, _, _, rfl, HGI.out, HNAM.out.below HWW.out, HSP.out wc (HKT6.out.trans HKT7.out), SlRd.below HENT.out HWW.out fun _ _ _ k => k.below HWW.out⟩)
        have HVq : Hid (valRd wc (.mk v.n (v.names ++ [nm]) v.parts v.entries) [.int .i64 v.n, sq, .slice bap v.parts.length dap, .slice bae v.entries.length dae]) := hid ((valRd_iff _ _ _).2 ⟨_, _, _, rfl, HGI.out, HSQ.out wc HKT7.out, SlRd.below HPAR.out HWW.out fun _ _ _ k => valRd.below HWW.out _ _ k, SlRd.below HENT.out HWW.out fun _ _ _ k => k.below HWW.out⟩)
        have HVr : Hid (valRd wc (.mk v.n v.names v.parts (v.entries ++ [e])) [.int .i64 v.n, .slice ban v.names.length dan, .slice bap v.parts.length dap, se]) := hid ((valRd_iff _ _ _).2 ⟨_, _, _, rfl, HGI.out, HNAM.out.below HWW.out, SlRd.below HPAR.out HWW.out fun _ _ _ k => valRd.below HWW.out _ _ k, HSE7.out wc (Kept.refl _ _)⟩)
        have HNP : Hid (∀ x : Ext wc, Calls Tryz.prog 23 #[.agg #[.int .i64 v.n, .slice ban v.names.length dan, sp, .slice bae v.entries.length dae]] x.1 fun r w' => r = .returned (.int .i64 ((nodesN v : Int) + (nodesN u : Int))) ∧ ∃ y : Ext wc, w' = y.1) := hid fun x => ext_call x (by
          have h := nodes_any _ _ _ x.1 (Nat.le_refl _) (valRd.below x.2 _ _ HVp.out) (by rw [nodes_part]; have := HN1.out; have := HN2.out; omega)
          rw [nodes_part] at h
          push_cast at h
          exact h)
        have HNQ : Hid (∀ x : Ext wc, Calls Tryz.prog 23 #[.agg #[.int .i64 v.n, sq, .slice bap v.parts.length dap, .slice bae v.entries.length dae]] x.1 fun r w' => r = .returned (.int .i64 ((nodesN v : Int) + 1)) ∧ ∃ y : Ext wc, w' = y.1) := hid fun x => ext_call x (by
          have h := nodes_any _ _ _ x.1 (Nat.le_refl _) (valRd.below x.2 _ _ HVq.out) (by rw [nodes_name]; have := HN1.out; omega)
          rw [nodes_name] at h
          push_cast at h
          exact h)
        have HNR : Hid (∀ x : Ext wc, Calls Tryz.prog 23 #[.agg #[.int .i64 v.n, .slice ban v.names.length dan, .slice bap v.parts.length dap, se]] x.1 fun r w' => r = .returned (.int .i64 ((nodesN v : Int) + 1 + (K : Int))) ∧ ∃ y : Ext wc, w' = y.1) := hid fun x => ext_call x (by
          have h := nodes_any _ _ _ x.1 (Nat.le_refl _) (valRd.below x.2 _ _ HVr.out) (by rw [nodes_entry, ← HK.out]; have := HN1.out; have := HKS.out; omega)
          rw [nodes_entry, ← HK.out] at h
          push_cast at h
          exact h)
        have HNO : Hid (∀ x : Ext wc, Calls Tryz.prog 23 #[.agg #[.int .i64 0, .slice none 0 0, .slice none 0 0, .slice none 0 0]] x.1 fun r w' => r = .returned (.int .i64 1) ∧ ∃ y : Ext wc, w' = y.1) := hid fun x => ext_call x (nodes_any _ zeroV _ x.1 (Nat.le_refl _) (zeroV_rd x.1) (by decide))
        have HNU1 := hid (ext_of HBE.out (HNu.out HN2.out))
        have HAW7 := hid (ext_of HBE.out HAW0.out)
        have HS8 : Hid (∀ x : Ext wc, x.1.cell? ⟨w.heap.size + 1, 0, none⟩ = some (.int .i64 u.n) ∧ x.1.cell? ⟨w.heap.size + 1, 1, none⟩ = some (.slice bbn u.names.length dbn) ∧ x.1.cell? ⟨w.heap.size + 1, 2, none⟩ = some (.slice bbp u.parts.length dbp) ∧ x.1.cell? ⟨w.heap.size + 1, 3, none⟩ = some (.slice bbe u.entries.length dbe) ∧ x.1.cell? ⟨w.heap.size + 1 + 1, 0, none⟩ = some (.slice xk K xc)) := hid fun x => by
          obtain ⟨y, hy⟩ := HXW7.out x.1 (x.2.mono HNZ.out)
          rw [hy]
          exact ⟨(HBb.out.ext y) 0 _ rfl, (HBb.out.ext y) 1 _ rfl, (HBb.out.ext y) 2 _ rfl, (HBb.out.ext y) 3 _ rfl, by rw [HK.out]; exact (HBx.out.ext y) 0 _ rfl⟩
        obtain ⟨bd1, bd2, bd3⟩ := nod_le HN1.out HN2.out HKS.out
        go_upto_region 8 with fail
        obtain ⟨x7, hx⟩ := ext_self wc
        rw [hx]
        clear hx
        have p0 : ∀ x : Ext wc, x.1.cell? ⟨b1, 0, none⟩ = some (.int .i64 v.n) := fun x => (HXp.out.ext x) 0 _ rfl
        have p1 : ∀ x : Ext wc, x.1.cell? ⟨b1, 1, none⟩ = some (.slice ban v.names.length dan) := fun x => (HXp.out.ext x) 1 _ rfl
        have p2 : ∀ x : Ext wc, x.1.cell? ⟨b1, 2, none⟩ = some (sp) := fun x => (HXp.out.ext x) 2 _ rfl
        have p3 : ∀ x : Ext wc, x.1.cell? ⟨b1, 3, none⟩ = some (.slice bae v.entries.length dae) := fun x => (HXp.out.ext x) 3 _ rfl
        have q0 : ∀ x : Ext wc, x.1.cell? ⟨b2, 0, none⟩ = some (.int .i64 v.n) := fun x => (HXq.out.ext x) 0 _ rfl
        have q1 : ∀ x : Ext wc, x.1.cell? ⟨b2, 1, none⟩ = some (sq) := fun x => (HXq.out.ext x) 1 _ rfl
        have q2 : ∀ x : Ext wc, x.1.cell? ⟨b2, 2, none⟩ = some (.slice bap v.parts.length dap) := fun x => (HXq.out.ext x) 2 _ rfl
        have q3 : ∀ x : Ext wc, x.1.cell? ⟨b2, 3, none⟩ = some (.slice bae v.entries.length dae) := fun x => (HXq.out.ext x) 3 _ rfl
        have r0 : ∀ x : Ext wc, x.1.cell? ⟨b3, 0, none⟩ = some (.int .i64 v.n) := fun x => (HXr.out.ext x) 0 _ rfl
        have r1 : ∀ x : Ext wc, x.1.cell? ⟨b3, 1, none⟩ = some (.slice ban v.names.length dan) := fun x => (HXr.out.ext x) 1 _ rfl
        have r2 : ∀ x : Ext wc, x.1.cell? ⟨b3, 2, none⟩ = some (.slice bap v.parts.length dap) := fun x => (HXr.out.ext x) 2 _ rfl
        have r3 : ∀ x : Ext wc, x.1.cell? ⟨b3, 3, none⟩ = some (se) := fun x => (HXr.out.ext x) 3 _ rfl
        have cu0 : ∀ x : Ext wc, x.1.cell? ⟨w.heap.size + 1, 0, none⟩ = some (.int .i64 u.n) := fun x => (HS8.out x).1
        have cu1 : ∀ x : Ext wc, x.1.cell? ⟨w.heap.size + 1, 1, none⟩ = some (.slice bbn u.names.length dbn) := fun x => (HS8.out x).2.1
        have cu2 : ∀ x : Ext wc, x.1.cell? ⟨w.heap.size + 1, 2, none⟩ = some (.slice bbp u.parts.length dbp) := fun x => (HS8.out x).2.2.1
        have cu3 : ∀ x : Ext wc, x.1.cell? ⟨w.heap.size + 1, 3, none⟩ = some (.slice bbe u.entries.length dbe) := fun x => (HS8.out x).2.2.2.1
        have cu4 : ∀ x : Ext wc, x.1.cell? ⟨w.heap.size + 1 + 1, 0, none⟩ = some (.slice xk K xc) := fun x => (HS8.out x).2.2.2.2
        clear hnz hZ6 hb3n HVp HVq HVr HSP HSQ HSE7
        generalize nodesN v = nv at HNP HNQ HNR bd1 bd2 bd3 ⊢
        generalize nodesN u = nu at HNP HNU1 bd1 ⊢
        refine wp_region_ext2 _ (by kernel_rfl) (by kernel_rfl) ?_
        repeat (go_big_quiet_step (with_reducible first | exact HAW7.out _ | exact HNO.out _ | exact HNP.out _ | exact HNU1.out _ | exact HNQ.out _ | exact HNR.out _))
        refine wpQuiet_nil ?_
        rintro _ ⟨x5, rfl⟩
        go_wp2_with fail
        go_ret
        exact ⟨rfl, HBE.out _⟩
end Go.Proofs.YtmdjnaobllajmaaGreatDoor
