/-
  What the statements of the chapter share, part 23: VRow, VTq, VTp, VTp2, VRt, VTp3.
-/
import Derived.Test.YtmdjnaobllajmaaGreatDoorT07
import Derived.Test.YtmdjnaobllajmaaGreatDoorT12
import Derived.Test.YtmdjnaobllajmaaGreatDoorT17
import Derived.Test.YtmdjnaobllajmaaGreatDoorT19
import Derived.Test.YtmdjnaobllajmaaGreatDoorT20
import Derived.ChangeArms
import Derived.ChangeOld
import Derived.ChangeSlices
import Derived.Deep.RegionHeld3
import Derived.Lib.LaidTab
set_option linter.unusedVariables false
set_option linter.unusedSimpArgs false
set_option maxRecDepth 100000
set_option maxHeartbeats 8000000
namespace Go.Proofs.YtmdjnaobllajmaaGreatDoor
open Go.RowKit
theorem list_of {α : Type} {P : Nat → α → Prop} : ∀ n, (∀ i, i < n → ∃ a, P i a) → ∃ l : List α, l.length = n ∧ ∀ i (h : i < l.length), P i l[i]
 | 0, _ => ⟨[], rfl, fun i h => by simp at h⟩
 | n + 1, h => by
   obtain ⟨l, hl, hp⟩ := list_of n (fun i hi => h i (by omega))
   obtain ⟨a, ha⟩ := h n (by omega)
   refine ⟨l ++ [a], by simp [hl], fun i hi => ?_⟩
   by_cases h2 : i < l.length
   · rw [List.getElem_append_left h2]; exact hp i h2
   · have h3 : i = l.length := by simp at hi; omega
     subst h3
     simpa [hl] using ha
theorem add_at {a : Addr} (h : a.spot = none) (n : Nat) : a.add n = ⟨a.block, a.off + n, none⟩ := by
 unfold Addr.add
 split
 · rename_i h0; subst h0; cases a; simp_all
 · rfl
theorem spot_of_cell {w : World} {a : Addr} {v : Value} (h : w.cell? a = some v) : a.spot = none := by
 unfold World.cell? at h
 split at h
 · split at h
   · cases h
   · rename_i hs; simpa using hs
 · cases h
theorem i64_lit {n : Int} (h : (Lit.int .i64 n).wf = true) : I64 n := by
 simp [Lit.wf, IntKind.min, IntKind.max, IntKind.signed, IntKind.bits] at h
 unfold I64
 omega
theorem okWide_struct {P : Program} {w : World} {r : Reach} {base : Nat} {t : TypeId} {v : Value} {fs : Array Field} (ht : P.underlying t = some (.struct fs)) (h : Value.okWide P w r base t v) : ∃ cs, v = .agg cs := by
 simp only [Value.okWide, ht] at h
 obtain ⟨cs, h1, _⟩ := h
 exact ⟨cs, h1⟩
section
variable {H : Type} {enc : TypeId × Value → H} {w : World} {base : Nat} {spare : Nat → Bool} {held : Bool} {fuel : Nat} {t : TypeId} {cs : List Value} {x : DataW H × List MemPlace}
theorem open_sl {α : Type} {e : TypeId} {sz : Nat} {R : α → List Value → Prop} (ht : Tryz.prog.underlying t = some (.slice e)) (hc : Tryz.prog.cellsOf e = sz) (h0 : 0 < sz)
 (hR : ∀ n, n < fuel → ∀ cs x, DataW.trod enc Tryz.prog w base spare held n e cs = some x → ∃ a, R a cs) (h : DataW.trod enc Tryz.prog w base spare held fuel t cs = some x) :
 ∃ v l, cs = [v] ∧ SlRd w sz R v l := by
 rcases DataW.trod_slice ht h with ⟨rfl, _⟩ | ⟨a, len, cap, elems, rest, n, hf, rfl, rfl, hb, hl, hm, hlen, hel, _, _⟩
 · exact ⟨_, [], rfl, sl_none _ _ _⟩
 · have each : ∀ i, i < len → ∃ y, ∃ cs', w.cells? base (a.add (i * sz)) sz = some cs' ∧ R y cs' := fun i hi => by
     have h1 := hel i hi
     rw [hc] at h1
     have h2 : i < elems.length := by omega
     rw [List.getElem?_eq_getElem h2, Option.bind_eq_some_iff] at h1
     obtain ⟨cs', h3, h4⟩ := h1
     obtain ⟨y, hy⟩ := hR n (by omega) _ _ h4
     exact ⟨y, cs', h3, hy⟩
   obtain ⟨l, hll, hp⟩ := list_of len each
   subst hll
   refine ⟨_, l, rfl, some a, cap, rfl, ⟨by simp, hl⟩, hm, fun i hi => ?_⟩
   have hs : a.spot = none := by
    obtain ⟨_, cs0, h1, _⟩ := each 0 (by omega)
    have h2 := (World.cells?_some h1).2.2 0 h0
    have h3 : cs0.length = sz := (World.cells?_some h1).2.1
    rw [List.getElem?_eq_getElem (by omega)] at h2
    have := spot_of_cell h2
    simpa [Addr.add] using this
   obtain ⟨cs', h1, h2⟩ := hp i hi
   obtain ⟨_, h3, h4⟩ := World.cells?_some h1
   refine ⟨a.block, a.off, cs', by cases a; simp_all, h3, fun j hj => ?_, h2⟩
   have h5 := h4 j (by omega)
   rw [add_at hs, add_at rfl, List.getElem?_eq_getElem hj] at h5
   exact h5
theorem open_strs (h : DataW.trod enc Tryz.prog w base spare held fuel 22 cs = some x) : ∃ v l, cs = [v] ∧ Strs w v l :=
 open_sl Tryz.underlying22 (by kernel_rfl) (by decide) (fun n _ cs x h => by
   obtain ⟨s, rfl, _, hs⟩ := DataW.trod_string Tryz.underlying9 h
   exact ⟨s, rfl, hs⟩) h
theorem four {cs : List Value} (h : cs.length = 4) : ∃ a b c d, cs = [a, b, c, d] := by
 match cs, h with | [a, b, c, d], _ => exact ⟨a, b, c, d, rfl⟩
theorem two_ {cs : List Value} (h : cs.length = 2) : ∃ a b, cs = [a, b] := by
 match cs, h with | [a, b], _ => exact ⟨a, b, rfl⟩
theorem six {cs : List Value} (h : cs.length = 6) : ∃ a b c d e f, cs = [a, b, c, d, e, f] := by
 match cs, h with | [a, b, c, d, e, f], _ => exact ⟨a, b, c, d, e, f, rfl⟩
theorem at_some {α : Type} {l : List α} {i : Nat} (h : i < l.length) : ∃ y, l[i]? = some y := ⟨_, List.getElem?_eq_getElem h⟩
theorem c_int64 : Tryz.prog.cellsOf 2 = 1 := by kernel_rfl
theorem c_int : Tryz.prog.cellsOf 3 = 1 := by kernel_rfl
theorem c_string : Tryz.prog.cellsOf 9 = 1 := by kernel_rfl
theorem c_strs : Tryz.prog.cellsOf 22 = 1 := by kernel_rfl
theorem c_lats : Tryz.prog.cellsOf 23 = 1 := by kernel_rfl
theorem c_rules : Tryz.prog.cellsOf 24 = 1 := by kernel_rfl
theorem c_lat : Tryz.prog.cellsOf 26 = 6 := by kernel_rfl
theorem c_rule : Tryz.prog.cellsOf 131 = 2 := by kernel_rfl
theorem fld {fs : Array Field} {n : Nat} {xs : List (DataW H × List MemPlace)} (hf : ∀ (i : Nat) (f : Field), fs[i]? = some f → DataW.trod enc Tryz.prog w base spare held n f.type ((cs.drop f.offset).take (Tryz.prog.cellsOf f.type)) = xs[i]?)
 (i ty off k : Nat) {y : DataW H × List MemPlace} (h : (fs[i]?).map (fun f => (f.type, f.offset)) = some (ty, off)) (hc : Tryz.prog.cellsOf ty = k) (hx : xs[i]? = some y) : DataW.trod enc Tryz.prog w base spare held n ty ((cs.drop off).take k) = some y := by
 cases hi : fs[i]? with
 | none => rw [hi] at h; cases h
 | some f =>
   rw [hi] at h
   simp only [Option.map_some, Option.some.injEq, Prod.mk.injEq] at h
   obtain ⟨rfl, rfl⟩ := h
   rw [← hx, ← hf i f hi, hc]
theorem open_rule (h : DataW.trod enc Tryz.prog w base spare held fuel 131 cs = some x) : ∃ a, ruleRd w a cs := by
 obtain ⟨xs, n, _, _, hl, hn, hf⟩ := DataW.trod_struct Tryz.underlying131 h
 rw [c_rule] at hl
 obtain ⟨a, b, rfl⟩ := two_ hl
 obtain ⟨y0, e0⟩ := at_some (l := xs) (i := 0) (by rw [hn]; decide)
 obtain ⟨y1, e1⟩ := at_some (l := xs) (i := 1) (by rw [hn]; decide)
 have h0 : DataW.trod enc Tryz.prog w base spare held n 22 [a] = some y0 := fld hf 0 22 0 1 rfl c_strs e0
 have h1 : DataW.trod enc Tryz.prog w base spare held n 9 [b] = some y1 := fld hf 1 9 1 1 rfl c_string e1
 obtain ⟨v, l, hv, hs⟩ := open_strs h0
 obtain ⟨s, hq, _, ws⟩ := DataW.trod_string Tryz.underlying9 h1
 obtain ⟨rfl⟩ : a = v := by simpa using hv
 obtain ⟨rfl⟩ : b = .string s := by simpa using hq
 exact ⟨⟨l, s⟩, _, rfl, hs, ws⟩
theorem open_lat : ∀ (m : Nat) (fuel : Nat) (cs : List Value) (x : DataW H × List MemPlace), fuel < m → DataW.trod enc Tryz.prog w base spare held fuel 26 cs = some x → ∃ v, latRd w v cs
 | 0, _, _, _, hm, _ => by omega
 | m + 1, fuel, cs, x, hm, h => by
   obtain ⟨xs, n, hfu, _, hl, hn, hf⟩ := DataW.trod_struct Tryz.underlying26 h
   rw [c_lat] at hl
   obtain ⟨a, b, c, d, e, f, rfl⟩ := six hl
   obtain ⟨y0, e0⟩ := at_some (l := xs) (i := 0) (by rw [hn]; decide)
   obtain ⟨y1, e1⟩ := at_some (l := xs) (i := 1) (by rw [hn]; decide)
   obtain ⟨y2, e2⟩ := at_some (l := xs) (i := 2) (by rw [hn]; decide)
   obtain ⟨y3, e3⟩ := at_some (l := xs) (i := 3) (by rw [hn]; decide)
   obtain ⟨y4, e4⟩ := at_some (l := xs) (i := 4) (by rw [hn]; decide)
   obtain ⟨y5, e5⟩ := at_some (l := xs) (i := 5) (by rw [hn]; decide)
   have h0 : DataW.trod enc Tryz.prog w base spare held n 3 [a] = some y0 := fld hf 0 3 0 1 rfl c_int e0
   have h1 : DataW.trod enc Tryz.prog w base spare held n 2 [b] = some y1 := fld hf 1 2 1 1 rfl c_int64 e1
   have h2 : DataW.trod enc Tryz.prog w base spare held n 2 [c] = some y2 := fld hf 2 2 2 1 rfl c_int64 e2
   have h3 : DataW.trod enc Tryz.prog w base spare held n 22 [d] = some y3 := fld hf 3 22 3 1 rfl c_strs e3
   have h4 : DataW.trod enc Tryz.prog w base spare held n 23 [e] = some y4 := fld hf 4 23 4 1 rfl c_lats e4
   have h5 : DataW.trod enc Tryz.prog w base spare held n 24 [f] = some y5 := fld hf 5 24 5 1 rfl c_rules e5
   obtain ⟨p, hp, _, wp⟩ := DataW.trod_int Tryz.underlying3 h0
   obtain ⟨q, hq, _, wq⟩ := DataW.trod_int Tryz.underlying2 h1
   obtain ⟨r, hr, _, wr⟩ := DataW.trod_int Tryz.underlying2 h2
   obtain ⟨v1, l1, hv1, hs1⟩ := open_strs h3
   obtain ⟨v2, l2, hv2, hs2⟩ := open_sl (R := latRd w) Tryz.underlying23 c_lat (by decide) (fun k hk cs x hx => open_lat m k cs x (by omega) hx) h4
   obtain ⟨v3, l3, hv3, hs3⟩ := open_sl (R := ruleRd w) Tryz.underlying24 c_rule (by decide) (fun _ _ _ _ h => open_rule h) h5
   obtain ⟨rfl⟩ : a = .int .i64 p := by simpa using hp
   obtain ⟨rfl⟩ : b = .int .i64 q := by simpa using hq
   obtain ⟨rfl⟩ : c = .int .i64 r := by simpa using hr
   obtain ⟨rfl⟩ : d = v1 := by simpa using hv1
   obtain ⟨rfl⟩ : e = v2 := by simpa using hv2
   obtain ⟨rfl⟩ : f = v3 := by simpa using hv3
   exact ⟨.mk p q r l1 l2 l3, (latRd_iff _ _ _).2 ⟨_, _, _, rfl, ⟨i64_lit wp, i64_lit wq, i64_lit wr⟩, hs1, hs2, hs3⟩⟩
end
theorem arg_lat {H : Type} {enc : TypeId × Value → H} {W : World} {v : Value} {d : DataW H} {p : List MemPlace} (hv : ∃ cs, v = .agg cs) (h : DataW.Trod enc Tryz.prog W 0 (fun _ => true) true 26 v d p) :
    ∃ a cs, v = .agg cs.toArray ∧ latRd W a cs := by
  obtain ⟨cs, rfl⟩ := hv
  obtain ⟨fuel, hf⟩ := h
  obtain ⟨a, ha⟩ := open_lat _ fuel _ _ (Nat.lt_succ_self _) hf
  exact ⟨a, cs.toList, by simp, ha⟩
theorem tab_of {W : World} {a b : String × DataW Unit} (h : laidMetH Tryz.prog [a, b, ("internal/strconv.uint64pow10", Rows.laid_internal_strconv_uint64pow10)] W) (h1 : a.2.handleName? = none) (h2 : b.2.handleName? = none) : Tab W := by
 have h3 : laidMet Tryz.prog [a, b, ("internal/strconv.uint64pow10", Rows.laid_internal_strconv_uint64pow10)] W := by
  have e3 : (Rows.laid_internal_strconv_uint64pow10 (H := Unit)).handleName? = none := rfl
  unfold laidMetH at h
  simpa [List.filter, h1, h2, e3] using h
 obtain ⟨ps, h4, h5, h6⟩ := h3
 obtain ⟨_, _, _, _, _, q, _, _, _, _, h4, rfl⟩ := h4
 obtain ⟨_, _, _, _, _, q2, _, _, _, _, h4, rfl⟩ := h4
 refine Lib.tabIs_of_head (rest := []) (g := 1) (by kernel_rfl) (by kernel_rfl) Tryz.underlying167 Tryz.underlying105 (by kernel_rfl) (by kernel_rfl) ⟨q2, h4, ?_, fun b off hm => h6 b off (by simp [hm])⟩
 have := (List.nodup_append.1 h5).2.1
 exact (List.nodup_append.1 this).2.1
def RTrivOk (l : Lat) : Prop := ∀ (cl : List Value) (w : World), latRd w l cl → Calls Tryz.prog 73 #[.agg cl.toArray] w fun e w' => e = .returned (.bool (trivB l)) ∧ Below w.heap.size w w'
theorem one_box (w : World) (a : Array Value) (t : TypeId) : ∃ W2, Hid (w.alloc (.cells a t) = W2) ∧ Hid (∀ x : Ext W2, Below w.heap.size w x.1) ∧ Hid (Box W2 w.heap.size a) :=
 ⟨_, hid rfl, hid fun x => ((Below.refl _ _).alloc (Nat.le_refl _) _).trans (x.2.mono (by simp)), hid (Box.new _ _ _ _ rfl)⟩
theorem rTriv_any (f : Nat) : ∀ l : Lat, SizeOf.sizeOf l ≤ f → RTrivOk l := by
 induction f with
 | zero => intro l hn; cases l; simp at hn
 | succ f ih =>
   intro l hn cl w hl
   have IH : Hid (∀ p ∈ l.parts, RTrivOk p) := hid fun p hp => ih p (by have := sizeOf_lp hp; omega)
   obtain ⟨aln, cln, alp, clp, alr, clr, rfl, hli, hln, hlp, hlr, ⟨_, mln⟩, ⟨_, mlp⟩, _, mlr⟩ := latRd.lay hl
   obtain ⟨k, lo, hi, ns, ps, rs⟩ := l
   simp only [Lat.kind, Lat.lo, Lat.hi, Lat.names, Lat.parts, Lat.rules] at hli hln hlp hlr mln mlp mlr IH ⊢
   have HPS := hid hlp
   have HT : Hid (trivB (.mk k lo hi ns ps rs) = if k = 2 ∨ k = 3 then decide (lo = hi) else if k = 5 ∨ k = 6 ∨ k = 7 then trivBs ps else false) := hid (by rw [trivB])
   generalize trivB (.mk k lo hi ns ps rs) = T at HT ⊢
   clear hl hn ih hli hln hlp hlr
   have HB : Hid (∀ O, Below w.heap.size w (w.alloc O)) := hid fun O => (Below.refl _ _).alloc (Nat.le_refl _) O
   by_cases h23 : k = 2 ∨ k = 3
   · have HR : Hid (T = decide (lo = hi)) := hid (by rw [HT.out, if_pos h23])
     clear HT
     rcases h23 with rfl | rfl
     all_goals
      go_enter Tryz.func73, Tryz.ntmps73
      go_wp2_with fail
      go_ret
      exact ⟨ret_bool (by rw [HR.out, ← beqI']), HB.out _⟩
   by_cases h567 : k = 5 ∨ k = 6 ∨ k = 7
   · have HR : Hid (T = trivBs (ps.drop 0)) := hid (by rw [HT.out, if_neg h23, if_pos h567, List.drop_zero])
     clear HT h23
     obtain ⟨W, hW, HBL, HBX⟩ := one_box w #[.int .i64 k, .int .i64 lo, .int .i64 hi, .slice aln ns.length cln, .slice alp ps.length clp, .slice alr rs.length clr] 26
     rcases h567 with rfl | rfl | rfl
     all_goals
      go_enter Tryz.func73, Tryz.ntmps73
      go_wp2_with fail
      rw [hW.out]
      clear hW
      obtain ⟨l0, l1, l2, l3, l4, l5⟩ := bx6 fun x : Ext W => HBX.out.ext x
      go_loopw [3] (fun i wr => ∃ (j : Nat) (x : Ext W), j ≤ ps.length ∧ i = .int .i64 j ∧ wr = x.1 ∧ Hid (T = trivBs (ps.drop j))) (fun i _ => ps.length - (intOf i).toNat)
      case atStart => exact ⟨0, ⟨W, Below.refl _ _⟩, Nat.zero_le _, rfl, rfl, HR⟩
      case round =>
       obtain ⟨j, x, hj, rfl, rfl, He⟩ := hrel
       clear HR
       by_cases hlt : j < ps.length
       · obtain ⟨p, lb, lo2, an, cn, ap, cp, ar, cr, _, hmem, hdrop, htake, rfl, hyr, hyc⟩ := latEl HPS.out j hlt
         obtain ⟨y0, y1, y2, y3, y4, y5⟩ := cx6 fun y : Ext W => hyc.below (HBL.out y)
         have HJ : Hid (j + 1 ≤ ps.length) := hid hlt
         have HS : Hid (T = (trivB p && trivBs (ps.drop (j + 1)))) := hid (by rw [He.out, hdrop, trivBs])
         have HC : Hid (∀ y : Ext W, Calls Tryz.prog 73 #[.agg #[.int .i64 p.kind, .int .i64 p.lo, .int .i64 p.hi, .slice an p.names.length cn, .slice ap p.parts.length cp, .slice ar p.rules.length cr]] y.1 fun e w' => e = .returned (.bool (trivB p)) ∧ ∃ z : Ext W, w' = z.1) := hid fun y => ext_call y (IH.out p hmem [.int .i64 p.kind, .int .i64 p.lo, .int .i64 p.hi, .slice an p.names.length cn, .slice ap p.parts.length cp, .slice ar p.rules.length cr] _ (latRd.below (HBL.out y) _ _ hyr))
         have hi1 : (j : Int) < (ps.length : Int) := by omega
         generalize trivB p = B at HS HC
         clear He hyr hyc hdrop htake hj
         go_wp2_with fail
         refine (HC.out _).mono ?_
         rintro e _ ⟨rfl, x1, rfl⟩
         cases B
         · have HF : Hid (T = false) := hid (by rw [HS.out]; rfl)
           go_wp2_with fail
           go_ret
           exact ⟨ret_bool HF.out.symm, HBL.out x1⟩
         · have HF : Hid (T = trivBs (ps.drop (j + 1))) := hid (by rw [HS.out]; rfl)
           clear HS HC
           go_wp2_with fail
           go_roundw
           case rel => exact ⟨j + 1, x1, HJ.out, by go_num, rfl, HF⟩
           case measure => have := HJ.out; simp [intOf]; omega
       · have hjj : j = ps.length := by omega
         subst hjj
         have HF : Hid (T = true) := hid (by rw [He.out, List.drop_eq_nil_of_le (Nat.le_refl _), trivBs])
         clear hlt hj He
         go_wp2_with fail
         go_ret
         exact ⟨ret_bool HF.out.symm, HBL.out x⟩
   · have HR : Hid (T = false) := hid (by rw [HT.out, if_neg h23, if_neg h567])
     have e2 : (k == 2) = false := by simp; omega
     have e3 : (k == 3) = false := by simp; omega
     have e5 : (k == 5) = false := by simp; omega
     have e6 : (k == 6) = false := by simp; omega
     have e7 : (k == 7) = false := by simp; omega
     clear h23 h567 HT
     go_enter Tryz.func73, Tryz.ntmps73
     go_wp2_with fail
     go_ret
     exact ⟨ret_bool HR.out.symm, HB.out _⟩
def RTopOk (l : Lat) : Prop := ∀ (cl : List Value) (w : World), latRd w l cl → Calls Tryz.prog 40 #[.agg cl.toArray] w (TopPost w (topV l))
theorem rtop_n (l : Lat) (hwf : WfL l) (hk : l.kind = 1 ∨ l.kind = 2 ∨ l.kind = 3 ∨ l.kind = 8 ∨ l.kind = 9) : RTopOk l := by
 intro cl w hl
 obtain ⟨aln, cln, alp, clp, alr, clr, rfl, hli, hln, hlp, hlr, ⟨_, mln⟩, ⟨_, mlp⟩, _, mlr⟩ := latRd.lay hl
 have HKD := hid hwf.kinds
 obtain ⟨k, lo, hi, ns, ps, rs⟩ := l
 simp only [Lat.kind, Lat.lo, Lat.hi, Lat.names, Lat.parts, Lat.rules] at *
 have HLN := hid hln
 have HLP := hid hlp
 have HI := hid hli
 have HST := hid (BvSt.start w #[.int .i64 k, .int .i64 lo, .int .i64 hi, .slice aln ns.length cln, .slice alp ps.length clp, .slice alr rs.length clr])
 clear hl hwf hli hln hlp hlr
 rcases hk with rfl | rfl | rfl | rfl | rfl
 · have HT : Hid (topV (.mk 1 lo hi ns ps rs) = (.mk 1 [] [] [], true)) := hid (by rw [topV]; rfl)
   generalize topV (.mk 1 lo hi ns ps rs) = R at HT ⊢
   go_enter Tryz.func40, Tryz.ntmps40
   go_wp2_with fail
   refine bodyPost_ret (v := .tuple #[.agg #[.int .i64 1, .slice none 0 0, .slice none 0 0, .slice none 0 0], .bool true]) (by simp [results, Tryz.results40, go_sem]) rfl ⟨[_, _, _, _], by rw [HT.out], by rw [HT.out]; exact valRd_flat _ _ (by unfold I64; omega), by repeat (first | exact Below.refl _ _ | refine Below.setCell ?_ (by simp) _ | refine Below.alloc ?_ (by simp <;> omega) _ | refine Below.drew ?_)⟩
 · have HT : Hid (topV (.mk 2 lo hi ns ps rs) = (.mk hi [] [] [], true)) := hid (by rw [topV]; rfl)
   generalize topV (.mk 2 lo hi ns ps rs) = R at HT ⊢
   go_enter Tryz.func40, Tryz.ntmps40
   go_wp2_with fail
   refine bodyPost_ret (v := .tuple #[.agg #[.int .i64 hi, .slice none 0 0, .slice none 0 0, .slice none 0 0], .bool true]) (by simp [results, Tryz.results40, go_sem]) rfl ⟨[_, _, _, _], by rw [HT.out], by rw [HT.out]; exact valRd_flat _ _ HI.out.2.2, by repeat (first | exact Below.refl _ _ | refine Below.setCell ?_ (by simp) _ | refine Below.alloc ?_ (by simp <;> omega) _ | refine Below.drew ?_)⟩
 · have HT : Hid (topV (.mk 3 lo hi ns ps rs) = (.mk lo [] [] [], true)) := hid (by rw [topV]; rfl)
   generalize topV (.mk 3 lo hi ns ps rs) = R at HT ⊢
   go_enter Tryz.func40, Tryz.ntmps40
   go_wp2_with fail
   refine bodyPost_ret (v := .tuple #[.agg #[.int .i64 lo, .slice none 0 0, .slice none 0 0, .slice none 0 0], .bool true]) (by simp [results, Tryz.results40, go_sem]) rfl ⟨[_, _, _, _], by rw [HT.out], by rw [HT.out]; exact valRd_flat _ _ HI.out.2.1, by repeat (first | exact Below.refl _ _ | refine Below.setCell ?_ (by simp) _ | refine Below.alloc ?_ (by simp <;> omega) _ | refine Below.drew ?_)⟩
 · have HT : Hid (topV (.mk 8 lo hi ns ps rs) = (.mk 2 [] [] [], true)) := hid (by rw [topV]; rfl)
   generalize topV (.mk 8 lo hi ns ps rs) = R at HT ⊢
   go_enter Tryz.func40, Tryz.ntmps40
   go_wp2_with fail
   refine bodyPost_ret (v := .tuple #[.agg #[.int .i64 2, .slice none 0 0, .slice none 0 0, .slice none 0 0], .bool true]) (by simp [results, Tryz.results40, go_sem]) rfl ⟨[_, _, _, _], by rw [HT.out], by rw [HT.out]; exact valRd_flat _ _ (by unfold I64; omega), by repeat (first | exact Below.refl _ _ | refine Below.setCell ?_ (by simp) _ | refine Below.alloc ?_ (by simp <;> omega) _ | refine Below.drew ?_)⟩
 · have HT : Hid (topV (.mk 9 lo hi ns ps rs) = (zeroV, false)) := hid (by rw [topV]; rfl)
   generalize topV (.mk 9 lo hi ns ps rs) = R at HT ⊢
   go_enter Tryz.func40, Tryz.ntmps40
   go_wp2_with fail
   refine bodyPost_ret (v := .tuple #[.agg #[.int .i64 0, .slice none 0 0, .slice none 0 0, .slice none 0 0], .bool false]) (by simp [results, Tryz.results40, go_sem]) rfl ⟨[_, _, _, _], by rw [HT.out], by rw [HT.out]; exact zeroV_rd _, by repeat (first | exact Below.refl _ _ | refine Below.setCell ?_ (by simp) _ | refine Below.alloc ?_ (by simp <;> omega) _ | refine Below.drew ?_)⟩
theorem rtop_s (l : Lat) (hwf : WfL l) (hk : l.kind = 4 ∨ l.kind = 10) : RTopOk l := by
 intro cl w hl
 obtain ⟨aln, cln, alp, clp, alr, clr, rfl, hli, hln, hlp, hlr, ⟨_, mln⟩, ⟨_, mlp⟩, _, mlr⟩ := latRd.lay hl
 have HKD := hid hwf.kinds
 obtain ⟨k, lo, hi, ns, ps, rs⟩ := l
 simp only [Lat.kind, Lat.lo, Lat.hi, Lat.names, Lat.parts, Lat.rules] at *
 have HLN := hid hln
 have HLP := hid hlp
 have HI := hid hli
 have HST := hid (BvSt.start w #[.int .i64 k, .int .i64 lo, .int .i64 hi, .slice aln ns.length cln, .slice alp ps.length clp, .slice alr rs.length clr])
 clear hl hwf hli hln hlp hlr
 have HT : Hid (topV (.mk k lo hi ns ps rs) = (.mk 0 ns [] [], decide (0 < ns.length))) := hid (by rcases hk with rfl | rfl <;> (rw [topV]; rfl))
 generalize topV (.mk k lo hi ns ps rs) = R at HT ⊢
 have HNL : Hid (ns.length ≤ 1000) := hid (by have := HKD.out; omega)
 have HLE := hid (strs_le HLN.out)
 have HSRC := hid (Src.of_strs (Strs.below HLN.out HST.out.bel))
 have HBG := hid HST.out.big
 obtain ⟨i0, hi0, hz0, hz1, hz2⟩ := info_parts infoString
 rcases hk with rfl | rfl
 all_goals
  go_enter Tryz.func40, Tryz.ntmps40
  go_wp2_with (at_builtin; refine wpList_append rfl (.tmp 37) (.tmp 39) 22 rfl (w.heap.size + 3) 9 1 16 Tryz.underlying22 hi0 hz0 hz1 hz2 rfl (by decide) (.slice none 0 0) 0 [] rfl (World.ownsRow_nil _ _ _ _) (.slice aln ns.length cln) ns.length (ns.map Value.string) rfl HSRC.out ns.length (Nat.zero_add _) (ns.map Value.string) rfl (by have := HNL.out; unfold maxLen; omega) (by have := HNL.out; omega) HBG.out ?_; intro na nc w1 had; have HAD := hid had; have ST1 := hid (HST.out.grown had.grown (fun g hg => by simp [Value.ownBlock] at hg)); have v1 := ST1.out.cellV (i := 1) rfl; have z1 := ST1.out.freeV 1; clear had)
  have ST2 := hid (ST1.out.set 1 (.slice na ns.length nc) (n' := .int .i64 0) rfl)
  have HS := hid (strs_owns HAD.out.own HLE.out)
  have HRD : Hid (valRd (only (from_ (w.heap.size + 3)) (w1.setCell ⟨w.heap.size + 1 + 1, 1, none⟩ (.slice na ns.length nc))) (.mk 0 ns [] []) [.int .i64 0, .slice na ns.length nc, .slice none 0 0, .slice none 0 0]) := hid ((valRd_iff _ _ _).2 ⟨_, _, _, rfl, i64_0, Strs.mono HS.out (only_keep fun g hg _ => by
   have hg' := of_decide_eq_true hg
   exact ⟨decide_eq_true (by omega), Below.heap_setCell _ _ _ _ (by show g ≠ w.heap.size + 1 + 1; omega)⟩), sl_none _ _ _, sl_none _ _ _⟩)
  clear v1 z1 HAD
  generalize w1.setCell ⟨w.heap.size + 1 + 1, 1, none⟩ (.slice na ns.length nc) = w2 at ST2 HRD ⊢
  have l3 := ST2.out.cellL (i := 3) rfl
  have r0 := ST2.out.cellR (i := 0) rfl
  have e0 := ST2.out.freeR 0
  have r1 := ST2.out.cellR (i := 1) rfl
  have e1 := ST2.out.freeR 1
  have r2 := ST2.out.cellR (i := 2) rfl
  have e2 := ST2.out.freeR 2
  have r3 := ST2.out.cellR (i := 3) rfl
  have e3 := ST2.out.freeR 3
  have u0 := ST2.out.cellV (i := 0) rfl
  have u1 := ST2.out.cellV (i := 1) rfl
  have u2 := ST2.out.cellV (i := 2) rfl
  have u3 := ST2.out.cellV (i := 3) rfl
  go_region_law (fail)
  all_goals
   go_wp2_with fail
   refine bodyPost_ret (v := .tuple #[.agg #[.int .i64 0, .slice na ns.length nc, .slice none 0 0, .slice none 0 0], .bool (decide (0 < ns.length))]) (by simp [results, Tryz.results40, go_sem, r0, r1, r2, r3, e0, e1, e2, e3]) rfl (TopPost.drew (BvSt.post ST2.out HRD.out HT.out _ _ _ _))
theorem rtop_67 (l : Lat) (hwf : WfL l) (hk : l.kind = 6 ∨ l.kind = 7) (ih : ∀ p ∈ l.parts, RTopOk p) : RTopOk l := by
 intro cl w hl
 obtain ⟨aln, cln, alp, clp, alr, clr, rfl, hli, hln, hlp, hlr, ⟨_, mln⟩, ⟨_, mlp⟩, _, mlr⟩ := latRd.lay hl
 have HKD := hid hwf.kinds
 obtain ⟨k, lo, hi, ns, ps, rs⟩ := l
 simp only [Lat.kind, Lat.lo, Lat.hi, Lat.names, Lat.parts, Lat.rules] at *
 have HLN := hid hln
 have HLP := hid hlp
 have HI := hid hli
 have HST := hid (BvSt.start w #[.int .i64 k, .int .i64 lo, .int .i64 hi, .slice aln ns.length cln, .slice alp ps.length clp, .slice alr rs.length clr])
 clear hl hwf hli hln hlp hlr
 have IH := hid ih
 have HP8 : Hid (ps.length ≤ 8) := hid (by have := HKD.out; omega)
 have HT2 : Hid (topV (.mk k lo hi ns ps rs) = if ((ps.drop 0).all fun p => (topV p).2) then (.mk 0 [] (ps.map fun p => (topV p).1) [], true) else (zeroV, false)) := hid (by
  have h : topV (.mk k lo hi ns ps rs) = if topOk ps then (.mk 0 [] (topVs ps) [], true) else (zeroV, false) := by rcases hk with rfl | rfl <;> (rw [topV]; rfl)
  rw [h, topOk_eq, topVs_eq]; rfl)
 generalize topV (.mk k lo hi ns ps rs) = R at HT2 ⊢
 clear ih HKD
 obtain ⟨j0, hj0, hy0, hy1, hy2⟩ := info_parts infoVal
 obtain ⟨lc, hlc⟩ : ∃ lc, lc = (#[.int .i64 k, .int .i64 lo, .int .i64 hi, .slice aln ns.length cln, .slice alp ps.length clp, .slice alr rs.length clr] : Array Value) := ⟨_, rfl⟩
 have HLC := hid hlc
 have HC4 : Hid (lc[4]? = some (.slice alp ps.length clp)) := hid (by rw [hlc]; rfl)
 clear hlc
 rcases hk with rfl | rfl
 all_goals
  go_enter Tryz.func40, Tryz.ntmps40
  go_wp2_with fail
  go_loopw [8] (fun i wr => ∃ (j : Nat) (vq : Value) (L : List Val) (cV : List (List Value)), j ≤ ps.length ∧ i = .int .i64 j ∧ Hid (BvSt w wr lc (.int .i64 0) (.slice none 0 0) vq (.slice none 0 0)) ∧
      Hid (L = (ps.take j).map fun p => (topV p).1) ∧ Hid (L.length = j) ∧ Hid (Rws wr (w.heap.size + 3) 30 4 valRd vq L cV) ∧ Hid (R = if ((ps.drop j).all fun p => (topV p).2) then (.mk 0 [] (ps.map fun p => (topV p).1) [], true) else (zeroV, false))) (fun i _ => ps.length - (intOf i).toNat)
  case atStart => exact ⟨0, _, [], [], Nat.zero_le _, rfl, hid (by rw [HLC.out]; exact HST.out), hid rfl, hid rfl, hid (Rws.nil _ _ _ _ _), HT2⟩
  case round =>
   obtain ⟨j, vq, L, cV, hj, rfl, STW, HL, HLEN, HRP, He⟩ := hrel
   obtain ⟨aq, cq, rfl⟩ := owns_shape HRP.out.own
   clear HT2 HST HLC
   by_cases hlt : j < ps.length
   · obtain ⟨p, lb, lo2, an, cn, ap, cp, ar, cr, _, hmem, hdrop, htake, rfl, hyr, hyc⟩ := latEl HLP.out j hlt
     obtain ⟨y0, y1, y2, y3, y4, y5⟩ := (hyc.below STW.out.bel).six
     have l4 := STW.out.cellL (i := 4) HC4.out
     have HYR := hid hyr
     have HJ : Hid (j + 1 ≤ 9223372036854775807 ∧ j + 1 ≤ ps.length) := hid (by omega)
     have hi1 : (j : Int) < (ps.length : Int) := by omega
     have HS : Hid (R = if (topV p).2 && ((ps.drop (j + 1)).all fun p => (topV p).2) then (.mk 0 [] (ps.map fun p => (topV p).1) [], true) else (zeroV, false)) := hid (by rw [He.out, hdrop, List.all_cons])
     have HL2 : Hid (L ++ [(topV p).1] = (ps.take (j + 1)).map fun p => (topV p).1) := hid (by rw [HL.out, htake, List.map_append]; rfl)
     have HMY : Hid (L.length + 1 ≤ maxLen ∧ (L.length + 1) * 80 ≤ 140737488355328) := hid (by have := HP8.out; have := HLEN.out; unfold maxLen; omega)
     have HTO := hid (IH.out p hmem)
     clear hyr hyc hmem hdrop htake He
     go_wp2_with fail
     refine (HTO.out [.int .i64 p.kind, .int .i64 p.lo, .int .i64 p.hi, .slice an p.names.length cn, .slice ap p.parts.length cp, .slice ar p.rules.length cr] _ (latRd.below STW.out.bel _ _ HYR.out)).mono ?_
     generalize topV p = T at HS HL2 ⊢
     obtain ⟨x, ok⟩ := T
     simp only at HS HL2 ⊢
     rintro e w7 ⟨cs7, rfl, hv7, hb7⟩
     have ST7 := hid (STW.out.below hb7)
     have HR7 : Hid (Rws w7 (w.heap.size + 3) 30 4 valRd (.slice aq L.length cq) L cV) := hid (HRP.out.keep valRd_mono' fun b _ hl => hb7.block b hl)
     have HOLD : Hid (∀ g, (Value.slice aq L.length cq).ownBlock = some g → g < wr.heap.size) := hid fun g h => (HRP.out.own.lt g h).2
     have HBG : Hid (w.heap.size + 3 ≤ wr.heap.size) := hid STW.out.big
     generalize wr.heap.size = B6 at hv7 HOLD HBG
     have HV7 : Hid (valRd (only (from_ B6) w7) x cs7) := hid hv7
     obtain ⟨xn, xcn, xp, xcp, xe, xce, rfl, _, hsn, hsp, hse, _⟩ := valRd.lay hv7
     have ST8 := hid (ST7.out.alloc (.cells #[.int .i64 x.n, .slice xn x.names.length xcn, .slice xp x.parts.length xcp, .slice xe x.entries.length xce] 30 (0, 0)))
     have HR8 : Hid (Rws (w7.alloc (.cells #[.int .i64 x.n, .slice xn x.names.length xcn, .slice xp x.parts.length xcp, .slice xe x.entries.length xce] 30 (0, 0))) (w.heap.size + 3) 30 4 valRd (.slice aq L.length cq) L cV) := hid (HR7.out.keep valRd_mono' fun b _ hl => Below.heap_alloc _ _ _ hl)
     have HV8 : Hid (valRd (only (from_ B6) (w7.alloc (.cells #[.int .i64 x.n, .slice xn x.names.length xcn, .slice xp x.parts.length xcp, .slice xe x.entries.length xce] 30 (0, 0)))) x [.int .i64 x.n, .slice xn x.names.length xcn, .slice xp x.parts.length xcp, .slice xe x.entries.length xce]) := hid (valRd_mono' (only_keep fun b hb hl => ⟨hb, Below.heap_alloc _ _ _ hl⟩) HV7.out)
     have HPB : Hid (∀ (i : Nat) (v : Value), #[.int .i64 x.n, .slice xn x.names.length xcn, .slice xp x.parts.length xcp, .slice xe x.entries.length xce][i]? = some v → (w7.alloc (.cells #[.int .i64 x.n, .slice xn x.names.length xcn, .slice xp x.parts.length xcp, .slice xe x.entries.length xce] 30 (0, 0))).cell? ⟨w7.heap.size, i, none⟩ = some v) := hid fun i v hv => by
       rw [World.cell?_alloc_at _ _ _ _ rfl]; exact hv
     clear hv7 hb7 hsn hsp hse y0 y1 y2 y3 y4 y5 l4 STW HRP HV7
     cases ok with
     | false =>
       have HF : Hid (R = (zeroV, false)) := hid (by rw [HS.out]; rfl)
       clear HS
       have r0 : ∀ O, (w7.alloc O).cell? ⟨w.heap.size + 1, 0, none⟩ = some _ := fun O => (ST7.out.alloc O).cellR (i := 0) rfl
       have e0 := fun O => (ST7.out.alloc O).freeR 0
       have r1 : ∀ O, (w7.alloc O).cell? ⟨w.heap.size + 1, 1, none⟩ = some _ := fun O => (ST7.out.alloc O).cellR (i := 1) rfl
       have e1 := fun O => (ST7.out.alloc O).freeR 1
       have r2 : ∀ O, (w7.alloc O).cell? ⟨w.heap.size + 1, 2, none⟩ = some _ := fun O => (ST7.out.alloc O).cellR (i := 2) rfl
       have e2 := fun O => (ST7.out.alloc O).freeR 2
       have r3 : ∀ O, (w7.alloc O).cell? ⟨w.heap.size + 1, 3, none⟩ = some _ := fun O => (ST7.out.alloc O).cellR (i := 3) rfl
       have e3 := fun O => (ST7.out.alloc O).freeR 3
       go_wp2_with fail
       (try simp only [Exit.inBlock, Exit.then])
       refine bodyPost_ret (v := .tuple #[.agg #[.int .i64 0, .slice none 0 0, .slice none 0 0, .slice none 0 0], .bool false]) (by simp [results, Tryz.results40, go_sem, r0, r1, r2, r3, e0, e1, e2, e3]) rfl (BvSt.post0 ST8.out HF.out _ _ _ _)
     | true =>
       have HF : Hid (R = if ((ps.drop (j + 1)).all fun p => (topV p).2) then (.mk 0 [] (ps.map fun p => (topV p).1) [], true) else (zeroV, false)) := hid (by rw [HS.out]; rfl)
       clear HS
       have k2 : ∀ O, (w7.alloc O).cell? ⟨w.heap.size + 1 + 1, 2, none⟩ = some (.slice aq L.length cq) := fun O => (ST7.out.alloc O).cellV (i := 2) rfl
       have HOWV : Hid (∀ O O', ((w7.alloc O).alloc O').ownsRow (w.heap.size + 3) 30 4 (.slice aq L.length cq) L.length cV.flatten) := hid fun O O' => owns_below HR7.out.own (((Below.refl _ _).alloc (Nat.le_refl _) O).alloc (by simp) O')
       have HBV : Hid (∀ O O', w.heap.size + 3 ≤ ((w7.alloc O).alloc O').heap.size) := hid fun O O' => ((ST7.out.alloc O).alloc O').big
       go_wp2_with (at_builtin; refine wpList_append rfl (.tmp 118) (.tmp 120) 27 rfl (w.heap.size + 3) 30 4 80 Tryz.underlying27 hj0 hy0 hy1 hy2 rfl (by decide) (.slice aq L.length cq) L.length cV.flatten rfl (HOWV.out _ _) _ 1 [.int .i64 x.n, .slice xn x.names.length xcn, .slice xp x.parts.length xcp, .slice xe x.entries.length xce] rfl (Src.of_block (cs := #[.int .i64 x.n, .slice xn x.names.length xcn, .slice xp x.parts.length xcp, .slice xe x.entries.length xce]) (heap_new_at _ _ _ (by simp)) 4 1 1 rfl (by simp [Value.oneCell'])) (L.length + 1) rfl _ rfl HMY.out.1 HMY.out.2 (HBV.out _ _) ?_; intro na2 nc2 w9 had; have HAD := hid had; have ST9 := hid ((ST8.out.alloc (.cells #[.int .i64 x.n, .slice xn x.names.length xcn, .slice xp x.parts.length xcp, .slice xe x.entries.length xce] 30 (0, 0))).grown had.grown (fun g hg => own_base (HOWV.out (.cells #[] 0 (0, 0)) (.cells #[] 0 (0, 0))) hg)); have kv2 := ST9.out.cellV (i := 2) rfl; have zv2 := ST9.out.freeV 2; clear had)
       all_goals
        have STA := hid (ST9.out.set 2 (.slice na2 (L.length + 1) nc2) (n' := .int .i64 0) rfl)
        have HPA : Hid (Rws (w9.setCell ⟨w.heap.size + 1 + 1, 2, none⟩ (.slice na2 (L.length + 1) nc2)) (w.heap.size + 3) 30 4 valRd (.slice na2 (L.length + 1) nc2) (L ++ [x]) (cV ++ [[.int .i64 x.n, .slice xn x.names.length xcn, .slice xp x.parts.length xcp, .slice xe x.entries.length xce]])) := hid
         (((HR8.out.keep valRd_mono' fun b _ hl => Below.heap_alloc _ (.cells #[.int .i64 x.n, .slice xn x.names.length xcn, .slice xp x.parts.length xcp, .slice xe x.entries.length xce] 30 (0, 0)) _ hl).push valRd_mono' HAD.out rfl rfl rfl (valRd_mono' (only_keep fun b hb hl => by
             have hb' := of_decide_eq_true hb
             refine ⟨?_, Below.heap_alloc _ _ _ hl⟩
             unfold butOwn
             simp only [Bool.and_eq_true, decide_eq_true_eq]
             refine ⟨by have := HBG.out; omega, fun e => ?_⟩
             have := HOLD.out b e; omega) HV8.out)).keep valRd_mono' fun b hb _ => Below.heap_setCell _ _ _ _ (by show b ≠ w.heap.size + 1 + 1; omega))
        have HLV : Hid ((L ++ [x]).length = j + 1) := hid (by have := HLEN.out; simp; omega)
        clear HAD kv2 zv2 k2
        go_wp2_with fail
        go_roundw
        case rel => exact ⟨j + 1, _, L ++ [x], _, HJ.out.2, by go_num, STA, HL2, HLV, HPA, HF⟩
        case measure => have := HJ.out; simp [intOf]; omega
   · have hjj : j = ps.length := by omega
     subst hjj
     have HF : Hid (R = (.mk 0 [] L [], true)) := hid (by rw [He.out, HL.out, List.drop_length, List.take_length]; rfl)
     have HRS := hid (HRP.out.reads valRd_mono')
     have l4 := STW.out.cellL (i := 4) HC4.out
     have r0 := STW.out.cellR (i := 0) rfl
     have e0 := STW.out.freeR 0
     have u0 := STW.out.cellV (i := 0) rfl
     have r1 := STW.out.cellR (i := 1) rfl
     have e1 := STW.out.freeR 1
     have u1 := STW.out.cellV (i := 1) rfl
     have r2 := STW.out.cellR (i := 2) rfl
     have e2 := STW.out.freeR 2
     have u2 := STW.out.cellV (i := 2) rfl
     have r3 := STW.out.cellR (i := 3) rfl
     have e3 := STW.out.freeR 3
     have u3 := STW.out.cellV (i := 3) rfl
     go_wp2_with fail
     (try simp only [Exit.inBlock, Exit.then])
     refine bodyPost_ret (v := .tuple #[.agg #[.int .i64 0, .slice none 0 0, .slice aq L.length cq, .slice none 0 0], .bool true]) (by simp [results, Tryz.results40, go_sem, r0, r1, r2, r3, e0, e1, e2, e3]) rfl (BvSt.post STW.out (valRd_parts _ HRS.out) HF.out _ _ _ _)
section
variable {P : Program} {ops : Array Oper} {Q : Exit → Act → World → Prop} {md : Region.Mode} {S0 S : World → Prop} {g : Nat}
def wpAnyT (P : Program) (md : Region.Mode) (ops : Array Oper) (Q : Exit → Act → World → Prop) (S0 S : World → Prop) (g : Nat) : Nat → Array Bool → Act → World → Prop
 | 0, listed, a, w => Region.ready md ops listed = [] ∧ Q .normal a w
 | fuel + 1, listed, a, w => (Region.ready md ops listed = [] → Q .normal a w) ∧
   ∀ i ∈ Region.ready md ops listed, wpOp P ops Q i (fun a' w' => (S0 w' ∧ ((listed.setIfInBounds i true).getD g true = false → S w')) ∧ wpAnyT P md ops Q S0 S g fuel (listed.setIfInBounds i true) a' w') a w
theorem wpAny_of_T : ∀ (fuel : Nat) (listed : Array Bool) (a : Act) (w : World), wpAnyT P md ops Q S0 S g fuel listed a w → wpAny P md ops Q fuel listed a w
 | 0, _, _, _, h => h
 | fuel + 1, _, _, _, h => ⟨h.1, fun i hi => wpOp_mono (fun a' w' h' => wpAny_of_T fuel _ a' w' h'.2) (h.2 i hi)⟩
theorem wpT_first {i : Nat} {oi : Oper} {v : Value} {R : World → Prop}
 (hig : i ≠ g) (hR : (∀ u, S0 u → R u) ∨ ((∀ og, ops[g]? = some og → ∃ e ∈ og.after, Region.binds md e = true ∧ e.on = i) ∧ ∀ u, S u → R u)) (hi : ops[i]? = some oi)
 (hsel : ∀ (j : Nat) (o : Oper) cs b, ops[j]? = some o → o.op ≠ .select cs b) (hQ : ∀ c a w, Q (.panic c) (a.put oi.dst v) w → Q (.panic c) a w) :
 ∀ (fuel : Nat) (listed : Array Bool) (a : Act) (w : World),
  (∀ j oj, ops[j]? = some oj → j ≠ i → listed.getD j true = false → (∀ e ∈ oj.after, Region.binds md e = true → e.on ≠ i) → oi.apart ops oj = true) →
  i ∈ Region.ready md ops listed → YieldsIf P ops R oi v a → ((∀ u, S0 u → R u) ∨ listed.getD g true = false) → (S0 w ∧ (listed.getD g true = false → S w)) →
  wpAnyT P md ops Q S0 S g fuel (listed.setIfInBounds i true) (a.put oi.dst v) w → wpAnyT P md ops Q S0 S g (fuel + 1) listed a w := by
 intro fuel
 have hw : ∀ {listed : Array Bool} {w : World}, ((∀ u, S0 u → R u) ∨ listed.getD g true = false) → (S0 w ∧ (listed.getD g true = false → S w)) → R w := fun {listed w} h1 h2 => by
  rcases hR with h | ⟨_, h⟩
  · exact h _ h2.1
  · rcases h1 with h' | h'
    · exact h' _ h2.1
    · exact h _ (h2.2 h')
 have hset : ∀ {listed : Array Bool} {w : World}, (S0 w ∧ (listed.getD g true = false → S w)) → (S0 w ∧ ((listed.setIfInBounds i true).getD g true = false → S w)) := fun {listed w} h => ⟨h.1, fun h' => h.2 (by
  rw [getD_set_ne true hig] at h'; exact h')⟩
 induction fuel with
 | zero =>
  intro listed a w _ hr hy hg hS H
  refine ⟨fun h => (by rw [h] at hr; cases hr), fun j hj => ?_⟩
  by_cases hji : j = i
  · subst hji; exact hy.wpOp hi (hw hg hS) ⟨hset hS, H⟩
  · have := ready_mono hj hji
    rw [H.1] at this
    cases this
 | succ fuel ih =>
  intro listed a w hfree hr hy hg hS H
  refine ⟨fun h => (by rw [h] at hr; cases hr), fun j hj => ?_⟩
  by_cases hji : j = i
  · subst hji; exact hy.wpOp hi (hw hg hS) ⟨hset hS, H⟩
  · have h1 := H.2 j (ready_mono hj hji)
    obtain ⟨hjun, oj, hoj, hall⟩ := mem_ready.1 hj
    have hnot : ∀ e ∈ oj.after, Region.binds md e = true → e.on ≠ i := fun e he hb heq => by
     have h1 := hall e he hb
     have h0 := (mem_ready.1 hr).1
     rw [heq] at h1
     rcases Nat.lt_or_ge i listed.size with h' | h'
     · simp [h'] at h0 h1; rw [h0] at h1; cases h1
     · simp [Array.getElem?_eq_none h'] at h1
    have h2 := wpOp_putIf hoj (hfree j oj hoj hji hjun hnot) (fun cs b => hsel i oi cs b hi) (fun cs b => hsel j oj cs b hoj) hQ hy h1
    have hfree' : ∀ k ok, ops[k]? = some ok → k ≠ i → (listed.setIfInBounds j true).getD k true = false →
      (∀ e ∈ ok.after, Region.binds md e = true → e.on ≠ i) → oi.apart ops ok = true := fun k ok hk hki hun hno => by
     refine hfree k ok hk hki ?_ hno
     by_cases hjk : j = k
     · subst hjk; exact hjun
     · rw [getD_set_ne true hjk] at hun; exact hun
    have hg' : (∀ u, S0 u → R u) ∨ (listed.setIfInBounds j true).getD g true = false := by
     rcases hR with h | ⟨hwt, _⟩
     · exact .inl h
     · rcases hg with h | h
       · exact .inl h
       · have hjg : j ≠ g := fun e => by
          subst e
          obtain ⟨e, he, hb, ho⟩ := hwt oj hoj
          exact hnot e he hb ho
         exact .inr (by rw [getD_set_ne true hjg]; exact h)
    refine wpOp_mono (fun a' w' h3 => ?_) h2
    have hs : S0 w' ∧ ((listed.setIfInBounds j true).getD g true = false → S w') := ⟨h3.2.1.1, fun h => h3.2.1.2 (by
     rw [Array.setIfInBounds_comm _ _ (Ne.symm hji), getD_set_ne true hig]; exact h)⟩
    refine ⟨hs, ih (listed.setIfInBounds j true) a' w' hfree' (ready_mono hr (Ne.symm hji)) h3.1 hg' hs ?_⟩
    rw [Array.setIfInBounds_comm _ _ hji]
    exact h3.2.2
theorem wpT_take0 {i : Nat} {oi : Oper} {v : Value} {fuel : Nat} {listed : Array Bool} {a : Act} {w : World} (hi : ops[i]? = some oi) (hn : (i != g) = true)
 (hs : Region.noSelect ops = true) (hf : Region.free md ops listed i = true) (hr : (Region.ready md ops listed).contains i = true)
 (hQ : ∀ c a w, Q (.panic c) (a.put oi.dst v) w → Q (.panic c) a w) (hy : YieldsIf P ops S0 oi v a) (hS : S0 w ∧ (listed.getD g true = false → S w))
 (h : wpAnyT P md ops Q S0 S g fuel (listed.setIfInBounds i true) (a.put oi.dst v) w) : wpAnyT P md ops Q S0 S g (fuel + 1) listed a w :=
 wpT_first (R := S0) (by simpa using hn) (.inl fun _ h => h) hi (Region.noSelect_spec hs) hQ fuel listed a w (Region.free_spec hi hf) (by simpa using hr) hy (.inl fun _ h => h) hS h
theorem wpT_take {i : Nat} {oi : Oper} {v : Value} {fuel : Nat} {listed : Array Bool} {a : Act} {w : World} (hi : ops[i]? = some oi) (hn : (i != g) = true)
 (hwt : ((ops[g]?).map fun o => o.after.any fun e => Region.binds md e && e.on == i) = some true) (hl : listed.getD g true = false)
 (hs : Region.noSelect ops = true) (hf : Region.free md ops listed i = true) (hr : (Region.ready md ops listed).contains i = true)
 (hQ : ∀ c a w, Q (.panic c) (a.put oi.dst v) w → Q (.panic c) a w) (hy : YieldsIf P ops S oi v a) (hS : S0 w ∧ (listed.getD g true = false → S w))
 (h : wpAnyT P md ops Q S0 S g fuel (listed.setIfInBounds i true) (a.put oi.dst v) w) : wpAnyT P md ops Q S0 S g (fuel + 1) listed a w :=
 wpT_first (R := S) (by simpa using hn) (.inr ⟨fun og ho => by
   rw [ho] at hwt
   simp only [Option.map_some, Option.some.injEq, Array.any_eq_true', Bool.and_eq_true, beq_iff_eq] at hwt
   obtain ⟨e, he, h⟩ := hwt
   exact ⟨e, he, h⟩, fun _ h => h⟩) hi (Region.noSelect_spec hs) hQ fuel listed a w (Region.free_spec hi hf) (by simpa using hr) hy (.inr hl) hS h
def AllT (P : Program) (md : Region.Mode) (ops : Array Oper) (Q : Exit → Act → World → Prop) (S0 S : World → Prop) (g fuel : Nat) (listed : Array Bool) (a : Act) (w : World) (rs : List Nat) : Prop :=
 ∀ i ∈ rs, wpOp P ops Q i (fun a' w' => (S0 w' ∧ ((listed.setIfInBounds i true).getD g true = false → S w')) ∧ wpAnyT P md ops Q S0 S g fuel (listed.setIfInBounds i true) a' w') a w
theorem AllT.nil {fuel : Nat} {listed : Array Bool} {a : Act} {w : World} : AllT P md ops Q S0 S g fuel listed a w [] := fun _ h => by cases h
theorem AllT.cons {fuel : Nat} {listed : Array Bool} {a : Act} {w : World} {i : Nat} {o : Oper} {rs : List Nat} (ho : ops[i]? = some o)
 (h : ∀ K' : Act → World → Prop, Shut (∀ a w, S0 w ∧ S w → (S0 w ∧ ((listed.setIfInBounds i true).getD g true = false → S w) → wpAnyT P md ops Q S0 S g fuel (listed.setIfInBounds i true) a w) → K' a w) → if Region.wanted o (yielded ops a.tmps) = true then Oper.wp P o a w K' Q else K' (a.put o.dst undef) w)
 (hs : AllT P md ops Q S0 S g fuel listed a w rs) : AllT P md ops Q S0 S g fuel listed a w (i :: rs) := fun j hj => by
 rcases List.mem_cons.1 hj with rfl | hj
 · exact wpOp_step ho (fun K' hK => h K' (fun a w hS hW => hK a w ⟨⟨hS.1, fun _ => hS.2⟩, hW ⟨hS.1, fun _ => hS.2⟩⟩))
 · exact hs j hj
theorem AllT.late {fuel : Nat} {listed : Array Bool} {a : Act} {w : World} {i : Nat} {o : Oper} {rs : List Nat} (ho : ops[i]? = some o) (hg : (listed.setIfInBounds i true).getD g true = true)
 (h : ∀ K' : Act → World → Prop, Shut (∀ a w, S0 w → (S0 w ∧ ((listed.setIfInBounds i true).getD g true = false → S w) → wpAnyT P md ops Q S0 S g fuel (listed.setIfInBounds i true) a w) → K' a w) → if Region.wanted o (yielded ops a.tmps) = true then Oper.wp P o a w K' Q else K' (a.put o.dst undef) w)
 (hs : AllT P md ops Q S0 S g fuel listed a w rs) : AllT P md ops Q S0 S g fuel listed a w (i :: rs) := fun j hj => by
 rcases List.mem_cons.1 hj with rfl | hj
 · have hl : ∀ {w : World}, S0 w → S0 w ∧ ((listed.setIfInBounds j true).getD g true = false → S w) := fun h => ⟨h, fun h' => absurd (hg.symm.trans h') (by decide)⟩
   exact wpOp_step ho (fun K' hK => h K' (fun a w hS hW => hK a w ⟨hl hS, hW (hl hS)⟩))
 · exact hs j hj
theorem wpT_ready {rs : List Nat} {fuel : Nat} {listed : Array Bool} {a : Act} {w : World} (hr : Region.ready md ops listed = rs) (hne : rs ≠ [])
 (h : AllT P md ops Q S0 S g fuel listed a w rs) : wpAnyT P md ops Q S0 S g (fuel + 1) listed a w := ⟨fun h0 => absurd (hr ▸ h0) hne, fun i hi => h i (hr ▸ hi)⟩
theorem wpT_done {listed : Array Bool} {a : Act} {w : World} (hr : Region.ready md ops listed = []) (h : Q .normal a w) : ∀ fuel, wpAnyT P md ops Q S0 S g fuel listed a w
 | 0 => ⟨hr, h⟩
 | _ + 1 => ⟨fun _ => h, by rw [hr]; simp⟩
theorem wpT_region {id : Nat} {a : Act} {w : World} (S0 S : World → Prop) (g : Nat) (hm : P.follows .mixedOrders = true) (hS : S0 w.drew ∧ S w.drew)
 (h : S0 w.drew ∧ ((Array.replicate ops.size false).getD g true = false → S w.drew) → wpAnyT P .any ops Q S0 S g ops.size (Array.replicate ops.size false) a w.drew) : (Code.region id ops true).wp P Q a w :=
 wp_region_any hm (wpAny_of_T _ _ _ _ (h ⟨hS.1, fun _ => hS.2⟩))
end
def midB (a b : Nat) : Nat → Bool := fun g => decide (a ≤ g) && decide (g < b)
structure MSt (w W0 wr : World) (lc : Array Value) (B0 : Nat) (en eq vn vq : Value) (N : List ByteArray) (L : List Val) (cV : List (List Value)) : Prop where
 st : BvSt w wr lc (.int .i64 0) en eq (.slice none 0 0)
 nam : wr.ownsRow B0 9 1 vn N.length (N.map Value.string)
 par : Rws2 wr (w.heap.size + 3) 30 4 valRd vq vn L cV
 keep : ∀ b, w.heap.size + 3 ≤ b → b < B0 → wr.heap[b]? = W0.heap[b]?
 big : B0 ≤ wr.heap.size
 low : ∀ g, vq.ownBlock = some g → B0 ≤ g
 base : w.heap.size + 3 ≤ B0
section
variable {w W0 wr w1 : World} {lc : Array Value} {B0 : Nat} {en eq vn vq : Value} {N : List ByteArray} {L : List Val} {cV : List (List Value)}
theorem MSt.below (h : MSt w W0 wr lc B0 en eq vn vq N L cV) (k : Below wr.heap.size wr w1) : MSt w W0 w1 lc B0 en eq vn vq N L cV :=
 ⟨h.st.below k, owns_below h.nam k, h.par.keep valRd_mono' fun b _ hl => k.block b hl, fun b h1 h2 => (k.block b (by have := h.big; omega)).trans (h.keep b h1 h2), Nat.le_trans h.big k.size, h.low, h.base⟩
theorem MSt.appN (h : MSt w W0 wr lc B0 en eq vn vq N L cV) {v' : Value} {s : ByteArray} {m : Nat} {Z : List Value} (hm : m = N.length + 1) (hZ : Z = N.map Value.string ++ [.string s])
 (had : Appd wr w1 B0 9 1 vn v' m Z) : MSt w W0 w1 lc B0 en eq v' vq (N ++ [s]) L cV := by
 have ho : ∀ g, vn.ownBlock = some g → B0 ≤ g := fun g hg => own_base h.nam hg
 have hb := h.base
 refine ⟨h.st.grown had.grown fun g hg => by have := ho g hg; omega, ?_, h.par.other valRd_mono' (fun b _ h2 h3 => had.grown.block b h2 (fun e => h3 e.symm)) had.at_, fun b h1 h2 => (had.grown.block b (by have := h.big; omega) (fun e => by have := ho b e.symm; omega)).trans (h.keep b h1 h2), Nat.le_trans h.big had.grown.size, h.low, h.base⟩
 have := had.own
 rw [hm, hZ] at this
 simpa using this
theorem MSt.appP (h : MSt w W0 wr lc B0 en eq vn vq N L cV) {v' : Value} {x : Val} {cs : List Value} {m : Nat} {Z : List Value} (hc : cs.length = 4) (hx : valRd (only (midB (w.heap.size + 3) B0) W0) x cs) (hm : m = L.length + 1) (hZ : Z = cV.flatten ++ cs)
 (had : Appd wr w1 (w.heap.size + 3) 30 4 vq v' m Z) : MSt w W0 w1 lc B0 en eq vn v' N (L ++ [x]) (cV ++ [cs]) := by
 have ho : ∀ g, vn.ownBlock = some g → B0 ≤ g ∧ g < wr.heap.size := fun g hg => h.nam.lt g hg
 have hb := h.base
 refine ⟨h.st.grown had.grown fun g hg => by have := h.low g hg; omega, owns_of_block h.nam fun g hg => had.grown.block g (ho g hg).2 (fun e => h.par.sep g e.symm hg), h.par.push valRd_mono' had hm hZ hc (valRd_mono' (only_keep fun b hb' hl => ?_) hx) fun g hg => (ho g hg).2, fun b h1 h2 => (had.grown.block b (by have := h.big; omega) (fun e => by have := h.low b e.symm; omega)).trans (h.keep b h1 h2), Nat.le_trans h.big had.grown.size, fun g hg => ?_, h.base⟩
 · unfold midB at hb'
   simp only [Bool.and_eq_true, decide_eq_true_eq] at hb'
   exact ⟨butTwo_iff.2 ⟨hb'.1, fun e => by have := h.low b e; omega, fun e => by have := (ho b e).1; omega⟩, h.keep b hb'.1 hb'.2⟩
 · rcases had.at_ with e | e
   · exact h.low g (by rw [← e]; exact hg)
   · rw [e] at hg
     injection hg with hg
     have := h.big
     omega
theorem MSt.set (h : MSt w W0 wr lc B0 en eq vn vq N L cV) (i : Nat) (u : Value) {en' eq' : Value} (hc : (#[.int .i64 0, en, eq, .slice none 0 0] : Array Value).setIfInBounds i u = #[.int .i64 0, en', eq', .slice none 0 0]) :
 MSt w W0 (wr.setCell ⟨w.heap.size + 1 + 1, i, none⟩ u) lc B0 en' eq' vn vq N L cV := by
 have hb := h.base
 have hk : ∀ b, w.heap.size + 3 ≤ b → (wr.setCell ⟨w.heap.size + 1 + 1, i, none⟩ u).heap[b]? = wr.heap[b]? := fun b hb => Below.heap_setCell _ _ _ _ (by show b ≠ w.heap.size + 1 + 1; omega)
 exact ⟨h.st.set i u hc, owns_of_block h.nam fun g hg => hk g (by have := own_base h.nam hg; omega), h.par.keep valRd_mono' fun b h1 _ => hk b h1, fun b h1 h2 => (hk b h1).trans (h.keep b h1 h2), by have := h.big; simpa [World.setCell] using this, h.low, h.base⟩
end
theorem rtop_5 (l : Lat) (hwf : WfL l) (hk : l.kind = 5) (ih : ∀ p ∈ l.parts, RTopOk p) : RTopOk l := by
 intro cl w hl
 obtain ⟨aln, cln, alp, clp, alr, clr, rfl, hli, hln, hlp, hlr, ⟨_, mln⟩, ⟨_, mlp⟩, _, mlr⟩ := latRd.lay hl
 have HKD := hid hwf.kinds
 obtain ⟨k, lo, hi, ns, ps, rs⟩ := l
 simp only [Lat.kind, Lat.lo, Lat.hi, Lat.names, Lat.parts, Lat.rules] at *
 have HLN := hid hln
 have HLP := hid hlp
 have HI := hid hli
 have HST := hid (BvSt.start w #[.int .i64 k, .int .i64 lo, .int .i64 hi, .slice aln ns.length cln, .slice alp ps.length clp, .slice alr rs.length clr])
 clear hl hwf hli hln hlp hlr
 have HNL : Hid (ns.length ≤ 32) := hid (by have := HKD.out; omega)
 subst hk
 obtain ⟨p, rfl⟩ := List.length_eq_one_iff.1 (HKD.out.2.1 rfl)
 have HPO := hid (ih p (by simp))
 have HT2 : Hid (topV (.mk 5 lo hi ns [p] rs) = if trivB p then (zeroV, true) else if (topV p).2 = false ∨ ns.length = 0 then (zeroV, false) else (.mk 0 ns (List.replicate ns.length (topV p).1) [], true)) := hid (by rw [topV, topMap]; rfl)
 generalize topV (.mk 5 lo hi ns [p] rs) = R at HT2 ⊢
 clear ih HKD
 obtain ⟨i0, hi0, hz0, hz1, hz2⟩ := info_parts infoString
 obtain ⟨j0, hj0, hy0, hy1, hy2⟩ := info_parts infoVal
 obtain ⟨p', lb, lo2, an, cn, ap, cp, ar, cr, hp', hmem, _, _, rfl, hyr, hyc⟩ := latEl HLP.out 0 (by simp)
 have hpp : p' = p := by simpa using hp'.symm
 subst hpp
 have HYR := hid hyr
 have HYC := hid hyc
 simp only [List.length_singleton] at HST
 obtain ⟨lc, hlc⟩ : ∃ lc, lc = (#[.int .i64 5, .int .i64 lo, .int .i64 hi, .slice aln ns.length cln, .slice (some ⟨lb, lo2, none⟩) 1 clp, .slice alr rs.length clr] : Array Value) := ⟨_, rfl⟩
 have HLC := hid hlc
 have HC3 : Hid (lc[3]? = some (.slice aln ns.length cln)) := hid (by rw [hlc]; rfl)
 have HC4 : Hid (lc[4]? = some (.slice (some ⟨lb, lo2, none⟩) 1 clp)) := hid (by rw [hlc]; rfl)
 clear hlc
 have HB3 := hid HST.out.bel
 clear hyr hyc hmem hp'
 obtain ⟨y0, y1, y2, y3, y4, y5⟩ := (HYC.out.below HB3.out).six
 simp only [Nat.zero_mul, Nat.add_zero] at y0 y1 y2 y3 y4 y5
 go_enter Tryz.func40, Tryz.ntmps40
 go_wp2_with fail
 refine (rTriv_any _ p' (Nat.le_refl _) [.int .i64 p'.kind, .int .i64 p'.lo, .int .i64 p'.hi, .slice an p'.names.length cn, .slice ap p'.parts.length cp, .slice ar p'.rules.length cr] _ (latRd.below HB3.out _ _ HYR.out)).mono ?_
 rintro e w1 ⟨rfl, hb1⟩
 have ST1 : Hid (BvSt w w1 lc (.int .i64 0) (.slice none 0 0) (.slice none 0 0) (.slice none 0 0)) := hid (by rw [HLC.out]; exact HST.out.below hb1)
 clear hb1 HST HLC HB3
 cases htr : trivB p'
 · have HT3 : Hid (R = if (topV p').2 = false ∨ ns.length = 0 then (zeroV, false) else (.mk 0 ns (List.replicate ns.length (topV p').1) [], true)) := hid (by rw [HT2.out, htr]; rfl)
   clear HT2 htr y0 y1 y2 y3 y4 y5
   have l4 := ST1.out.cellL (i := 4) HC4.out
   obtain ⟨y0, y1, y2, y3, y4, y5⟩ := (HYC.out.below ST1.out.bel).six
   simp only [Nat.zero_mul, Nat.add_zero] at y0 y1 y2 y3 y4 y5
   go_wp2_with fail
   refine (HPO.out [.int .i64 p'.kind, .int .i64 p'.lo, .int .i64 p'.hi, .slice an p'.names.length cn, .slice ap p'.parts.length cp, .slice ar p'.rules.length cr] w1 (latRd.below ST1.out.bel _ _ HYR.out)).mono ?_
   clear HPO
   generalize topV p' = T at HT3 ⊢
   obtain ⟨x, ok⟩ := T
   simp only at HT3 ⊢
   rintro e w7 ⟨cs2, rfl, hv2, hb2⟩
   have ST7 := hid (ST1.out.below hb2)
   have HBG : Hid (w.heap.size + 3 ≤ w1.heap.size) := hid ST1.out.big
   have HX1 := hid hv2
   obtain ⟨xn, xcn, xp, xcp, xe, xce, rfl, _, hsn, hsp, hse, _⟩ := valRd.lay hv2
   have ST8 := hid (ST7.out.alloc (.cells #[.int .i64 x.n, .slice xn x.names.length xcn, .slice xp x.parts.length xcp, .slice xe x.entries.length xce] 30 (0, 0)))
   have l3 : ∀ O, (w7.alloc O).cell? ⟨w.heap.size, 3, none⟩ = some (.slice aln ns.length cln) := fun O => (ST7.out.alloc O).cellL (i := 3) HC3.out
   clear hv2 hb2 hsn hsp hse y0 y1 y2 y3 y4 y5 l4
   cases ok with
   | false =>
     have HF : Hid (R = (zeroV, false)) := hid (by rw [HT3.out, if_pos (.inl rfl)])
     clear HT3
     have r0 : ∀ O, (w7.alloc O).cell? ⟨w.heap.size + 1, 0, none⟩ = some _ := fun O => (ST7.out.alloc O).cellR (i := 0) rfl
     have e0 := fun O => (ST7.out.alloc O).freeR 0
     have r1 : ∀ O, (w7.alloc O).cell? ⟨w.heap.size + 1, 1, none⟩ = some _ := fun O => (ST7.out.alloc O).cellR (i := 1) rfl
     have e1 := fun O => (ST7.out.alloc O).freeR 1
     have r2 : ∀ O, (w7.alloc O).cell? ⟨w.heap.size + 1, 2, none⟩ = some _ := fun O => (ST7.out.alloc O).cellR (i := 2) rfl
     have e2 := fun O => (ST7.out.alloc O).freeR 2
     have r3 : ∀ O, (w7.alloc O).cell? ⟨w.heap.size + 1, 3, none⟩ = some _ := fun O => (ST7.out.alloc O).cellR (i := 3) rfl
     have e3 := fun O => (ST7.out.alloc O).freeR 3
     go_wp2_with fail
     (try simp only [Exit.inBlock, Exit.then])
     refine bodyPost_ret (v := .tuple #[.agg #[.int .i64 0, .slice none 0 0, .slice none 0 0, .slice none 0 0], .bool false]) (by simp [results, Tryz.results40, go_sem, r0, r1, r2, r3, e0, e1, e2, e3]) rfl (BvSt.post0 ST8.out HF.out _ _ _ _)
   | true =>
     by_cases hns : ns.length = 0
     · have HF : Hid (R = (zeroV, false)) := hid (by rw [HT3.out, if_pos (.inr hns)])
       have hnb : ((ns.length : Int) == 0) = true := by simp [hns]
       clear HT3 hns
       have r0 : ∀ O, (w7.alloc O).cell? ⟨w.heap.size + 1, 0, none⟩ = some _ := fun O => (ST7.out.alloc O).cellR (i := 0) rfl
       have e0 := fun O => (ST7.out.alloc O).freeR 0
       have r1 : ∀ O, (w7.alloc O).cell? ⟨w.heap.size + 1, 1, none⟩ = some _ := fun O => (ST7.out.alloc O).cellR (i := 1) rfl
       have e1 := fun O => (ST7.out.alloc O).freeR 1
       have r2 : ∀ O, (w7.alloc O).cell? ⟨w.heap.size + 1, 2, none⟩ = some _ := fun O => (ST7.out.alloc O).cellR (i := 2) rfl
       have e2 := fun O => (ST7.out.alloc O).freeR 2
       have r3 : ∀ O, (w7.alloc O).cell? ⟨w.heap.size + 1, 3, none⟩ = some _ := fun O => (ST7.out.alloc O).cellR (i := 3) rfl
       have e3 := fun O => (ST7.out.alloc O).freeR 3
       go_wp2_with fail
       (try simp only [Exit.inBlock, Exit.then])
       refine bodyPost_ret (v := .tuple #[.agg #[.int .i64 0, .slice none 0 0, .slice none 0 0, .slice none 0 0], .bool false]) (by simp [results, Tryz.results40, go_sem, r0, r1, r2, r3, e0, e1, e2, e3]) rfl (BvSt.post0 ST8.out HF.out _ _ _ _)
     · have HF : Hid (R = (.mk 0 ns (List.replicate ns.length x) [], true)) := hid (by rw [HT3.out, if_neg (by rintro (h | h); exact absurd h (by decide); exact hns h)])
       have hnb : ((ns.length : Int) == 0) = false := by rw [beqI']; exact decide_eq_false (by omega)
       clear HT3 hns
       have HW0 : Hid (MSt w (w7.alloc (.cells #[.int .i64 x.n, .slice xn x.names.length xcn, .slice xp x.parts.length xcp, .slice xe x.entries.length xce] 30 (0, 0))) (w7.alloc (.cells #[.int .i64 x.n, .slice xn x.names.length xcn, .slice xp x.parts.length xcp, .slice xe x.entries.length xce] 30 (0, 0))) lc (w7.heap.size + 1) (.slice none 0 0) (.slice none 0 0) (.slice none 0 0) (.slice none 0 0) [] [] []) := hid ⟨ST8.out, World.ownsRow_nil _ _ _ _, Rws2.nil _ _ _ _ _ _, fun _ _ _ => rfl, by simp, fun g h => by simp [Value.ownBlock] at h, by have := ST7.out.big; omega⟩
       have HXR : Hid (valRd (only (midB (w.heap.size + 3) (w7.heap.size + 1)) (w7.alloc (.cells #[.int .i64 x.n, .slice xn x.names.length xcn, .slice xp x.parts.length xcp, .slice xe x.entries.length xce] 30 (0, 0)))) x [.int .i64 x.n, .slice xn x.names.length xcn, .slice xp x.parts.length xcp, .slice xe x.entries.length xce]) := hid (valRd_mono' (only_keep fun b hb hl => by
         have hb' := of_decide_eq_true hb
         have := HBG.out
         refine ⟨?_, Below.heap_alloc _ _ _ hl⟩
         unfold midB
         simp only [Bool.and_eq_true, decide_eq_true_eq]
         omega) HX1.out)
       have HXB : Hid ((w7.alloc (.cells #[.int .i64 x.n, .slice xn x.names.length xcn, .slice xp x.parts.length xcp, .slice xe x.entries.length xce] 30 (0, 0))).heap[w7.heap.size]? = some (.cells #[.int .i64 x.n, .slice xn x.names.length xcn, .slice xp x.parts.length xcp, .slice xe x.entries.length xce] 30 (0, 0)) ∧ w.heap.size + 3 ≤ w7.heap.size) := hid ⟨heap_alloc_new _ _, ST7.out.big⟩
       go_wp2_with fail
       generalize (w7.alloc (.cells #[.int .i64 x.n, .slice xn x.names.length xcn, .slice xp x.parts.length xcp, .slice xe x.entries.length xce] 30 (0, 0))) = W0 at HW0 HXR HXB ⊢
       generalize w7.heap.size = B5 at HW0 HXR HXB ⊢
       clear ST7 ST8 l3 ST1 HBG hnb HX1
       go_loopw [7] (fun i wr => ∃ (j : Nat) (vn vq : Value) (N : List ByteArray) (L : List Val) (cV : List (List Value)), j ≤ ns.length ∧ i = .int .i64 j ∧ Hid (MSt w W0 wr lc (B5 + 1) vn vq vn vq N L cV) ∧ Hid (N = ns.take j ∧ N.length = j ∧ L = List.replicate j x ∧ L.length = j)) (fun i _ => ns.length - (intOf i).toNat)
       case atStart => exact ⟨0, _, _, [], [], [], Nat.zero_le _, rfl, HW0, hid ⟨rfl, rfl, rfl, rfl⟩⟩
       case round =>
        obtain ⟨j, vn, vq, N, L, cV, hj, rfl, HM, HNLN⟩ := hrel
        obtain ⟨an', cn', rfl⟩ := owns_shape HM.out.nam
        obtain ⟨aq, cq, rfl⟩ := owns_shape HM.out.par.own
        have STW := hid HM.out.st
        by_cases hlt : j < ns.length
        · obtain ⟨s, b, o, hsj, _, hsd, htk, rfl, hcell, hsz⟩ := strEl (HLN.out.below HM.out.st.bel) j hlt
          have HSJ := hid hsj
          clear hsj
          have HJ : Hid (j + 1 ≤ 9223372036854775807 ∧ j + 1 ≤ ns.length) := hid (by have := HNL.out; omega)
          have hi1 : (j : Int) < (ns.length : Int) := by omega
          have l3 := STW.out.cellL (i := 3) HC3.out
          have k1 := STW.out.cellV (i := 1) rfl
          have k2 := STW.out.cellV (i := 2) rfl
          have hB : wr.heap[B5]? = some (.cells #[.int .i64 x.n, .slice xn x.names.length xcn, .slice xp x.parts.length xcp, .slice xe x.entries.length xce] 30 (0, 0)) := (HM.out.keep B5 HXB.out.2 (by omega)).trans HXB.out.1
          have x0 : wr.cell? ⟨B5, 0, none⟩ = some (.int .i64 x.n) := cell_at_block hB
          have x1 : wr.cell? ⟨B5, 1, none⟩ = some (.slice xn x.names.length xcn) := cell_at_block hB
          have x2 : wr.cell? ⟨B5, 2, none⟩ = some (.slice xp x.parts.length xcp) := cell_at_block hB
          have x3 : wr.cell? ⟨B5, 3, none⟩ = some (.slice xe x.entries.length xce) := cell_at_block hB
          have HN1 : Hid (N ++ [s] = ns.take (j + 1) ∧ (N ++ [s]).length = j + 1 ∧ L ++ [x] = List.replicate (j + 1) x ∧ (L ++ [x]).length = j + 1) := hid ⟨by rw [HNLN.out.1, htk], by rw [List.length_append, HNLN.out.2.1]; rfl, by rw [HNLN.out.2.2.1, List.replicate_succ'], by rw [List.length_append, HNLN.out.2.2.2]; rfl⟩
          have HMY : Hid ((N.length + 1 ≤ maxLen ∧ (N.length + 1) * 16 ≤ 140737488355328) ∧ (L.length + 1 ≤ maxLen ∧ (L.length + 1) * 80 ≤ 140737488355328)) := hid (by have := HNL.out; have := HNLN.out; have := HJ.out; unfold maxLen; omega)
          have HOL : Hid (∀ g, (Value.slice an' N.length cn').ownBlock = some g → g < wr.heap.size) := hid fun g hg => (HM.out.nam.lt g hg).2
          have HSK : Hid (∀ (u : World) (vn vq : Value) (N' : List ByteArray) (L' : List Val) (cV' : List (List Value)), MSt w W0 u lc (B5 + 1) (.slice an' N.length cn') (.slice aq L.length cq) vn vq N' L' cV' → u.cell? ⟨w.heap.size + 1 + 1, 1, none⟩ = some (.slice an' N.length cn') ∧ u.cell? ⟨w.heap.size + 1 + 1, 2, none⟩ = some (.slice aq L.length cq)) := hid fun u vn vq N' L' cV' h => ⟨h.st.cellV (i := 1) rfl, h.st.cellV (i := 2) rfl⟩
          have HSX : Hid (∀ (u : World) (en eq vn vq : Value) (N' : List ByteArray) (L' : List Val) (cV' : List (List Value)), MSt w W0 u lc (B5 + 1) en eq vn vq N' L' cV' → u.cell? ⟨w.heap.size, 3, none⟩ = some (.slice (some ⟨b, o, none⟩) ns.length cln) ∧ u.cell? ⟨b, o + j, none⟩ = some (.string s) ∧ u.cell? ⟨B5, 0, none⟩ = some (.int .i64 x.n) ∧ u.cell? ⟨B5, 1, none⟩ = some (.slice xn x.names.length xcn) ∧ u.cell? ⟨B5, 2, none⟩ = some (.slice xp x.parts.length xcp) ∧ u.cell? ⟨B5, 3, none⟩ = some (.slice xe x.entries.length xce)) := hid fun u en eq vn vq N' L' cV' h => by
           have hb := (h.keep B5 HXB.out.2 (by omega)).trans HXB.out.1
           obtain ⟨s', b', o', hs1, _, _, _, hs3, hs4, _⟩ := strEl (HLN.out.below h.st.bel) j hlt
           cases hs3
           rw [HSJ.out] at hs1
           cases hs1
           exact ⟨h.st.cellL (i := 3) HC3.out, hs4, cell_at_block hb, cell_at_block hb, cell_at_block hb, cell_at_block hb⟩
          clear hB hsd htk
          go_wp2_with fail
          have hj63 : j + 1 ≤ 9223372036854775807 := HJ.out.1
          have hjn : j + 1 ≤ ns.length := HJ.out.2
          clear HLN HLP HI HNL HYR HYC HC3 HC4 mln mlr mlp HSJ HNLN HF hsz l3 STW
          refine wpT_region (fun u => u.cell? ⟨w.heap.size, 3, none⟩ = some (.slice (some ⟨b, o, none⟩) ns.length cln) ∧ u.cell? ⟨b, o + j, none⟩ = some (.string s) ∧ u.cell? ⟨B5, 0, none⟩ = some (.int .i64 x.n) ∧ u.cell? ⟨B5, 1, none⟩ = some (.slice xn x.names.length xcn) ∧ u.cell? ⟨B5, 2, none⟩ = some (.slice xp x.parts.length xcp) ∧ u.cell? ⟨B5, 3, none⟩ = some (.slice xe x.entries.length xce)) (fun u => u.cell? ⟨w.heap.size + 1 + 1, 1, none⟩ = some (.slice an' N.length cn') ∧ u.cell? ⟨w.heap.size + 1 + 1, 2, none⟩ = some (.slice aq L.length cq)) 15 (by kernel_rfl) ⟨HSX.out _ _ _ _ _ _ _ _ (HM.out.below (by repeat (first | exact Below.refl _ _ | refine Below.alloc ?_ (by simp <;> omega) _ | refine Below.drew ?_))), HSK.out _ _ _ _ _ _ (HM.out.below (by repeat (first | exact Below.refl _ _ | refine Below.alloc ?_ (by simp <;> omega) _ | refine Below.drew ?_)))⟩ (fun hHeld => ?_)
          refine wpT_take0 (i := 0) (v := ?_) rfl rfl (by kernel_rfl) (by kernel_rfl) (by kernel_rfl) (fun _ _ _ h => h) (Or.inl ⟨by rfl, ?_⟩) hHeld ?_
          rotate_left 1
          · (intro w' hSw; (try dsimp only at hSw); go_simp; try with_reducible rfl)
          simp only [Act.put, List.setIfInBounds_toArray, List.set_cons_zero, List.set_cons_succ]
          refine wpT_take (i := 1) (v := ?_) rfl rfl (by kernel_rfl) (by kernel_rfl) (by kernel_rfl) (by kernel_rfl) (by kernel_rfl) (fun _ _ _ h => h) (Or.inl ⟨by rfl, ?_⟩) hHeld ?_
          rotate_left 1
          · (intro w' hSw; (try dsimp only at hSw); go_simp; try with_reducible rfl)
          simp only [Act.put, List.setIfInBounds_toArray, List.set_cons_zero, List.set_cons_succ]
          refine wpT_take0 (i := 2) (v := ?_) rfl rfl (by kernel_rfl) (by kernel_rfl) (by kernel_rfl) (fun _ _ _ h => h) (Or.inl ⟨by rfl, ?_⟩) hHeld ?_
          rotate_left 1
          · (intro w' hSw; (try dsimp only at hSw); go_simp; try with_reducible rfl)
          simp only [Act.put, List.setIfInBounds_toArray, List.set_cons_zero, List.set_cons_succ]
          refine wpT_take0 (i := 3) (v := ?_) rfl rfl (by kernel_rfl) (by kernel_rfl) (by kernel_rfl) (fun _ _ _ h => h) (Or.inl ⟨by rfl, ?_⟩) hHeld ?_
          rotate_left 1
          · (intro w' hSw; (try dsimp only at hSw); go_simp; try with_reducible rfl)
          simp only [Act.put, List.setIfInBounds_toArray, List.set_cons_zero, List.set_cons_succ]
          refine wpT_take0 (i := 4) (v := ?_) rfl rfl (by kernel_rfl) (by kernel_rfl) (by kernel_rfl) (fun _ _ _ h => h) (Or.inl ⟨by rfl, ?_⟩) hHeld ?_
          rotate_left 1
          · (intro w' hSw; (try dsimp only at hSw); go_simp; try with_reducible rfl)
          simp only [Act.put, List.setIfInBounds_toArray, List.set_cons_zero, List.set_cons_succ]
          refine wpT_take0 (i := 5) (v := ?_) rfl rfl (by kernel_rfl) (by kernel_rfl) (by kernel_rfl) (fun _ _ _ h => h) (Or.inl ⟨by rfl, ?_⟩) hHeld ?_
          rotate_left 1
          · (intro w' hSw; (try dsimp only at hSw); go_simp; try with_reducible rfl)
          simp only [Act.put, List.setIfInBounds_toArray, List.set_cons_zero, List.set_cons_succ]
          refine wpT_take0 (i := 6) (v := ?_) rfl rfl (by kernel_rfl) (by kernel_rfl) (by kernel_rfl) (fun _ _ _ h => h) (Or.inl ⟨by rfl, ?_⟩) hHeld ?_
          rotate_left 1
          · (intro w' hSw; (try dsimp only at hSw); go_simp; try with_reducible rfl)
          simp only [Act.put, List.setIfInBounds_toArray, List.set_cons_zero, List.set_cons_succ]
          refine wpT_take0 (i := 9) (v := ?_) rfl rfl (by kernel_rfl) (by kernel_rfl) (by kernel_rfl) (fun _ _ _ h => h) (Or.inl ⟨by rfl, ?_⟩) hHeld ?_
          rotate_left 1
          · (intro w' hSw; (try dsimp only at hSw); go_simp; try with_reducible rfl)
          simp only [Act.put, List.setIfInBounds_toArray, List.set_cons_zero, List.set_cons_succ]
          refine wpT_take (i := 10) (v := ?_) rfl rfl (by kernel_rfl) (by kernel_rfl) (by kernel_rfl) (by kernel_rfl) (by kernel_rfl) (fun _ _ _ h => h) (Or.inl ⟨by rfl, ?_⟩) hHeld ?_
          rotate_left 1
          · (intro w' hSw; (try dsimp only at hSw); go_simp; try with_reducible rfl)
          simp only [Act.put, List.setIfInBounds_toArray, List.set_cons_zero, List.set_cons_succ]
          refine wpT_take0 (i := 11) (v := ?_) rfl rfl (by kernel_rfl) (by kernel_rfl) (by kernel_rfl) (fun _ _ _ h => h) (Or.inl ⟨by rfl, ?_⟩) hHeld ?_
          rotate_left 1
          · (intro w' hSw; (try dsimp only at hSw); go_simp; try with_reducible rfl)
          simp only [Act.put, List.setIfInBounds_toArray, List.set_cons_zero, List.set_cons_succ]
          refine wpT_ready (rs := [7, 12]) (by kernel_rfl) (by simp) ?_
          refine AllT.cons rfl (fun K hK => ?_) (AllT.cons rfl (fun K hK => ?_) AllT.nil)
          · go_simp
            refine hK.out _ _ ⟨HSX.out _ _ _ _ _ _ _ _ (HM.out.below (by repeat (first | exact Below.refl _ _ | refine Below.alloc ?_ (by simp <;> omega) _ | refine Below.drew ?_))), HSK.out _ _ _ _ _ _ (HM.out.below (by repeat (first | exact Below.refl _ _ | refine Below.alloc ?_ (by simp <;> omega) _ | refine Below.drew ?_)))⟩ (fun hHeld => ?_)
            clear hK K
            refine wpT_ready (rs := [8, 12]) (by kernel_rfl) (by simp) ?_
            refine AllT.cons rfl (fun K hK => ?_) (AllT.cons rfl (fun K hK => ?_) AllT.nil)
            · refine step_append (by rfl) (.tmp 80) (.tmp 86) 22 (by rfl) (B5 + 1) 9 1 16 Tryz.underlying22 hi0 hz0 hz1 hz2 rfl (by decide) (.slice an' N.length cn') N.length (N.map Value.string) (by rfl) (HM.out.below (by repeat (first | exact Below.refl _ _ | refine Below.alloc ?_ (by simp <;> omega) _ | refine Below.drew ?_))).nam _ 1 [.string s] (by rfl) (Src.of_block (cs := #[.string s]) (by first | exact heap_alloc_new _ _ | exact block_alloc (heap_alloc_new _ _) _ | exact heap_new_at _ _ _ (by simp)) 1 1 1 rfl (by simp [Value.oneCell'])) (N.length + 1) rfl _ rfl HMY.out.1.1 HMY.out.1.2 (HM.out.below (by repeat (first | exact Below.refl _ _ | refine Below.alloc ?_ (by simp <;> omega) _ | refine Below.drew ?_))).big ?_
              intro na nc w1 had
              have HM1 := hid (MSt.appN (HM.out.below (by repeat (first | exact Below.refl _ _ | refine Below.alloc ?_ (by simp <;> omega) _ | refine Below.drew ?_))) rfl rfl had)
              have HGB := hid (fun b => had.grown.block b)
              clear had
              refine hK.out _ _ ⟨HSX.out _ _ _ _ _ _ _ _ HM1.out, HSK.out _ _ _ _ _ _ HM1.out⟩ (fun hHeld => ?_)
              clear hK K
              refine wpT_take0 (i := 14) (v := ?_) rfl rfl (by kernel_rfl) (by kernel_rfl) (by kernel_rfl) (fun _ _ _ h => h) (Or.inl ⟨by rfl, ?_⟩) hHeld ?_
              rotate_left 1
              · (intro w' hSw; (try dsimp only at hSw); go_simp; try with_reducible rfl)
              simp only [Act.put, List.setIfInBounds_toArray, List.set_cons_zero, List.set_cons_succ]
              refine wpT_ready (rs := [12]) (by kernel_rfl) (by simp) ?_
              refine AllT.cons rfl (fun K hK => ?_) AllT.nil
              go_simp
              refine hK.out _ _ ⟨HSX.out _ _ _ _ _ _ _ _ (HM1.out.below (by repeat (first | exact Below.refl _ _ | refine Below.alloc ?_ (by simp <;> omega) _ | refine Below.drew ?_))), HSK.out _ _ _ _ _ _ (HM1.out.below (by repeat (first | exact Below.refl _ _ | refine Below.alloc ?_ (by simp <;> omega) _ | refine Below.drew ?_)))⟩ (fun hHeld => ?_)
              clear hK K
              refine wpT_ready (rs := [13]) (by kernel_rfl) (by simp) ?_
              refine AllT.cons rfl (fun K hK => ?_) AllT.nil
              refine step_append (by rfl) (.tmp 89) (.tmp 91) 27 (by rfl) (w.heap.size + 3) 30 4 80 Tryz.underlying27 hj0 hy0 hy1 hy2 rfl (by decide) (.slice aq L.length cq) L.length cV.flatten (by rfl) (HM1.out.below (by repeat (first | exact Below.refl _ _ | refine Below.alloc ?_ (by simp <;> omega) _ | refine Below.drew ?_))).par.own (.slice (some ⟨w1.heap.size, 0, none⟩) 1 1) 1 [.int .i64 x.n, .slice xn x.names.length xcn, .slice xp x.parts.length xcp, .slice xe x.entries.length xce] (by rfl) (Src.of_block (cs := #[.int .i64 x.n, .slice xn x.names.length xcn, .slice xp x.parts.length xcp, .slice xe x.entries.length xce]) (heap_alloc_new _ _) 4 1 1 rfl (by simp [Value.oneCell'])) (L.length + 1) rfl _ rfl HMY.out.2.1 HMY.out.2.2 (Nat.le_trans HM1.out.base (HM1.out.below (by repeat (first | exact Below.refl _ _ | refine Below.alloc ?_ (by simp <;> omega) _ | refine Below.drew ?_))).big) ?_
              intro nq ncq w2 had
              have HM2 := hid (MSt.appP (HM1.out.below (by repeat (first | exact Below.refl _ _ | refine Below.alloc ?_ (by simp <;> omega) _ | refine Below.drew ?_))) rfl HXR.out rfl rfl had)
              have kv1 := HM2.out.st.cellV (i := 1) rfl
              have zv1 := HM2.out.st.freeV 1
              have kv2 := HM2.out.st.cellV (i := 2) rfl
              have zv2 := HM2.out.st.freeV 2
              clear had
              refine hK.out _ _ ⟨HSX.out _ _ _ _ _ _ _ _ HM2.out, HSK.out _ _ _ _ _ _ HM2.out⟩ (fun hHeld => ?_)
              clear hK K
              refine wpT_ready (rs := [15]) (by kernel_rfl) (by simp) ?_
              refine AllT.late rfl (by kernel_rfl) (fun K hK => ?_) AllT.nil
              go_simp
              refine hK.out _ _ (HSX.out _ _ _ _ _ _ _ _ (HM2.out.set 1 _ rfl)) (fun hHeld => ?_)
              clear hK K
              refine wpT_take0 (i := 16) (v := ?_) rfl rfl (by kernel_rfl) (by kernel_rfl) (by kernel_rfl) (fun _ _ _ h => h) (Or.inl ⟨by rfl, ?_⟩) hHeld ?_
              rotate_left 1
              · (intro w' hSw; (try dsimp only at hSw); go_simp; try with_reducible rfl)
              simp only [Act.put, List.setIfInBounds_toArray, List.set_cons_zero, List.set_cons_succ]
              refine wpT_ready (rs := [17]) (by kernel_rfl) (by simp) ?_
              refine AllT.late rfl (by kernel_rfl) (fun K hK => ?_) AllT.nil
              go_simp
              refine hK.out _ _ (HSX.out _ _ _ _ _ _ _ _ ((HM2.out.set 1 _ rfl).set 2 _ rfl)) (fun hHeld => ?_)
              clear hK K
              refine wpT_done (by kernel_rfl) ?_ _
              have HM3 := hid ((HM2.out.set 1 (.slice na (N.length + 1) nc) (en' := .slice na (N.length + 1) nc) rfl).set 2 (.slice nq (L.length + 1) ncq) (eq' := .slice nq (L.length + 1) ncq) rfl)
              clear kv1 zv1 kv2 zv2
              go_wp2_with fail
              go_roundw
              case rel => exact ⟨j + 1, _, _, N ++ [s], L ++ [x], _, HJ.out.2, by go_num, HM3, HN1⟩
              case measure => have := HJ.out; simp [intOf]; omega
            · go_simp
              refine hK.out _ _ ⟨HSX.out _ _ _ _ _ _ _ _ (HM.out.below (by repeat (first | exact Below.refl _ _ | refine Below.alloc ?_ (by simp <;> omega) _ | refine Below.drew ?_))), HSK.out _ _ _ _ _ _ (HM.out.below (by repeat (first | exact Below.refl _ _ | refine Below.alloc ?_ (by simp <;> omega) _ | refine Below.drew ?_)))⟩ (fun hHeld => ?_)
              clear hK K
              refine wpT_ready (rs := [8]) (by kernel_rfl) (by simp) ?_
              refine AllT.cons rfl (fun K hK => ?_) AllT.nil
              refine step_append (by rfl) (.tmp 80) (.tmp 86) 22 (by rfl) (B5 + 1) 9 1 16 Tryz.underlying22 hi0 hz0 hz1 hz2 rfl (by decide) (.slice an' N.length cn') N.length (N.map Value.string) (by rfl) (HM.out.below (by repeat (first | exact Below.refl _ _ | refine Below.alloc ?_ (by simp <;> omega) _ | refine Below.drew ?_))).nam _ 1 [.string s] (by rfl) (Src.of_block (cs := #[.string s]) (by first | exact heap_alloc_new _ _ | exact block_alloc (heap_alloc_new _ _) _ | exact heap_new_at _ _ _ (by simp)) 1 1 1 rfl (by simp [Value.oneCell'])) (N.length + 1) rfl _ rfl HMY.out.1.1 HMY.out.1.2 (HM.out.below (by repeat (first | exact Below.refl _ _ | refine Below.alloc ?_ (by simp <;> omega) _ | refine Below.drew ?_))).big ?_
              intro na nc w1 had
              have HM1 := hid (MSt.appN (HM.out.below (by repeat (first | exact Below.refl _ _ | refine Below.alloc ?_ (by simp <;> omega) _ | refine Below.drew ?_))) rfl rfl had)
              have HGB := hid (fun b => had.grown.block b)
              clear had
              refine hK.out _ _ ⟨HSX.out _ _ _ _ _ _ _ _ HM1.out, HSK.out _ _ _ _ _ _ HM1.out⟩ (fun hHeld => ?_)
              clear hK K
              refine wpT_take0 (i := 14) (v := ?_) rfl rfl (by kernel_rfl) (by kernel_rfl) (by kernel_rfl) (fun _ _ _ h => h) (Or.inl ⟨by rfl, ?_⟩) hHeld ?_
              rotate_left 1
              · (intro w' hSw; (try dsimp only at hSw); go_simp; try with_reducible rfl)
              simp only [Act.put, List.setIfInBounds_toArray, List.set_cons_zero, List.set_cons_succ]
              refine wpT_ready (rs := [13]) (by kernel_rfl) (by simp) ?_
              refine AllT.cons rfl (fun K hK => ?_) AllT.nil
              refine step_append (by rfl) (.tmp 89) (.tmp 91) 27 (by rfl) (w.heap.size + 3) 30 4 80 Tryz.underlying27 hj0 hy0 hy1 hy2 rfl (by decide) (.slice aq L.length cq) L.length cV.flatten (by rfl) (HM1.out.below (by repeat (first | exact Below.refl _ _ | refine Below.alloc ?_ (by simp <;> omega) _ | refine Below.drew ?_))).par.own (.slice (some ⟨(wr.heap.size + 1), 0, none⟩) 1 1) 1 [.int .i64 x.n, .slice xn x.names.length xcn, .slice xp x.parts.length xcp, .slice xe x.entries.length xce] (by rfl) (Src.of_block (cs := #[.int .i64 x.n, .slice xn x.names.length xcn, .slice xp x.parts.length xcp, .slice xe x.entries.length xce]) ((HGB.out (wr.heap.size + 1) (by simp) (fun e => by have := HOL.out _ e.symm; omega)).trans (heap_new_at _ _ _ (by simp))) 4 1 1 rfl (by simp [Value.oneCell'])) (L.length + 1) rfl _ rfl HMY.out.2.1 HMY.out.2.2 (Nat.le_trans HM1.out.base (HM1.out.below (by repeat (first | exact Below.refl _ _ | refine Below.alloc ?_ (by simp <;> omega) _ | refine Below.drew ?_))).big) ?_
              intro nq ncq w2 had
              have HM2 := hid (MSt.appP (HM1.out.below (by repeat (first | exact Below.refl _ _ | refine Below.alloc ?_ (by simp <;> omega) _ | refine Below.drew ?_))) rfl HXR.out rfl rfl had)
              have kv1 := HM2.out.st.cellV (i := 1) rfl
              have zv1 := HM2.out.st.freeV 1
              have kv2 := HM2.out.st.cellV (i := 2) rfl
              have zv2 := HM2.out.st.freeV 2
              clear had
              refine hK.out _ _ ⟨HSX.out _ _ _ _ _ _ _ _ HM2.out, HSK.out _ _ _ _ _ _ HM2.out⟩ (fun hHeld => ?_)
              clear hK K
              refine wpT_ready (rs := [15]) (by kernel_rfl) (by simp) ?_
              refine AllT.late rfl (by kernel_rfl) (fun K hK => ?_) AllT.nil
              go_simp
              refine hK.out _ _ (HSX.out _ _ _ _ _ _ _ _ (HM2.out.set 1 _ rfl)) (fun hHeld => ?_)
              clear hK K
              refine wpT_take0 (i := 16) (v := ?_) rfl rfl (by kernel_rfl) (by kernel_rfl) (by kernel_rfl) (fun _ _ _ h => h) (Or.inl ⟨by rfl, ?_⟩) hHeld ?_
              rotate_left 1
              · (intro w' hSw; (try dsimp only at hSw); go_simp; try with_reducible rfl)
              simp only [Act.put, List.setIfInBounds_toArray, List.set_cons_zero, List.set_cons_succ]
              refine wpT_ready (rs := [17]) (by kernel_rfl) (by simp) ?_
              refine AllT.late rfl (by kernel_rfl) (fun K hK => ?_) AllT.nil
              go_simp
              refine hK.out _ _ (HSX.out _ _ _ _ _ _ _ _ ((HM2.out.set 1 _ rfl).set 2 _ rfl)) (fun hHeld => ?_)
              clear hK K
              refine wpT_done (by kernel_rfl) ?_ _
              have HM3 := hid ((HM2.out.set 1 (.slice na (N.length + 1) nc) (en' := .slice na (N.length + 1) nc) rfl).set 2 (.slice nq (L.length + 1) ncq) (eq' := .slice nq (L.length + 1) ncq) rfl)
              clear kv1 zv1 kv2 zv2
              go_wp2_with fail
              go_roundw
              case rel => exact ⟨j + 1, _, _, N ++ [s], L ++ [x], _, HJ.out.2, by go_num, HM3, HN1⟩
              case measure => have := HJ.out; simp [intOf]; omega
          · go_simp
            refine hK.out _ _ ⟨HSX.out _ _ _ _ _ _ _ _ (HM.out.below (by repeat (first | exact Below.refl _ _ | refine Below.alloc ?_ (by simp <;> omega) _ | refine Below.drew ?_))), HSK.out _ _ _ _ _ _ (HM.out.below (by repeat (first | exact Below.refl _ _ | refine Below.alloc ?_ (by simp <;> omega) _ | refine Below.drew ?_)))⟩ (fun hHeld => ?_)
            clear hK K
            refine wpT_ready (rs := [7]) (by kernel_rfl) (by simp) ?_
            refine AllT.cons rfl (fun K hK => ?_) AllT.nil
            go_simp
            refine hK.out _ _ ⟨HSX.out _ _ _ _ _ _ _ _ (HM.out.below (by repeat (first | exact Below.refl _ _ | refine Below.alloc ?_ (by simp <;> omega) _ | refine Below.drew ?_))), HSK.out _ _ _ _ _ _ (HM.out.below (by repeat (first | exact Below.refl _ _ | refine Below.alloc ?_ (by simp <;> omega) _ | refine Below.drew ?_)))⟩ (fun hHeld => ?_)
            clear hK K
            refine wpT_ready (rs := [8]) (by kernel_rfl) (by simp) ?_
            refine AllT.cons rfl (fun K hK => ?_) AllT.nil
            refine step_append (by rfl) (.tmp 80) (.tmp 86) 22 (by rfl) (B5 + 1) 9 1 16 Tryz.underlying22 hi0 hz0 hz1 hz2 rfl (by decide) (.slice an' N.length cn') N.length (N.map Value.string) (by rfl) (HM.out.below (by repeat (first | exact Below.refl _ _ | refine Below.alloc ?_ (by simp <;> omega) _ | refine Below.drew ?_))).nam _ 1 [.string s] (by rfl) (Src.of_block (cs := #[.string s]) (by first | exact heap_alloc_new _ _ | exact block_alloc (heap_alloc_new _ _) _ | exact heap_new_at _ _ _ (by simp)) 1 1 1 rfl (by simp [Value.oneCell'])) (N.length + 1) rfl _ rfl HMY.out.1.1 HMY.out.1.2 (HM.out.below (by repeat (first | exact Below.refl _ _ | refine Below.alloc ?_ (by simp <;> omega) _ | refine Below.drew ?_))).big ?_
            intro na nc w1 had
            have HM1 := hid (MSt.appN (HM.out.below (by repeat (first | exact Below.refl _ _ | refine Below.alloc ?_ (by simp <;> omega) _ | refine Below.drew ?_))) rfl rfl had)
            have HGB := hid (fun b => had.grown.block b)
            clear had
            refine hK.out _ _ ⟨HSX.out _ _ _ _ _ _ _ _ HM1.out, HSK.out _ _ _ _ _ _ HM1.out⟩ (fun hHeld => ?_)
            clear hK K
            refine wpT_take0 (i := 14) (v := ?_) rfl rfl (by kernel_rfl) (by kernel_rfl) (by kernel_rfl) (fun _ _ _ h => h) (Or.inl ⟨by rfl, ?_⟩) hHeld ?_
            rotate_left 1
            · (intro w' hSw; (try dsimp only at hSw); go_simp; try with_reducible rfl)
            simp only [Act.put, List.setIfInBounds_toArray, List.set_cons_zero, List.set_cons_succ]
            refine wpT_ready (rs := [13]) (by kernel_rfl) (by simp) ?_
            refine AllT.cons rfl (fun K hK => ?_) AllT.nil
            refine step_append (by rfl) (.tmp 89) (.tmp 91) 27 (by rfl) (w.heap.size + 3) 30 4 80 Tryz.underlying27 hj0 hy0 hy1 hy2 rfl (by decide) (.slice aq L.length cq) L.length cV.flatten (by rfl) (HM1.out.below (by repeat (first | exact Below.refl _ _ | refine Below.alloc ?_ (by simp <;> omega) _ | refine Below.drew ?_))).par.own (.slice (some ⟨wr.heap.size, 0, none⟩) 1 1) 1 [.int .i64 x.n, .slice xn x.names.length xcn, .slice xp x.parts.length xcp, .slice xe x.entries.length xce] (by rfl) (Src.of_block (cs := #[.int .i64 x.n, .slice xn x.names.length xcn, .slice xp x.parts.length xcp, .slice xe x.entries.length xce]) ((HGB.out wr.heap.size (by first | (simp; done) | (simp; omega)) (fun e => absurd (HOL.out _ e.symm) (Nat.lt_irrefl _))).trans (by first | exact heap_alloc_new _ _ | exact block_alloc (heap_alloc_new _ _) _)) 4 1 1 rfl (by simp [Value.oneCell'])) (L.length + 1) rfl _ rfl HMY.out.2.1 HMY.out.2.2 (Nat.le_trans HM1.out.base (HM1.out.below (by repeat (first | exact Below.refl _ _ | refine Below.alloc ?_ (by simp <;> omega) _ | refine Below.drew ?_))).big) ?_
            intro nq ncq w2 had
            have HM2 := hid (MSt.appP (HM1.out.below (by repeat (first | exact Below.refl _ _ | refine Below.alloc ?_ (by simp <;> omega) _ | refine Below.drew ?_))) rfl HXR.out rfl rfl had)
            have kv1 := HM2.out.st.cellV (i := 1) rfl
            have zv1 := HM2.out.st.freeV 1
            have kv2 := HM2.out.st.cellV (i := 2) rfl
            have zv2 := HM2.out.st.freeV 2
            clear had
            refine hK.out _ _ ⟨HSX.out _ _ _ _ _ _ _ _ HM2.out, HSK.out _ _ _ _ _ _ HM2.out⟩ (fun hHeld => ?_)
            clear hK K
            refine wpT_ready (rs := [15]) (by kernel_rfl) (by simp) ?_
            refine AllT.late rfl (by kernel_rfl) (fun K hK => ?_) AllT.nil
            go_simp
            refine hK.out _ _ (HSX.out _ _ _ _ _ _ _ _ (HM2.out.set 1 _ rfl)) (fun hHeld => ?_)
            clear hK K
            refine wpT_take0 (i := 16) (v := ?_) rfl rfl (by kernel_rfl) (by kernel_rfl) (by kernel_rfl) (fun _ _ _ h => h) (Or.inl ⟨by rfl, ?_⟩) hHeld ?_
            rotate_left 1
            · (intro w' hSw; (try dsimp only at hSw); go_simp; try with_reducible rfl)
            simp only [Act.put, List.setIfInBounds_toArray, List.set_cons_zero, List.set_cons_succ]
            refine wpT_ready (rs := [17]) (by kernel_rfl) (by simp) ?_
            refine AllT.late rfl (by kernel_rfl) (fun K hK => ?_) AllT.nil
            go_simp
            refine hK.out _ _ (HSX.out _ _ _ _ _ _ _ _ ((HM2.out.set 1 _ rfl).set 2 _ rfl)) (fun hHeld => ?_)
            clear hK K
            refine wpT_done (by kernel_rfl) ?_ _
            have HM3 := hid ((HM2.out.set 1 (.slice na (N.length + 1) nc) (en' := .slice na (N.length + 1) nc) rfl).set 2 (.slice nq (L.length + 1) ncq) (eq' := .slice nq (L.length + 1) ncq) rfl)
            clear kv1 zv1 kv2 zv2
            go_wp2_with fail
            go_roundw
            case rel => exact ⟨j + 1, _, _, N ++ [s], L ++ [x], _, HJ.out.2, by go_num, HM3, HN1⟩
            case measure => have := HJ.out; simp [intOf]; omega
        · have hjj : j = ns.length := by omega
          have HNN : Hid (N = ns ∧ L = List.replicate ns.length x) := hid ⟨by rw [HNLN.out.1, hjj, List.take_length], by rw [HNLN.out.2.2.1, hjj]⟩
          have HR : Hid (R = (.mk 0 N L [], true)) := hid (by rw [HF.out, HNN.out.1, HNN.out.2])
          have HRS := hid ((HM.out.par.one valRd_mono').reads valRd_mono')
          have HBB := hid HM.out.base
          have HRD : Hid (valRd (only (from_ (w.heap.size + 3)) wr) (.mk 0 N L []) [.int .i64 0, .slice an' N.length cn', .slice aq L.length cq, .slice none 0 0]) := hid ((valRd_iff _ _ _).2 ⟨_, _, _, rfl, i64_0, Strs.mono (strs_owns HM.out.nam (by rw [HNN.out.1]; exact strs_le HLN.out)) (only_from_mono _ (by have := HBB.out; omega)), HRS.out, sl_none _ _ _⟩)
          have l3 := STW.out.cellL (i := 3) HC3.out
          clear hjj
          have r0 := STW.out.cellR (i := 0) rfl
          have e0 := STW.out.freeR 0
          have u0 := STW.out.cellV (i := 0) rfl
          have r1 := STW.out.cellR (i := 1) rfl
          have e1 := STW.out.freeR 1
          have u1 := STW.out.cellV (i := 1) rfl
          have r2 := STW.out.cellR (i := 2) rfl
          have e2 := STW.out.freeR 2
          have u2 := STW.out.cellV (i := 2) rfl
          have r3 := STW.out.cellR (i := 3) rfl
          have e3 := STW.out.freeR 3
          have u3 := STW.out.cellV (i := 3) rfl
          go_wp2_with fail
          (try simp only [Exit.inBlock, Exit.then])
          refine bodyPost_ret (v := .tuple #[.agg #[.int .i64 0, .slice an' N.length cn', .slice aq L.length cq, .slice none 0 0], .bool true]) (by simp [results, Tryz.results40, go_sem, r0, r1, r2, r3, e0, e1, e2, e3]) rfl (BvSt.post STW.out HRD.out HR.out _ _ _ _)
 · have HF : Hid (R = (zeroV, true)) := hid (by rw [HT2.out, htr]; rfl)
   have STW := ST1
   clear HT2 htr y0 y1 y2 y3 y4 y5
   have r0 := STW.out.cellR (i := 0) rfl
   have e0 := STW.out.freeR 0
   have u0 := STW.out.cellV (i := 0) rfl
   have r1 := STW.out.cellR (i := 1) rfl
   have e1 := STW.out.freeR 1
   have u1 := STW.out.cellV (i := 1) rfl
   have r2 := STW.out.cellR (i := 2) rfl
   have e2 := STW.out.freeR 2
   have u2 := STW.out.cellV (i := 2) rfl
   have r3 := STW.out.cellR (i := 3) rfl
   have e3 := STW.out.freeR 3
   have u3 := STW.out.cellV (i := 3) rfl
   go_wp2_with fail
   (try simp only [Exit.inBlock, Exit.then])
   refine bodyPost_ret (v := .tuple #[.agg #[.int .i64 0, .slice none 0 0, .slice none 0 0, .slice none 0 0], .bool true]) (by simp [results, Tryz.results40, go_sem, r0, r1, r2, r3, e0, e1, e2, e3]) rfl (BvSt.post STW.out (zeroV_rd _) HF.out _ _ _ _)
end Go.Proofs.YtmdjnaobllajmaaGreatDoor
