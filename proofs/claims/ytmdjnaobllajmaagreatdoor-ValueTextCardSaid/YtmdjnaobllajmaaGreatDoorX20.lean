/-
  What the statements of the chapter share, part 20: VTxt5, VTop1, VTop2, VTop3, POrd.
-/
import Derived.Test.YtmdjnaobllajmaaGreatDoorX05
import Derived.Test.YtmdjnaobllajmaaGreatDoorX09
import Derived.Test.YtmdjnaobllajmaaGreatDoorX17
import Derived.Test.YtmdjnaobllajmaaGreatDoorX18
import Derived.Test.YtmdjnaobllajmaaGreatDoorX19
import Derived.Lib.Strings
set_option linter.unusedVariables false
set_option linter.unusedSimpArgs false
set_option maxRecDepth 100000
set_option maxHeartbeats 8000000
namespace Go.Proofs.YtmdjnaobllajmaaGreatDoor
open Go.RowKit
theorem list_two {α : Type} : ∀ {l : List α}, l.length = 2 → ∃ a b, l = [a, b]
 | [a, b], _ => ⟨a, b, rfl⟩
 | [], h => by simp at h
 | [_], h => by simp at h
 | _ :: _ :: _ :: _, h => by simp at h
theorem text_7 (l : Lat) (v : Val) (hk : l.kind = 7) (hwf : WfL l) (hel : elemB l v = true) (ih : ∀ p ∈ l.parts, ∀ v, elemB p v = true → TextOk p v) : TextOk l v := by
 intro cl cv w hl hv ht hsz
 obtain ⟨aln, cln, alp, clp, alr, clr, rfl, hli, hln, hlp, hlr, ⟨_, mln⟩, ⟨_, mlp⟩, _, mlr⟩ := latRd.lay hl
 obtain ⟨bvn, dvn, bvp, dvp, bve, dve, rfl, gvi, gvn, gvp, gve, ⟨_, nvn⟩, ⟨_, nvp⟩, _, nve⟩ := valRd.lay hv
 have HKD := hid hwf.kinds
 obtain ⟨k, lo, hi, ns, ps, rs⟩ := l
 obtain ⟨vn, vns, vps, ves⟩ := v
 simp only [Lat.kind, Lat.lo, Lat.hi, Lat.names, Lat.parts, Lat.rules, Val.n, Val.names, Val.parts, Val.entries] at *
 subst hk
 have HTB := hid ht
 have HSZ := hid hsz
 have HB : Hid (∀ O O', Below w.heap.size w ((w.alloc O).alloc O')) := hid fun O O' => ((Below.refl _ _).alloc (Nat.le_refl _) O).alloc (by simp) O'
 have hF := (isE_67 (by omega)).1 hel
 simp only [Val.n, Val.names, Val.parts, Val.entries] at hF
 have hp2 : ps.length = 2 := HKD.out.2.2.1 rfl
 have hv2 : vps.length = 2 := by omega
 obtain ⟨p0, p1, rfl⟩ := list_two hp2
 obtain ⟨x0, x1, rfl⟩ := list_two hv2
 have HT : Hid (textV (.mk 7 lo hi ns [p0, p1] rs) (.mk vn vns [x0, x1] ves) = 60 :: ((textV p0 x0 ++ (44 :: 32 :: textV p1 x1)) ++ [62])) := hid (by rw [textV]; simp only [textParts, Val.parts]; rw [Lib.join_cons]; simp [Lib.joinTail])
 generalize textV (.mk 7 lo hi ns [p0, p1] rs) (.mk vn vns [x0, x1] ves) = R at HT HSZ ⊢
 have hes := hF.2.2
 rw [elemsB, elemsB, elemsB, Bool.and_true, Bool.and_eq_true] at hes
 have HT0 := hid (ih p0 (by simp) x0 hes.1)
 have HT1 := hid (ih p1 (by simp) x1 hes.2)
 have HSS : Hid ((textV p0 x0).length + (textV p1 x1).length + 4 ≤ 100000000) := hid (by
  have := HSZ.out
  rw [HT.out] at this
  simp only [List.length_cons, List.length_append, List.length_nil] at this
  omega)
 obtain ⟨p0', lb, lo2, san, scn, sap, scp, sar, scr, h1, _, _, _, rfl, HYR0, HYC0⟩ := latEl hlp 0 (by simp)
 obtain ⟨p1', lb', lo2', tan, tcn, tap, tcp, tar, tcr, h2, _, _, _, e2, HYR1, HYC1⟩ := latEl hlp 1 (by simp)
 obtain ⟨x0', vb, vo2, sbn, sdn, sbp, sdp, sbe, sde, h3, _, _, _, rfl, HXR0, HXC0⟩ := valEl gvp 0 (by simp)
 obtain ⟨x1', vb', vo2', tbn, tdn, tbp, tdp, tbe, tde, h4, _, _, _, e4, HXR1, HXC1⟩ := valEl gvp 1 (by simp)
 cases e2
 cases e4
 have h1 : p0 = p0' := by simpa using h1
 have h2 : p1 = p1' := by simpa using h2
 have h3 : x0 = x0' := by simpa using h3
 have h4 : x1 = x1' := by simpa using h4
 subst h1 h2 h3 h4
 simp only [Nat.zero_mul, Nat.one_mul, Nat.add_zero] at HYC0 HYC1 HXC0 HXC1
 have HYR0 := hid HYR0
 have HYR1 := hid HYR1
 have HXR0 := hid HXR0
 have HXR1 := hid HXR1
 have HYC0 := hid HYC0
 have HYC1 := hid HYC1
 have HXC0 := hid HXC0
 have HXC1 := hid HXC1
 clear hes hF hp2 hv2 ih
 simp only [List.length_cons, List.length_nil, Nat.zero_add, Nat.reduceAdd] at *
 clear hl hv ht hsz hel hwf hln hlp hlr gvn gvp gve gvi
 go_enter Tryz.func58, Tryz.ntmps58
 go_wp2_with fail
 have HB0 := hid (HB.out (.cells #[.int .i64 7, .int .i64 lo, .int .i64 hi, .slice aln ns.length cln, .slice (some ⟨lb, lo2, none⟩) 2 clp, .slice alr rs.length clr] 26) (.cells #[.int .i64 vn, .slice bvn vns.length dvn, .slice (some ⟨vb, vo2, none⟩) 2 dvp, .slice bve ves.length dve] 30))
 have HX : Hid (∀ u, Below ((w.alloc (.cells #[.int .i64 7, .int .i64 lo, .int .i64 hi, .slice aln ns.length cln, .slice (some ⟨lb, lo2, none⟩) 2 clp, .slice alr rs.length clr] 26)).alloc (.cells #[.int .i64 vn, .slice bvn vns.length dvn, .slice (some ⟨vb, vo2, none⟩) 2 dvp, .slice bve ves.length dve] 30)).heap.size ((w.alloc (.cells #[.int .i64 7, .int .i64 lo, .int .i64 hi, .slice aln ns.length cln, .slice (some ⟨lb, lo2, none⟩) 2 clp, .slice alr rs.length clr] 26)).alloc (.cells #[.int .i64 vn, .slice bvn vns.length dvn, .slice (some ⟨vb, vo2, none⟩) 2 dvp, .slice bve ves.length dve] 30)) u → (∀ (i : Nat) q, #[.int .i64 7, .int .i64 lo, .int .i64 hi, .slice aln ns.length cln, .slice (some ⟨lb, lo2, none⟩) 2 clp, .slice alr rs.length clr][i]? = some q → u.cell? ⟨w.heap.size, i, none⟩ = some q) ∧ (∀ (i : Nat) q, #[.int .i64 vn, .slice bvn vns.length dvn, .slice (some ⟨vb, vo2, none⟩) 2 dvp, .slice bve ves.length dve][i]? = some q → u.cell? ⟨w.heap.size + 1, i, none⟩ = some q)) := hid fun u hu => two_boxes w #[.int .i64 7, .int .i64 lo, .int .i64 hi, .slice aln ns.length cln, .slice (some ⟨lb, lo2, none⟩) 2 clp, .slice alr rs.length clr] #[.int .i64 vn, .slice bvn vns.length dvn, .slice (some ⟨vb, vo2, none⟩) 2 dvp, .slice bve ves.length dve] 26 30 (hu.mono (by simp))
 generalize (w.alloc (.cells #[.int .i64 7, .int .i64 lo, .int .i64 hi, .slice aln ns.length cln, .slice (some ⟨lb, lo2, none⟩) 2 clp, .slice alr rs.length clr] 26)).alloc (.cells #[.int .i64 vn, .slice bvn vns.length dvn, .slice (some ⟨vb, vo2, none⟩) 2 dvp, .slice bve ves.length dve] 30) = w0 at HB0 HX ⊢
 have HU : Hid (∀ u, Below w0.heap.size w0 u → Below w.heap.size w u) := hid fun u hu => HB0.out.trans (hu.mono HB0.out.size)
 have HF : Hid (∀ w', Below w0.heap.size w0 w' → w'.cell? ⟨w.heap.size, 4, none⟩ = some (.slice (some ⟨lb, lo2, none⟩) 2 clp) ∧ w'.cell? ⟨w.heap.size + 1, 2, none⟩ = some (.slice (some ⟨vb, vo2, none⟩) 2 dvp) ∧ (w'.cell? ⟨lb, lo2, none⟩ = some (.int .i64 p0.kind) ∧ w'.cell? ⟨lb, lo2 + 1, none⟩ = some (.int .i64 p0.lo) ∧ w'.cell? ⟨lb, lo2 + 2, none⟩ = some (.int .i64 p0.hi) ∧ w'.cell? ⟨lb, lo2 + 3, none⟩ = some (.slice san p0.names.length scn) ∧ w'.cell? ⟨lb, lo2 + 4, none⟩ = some (.slice sap p0.parts.length scp) ∧ w'.cell? ⟨lb, lo2 + 5, none⟩ = some (.slice sar p0.rules.length scr)) ∧ (w'.cell? ⟨lb, lo2 + 6, none⟩ = some (.int .i64 p1.kind) ∧ w'.cell? ⟨lb, lo2 + 6 + 1, none⟩ = some (.int .i64 p1.lo) ∧ w'.cell? ⟨lb, lo2 + 6 + 2, none⟩ = some (.int .i64 p1.hi) ∧ w'.cell? ⟨lb, lo2 + 6 + 3, none⟩ = some (.slice tan p1.names.length tcn) ∧ w'.cell? ⟨lb, lo2 + 6 + 4, none⟩ = some (.slice tap p1.parts.length tcp) ∧ w'.cell? ⟨lb, lo2 + 6 + 5, none⟩ = some (.slice tar p1.rules.length tcr)) ∧ (w'.cell? ⟨vb, vo2, none⟩ = some (.int .i64 x0.n) ∧ w'.cell? ⟨vb, vo2 + 1, none⟩ = some (.slice sbn x0.names.length sdn) ∧ w'.cell? ⟨vb, vo2 + 2, none⟩ = some (.slice sbp x0.parts.length sdp) ∧ w'.cell? ⟨vb, vo2 + 3, none⟩ = some (.slice sbe x0.entries.length sde)) ∧ (w'.cell? ⟨vb, vo2 + 4, none⟩ = some (.int .i64 x1.n) ∧ w'.cell? ⟨vb, vo2 + 4 + 1, none⟩ = some (.slice tbn x1.names.length tdn) ∧ w'.cell? ⟨vb, vo2 + 4 + 2, none⟩ = some (.slice tbp x1.parts.length tdp) ∧ w'.cell? ⟨vb, vo2 + 4 + 3, none⟩ = some (.slice tbe x1.entries.length tde))) := hid fun u hu => ⟨(HX.out u hu).1 4 _ rfl, (HX.out u hu).2 2 _ rfl, (HYC0.out.below (HU.out u hu)).six, (HYC1.out.below (HU.out u hu)).six, (HXC0.out.below (HU.out u hu)).four, (HXC1.out.below (HU.out u hu)).four⟩
 have HC0 : Hid (∀ u, Below w0.heap.size w0 u → Calls Tryz.prog 58 #[.agg #[.int .i64 p0.kind, .int .i64 p0.lo, .int .i64 p0.hi, .slice san p0.names.length scn, .slice sap p0.parts.length scp, .slice sar p0.rules.length scr], .agg #[.int .i64 x0.n, .slice sbn x0.names.length sdn, .slice sbp x0.parts.length sdp, .slice sbe x0.entries.length sde]] u fun e w' => e = .returned (.string (strOf (textV p0 x0))) ∧ Below u.heap.size u w') := hid fun u hu => HT0.out _ _ u (latRd.below (HU.out u hu) _ _ HYR0.out) (valRd.below (HU.out u hu) _ _ HXR0.out) (HTB.out.below (HU.out u hu)) (by have := HSS.out; omega)
 have HC1 : Hid (∀ u, Below w0.heap.size w0 u → Calls Tryz.prog 58 #[.agg #[.int .i64 p1.kind, .int .i64 p1.lo, .int .i64 p1.hi, .slice tan p1.names.length tcn, .slice tap p1.parts.length tcp, .slice tar p1.rules.length tcr], .agg #[.int .i64 x1.n, .slice tbn x1.names.length tdn, .slice tbp x1.parts.length tdp, .slice tbe x1.entries.length tde]] u fun e w' => e = .returned (.string (strOf (textV p1 x1))) ∧ Below u.heap.size u w') := hid fun u hu => HT1.out _ _ u (latRd.below (HU.out u hu) _ _ HYR1.out) (valRd.below (HU.out u hu) _ _ HXR1.out) (HTB.out.below (HU.out u hu)) (by have := HSS.out; omega)
 have HSE : Hid ((((⟨#[60]⟩ ++ strOf (textV p0 x0)) ++ ⟨#[44, 32]⟩) ++ strOf (textV p1 x1)) ++ ⟨#[62]⟩ = strOf R) := hid (by
  have e1 : (⟨#[60]⟩ : ByteArray) = strOf [60] := rfl
  have e2 : (⟨#[44, 32]⟩ : ByteArray) = strOf [44, 32] := rfl
  have e3 : (⟨#[62]⟩ : ByteArray) = strOf [62] := rfl
  rw [e1, e2, e3, strOf_append, strOf_append, strOf_append, strOf_append, HT.out]
  congr 1
  simp)
 have HSL : Hid ((strOf (textV p0 x0)).size + (strOf (textV p1 x1)).size + 4 ≤ 100000000) := HSS
 generalize strOf (textV p0 x0) = T0 at HC0 HSE HSL
 generalize strOf (textV p1 x1) = T1 at HC1 HSE HSL
 have hz1 : ¬ (9223372036854775807 < 1 + T0.size) := by have := HSL.out; omega
 have hz2 : ¬ (9223372036854775807 < 1 + T0.size + 2) := by have := HSL.out; omega
 have hz3 : ¬ (9223372036854775807 < 1 + T0.size + 2 + T1.size) := by have := HSL.out; omega
 have hz4 : ¬ (9223372036854775807 < 1 + T0.size + 2 + T1.size + 1) := by have := HSL.out; omega
 go_region_held3 (fun w' => w'.cell? ⟨w.heap.size, 4, none⟩ = some (.slice (some ⟨lb, lo2, none⟩) 2 clp) ∧ w'.cell? ⟨w.heap.size + 1, 2, none⟩ = some (.slice (some ⟨vb, vo2, none⟩) 2 dvp) ∧ (w'.cell? ⟨lb, lo2, none⟩ = some (.int .i64 p0.kind) ∧ w'.cell? ⟨lb, lo2 + 1, none⟩ = some (.int .i64 p0.lo) ∧ w'.cell? ⟨lb, lo2 + 2, none⟩ = some (.int .i64 p0.hi) ∧ w'.cell? ⟨lb, lo2 + 3, none⟩ = some (.slice san p0.names.length scn) ∧ w'.cell? ⟨lb, lo2 + 4, none⟩ = some (.slice sap p0.parts.length scp) ∧ w'.cell? ⟨lb, lo2 + 5, none⟩ = some (.slice sar p0.rules.length scr)) ∧ (w'.cell? ⟨lb, lo2 + 6, none⟩ = some (.int .i64 p1.kind) ∧ w'.cell? ⟨lb, lo2 + 6 + 1, none⟩ = some (.int .i64 p1.lo) ∧ w'.cell? ⟨lb, lo2 + 6 + 2, none⟩ = some (.int .i64 p1.hi) ∧ w'.cell? ⟨lb, lo2 + 6 + 3, none⟩ = some (.slice tan p1.names.length tcn) ∧ w'.cell? ⟨lb, lo2 + 6 + 4, none⟩ = some (.slice tap p1.parts.length tcp) ∧ w'.cell? ⟨lb, lo2 + 6 + 5, none⟩ = some (.slice tar p1.rules.length tcr)) ∧ (w'.cell? ⟨vb, vo2, none⟩ = some (.int .i64 x0.n) ∧ w'.cell? ⟨vb, vo2 + 1, none⟩ = some (.slice sbn x0.names.length sdn) ∧ w'.cell? ⟨vb, vo2 + 2, none⟩ = some (.slice sbp x0.parts.length sdp) ∧ w'.cell? ⟨vb, vo2 + 3, none⟩ = some (.slice sbe x0.entries.length sde)) ∧ (w'.cell? ⟨vb, vo2 + 4, none⟩ = some (.int .i64 x1.n) ∧ w'.cell? ⟨vb, vo2 + 4 + 1, none⟩ = some (.slice tbn x1.names.length tdn) ∧ w'.cell? ⟨vb, vo2 + 4 + 2, none⟩ = some (.slice tbp x1.parts.length tdp) ∧ w'.cell? ⟨vb, vo2 + 4 + 3, none⟩ = some (.slice tbe x1.entries.length tde)))
   (first
     | exact HF.out _ (Below.refl _ _).drew
     | exact HF.out _ (Below.refl _ _)
     | exact HF.out _ HB2.out
     | exact HF.out _ HB1.out
     | skip)
   (first
     | (go_at_call 58
        refine (HC1.out _ HB1.out).mono ?_
        rintro e w2 ⟨rfl, hb2⟩
        have HB2 : Hid (Below w0.heap.size w0 w2) := hid (HB1.out.trans (hb2.mono HB1.out.size))
        clear hb2)
     | (go_at_call 58
        refine (HC0.out _ (Below.refl _ _).drew).mono ?_
        rintro e w1 ⟨rfl, hb1⟩
        have HB1 : Hid (Below w0.heap.size w0 w1) := hid ((Below.refl _ _).drew.trans hb1)
        clear hb1))
 all_goals
  clear hz1 hz2 hz3 hz4
  go_wp2_with fail
  go_ret
  exact ⟨ret_str HSE.out, HU.out _ HB2.out⟩
theorem text_any (f : Nat) : ∀ (l : Lat) (v : Val), SizeOf.sizeOf l ≤ f → WfL l → elemB l v = true → TextOk l v := by
 induction f with
 | zero => intro l v hn; cases l; simp at hn
 | succ f ih =>
   intro l v hn hwf hel
   have IH : ∀ p ∈ l.parts, ∀ v, elemB p v = true → TextOk p v := fun p hp v => ih p v (by have := sizeOf_lpart hp; omega) (hwf.part hp)
   rcases (by have := hwf.kinds.1; omega : l.kind = 1 ∨ l.kind = 2 ∨ l.kind = 3 ∨ l.kind = 4 ∨ l.kind = 5 ∨ l.kind = 6 ∨ l.kind = 7 ∨ l.kind = 8 ∨ l.kind = 9 ∨ l.kind = 10) with e | e | e | e | e | e | e | e | e | e
   · exact text_1 l v e hwf hel
   · exact text_2 l v e hwf hel
   · exact text_3 l v e hwf hel
   · exact text_4 l v e hwf hel
   · exact text_5 l v e hwf hel IH
   · exact text_6 l v e hwf hel IH
   · exact text_7 l v e hwf hel IH
   · exact text_8 l v e hwf hel
   · exact text_9 l v e hwf hel
   · exact text_10 l v e hwf hel
def StrEPost (w : World) (x : List UInt8 × Int) (e : Ending) (w' : World) : Prop := e = .returned (.tuple #[.string (strOf x.1), .int .i64 x.2]) ∧ Below w.heap.size w w'
def textE' (l : Lat) (v : Val) : List UInt8 × Int := if chkE l ≠ 0 then ([], 1) else if elemB l v = false then ([], 4) else (textV l v, 0)
theorem Text_any (l : Lat) (v : Val) (cl cv : List Value) (w : World) (hl : latRd w l cl) (hv : valRd w v cv) (ht : Tab w) (hsz : chkE l = 0 → elemB l v = true → (textV l v).length ≤ 100000000) :
 Calls Tryz.prog 29 #[.agg cl.toArray, .agg cv.toArray] w (StrEPost w (textE' l v)) := by
 have HC : Hid (∀ W, Below w.heap.size w W → Calls Tryz.prog 36 #[.agg cl.toArray] W fun e w' => e = .returned (.int .i64 (chkE l)) ∧ Below W.heap.size W w') := hid fun W h => check_any l cl W (latRd.below h _ _ hl)
 have HEL : Hid (chkE l = 0 → ∀ W, Below w.heap.size w W → Calls Tryz.prog 37 #[.agg cl.toArray, .agg cv.toArray] W fun e w' => e = .returned (.bool (elemB l v)) ∧ Below W.heap.size W w') := hid fun h0 W h => element_any _ l v cl cv W (Nat.le_refl _) (latRd.below h _ _ hl) (valRd.below h _ _ hv) (chkE_wf h0)
 have HTX : Hid (chkE l = 0 → elemB l v = true → ∀ W, Below w.heap.size w W → Calls Tryz.prog 58 #[.agg cl.toArray, .agg cv.toArray] W fun e w' => e = .returned (.string (strOf (textV l v))) ∧ Below W.heap.size W w') :=
   hid fun h0 h1 W h => text_any _ l v (Nat.le_refl _) (chkE_wf h0) h1 cl cv W (latRd.below h _ _ hl) (valRd.below h _ _ hv) (ht.below h) (hsz h0 h1)
 have HE : Hid (textE' l v = if chkE l ≠ 0 then ([], 1) else if elemB l v = false then ([], 4) else (textV l v, 0)) := hid rfl
 generalize textE' l v = R at HE ⊢
 generalize elemB l v = F at HEL HTX HE
 generalize chkE l = E at HC HEL HTX HE
 generalize textV l v = PB at HTX HE
 obtain ⟨aln, cln, alp, clp, alr, clr, rfl, hli, hln, hlp, hlr, ⟨_, mln⟩, ⟨_, mlp⟩, _, mlr⟩ := latRd.lay hl
 obtain ⟨bvn, dvn, bvp, dvp, bve, dve, rfl, gvi, gvn, gvp, gve, ⟨_, nvn⟩, ⟨_, nvp⟩, _, nve⟩ := valRd.lay hv
 clear hl hli hln hlp hlr hv gvi gvn gvp gve hsz ht
 have HB : Hid (∀ x : Ext ((w.alloc (.cells #[.int .i64 l.kind, .int .i64 l.lo, .int .i64 l.hi, .slice aln l.names.length cln, .slice alp l.parts.length clp, .slice alr l.rules.length clr] 26)).alloc (.cells #[.int .i64 v.n, .slice bvn v.names.length dvn, .slice bvp v.parts.length dvp, .slice bve v.entries.length dve] 30)), Below w.heap.size w x.1) := hid fun x => (((Below.refl _ _).alloc (Nat.le_refl _) _).alloc (by simp) _).trans (x.2.mono (by simp; omega))
 have HX : Hid (∀ x : Ext ((w.alloc (.cells #[.int .i64 l.kind, .int .i64 l.lo, .int .i64 l.hi, .slice aln l.names.length cln, .slice alp l.parts.length clp, .slice alr l.rules.length clr] 26)).alloc (.cells #[.int .i64 v.n, .slice bvn v.names.length dvn, .slice bvp v.parts.length dvp, .slice bve v.entries.length dve] 30)), (∀ (i : Nat) q, #[.int .i64 l.kind, .int .i64 l.lo, .int .i64 l.hi, .slice aln l.names.length cln, .slice alp l.parts.length clp, .slice alr l.rules.length clr][i]? = some q → x.1.cell? ⟨w.heap.size, i, none⟩ = some q) ∧ (∀ (i : Nat) q, #[.int .i64 v.n, .slice bvn v.names.length dvn, .slice bvp v.parts.length dvp, .slice bve v.entries.length dve][i]? = some q → x.1.cell? ⟨w.heap.size + 1, i, none⟩ = some q)) :=
  hid fun x => two_boxes w #[.int .i64 l.kind, .int .i64 l.lo, .int .i64 l.hi, .slice aln l.names.length cln, .slice alp l.parts.length clp, .slice alr l.rules.length clr] #[.int .i64 v.n, .slice bvn v.names.length dvn, .slice bvp v.parts.length dvp, .slice bve v.entries.length dve] 26 30 (x.2.mono (by simp))
 go_enter Tryz.func29, Tryz.ntmps29
 go_wp2_with fail
 generalize (w.alloc (.cells #[.int .i64 l.kind, .int .i64 l.lo, .int .i64 l.hi, .slice aln l.names.length cln, .slice alp l.parts.length clp, .slice alr l.rules.length clr] 26)).alloc (.cells #[.int .i64 v.n, .slice bvn v.names.length dvn, .slice bvp v.parts.length dvp, .slice bve v.entries.length dve] 30) = W2 at HB HX ⊢
 refine (HC.out _ (HB.out ⟨_, Below.refl _ _⟩)).mono ?_
 rintro e w1 ⟨rfl, hb1⟩
 have HB1 := hid hb1
 clear hb1
 have p0 : w1.cell? ⟨w.heap.size, 0, none⟩ = some (.int .i64 l.kind) := (HX.out ⟨_, HB1.out⟩).1 0 _ rfl
 have p1 : w1.cell? ⟨w.heap.size, 1, none⟩ = some (.int .i64 l.lo) := (HX.out ⟨_, HB1.out⟩).1 1 _ rfl
 have p2 : w1.cell? ⟨w.heap.size, 2, none⟩ = some (.int .i64 l.hi) := (HX.out ⟨_, HB1.out⟩).1 2 _ rfl
 have p3 : w1.cell? ⟨w.heap.size, 3, none⟩ = some (.slice aln l.names.length cln) := (HX.out ⟨_, HB1.out⟩).1 3 _ rfl
 have p4 : w1.cell? ⟨w.heap.size, 4, none⟩ = some (.slice alp l.parts.length clp) := (HX.out ⟨_, HB1.out⟩).1 4 _ rfl
 have p5 : w1.cell? ⟨w.heap.size, 5, none⟩ = some (.slice alr l.rules.length clr) := (HX.out ⟨_, HB1.out⟩).1 5 _ rfl
 have pv0 : w1.cell? ⟨w.heap.size + 1, 0, none⟩ = some (.int .i64 v.n) := (HX.out ⟨_, HB1.out⟩).2 0 _ rfl
 have pv1 : w1.cell? ⟨w.heap.size + 1, 1, none⟩ = some (.slice bvn v.names.length dvn) := (HX.out ⟨_, HB1.out⟩).2 1 _ rfl
 have pv2 : w1.cell? ⟨w.heap.size + 1, 2, none⟩ = some (.slice bvp v.parts.length dvp) := (HX.out ⟨_, HB1.out⟩).2 2 _ rfl
 have pv3 : w1.cell? ⟨w.heap.size + 1, 3, none⟩ = some (.slice bve v.entries.length dve) := (HX.out ⟨_, HB1.out⟩).2 3 _ rfl
 by_cases hE : E = 0
 · have HEL2 := hid (HEL.out hE)
   have HTX2 := hid (HTX.out hE)
   have HE2 : Hid (R = if F = false then ([], 4) else (PB, 0)) := hid (by rw [HE.out, if_neg (fun h => h hE)])
   subst hE
   clear HC HEL HTX HE
   go_wp2_with fail
   refine (HEL2.out _ (HB.out ⟨_, HB1.out⟩)).mono ?_
   rintro e w2 ⟨rfl, hb2⟩
   have HB2 : Hid (Below W2.heap.size W2 w2) := hid (HB1.out.trans (hb2.mono HB1.out.size))
   clear hb2 HEL2 p0 p1 p2 p3 p4 p5 pv0 pv1 pv2 pv3
   cases hF : F
   · have HR : Hid (R = ([], 4)) := hid (by rw [HE2.out, if_pos hF])
     subst hF
     clear HE2 HTX2
     go_wp2_with fail
     go_ret2
     exact ⟨by rw [HR.out]; rfl, HB.out ⟨_, HB2.out⟩⟩
   · have HR : Hid (R = (PB, 0)) := hid (by rw [HE2.out, hF]; rfl)
     have HTX3 := hid (HTX2.out hF)
     subst hF
     clear HE2 HTX2
     have q0 : w2.cell? ⟨w.heap.size, 0, none⟩ = some (.int .i64 l.kind) := (HX.out ⟨_, HB2.out⟩).1 0 _ rfl
     have q1 : w2.cell? ⟨w.heap.size, 1, none⟩ = some (.int .i64 l.lo) := (HX.out ⟨_, HB2.out⟩).1 1 _ rfl
     have q2 : w2.cell? ⟨w.heap.size, 2, none⟩ = some (.int .i64 l.hi) := (HX.out ⟨_, HB2.out⟩).1 2 _ rfl
     have q3 : w2.cell? ⟨w.heap.size, 3, none⟩ = some (.slice aln l.names.length cln) := (HX.out ⟨_, HB2.out⟩).1 3 _ rfl
     have q4 : w2.cell? ⟨w.heap.size, 4, none⟩ = some (.slice alp l.parts.length clp) := (HX.out ⟨_, HB2.out⟩).1 4 _ rfl
     have q5 : w2.cell? ⟨w.heap.size, 5, none⟩ = some (.slice alr l.rules.length clr) := (HX.out ⟨_, HB2.out⟩).1 5 _ rfl
     have qv0 : w2.cell? ⟨w.heap.size + 1, 0, none⟩ = some (.int .i64 v.n) := (HX.out ⟨_, HB2.out⟩).2 0 _ rfl
     have qv1 : w2.cell? ⟨w.heap.size + 1, 1, none⟩ = some (.slice bvn v.names.length dvn) := (HX.out ⟨_, HB2.out⟩).2 1 _ rfl
     have qv2 : w2.cell? ⟨w.heap.size + 1, 2, none⟩ = some (.slice bvp v.parts.length dvp) := (HX.out ⟨_, HB2.out⟩).2 2 _ rfl
     have qv3 : w2.cell? ⟨w.heap.size + 1, 3, none⟩ = some (.slice bve v.entries.length dve) := (HX.out ⟨_, HB2.out⟩).2 3 _ rfl
     go_wp2_with fail
     refine (HTX3.out _ (HB.out ⟨_, HB2.out⟩)).mono ?_
     rintro e w3 ⟨rfl, hb3⟩
     have HB3 : Hid (Below W2.heap.size W2 w3) := hid (HB2.out.trans (hb3.mono HB2.out.size))
     clear hb3
     go_wp2_with fail
     go_ret2
     exact ⟨by rw [HR.out]; rfl, HB.out ⟨_, HB3.out⟩⟩
 · have hEb : (E != 0) = true := by simpa using hE
   have HR : Hid (R = ([], 1)) := hid (by rw [HE.out, if_pos hE])
   clear hE HC HEL HTX HE
   go_wp2_with fail
   go_ret2
   exact ⟨by rw [HR.out]; rfl, HB.out ⟨_, HB1.out⟩⟩
theorem top_1 (l : Lat) (hwf : WfL l) (hk : l.kind = 1) : TopOk l := by
 intro cl w hl
 obtain ⟨aln, cln, alp, clp, alr, clr, rfl, hli, hln, hlp, hlr, ⟨_, mln⟩, ⟨_, mlp⟩, _, mlr⟩ := latRd.lay hl
 have HKD := hid hwf.kinds
 obtain ⟨k, lo, hi, ns, ps, rs⟩ := l
 simp only [Lat.kind, Lat.lo, Lat.hi, Lat.names, Lat.parts, Lat.rules] at *
 subst hk
 have HT : Hid (topV (.mk 1 lo hi ns ps rs) = (.mk 1 [] [] [], true)) := hid (by rw [topV]; rfl)
 generalize topV (.mk 1 lo hi ns ps rs) = R at HT ⊢
 have HLN := hid hln
 have HLP := hid hlp
 have HI := hid hli
 have HST := hid (BvSt.start w #[.int .i64 1, .int .i64 lo, .int .i64 hi, .slice aln ns.length cln, .slice alp ps.length clp, .slice alr rs.length clr])
 clear hl hwf hli hln hlp hlr
 go_enter Tryz.func39, Tryz.ntmps39
 go_wp2_with fail
 refine bodyPost_ret (v := .tuple #[.agg #[.int .i64 1, .slice none 0 0, .slice none 0 0, .slice none 0 0], .bool true]) (by simp [results, Tryz.results39, go_sem]) rfl ⟨[_, _, _, _], by rw [HT.out], by rw [HT.out]; exact valRd_flat _ _ (by unfold I64; omega), by repeat (first | exact Below.refl _ _ | refine Below.setCell ?_ (by simp) _ | refine Below.alloc ?_ (by simp <;> omega) _ | refine Below.drew ?_)⟩
theorem top_2 (l : Lat) (hwf : WfL l) (hk : l.kind = 2) : TopOk l := by
 intro cl w hl
 obtain ⟨aln, cln, alp, clp, alr, clr, rfl, hli, hln, hlp, hlr, ⟨_, mln⟩, ⟨_, mlp⟩, _, mlr⟩ := latRd.lay hl
 have HKD := hid hwf.kinds
 obtain ⟨k, lo, hi, ns, ps, rs⟩ := l
 simp only [Lat.kind, Lat.lo, Lat.hi, Lat.names, Lat.parts, Lat.rules] at *
 subst hk
 have HT : Hid (topV (.mk 2 lo hi ns ps rs) = (.mk hi [] [] [], true)) := hid (by rw [topV]; rfl)
 generalize topV (.mk 2 lo hi ns ps rs) = R at HT ⊢
 have HLN := hid hln
 have HLP := hid hlp
 have HI := hid hli
 have HST := hid (BvSt.start w #[.int .i64 2, .int .i64 lo, .int .i64 hi, .slice aln ns.length cln, .slice alp ps.length clp, .slice alr rs.length clr])
 clear hl hwf hli hln hlp hlr
 go_enter Tryz.func39, Tryz.ntmps39
 go_wp2_with fail
 refine bodyPost_ret (v := .tuple #[.agg #[.int .i64 hi, .slice none 0 0, .slice none 0 0, .slice none 0 0], .bool true]) (by simp [results, Tryz.results39, go_sem]) rfl ⟨[_, _, _, _], by rw [HT.out], by rw [HT.out]; exact valRd_flat _ _ HI.out.2.2, by repeat (first | exact Below.refl _ _ | refine Below.setCell ?_ (by simp) _ | refine Below.alloc ?_ (by simp <;> omega) _ | refine Below.drew ?_)⟩
theorem top_3 (l : Lat) (hwf : WfL l) (hk : l.kind = 3) : TopOk l := by
 intro cl w hl
 obtain ⟨aln, cln, alp, clp, alr, clr, rfl, hli, hln, hlp, hlr, ⟨_, mln⟩, ⟨_, mlp⟩, _, mlr⟩ := latRd.lay hl
 have HKD := hid hwf.kinds
 obtain ⟨k, lo, hi, ns, ps, rs⟩ := l
 simp only [Lat.kind, Lat.lo, Lat.hi, Lat.names, Lat.parts, Lat.rules] at *
 subst hk
 have HT : Hid (topV (.mk 3 lo hi ns ps rs) = (.mk lo [] [] [], true)) := hid (by rw [topV]; rfl)
 generalize topV (.mk 3 lo hi ns ps rs) = R at HT ⊢
 have HLN := hid hln
 have HLP := hid hlp
 have HI := hid hli
 have HST := hid (BvSt.start w #[.int .i64 3, .int .i64 lo, .int .i64 hi, .slice aln ns.length cln, .slice alp ps.length clp, .slice alr rs.length clr])
 clear hl hwf hli hln hlp hlr
 go_enter Tryz.func39, Tryz.ntmps39
 go_wp2_with fail
 refine bodyPost_ret (v := .tuple #[.agg #[.int .i64 lo, .slice none 0 0, .slice none 0 0, .slice none 0 0], .bool true]) (by simp [results, Tryz.results39, go_sem]) rfl ⟨[_, _, _, _], by rw [HT.out], by rw [HT.out]; exact valRd_flat _ _ HI.out.2.1, by repeat (first | exact Below.refl _ _ | refine Below.setCell ?_ (by simp) _ | refine Below.alloc ?_ (by simp <;> omega) _ | refine Below.drew ?_)⟩
theorem top_8 (l : Lat) (hwf : WfL l) (hk : l.kind = 8) : TopOk l := by
 intro cl w hl
 obtain ⟨aln, cln, alp, clp, alr, clr, rfl, hli, hln, hlp, hlr, ⟨_, mln⟩, ⟨_, mlp⟩, _, mlr⟩ := latRd.lay hl
 have HKD := hid hwf.kinds
 obtain ⟨k, lo, hi, ns, ps, rs⟩ := l
 simp only [Lat.kind, Lat.lo, Lat.hi, Lat.names, Lat.parts, Lat.rules] at *
 subst hk
 have HT : Hid (topV (.mk 8 lo hi ns ps rs) = (.mk 2 [] [] [], true)) := hid (by rw [topV]; rfl)
 generalize topV (.mk 8 lo hi ns ps rs) = R at HT ⊢
 have HLN := hid hln
 have HLP := hid hlp
 have HI := hid hli
 have HST := hid (BvSt.start w #[.int .i64 8, .int .i64 lo, .int .i64 hi, .slice aln ns.length cln, .slice alp ps.length clp, .slice alr rs.length clr])
 clear hl hwf hli hln hlp hlr
 go_enter Tryz.func39, Tryz.ntmps39
 go_wp2_with fail
 refine bodyPost_ret (v := .tuple #[.agg #[.int .i64 2, .slice none 0 0, .slice none 0 0, .slice none 0 0], .bool true]) (by simp [results, Tryz.results39, go_sem]) rfl ⟨[_, _, _, _], by rw [HT.out], by rw [HT.out]; exact valRd_flat _ _ (by unfold I64; omega), by repeat (first | exact Below.refl _ _ | refine Below.setCell ?_ (by simp) _ | refine Below.alloc ?_ (by simp <;> omega) _ | refine Below.drew ?_)⟩
theorem top_9 (l : Lat) (hwf : WfL l) (hk : l.kind = 9) : TopOk l := by
 intro cl w hl
 obtain ⟨aln, cln, alp, clp, alr, clr, rfl, hli, hln, hlp, hlr, ⟨_, mln⟩, ⟨_, mlp⟩, _, mlr⟩ := latRd.lay hl
 have HKD := hid hwf.kinds
 obtain ⟨k, lo, hi, ns, ps, rs⟩ := l
 simp only [Lat.kind, Lat.lo, Lat.hi, Lat.names, Lat.parts, Lat.rules] at *
 subst hk
 have HT : Hid (topV (.mk 9 lo hi ns ps rs) = (zeroV, false)) := hid (by rw [topV]; rfl)
 generalize topV (.mk 9 lo hi ns ps rs) = R at HT ⊢
 have HLN := hid hln
 have HLP := hid hlp
 have HI := hid hli
 have HST := hid (BvSt.start w #[.int .i64 9, .int .i64 lo, .int .i64 hi, .slice aln ns.length cln, .slice alp ps.length clp, .slice alr rs.length clr])
 clear hl hwf hli hln hlp hlr
 go_enter Tryz.func39, Tryz.ntmps39
 go_wp2_with fail
 refine bodyPost_ret (v := .tuple #[.agg #[.int .i64 0, .slice none 0 0, .slice none 0 0, .slice none 0 0], .bool false]) (by simp [results, Tryz.results39, go_sem]) rfl ⟨[_, _, _, _], by rw [HT.out], by rw [HT.out]; exact zeroV_rd _, by repeat (first | exact Below.refl _ _ | refine Below.setCell ?_ (by simp) _ | refine Below.alloc ?_ (by simp <;> omega) _ | refine Below.drew ?_)⟩
theorem top_4 (l : Lat) (hwf : WfL l) (hk : l.kind = 4) : TopOk l := by
 intro cl w hl
 obtain ⟨aln, cln, alp, clp, alr, clr, rfl, hli, hln, hlp, hlr, ⟨_, mln⟩, ⟨_, mlp⟩, _, mlr⟩ := latRd.lay hl
 have HKD := hid hwf.kinds
 obtain ⟨k, lo, hi, ns, ps, rs⟩ := l
 simp only [Lat.kind, Lat.lo, Lat.hi, Lat.names, Lat.parts, Lat.rules] at *
 subst hk
 have HT : Hid (topV (.mk 4 lo hi ns ps rs) = (.mk 0 ns [] [], decide (0 < ns.length))) := hid (by rw [topV]; rfl)
 generalize topV (.mk 4 lo hi ns ps rs) = R at HT ⊢
 have HLN := hid hln
 have HLP := hid hlp
 have HI := hid hli
 have HST := hid (BvSt.start w #[.int .i64 4, .int .i64 lo, .int .i64 hi, .slice aln ns.length cln, .slice alp ps.length clp, .slice alr rs.length clr])
 clear hl hwf hli hln hlp hlr
 go_enter Tryz.func39, Tryz.ntmps39
 go_wp2_with fail
 refine (clone_any _ ns _ (Strs.below HLN.out HST.out.bel) (by have := HKD.out; omega)).mono ?_
 rintro e w1 ⟨na, nc, rfl, hs, hb1⟩
 have ST1 := hid (HST.out.below hb1)
 have HS := hid hs
 have HBG := hid HST.out.big
 have v1 := ST1.out.cellV (i := 1) rfl
 have z1 := ST1.out.freeV 1
 clear hs hb1
 go_wp2_with fail
 have ST2 := hid (ST1.out.set 1 (.slice na ns.length nc) (n' := .int .i64 0) rfl)
 have HRD : Hid (valRd (only (from_ (w.heap.size + 3)) (w1.setCell ⟨w.heap.size + 1 + 1, 1, none⟩ (.slice na ns.length nc))) (.mk 0 ns [] []) [.int .i64 0, .slice na ns.length nc, .slice none 0 0, .slice none 0 0]) := hid ((valRd_iff _ _ _).2 ⟨_, _, _, rfl, i64_0, Strs.mono HS.out (only_keep fun g hg _ => by
   have hg' := of_decide_eq_true hg
   have := HBG.out
   exact ⟨decide_eq_true (by omega), Below.heap_setCell _ _ _ _ (by show g ≠ w.heap.size + 1 + 1; omega)⟩), sl_none _ _ _, sl_none _ _ _⟩)
 clear v1 z1
 generalize w1.setCell ⟨w.heap.size + 1 + 1, 1, none⟩ (.slice na ns.length nc) = w2 at ST2 HRD ⊢
 have l3 := ST2.out.cellL (i := 3) rfl
 have v20 := ST2.out.cellV (i := 0) rfl
 have v21 := ST2.out.cellV (i := 1) rfl
 have v22 := ST2.out.cellV (i := 2) rfl
 have v23 := ST2.out.cellV (i := 3) rfl
 have r0 := ST2.out.cellR (i := 0) rfl
 have e0 := ST2.out.freeR 0
 have r1 := ST2.out.cellR (i := 1) rfl
 have e1 := ST2.out.freeR 1
 have r2 := ST2.out.cellR (i := 2) rfl
 have e2 := ST2.out.freeR 2
 have r3 := ST2.out.cellR (i := 3) rfl
 have e3 := ST2.out.freeR 3
 go_region_law (fail)
 all_goals
  go_wp2_with fail
  refine bodyPost_ret (v := .tuple #[.agg #[.int .i64 0, .slice na ns.length nc, .slice none 0 0, .slice none 0 0], .bool (decide (0 < ns.length))]) (by simp [results, Tryz.results39, go_sem, r0, r1, r2, r3, e0, e1, e2, e3]) rfl (TopPost.drew (BvSt.post ST2.out HRD.out HT.out _ _ _ _))
theorem top_10 (l : Lat) (hwf : WfL l) (hk : l.kind = 10) : TopOk l := by
 intro cl w hl
 obtain ⟨aln, cln, alp, clp, alr, clr, rfl, hli, hln, hlp, hlr, ⟨_, mln⟩, ⟨_, mlp⟩, _, mlr⟩ := latRd.lay hl
 have HKD := hid hwf.kinds
 obtain ⟨k, lo, hi, ns, ps, rs⟩ := l
 simp only [Lat.kind, Lat.lo, Lat.hi, Lat.names, Lat.parts, Lat.rules] at *
 subst hk
 have HT : Hid (topV (.mk 10 lo hi ns ps rs) = (.mk 0 ns [] [], decide (0 < ns.length))) := hid (by rw [topV]; rfl)
 generalize topV (.mk 10 lo hi ns ps rs) = R at HT ⊢
 have HLN := hid hln
 have HLP := hid hlp
 have HI := hid hli
 have HST := hid (BvSt.start w #[.int .i64 10, .int .i64 lo, .int .i64 hi, .slice aln ns.length cln, .slice alp ps.length clp, .slice alr rs.length clr])
 clear hl hwf hli hln hlp hlr
 go_enter Tryz.func39, Tryz.ntmps39
 go_wp2_with fail
 refine (clone_any _ ns _ (Strs.below HLN.out HST.out.bel) (by have := HKD.out; omega)).mono ?_
 rintro e w1 ⟨na, nc, rfl, hs, hb1⟩
 have ST1 := hid (HST.out.below hb1)
 have HS := hid hs
 have HBG := hid HST.out.big
 have v1 := ST1.out.cellV (i := 1) rfl
 have z1 := ST1.out.freeV 1
 clear hs hb1
 go_wp2_with fail
 have ST2 := hid (ST1.out.set 1 (.slice na ns.length nc) (n' := .int .i64 0) rfl)
 have HRD : Hid (valRd (only (from_ (w.heap.size + 3)) (w1.setCell ⟨w.heap.size + 1 + 1, 1, none⟩ (.slice na ns.length nc))) (.mk 0 ns [] []) [.int .i64 0, .slice na ns.length nc, .slice none 0 0, .slice none 0 0]) := hid ((valRd_iff _ _ _).2 ⟨_, _, _, rfl, i64_0, Strs.mono HS.out (only_keep fun g hg _ => by
   have hg' := of_decide_eq_true hg
   have := HBG.out
   exact ⟨decide_eq_true (by omega), Below.heap_setCell _ _ _ _ (by show g ≠ w.heap.size + 1 + 1; omega)⟩), sl_none _ _ _, sl_none _ _ _⟩)
 clear v1 z1
 generalize w1.setCell ⟨w.heap.size + 1 + 1, 1, none⟩ (.slice na ns.length nc) = w2 at ST2 HRD ⊢
 have l3 := ST2.out.cellL (i := 3) rfl
 have v20 := ST2.out.cellV (i := 0) rfl
 have v21 := ST2.out.cellV (i := 1) rfl
 have v22 := ST2.out.cellV (i := 2) rfl
 have v23 := ST2.out.cellV (i := 3) rfl
 have r0 := ST2.out.cellR (i := 0) rfl
 have e0 := ST2.out.freeR 0
 have r1 := ST2.out.cellR (i := 1) rfl
 have e1 := ST2.out.freeR 1
 have r2 := ST2.out.cellR (i := 2) rfl
 have e2 := ST2.out.freeR 2
 have r3 := ST2.out.cellR (i := 3) rfl
 have e3 := ST2.out.freeR 3
 go_region_law (fail)
 all_goals
  go_wp2_with fail
  refine bodyPost_ret (v := .tuple #[.agg #[.int .i64 0, .slice na ns.length nc, .slice none 0 0, .slice none 0 0], .bool (decide (0 < ns.length))]) (by simp [results, Tryz.results39, go_sem, r0, r1, r2, r3, e0, e1, e2, e3]) rfl (TopPost.drew (BvSt.post ST2.out HRD.out HT.out _ _ _ _))
theorem own_base {w : World} {base E sz : Nat} {v : Value} {n : Nat} {xs : List Value} (h : w.ownsRow base E sz v n xs) {g : Nat} (hg : v.ownBlock = some g) : base ≤ g := (h.lt g hg).1
theorem top_6 (l : Lat) (hwf : WfL l) (hk : l.kind = 6) (ih : ∀ p ∈ l.parts, TopOk p) : TopOk l := by
 intro cl w hl
 obtain ⟨aln, cln, alp, clp, alr, clr, rfl, hli, hln, hlp, hlr, ⟨_, mln⟩, ⟨_, mlp⟩, _, mlr⟩ := latRd.lay hl
 have HKD := hid hwf.kinds
 obtain ⟨k, lo, hi, ns, ps, rs⟩ := l
 simp only [Lat.kind, Lat.lo, Lat.hi, Lat.names, Lat.parts, Lat.rules] at *
 subst hk
 have HT : Hid (topV (.mk 6 lo hi ns ps rs) = if topOk ps then (.mk 0 [] (topVs ps) [], true) else (zeroV, false)) := hid (by rw [topV]; rfl)
 generalize topV (.mk 6 lo hi ns ps rs) = R at HT ⊢
 have HLN := hid hln
 have HLP := hid hlp
 have HI := hid hli
 have HST := hid (BvSt.start w #[.int .i64 6, .int .i64 lo, .int .i64 hi, .slice aln ns.length cln, .slice alp ps.length clp, .slice alr rs.length clr])
 clear hl hwf hli hln hlp hlr
 have IH := hid ih
 have HP8 : Hid (ps.length ≤ 8) := hid (by have := HKD.out; omega)
 clear ih
 have HT2 : Hid (R = if ((ps.drop 0).all fun p => (topV p).2) then (.mk 0 [] (ps.map fun p => (topV p).1) [], true) else (zeroV, false)) := hid (by rw [HT.out, topOk_eq, topVs_eq]; rfl)
 clear HT
 obtain ⟨j0, hj0, hy0, hy1, hy2⟩ := info_parts infoVal
 go_enter Tryz.func39, Tryz.ntmps39
 go_wp2_with fail
 go_loopw [10, 11, 12, 101] (fun _ _ _ i wr => ∃ (j : Nat) (vq : Value) (L : List Val) (cV : List (List Value)), j ≤ ps.length ∧ i = .int .i64 j ∧ Hid (BvSt w wr #[.int .i64 6, .int .i64 lo, .int .i64 hi, .slice aln ns.length cln, .slice alp ps.length clp, .slice alr rs.length clr] (.int .i64 0) (.slice none 0 0) vq (.slice none 0 0)) ∧
     Hid (L = (ps.take j).map fun p => (topV p).1) ∧ Hid (L.length = j) ∧ Hid (Rws wr (w.heap.size + 3) 30 4 valRd vq L cV) ∧ Hid (R = if ((ps.drop j).all fun p => (topV p).2) then (.mk 0 [] (ps.map fun p => (topV p).1) [], true) else (zeroV, false))) (fun _ _ _ i _ => ps.length - (intOf i).toNat)
 case atStart => exact ⟨0, _, [], [], Nat.zero_le _, rfl, HST, hid rfl, hid rfl, hid (Rws.nil _ _ _ _ _), HT2⟩
 case round =>
  obtain ⟨j, vq, L, cV, hj, rfl, STW, HL, HLEN, HRP, He⟩ := hrel
  obtain ⟨aq, cq, rfl⟩ := owns_shape HRP.out.own
  clear HT2
  by_cases hlt : j < ps.length
  · obtain ⟨p, lb, lo2, an, cn, ap, cp, ar, cr, _, hmem, hdrop, htake, rfl, hyr, hyc⟩ := latEl HLP.out j hlt
    obtain ⟨y0, y1, y2, y3, y4, y5⟩ := (hyc.below STW.out.bel).six
    have HYR := hid hyr
    have HJ : Hid (j + 1 ≤ 9223372036854775807 ∧ j + 1 ≤ ps.length) := hid (by omega)
    have HS : Hid (R = if (topV p).2 && ((ps.drop (j + 1)).all fun p => (topV p).2) then (.mk 0 [] (ps.map fun p => (topV p).1) [], true) else (zeroV, false)) := hid (by rw [He.out, hdrop, List.all_cons])
    have HL2 : Hid (L ++ [(topV p).1] = (ps.take (j + 1)).map fun p => (topV p).1) := hid (by rw [HL.out, htake, List.map_append]; rfl)
    have HMY : Hid (L.length + 1 ≤ maxLen ∧ (L.length + 1) * 80 ≤ 140737488355328) := hid (by have := HP8.out; have := HLEN.out; unfold maxLen; omega)
    have HTO := hid (IH.out p hmem)
    clear hyr hyc hmem hdrop htake
    go_wp2_with fail
    have ST6 := hid (STW.out.alloc (.cells #[.int .i64 p.kind, .int .i64 p.lo, .int .i64 p.hi, .slice an p.names.length cn, .slice ap p.parts.length cp, .slice ar p.rules.length cr] 26 (0, 0)))
    have HR6 : Hid (Rws (wr.alloc (.cells #[.int .i64 p.kind, .int .i64 p.lo, .int .i64 p.hi, .slice an p.names.length cn, .slice ap p.parts.length cp, .slice ar p.rules.length cr] 26 (0, 0))) (w.heap.size + 3) 30 4 valRd (.slice aq L.length cq) L cV) := hid (HRP.out.keep valRd_mono' fun b _ hl => Below.heap_alloc _ _ _ hl)
    refine (HTO.out [.int .i64 p.kind, .int .i64 p.lo, .int .i64 p.hi, .slice an p.names.length cn, .slice ap p.parts.length cp, .slice ar p.rules.length cr] _ (latRd.below ST6.out.bel _ _ HYR.out)).mono ?_
    generalize topV p = T at HS HL2 ⊢
    obtain ⟨x, ok⟩ := T
    simp only at HS HL2 ⊢
    rintro e w7 ⟨cs7, rfl, hv7, hb7⟩
    have ST7 := hid (ST6.out.below hb7)
    have HR7 : Hid (Rws w7 (w.heap.size + 3) 30 4 valRd (.slice aq L.length cq) L cV) := hid (HR6.out.keep valRd_mono' fun b _ hl => hb7.block b hl)
    have HOLD : Hid (∀ g, (Value.slice aq L.length cq).ownBlock = some g → g < (wr.alloc (.cells #[.int .i64 p.kind, .int .i64 p.lo, .int .i64 p.hi, .slice an p.names.length cn, .slice ap p.parts.length cp, .slice ar p.rules.length cr] 26 (0, 0))).heap.size) := hid fun g h => (HR6.out.own.lt g h).2
    have HBG : Hid (w.heap.size + 3 ≤ (wr.alloc (.cells #[.int .i64 p.kind, .int .i64 p.lo, .int .i64 p.hi, .slice an p.names.length cn, .slice ap p.parts.length cp, .slice ar p.rules.length cr] 26 (0, 0))).heap.size) := hid ST6.out.big
    generalize (wr.alloc (.cells #[.int .i64 p.kind, .int .i64 p.lo, .int .i64 p.hi, .slice an p.names.length cn, .slice ap p.parts.length cp, .slice ar p.rules.length cr] 26 (0, 0))).heap.size = B6 at hv7 HOLD HBG
    have HV7 : Hid (valRd (only (from_ B6) w7) x cs7) := hid hv7
    obtain ⟨xn, xcn, xp, xcp, xe, xce, rfl, _, hsn, hsp, hse, _⟩ := valRd.lay hv7
    have ST8 := hid (ST7.out.alloc (.cells #[.int .i64 x.n, .slice xn x.names.length xcn, .slice xp x.parts.length xcp, .slice xe x.entries.length xce] 30 (0, 0)))
    have HR8 : Hid (Rws (w7.alloc (.cells #[.int .i64 x.n, .slice xn x.names.length xcn, .slice xp x.parts.length xcp, .slice xe x.entries.length xce] 30 (0, 0))) (w.heap.size + 3) 30 4 valRd (.slice aq L.length cq) L cV) := hid (HR7.out.keep valRd_mono' fun b _ hl => Below.heap_alloc _ _ _ hl)
    have HV8 : Hid (valRd (only (from_ B6) (w7.alloc (.cells #[.int .i64 x.n, .slice xn x.names.length xcn, .slice xp x.parts.length xcp, .slice xe x.entries.length xce] 30 (0, 0)))) x [.int .i64 x.n, .slice xn x.names.length xcn, .slice xp x.parts.length xcp, .slice xe x.entries.length xce]) := hid (valRd_mono' (only_keep fun b hb hl => ⟨hb, Below.heap_alloc _ _ _ hl⟩) HV7.out)
    have HPB : Hid (∀ (i : Nat) (v : Value), #[.int .i64 x.n, .slice xn x.names.length xcn, .slice xp x.parts.length xcp, .slice xe x.entries.length xce][i]? = some v → (w7.alloc (.cells #[.int .i64 x.n, .slice xn x.names.length xcn, .slice xp x.parts.length xcp, .slice xe x.entries.length xce] 30 (0, 0))).cell? ⟨w7.heap.size, i, none⟩ = some v) := hid fun i v hv => by
      rw [World.cell?_alloc_at _ _ _ _ rfl]; exact hv
    clear hv7 hb7 hsn hsp hse y0 y1 y2 y3 y4 y5 STW HRP ST6 HR6 HV7
    cases ok with
    | false =>
      have HF : Hid (R = (zeroV, false)) := hid (by rw [HS.out]; rfl)
      clear HS
      have r0 : ∀ O, (w7.alloc O).cell? ⟨w.heap.size + 1, 0, none⟩ = some _ := fun O => (ST7.out.alloc O).cellR (i := 0) rfl
      have e0 := fun O => (ST7.out.alloc O).freeR 0
      have r1 : ∀ O, (w7.alloc O).cell? ⟨w.heap.size + 1, 1, none⟩ = some _ := fun O => (ST7.out.alloc O).cellR (i := 1) rfl
      have e1 := fun O => (ST7.out.alloc O).freeR 1
      have r2 : ∀ O, (w7.alloc O).cell? ⟨w.heap.size + 1, 2, none⟩ = some _ := fun O => (ST7.out.alloc O).cellR (i := 2) rfl
      have e2 := fun O => (ST7.out.alloc O).freeR 2
      have r3 : ∀ O, (w7.alloc O).cell? ⟨w.heap.size + 1, 3, none⟩ = some _ := fun O => (ST7.out.alloc O).cellR (i := 3) rfl
      have e3 := fun O => (ST7.out.alloc O).freeR 3
      go_wp2_with fail
      (try simp only [Exit.inBlock, Exit.then])
      refine bodyPost_ret (v := .tuple #[.agg #[.int .i64 0, .slice none 0 0, .slice none 0 0, .slice none 0 0], .bool false]) (by simp [results, Tryz.results39, go_sem, r0, r1, r2, r3, e0, e1, e2, e3]) rfl (BvSt.post0 ST8.out HF.out _ _ _ _)
    | true =>
      have HF : Hid (R = if ((ps.drop (j + 1)).all fun p => (topV p).2) then (.mk 0 [] (ps.map fun p => (topV p).1) [], true) else (zeroV, false)) := hid (by rw [HS.out]; rfl)
      clear HS
      have k2 : ∀ O, (w7.alloc O).cell? ⟨w.heap.size + 1 + 1, 2, none⟩ = some (.slice aq L.length cq) := fun O => (ST7.out.alloc O).cellV (i := 2) rfl
      have HOWV : Hid (∀ O O', ((w7.alloc O).alloc O').ownsRow (w.heap.size + 3) 30 4 (.slice aq L.length cq) L.length cV.flatten) := hid fun O O' => owns_below HR7.out.own (((Below.refl _ _).alloc (Nat.le_refl _) O).alloc (by simp) O')
      have HBV : Hid (∀ O O', w.heap.size + 3 ≤ ((w7.alloc O).alloc O').heap.size) := hid fun O O' => ((ST7.out.alloc O).alloc O').big
      go_wp2_with (at_builtin; refine wpList_append rfl (.tmp 114) (.tmp 116) 27 rfl (w.heap.size + 3) 30 4 80 Tryz.underlying27 hj0 hy0 hy1 hy2 rfl (by decide) (.slice aq L.length cq) L.length cV.flatten rfl (HOWV.out _ _) _ 1 [.int .i64 x.n, .slice xn x.names.length xcn, .slice xp x.parts.length xcp, .slice xe x.entries.length xce] rfl (Src.of_block (cs := #[.int .i64 x.n, .slice xn x.names.length xcn, .slice xp x.parts.length xcp, .slice xe x.entries.length xce]) (heap_new_at _ _ _ (by simp)) 4 1 1 rfl (by simp [Value.oneCell'])) (L.length + 1) rfl _ rfl HMY.out.1 HMY.out.2 (HBV.out _ _) ?_; intro na2 nc2 w9 had; have HAD := hid had; have ST9 := hid ((ST8.out.alloc (.cells #[.int .i64 x.n, .slice xn x.names.length xcn, .slice xp x.parts.length xcp, .slice xe x.entries.length xce] 30 (0, 0))).grown had.grown (fun g hg => own_base (HOWV.out (.cells #[] 0 (0, 0)) (.cells #[] 0 (0, 0))) hg)); have kv2 := ST9.out.cellV (i := 2) rfl; have zv2 := ST9.out.freeV 2; clear had)
      all_goals
       have STA := hid (ST9.out.set 2 (.slice na2 (L.length + 1) nc2) (n' := .int .i64 0) rfl)
       have HPA : Hid (Rws (w9.setCell ⟨w.heap.size + 1 + 1, 2, none⟩ (.slice na2 (L.length + 1) nc2)) (w.heap.size + 3) 30 4 valRd (.slice na2 (L.length + 1) nc2) (L ++ [x]) (cV ++ [[.int .i64 x.n, .slice xn x.names.length xcn, .slice xp x.parts.length xcp, .slice xe x.entries.length xce]])) := hid
        (((HR8.out.keep valRd_mono' fun b _ hl => Below.heap_alloc _ (.cells #[.int .i64 x.n, .slice xn x.names.length xcn, .slice xp x.parts.length xcp, .slice xe x.entries.length xce] 30 (0, 0)) _ hl).push valRd_mono' HAD.out rfl rfl rfl (valRd_mono' (only_keep fun b hb hl => by
            have hb' := of_decide_eq_true hb
            refine ⟨?_, Below.heap_alloc _ _ _ hl⟩
            unfold butOwn
            simp only [Bool.and_eq_true, decide_eq_true_eq]
            refine ⟨by have := HBG.out; omega, fun e => ?_⟩
            have := HOLD.out b e; omega) HV8.out)).keep valRd_mono' fun b hb _ => Below.heap_setCell _ _ _ _ (by show b ≠ w.heap.size + 1 + 1; omega))
       have HLV : Hid ((L ++ [x]).length = j + 1) := hid (by have := HLEN.out; simp; omega)
       clear HAD kv2 zv2 k2
       go_wp2_with fail
       go_roundw
       case rel => exact ⟨j + 1, _, L ++ [x], _, HJ.out.2, by go_num, STA, HL2, HLV, HPA, HF⟩
       case measure => simp [intOf]; omega
  · have hjj : j = ps.length := by omega
    subst hjj
    have HF : Hid (R = (.mk 0 [] L [], true)) := hid (by rw [He.out, HL.out, List.drop_length, List.take_length]; rfl)
    have HRS := hid (HRP.out.reads valRd_mono')
    have r0 := STW.out.cellR (i := 0) rfl
    have e0 := STW.out.freeR 0
    have r1 := STW.out.cellR (i := 1) rfl
    have e1 := STW.out.freeR 1
    have r2 := STW.out.cellR (i := 2) rfl
    have e2 := STW.out.freeR 2
    have r3 := STW.out.cellR (i := 3) rfl
    have e3 := STW.out.freeR 3
    have u0 := STW.out.cellV (i := 0) rfl
    have u1 := STW.out.cellV (i := 1) rfl
    have u2 := STW.out.cellV (i := 2) rfl
    have u3 := STW.out.cellV (i := 3) rfl
    go_wp2_with fail
    refine bodyPost_ret (v := .tuple #[.agg #[.int .i64 0, .slice none 0 0, .slice aq L.length cq, .slice none 0 0], .bool true]) (by simp [results, Tryz.results39, go_sem, r0, r1, r2, r3, e0, e1, e2, e3]) rfl (BvSt.post STW.out (valRd_parts _ HRS.out) HF.out _ _ _ _)
theorem top_7 (l : Lat) (hwf : WfL l) (hk : l.kind = 7) (ih : ∀ p ∈ l.parts, TopOk p) : TopOk l := by
 intro cl w hl
 obtain ⟨aln, cln, alp, clp, alr, clr, rfl, hli, hln, hlp, hlr, ⟨_, mln⟩, ⟨_, mlp⟩, _, mlr⟩ := latRd.lay hl
 have HKD := hid hwf.kinds
 obtain ⟨k, lo, hi, ns, ps, rs⟩ := l
 simp only [Lat.kind, Lat.lo, Lat.hi, Lat.names, Lat.parts, Lat.rules] at *
 subst hk
 have HT : Hid (topV (.mk 7 lo hi ns ps rs) = if topOk ps then (.mk 0 [] (topVs ps) [], true) else (zeroV, false)) := hid (by rw [topV]; rfl)
 generalize topV (.mk 7 lo hi ns ps rs) = R at HT ⊢
 have HLN := hid hln
 have HLP := hid hlp
 have HI := hid hli
 have HST := hid (BvSt.start w #[.int .i64 7, .int .i64 lo, .int .i64 hi, .slice aln ns.length cln, .slice alp ps.length clp, .slice alr rs.length clr])
 clear hl hwf hli hln hlp hlr
 have IH := hid ih
 have HP8 : Hid (ps.length ≤ 8) := hid (by have := HKD.out; omega)
 clear ih
 have HT2 : Hid (R = if ((ps.drop 0).all fun p => (topV p).2) then (.mk 0 [] (ps.map fun p => (topV p).1) [], true) else (zeroV, false)) := hid (by rw [HT.out, topOk_eq, topVs_eq]; rfl)
 clear HT
 obtain ⟨j0, hj0, hy0, hy1, hy2⟩ := info_parts infoVal
 go_enter Tryz.func39, Tryz.ntmps39
 go_wp2_with fail
 go_loopw [10, 11, 12, 101] (fun _ _ _ i wr => ∃ (j : Nat) (vq : Value) (L : List Val) (cV : List (List Value)), j ≤ ps.length ∧ i = .int .i64 j ∧ Hid (BvSt w wr #[.int .i64 7, .int .i64 lo, .int .i64 hi, .slice aln ns.length cln, .slice alp ps.length clp, .slice alr rs.length clr] (.int .i64 0) (.slice none 0 0) vq (.slice none 0 0)) ∧
     Hid (L = (ps.take j).map fun p => (topV p).1) ∧ Hid (L.length = j) ∧ Hid (Rws wr (w.heap.size + 3) 30 4 valRd vq L cV) ∧ Hid (R = if ((ps.drop j).all fun p => (topV p).2) then (.mk 0 [] (ps.map fun p => (topV p).1) [], true) else (zeroV, false))) (fun _ _ _ i _ => ps.length - (intOf i).toNat)
 case atStart => exact ⟨0, _, [], [], Nat.zero_le _, rfl, HST, hid rfl, hid rfl, hid (Rws.nil _ _ _ _ _), HT2⟩
 case round =>
  obtain ⟨j, vq, L, cV, hj, rfl, STW, HL, HLEN, HRP, He⟩ := hrel
  obtain ⟨aq, cq, rfl⟩ := owns_shape HRP.out.own
  clear HT2
  by_cases hlt : j < ps.length
  · obtain ⟨p, lb, lo2, an, cn, ap, cp, ar, cr, _, hmem, hdrop, htake, rfl, hyr, hyc⟩ := latEl HLP.out j hlt
    obtain ⟨y0, y1, y2, y3, y4, y5⟩ := (hyc.below STW.out.bel).six
    have HYR := hid hyr
    have HJ : Hid (j + 1 ≤ 9223372036854775807 ∧ j + 1 ≤ ps.length) := hid (by omega)
    have HS : Hid (R = if (topV p).2 && ((ps.drop (j + 1)).all fun p => (topV p).2) then (.mk 0 [] (ps.map fun p => (topV p).1) [], true) else (zeroV, false)) := hid (by rw [He.out, hdrop, List.all_cons])
    have HL2 : Hid (L ++ [(topV p).1] = (ps.take (j + 1)).map fun p => (topV p).1) := hid (by rw [HL.out, htake, List.map_append]; rfl)
    have HMY : Hid (L.length + 1 ≤ maxLen ∧ (L.length + 1) * 80 ≤ 140737488355328) := hid (by have := HP8.out; have := HLEN.out; unfold maxLen; omega)
    have HTO := hid (IH.out p hmem)
    clear hyr hyc hmem hdrop htake
    go_wp2_with fail
    have ST6 := hid (STW.out.alloc (.cells #[.int .i64 p.kind, .int .i64 p.lo, .int .i64 p.hi, .slice an p.names.length cn, .slice ap p.parts.length cp, .slice ar p.rules.length cr] 26 (0, 0)))
    have HR6 : Hid (Rws (wr.alloc (.cells #[.int .i64 p.kind, .int .i64 p.lo, .int .i64 p.hi, .slice an p.names.length cn, .slice ap p.parts.length cp, .slice ar p.rules.length cr] 26 (0, 0))) (w.heap.size + 3) 30 4 valRd (.slice aq L.length cq) L cV) := hid (HRP.out.keep valRd_mono' fun b _ hl => Below.heap_alloc _ _ _ hl)
    refine (HTO.out [.int .i64 p.kind, .int .i64 p.lo, .int .i64 p.hi, .slice an p.names.length cn, .slice ap p.parts.length cp, .slice ar p.rules.length cr] _ (latRd.below ST6.out.bel _ _ HYR.out)).mono ?_
    generalize topV p = T at HS HL2 ⊢
    obtain ⟨x, ok⟩ := T
    simp only at HS HL2 ⊢
    rintro e w7 ⟨cs7, rfl, hv7, hb7⟩
    have ST7 := hid (ST6.out.below hb7)
    have HR7 : Hid (Rws w7 (w.heap.size + 3) 30 4 valRd (.slice aq L.length cq) L cV) := hid (HR6.out.keep valRd_mono' fun b _ hl => hb7.block b hl)
    have HOLD : Hid (∀ g, (Value.slice aq L.length cq).ownBlock = some g → g < (wr.alloc (.cells #[.int .i64 p.kind, .int .i64 p.lo, .int .i64 p.hi, .slice an p.names.length cn, .slice ap p.parts.length cp, .slice ar p.rules.length cr] 26 (0, 0))).heap.size) := hid fun g h => (HR6.out.own.lt g h).2
    have HBG : Hid (w.heap.size + 3 ≤ (wr.alloc (.cells #[.int .i64 p.kind, .int .i64 p.lo, .int .i64 p.hi, .slice an p.names.length cn, .slice ap p.parts.length cp, .slice ar p.rules.length cr] 26 (0, 0))).heap.size) := hid ST6.out.big
    generalize (wr.alloc (.cells #[.int .i64 p.kind, .int .i64 p.lo, .int .i64 p.hi, .slice an p.names.length cn, .slice ap p.parts.length cp, .slice ar p.rules.length cr] 26 (0, 0))).heap.size = B6 at hv7 HOLD HBG
    have HV7 : Hid (valRd (only (from_ B6) w7) x cs7) := hid hv7
    obtain ⟨xn, xcn, xp, xcp, xe, xce, rfl, _, hsn, hsp, hse, _⟩ := valRd.lay hv7
    have ST8 := hid (ST7.out.alloc (.cells #[.int .i64 x.n, .slice xn x.names.length xcn, .slice xp x.parts.length xcp, .slice xe x.entries.length xce] 30 (0, 0)))
    have HR8 : Hid (Rws (w7.alloc (.cells #[.int .i64 x.n, .slice xn x.names.length xcn, .slice xp x.parts.length xcp, .slice xe x.entries.length xce] 30 (0, 0))) (w.heap.size + 3) 30 4 valRd (.slice aq L.length cq) L cV) := hid (HR7.out.keep valRd_mono' fun b _ hl => Below.heap_alloc _ _ _ hl)
    have HV8 : Hid (valRd (only (from_ B6) (w7.alloc (.cells #[.int .i64 x.n, .slice xn x.names.length xcn, .slice xp x.parts.length xcp, .slice xe x.entries.length xce] 30 (0, 0)))) x [.int .i64 x.n, .slice xn x.names.length xcn, .slice xp x.parts.length xcp, .slice xe x.entries.length xce]) := hid (valRd_mono' (only_keep fun b hb hl => ⟨hb, Below.heap_alloc _ _ _ hl⟩) HV7.out)
    have HPB : Hid (∀ (i : Nat) (v : Value), #[.int .i64 x.n, .slice xn x.names.length xcn, .slice xp x.parts.length xcp, .slice xe x.entries.length xce][i]? = some v → (w7.alloc (.cells #[.int .i64 x.n, .slice xn x.names.length xcn, .slice xp x.parts.length xcp, .slice xe x.entries.length xce] 30 (0, 0))).cell? ⟨w7.heap.size, i, none⟩ = some v) := hid fun i v hv => by
      rw [World.cell?_alloc_at _ _ _ _ rfl]; exact hv
    clear hv7 hb7 hsn hsp hse y0 y1 y2 y3 y4 y5 STW HRP ST6 HR6 HV7
    cases ok with
    | false =>
      have HF : Hid (R = (zeroV, false)) := hid (by rw [HS.out]; rfl)
      clear HS
      have r0 : ∀ O, (w7.alloc O).cell? ⟨w.heap.size + 1, 0, none⟩ = some _ := fun O => (ST7.out.alloc O).cellR (i := 0) rfl
      have e0 := fun O => (ST7.out.alloc O).freeR 0
      have r1 : ∀ O, (w7.alloc O).cell? ⟨w.heap.size + 1, 1, none⟩ = some _ := fun O => (ST7.out.alloc O).cellR (i := 1) rfl
      have e1 := fun O => (ST7.out.alloc O).freeR 1
      have r2 : ∀ O, (w7.alloc O).cell? ⟨w.heap.size + 1, 2, none⟩ = some _ := fun O => (ST7.out.alloc O).cellR (i := 2) rfl
      have e2 := fun O => (ST7.out.alloc O).freeR 2
      have r3 : ∀ O, (w7.alloc O).cell? ⟨w.heap.size + 1, 3, none⟩ = some _ := fun O => (ST7.out.alloc O).cellR (i := 3) rfl
      have e3 := fun O => (ST7.out.alloc O).freeR 3
      go_wp2_with fail
      (try simp only [Exit.inBlock, Exit.then])
      refine bodyPost_ret (v := .tuple #[.agg #[.int .i64 0, .slice none 0 0, .slice none 0 0, .slice none 0 0], .bool false]) (by simp [results, Tryz.results39, go_sem, r0, r1, r2, r3, e0, e1, e2, e3]) rfl (BvSt.post0 ST8.out HF.out _ _ _ _)
    | true =>
      have HF : Hid (R = if ((ps.drop (j + 1)).all fun p => (topV p).2) then (.mk 0 [] (ps.map fun p => (topV p).1) [], true) else (zeroV, false)) := hid (by rw [HS.out]; rfl)
      clear HS
      have k2 : ∀ O, (w7.alloc O).cell? ⟨w.heap.size + 1 + 1, 2, none⟩ = some (.slice aq L.length cq) := fun O => (ST7.out.alloc O).cellV (i := 2) rfl
      have HOWV : Hid (∀ O O', ((w7.alloc O).alloc O').ownsRow (w.heap.size + 3) 30 4 (.slice aq L.length cq) L.length cV.flatten) := hid fun O O' => owns_below HR7.out.own (((Below.refl _ _).alloc (Nat.le_refl _) O).alloc (by simp) O')
      have HBV : Hid (∀ O O', w.heap.size + 3 ≤ ((w7.alloc O).alloc O').heap.size) := hid fun O O' => ((ST7.out.alloc O).alloc O').big
      go_wp2_with (at_builtin; refine wpList_append rfl (.tmp 114) (.tmp 116) 27 rfl (w.heap.size + 3) 30 4 80 Tryz.underlying27 hj0 hy0 hy1 hy2 rfl (by decide) (.slice aq L.length cq) L.length cV.flatten rfl (HOWV.out _ _) _ 1 [.int .i64 x.n, .slice xn x.names.length xcn, .slice xp x.parts.length xcp, .slice xe x.entries.length xce] rfl (Src.of_block (cs := #[.int .i64 x.n, .slice xn x.names.length xcn, .slice xp x.parts.length xcp, .slice xe x.entries.length xce]) (heap_new_at _ _ _ (by simp)) 4 1 1 rfl (by simp [Value.oneCell'])) (L.length + 1) rfl _ rfl HMY.out.1 HMY.out.2 (HBV.out _ _) ?_; intro na2 nc2 w9 had; have HAD := hid had; have ST9 := hid ((ST8.out.alloc (.cells #[.int .i64 x.n, .slice xn x.names.length xcn, .slice xp x.parts.length xcp, .slice xe x.entries.length xce] 30 (0, 0))).grown had.grown (fun g hg => own_base (HOWV.out (.cells #[] 0 (0, 0)) (.cells #[] 0 (0, 0))) hg)); have kv2 := ST9.out.cellV (i := 2) rfl; have zv2 := ST9.out.freeV 2; clear had)
      all_goals
       have STA := hid (ST9.out.set 2 (.slice na2 (L.length + 1) nc2) (n' := .int .i64 0) rfl)
       have HPA : Hid (Rws (w9.setCell ⟨w.heap.size + 1 + 1, 2, none⟩ (.slice na2 (L.length + 1) nc2)) (w.heap.size + 3) 30 4 valRd (.slice na2 (L.length + 1) nc2) (L ++ [x]) (cV ++ [[.int .i64 x.n, .slice xn x.names.length xcn, .slice xp x.parts.length xcp, .slice xe x.entries.length xce]])) := hid
        (((HR8.out.keep valRd_mono' fun b _ hl => Below.heap_alloc _ (.cells #[.int .i64 x.n, .slice xn x.names.length xcn, .slice xp x.parts.length xcp, .slice xe x.entries.length xce] 30 (0, 0)) _ hl).push valRd_mono' HAD.out rfl rfl rfl (valRd_mono' (only_keep fun b hb hl => by
            have hb' := of_decide_eq_true hb
            refine ⟨?_, Below.heap_alloc _ _ _ hl⟩
            unfold butOwn
            simp only [Bool.and_eq_true, decide_eq_true_eq]
            refine ⟨by have := HBG.out; omega, fun e => ?_⟩
            have := HOLD.out b e; omega) HV8.out)).keep valRd_mono' fun b hb _ => Below.heap_setCell _ _ _ _ (by show b ≠ w.heap.size + 1 + 1; omega))
       have HLV : Hid ((L ++ [x]).length = j + 1) := hid (by have := HLEN.out; simp; omega)
       clear HAD kv2 zv2 k2
       go_wp2_with fail
       go_roundw
       case rel => exact ⟨j + 1, _, L ++ [x], _, HJ.out.2, by go_num, STA, HL2, HLV, HPA, HF⟩
       case measure => simp [intOf]; omega
  · have hjj : j = ps.length := by omega
    subst hjj
    have HF : Hid (R = (.mk 0 [] L [], true)) := hid (by rw [He.out, HL.out, List.drop_length, List.take_length]; rfl)
    have HRS := hid (HRP.out.reads valRd_mono')
    have r0 := STW.out.cellR (i := 0) rfl
    have e0 := STW.out.freeR 0
    have r1 := STW.out.cellR (i := 1) rfl
    have e1 := STW.out.freeR 1
    have r2 := STW.out.cellR (i := 2) rfl
    have e2 := STW.out.freeR 2
    have r3 := STW.out.cellR (i := 3) rfl
    have e3 := STW.out.freeR 3
    have u0 := STW.out.cellV (i := 0) rfl
    have u1 := STW.out.cellV (i := 1) rfl
    have u2 := STW.out.cellV (i := 2) rfl
    have u3 := STW.out.cellV (i := 3) rfl
    go_wp2_with fail
    refine bodyPost_ret (v := .tuple #[.agg #[.int .i64 0, .slice none 0 0, .slice aq L.length cq, .slice none 0 0], .bool true]) (by simp [results, Tryz.results39, go_sem, r0, r1, r2, r3, e0, e1, e2, e3]) rfl (BvSt.post STW.out (valRd_parts _ HRS.out) HF.out _ _ _ _)
theorem top_5 (l : Lat) (hwf : WfL l) (hk : l.kind = 5) (ih : ∀ p ∈ l.parts, TopOk p) : TopOk l := by
 intro cl w hl
 obtain ⟨aln, cln, alp, clp, alr, clr, rfl, hli, hln, hlp, hlr, ⟨_, mln⟩, ⟨_, mlp⟩, _, mlr⟩ := latRd.lay hl
 have HKD := hid hwf.kinds
 obtain ⟨k, lo, hi, ns, ps, rs⟩ := l
 simp only [Lat.kind, Lat.lo, Lat.hi, Lat.names, Lat.parts, Lat.rules] at *
 subst hk
 have HT : Hid (topV (.mk 5 lo hi ns ps rs) = topMap ns ps) := hid (by rw [topV]; rfl)
 generalize topV (.mk 5 lo hi ns ps rs) = R at HT ⊢
 have HLN := hid hln
 have HLP := hid hlp
 have HI := hid hli
 have HST := hid (BvSt.start w #[.int .i64 5, .int .i64 lo, .int .i64 hi, .slice aln ns.length cln, .slice alp ps.length clp, .slice alr rs.length clr])
 clear hl hwf hli hln hlp hlr
 have IH := hid ih
 obtain ⟨p, rfl⟩ := List.length_eq_one_iff.1 (HKD.out.2.1 rfl)
 have HNL : Hid (ns.length ≤ 32) := hid (by have := HKD.out; omega)
 have HPO := hid (IH.out p (by simp))
 have HT2 : Hid (R = if trivB p then (zeroV, true) else if (topV p).2 = false ∨ ns.length = 0 then (zeroV, false) else (.mk 0 ns (List.replicate ns.length (topV p).1) [], true)) := hid (by rw [HT.out, topMap])
 clear HT IH ih HKD
 obtain ⟨j0, hj0, hy0, hy1, hy2⟩ := info_parts infoVal
 obtain ⟨p', lb, lo2, an, cn, ap, cp, ar, cr, hp', hmem, _, _, rfl, hyr, hyc⟩ := latEl HLP.out 0 (by simp)
 have hpp : p' = p := by simpa using hp'.symm
 subst hpp
 have HYR := hid hyr
 have HYC := hid hyc
 simp only [List.length_singleton] at HST
 have HB3 := hid HST.out.bel
 clear hyr hyc hmem hp'
 obtain ⟨y0, y1, y2, y3, y4, y5⟩ := (HYC.out.below HB3.out).six
 simp only [Nat.zero_mul, Nat.add_zero] at y0 y1 y2 y3 y4 y5
 go_enter Tryz.func39, Tryz.ntmps39
 go_wp2_with fail
 refine (trivial_any _ p' (Nat.le_refl _) [.int .i64 p'.kind, .int .i64 p'.lo, .int .i64 p'.hi, .slice an p'.names.length cn, .slice ap p'.parts.length cp, .slice ar p'.rules.length cr] _ (latRd.below HB3.out _ _ HYR.out)).mono ?_
 rintro e w1 ⟨rfl, hb1⟩
 have ST1 := hid (HST.out.below hb1)
 clear hb1
 cases htr : trivB p'
 · have HT3 : Hid (R = if (topV p').2 = false ∨ ns.length = 0 then (zeroV, false) else (.mk 0 ns (List.replicate ns.length (topV p').1) [], true)) := hid (by rw [HT2.out, htr]; rfl)
   clear HT2 htr y0 y1 y2 y3 y4 y5
   have l4 := ST1.out.cellL (i := 4) rfl
   obtain ⟨y0, y1, y2, y3, y4, y5⟩ := (HYC.out.below ST1.out.bel).six
   simp only [Nat.zero_mul, Nat.add_zero] at y0 y1 y2 y3 y4 y5
   go_wp2_with fail
   have HTO : Hid (∀ W, Below w.heap.size w W → Calls Tryz.prog 39 #[.agg #[.int .i64 p'.kind, .int .i64 p'.lo, .int .i64 p'.hi, .slice an p'.names.length cn, .slice ap p'.parts.length cp, .slice ar p'.rules.length cr]] W (TopPost W (topV p'))) := hid fun W h => HPO.out [.int .i64 p'.kind, .int .i64 p'.lo, .int .i64 p'.hi, .slice an p'.names.length cn, .slice ap p'.parts.length cp, .slice ar p'.rules.length cr] W (latRd.below h _ _ HYR.out)
   clear HPO
   generalize topV p' = T at HT3 HTO ⊢
   obtain ⟨x, ok⟩ := T
   simp only at HT3 HTO ⊢
   refine (HTO.out _ ST1.out.bel).mono ?_
   rintro e w2 ⟨cs2, rfl, hv2, hb2⟩
   have ST2 := hid (ST1.out.below hb2)
   obtain ⟨xn, xcn, xp, xcp, xe, xce, rfl, _, hsn, hsp, hse, _⟩ := valRd.lay hv2
   have ST3 := hid (ST2.out.alloc (.cells #[.int .i64 x.n, .slice xn x.names.length xcn, .slice xp x.parts.length xcp, .slice xe x.entries.length xce] 30 (0, 0)))
   clear hv2 hb2 hsn hsp hse y0 y1 y2 y3 y4 y5 l4
   have r0 : ∀ O, (w2.alloc O).cell? ⟨w.heap.size + 1, 0, none⟩ = some _ := fun O => (ST2.out.alloc O).cellR (i := 0) rfl
   have e0 := fun O => (ST2.out.alloc O).freeR 0
   have r1 : ∀ O, (w2.alloc O).cell? ⟨w.heap.size + 1, 1, none⟩ = some _ := fun O => (ST2.out.alloc O).cellR (i := 1) rfl
   have e1 := fun O => (ST2.out.alloc O).freeR 1
   have r2 : ∀ O, (w2.alloc O).cell? ⟨w.heap.size + 1, 2, none⟩ = some _ := fun O => (ST2.out.alloc O).cellR (i := 2) rfl
   have e2 := fun O => (ST2.out.alloc O).freeR 2
   have r3 : ∀ O, (w2.alloc O).cell? ⟨w.heap.size + 1, 3, none⟩ = some _ := fun O => (ST2.out.alloc O).cellR (i := 3) rfl
   have e3 := fun O => (ST2.out.alloc O).freeR 3
   have l3 : ∀ O, (w2.alloc O).cell? ⟨w.heap.size, 3, none⟩ = some (.slice aln ns.length cln) := fun O => (ST2.out.alloc O).cellL (i := 3) rfl
   cases ok with
   | false =>
     have HF : Hid (R = (zeroV, false)) := hid (by rw [HT3.out, if_pos (.inl rfl)])
     clear HT3
     go_wp2_with fail
     (try simp only [Exit.inBlock, Exit.then])
     refine bodyPost_ret (v := .tuple #[.agg #[.int .i64 0, .slice none 0 0, .slice none 0 0, .slice none 0 0], .bool false]) (by simp [results, Tryz.results39, go_sem, r0, r1, r2, r3, e0, e1, e2, e3]) rfl (BvSt.post0 ST3.out HF.out _ _ _ _)
   | true =>
     by_cases hns : ns.length = 0
     · have HF : Hid (R = (zeroV, false)) := hid (by rw [HT3.out, if_pos (.inr hns)])
       have hnb : ((ns.length : Int) == 0) = true := by simp [hns]
       clear HT3 hns
       go_wp2_with fail
       (try simp only [Exit.inBlock, Exit.then])
       refine bodyPost_ret (v := .tuple #[.agg #[.int .i64 0, .slice none 0 0, .slice none 0 0, .slice none 0 0], .bool false]) (by simp [results, Tryz.results39, go_sem, r0, r1, r2, r3, e0, e1, e2, e3]) rfl (BvSt.post0 ST3.out HF.out _ _ _ _)
     · have HF : Hid (R = (.mk 0 ns (List.replicate ns.length x) [], true)) := hid (by rw [HT3.out, if_neg (by rintro (h | h); exact absurd h (by decide); exact hns h)])
       have hnb : ((ns.length : Int) == 0) = false := by rw [beqI']; exact decide_eq_false (by omega)
       have HNS := hid hns
       clear HT3 hns r0 r1 r2 r3 e0 e1 e2 e3
       go_wp2_with fail
       refine (clone_any _ ns _ (Strs.below HLN.out ST3.out.bel) (by have := HNL.out; omega)).mono ?_
       rintro e w3 ⟨na, nc, rfl, hs3, hb3⟩
       have HS3 := hid hs3
       have ST4 := hid (ST3.out.below hb3)
       have HB3' : Hid (w.heap.size + 3 ≤ (w2.alloc (.cells #[.int .i64 x.n, .slice xn x.names.length xcn, .slice xp x.parts.length xcp, .slice xe x.entries.length xce] 30 (0, 0))).heap.size ∧ (w2.alloc (.cells #[.int .i64 x.n, .slice xn x.names.length xcn, .slice xp x.parts.length xcp, .slice xe x.entries.length xce] 30 (0, 0))).heap.size ≤ w3.heap.size) := hid ⟨ST3.out.big, hb3.size⟩
       generalize (w2.alloc (.cells #[.int .i64 x.n, .slice xn x.names.length xcn, .slice xp x.parts.length xcp, .slice xe x.entries.length xce] 30 (0, 0))).heap.size = B3 at HS3 HB3'
       have v1 := ST4.out.cellV (i := 1) rfl
       have z1 := ST4.out.freeV 1
       clear hs3 hb3 l3
       go_wp2_with fail
       have ST5 := hid (ST4.out.set 1 (.slice na ns.length nc) (n' := .int .i64 0) rfl)
       have HKW : Hid (∀ b, w.heap.size + 3 ≤ b → b < w3.heap.size → (w3.setCell ⟨w.heap.size + 1 + 1, 1, none⟩ (.slice na ns.length nc)).heap[b]? = w3.heap[b]?) := hid fun b hb _ => Below.heap_setCell _ _ _ _ (by show b ≠ w.heap.size + 1 + 1; omega)
       have HSZ5 : Hid ((w3.setCell ⟨w.heap.size + 1 + 1, 1, none⟩ (.slice na ns.length nc)).heap.size = w3.heap.size) := hid (by simp [World.setCell])
       clear v1 z1
       generalize w3.setCell ⟨w.heap.size + 1 + 1, 1, none⟩ (.slice na ns.length nc) = w5 at ST5 HKW HSZ5 ⊢
       have v1 := ST5.out.cellV (i := 1) rfl
       go_wp2_with fail
       clear v1
       go_loopw [7, 8, 78] (fun _ _ i wr => ∃ (j : Nat) (vq : Value) (L : List Val) (cV : List (List Value)), j ≤ ns.length ∧ i = .int .i64 j ∧ Hid (BvSt w wr #[.int .i64 5, .int .i64 lo, .int .i64 hi, .slice aln ns.length cln, .slice (some ⟨lb, lo2, none⟩) 1 clp, .slice alr rs.length clr] (.int .i64 0) (.slice na ns.length nc) vq (.slice none 0 0)) ∧
           Hid (L = List.replicate j x) ∧ Hid (L.length = j) ∧ Hid (Rws wr w3.heap.size 30 4 valRd vq L cV) ∧ Hid (w3.heap.size ≤ wr.heap.size ∧ ∀ b, w.heap.size + 3 ≤ b → b < w3.heap.size → wr.heap[b]? = w3.heap[b]?)) (fun _ _ i _ => ns.length - (intOf i).toNat)
       case atStart => exact ⟨0, _, [], [], Nat.zero_le _, rfl, ST5, hid rfl, hid rfl, hid (Rws.nil _ _ _ _ _), hid ⟨Nat.le_of_eq HSZ5.out.symm, HKW.out⟩⟩
       case round =>
        obtain ⟨j, vq, L, cV, hj, rfl, STW, HL, HLEN, HRP, HKR⟩ := hrel
        obtain ⟨aq, cq, rfl⟩ := owns_shape HRP.out.own
        by_cases hlt : j < ns.length
        · have HJ : Hid (j + 1 ≤ 9223372036854775807 ∧ j + 1 ≤ ns.length) := hid (by have := HNL.out; omega)
          have HL2 : Hid (L ++ [x] = List.replicate (j + 1) x) := hid (by rw [HL.out, List.replicate_succ'])
          have HMY : Hid (L.length + 1 ≤ maxLen ∧ (L.length + 1) * 80 ≤ 140737488355328) := hid (by have := HNL.out; have := HLEN.out; have := HJ.out; unfold maxLen; omega)
          have l4 := STW.out.cellL (i := 4) rfl
          obtain ⟨y0, y1, y2, y3, y4, y5⟩ := (HYC.out.below STW.out.bel).six
          simp only [Nat.zero_mul, Nat.add_zero] at y0 y1 y2 y3 y4 y5
          go_wp2_with fail
          refine (HTO.out _ STW.out.bel).mono ?_
          rintro e w7 ⟨cs7, rfl, hv7, hb7⟩
          have ST7 := hid (STW.out.below hb7)
          have HR7 : Hid (Rws w7 w3.heap.size 30 4 valRd (.slice aq L.length cq) L cV) := hid (HRP.out.keep valRd_mono' fun b _ hl => hb7.block b hl)
          have HOLD : Hid (∀ g, (Value.slice aq L.length cq).ownBlock = some g → g < wr.heap.size) := hid fun g h => (HRP.out.own.lt g h).2
          have HBG : Hid (w3.heap.size ≤ wr.heap.size) := hid HKR.out.1
          have HK7 : Hid (w3.heap.size ≤ w7.heap.size ∧ ∀ b, w.heap.size + 3 ≤ b → b < w3.heap.size → w7.heap[b]? = w3.heap[b]?) := hid ⟨Nat.le_trans HKR.out.1 hb7.size, fun b h1 h2 => (hb7.block b (by have := HKR.out.1; omega)).trans (HKR.out.2 b h1 h2)⟩
          have HV7 : Hid (valRd (only (from_ wr.heap.size) w7) x cs7) := hid hv7
          obtain ⟨xn, xcn, xp, xcp, xe, xce, rfl, _, hsn, hsp, hse, _⟩ := valRd.lay hv7
          have ST8 := hid (ST7.out.alloc (.cells #[.int .i64 x.n, .slice xn x.names.length xcn, .slice xp x.parts.length xcp, .slice xe x.entries.length xce] 30 (0, 0)))
          have HR8 : Hid (Rws (w7.alloc (.cells #[.int .i64 x.n, .slice xn x.names.length xcn, .slice xp x.parts.length xcp, .slice xe x.entries.length xce] 30 (0, 0))) w3.heap.size 30 4 valRd (.slice aq L.length cq) L cV) := hid (HR7.out.keep valRd_mono' fun b _ hl => Below.heap_alloc _ _ _ hl)
          have HV8 : Hid (valRd (only (from_ wr.heap.size) (w7.alloc (.cells #[.int .i64 x.n, .slice xn x.names.length xcn, .slice xp x.parts.length xcp, .slice xe x.entries.length xce] 30 (0, 0)))) x [.int .i64 x.n, .slice xn x.names.length xcn, .slice xp x.parts.length xcp, .slice xe x.entries.length xce]) := hid (valRd_mono' (only_keep fun b hb hl => ⟨hb, Below.heap_alloc _ _ _ hl⟩) HV7.out)
          have HB7 : Hid (wr.heap.size ≤ w7.heap.size) := hid hb7.size
          clear hv7 hb7 hsn hsp hse y0 y1 y2 y3 y4 y5 l4 STW HRP HV7 HKR
          have k2 : ∀ O, (w7.alloc O).cell? ⟨w.heap.size + 1 + 1, 2, none⟩ = some (.slice aq L.length cq) := fun O => (ST7.out.alloc O).cellV (i := 2) rfl
          have HOWV : Hid (∀ O O', ((w7.alloc O).alloc O').ownsRow w3.heap.size 30 4 (.slice aq L.length cq) L.length cV.flatten) := hid fun O O' => owns_below HR7.out.own (((Below.refl _ _).alloc (Nat.le_refl _) O).alloc (by simp) O')
          have HBV : Hid (∀ O O', w3.heap.size ≤ ((w7.alloc O).alloc O').heap.size) := hid fun O O' => by have := HK7.out.1; simp; omega
          have HB33 : Hid (w.heap.size + 3 ≤ w3.heap.size) := hid (Nat.le_trans HB3'.out.1 HB3'.out.2)
          go_wp2_with (at_builtin; refine wpList_append rfl (.tmp 89) (.tmp 91) 27 rfl w3.heap.size 30 4 80 Tryz.underlying27 hj0 hy0 hy1 hy2 rfl (by decide) (.slice aq L.length cq) L.length cV.flatten rfl (HOWV.out _ _) _ 1 [.int .i64 x.n, .slice xn x.names.length xcn, .slice xp x.parts.length xcp, .slice xe x.entries.length xce] rfl (Src.of_block (cs := #[.int .i64 x.n, .slice xn x.names.length xcn, .slice xp x.parts.length xcp, .slice xe x.entries.length xce]) (heap_new_at _ _ _ (by simp)) 4 1 1 rfl (by simp [Value.oneCell'])) (L.length + 1) rfl _ rfl HMY.out.1 HMY.out.2 (HBV.out _ _) ?_; intro na2 nc2 w9 had; have HAD := hid had; have ST9 := hid ((ST8.out.alloc (.cells #[.int .i64 x.n, .slice xn x.names.length xcn, .slice xp x.parts.length xcp, .slice xe x.entries.length xce] 30 (0, 0))).grown had.grown (fun g hg => Nat.le_trans HB33.out (own_base (HOWV.out (.cells #[] 0 (0, 0)) (.cells #[] 0 (0, 0))) hg))); have kv2 := ST9.out.cellV (i := 2) rfl; have zv2 := ST9.out.freeV 2; clear had)
          have STA := hid (ST9.out.set 2 (.slice na2 (L.length + 1) nc2) (n' := .int .i64 0) rfl)
          have HPA : Hid (Rws (w9.setCell ⟨w.heap.size + 1 + 1, 2, none⟩ (.slice na2 (L.length + 1) nc2)) w3.heap.size 30 4 valRd (.slice na2 (L.length + 1) nc2) (L ++ [x]) (cV ++ [[.int .i64 x.n, .slice xn x.names.length xcn, .slice xp x.parts.length xcp, .slice xe x.entries.length xce]])) := hid
           (((HR8.out.keep valRd_mono' fun b _ hl => Below.heap_alloc _ (.cells #[.int .i64 x.n, .slice xn x.names.length xcn, .slice xp x.parts.length xcp, .slice xe x.entries.length xce] 30 (0, 0)) _ hl).push valRd_mono' HAD.out rfl rfl rfl (valRd_mono' (only_keep fun b hb hl => by
               have hb' := of_decide_eq_true hb
               refine ⟨?_, Below.heap_alloc _ _ _ hl⟩
               unfold butOwn
               simp only [Bool.and_eq_true, decide_eq_true_eq]
               refine ⟨by have := HBG.out; omega, fun e => ?_⟩
               have := HOLD.out b e; omega) HV8.out)).keep valRd_mono' fun b hb _ => Below.heap_setCell _ _ _ _ (by show b ≠ w.heap.size + 1 + 1; have := HB33.out; omega))
          have HKA : Hid (w3.heap.size ≤ (w9.setCell ⟨w.heap.size + 1 + 1, 2, none⟩ (.slice na2 (L.length + 1) nc2)).heap.size ∧ ∀ b, w.heap.size + 3 ≤ b → b < w3.heap.size → (w9.setCell ⟨w.heap.size + 1 + 1, 2, none⟩ (.slice na2 (L.length + 1) nc2)).heap[b]? = w3.heap[b]?) := hid ⟨by
           have h1 := HAD.out.grown.size
           have h2 := HK7.out.1
           simp only [World.setCell, Array.size_modify]
           simp at h1
           omega, fun b h1 h2 => by
           have h3 := HK7.out.1
           rw [Below.heap_setCell _ _ _ _ (by show b ≠ w.heap.size + 1 + 1; omega), HAD.out.grown.block b (by simp; omega) (fun e => by have := own_base (HOWV.out (.cells #[] 0 (0, 0)) (.cells #[] 0 (0, 0))) e.symm; omega), Below.heap_alloc _ _ _ (by simp; omega), Below.heap_alloc _ _ _ (by omega)]
           exact HK7.out.2 b h1 h2⟩
          have HLV : Hid ((L ++ [x]).length = j + 1) := hid (by have := HLEN.out; simp; omega)
          clear HAD kv2 zv2 k2
          go_wp2_with fail
          go_roundw
          case rel => exact ⟨j + 1, _, L ++ [x], _, HJ.out.2, by go_num, STA, HL2, HLV, HPA, HKA⟩
          case measure => simp [intOf]; omega
        · have hjj : j = ns.length := by omega
          have HR : Hid (R = (.mk 0 ns L [], true)) := hid (by rw [HF.out, HL.out, hjj])
          have HRS := hid (HRP.out.reads valRd_mono')
          have HBB : Hid (w.heap.size + 3 ≤ B3 ∧ B3 ≤ w3.heap.size) := HB3'
          have HRD : Hid (valRd (only (from_ (w.heap.size + 3)) wr) (.mk 0 ns L []) [.int .i64 0, .slice na ns.length nc, .slice aq L.length cq, .slice none 0 0]) := hid ((valRd_iff _ _ _).2 ⟨_, _, _, rfl, i64_0, Strs.mono HS3.out (only_keep fun g hg hl => by
              have hg' := of_decide_eq_true hg
              have := HBB.out
              exact ⟨decide_eq_true (by omega), HKR.out.2 g (by omega) hl⟩), SlRd.mono HRS.out (only_from_mono _ (by have := HBB.out; omega)) fun _ _ _ h => valRd_mono' (only_from_mono _ (by have := HBB.out; omega)) h, sl_none _ _ _⟩)
          have r0 := STW.out.cellR (i := 0) rfl
          have e0 := STW.out.freeR 0
          have r1 := STW.out.cellR (i := 1) rfl
          have e1 := STW.out.freeR 1
          have r2 := STW.out.cellR (i := 2) rfl
          have e2 := STW.out.freeR 2
          have r3 := STW.out.cellR (i := 3) rfl
          have e3 := STW.out.freeR 3
          have u0 := STW.out.cellV (i := 0) rfl
          have u1 := STW.out.cellV (i := 1) rfl
          have u2 := STW.out.cellV (i := 2) rfl
          have u3 := STW.out.cellV (i := 3) rfl
          clear hjj
          go_wp2_with fail
          (try simp only [Exit.inBlock, Exit.then])
          refine bodyPost_ret (v := .tuple #[.agg #[.int .i64 0, .slice na ns.length nc, .slice aq L.length cq, .slice none 0 0], .bool true]) (by simp [results, Tryz.results39, go_sem, r0, r1, r2, r3, e0, e1, e2, e3]) rfl (BvSt.post STW.out HRD.out HR.out _ _ _ _)
 · have HF : Hid (R = (zeroV, true)) := hid (by rw [HT2.out, htr]; rfl)
   clear HT2 htr y0 y1 y2 y3 y4 y5
   have r0 := ST1.out.cellR (i := 0) rfl
   have e0 := ST1.out.freeR 0
   have r1 := ST1.out.cellR (i := 1) rfl
   have e1 := ST1.out.freeR 1
   have r2 := ST1.out.cellR (i := 2) rfl
   have e2 := ST1.out.freeR 2
   have r3 := ST1.out.cellR (i := 3) rfl
   have e3 := ST1.out.freeR 3
   have u0 := ST1.out.cellV (i := 0) rfl
   have u1 := ST1.out.cellV (i := 1) rfl
   have u2 := ST1.out.cellV (i := 2) rfl
   have u3 := ST1.out.cellV (i := 3) rfl
   go_wp2_with fail
   refine bodyPost_ret (v := .tuple #[.agg #[.int .i64 0, .slice none 0 0, .slice none 0 0, .slice none 0 0], .bool true]) (by simp [results, Tryz.results39, go_sem, r0, r1, r2, r3, e0, e1, e2, e3]) rfl (BvSt.post ST1.out (zeroV_rd _) HF.out _ _ _ _)
theorem top_any (f : Nat) : ∀ l : Lat, SizeOf.sizeOf l ≤ f → WfL l → TopOk l := by
 induction f with
 | zero => intro l hn; cases l; simp at hn
 | succ f ih =>
   intro l hn hwf
   have IH : ∀ p ∈ l.parts, TopOk p := fun p hp => ih p (by have := sizeOf_lpart hp; omega) (hwf.part hp)
   rcases (by have := hwf.kinds.1; omega : l.kind = 1 ∨ l.kind = 2 ∨ l.kind = 3 ∨ l.kind = 4 ∨ l.kind = 5 ∨ l.kind = 6 ∨ l.kind = 7 ∨ l.kind = 8 ∨ l.kind = 9 ∨ l.kind = 10) with e | e | e | e | e | e | e | e | e | e
   · exact top_1 l hwf e
   · exact top_2 l hwf e
   · exact top_3 l hwf e
   · exact top_4 l hwf e
   · exact top_5 l hwf e IH
   · exact top_6 l hwf e IH
   · exact top_7 l hwf e IH
   · exact top_8 l hwf e
   · exact top_9 l hwf e
   · exact top_10 l hwf e
def topE (l : Lat) : Val × Int := if chkE l = 0 then (if (topV l).2 then ((topV l).1, 0) else (zeroV, 14)) else (zeroV, 1)
theorem Top_any (l : Lat) (cl : List Value) (w : World) (hl : latRd w l cl) : Calls Tryz.prog 17 #[.agg cl.toArray] w (ValEPost w (topE l)) := by
 have HC : Hid (∀ W, Below w.heap.size w W → Calls Tryz.prog 36 #[.agg cl.toArray] W fun e w' => e = .returned (.int .i64 (chkE l)) ∧ Below W.heap.size W w') := hid fun W h => check_any l cl W (latRd.below h _ _ hl)
 have HTO : Hid (chkE l = 0 → ∀ W, Below w.heap.size w W → Calls Tryz.prog 39 #[.agg cl.toArray] W (TopPost W (topV l))) := hid fun h0 W h => top_any _ l (Nat.le_refl _) (chkE_wf h0) cl W (latRd.below h _ _ hl)
 have HE : Hid (topE l = if chkE l = 0 then (if (topV l).2 then ((topV l).1, 0) else (zeroV, 14)) else (zeroV, 1)) := hid rfl
 generalize topE l = R at HE ⊢
 generalize chkE l = E at HC HTO HE
 generalize topV l = T at HTO HE
 obtain ⟨x, ok⟩ := T
 simp only at HTO HE
 obtain ⟨aln, cln, alp, clp, alr, clr, rfl, hli, hln, hlp, hlr, ⟨_, mln⟩, ⟨_, mlp⟩, _, mlr⟩ := latRd.lay hl
 clear hl hli hln hlp hlr
 have HB : Hid (Below w.heap.size w ((w.alloc (.cells #[.int .i64 l.kind, .int .i64 l.lo, .int .i64 l.hi, .slice aln l.names.length cln, .slice alp l.parts.length clp, .slice alr l.rules.length clr] 26)).alloc (.cells #[.int .i64 0, .slice none 0 0, .slice none 0 0, .slice none 0 0] 30))) := hid (((Below.refl _ _).alloc (Nat.le_refl _) _).alloc (by simp) _)
 have HX : Hid (∀ w', Below (w.heap.size + 2) ((w.alloc (.cells #[.int .i64 l.kind, .int .i64 l.lo, .int .i64 l.hi, .slice aln l.names.length cln, .slice alp l.parts.length clp, .slice alr l.rules.length clr] 26)).alloc (.cells #[.int .i64 0, .slice none 0 0, .slice none 0 0, .slice none 0 0] 30)) w' → (∀ (i : Nat) v, #[.int .i64 l.kind, .int .i64 l.lo, .int .i64 l.hi, .slice aln l.names.length cln, .slice alp l.parts.length clp, .slice alr l.rules.length clr][i]? = some v → w'.cell? ⟨w.heap.size, i, none⟩ = some v) ∧ w'.heap[w.heap.size + 1]? = some (.cells #[.int .i64 0, .slice none 0 0, .slice none 0 0, .slice none 0 0] 30 (0, 0))) := hid fun w' h => ⟨(two_boxes w #[.int .i64 l.kind, .int .i64 l.lo, .int .i64 l.hi, .slice aln l.names.length cln, .slice alp l.parts.length clp, .slice alr l.rules.length clr] #[.int .i64 0, .slice none 0 0, .slice none 0 0, .slice none 0 0] 26 30 h).1, (h.block _ (by omega)).trans (heap_new_at _ _ _ (by simp))⟩
 go_enter Tryz.func17, Tryz.ntmps17
 go_wp2_with fail
 have HSZ : Hid (((w.alloc (.cells #[.int .i64 l.kind, .int .i64 l.lo, .int .i64 l.hi, .slice aln l.names.length cln, .slice alp l.parts.length clp, .slice alr l.rules.length clr] 26)).alloc (.cells #[.int .i64 0, .slice none 0 0, .slice none 0 0, .slice none 0 0] 30)).heap.size = w.heap.size + 2) := hid (by simp)
 generalize (w.alloc (.cells #[.int .i64 l.kind, .int .i64 l.lo, .int .i64 l.hi, .slice aln l.names.length cln, .slice alp l.parts.length clp, .slice alr l.rules.length clr] 26)).alloc (.cells #[.int .i64 0, .slice none 0 0, .slice none 0 0, .slice none 0 0] 30) = W2 at HB HX HSZ ⊢
 refine (HC.out _ HB.out).mono ?_
 rintro e w1 ⟨rfl, hb1⟩
 have HB1 : Hid (Below (w.heap.size + 2) W2 w1) := hid (hb1.mono (Nat.le_of_eq HSZ.out.symm))
 clear hb1
 have HUP : Hid (∀ {u : World}, Below (w.heap.size + 2) W2 u → Below w.heap.size w u) := hid fun h => HB.out.trans (h.mono (by omega))
 have HLE : Hid (∀ {u : World}, Below (w.heap.size + 2) W2 u → w.heap.size + 2 ≤ u.heap.size) := hid fun h => by have := h.size; have := HSZ.out; omega
 have f0 : w1.cell? ⟨w.heap.size, 0, none⟩ = some (.int .i64 l.kind) := (HX.out _ HB1.out).1 0 _ rfl
 have f1 : w1.cell? ⟨w.heap.size, 1, none⟩ = some (.int .i64 l.lo) := (HX.out _ HB1.out).1 1 _ rfl
 have f2 : w1.cell? ⟨w.heap.size, 2, none⟩ = some (.int .i64 l.hi) := (HX.out _ HB1.out).1 2 _ rfl
 have f3 : w1.cell? ⟨w.heap.size, 3, none⟩ = some (.slice aln l.names.length cln) := (HX.out _ HB1.out).1 3 _ rfl
 have f4 : w1.cell? ⟨w.heap.size, 4, none⟩ = some (.slice alp l.parts.length clp) := (HX.out _ HB1.out).1 4 _ rfl
 have f5 : w1.cell? ⟨w.heap.size, 5, none⟩ = some (.slice alr l.rules.length clr) := (HX.out _ HB1.out).1 5 _ rfl
 have r0 : w1.cell? ⟨w.heap.size + 1, 0, none⟩ = some (.int .i64 0) := cell_at_block (HX.out _ HB1.out).2
 have e0 : w1.frozen? ⟨w.heap.size + 1, 0, none⟩ = false := free_at_block (HX.out _ HB1.out).2
 have r1 : w1.cell? ⟨w.heap.size + 1, 1, none⟩ = some (.slice none 0 0) := cell_at_block (HX.out _ HB1.out).2
 have e1 : w1.frozen? ⟨w.heap.size + 1, 1, none⟩ = false := free_at_block (HX.out _ HB1.out).2
 have r2 : w1.cell? ⟨w.heap.size + 1, 2, none⟩ = some (.slice none 0 0) := cell_at_block (HX.out _ HB1.out).2
 have e2 : w1.frozen? ⟨w.heap.size + 1, 2, none⟩ = false := free_at_block (HX.out _ HB1.out).2
 have r3 : w1.cell? ⟨w.heap.size + 1, 3, none⟩ = some (.slice none 0 0) := cell_at_block (HX.out _ HB1.out).2
 have e3 : w1.frozen? ⟨w.heap.size + 1, 3, none⟩ = false := free_at_block (HX.out _ HB1.out).2
 by_cases hE : E = 0
 · have HTO2 := hid (HTO.out hE)
   have HE2 : Hid (R = if ok then (x, 0) else (zeroV, 14)) := hid (by rw [HE.out, if_pos hE])
   subst hE
   clear HC HTO HE
   go_wp2_with fail
   refine (HTO2.out _ (HUP.out HB1.out)).mono ?_
   rintro e w2 ⟨cs2, rfl, hv2, hb2⟩
   have HB2 : Hid (Below (w.heap.size + 2) W2 w2) := hid (HB1.out.trans (hb2.mono (HLE.out HB1.out)))
   have HV2 : Hid (valRd (only (from_ w1.heap.size) w2) x cs2) := hid hv2
   have HL1 : Hid (w.heap.size + 2 ≤ w1.heap.size) := hid (HLE.out HB1.out)
   clear hb2 f0 f1 f2 f3 f4 f5 r0 r1 r2 r3 e0 e1 e2 e3
   obtain ⟨bxn, dxn, bxp, dxp, bxe, dxe, rfl, gxi, gxn, gxp, gxe, ⟨_, nxn⟩, ⟨_, nxp⟩, _, nxe⟩ := valRd.lay hv2
   clear hv2 gxi gxn gxp gxe
   have HB3 : Hid (∀ O, Below (w.heap.size + 2) W2 (w2.alloc O)) := hid fun O => HB2.out.alloc (HLE.out HB2.out) O
   have HV3 : Hid (valRd (only (from_ w1.heap.size) (w2.alloc (.cells #[.int .i64 x.n, .slice bxn x.names.length dxn, .slice bxp x.parts.length dxp, .slice bxe x.entries.length dxe] 30 (0, 0)))) x [.int .i64 x.n, .slice bxn x.names.length dxn, .slice bxp x.parts.length dxp, .slice bxe x.entries.length dxe]) := hid (valRd_mono' (only_keep fun b hb hl => ⟨hb, Below.heap_alloc _ _ _ hl⟩) HV2.out)
   have r0 : ∀ O, (w2.alloc O).cell? ⟨w.heap.size + 1, 0, none⟩ = some (.int .i64 0) := fun O => cell_at_block (HX.out _ (HB3.out O)).2
   have e0 : ∀ O, (w2.alloc O).frozen? ⟨w.heap.size + 1, 0, none⟩ = false := fun O => free_at_block (HX.out _ (HB3.out O)).2
   have r1 : ∀ O, (w2.alloc O).cell? ⟨w.heap.size + 1, 1, none⟩ = some (.slice none 0 0) := fun O => cell_at_block (HX.out _ (HB3.out O)).2
   have e1 : ∀ O, (w2.alloc O).frozen? ⟨w.heap.size + 1, 1, none⟩ = false := fun O => free_at_block (HX.out _ (HB3.out O)).2
   have r2 : ∀ O, (w2.alloc O).cell? ⟨w.heap.size + 1, 2, none⟩ = some (.slice none 0 0) := fun O => cell_at_block (HX.out _ (HB3.out O)).2
   have e2 : ∀ O, (w2.alloc O).frozen? ⟨w.heap.size + 1, 2, none⟩ = false := fun O => free_at_block (HX.out _ (HB3.out O)).2
   have r3 : ∀ O, (w2.alloc O).cell? ⟨w.heap.size + 1, 3, none⟩ = some (.slice none 0 0) := fun O => cell_at_block (HX.out _ (HB3.out O)).2
   have e3 : ∀ O, (w2.alloc O).frozen? ⟨w.heap.size + 1, 3, none⟩ = false := fun O => free_at_block (HX.out _ (HB3.out O)).2
   cases ok with
   | false =>
     have HR : Hid (R = (zeroV, 14)) := hid (by rw [HE2.out]; rfl)
     clear HE2
     have HBF := hid (below_sets (b := w.heap.size + 1) (HUP.out (HB3.out (.cells #[.int .i64 x.n, .slice bxn x.names.length dxn, .slice bxp x.parts.length dxp, .slice bxe x.entries.length dxe] 30 (0, 0)))) (by omega) (.int .i64 0) (.slice none 0 0) (.slice none 0 0) (.slice none 0 0))
     go_wp2_with fail
     refine bodyPost_ret (v := .tuple #[.agg #[.int .i64 0, .slice none 0 0, .slice none 0 0, .slice none 0 0], .int .i64 14]) (by simp [results, Tryz.results17, go_sem, r0, r1, r2, r3, e0, e1, e2, e3]) rfl ?_
     rw [HR.out]
     exact ⟨_, rfl, zeroV_rd _, HBF.out⟩
   | true =>
     have HR : Hid (R = (x, 0)) := hid (by rw [HE2.out]; rfl)
     clear HE2
     have HBF := hid (below_sets (b := w.heap.size + 1) (HUP.out (HB3.out (.cells #[.int .i64 x.n, .slice bxn x.names.length dxn, .slice bxp x.parts.length dxp, .slice bxe x.entries.length dxe] 30 (0, 0)))) (by omega) (.int .i64 x.n) (.slice bxn x.names.length dxn) (.slice bxp x.parts.length dxp) (.slice bxe x.entries.length dxe))
     go_wp2_with fail
     refine bodyPost_ret (v := .tuple #[.agg #[.int .i64 x.n, .slice bxn x.names.length dxn, .slice bxp x.parts.length dxp, .slice bxe x.entries.length dxe], .int .i64 0]) (by simp [results, Tryz.results17, go_sem, r0, r1, r2, r3, e0, e1, e2, e3]) rfl ?_
     rw [HR.out]
     exact ⟨_, rfl, valRd_mono' ((sub_sets _ (w.heap.size + 1) w1.heap.size (by have := HL1.out; omega) _ _ _ _).trans (only_from_mono _ (by have := HL1.out; omega))) HV3.out, HBF.out⟩
 · have hEb : (E != 0) = true := by simpa using hE
   have HR : Hid (R = (zeroV, 1)) := hid (by rw [HE.out, if_neg hE])
   clear hE HC HTO HE
   have HBF := hid (below_sets (b := w.heap.size + 1) (HUP.out HB1.out) (by omega) (.int .i64 0) (.slice none 0 0) (.slice none 0 0) (.slice none 0 0))
   go_wp2_with fail
   refine bodyPost_ret (v := .tuple #[.agg #[.int .i64 0, .slice none 0 0, .slice none 0 0, .slice none 0 0], .int .i64 1]) (by simp [results, Tryz.results17, go_sem, r0, r1, r2, r3, e0, e1, e2, e3]) rfl ?_
   rw [HR.out]
   exact ⟨_, rfl, zeroV_rd _, HBF.out⟩
def Tri (x y z : Int) : Prop := x ≤ 0 → y ≤ 0 → z ≤ 0 ∧ (z = 0 ↔ x = 0 ∧ y = 0)
theorem Tri.or {x1 y1 z1 x2 y2 z2 : Int} (h1 : Tri x1 y1 z1) (h2 : Tri x2 y2 z2) : Tri (if x1 ≠ 0 then x1 else x2) (if y1 ≠ 0 then y1 else y2) (if z1 ≠ 0 then z1 else z2) := by
 intro hx hy
 have a : x1 ≤ 0 := by split at hx <;> omega
 have b : y1 ≤ 0 := by split at hy <;> omega
 obtain ⟨c, d⟩ := h1 a b
 by_cases z0 : z1 = 0
 · obtain ⟨x0, y0⟩ := d.1 z0
   rw [if_neg (fun h => h x0)] at hx
   rw [if_neg (fun h => h y0)] at hy
   rw [if_neg (fun h => h z0), if_neg (fun h => h x0), if_neg (fun h => h y0)]
   exact h2 hx hy
 · rw [if_pos z0]
   refine ⟨c, fun h => absurd h z0, fun ⟨p, q⟩ => absurd (d.2 ⟨?_, ?_⟩) z0⟩
   · split at p <;> omega
   · split at q <;> omega
theorem or_zero {x y : Int} : (if x ≠ 0 then x else y) = 0 ↔ x = 0 ∧ y = 0 := by
 by_cases a : x = 0
 · simp [a]
 · simp [a]
theorem cmpI_zero (a b : Int) : cmpI a b = 0 ↔ a = b := by unfold cmpI; split <;> (try split) <;> omega
theorem bl_eq : ∀ (x y : List UInt8), Op.bytesLess x y = decide (x < y)
 | [], [] => by simp [Op.bytesLess]
 | _ :: _, [] => by simp [Op.bytesLess]
 | [], _ :: _ => by simp [Op.bytesLess]
 | a :: x, b :: y => by
   rw [Op.bytesLess, bl_eq x y]
   simp only [List.cons_lt_cons_iff]
   by_cases h1 : a < b <;> by_cases h2 : a = b <;> by_cases h3 : x < y <;> simp [h1, h2, h3]
theorem strLt_eq (a b : ByteArray) : strLt a b = decide (a.data.toList < b.data.toList) := by
 unfold strLt
 rw [bl_eq, Lib.toList_data, Lib.toList_data]
theorem strC_eq (a b : ByteArray) : strC a b = if a.data.toList < b.data.toList then -1 else if a.data.toList = b.data.toList then 0 else 1 := by
 unfold strC
 rw [strLt_eq, Lib.toList_data, Lib.toList_data]
 simp only [decide_eq_true_eq, beq_iff_eq]
theorem strC_zero (a b : ByteArray) : strC a b = 0 ↔ a = b := by
 rw [strC_eq]
 constructor
 · intro h
   by_cases h1 : a.data.toList < b.data.toList
   · rw [if_pos h1] at h; omega
   · rw [if_neg h1] at h
     by_cases h2 : a.data.toList = b.data.toList
     · exact ByteArray.ext (Array.toList_inj.1 h2)
     · rw [if_neg h2] at h; omega
 · rintro rfl
   rw [if_neg (List.lt_irrefl _), if_pos rfl]
theorem lexC_zero {α : Type} (c : α → α → Int) : ∀ (a b : List α), (∀ x ∈ a, ∀ y, c x y = 0 ↔ x = y) → (lexC c a b = 0 ↔ a = b)
 | [], [], _ => by simp [lexC]
 | [], _ :: _, _ => by simp [lexC]
 | _ :: _, [], _ => by simp [lexC]
 | x :: s, y :: t, h => by
   rw [lexC, or_zero, h x (by simp) y, lexC_zero c s t fun z hz => h z (by simp [hz]), List.cons.injEq]
theorem or2_eq (x y : Int) : orI [x, y] = if x ≠ 0 then x else y := by
 unfold orI orI orI
 by_cases h : x = 0
 · simp [h]; intro h; exact h.symm
 · simp [h]
theorem tickC_zero (a b : Tk) : tickC a b = 0 ↔ a = b := by
 unfold tickC; rw [or2_eq, or_zero, cmpI_zero, cmpI_zero]
 cases a; cases b; simp
theorem entC_zero (a b : En) : entC a b = 0 ↔ a = b := by
 unfold entC; rw [or2_eq, or_zero, strC_zero, lexC_zero _ _ _ fun x _ y => tickC_zero x y]
 cases a; cases b; simp [and_comm]
theorem sizeOf_part' {v p : Val} (h : p ∈ v.parts) : SizeOf.sizeOf p < SizeOf.sizeOf v := by
 cases v
 have := List.sizeOf_lt_of_mem h
 simp only [Val.parts] at this
 simp only [Val.mk.sizeOf_spec]
 omega
theorem valC_zero (a b : Val) : valC a b = 0 ↔ a = b := by
 rw [valC_eq a b, or_zero, or_zero, or_zero, cmpI_zero, lexC_zero _ _ _ fun x _ y => strC_zero x y, lexC_zero valC a.parts b.parts fun x hx y => by
   have := sizeOf_part' hx
   exact valC_zero x y, lexC_zero _ _ _ fun x _ y => entC_zero x y]
 cases a; cases b; simp [Val.n, Val.names, Val.parts, Val.entries]
 termination_by SizeOf.sizeOf a
theorem valC_self (a : Val) : valC a a = 0 := (valC_zero a a).2 rfl
end Go.Proofs.YtmdjnaobllajmaaGreatDoor
