/-
  What the statements of the chapter share, part 16: AL2, CM2, RR1, RR2.
-/
import Derived.Test.YtgkjcmglcnhpaaaGreatDoorO13
import Derived.Test.YtgkjcmglcnhpaaaGreatDoorO15
set_option linter.unusedVariables false
set_option linter.unusedSimpArgs false
set_option maxRecDepth 100000
set_option maxHeartbeats 8000000
namespace Go.Proofs.YtgkjcmglcnhpaaaGreatDoor
open Go.RowKit
section
def stL (v : W8) (r : D) (n : Nat) : List D := v.ls.map zD ++ [r, .v (.int .i64 n)]
section
variable {P : Program} {G : Nat → D} {e : Nat → D} {h : List Ob} {K : List Ob → D → Prop} {u : TypeId} {x y : Operand} {i n m : Nat} {v v' : W8} {r r' : D}
theorem getD_wS (ha : aggT P u = some true) (hs : szT P u = some 8) : getD P u (stL v r n) 0 = some (.agg (v.ls.map zD)) := by
 rw [getD_agg ha hs (by simp [stL, W8.ls])]; rfl
theorem getD_rS (ha : aggT P u = some false) : getD P u (stL v r n) 8 = some r := by rw [getD_one ha]; rfl
theorem getD_nS (ha : aggT P u = some false) : getD P u (stL v r n) 9 = some (.v (.int .i64 n)) := by rw [getD_one ha]; rfl
theorem aOp_stA {o : Nat} {ds es ds' : List D} (hx : ev G e x = .ptr i o) (hi : h[i]? = some (.cells ds)) (hy : (ev G e y).cells = some es) (hc : (es.all D.one && szT P u == some es.length) = true) (hl : o + es.length ≤ ds.length) (hp : putL ds o es = ds') (q : K (h.set i (.cells ds')) (.v undef)) : aOp P G e h K (.store u x y) := by
 rw [aOp_store, hx]
 have e1 : storeD P h u (.ptr i o) (ev G e y) = some (h.set i (.cells ds')) := by
  simp only [storeD, hy, hi, hc, if_true]
  rw [if_pos hl, hp]
 rw [e1]; exact q
theorem aOp_str8 (hx : ev G e x = .ptr i 8) (hi : h[i]? = some (.cells (stL v r n))) (hy : (ev G e y).cells = some [r']) (hc : r'.one = true) (hs : szT P u = some 1) (q : K (h.set i (.cells (stL v r' n))) (.v undef)) : aOp P G e h K (.store u x y) :=
 aOp_stA (es := [r']) hx hi hy (by rw [hs]; simp [hc]) (by simp [stL, W8.ls]) rfl q
theorem aOp_stn8 (hx : ev G e x = .ptr i 9) (hi : h[i]? = some (.cells (stL v r n))) (hy : ev G e y = .v (.int .i64 m)) (hs : szT P u = some 1) (q : K (h.set i (.cells (stL v r m))) (.v undef)) : aOp P G e h K (.store u x y) :=
 aOp_stA (es := [.v (.int .i64 m)]) hx hi (by rw [hy]; rfl) (by rw [hs]; rfl) (by simp [stL, W8.ls]) rfl q
end
section
variable {P : Program} {G : Nat → D} {n : Nat} {e : Nat → D} {h : List Ob} {ops : Array Oper} {rest : List Oper} {Q : S → Prop} {t : Nat} {ty : TypeId} {pos : String} {aft : Array Edge} {gd : Option (Nat × Bool)}
theorem ao_nFc {op : Op} {h' : List Ob} {d : D} (hw : wantedD ops gd e = some true) (ht : decide (t < n) = true) (hN : nF P G e h op = some (h', d)) (q : ao P G ops rest Q ⟨n, upd e t d, h'⟩) : ao P G ops (⟨some t, op, ty, pos, aft, gd⟩ :: rest) Q ⟨n, e, h⟩ := by
 refine ao_tri hw (nF_sound hN) ?_
 unfold putE
 simp only [if_pos (of_decide_eq_true ht)]
 exact q
theorem ao_make0 {u el k by' : Nat} {x y : Operand} {m : Nat} {zs : List D} (hw : wantedD ops gd e = some true) (ht : decide (t < n) = true) (hx : ev G e x = .v (.int .i64 0)) (hy : ev G e y = .v (.int .i64 m)) (ha : apT P u = some (el, k, by')) (hz : zeroD P el = some zs) (hk : zs.length = k) (hb : (by' : Int) * m ≤ 281474976710656) (hm : m ≤ 1000000)
 (q : ao P G ops rest Q ⟨n, upd e t (.buf h.length 0), h ++ [.buf el k []]⟩) : ao P G ops (⟨some t, .makeSlice u x y, ty, pos, aft, gd⟩ :: rest) Q ⟨n, e, h⟩ := by
 have hN : nF P G e h (.makeSlice u x y) = some (h ++ [.buf el k []], .buf h.length 0) := by
  show makF P h u (ev G e x) (ev G e y) = _
  rw [hx, hy]
  have c2 : decide ((0 : Int) ≤ (m : Int)) = true := decide_eq_true (by omega)
  have c3 : decide ((by' : Int) * (m : Int) ≤ 281474976710656) = true := decide_eq_true hb
  have c4 : decide ((m : Int) ≤ 281474976710656) = true := decide_eq_true (by omega)
  have c5 : decide (zs.length = k) = true := decide_eq_true hk
  simp only [makF, ha, hz, c2, c3, c4, c5]
  simp
 exact ao_nFc hw ht hN q
end
theorem aOp_sfrom64 {P : Program} {G : Nat → D} {e : Nat → D} {h : List Ob} {K : List Ob → D → Prop} {u : TypeId} {x : Operand} {c : List UInt8} (hx : ev G e x = .sl 1 (byD c)) (he : (elT P u).bind (szT P) = some 1) (hl : 64 ≤ c.length) (q : K h (.sl 1 (byD (c.drop 64)))) : aOp P G e h K (.slice u x (some (.const (.int .i64 64))) none none) := by
 have e1 : aOp P G e h K (.slice u x (some (.const (.int .i64 64))) none none) = slcA P u (ev G e x) (some (.v (.int .i64 64))) none (K h) := rfl
 rw [e1, hx]
 refine slc_sl he (l := 64) (r := (byD c).length) rfl rfl (by omega) (by rw [byD_len]; omega) (by omega) ?_
 have e2 : ((byD c).take (((byD c).length : Int)).toNat).drop (64 : Int).toNat = byD (c.drop 64) := by
  rw [byD_cut, Int.toNat_natCast, byD_len, List.take_of_length_le (Nat.le_refl _)]; rfl
 rw [e2]; exact q
theorem aOp_supto64 {P : Program} {G : Nat → D} {e : Nat → D} {h : List Ob} {K : List Ob → D → Prop} {u : TypeId} {x : Operand} {c : List UInt8} (hx : ev G e x = .sl 1 (byD c)) (he : (elT P u).bind (szT P) = some 1) (hl : 64 ≤ c.length) (q : K h (.sl 1 (byD (c.take 64)))) : aOp P G e h K (.slice u x none (some (.const (.int .i64 64))) none) := by
 have e1 : aOp P G e h K (.slice u x none (some (.const (.int .i64 64))) none) = slcA P u (ev G e x) none (some (.v (.int .i64 64))) (K h) := rfl
 rw [e1, hx]
 refine slc_sl he (l := 0) (r := 64) rfl rfl (by omega) (by omega) (by rw [byD_len]; omega) ?_
 have e2 : ((byD c).take (64 : Int).toNat).drop (0 : Int).toNat = byD (c.take 64) := by
  rw [byD_cut]; rfl
 rw [e2]; exact q
theorem aOp_bld0 {P : Program} {G : Nat → D} {e : Nat → D} {h : List Ob} {K : List Ob → D → Prop} {u : TypeId} {x : Operand} {v : W8} {z : List D} (hx : ev G e x = .agg (v.ls.map zD)) (h1 : allSz P u = true) (h2 : zeroD P u = some z) (h3 : plT P u 0 = some (0, 8)) (hz : z.length = 10) (h8 : z[8]? = some (.v (.slice none 0 0))) (h9 : z[9]? = some (.v (.int .i64 0))) (q : K h (.agg (stL v (.v (.slice none 0 0)) 0))) : aOp P G e h K (.build u #[(0, x)]) := by
 have e1 : aOp P G e h K (.build u #[(0, x)]) = on (buildD P u [(0, ev G e x)]) fun ds => K h (.agg ds) := rfl
 rw [e1, hx]
 have e2 : buildD P u [(0, .agg (v.ls.map zD))] = some (stL v (.v (.slice none 0 0)) 0) := by
  rw [buildD, if_pos h1, h2, Option.bind_some]
  simp only [fillD, h3, D.cells]
  obtain ⟨a0, a1, a2, a3, a4, a5, a6, a7, a8, a9, rfl⟩ : ∃ a0 a1 a2 a3 a4 a5 a6 a7 a8 a9, z = [a0, a1, a2, a3, a4, a5, a6, a7, a8, a9] := by
   match z, hz with
   | [a0, a1, a2, a3, a4, a5, a6, a7, a8, a9], _ => exact ⟨a0, a1, a2, a3, a4, a5, a6, a7, a8, a9, rfl⟩
  cases h8; cases h9
  rfl
 rw [e2]; exact q
theorem low_stL {m : Nat} {v : W8} {r : D} {n : Nat} (hr : low m r) : lowL m (stL v r n) := by
 rw [lowL_iff]
 intro d hd
 unfold stL at hd
 rcases List.mem_append.1 hd with h | h
 · exact (lowL_iff m _).1 (low_zs m v.ls) d h
 · simp at h
   rcases h with rfl | rfl
   · exact hr
   · rw [low]; trivial
theorem endX {P : Program} {res : Array ResultVar} {m0 : Nat} {K : List Ob → D → Prop} {s : S} (ds : List D) (M T : List Ob) (r : D) (h1 : resD P s res.toList = some ds) (h2 : s.h = M ++ T) (h0 : m0 ≤ M.length) (lM : lowH M.length M) (lr : low M.length r) (hr : cvD (fun i => decide (M.length ≤ i)) (M ++ T) (outD ds) = r) (hK : K M r) : EndD P res m0 K s := by
 have e : s.h.take M.length = M := by rw [h2]; simp
 refine ⟨ds, M.length, h1, h0, by rw [h2]; simp, by rw [e]; exact lM, by rw [h2, hr]; exact lr, by rw [e, h2, hr]; exact hK⟩
def sM (A B x : Ob) (T : List Ob) : List Ob := A :: B :: x :: T
section
variable {A B x y : Ob} {T l : List Ob}
theorem sM_0 : (sM A B x T)[0]? = some A := rfl
theorem sM_1 : (sM A B x T)[1]? = some B := rfl
theorem sM_2 : (sM A B x T)[2]? = some x := rfl
theorem sM_a0 : (sM A B x T ++ l)[0]? = some A := rfl
theorem sM_a1 : (sM A B x T ++ l)[1]? = some B := rfl
theorem sM_a2 : (sM A B x T ++ l)[2]? = some x := rfl
theorem sM_s2 : (sM A B x T).set 2 y = sM A B y T := rfl
theorem sM_b2 : (sM A B x T ++ l).set 2 y = sM A B y (T ++ l) := rfl
theorem sM_len : (sM A B x T).length = T.length + 3 := rfl
theorem sM_last : (sM A B x T ++ [y])[T.length + 3]? = some y := by simp [sM]
end
theorem sM_l {A B x y : Ob} {T : List Ob} : (sM A B x (T ++ [y]))[T.length + 3]? = some y := by simp [sM]
theorem sM_sl {A B x y z : Ob} {T : List Ob} : (sM A B x (T ++ [y])).set (T.length + 3) z = sM A B x (T ++ [z]) := by simp [sM]
theorem sM_m {A B x y : Ob} {T U : List Ob} : (sM A B x (T ++ y :: U))[T.length + 3]? = some y := by simp [sM]
theorem sM_ma {A B x y : Ob} {T U l : List Ob} : (sM A B x (T ++ y :: U) ++ l)[T.length + 3]? = some y := by simp [sM]
theorem sM_ms {A B x y z : Ob} {T U : List Ob} : (sM A B x (T ++ y :: U)).set (T.length + 3) z = sM A B x (T ++ z :: U) := by simp [sM]
theorem sM_mas {A B x y z : Ob} {T U l : List Ob} : (sM A B x (T ++ y :: U) ++ l).set (T.length + 3) z = sM A B x (T ++ z :: (U ++ l)) := by simp [sM]
theorem sM_mll {A B x y z : Ob} {T U : List Ob} : (sM A B x (T ++ y :: U) ++ [z])[T.length + (U.length + 1) + 3]? = some z := by simp [sM]
theorem aOp_ind8 {P : Program} {G : Nat → D} {e : Nat → D} {h : List Ob} {K : List Ob → D → Prop} {u : TypeId} {x y : Operand} {W : List Int} {k l el : Nat} {κ : IntKind} {z : Int} (hx : ev G e x = .agg (W.map zD)) (hy : ev G e y = .v (.int κ (k : Int))) (ha : arrT P u = some (l, el)) (hz : szT P el = some 1) (hg : aggT P el = some false) (hk : k < l) (hW : W[k]? = some z) (q : K h (.v (.int .u32 z))) : aOp P G e h K (.index u x y) := by
 have e1 : aOp P G e h K (.index u x y) = indA P u (ev G e x) (ev G e y) (K h) := rfl
 rw [e1, hx, hy]
 exact ⟨l, el, 1, .v (.int .u32 z), ha, hz, by omega, by omega, by rw [getD_one hg]; simp [hW, zD], q⟩
theorem padZ_len (q : List UInt8) (n : Nat) : (padZ q n).length % 64 = 0 := by
 unfold padZ zc
 simp [be8]
 omega
theorem outW_rows (z : Int) : ([[.v (.int .u8 (IntKind.u8.wrap (z.fdiv (2 ^ min (Int.toNat 24) 32))))], [.v (.int .u8 (IntKind.u8.wrap (z.fdiv (2 ^ min (Int.toNat 16) 32))))], [.v (.int .u8 (IntKind.u8.wrap (z.fdiv (2 ^ min (Int.toNat 8) 32))))], [.v (.int .u8 (IntKind.u8.wrap z))]] : List (List D)) = byD (outW z) := by
 simp only [byD, outW, List.map_cons, List.map_nil, byZ_eq]
 rfl
theorem be8_val (m i : Nat) (hi : i ≤ 64) : IntKind.u8.wrap ((m : Int).fdiv (2 ^ min i 64)) = ((UInt8.ofNat (m / 2 ^ i)).toNat : Int) := by
 rw [Nat.min_eq_left hi, wrap8_nn, Int.fdiv_eq_ediv_of_nonneg _ (Int.le_of_lt (Int.pow_pos (by omega)))]
 simp
theorem aOp_bst {P : Program} {G : Nat → D} {e : Nat → D} {h : List Ob} {K : List Ob → D → Prop} {t u E : TypeId} {x : Operand} {i n : Nat} {bs : List UInt8} (hx : ev G e x = .buf i n) (hi : h[i]? = some (.buf E 1 (byD bs))) (hn : bs.length = n) (h1 : byT P t = true) (h2 : strT P u = true) (q : K h (.v (.string ⟨bs.toArray⟩))) : aOp P G e h K (.convert t u x) := by
 have e1 : aOp P G e h K (.convert t u x) = cvA P h t u (ev G e x) K := rfl
 rw [e1, hx]
 exact ⟨h1, h2, E, byD bs, bs, hi, by rw [byD_len, hn], rfl, q⟩
theorem aOp_cvs {P : Program} {G : Nat → D} {e : Nat → D} {h : List Ob} {K : List Ob → D → Prop} {t u : TypeId} {x : Operand} {l : List UInt8} (hx : ev G e x = .v (.string ⟨l.toArray⟩)) (h1 : byT P u = true) (h2 : (P.underlying t).isSome = true) (h3 : l.length ≤ 140737488355328) (q : K h (.sl 1 (byD l))) : aOp P G e h K (.convert t u x) := by
 have e1 : aOp P G e h K (.convert t u x) = cvA P h t u (ev G e x) K := rfl
 rw [e1, hx]
 exact .inl ⟨h1, h2, h3, q⟩
theorem resD_cell2 {P : Program} {s : S} {c t t2 i o : Nat} {ds : List D} {d d2 : D} (hx : s.env c = .ptr i o) (hi : s.h[i]? = some (.cells ds)) (hg : getD P t ds o = some d) (h2 : s.env t2 = d2) : resD P s [.cell c t, .tmp t2] = some [d, d2] := by
 simp [resD, hx, loadD, hi, hg, h2]
theorem ao_ldgive {P : Program} {G : Nat → D} {n : Nat} {e : Nat → D} {h : List Ob} {ops : Array Oper} {rest : List Oper} {Q : S → Prop} {t : Nat} {ty : TypeId} {pos : String} {aft : Array Edge} {gd : Option (Nat × Bool)} {u : TypeId} {x : Operand} {i j o : Nat} {ds : List D} {d d' : D} (hw : wantedD ops gd e = some true) (ht : decide (t < n) = true) (hx : ev G e x = .ptr i o) (hi : h[i]? = some (.cells ds)) (hg : getD P u ds o = some d) (hc : cvD (fun y => y == j) h d = d')
 (q : ao P G ops rest Q ⟨n, upd e t d', h.set j .dead⟩) : ao P G ops (⟨some t, .load u x, ty, pos, aft, gd⟩ :: rest) Q ⟨n, e, h⟩ := by
 refine ao1 hw ht fun K HK => ?_
 refine aOp_larr hx hi hg ?_
 refine HK _ _ ?_
 refine ao_give j t ?_
 have e1 : upd (upd e t d) t (cvD (fun i => i == j) h (upd e t d t)) = upd e t d' := by
  funext k
  unfold upd
  by_cases hk : k = t
  · simp [hk, hc]
  · simp [hk]
 rw [e1]; exact q
theorem be8_get (n : Nat) : be8 n = (List.range 8).map fun j => UInt8.ofNat (n / 2 ^ (56 - 8 * j)) := rfl
theorem be8_take (n : Nat) {j : Nat} (h : j < 8) : (be8 n).take (j + 1) = (be8 n).take j ++ [UInt8.ofNat (n / 2 ^ (56 - 8 * j))] := by
 rw [be8_get, List.take_add_one, List.getElem?_map, List.getElem?_range h]; rfl
theorem restZ_ge {b : List UInt8} (h : 64 ≤ b.length) : restZ (b.drop 64) = restZ b := by
 unfold restZ
 rw [List.drop_drop, List.length_drop]
 congr 1
 omega
theorem restZ_lt {b : List UInt8} (h : b.length < 64) : restZ b = b := by
 unfold restZ; rw [Nat.div_eq_of_lt h]; rfl
theorem restZ_len (b : List UInt8) : (restZ b).length < 64 := by unfold restZ; rw [List.length_drop]; omega
end
section
set_option maxRecDepth 100000
set_option maxHeartbeats 4000000
set_option pp.maxSteps 1000000
set_option pp.deepTerms true
attribute [local irreducible] on aOp
attribute [local go_sem] decide_true decide_false Bool.not_true Bool.not_false
attribute [local simp] byD_len
def eM (A B x w v : Ob) (T : List Ob) : List Ob := A :: B :: x :: w :: v :: T
section
variable {A B x w v y z : Ob} {T l : List Ob}
theorem eM_0 : (eM A B x w v T)[0]? = some A := rfl
theorem eM_1 : (eM A B x w v T)[1]? = some B := rfl
theorem eM_2 : (eM A B x w v T)[2]? = some x := rfl
theorem eM_3 : (eM A B x w v T)[3]? = some w := rfl
theorem eM_4 : (eM A B x w v T)[4]? = some v := rfl
theorem eM_s1 : (eM A B x w v T).set 1 y = eM A y x w v T := rfl
theorem eM_s2 : (eM A B x w v T).set 2 y = eM A B y w v T := rfl
theorem eM_s3 : (eM A B x w v T).set 3 y = eM A B x y v T := rfl
theorem eM_s4 : (eM A B x w v T).set 4 y = eM A B x w y T := rfl
theorem eM_app : eM A B x w v T ++ l = eM A B x w v (T ++ l) := rfl
theorem eM_len : (eM A B x w v T).length = T.length + 5 := rfl
theorem eM_l : (eM A B x w v (T ++ [y]))[T.length + 5]? = some y := by simp [eM]
theorem eM_sl : (eM A B x w v (T ++ [y])).set (T.length + 5) z = eM A B x w v (T ++ [z]) := by simp [eM]
theorem eM_l2 : (eM A B x w v (T ++ [y, z]))[T.length + 5]? = some y := by simp [eM]
theorem eM_sl2 {y' : Ob} : (eM A B x w v (T ++ [y, z])).set (T.length + 5) y' = eM A B x w v (T ++ [y', z]) := by simp [eM]
theorem eM_l4 : (eM A B x w v (T ++ [y, z]))[T.length + 1 + 5]? = some z := by simp [eM]
end
theorem rdCmd_of {s0 : RS} {r1 r2 r3 : Int × RS} {acc : List (ByteArray × List UInt8)} {s : RS} (e1 : rdInt s0 = r1) (e2 : rdInt r1.2 = r2) (e3 : rdInt r2.2 = r3) (h : rdList rdWr r3.2 = (acc, s)) : rdCmd s0 = (⟨r1.1, r2.1, r3.1, acc, (rdInt s).1, (rdBytes (rdInt s).2).1⟩, (rdBytes (rdInt s).2).2) := by
 unfold rdCmd rdCw
 simp only [e1, e2, e3, h]
theorem low_ZI {Z : List D} (hZ : lowL 2 Z) (s : RS) : lowH 2 [.cells Z, inOb s] := fun x hx => by
 simp at hx
 rcases hx with rfl | rfl
 · exact hZ
 · exact low_in 2 s
variable (G : Nat → D) (hG : ∀ g, low 0 (G g))
include hG
theorem rread0 (Z : List D) (hZ : lowL 2 Z) (s0 : RS) (h0 : s0.Ok) (hb : s0.data.length ≤ 100000000) : Does Tryz.prog G 57 [.cells Z, inOb s0] [.ptr 1 0] (fun h' r => h' = [.cells Z, inOb (rdCmd s0).2] ∧ r = .agg (cmdX (rdCmd s0).1)) := by
 obtain ⟨o1, k1, _⟩ := rdInt_ok h0
 obtain ⟨o2, k2, _⟩ := rdInt_ok o1
 obtain ⟨o3, k3, _⟩ := rdInt_ok o2
 obtain ⟨o4, k4, hN⟩ := rdCount_ok o3
 refine does_of_aw Tryz.func57 rfl (Nat.le_of_ble_eq_true rfl) hG fun hl0 _ => ?_
 simp only [Tryz.ntmps57]
 repeat' first
  | refine aw_seq' ?_
  | refine aw_region' ?_
  | refine aw_block ?_
  | refine ao_nil ?_
  | (refine ao1 rfl rfl fun K HK => ?_; simp only [go_sem, ↓reduceIte, Nat.reduceEqDiff, Nat.reduceAdd, Nat.reduceLeDiff, Nat.reduceBEq, Nat.reduceMul, Int.reduceEq, Int.reduceLT, Int.reduceLE] <;> (refine HK _ _ ?_; clear HK K))
  | (refine ao2 rfl rfl rfl ent_87 (inInt_d G hG 1 s0 _ rfl h0 (by omega)) ?_; rintro _ _ ⟨rfl, rfl⟩)
  | (refine ao2 rfl rfl rfl ent_87 (inInt_d G hG 1 _ _ rfl o1 (by rw [k1]; omega)) ?_; rintro _ _ ⟨rfl, rfl⟩)
  | (refine ao2 rfl rfl rfl ent_87 (inInt_d G hG 1 _ _ rfl o2 (by rw [k2, k1]; omega)) ?_; rintro _ _ ⟨rfl, rfl⟩)
  | (refine ao2 rfl rfl rfl ent_88 (inCount_d G hG 1 _ _ rfl o3 (by rw [k3, k2, k1]; omega)) ?_; rintro _ _ ⟨rfl, rfl⟩)
  | (refine ao1' rfl fun K HK => ?_; simp only [go_sem, ↓reduceIte, Nat.reduceEqDiff, Nat.reduceAdd, Nat.reduceLeDiff, Nat.reduceBEq, Nat.reduceMul, Int.reduceEq, Int.reduceLT, Int.reduceLE]; refine HK _ _ ?_; clear HK K)
 generalize e1 : rdInt s0 = r1 at o1 k1 o2 k2 o3 k3 o4 k4 hN ⊢
 generalize e2 : rdInt r1.2 = r2 at o2 k2 o3 k3 o4 k4 hN ⊢
 generalize e3 : rdInt r2.2 = r3 at o3 k3 o4 k4 hN ⊢
 have hlist : rdList rdWr r3.2 = rdLoop rdWr (rdCount r3.2).1 (rdCount r3.2).2 := rfl
 generalize e4 : rdCount r3.2 = r4 at o4 k4 hN hlist ⊢
 have hd : r4.2.data = s0.data := by rw [k4, k3, k2, k1]
 have hN' : r4.1 ≤ s0.data.length := by rw [k3, k2, k1] at hN; exact hN
 refine aw_nilcell 72 2 3 [.v (.int .i64 r1.1), .v (.int .i64 r2.1), .v (.int .i64 r3.1)] [.v (.int .i64 0), .v (.slice none 0 0)] rfl ?_
 refine aw_for (fun m e h' => ∃ (k : Nat) (acc : List (ByteArray × List UInt8)) (s : RS) (T : List Ob), k ≤ r4.1 ∧ m = r4.1 - k ∧ LoopAt (rdList rdWr r3.2) rdWr acc (r4.1 - k) s ∧ s.Ok ∧ s.data = s0.data ∧ acc.length = k ∧ h' = eM (.cells Z) (inOb s) (.cells [.v (.int .i64 0), .v (.int .i64 0), .v (.int .i64 0), .v (.slice none 0 0), .v (.int .i64 0), .v (.slice none 0 0)]) (.cells [.v (.int .i64 r1.1), .v (.int .i64 r2.1), .v (.int .i64 r3.1), .buf 4 k, .v (.int .i64 0), .v (.slice none 0 0)]) (.buf 72 2 (acc.map wrX)) T ∧ e 0 = .ptr 1 0 ∧ e 2 = .ptr 2 0 ∧ e 3 = .ptr 3 0 ∧ e 4 = .v (.int .i64 r4.1) ∧ e 5 = .v (.int .i64 k)) r4.1 ⟨0, [], r4.2, [], Nat.zero_le _, rfl, hlist ▸ LoopAt.start _ _ _, o4, hd, rfl, rfl, rfl, rfl, rfl, rfl, rfl⟩ ?_
 rintro m e h' ⟨k, acc, s, T, hk, rfl, hR, ho, hsd, hal, rfl, e0', e2', e3', e4', e5'⟩
 have hsl : s.data.length ≤ 1000000000 := by rw [hsd]; omega
 have hi1 : ∀ x w v T, (eM (.cells Z) (inOb s) x w v T)[1]? = some (.cells [.sl 1 (byD s.data), .v (.int .i64 s.pos), .v (.int .i64 s.item), .v (.bool (decide (s.err ≠ 0)))]) := fun x w v T => rfl
 by_cases hgo : k < r4.1 ∧ s.err = 0
 · obtain ⟨hlt, he⟩ := hgo
   have hbad : decide (s.err ≠ 0) = false := decide_eq_false (fun h => h he)
   have ⟨ob, kb, hbl⟩ := rdBytes_ok ho
   have ⟨oc, kc, hcl⟩ := rdBytes_ok ob
   have hbl2 : (rdBytes s).2.data.length ≤ 1000000000 := by rw [kb]; exact hsl
   have wk : IntKind.i64.wrap ((k : Int) + 1) = ((k + 1 : Nat) : Int) := IntWalk.i64_in _ (by omega)
   rw [hbad] at hi1
   repeat' first
    | (refine ao_appB rfl rfl rfl rfl eM_4 (by simp [hal]) (by simp only [go_sem]; rfl) (by first | exact eM_l4 | exact eM_l) (by simp) (by simp [rowsOk, D.one, Value.oneCell']) (by simp; omega) ?_)
    | refine aw_seq' ?_
    | refine aw_region' ?_
    | refine aw_block ?_
    | refine ao_nil ?_
    | (refine ao1 rfl rfl fun K HK => ?_; (first | refine aOp_pick rfl ?_ | skip); simp only [go_sem, ↓reduceIte, Nat.reduceEqDiff, Nat.reduceAdd, Nat.reduceLeDiff, Nat.reduceBEq, Nat.reduceMul, Int.reduceEq, Int.reduceLT, Int.reduceLE, e0', e2', e3', e4', e5', wk, hi1, eM_0, eM_1, eM_2, eM_3, eM_4, eM_s1, eM_s2, eM_s3, eM_s4, eM_app, eM_len, eM_l, eM_sl, eM_l2, eM_sl2, Bool.false_eq_true]; (first | refine splitB (fun hq => ?_) (fun hq => ?_) | skip) <;> (refine HK _ _ ?_; clear HK K))
    | refine ao0 rfl rfl ?_
    | (refine ao2 rfl rfl rfl ent_89 (inText_d G hG 1 s _ eM_1 ho hsl) ?_; rintro _ _ ⟨rfl, rfl⟩)
    | (refine ao2 rfl rfl rfl ent_90 (inBytes_d G hG 1 (rdBytes s).2 _ (by first | exact eM_1 | rfl) ob hbl2) ?_; rintro _ _ ⟨rfl, rfl⟩)
    | (refine ao1' rfl fun K HK => ?_; simp only [go_sem, ↓reduceIte, Nat.reduceEqDiff, Nat.reduceAdd, Nat.reduceLeDiff, Nat.reduceBEq, Nat.reduceMul, Int.reduceEq, Int.reduceLT, Int.reduceLE, e0', e2', e3', e4', e5', wk, hi1, eM_0, eM_1, eM_2, eM_3, eM_4, eM_s1, eM_s2, eM_s3, eM_s4, eM_app, eM_len, eM_l, eM_sl, eM_l2, eM_sl2, Bool.false_eq_true]; refine HK _ _ ?_; clear HK K)
    | refine aw_if1 rfl ?_
    | refine aw_if0 rfl ?_
    | refine aw_skip ?_
    | refine aw_exit ?_
    | refine thenS_n ?_
    | (exfalso; omega)
   refine ⟨rfl, r4.1 - (k + 1), by omega, k + 1, acc ++ [(rdWr s).1], (rdWr s).2, T ++ [.cells (wrX (rdWr s).1), .buf 72 2 [wrX (rdWr s).1]], by omega, rfl, ?_, oc, (kc.trans (kb.trans hsd) : (rdBytes (rdBytes s).2).2.data = s0.data), by simp [hal], ?_, by simp [upd, e0'], by simp [upd, e2'], by simp [upd, e3'], by simp [upd, e4'], rfl⟩
   · rw [show r4.1 - k = r4.1 - (k + 1) + 1 by omega] at hR
     exact hR.step he
   · exact congrArg (fun x => eM (.cells Z) (inOb (rdWr s).2) (.cells [.v (.int .i64 0), .v (.int .i64 0), .v (.int .i64 0), .v (.slice none 0 0), .v (.int .i64 0), .v (.slice none 0 0)]) (.cells [.v (.int .i64 r1.1), .v (.int .i64 r2.1), .v (.int .i64 r3.1), .buf 4 (k + 1), .v (.int .i64 0), .v (.slice none 0 0)]) (.buf 72 2 x) (T ++ [.cells (wrX (rdWr s).1), .buf 72 2 [wrX (rdWr s).1]])) (by simp : acc.map wrX ++ [wrX (rdWr s).1] = (acc ++ [(rdWr s).1]).map wrX)
 have hRR : rdList rdWr r3.2 = (acc, s) := by
  by_cases he : s.err = 0
  · have hk' : k = r4.1 := by have : ¬ k < r4.1 := fun h => hgo ⟨h, he⟩; omega
    subst hk'
    rw [Nat.sub_self] at hR
    exact hR.end0
  · exact hR.endE he
 rw [rdCmd_of e1 e2 e3 hRR]
 have ⟨o5, k5, _⟩ := rdInt_ok ho
 have ⟨o6, k6, _⟩ := rdBytes_ok o5
 have l5 : (rdInt s).2.data.length ≤ 1000000000 := by rw [k5]; exact hsl
 by_cases hlt : k < r4.1
 · have hbad : decide (s.err ≠ 0) = true := decide_eq_true (fun h => hgo ⟨hlt, h⟩)
   rw [hbad] at hi1
   repeat' first
    | refine aw_seq' ?_
    | refine aw_region' ?_
    | refine ao_nil ?_
    | (refine ao1 rfl rfl fun K HK => ?_; (first | refine aOp_pick rfl ?_ | skip); simp only [go_sem, ↓reduceIte, Nat.reduceEqDiff, Nat.reduceAdd, Nat.reduceLeDiff, Nat.reduceBEq, Nat.reduceMul, Int.reduceEq, Int.reduceLT, Int.reduceLE, e0', e2', e3', e4', e5', hi1, eM_0, eM_1, eM_2, eM_3, eM_4, eM_s1, eM_s2, eM_s3, eM_s4, eM_app, eM_len, eM_l, eM_sl, eM_l2, eM_sl2, Bool.false_eq_true]; (first | refine splitB (fun hq => ?_) (fun hq => ?_) | skip) <;> (refine HK _ _ ?_; clear HK K))
    | refine ao0 rfl rfl ?_
    | (refine ao2 rfl rfl rfl ent_87 (inInt_d G hG 1 s _ eM_1 ho hsl) ?_; rintro _ _ ⟨rfl, rfl⟩)
    | (refine ao2 rfl rfl rfl ent_90 (inBytes_d G hG 1 (rdInt s).2 _ (by first | exact eM_1 | rfl) o5 l5) ?_; rintro _ _ ⟨rfl, rfl⟩)
    | (refine ao1' rfl fun K HK => ?_; simp only [go_sem, ↓reduceIte, Nat.reduceEqDiff, Nat.reduceAdd, Nat.reduceLeDiff, Nat.reduceBEq, Nat.reduceMul, Int.reduceEq, Int.reduceLT, Int.reduceLE, e0', e2', e3', e4', e5', hi1, eM_0, eM_1, eM_2, eM_3, eM_4, eM_s1, eM_s2, eM_s3, eM_s4, eM_app, eM_len, eM_l, eM_sl, eM_l2, eM_sl2, Bool.false_eq_true]; refine HK _ _ ?_; clear HK K)
    | refine aw_if0 rfl ?_
    | refine aw_exit ?_
    | refine aw_ret ?_
    | (exfalso; omega)
   exact ⟨.inr rfl, endX [.agg [.v (.int .i64 r1.1), .v (.int .i64 r2.1), .v (.int .i64 r3.1), .buf 4 k, .v (.int .i64 (rdInt s).1), .sl 1 (byD (rdBytes (rdInt s).2).1)]] [.cells Z, inOb (rdBytes (rdInt s).2).2] (.cells [.v (.int .i64 r1.1), .v (.int .i64 r2.1), .v (.int .i64 r3.1), .buf 4 k, .v (.int .i64 (rdInt s).1), .sl 1 (byD (rdBytes (rdInt s).2).1)] :: .cells [.v (.int .i64 r1.1), .v (.int .i64 r2.1), .v (.int .i64 r3.1), .buf 4 k, .v (.int .i64 (rdInt s).1), .sl 1 (byD (rdBytes (rdInt s).2).1)] :: .buf 72 2 (acc.map wrX) :: T) (.agg (cmdX ⟨r1.1, r2.1, r3.1, acc, (rdInt s).1, (rdBytes (rdInt s).2).1⟩)) (resD_cell1 (i := 2) (o := 0) (by simp [upd, e2']) rfl (by rw [getD_agg' (by simp only [go_sem])]; simp only [go_sem]; rfl)) rfl (Nat.le_refl _) (low_ZI hZ _) (low_agg _ _) (by simp [outD, cvD, cv1, hal, cmdX]) ⟨rfl, rfl⟩⟩
 · skip
   repeat' first
    | refine aw_seq' ?_
    | refine aw_region' ?_
    | refine aw_block ?_
    | refine ao_nil ?_
    | (refine ao1 rfl rfl fun K HK => ?_; (first | refine aOp_pick rfl ?_ | skip); simp only [go_sem, ↓reduceIte, Nat.reduceEqDiff, Nat.reduceAdd, Nat.reduceLeDiff, Nat.reduceBEq, Nat.reduceMul, Int.reduceEq, Int.reduceLT, Int.reduceLE, e0', e2', e3', e4', e5', hi1, eM_0, eM_1, eM_2, eM_3, eM_4, eM_s1, eM_s2, eM_s3, eM_s4, eM_app, eM_len, eM_l, eM_sl, eM_l2, eM_sl2, Bool.false_eq_true]; (first | refine splitB (fun hq => ?_) (fun hq => ?_) | skip) <;> (refine HK _ _ ?_; clear HK K))
    | refine ao0 rfl rfl ?_
    | (refine ao2 rfl rfl rfl ent_87 (inInt_d G hG 1 s _ eM_1 ho hsl) ?_; rintro _ _ ⟨rfl, rfl⟩)
    | (refine ao2 rfl rfl rfl ent_90 (inBytes_d G hG 1 (rdInt s).2 _ (by first | exact eM_1 | rfl) o5 l5) ?_; rintro _ _ ⟨rfl, rfl⟩)
    | (refine ao1' rfl fun K HK => ?_; simp only [go_sem, ↓reduceIte, Nat.reduceEqDiff, Nat.reduceAdd, Nat.reduceLeDiff, Nat.reduceBEq, Nat.reduceMul, Int.reduceEq, Int.reduceLT, Int.reduceLE, e0', e2', e3', e4', e5', hi1, eM_0, eM_1, eM_2, eM_3, eM_4, eM_s1, eM_s2, eM_s3, eM_s4, eM_app, eM_len, eM_l, eM_sl, eM_l2, eM_sl2, Bool.false_eq_true]; refine HK _ _ ?_; clear HK K)
    | refine aw_if1 rfl ?_
    | refine aw_if0 rfl ?_
    | refine aw_skip ?_
    | refine aw_exit ?_
    | refine aw_ret ?_
    | (exfalso; omega)
   exact ⟨.inr rfl, endX [.agg [.v (.int .i64 r1.1), .v (.int .i64 r2.1), .v (.int .i64 r3.1), .buf 4 k, .v (.int .i64 (rdInt s).1), .sl 1 (byD (rdBytes (rdInt s).2).1)]] [.cells Z, inOb (rdBytes (rdInt s).2).2] (.cells [.v (.int .i64 r1.1), .v (.int .i64 r2.1), .v (.int .i64 r3.1), .buf 4 k, .v (.int .i64 (rdInt s).1), .sl 1 (byD (rdBytes (rdInt s).2).1)] :: .cells [.v (.int .i64 r1.1), .v (.int .i64 r2.1), .v (.int .i64 r3.1), .buf 4 k, .v (.int .i64 (rdInt s).1), .sl 1 (byD (rdBytes (rdInt s).2).1)] :: .buf 72 2 (acc.map wrX) :: T) (.agg (cmdX ⟨r1.1, r2.1, r3.1, acc, (rdInt s).1, (rdBytes (rdInt s).2).1⟩)) (resD_cell1 (i := 2) (o := 0) (by simp [upd, e2']) rfl (by rw [getD_agg' (by simp only [go_sem])]; simp only [go_sem]; rfl)) rfl (Nat.le_refl _) (low_ZI hZ _) (low_agg _ _) (by simp [outD, cvD, cv1, hal, cmdX]) ⟨rfl, rfl⟩⟩
theorem inEnd_e {s : RS} {bb : Bool} (q : decide (s.err = 0 ∧ s.pos = s.data.length) = bb) {i : Nat} {h : List Ob} (hi : h[i]? = some (inOb s)) :
 Does Tryz.prog G 58 h [.ptr i 0] (fun h' r => h' = h ∧ r = .v (.bool bb)) := q ▸ inEnd_d G hG i s h hi
end
section
set_option maxRecDepth 100000
set_option maxHeartbeats 1000000
attribute [local irreducible] on aOp
attribute [local go_sem] decide_true decide_false Bool.not_true Bool.not_false
attribute [local simp] byD_len
variable (G : Nat → D) (hG : ∀ g, low 0 (G g))
include hG
theorem rNum_d (i : Nat) (s : RS) (h : List Ob) (hi : h[i]? = some (rdrOb s)) (ho : s.Ok) (hl : s.data.length ≤ 1000000000) :
 Does Tryz.prog G 83 h [.ptr i 0] (fun h' r => h' = h ∧ r = s.rawN) := by
 rw [rdrOb_eq] at hi
 refine does_of_aw Tryz.func83 rfl (Nat.le_of_ble_eq_true rfl) hG fun hl0 _ => ?_
 simp only [Tryz.ntmps83]
 repeat' first
  | refine aw_seq' ?_
  | refine aw_region' ?_
  | refine aw_block ?_
  | refine ao_nil ?_
  | (refine ao1 rfl rfl fun K HK => ?_; simp only [go_sem, ↓reduceIte, Nat.reduceEqDiff, Nat.reduceAdd, Nat.reduceLeDiff, Nat.reduceBEq, Nat.reduceMul, Int.reduceEq, Int.reduceLT, Int.reduceLE, hi] <;> (refine HK _ _ ?_; clear HK K))
 refine aw_for (fun m e h' => ∃ (k acc : Nat), m = 10 - k ∧ k ≤ 10 ∧ acc < 2 ^ (7 * k) ∧ rawJ s.pos k acc (s.data.drop (s.pos + k)) = s.rawN ∧ h' = h ∧ e 0 = .ptr i 0 ∧ e 2 = .v (.int .u64 acc) ∧ e 7 = .v (.int .i64 k)) 10 ⟨0, 0, rfl, by omega, by decide, rfl, rfl, rfl, rfl, rfl⟩ ?_
 rintro m e h' ⟨k, acc, rfl, hk, ha, hJ, rfl, e0, e2, e7⟩
 have hp := ho.pos
 have w1 : IntKind.i64.wrap ((s.pos : Int) + (k : Int)) = ((s.pos + k : Nat) : Int) := IntWalk.i64_in _ (by omega)
 by_cases hk9 : k = 10
 · subst hk9
   have hR : rawJ s.pos 10 acc (List.drop (s.pos + 10) s.data) = .tup [.v (.int .u64 (0 : Int)), .v (.int .i64 (0 : Int)), .v (.bool false)] := by
    unfold rawJ; split
    · rfl
    · rw [if_pos (by omega)]
   repeat' first
    | refine aw_seq' ?_
    | refine aw_region' ?_
    | refine aw_block ?_
    | refine ao_nil ?_
    | ((first | refine ao1 rfl rfl fun K HK => ?_ | refine aq1 rfl rfl fun K HK => ?_); (first | refine aOp_pick rfl ?_ | skip); simp only [go_sem, ↓reduceIte, Nat.reduceEqDiff, Nat.reduceAdd, Nat.reduceLeDiff, Nat.reduceBEq, Nat.reduceMul, Int.reduceEq, Int.reduceLT, Int.reduceLE, e0, e2, e7, hi]; (first | refine splitB (fun hq => ?_) (fun hq => ?_) | (refine ⟨by omega, by omega, ?_⟩; intro row hrow; obtain ⟨x, hx, rfl⟩ := row_inv hrow; clear hrow) | skip) <;> ((first | refine HK _ _ ?_ | refine HK _ _ rfl ?_); clear HK K))
    | refine aq_nil ?_
    | (refine aw_draw mixd (by kernel_rfl) ?_)
    | refine ao0 rfl rfl ?_
    | refine aw_if1 rfl ?_
    | refine aw_if0 rfl ?_
    | refine aw_skip ?_
    | refine aw_exit ?_
    | refine aw_ret ?_
    | refine thenS_r ?_
    | refine inB_r ?_
    | (exfalso; omega)
   exact ⟨.inr rfl, endD (r := .tup [.v (.int .u64 (0 : Int)), .v (.int .i64 (0 : Int)), .v (.bool false)]) hl0 rfl (by simp) (by simp) rfl (by simp [low, lowL]) ⟨rfl, hR.symm.trans hJ⟩⟩
 by_cases hlt : s.pos + k < s.data.length
 rotate_left
 · have hR : rawJ s.pos k acc (List.drop (s.pos + k) s.data) = .tup [.v (.int .u64 (0 : Int)), .v (.int .i64 (0 : Int)), .v (.bool false)] := by
    rw [List.drop_eq_nil_of_le (by omega)]; rfl
   repeat' first
    | refine aw_seq' ?_
    | refine aw_region' ?_
    | refine aw_block ?_
    | refine ao_nil ?_
    | ((first | refine ao1 rfl rfl fun K HK => ?_ | refine aq1 rfl rfl fun K HK => ?_); (first | refine aOp_pick rfl ?_ | skip); simp only [go_sem, ↓reduceIte, Nat.reduceEqDiff, Nat.reduceAdd, Nat.reduceLeDiff, Nat.reduceBEq, Nat.reduceMul, Int.reduceEq, Int.reduceLT, Int.reduceLE, e0, e2, e7, hi, w1]; (first | refine splitB (fun hq => ?_) (fun hq => ?_) | (refine ⟨by omega, by omega, ?_⟩; intro row hrow; obtain ⟨x, hx, rfl⟩ := row_inv hrow; clear hrow) | skip) <;> ((first | refine HK _ _ ?_ | refine HK _ _ rfl ?_); clear HK K))
    | refine aq_nil ?_
    | (refine aw_draw mixd (by kernel_rfl) ?_)
    | refine ao0 rfl rfl ?_
    | refine aw_if1 rfl ?_
    | refine aw_if0 rfl ?_
    | refine aw_skip ?_
    | refine aw_exit ?_
    | refine aw_ret ?_
    | refine thenS_r ?_
    | refine inB_r ?_
    | (exfalso; omega)
   exact ⟨.inr rfl, endD (r := .tup [.v (.int .u64 (0 : Int)), .v (.int .i64 (0 : Int)), .v (.bool false)]) hl0 rfl (by simp) (by simp) rfl (by simp [low, lowL]) ⟨rfl, hR.symm.trans hJ⟩⟩
 have hx : s.data[s.pos + k]? = some s.data[s.pos + k] := List.getElem?_eq_getElem hlt
 rw [List.drop_eq_getElem_cons hlt] at hJ
 generalize s.data[s.pos + k] = x at hx hJ
 have hxl := x.toNat_lt
 by_cases h9 : k = 9 ∧ 1 < x.toNat
 · have hR : rawJ s.pos k acc (x :: List.drop (s.pos + k + 1) s.data) = .tup [.v (.int .u64 (0 : Int)), .v (.int .i64 (0 : Int)), .v (.bool false)] := by
    rw [rawJ, if_neg (by omega), if_pos h9]
   obtain ⟨rfl, h9⟩ := h9
   repeat' first
    | refine aw_seq' ?_
    | refine aw_region' ?_
    | refine aw_block ?_
    | refine ao_nil ?_
    | ((first | refine ao1 rfl rfl fun K HK => ?_ | refine aq1 rfl rfl fun K HK => ?_); (first | refine aOp_pick rfl ?_ | skip); simp only [go_sem, ↓reduceIte, Nat.reduceEqDiff, Nat.reduceAdd, Nat.reduceLeDiff, Nat.reduceBEq, Nat.reduceMul, Int.reduceEq, Int.reduceLT, Int.reduceLE, e0, e2, e7, hi, w1, Int.toNat_natCast]; (first | refine splitB (fun hq => ?_) (fun hq => ?_) | (refine ⟨by omega, by omega, ?_⟩; refine row_at (by assumption) ?_) | skip) <;> ((first | refine HK _ _ ?_ | refine HK _ _ rfl ?_); clear HK K))
    | refine aq_nil ?_
    | (refine aw_draw mixd (by kernel_rfl) ?_)
    | refine ao0 rfl rfl ?_
    | refine aw_if1 rfl ?_
    | refine aw_if0 rfl ?_
    | refine aw_skip ?_
    | refine aw_exit ?_
    | refine aw_ret ?_
    | refine thenS_r ?_
    | refine inB_r ?_
    | (exfalso; omega)
   exact ⟨.inr rfl, endD (r := .tup [.v (.int .u64 (0 : Int)), .v (.int .i64 (0 : Int)), .v (.bool false)]) hl0 rfl (by simp) (by simp) rfl (by simp [low, lowL]) ⟨rfl, hR.symm.trans hJ⟩⟩
 obtain ⟨s1, s2, s3⟩ := shl_step ha (by omega) h9 hxl
 have w2 : IntKind.i64.wrap (7 * (k : Int)) = ((7 * k : Nat) : Int) := IntWalk.i64_in _ (by omega)
 have w3 : decide (0 ≤ ((7 * k : Nat) : Int)) = true := decide_eq_true (by omega)
 have hV := num_val (x := x) ha (by omega) h9
 have w6 : IntKind.i64.wrap (((s.pos + k : Nat) : Int) + 1) = ((s.pos + k + 1 : Nat) : Int) := IntWalk.i64_in _ (by omega)
 have w7 : IntKind.i64.wrap ((k : Int) + 1) = ((k + 1 : Nat) : Int) := IntWalk.i64_in _ (by omega)
 repeat' first
  | refine aw_seq' ?_
  | refine aw_region' ?_
  | refine aw_block ?_
  | refine ao_nil ?_
  | ((first | refine ao1 rfl rfl fun K HK => ?_ | refine aq1 rfl rfl fun K HK => ?_); (first | refine aOp_pick rfl ?_ | skip); simp only [go_sem, ↓reduceIte, Nat.reduceEqDiff, Nat.reduceAdd, Nat.reduceLeDiff, Nat.reduceBEq, Nat.reduceMul, Int.reduceEq, Int.reduceLT, Int.reduceLE, e0, e2, e7, hi, w1, w2, w3, w6, w7, Int.toNat_natCast, Bool.false_eq_true]; (first | refine splitB (fun hq => ?_) (fun hq => ?_) | refine splitN (fun hq => ?_) (fun hq => ?_) | (refine ⟨by omega, by omega, ?_⟩; refine row_at (by assumption) ?_) | skip) <;> ((first | refine HK _ _ ?_ | refine HK _ _ rfl ?_); clear HK K))
  | refine aq0 rfl rfl ?_
  | refine aq_nil ?_
  | (refine aw_draw mixd (by kernel_rfl) ?_)
  | refine ao0 rfl rfl ?_
  | refine aw_if1 rfl ?_
  | refine aw_if0 rfl ?_
  | refine aw_skip ?_
  | refine aw_exit ?_
  | refine aw_ret ?_
  | refine thenS_n ?_
  | refine thenS_r ?_
  | refine inB_r ?_
  | (exfalso; omega)
 all_goals first
 | (have hR : rawJ s.pos k acc (x :: List.drop (s.pos + k + 1) s.data) = .tup [.v (.int .u64 ((acc + x.toNat % 128 * 2 ^ (7 * k) : Nat) : Int)), .v (.int .i64 ((s.pos + k + 1 : Nat) : Int)), .v (.bool true)] := by (rw [rawJ, if_neg (by omega), if_neg h9, if_pos (by omega), decide_eq_true (by omega)])
    exact ⟨.inr rfl, endD (r := .tup [.v (.int .u64 ((acc + x.toNat % 128 * 2 ^ (7 * k) : Nat) : Int)), .v (.int .i64 ((s.pos + k + 1 : Nat) : Int)), .v (.bool true)]) hl0 rfl (by simp) (by simp) (congrArg (fun z : Int => D.tup [.v (.int .u64 z), .v (.int .i64 ((s.pos + k + 1 : Nat) : Int)), .v (.bool true)]) hV) (by simp [low, lowL]) ⟨rfl, hR.symm.trans hJ⟩⟩)
 | (have hR : rawJ s.pos k acc (x :: List.drop (s.pos + k + 1) s.data) = .tup [.v (.int .u64 ((acc + x.toNat % 128 * 2 ^ (7 * k) : Nat) : Int)), .v (.int .i64 ((s.pos + k + 1 : Nat) : Int)), .v (.bool false)] := by (rw [rawJ, if_neg (by omega), if_neg h9, if_pos (by omega), decide_eq_false (by omega)])
    exact ⟨.inr rfl, endD (r := .tup [.v (.int .u64 ((acc + x.toNat % 128 * 2 ^ (7 * k) : Nat) : Int)), .v (.int .i64 ((s.pos + k + 1 : Nat) : Int)), .v (.bool false)]) hl0 rfl (by simp) (by simp) (congrArg (fun z : Int => D.tup [.v (.int .u64 z), .v (.int .i64 ((s.pos + k + 1 : Nat) : Int)), .v (.bool false)]) hV) (by simp [low, lowL]) ⟨rfl, hR.symm.trans hJ⟩⟩)
 | (rw [rawJ, if_neg (by omega), if_neg h9, if_neg (by omega)] at hJ
    refine ⟨rfl, 10 - (k + 1), by omega, k + 1, acc + x.toNat % 128 * 2 ^ (7 * k), rfl, by omega, s3, hJ, rfl, ?_, congrArg (fun z : Int => D.v (.int .u64 z)) hV, rfl⟩
    simp [upd, e0])
end
section
set_option maxRecDepth 100000
set_option maxHeartbeats 1000000
attribute [local irreducible] on aOp
attribute [local simp] byD_len
variable (G : Nat → D) (hG : ∀ g, low 0 (G g))
include hG
theorem rNum_e {s : RS} {d : D} (q : s.rawN = d) {i : Nat} {h : List Ob} (hi : h[i]? = some (rdrOb s)) (ho : s.Ok) (hl : s.data.length ≤ 1000000000) :
 Does Tryz.prog G 83 h [.ptr i 0] (fun h' r => h' = h ∧ r = d) := q ▸ rNum_d G hG i s h hi ho hl
theorem rBegin_d (i : Nat) (s : RS) (h : List Ob) (hi : h[i]? = some (rdrOb s)) :
 Does Tryz.prog G 82 h [.ptr i 0] (fun h' r => h' = h.set i (rdrOb (if s.err = 0 then s.begun else s)) ∧ r = .v (.bool (decide (s.err = 0)))) := by
 have hil := (List.getElem?_eq_some_iff.1 hi).1
 have hi0 := hi
 rw [rdrOb_eq] at hi
 obtain ⟨g1, g2, g3, g4, g5⟩ := own_get hi
 refine does_of_aw Tryz.func82 rfl (Nat.le_of_ble_eq_true rfl) hG fun hl0 _ => ?_
 simp only [Tryz.ntmps82]
 by_cases hb : s.err = 0
 · rw [if_pos hb, decide_eq_true hb]
   rw [hb] at hi
   repeat' first
    | refine aw_seq' ?_
    | refine aw_region' ?_
    | refine aw_block ?_
    | refine ao_nil ?_
    | (refine ao1 rfl rfl fun K HK => ?_; (try refine aOp_pick rfl ?_); simp only [go_sem, ↓reduceIte, Nat.reduceEqDiff, Nat.reduceAdd, Nat.reduceLeDiff, Nat.reduceBEq, Nat.reduceMul, Int.reduceEq, Int.reduceLT, Int.reduceLE, decide_true, decide_false, Bool.not_true, Bool.not_false, hi, g1]; (first | refine splitB (fun hq => ?_) (fun hq => ?_) | refine splitN (fun hq => ?_) (fun hq => ?_) | (refine slc_sl (by simp only [go_sem]) rfl rfl (by first | omega | simp) (by first | omega | simp) (by simp only [go_sem]; omega) ?_) | (refine ⟨by omega, by omega, ?_⟩; first | refine row_at (by assumption) ?_ | (intro row hrow; obtain ⟨x, hx, rfl⟩ := row_inv hrow; clear hrow) | (intro row hrow)) | (refine ⟨by omega, ?_⟩; refine row_at (by assumption) ?_) | skip) <;> (refine HK _ _ ?_; clear HK K))
    | (refine aq1 rfl rfl fun K HK => ?_; (try refine aOp_pick rfl ?_); simp only [go_sem, ↓reduceIte, Nat.reduceEqDiff, Nat.reduceAdd, Nat.reduceLeDiff, Nat.reduceBEq, Nat.reduceMul, Int.reduceEq, Int.reduceLT, Int.reduceLE, decide_true, decide_false, Bool.not_true, Bool.not_false, hi, g1]; (first | refine splitB (fun hq => ?_) (fun hq => ?_) | refine splitN (fun hq => ?_) (fun hq => ?_) | (refine slc_sl (by simp only [go_sem]) rfl rfl (by first | omega | simp) (by first | omega | simp) (by simp only [go_sem]; omega) ?_) | (refine ⟨by omega, by omega, ?_⟩; first | refine row_at (by assumption) ?_ | (intro row hrow; obtain ⟨x, hx, rfl⟩ := row_inv hrow; clear hrow) | (intro row hrow)) | (refine ⟨by omega, ?_⟩; refine row_at (by assumption) ?_) | skip) <;> (refine HK _ _ rfl ?_; clear HK K))
    | refine aq0 rfl rfl ?_
    | refine aq_nil ?_
    | (refine aw_draw mixd (by kernel_rfl) ?_)
    | refine ao_appB rfl rfl rfl rfl (by first | assumption | (simp only [go_sem, ↓reduceIte, Nat.reduceEqDiff, Nat.reduceAdd, Nat.reduceLeDiff, Nat.reduceBEq, Nat.reduceMul, Int.reduceEq, Int.reduceLT, Int.reduceLE, decide_true, decide_false, Bool.not_true, Bool.not_false, hi, g1]; rfl) | (simp only [go_sem, ↓reduceIte, Nat.reduceEqDiff, Nat.reduceAdd, Nat.reduceLeDiff, Nat.reduceBEq, Nat.reduceMul, Int.reduceEq, Int.reduceLT, Int.reduceLE, decide_true, decide_false, Bool.not_true, Bool.not_false, hi, g1]; done)) (by simp) (by simp only [go_sem]; rfl) (by first | assumption | (simp only [go_sem, ↓reduceIte, Nat.reduceEqDiff, Nat.reduceAdd, Nat.reduceLeDiff, Nat.reduceBEq, Nat.reduceMul, Int.reduceEq, Int.reduceLT, Int.reduceLE, decide_true, decide_false, Bool.not_true, Bool.not_false, hi, g1]; rfl) | (simp only [go_sem, ↓reduceIte, Nat.reduceEqDiff, Nat.reduceAdd, Nat.reduceLeDiff, Nat.reduceBEq, Nat.reduceMul, Int.reduceEq, Int.reduceLT, Int.reduceLE, decide_true, decide_false, Bool.not_true, Bool.not_false, hi, g1]; done)) (by simp) (by first | assumption | exact rowsOk_nil _ | exact rowsOk_by _ | (rw [byD_cut]; exact rowsOk_by _) | (simp [rowsOk, D.one, Value.oneCell']; done)) (by first | omega | (simp; done) | (simp; omega) | (simp [byD]; omega)) ?_
    | refine ao_appNB rfl rfl rfl rfl (by simp only [go_sem]; rfl) (by first | assumption | (simp only [go_sem, ↓reduceIte, Nat.reduceEqDiff, Nat.reduceAdd, Nat.reduceLeDiff, Nat.reduceBEq, Nat.reduceMul, Int.reduceEq, Int.reduceLT, Int.reduceLE, decide_true, decide_false, Bool.not_true, Bool.not_false, hi, g1]; rfl) | (simp only [go_sem, ↓reduceIte, Nat.reduceEqDiff, Nat.reduceAdd, Nat.reduceLeDiff, Nat.reduceBEq, Nat.reduceMul, Int.reduceEq, Int.reduceLT, Int.reduceLE, decide_true, decide_false, Bool.not_true, Bool.not_false, hi, g1]; done)) (by simp) (by first | assumption | exact rowsOk_nil _ | exact rowsOk_by _ | (rw [byD_cut]; exact rowsOk_by _) | (simp [rowsOk, D.one, Value.oneCell']; done)) (by first | omega | (simp; done) | (simp; omega) | (simp [byD]; omega)) ?_
    | refine ao_appR rfl rfl rfl (by first | assumption | (simp only [go_sem, ↓reduceIte, Nat.reduceEqDiff, Nat.reduceAdd, Nat.reduceLeDiff, Nat.reduceBEq, Nat.reduceMul, Int.reduceEq, Int.reduceLT, Int.reduceLE, decide_true, decide_false, Bool.not_true, Bool.not_false, hi, g1]; rfl) | (simp only [go_sem, ↓reduceIte, Nat.reduceEqDiff, Nat.reduceAdd, Nat.reduceLeDiff, Nat.reduceBEq, Nat.reduceMul, Int.reduceEq, Int.reduceLT, Int.reduceLE, decide_true, decide_false, Bool.not_true, Bool.not_false, hi, g1]; done)) (by simp) (by simp only [go_sem]; rfl) rfl (by first | assumption | exact rowsOk_nil _ | exact rowsOk_by _ | (rw [byD_cut]; exact rowsOk_by _) | (simp [rowsOk, D.one, Value.oneCell']; done)) (by first | omega | (simp; done) | (simp; omega) | (simp [byD]; omega)) ?_
    | refine ao_appNR rfl rfl rfl (by simp only [go_sem]; rfl) rfl (by first | assumption | exact rowsOk_nil _ | exact rowsOk_by _ | (rw [byD_cut]; exact rowsOk_by _) | (simp [rowsOk, D.one, Value.oneCell']; done)) (by first | omega | (simp; done) | (simp; omega) | (simp [byD]; omega)) ?_
    | refine ao0 rfl rfl ?_
    | (refine ao1' rfl fun K HK => ?_; simp only [go_sem, ↓reduceIte, Nat.reduceEqDiff, Nat.reduceAdd, Nat.reduceLeDiff, Nat.reduceBEq, Nat.reduceMul, Int.reduceEq, Int.reduceLT, Int.reduceLE, decide_true, decide_false, Bool.not_true, Bool.not_false, hi, g1]; refine HK _ _ ?_; clear HK K)
    | refine ao0' rfl ?_
    | refine aw_if1 rfl ?_
    | refine aw_if0 rfl ?_
    | refine aw_skip ?_
    | refine aw_exit ?_
    | refine aw_ret ?_
    | refine thenS_n ?_
    | refine thenS_x ?_
    | refine thenS_r ?_
    | refine inB_n ?_
    | refine inB_r ?_
    | refine inB_x ?_
    | refine inB_y rfl ?_
    | (exfalso; omega)
   exact ⟨.inr rfl, endS (i := i) (ob := rdrOb s.begun) (r := .v (.bool true)) hl0 (low_rdr _ _) rfl (by simp [rdrOb, RS.begun, hb, putL_succ, putL_zero, take_set]) (by simp) rfl (by rw [low]; trivial) ⟨rfl, rfl⟩⟩
 · rw [if_neg hb, decide_eq_false hb]
   repeat' first
    | refine aw_seq' ?_
    | refine aw_region' ?_
    | refine aw_block ?_
    | refine ao_nil ?_
    | (refine ao1 rfl rfl fun K HK => ?_; (try refine aOp_pick rfl ?_); simp only [go_sem, ↓reduceIte, Nat.reduceEqDiff, Nat.reduceAdd, Nat.reduceLeDiff, Nat.reduceBEq, Nat.reduceMul, Int.reduceEq, Int.reduceLT, Int.reduceLE, decide_true, decide_false, Bool.not_true, Bool.not_false, hi, g1, hb]; (first | refine splitB (fun hq => ?_) (fun hq => ?_) | refine splitN (fun hq => ?_) (fun hq => ?_) | (refine slc_sl (by simp only [go_sem]) rfl rfl (by first | omega | simp) (by first | omega | simp) (by simp only [go_sem]; omega) ?_) | (refine ⟨by omega, by omega, ?_⟩; first | refine row_at (by assumption) ?_ | (intro row hrow; obtain ⟨x, hx, rfl⟩ := row_inv hrow; clear hrow) | (intro row hrow)) | (refine ⟨by omega, ?_⟩; refine row_at (by assumption) ?_) | skip) <;> (refine HK _ _ ?_; clear HK K))
    | (refine aq1 rfl rfl fun K HK => ?_; (try refine aOp_pick rfl ?_); simp only [go_sem, ↓reduceIte, Nat.reduceEqDiff, Nat.reduceAdd, Nat.reduceLeDiff, Nat.reduceBEq, Nat.reduceMul, Int.reduceEq, Int.reduceLT, Int.reduceLE, decide_true, decide_false, Bool.not_true, Bool.not_false, hi, g1, hb]; (first | refine splitB (fun hq => ?_) (fun hq => ?_) | refine splitN (fun hq => ?_) (fun hq => ?_) | (refine slc_sl (by simp only [go_sem]) rfl rfl (by first | omega | simp) (by first | omega | simp) (by simp only [go_sem]; omega) ?_) | (refine ⟨by omega, by omega, ?_⟩; first | refine row_at (by assumption) ?_ | (intro row hrow; obtain ⟨x, hx, rfl⟩ := row_inv hrow; clear hrow) | (intro row hrow)) | (refine ⟨by omega, ?_⟩; refine row_at (by assumption) ?_) | skip) <;> (refine HK _ _ rfl ?_; clear HK K))
    | refine aq0 rfl rfl ?_
    | refine aq_nil ?_
    | (refine aw_draw mixd (by kernel_rfl) ?_)
    | refine ao_appB rfl rfl rfl rfl (by first | assumption | (simp only [go_sem, ↓reduceIte, Nat.reduceEqDiff, Nat.reduceAdd, Nat.reduceLeDiff, Nat.reduceBEq, Nat.reduceMul, Int.reduceEq, Int.reduceLT, Int.reduceLE, decide_true, decide_false, Bool.not_true, Bool.not_false, hi, g1, hb]; rfl) | (simp only [go_sem, ↓reduceIte, Nat.reduceEqDiff, Nat.reduceAdd, Nat.reduceLeDiff, Nat.reduceBEq, Nat.reduceMul, Int.reduceEq, Int.reduceLT, Int.reduceLE, decide_true, decide_false, Bool.not_true, Bool.not_false, hi, g1, hb]; done)) (by simp) (by simp only [go_sem]; rfl) (by first | assumption | (simp only [go_sem, ↓reduceIte, Nat.reduceEqDiff, Nat.reduceAdd, Nat.reduceLeDiff, Nat.reduceBEq, Nat.reduceMul, Int.reduceEq, Int.reduceLT, Int.reduceLE, decide_true, decide_false, Bool.not_true, Bool.not_false, hi, g1, hb]; rfl) | (simp only [go_sem, ↓reduceIte, Nat.reduceEqDiff, Nat.reduceAdd, Nat.reduceLeDiff, Nat.reduceBEq, Nat.reduceMul, Int.reduceEq, Int.reduceLT, Int.reduceLE, decide_true, decide_false, Bool.not_true, Bool.not_false, hi, g1, hb]; done)) (by simp) (by first | assumption | exact rowsOk_nil _ | exact rowsOk_by _ | (rw [byD_cut]; exact rowsOk_by _) | (simp [rowsOk, D.one, Value.oneCell']; done)) (by first | omega | (simp; done) | (simp; omega) | (simp [byD]; omega)) ?_
    | refine ao_appNB rfl rfl rfl rfl (by simp only [go_sem]; rfl) (by first | assumption | (simp only [go_sem, ↓reduceIte, Nat.reduceEqDiff, Nat.reduceAdd, Nat.reduceLeDiff, Nat.reduceBEq, Nat.reduceMul, Int.reduceEq, Int.reduceLT, Int.reduceLE, decide_true, decide_false, Bool.not_true, Bool.not_false, hi, g1, hb]; rfl) | (simp only [go_sem, ↓reduceIte, Nat.reduceEqDiff, Nat.reduceAdd, Nat.reduceLeDiff, Nat.reduceBEq, Nat.reduceMul, Int.reduceEq, Int.reduceLT, Int.reduceLE, decide_true, decide_false, Bool.not_true, Bool.not_false, hi, g1, hb]; done)) (by simp) (by first | assumption | exact rowsOk_nil _ | exact rowsOk_by _ | (rw [byD_cut]; exact rowsOk_by _) | (simp [rowsOk, D.one, Value.oneCell']; done)) (by first | omega | (simp; done) | (simp; omega) | (simp [byD]; omega)) ?_
    | refine ao_appR rfl rfl rfl (by first | assumption | (simp only [go_sem, ↓reduceIte, Nat.reduceEqDiff, Nat.reduceAdd, Nat.reduceLeDiff, Nat.reduceBEq, Nat.reduceMul, Int.reduceEq, Int.reduceLT, Int.reduceLE, decide_true, decide_false, Bool.not_true, Bool.not_false, hi, g1, hb]; rfl) | (simp only [go_sem, ↓reduceIte, Nat.reduceEqDiff, Nat.reduceAdd, Nat.reduceLeDiff, Nat.reduceBEq, Nat.reduceMul, Int.reduceEq, Int.reduceLT, Int.reduceLE, decide_true, decide_false, Bool.not_true, Bool.not_false, hi, g1, hb]; done)) (by simp) (by simp only [go_sem]; rfl) rfl (by first | assumption | exact rowsOk_nil _ | exact rowsOk_by _ | (rw [byD_cut]; exact rowsOk_by _) | (simp [rowsOk, D.one, Value.oneCell']; done)) (by first | omega | (simp; done) | (simp; omega) | (simp [byD]; omega)) ?_
    | refine ao_appNR rfl rfl rfl (by simp only [go_sem]; rfl) rfl (by first | assumption | exact rowsOk_nil _ | exact rowsOk_by _ | (rw [byD_cut]; exact rowsOk_by _) | (simp [rowsOk, D.one, Value.oneCell']; done)) (by first | omega | (simp; done) | (simp; omega) | (simp [byD]; omega)) ?_
    | refine ao0 rfl rfl ?_
    | (refine ao1' rfl fun K HK => ?_; simp only [go_sem, ↓reduceIte, Nat.reduceEqDiff, Nat.reduceAdd, Nat.reduceLeDiff, Nat.reduceBEq, Nat.reduceMul, Int.reduceEq, Int.reduceLT, Int.reduceLE, decide_true, decide_false, Bool.not_true, Bool.not_false, hi, g1, hb]; refine HK _ _ ?_; clear HK K)
    | refine ao0' rfl ?_
    | refine aw_if1 rfl ?_
    | refine aw_if0 rfl ?_
    | refine aw_skip ?_
    | refine aw_exit ?_
    | refine aw_ret ?_
    | refine thenS_n ?_
    | refine thenS_x ?_
    | refine thenS_r ?_
    | refine inB_n ?_
    | refine inB_r ?_
    | refine inB_x ?_
    | refine inB_y rfl ?_
    | (exfalso; omega)
   exact ⟨.inr rfl, endS (i := i) (ob := rdrOb s) (r := .v (.bool false)) hl0 (low_rdr _ _) rfl (by simp [set_same hi0]) (by simp) rfl (by rw [low]; trivial) ⟨rfl, rfl⟩⟩
theorem rBegin_ok {i : Nat} {s : RS} {h : List Ob} (hb : s.err = 0) (hi : h[i]? = some (rdrOb s)) :
 Does Tryz.prog G 82 h [.ptr i 0] (fun h' r => h' = h.set i (rdrOb s.begun) ∧ r = .v (.bool true)) := by
 have := rBegin_d G hG i s h hi
 rwa [if_pos hb, decide_eq_true hb] at this
theorem rBegin_h {i : Nat} {s : RS} {h h1 : List Ob} (q : h.set i (rdrOb s.begun) = h1) (hb : s.err = 0) (hi : h[i]? = some (rdrOb s)) :
 Does Tryz.prog G 82 h [.ptr i 0] (fun h' r => h' = h1 ∧ r = .v (.bool true)) := q ▸ rBegin_ok G hG hb hi
theorem rBegin_no {i : Nat} {s : RS} {h : List Ob} (hb : ¬ s.err = 0) (hi : h[i]? = some (rdrOb s)) :
 Does Tryz.prog G 82 h [.ptr i 0] (fun h' r => h' = h ∧ r = .v (.bool false)) := by
 have := rBegin_d G hG i s h hi
 rw [if_neg hb, decide_eq_false hb, set_same hi] at this
 exact this
theorem rUint_d (i : Nat) (s : RS) (h : List Ob) (hi : h[i]? = some (rdrOb s)) (ho : s.Ok) (hl : s.data.length ≤ 1000000000) :
 Does Tryz.prog G 81 h [.ptr i 0] (fun h' r => h' = h.set i (rdrOb (rdUint s).2) ∧ r = .v (.int .u64 (rdUint s).1)) := by
 have hil := (List.getElem?_eq_some_iff.1 hi).1
 have g1 := fun ob => List.getElem?_set_self (a := ob) hil
 refine does_of_aw Tryz.func81 rfl (Nat.le_of_ble_eq_true rfl) hG fun hl0 _ => ?_
 simp only [Tryz.ntmps81]
 by_cases hb : s.err = 0
 rotate_left
 · skip
   repeat' first
    | refine aw_seq' ?_
    | refine aw_region' ?_
    | refine aw_block ?_
    | refine ao_nil ?_
    | (refine ao1 rfl rfl fun K HK => ?_; (try refine aOp_pick rfl ?_); simp only [go_sem, ↓reduceIte, Nat.reduceEqDiff, Nat.reduceAdd, Nat.reduceLeDiff, Nat.reduceBEq, Nat.reduceMul, Int.reduceEq, Int.reduceLT, Int.reduceLE, decide_true, decide_false, Bool.not_true, Bool.not_false, g1]; (first | refine splitB (fun hq => ?_) (fun hq => ?_) | refine splitN (fun hq => ?_) (fun hq => ?_) | (refine slc_sl (by simp only [go_sem]) rfl rfl (by first | omega | simp) (by first | omega | simp) (by simp only [go_sem]; omega) ?_) | (refine ⟨by omega, by omega, ?_⟩; first | refine row_at (by assumption) ?_ | (intro row hrow; obtain ⟨x, hx, rfl⟩ := row_inv hrow; clear hrow) | (intro row hrow)) | (refine ⟨by omega, ?_⟩; refine row_at (by assumption) ?_) | skip) <;> (refine HK _ _ ?_; clear HK K))
    | (refine aq1 rfl rfl fun K HK => ?_; (try refine aOp_pick rfl ?_); simp only [go_sem, ↓reduceIte, Nat.reduceEqDiff, Nat.reduceAdd, Nat.reduceLeDiff, Nat.reduceBEq, Nat.reduceMul, Int.reduceEq, Int.reduceLT, Int.reduceLE, decide_true, decide_false, Bool.not_true, Bool.not_false, g1]; (first | refine splitB (fun hq => ?_) (fun hq => ?_) | refine splitN (fun hq => ?_) (fun hq => ?_) | (refine slc_sl (by simp only [go_sem]) rfl rfl (by first | omega | simp) (by first | omega | simp) (by simp only [go_sem]; omega) ?_) | (refine ⟨by omega, by omega, ?_⟩; first | refine row_at (by assumption) ?_ | (intro row hrow; obtain ⟨x, hx, rfl⟩ := row_inv hrow; clear hrow) | (intro row hrow)) | (refine ⟨by omega, ?_⟩; refine row_at (by assumption) ?_) | skip) <;> (refine HK _ _ rfl ?_; clear HK K))
    | refine aq0 rfl rfl ?_
    | refine aq_nil ?_
    | (refine aw_draw mixd (by kernel_rfl) ?_)
    | refine ao_appB rfl rfl rfl rfl (by first | assumption | (simp only [go_sem, ↓reduceIte, Nat.reduceEqDiff, Nat.reduceAdd, Nat.reduceLeDiff, Nat.reduceBEq, Nat.reduceMul, Int.reduceEq, Int.reduceLT, Int.reduceLE, decide_true, decide_false, Bool.not_true, Bool.not_false, g1]; rfl) | (simp only [go_sem, ↓reduceIte, Nat.reduceEqDiff, Nat.reduceAdd, Nat.reduceLeDiff, Nat.reduceBEq, Nat.reduceMul, Int.reduceEq, Int.reduceLT, Int.reduceLE, decide_true, decide_false, Bool.not_true, Bool.not_false, g1]; done)) (by simp) (by simp only [go_sem]; rfl) (by first | assumption | (simp only [go_sem, ↓reduceIte, Nat.reduceEqDiff, Nat.reduceAdd, Nat.reduceLeDiff, Nat.reduceBEq, Nat.reduceMul, Int.reduceEq, Int.reduceLT, Int.reduceLE, decide_true, decide_false, Bool.not_true, Bool.not_false, g1]; rfl) | (simp only [go_sem, ↓reduceIte, Nat.reduceEqDiff, Nat.reduceAdd, Nat.reduceLeDiff, Nat.reduceBEq, Nat.reduceMul, Int.reduceEq, Int.reduceLT, Int.reduceLE, decide_true, decide_false, Bool.not_true, Bool.not_false, g1]; done)) (by simp) (by first | assumption | exact rowsOk_nil _ | exact rowsOk_by _ | (rw [byD_cut]; exact rowsOk_by _) | (simp [rowsOk, D.one, Value.oneCell']; done)) (by first | omega | (simp; done) | (simp; omega) | (simp [byD]; omega)) ?_
    | refine ao_appNB rfl rfl rfl rfl (by simp only [go_sem]; rfl) (by first | assumption | (simp only [go_sem, ↓reduceIte, Nat.reduceEqDiff, Nat.reduceAdd, Nat.reduceLeDiff, Nat.reduceBEq, Nat.reduceMul, Int.reduceEq, Int.reduceLT, Int.reduceLE, decide_true, decide_false, Bool.not_true, Bool.not_false, g1]; rfl) | (simp only [go_sem, ↓reduceIte, Nat.reduceEqDiff, Nat.reduceAdd, Nat.reduceLeDiff, Nat.reduceBEq, Nat.reduceMul, Int.reduceEq, Int.reduceLT, Int.reduceLE, decide_true, decide_false, Bool.not_true, Bool.not_false, g1]; done)) (by simp) (by first | assumption | exact rowsOk_nil _ | exact rowsOk_by _ | (rw [byD_cut]; exact rowsOk_by _) | (simp [rowsOk, D.one, Value.oneCell']; done)) (by first | omega | (simp; done) | (simp; omega) | (simp [byD]; omega)) ?_
    | refine ao_appR rfl rfl rfl (by first | assumption | (simp only [go_sem, ↓reduceIte, Nat.reduceEqDiff, Nat.reduceAdd, Nat.reduceLeDiff, Nat.reduceBEq, Nat.reduceMul, Int.reduceEq, Int.reduceLT, Int.reduceLE, decide_true, decide_false, Bool.not_true, Bool.not_false, g1]; rfl) | (simp only [go_sem, ↓reduceIte, Nat.reduceEqDiff, Nat.reduceAdd, Nat.reduceLeDiff, Nat.reduceBEq, Nat.reduceMul, Int.reduceEq, Int.reduceLT, Int.reduceLE, decide_true, decide_false, Bool.not_true, Bool.not_false, g1]; done)) (by simp) (by simp only [go_sem]; rfl) rfl (by first | assumption | exact rowsOk_nil _ | exact rowsOk_by _ | (rw [byD_cut]; exact rowsOk_by _) | (simp [rowsOk, D.one, Value.oneCell']; done)) (by first | omega | (simp; done) | (simp; omega) | (simp [byD]; omega)) ?_
    | refine ao_appNR rfl rfl rfl (by simp only [go_sem]; rfl) rfl (by first | assumption | exact rowsOk_nil _ | exact rowsOk_by _ | (rw [byD_cut]; exact rowsOk_by _) | (simp [rowsOk, D.one, Value.oneCell']; done)) (by first | omega | (simp; done) | (simp; omega) | (simp [byD]; omega)) ?_
    | refine ao0 rfl rfl ?_
    | refine aq2 rfl rfl rfl ent_82 (rBegin_no G hG hb hi) ?_
    | (refine ao2 rfl rfl rfl ent_82 (rBegin_no G hG hb hi) ?_; rintro _ _ ⟨rfl, rfl⟩)
    | (refine ao1' rfl fun K HK => ?_; simp only [go_sem, ↓reduceIte, Nat.reduceEqDiff, Nat.reduceAdd, Nat.reduceLeDiff, Nat.reduceBEq, Nat.reduceMul, Int.reduceEq, Int.reduceLT, Int.reduceLE, decide_true, decide_false, Bool.not_true, Bool.not_false, g1]; refine HK _ _ ?_; clear HK K)
    | refine ao0' rfl ?_
    | refine aw_if1 rfl ?_
    | refine aw_if0 rfl ?_
    | refine aw_skip ?_
    | refine aw_exit ?_
    | refine aw_ret ?_
    | refine thenS_n ?_
    | refine thenS_x ?_
    | refine thenS_r ?_
    | refine inB_n ?_
    | refine inB_r ?_
    | refine inB_x ?_
    | refine inB_y rfl ?_
    | (exfalso; omega)
   have hR : rdUint s = (0, s) := by unfold rdUint; rw [if_pos hb]
   exact ⟨by simp, endS (i := i) (ob := rdrOb s) (r := .v (.int .u64 (0 : Int))) hl0 (low_rdr _ _) rfl (by simp [set_same hi]) (by simp) rfl (by rw [low]; trivial) ⟨by rw [hR], by rw [hR]; rfl⟩⟩
 have hO : s.begun.Ok := ⟨ho.pos, Nat.le_refl _, ho.err⟩
 obtain ⟨h1, hh⟩ : ∃ h1, h.set i (rdrOb s.begun) = h1 := ⟨_, rfl⟩
 have hB : h1[i]? = some (rdrOb s.begun) := hh ▸ g1 _
 have hS : ∀ x, h1.set i x = h.set i x := fun x => by rw [← hh, List.set_set]
 have hT : ∀ x, (h1.set i x).take h.length = h.set i x := fun x => by rw [hS]; exact take_set
 have hL : h1.length = h.length := by rw [← hh, List.length_set]
 have hB2 := hB
 rw [rdrOb_eq] at hB2
 obtain ⟨k1, k2, k3, k4, k5⟩ := own_get hB2
 rcases hN : s.num with _ | ⟨m, c⟩
 · obtain ⟨a, b, hr⟩ := rawN_none (s := s.begun) hN
   repeat' first
    | refine aw_seq' ?_
    | refine aw_region' ?_
    | refine aw_block ?_
    | refine ao_nil ?_
    | (refine ao1 rfl rfl fun K HK => ?_; (try refine aOp_pick rfl ?_); simp only [go_sem, ↓reduceIte, Nat.reduceEqDiff, Nat.reduceAdd, Nat.reduceLeDiff, Nat.reduceBEq, Nat.reduceMul, Int.reduceEq, Int.reduceLT, Int.reduceLE, decide_true, decide_false, Bool.not_true, Bool.not_false, hB2, k1]; (first | refine splitB (fun hq => ?_) (fun hq => ?_) | refine splitN (fun hq => ?_) (fun hq => ?_) | (refine slc_sl (by simp only [go_sem]) rfl rfl (by first | omega | simp) (by first | omega | simp) (by simp only [go_sem]; omega) ?_) | (refine ⟨by omega, by omega, ?_⟩; first | refine row_at (by assumption) ?_ | (intro row hrow; obtain ⟨x, hx, rfl⟩ := row_inv hrow; clear hrow) | (intro row hrow)) | (refine ⟨by omega, ?_⟩; refine row_at (by assumption) ?_) | skip) <;> (refine HK _ _ ?_; clear HK K))
    | (refine aq1 rfl rfl fun K HK => ?_; (try refine aOp_pick rfl ?_); simp only [go_sem, ↓reduceIte, Nat.reduceEqDiff, Nat.reduceAdd, Nat.reduceLeDiff, Nat.reduceBEq, Nat.reduceMul, Int.reduceEq, Int.reduceLT, Int.reduceLE, decide_true, decide_false, Bool.not_true, Bool.not_false, hB2, k1]; (first | refine splitB (fun hq => ?_) (fun hq => ?_) | refine splitN (fun hq => ?_) (fun hq => ?_) | (refine slc_sl (by simp only [go_sem]) rfl rfl (by first | omega | simp) (by first | omega | simp) (by simp only [go_sem]; omega) ?_) | (refine ⟨by omega, by omega, ?_⟩; first | refine row_at (by assumption) ?_ | (intro row hrow; obtain ⟨x, hx, rfl⟩ := row_inv hrow; clear hrow) | (intro row hrow)) | (refine ⟨by omega, ?_⟩; refine row_at (by assumption) ?_) | skip) <;> (refine HK _ _ rfl ?_; clear HK K))
    | refine aq0 rfl rfl ?_
    | refine aq_nil ?_
    | (refine aw_draw mixd (by kernel_rfl) ?_)
    | refine ao_appB rfl rfl rfl rfl (by first | assumption | (simp only [go_sem, ↓reduceIte, Nat.reduceEqDiff, Nat.reduceAdd, Nat.reduceLeDiff, Nat.reduceBEq, Nat.reduceMul, Int.reduceEq, Int.reduceLT, Int.reduceLE, decide_true, decide_false, Bool.not_true, Bool.not_false, hB2, k1]; rfl) | (simp only [go_sem, ↓reduceIte, Nat.reduceEqDiff, Nat.reduceAdd, Nat.reduceLeDiff, Nat.reduceBEq, Nat.reduceMul, Int.reduceEq, Int.reduceLT, Int.reduceLE, decide_true, decide_false, Bool.not_true, Bool.not_false, hB2, k1]; done)) (by simp) (by simp only [go_sem]; rfl) (by first | assumption | (simp only [go_sem, ↓reduceIte, Nat.reduceEqDiff, Nat.reduceAdd, Nat.reduceLeDiff, Nat.reduceBEq, Nat.reduceMul, Int.reduceEq, Int.reduceLT, Int.reduceLE, decide_true, decide_false, Bool.not_true, Bool.not_false, hB2, k1]; rfl) | (simp only [go_sem, ↓reduceIte, Nat.reduceEqDiff, Nat.reduceAdd, Nat.reduceLeDiff, Nat.reduceBEq, Nat.reduceMul, Int.reduceEq, Int.reduceLT, Int.reduceLE, decide_true, decide_false, Bool.not_true, Bool.not_false, hB2, k1]; done)) (by simp) (by first | assumption | exact rowsOk_nil _ | exact rowsOk_by _ | (rw [byD_cut]; exact rowsOk_by _) | (simp [rowsOk, D.one, Value.oneCell']; done)) (by first | omega | (simp; done) | (simp; omega) | (simp [byD]; omega)) ?_
    | refine ao_appNB rfl rfl rfl rfl (by simp only [go_sem]; rfl) (by first | assumption | (simp only [go_sem, ↓reduceIte, Nat.reduceEqDiff, Nat.reduceAdd, Nat.reduceLeDiff, Nat.reduceBEq, Nat.reduceMul, Int.reduceEq, Int.reduceLT, Int.reduceLE, decide_true, decide_false, Bool.not_true, Bool.not_false, hB2, k1]; rfl) | (simp only [go_sem, ↓reduceIte, Nat.reduceEqDiff, Nat.reduceAdd, Nat.reduceLeDiff, Nat.reduceBEq, Nat.reduceMul, Int.reduceEq, Int.reduceLT, Int.reduceLE, decide_true, decide_false, Bool.not_true, Bool.not_false, hB2, k1]; done)) (by simp) (by first | assumption | exact rowsOk_nil _ | exact rowsOk_by _ | (rw [byD_cut]; exact rowsOk_by _) | (simp [rowsOk, D.one, Value.oneCell']; done)) (by first | omega | (simp; done) | (simp; omega) | (simp [byD]; omega)) ?_
    | refine ao_appR rfl rfl rfl (by first | assumption | (simp only [go_sem, ↓reduceIte, Nat.reduceEqDiff, Nat.reduceAdd, Nat.reduceLeDiff, Nat.reduceBEq, Nat.reduceMul, Int.reduceEq, Int.reduceLT, Int.reduceLE, decide_true, decide_false, Bool.not_true, Bool.not_false, hB2, k1]; rfl) | (simp only [go_sem, ↓reduceIte, Nat.reduceEqDiff, Nat.reduceAdd, Nat.reduceLeDiff, Nat.reduceBEq, Nat.reduceMul, Int.reduceEq, Int.reduceLT, Int.reduceLE, decide_true, decide_false, Bool.not_true, Bool.not_false, hB2, k1]; done)) (by simp) (by simp only [go_sem]; rfl) rfl (by first | assumption | exact rowsOk_nil _ | exact rowsOk_by _ | (rw [byD_cut]; exact rowsOk_by _) | (simp [rowsOk, D.one, Value.oneCell']; done)) (by first | omega | (simp; done) | (simp; omega) | (simp [byD]; omega)) ?_
    | refine ao_appNR rfl rfl rfl (by simp only [go_sem]; rfl) rfl (by first | assumption | exact rowsOk_nil _ | exact rowsOk_by _ | (rw [byD_cut]; exact rowsOk_by _) | (simp [rowsOk, D.one, Value.oneCell']; done)) (by first | omega | (simp; done) | (simp; omega) | (simp [byD]; omega)) ?_
    | refine ao0 rfl rfl ?_
    | refine aq2 rfl rfl rfl ent_82 (rBegin_h G hG hh hb hi) ?_
    | (refine ao2 rfl rfl rfl ent_82 (rBegin_h G hG hh hb hi) ?_; rintro _ _ ⟨rfl, rfl⟩)
    | refine aq2 rfl rfl rfl ent_83 (rNum_e G hG hr hB hO hl) ?_
    | (refine ao2 rfl rfl rfl ent_83 (rNum_e G hG hr hB hO hl) ?_; rintro _ _ ⟨rfl, rfl⟩)
    | (refine ao1' rfl fun K HK => ?_; simp only [go_sem, ↓reduceIte, Nat.reduceEqDiff, Nat.reduceAdd, Nat.reduceLeDiff, Nat.reduceBEq, Nat.reduceMul, Int.reduceEq, Int.reduceLT, Int.reduceLE, decide_true, decide_false, Bool.not_true, Bool.not_false, hB2, k1]; refine HK _ _ ?_; clear HK K)
    | refine ao0' rfl ?_
    | refine aw_if1 rfl ?_
    | refine aw_if0 rfl ?_
    | refine aw_skip ?_
    | refine aw_exit ?_
    | refine aw_ret ?_
    | refine thenS_n ?_
    | refine thenS_x ?_
    | refine thenS_r ?_
    | refine inB_n ?_
    | refine inB_r ?_
    | refine inB_x ?_
    | refine inB_y rfl ?_
    | (exfalso; omega)
   have hR : rdUint s = (0, s.bad) := by unfold rdUint; rw [if_neg (fun h => h hb), hN]
   exact ⟨by simp, endS (i := i) (ob := rdrOb s.bad) (r := .v (.int .u64 (0 : Int))) hl0 (low_rdr _ _) rfl (by simp [rdrOb, RS.bad, RS.begun, putL_succ, putL_zero, hT]) (by simp [hL]) rfl (by rw [low]; trivial) ⟨by rw [hR], by rw [hR]; rfl⟩⟩
 · have hr := rawN_some (s := s.begun) hN
   repeat' first
    | refine aw_seq' ?_
    | refine aw_region' ?_
    | refine aw_block ?_
    | refine ao_nil ?_
    | (refine ao1 rfl rfl fun K HK => ?_; (try refine aOp_pick rfl ?_); simp only [go_sem, ↓reduceIte, Nat.reduceEqDiff, Nat.reduceAdd, Nat.reduceLeDiff, Nat.reduceBEq, Nat.reduceMul, Int.reduceEq, Int.reduceLT, Int.reduceLE, decide_true, decide_false, Bool.not_true, Bool.not_false, hB2, k1]; (first | refine splitB (fun hq => ?_) (fun hq => ?_) | refine splitN (fun hq => ?_) (fun hq => ?_) | (refine slc_sl (by simp only [go_sem]) rfl rfl (by first | omega | simp) (by first | omega | simp) (by simp only [go_sem]; omega) ?_) | (refine ⟨by omega, by omega, ?_⟩; first | refine row_at (by assumption) ?_ | (intro row hrow; obtain ⟨x, hx, rfl⟩ := row_inv hrow; clear hrow) | (intro row hrow)) | (refine ⟨by omega, ?_⟩; refine row_at (by assumption) ?_) | skip) <;> (refine HK _ _ ?_; clear HK K))
    | (refine aq1 rfl rfl fun K HK => ?_; (try refine aOp_pick rfl ?_); simp only [go_sem, ↓reduceIte, Nat.reduceEqDiff, Nat.reduceAdd, Nat.reduceLeDiff, Nat.reduceBEq, Nat.reduceMul, Int.reduceEq, Int.reduceLT, Int.reduceLE, decide_true, decide_false, Bool.not_true, Bool.not_false, hB2, k1]; (first | refine splitB (fun hq => ?_) (fun hq => ?_) | refine splitN (fun hq => ?_) (fun hq => ?_) | (refine slc_sl (by simp only [go_sem]) rfl rfl (by first | omega | simp) (by first | omega | simp) (by simp only [go_sem]; omega) ?_) | (refine ⟨by omega, by omega, ?_⟩; first | refine row_at (by assumption) ?_ | (intro row hrow; obtain ⟨x, hx, rfl⟩ := row_inv hrow; clear hrow) | (intro row hrow)) | (refine ⟨by omega, ?_⟩; refine row_at (by assumption) ?_) | skip) <;> (refine HK _ _ rfl ?_; clear HK K))
    | refine aq0 rfl rfl ?_
    | refine aq_nil ?_
    | (refine aw_draw mixd (by kernel_rfl) ?_)
    | refine ao_appB rfl rfl rfl rfl (by first | assumption | (simp only [go_sem, ↓reduceIte, Nat.reduceEqDiff, Nat.reduceAdd, Nat.reduceLeDiff, Nat.reduceBEq, Nat.reduceMul, Int.reduceEq, Int.reduceLT, Int.reduceLE, decide_true, decide_false, Bool.not_true, Bool.not_false, hB2, k1]; rfl) | (simp only [go_sem, ↓reduceIte, Nat.reduceEqDiff, Nat.reduceAdd, Nat.reduceLeDiff, Nat.reduceBEq, Nat.reduceMul, Int.reduceEq, Int.reduceLT, Int.reduceLE, decide_true, decide_false, Bool.not_true, Bool.not_false, hB2, k1]; done)) (by simp) (by simp only [go_sem]; rfl) (by first | assumption | (simp only [go_sem, ↓reduceIte, Nat.reduceEqDiff, Nat.reduceAdd, Nat.reduceLeDiff, Nat.reduceBEq, Nat.reduceMul, Int.reduceEq, Int.reduceLT, Int.reduceLE, decide_true, decide_false, Bool.not_true, Bool.not_false, hB2, k1]; rfl) | (simp only [go_sem, ↓reduceIte, Nat.reduceEqDiff, Nat.reduceAdd, Nat.reduceLeDiff, Nat.reduceBEq, Nat.reduceMul, Int.reduceEq, Int.reduceLT, Int.reduceLE, decide_true, decide_false, Bool.not_true, Bool.not_false, hB2, k1]; done)) (by simp) (by first | assumption | exact rowsOk_nil _ | exact rowsOk_by _ | (rw [byD_cut]; exact rowsOk_by _) | (simp [rowsOk, D.one, Value.oneCell']; done)) (by first | omega | (simp; done) | (simp; omega) | (simp [byD]; omega)) ?_
    | refine ao_appNB rfl rfl rfl rfl (by simp only [go_sem]; rfl) (by first | assumption | (simp only [go_sem, ↓reduceIte, Nat.reduceEqDiff, Nat.reduceAdd, Nat.reduceLeDiff, Nat.reduceBEq, Nat.reduceMul, Int.reduceEq, Int.reduceLT, Int.reduceLE, decide_true, decide_false, Bool.not_true, Bool.not_false, hB2, k1]; rfl) | (simp only [go_sem, ↓reduceIte, Nat.reduceEqDiff, Nat.reduceAdd, Nat.reduceLeDiff, Nat.reduceBEq, Nat.reduceMul, Int.reduceEq, Int.reduceLT, Int.reduceLE, decide_true, decide_false, Bool.not_true, Bool.not_false, hB2, k1]; done)) (by simp) (by first | assumption | exact rowsOk_nil _ | exact rowsOk_by _ | (rw [byD_cut]; exact rowsOk_by _) | (simp [rowsOk, D.one, Value.oneCell']; done)) (by first | omega | (simp; done) | (simp; omega) | (simp [byD]; omega)) ?_
    | refine ao_appR rfl rfl rfl (by first | assumption | (simp only [go_sem, ↓reduceIte, Nat.reduceEqDiff, Nat.reduceAdd, Nat.reduceLeDiff, Nat.reduceBEq, Nat.reduceMul, Int.reduceEq, Int.reduceLT, Int.reduceLE, decide_true, decide_false, Bool.not_true, Bool.not_false, hB2, k1]; rfl) | (simp only [go_sem, ↓reduceIte, Nat.reduceEqDiff, Nat.reduceAdd, Nat.reduceLeDiff, Nat.reduceBEq, Nat.reduceMul, Int.reduceEq, Int.reduceLT, Int.reduceLE, decide_true, decide_false, Bool.not_true, Bool.not_false, hB2, k1]; done)) (by simp) (by simp only [go_sem]; rfl) rfl (by first | assumption | exact rowsOk_nil _ | exact rowsOk_by _ | (rw [byD_cut]; exact rowsOk_by _) | (simp [rowsOk, D.one, Value.oneCell']; done)) (by first | omega | (simp; done) | (simp; omega) | (simp [byD]; omega)) ?_
    | refine ao_appNR rfl rfl rfl (by simp only [go_sem]; rfl) rfl (by first | assumption | exact rowsOk_nil _ | exact rowsOk_by _ | (rw [byD_cut]; exact rowsOk_by _) | (simp [rowsOk, D.one, Value.oneCell']; done)) (by first | omega | (simp; done) | (simp; omega) | (simp [byD]; omega)) ?_
    | refine ao0 rfl rfl ?_
    | refine aq2 rfl rfl rfl ent_82 (rBegin_h G hG hh hb hi) ?_
    | (refine ao2 rfl rfl rfl ent_82 (rBegin_h G hG hh hb hi) ?_; rintro _ _ ⟨rfl, rfl⟩)
    | refine aq2 rfl rfl rfl ent_83 (rNum_e G hG hr hB hO hl) ?_
    | (refine ao2 rfl rfl rfl ent_83 (rNum_e G hG hr hB hO hl) ?_; rintro _ _ ⟨rfl, rfl⟩)
    | (refine ao1' rfl fun K HK => ?_; simp only [go_sem, ↓reduceIte, Nat.reduceEqDiff, Nat.reduceAdd, Nat.reduceLeDiff, Nat.reduceBEq, Nat.reduceMul, Int.reduceEq, Int.reduceLT, Int.reduceLE, decide_true, decide_false, Bool.not_true, Bool.not_false, hB2, k1]; refine HK _ _ ?_; clear HK K)
    | refine ao0' rfl ?_
    | refine aw_if1 rfl ?_
    | refine aw_if0 rfl ?_
    | refine aw_skip ?_
    | refine aw_exit ?_
    | refine aw_ret ?_
    | refine thenS_n ?_
    | refine thenS_x ?_
    | refine thenS_r ?_
    | refine inB_n ?_
    | refine inB_r ?_
    | refine inB_x ?_
    | refine inB_y rfl ?_
    | (exfalso; omega)
   have hR : rdUint s = (m, s.go c) := by unfold rdUint; rw [if_neg (fun h => h hb), hN]
   exact ⟨by simp, endS (i := i) (ob := rdrOb (s.go c)) (r := .v (.int .u64 (m : Int))) hl0 (low_rdr _ _) rfl (by simp [rdrOb, RS.go, RS.begun, putL_succ, putL_zero, hT]) (by simp [hL]) rfl (by rw [low]; trivial) ⟨by rw [hR], by rw [hR]⟩⟩
theorem rLeft_d (i : Nat) (s : RS) (h : List Ob) (hi : h[i]? = some (rdrOb s)) (ho : s.Ok) (hl : s.data.length ≤ 1000000000) :
 Does Tryz.prog G 84 h [.ptr i 0] (fun h' r => h' = h ∧ r = .v (.int .i64 ((s.data.length - s.pos : Nat) : Int))) := by
 rw [rdrOb_eq] at hi
 refine does_of_aw Tryz.func84 rfl (Nat.le_of_ble_eq_true rfl) hG fun hl0 _ => ?_
 simp only [Tryz.ntmps84]
 have hp := ho.pos
 have w1 : IntKind.i64.wrap ((s.data.length : Int) - (s.pos : Int)) = ((s.data.length - s.pos : Nat) : Int) := by rw [← Int.ofNat_sub hp]; exact IntWalk.i64_in _ (by omega)
 repeat' first
  | refine aw_seq' ?_
  | refine aw_region' ?_
  | refine aw_block ?_
  | refine ao_nil ?_
  | (refine ao1 rfl rfl fun K HK => ?_; (try refine aOp_pick rfl ?_); simp only [go_sem, ↓reduceIte, Nat.reduceEqDiff, Nat.reduceAdd, Nat.reduceLeDiff, Nat.reduceBEq, Nat.reduceMul, Int.reduceEq, Int.reduceLT, Int.reduceLE, decide_true, decide_false, Bool.not_true, Bool.not_false, hi, w1]; (first | refine splitB (fun hq => ?_) (fun hq => ?_) | refine splitN (fun hq => ?_) (fun hq => ?_) | (refine slc_sl (by simp only [go_sem]) rfl rfl (by first | omega | simp) (by first | omega | simp) (by simp only [go_sem]; omega) ?_) | (refine ⟨by omega, by omega, ?_⟩; first | refine row_at (by assumption) ?_ | (intro row hrow; obtain ⟨x, hx, rfl⟩ := row_inv hrow; clear hrow) | (intro row hrow)) | (refine ⟨by omega, ?_⟩; refine row_at (by assumption) ?_) | skip) <;> (refine HK _ _ ?_; clear HK K))
  | (refine aq1 rfl rfl fun K HK => ?_; (try refine aOp_pick rfl ?_); simp only [go_sem, ↓reduceIte, Nat.reduceEqDiff, Nat.reduceAdd, Nat.reduceLeDiff, Nat.reduceBEq, Nat.reduceMul, Int.reduceEq, Int.reduceLT, Int.reduceLE, decide_true, decide_false, Bool.not_true, Bool.not_false, hi, w1]; (first | refine splitB (fun hq => ?_) (fun hq => ?_) | refine splitN (fun hq => ?_) (fun hq => ?_) | (refine slc_sl (by simp only [go_sem]) rfl rfl (by first | omega | simp) (by first | omega | simp) (by simp only [go_sem]; omega) ?_) | (refine ⟨by omega, by omega, ?_⟩; first | refine row_at (by assumption) ?_ | (intro row hrow; obtain ⟨x, hx, rfl⟩ := row_inv hrow; clear hrow) | (intro row hrow)) | (refine ⟨by omega, ?_⟩; refine row_at (by assumption) ?_) | skip) <;> (refine HK _ _ rfl ?_; clear HK K))
  | refine aq0 rfl rfl ?_
  | refine aq_nil ?_
  | (refine aw_draw mixd (by kernel_rfl) ?_)
  | refine ao_appB rfl rfl rfl rfl (by first | assumption | (simp only [go_sem, ↓reduceIte, Nat.reduceEqDiff, Nat.reduceAdd, Nat.reduceLeDiff, Nat.reduceBEq, Nat.reduceMul, Int.reduceEq, Int.reduceLT, Int.reduceLE, decide_true, decide_false, Bool.not_true, Bool.not_false, hi, w1]; rfl) | (simp only [go_sem, ↓reduceIte, Nat.reduceEqDiff, Nat.reduceAdd, Nat.reduceLeDiff, Nat.reduceBEq, Nat.reduceMul, Int.reduceEq, Int.reduceLT, Int.reduceLE, decide_true, decide_false, Bool.not_true, Bool.not_false, hi, w1]; done)) (by simp) (by simp only [go_sem]; rfl) (by first | assumption | (simp only [go_sem, ↓reduceIte, Nat.reduceEqDiff, Nat.reduceAdd, Nat.reduceLeDiff, Nat.reduceBEq, Nat.reduceMul, Int.reduceEq, Int.reduceLT, Int.reduceLE, decide_true, decide_false, Bool.not_true, Bool.not_false, hi, w1]; rfl) | (simp only [go_sem, ↓reduceIte, Nat.reduceEqDiff, Nat.reduceAdd, Nat.reduceLeDiff, Nat.reduceBEq, Nat.reduceMul, Int.reduceEq, Int.reduceLT, Int.reduceLE, decide_true, decide_false, Bool.not_true, Bool.not_false, hi, w1]; done)) (by simp) (by first | assumption | exact rowsOk_nil _ | exact rowsOk_by _ | (rw [byD_cut]; exact rowsOk_by _) | (simp [rowsOk, D.one, Value.oneCell']; done)) (by first | omega | (simp; done) | (simp; omega) | (simp [byD]; omega)) ?_
  | refine ao_appNB rfl rfl rfl rfl (by simp only [go_sem]; rfl) (by first | assumption | (simp only [go_sem, ↓reduceIte, Nat.reduceEqDiff, Nat.reduceAdd, Nat.reduceLeDiff, Nat.reduceBEq, Nat.reduceMul, Int.reduceEq, Int.reduceLT, Int.reduceLE, decide_true, decide_false, Bool.not_true, Bool.not_false, hi, w1]; rfl) | (simp only [go_sem, ↓reduceIte, Nat.reduceEqDiff, Nat.reduceAdd, Nat.reduceLeDiff, Nat.reduceBEq, Nat.reduceMul, Int.reduceEq, Int.reduceLT, Int.reduceLE, decide_true, decide_false, Bool.not_true, Bool.not_false, hi, w1]; done)) (by simp) (by first | assumption | exact rowsOk_nil _ | exact rowsOk_by _ | (rw [byD_cut]; exact rowsOk_by _) | (simp [rowsOk, D.one, Value.oneCell']; done)) (by first | omega | (simp; done) | (simp; omega) | (simp [byD]; omega)) ?_
  | refine ao_appR rfl rfl rfl (by first | assumption | (simp only [go_sem, ↓reduceIte, Nat.reduceEqDiff, Nat.reduceAdd, Nat.reduceLeDiff, Nat.reduceBEq, Nat.reduceMul, Int.reduceEq, Int.reduceLT, Int.reduceLE, decide_true, decide_false, Bool.not_true, Bool.not_false, hi, w1]; rfl) | (simp only [go_sem, ↓reduceIte, Nat.reduceEqDiff, Nat.reduceAdd, Nat.reduceLeDiff, Nat.reduceBEq, Nat.reduceMul, Int.reduceEq, Int.reduceLT, Int.reduceLE, decide_true, decide_false, Bool.not_true, Bool.not_false, hi, w1]; done)) (by simp) (by simp only [go_sem]; rfl) rfl (by first | assumption | exact rowsOk_nil _ | exact rowsOk_by _ | (rw [byD_cut]; exact rowsOk_by _) | (simp [rowsOk, D.one, Value.oneCell']; done)) (by first | omega | (simp; done) | (simp; omega) | (simp [byD]; omega)) ?_
  | refine ao_appNR rfl rfl rfl (by simp only [go_sem]; rfl) rfl (by first | assumption | exact rowsOk_nil _ | exact rowsOk_by _ | (rw [byD_cut]; exact rowsOk_by _) | (simp [rowsOk, D.one, Value.oneCell']; done)) (by first | omega | (simp; done) | (simp; omega) | (simp [byD]; omega)) ?_
  | refine ao0 rfl rfl ?_
  | (refine ao1' rfl fun K HK => ?_; simp only [go_sem, ↓reduceIte, Nat.reduceEqDiff, Nat.reduceAdd, Nat.reduceLeDiff, Nat.reduceBEq, Nat.reduceMul, Int.reduceEq, Int.reduceLT, Int.reduceLE, decide_true, decide_false, Bool.not_true, Bool.not_false, hi, w1]; refine HK _ _ ?_; clear HK K)
  | refine ao0' rfl ?_
  | refine aw_if1 rfl ?_
  | refine aw_if0 rfl ?_
  | refine aw_skip ?_
  | refine aw_exit ?_
  | refine aw_ret ?_
  | refine thenS_n ?_
  | refine thenS_x ?_
  | refine thenS_r ?_
  | refine inB_n ?_
  | refine inB_r ?_
  | refine inB_x ?_
  | refine inB_y rfl ?_
  | (exfalso; omega)
 exact ⟨.inr rfl, endD (r := .v (.int .i64 ((s.data.length - s.pos : Nat) : Int))) hl0 rfl (by simp) (by simp) rfl (by rw [low]; trivial) ⟨rfl, rfl⟩⟩
end
end Go.Proofs.YtgkjcmglcnhpaaaGreatDoor
