/-
  What the statements of the chapter share, part 14: AL2, CM2, RR1, RR2, RR3, RR4, RR5, CM1, RB1.
-/
import Derived.Test.YtgkjcmglcnhpaaaGreatDoorR13
set_option linter.unusedVariables false
set_option linter.unusedSimpArgs false
set_option maxRecDepth 100000
set_option maxHeartbeats 8000000
namespace Go.Proofs.YtgkjcmglcnhpaaaGreatDoor
open _root_.Bool renaming false_eq_true → Z8, not_false → Zc, not_true → Zd
open _root_.Int renaming reduceEq → Z5, reduceLT → Z6, reduceLE → Z7, fdiv_eq_ediv_of_nonneg → Zf, toNat_natCast → Zg
open _root_.List renaming getElem?_eq_some_iff → Zb, getElem?_set_self → Ze, append_assoc → Zh, length_set → Zi, drop → Zk
open _root_.Nat renaming reduceEqDiff → Z0, reduceLeDiff → Z1, reduceAdd → Z2, reduceBEq → Z3, reduceMul → Z4, le_of_ble_eq_true → Z9, le_refl → Zj
open _root_.Go.Proofs.Tryz renaming prog → Za
open Go.RowKit
section
def stL (v : W8) (r : D) (n : Nat) : List D := v.ls.map zD ++ [r, .v (.int .i64 n)]
section
variable {P : Program} {G : Nat → D} {e : Nat → D} {h : List Ob} {K : List Ob → D → Prop} {u : TypeId} {x y : Operand} {i n m : Nat} {v v' : W8} {r r' : D}
theorem getD_wS (ha : aggT P u = some true) (hs : szT P u = some 8) : getD P u (stL v r n) 0 = some (.agg (v.ls.map zD)) := by
 rw [Yb4 ha hs (by simp [stL, W8.ls])]; rfl
theorem getD_rS (ha : aggT P u = some false) : getD P u (stL v r n) 8 = some r := by rw [getD_one ha]; rfl
theorem getD_nS (ha : aggT P u = some false) : getD P u (stL v r n) 9 = some (.v (.int .i64 n)) := by rw [getD_one ha]; rfl
theorem aOp_stA {o : Nat} {ds es ds' : List D} (hx : ev G e x = .ptr i o) (hi : h[i]? = some (.cells ds)) (hy : (ev G e y).cells = some es) (hc : (es.all D.one && szT P u == some es.length) = true) (hl : o + es.length ≤ ds.length) (hp : putL ds o es = ds') (q : K (h.set i (.cells ds')) (.v undef)) : aOp P G e h K (.store u x y) := by
 rw [aOp_store, hx]
 have e1 : Vk P h u (.ptr i o) (ev G e y) = some (h.set i (.cells ds')) := by
  simp only [Vk, hy, hi, hc, if_true]
  rw [if_pos hl, hp]
 rw [e1]; exact q
theorem aOp_str8 (hx : ev G e x = .ptr i 8) (hi : h[i]? = some (.cells (stL v r n))) (hy : (ev G e y).cells = some [r']) (hc : r'.one = true) (hs : szT P u = some 1) (q : K (h.set i (.cells (stL v r' n))) (.v undef)) : aOp P G e h K (.store u x y) :=
 aOp_stA (es := [r']) hx hi hy (by rw [hs]; simp [hc]) (by simp [stL, W8.ls]) rfl q
theorem aOp_stn8 (hx : ev G e x = .ptr i 9) (hi : h[i]? = some (.cells (stL v r n))) (hy : ev G e y = .v (.int .i64 m)) (hs : szT P u = some 1) (q : K (h.set i (.cells (stL v r m))) (.v undef)) : aOp P G e h K (.store u x y) :=
 aOp_stA (es := [.v (.int .i64 m)]) hx hi (by rw [hy]; rfl) (by rw [hs]; rfl) (by simp [stL, W8.ls]) rfl q
end
section
variable {P : Program} {G : Nat → D} {n : Nat} {e : Nat → D} {h : List Ob} {ops : Array Oper} {rest : List Oper} {Q : S → Prop} {t : Nat} {ty : TypeId} {pos : String} {aft : Array Edge} {gd : Option (Nat × Bool)}
theorem ao_nFc {op : Op} {h' : List Ob} {d : D} (hw : Yc ops gd e = some true) (ht : decide (t < n) = true) (hN : nF P G e h op = some (h', d)) (q : ao P G ops rest Q ⟨n, upd e t d, h'⟩) : ao P G ops (⟨some t, op, ty, pos, aft, gd⟩ :: rest) Q ⟨n, e, h⟩ := by
 refine Zx3 hw (Zg3 hN) ?_
 unfold putE
 simp only [if_pos (of_decide_eq_true ht)]
 exact q
theorem ao_make0 {u el k by' : Nat} {x y : Operand} {m : Nat} {zs : List D} (hw : Yc ops gd e = some true) (ht : decide (t < n) = true) (hx : ev G e x = .v (.int .i64 0)) (hy : ev G e y = .v (.int .i64 m)) (ha : apT P u = some (el, k, by')) (hz : Xs P el = some zs) (hk : zs.length = k) (hb : (by' : Int) * m ≤ 281474976710656) (hm : m ≤ 1000000)
 (q : ao P G ops rest Q ⟨n, upd e t (.buf h.length 0), h ++ [.buf el k []]⟩) : ao P G ops (⟨some t, .makeSlice u x y, ty, pos, aft, gd⟩ :: rest) Q ⟨n, e, h⟩ := by
 have hN : nF P G e h (.makeSlice u x y) = some (h ++ [.buf el k []], .buf h.length 0) := by
  show makF P h u (ev G e x) (ev G e y) = _
  rw [hx, hy]
  have c2 : decide ((0 : Int) ≤ (m : Int)) = true := decide_eq_true (by omega)
  have c3 : decide ((by' : Int) * (m : Int) ≤ 281474976710656) = true := decide_eq_true hb
  have c4 : decide ((m : Int) ≤ 281474976710656) = true := decide_eq_true (by omega)
  have c5 : decide (zs.length = k) = true := decide_eq_true hk
  simp only [makF, ha, hz, c2, c3, c4, c5]
  simp
 exact ao_nFc hw ht hN q
end
theorem Zt7 {P : Program} {G : Nat → D} {e : Nat → D} {h : List Ob} {K : List Ob → D → Prop} {u : TypeId} {x : Operand} {c : List UInt8} (hx : ev G e x = .sl 1 (byD c)) (he : (elT P u).bind (szT P) = some 1) (hl : 64 ≤ c.length) (q : K h (.sl 1 (byD (c.drop 64)))) : aOp P G e h K (.slice u x (some (.const (.int .i64 64))) none none) := by
 have e1 : aOp P G e h K (.slice u x (some (.const (.int .i64 64))) none none) = slcA P u (ev G e x) (some (.v (.int .i64 64))) none (K h) := rfl
 rw [e1, hx]
 refine Zc4 he (l := 64) (r := (byD c).length) rfl rfl (by omega) (by rw [byD_len]; omega) (by omega) ?_
 have e2 : ((byD c).take (((byD c).length : Int)).toNat).drop (64 : Int).toNat = byD (c.drop 64) := by
  rw [Za9, Zg, byD_len, List.take_of_length_le (Zj _)]; rfl
 rw [e2]; exact q
theorem Zt6 {P : Program} {G : Nat → D} {e : Nat → D} {h : List Ob} {K : List Ob → D → Prop} {u : TypeId} {x : Operand} {c : List UInt8} (hx : ev G e x = .sl 1 (byD c)) (he : (elT P u).bind (szT P) = some 1) (hl : 64 ≤ c.length) (q : K h (.sl 1 (byD (c.take 64)))) : aOp P G e h K (.slice u x none (some (.const (.int .i64 64))) none) := by
 have e1 : aOp P G e h K (.slice u x none (some (.const (.int .i64 64))) none) = slcA P u (ev G e x) none (some (.v (.int .i64 64))) (K h) := rfl
 rw [e1, hx]
 refine Zc4 he (l := 0) (r := 64) rfl rfl (by omega) (by omega) (by rw [byD_len]; omega) ?_
 have e2 : ((byD c).take (64 : Int).toNat).drop (0 : Int).toNat = byD (c.take 64) := by
  rw [Za9]; rfl
 rw [e2]; exact q
theorem aOp_bld0 {P : Program} {G : Nat → D} {e : Nat → D} {h : List Ob} {K : List Ob → D → Prop} {u : TypeId} {x : Operand} {v : W8} {z : List D} (hx : ev G e x = .agg (v.ls.map zD)) (h1 : Uq P u = true) (h2 : Xs P u = some z) (h3 : plT P u 0 = some (0, 8)) (hz : z.length = 10) (h8 : z[8]? = some (.v (.slice none 0 0))) (h9 : z[9]? = some (.v (.int .i64 0))) (q : K h (.agg (stL v (.v (.slice none 0 0)) 0))) : aOp P G e h K (.build u #[(0, x)]) := by
 have e1 : aOp P G e h K (.build u #[(0, x)]) = on (Zb0 P u [(0, ev G e x)]) fun ds => K h (.agg ds) := rfl
 rw [e1, hx]
 have e2 : Zb0 P u [(0, .agg (v.ls.map zD))] = some (stL v (.v (.slice none 0 0)) 0) := by
  rw [Zb0, if_pos h1, h2, Option.bind_some]
  simp only [Zu5, h3, D.cells]
  obtain ⟨a0, a1, a2, a3, a4, a5, a6, a7, a8, a9, rfl⟩ : ∃ a0 a1 a2 a3 a4 a5 a6 a7 a8 a9, z = [a0, a1, a2, a3, a4, a5, a6, a7, a8, a9] := by
   match z, hz with
   | [a0, a1, a2, a3, a4, a5, a6, a7, a8, a9], _ => exact ⟨a0, a1, a2, a3, a4, a5, a6, a7, a8, a9, rfl⟩
  cases h8; cases h9
  rfl
 rw [e2]; exact q
theorem low_stL {m : Nat} {v : W8} {r : D} {n : Nat} (hr : low m r) : lowL m (stL v r n) := by
 rw [Ue]
 intro d hd
 unfold stL at hd
 rcases List.mem_append.1 hd with h | h
 · exact (Ue m _).1 (low_zs m v.ls) d h
 · simp at h
   rcases h with rfl | rfl
   · exact hr
   · rw [low]; trivial
theorem endX {P : Program} {res : Array ResultVar} {m0 : Nat} {K : List Ob → D → Prop} {s : S} (ds : List D) (M T : List Ob) (r : D) (h1 : resD P s res.toList = some ds) (h2 : s.h = M ++ T) (h0 : m0 ≤ M.length) (lM : lowH M.length M) (lr : low M.length r) (hr : cvD (fun i => decide (M.length ≤ i)) (M ++ T) (outD ds) = r) (hK : K M r) : EndD P res m0 K s := by
 have e : s.h.take M.length = M := by rw [h2]; simp
 refine ⟨ds, M.length, h1, h0, by rw [h2]; simp, by rw [e]; exact lM, by rw [h2, hr]; exact lr, by rw [e, h2, hr]; exact hK⟩
def sM (A B x : Ob) (T : List Ob) : List Ob := A :: B :: x :: T
section
variable {A B x y : Ob} {T l : List Ob}
theorem sM_0 : (sM A B x T)[0]? = some A := rfl
theorem sM_1 : (sM A B x T)[1]? = some B := rfl
theorem sM_2 : (sM A B x T)[2]? = some x := rfl
theorem Xk : (sM A B x T ++ l)[0]? = some A := rfl
theorem Xj : (sM A B x T ++ l)[1]? = some B := rfl
theorem Xi : (sM A B x T ++ l)[2]? = some x := rfl
theorem Xg : (sM A B x T).set 2 y = sM A B y T := rfl
theorem Xh : (sM A B x T ++ l).set 2 y = sM A B y (T ++ l) := rfl
theorem Yq : (sM A B x T).length = T.length + 3 := rfl
theorem Xb : (sM A B x T ++ [y])[T.length + 3]? = some y := by simp [sM]
end
theorem sM_l {A B x y : Ob} {T : List Ob} : (sM A B x (T ++ [y]))[T.length + 3]? = some y := by simp [sM]
theorem Xn {A B x y z : Ob} {T : List Ob} : (sM A B x (T ++ [y])).set (T.length + 3) z = sM A B x (T ++ [z]) := by simp [sM]
theorem sM_m {A B x y : Ob} {T U : List Ob} : (sM A B x (T ++ y :: U))[T.length + 3]? = some y := by simp [sM]
theorem sM_ma {A B x y : Ob} {T U l : List Ob} : (sM A B x (T ++ y :: U) ++ l)[T.length + 3]? = some y := by simp [sM]
theorem sM_ms {A B x y z : Ob} {T U : List Ob} : (sM A B x (T ++ y :: U)).set (T.length + 3) z = sM A B x (T ++ z :: U) := by simp [sM]
theorem sM_mas {A B x y z : Ob} {T U l : List Ob} : (sM A B x (T ++ y :: U) ++ l).set (T.length + 3) z = sM A B x (T ++ z :: (U ++ l)) := by simp [sM]
theorem sM_mll {A B x y z : Ob} {T U : List Ob} : (sM A B x (T ++ y :: U) ++ [z])[T.length + (U.length + 1) + 3]? = some z := by simp [sM]
theorem aOp_ind8 {P : Program} {G : Nat → D} {e : Nat → D} {h : List Ob} {K : List Ob → D → Prop} {u : TypeId} {x y : Operand} {W : List Int} {k l el : Nat} {κ : IntKind} {z : Int} (hx : ev G e x = .agg (W.map zD)) (hy : ev G e y = .v (.int κ (k : Int))) (ha : arrT P u = some (l, el)) (hz : szT P el = some 1) (hg : aggT P el = some false) (hk : k < l) (hW : W[k]? = some z) (q : K h (.v (.int .u32 z))) : aOp P G e h K (.index u x y) := by
 have e1 : aOp P G e h K (.index u x y) = indA P u (ev G e x) (ev G e y) (K h) := rfl
 rw [e1, hx, hy]
 exact ⟨l, el, 1, .v (.int .u32 z), ha, hz, by omega, by omega, by rw [getD_one hg]; simp [hW, zD], q⟩
theorem padZ_len (q : List UInt8) (n : Nat) : (padZ q n).length % 64 = 0 := by
 unfold padZ zc
 simp [be8]
 omega
theorem outW_rows (z : Int) : ([[.v (.int .u8 (IntKind.u8.wrap (z.fdiv (2 ^ min (Int.toNat 24) 32))))], [.v (.int .u8 (IntKind.u8.wrap (z.fdiv (2 ^ min (Int.toNat 16) 32))))], [.v (.int .u8 (IntKind.u8.wrap (z.fdiv (2 ^ min (Int.toNat 8) 32))))], [.v (.int .u8 (IntKind.u8.wrap z))]] : List (List D)) = byD (outW z) := by
 simp only [byD, outW, List.map_cons, List.map_nil, byZ_eq]
 rfl
theorem be8_val (m i : Nat) (hi : i ≤ 64) : IntKind.u8.wrap ((m : Int).fdiv (2 ^ min i 64)) = ((UInt8.ofNat (m / 2 ^ i)).toNat : Int) := by
 rw [Nat.min_eq_left hi, Zx6, Zf _ (Int.le_of_lt (Int.pow_pos (by omega)))]
 simp
theorem aOp_bst {P : Program} {G : Nat → D} {e : Nat → D} {h : List Ob} {K : List Ob → D → Prop} {t u E : TypeId} {x : Operand} {i n : Nat} {bs : List UInt8} (hx : ev G e x = .buf i n) (hi : h[i]? = some (.buf E 1 (byD bs))) (hn : bs.length = n) (h1 : byT P t = true) (h2 : strT P u = true) (q : K h (.v (.string ⟨bs.toArray⟩))) : aOp P G e h K (.convert t u x) := by
 have e1 : aOp P G e h K (.convert t u x) = cvA P h t u (ev G e x) K := rfl
 rw [e1, hx]
 exact ⟨h1, h2, E, byD bs, bs, hi, by rw [byD_len, hn], rfl, q⟩
theorem aOp_cvs {P : Program} {G : Nat → D} {e : Nat → D} {h : List Ob} {K : List Ob → D → Prop} {t u : TypeId} {x : Operand} {l : List UInt8} (hx : ev G e x = .v (.string ⟨l.toArray⟩)) (h1 : byT P u = true) (h2 : (P.underlying t).isSome = true) (h3 : l.length ≤ 140737488355328) (q : K h (.sl 1 (byD l))) : aOp P G e h K (.convert t u x) := by
 have e1 : aOp P G e h K (.convert t u x) = cvA P h t u (ev G e x) K := rfl
 rw [e1, hx]
 exact .inl ⟨h1, h2, h3, q⟩
theorem Zv3 {P : Program} {s : S} {c t t2 i o : Nat} {ds : List D} {d d2 : D} (hx : s.env c = .ptr i o) (hi : s.h[i]? = some (.cells ds)) (hg : getD P t ds o = some d) (h2 : s.env t2 = d2) : resD P s [.cell c t, .tmp t2] = some [d, d2] := by
 simp [resD, hx, U4, hi, hg, h2]
theorem ao_ldgive {P : Program} {G : Nat → D} {n : Nat} {e : Nat → D} {h : List Ob} {ops : Array Oper} {rest : List Oper} {Q : S → Prop} {t : Nat} {ty : TypeId} {pos : String} {aft : Array Edge} {gd : Option (Nat × Bool)} {u : TypeId} {x : Operand} {i j o : Nat} {ds : List D} {d d' : D} (hw : Yc ops gd e = some true) (ht : decide (t < n) = true) (hx : ev G e x = .ptr i o) (hi : h[i]? = some (.cells ds)) (hg : getD P u ds o = some d) (hc : cvD (fun y => y == j) h d = d')
 (q : ao P G ops rest Q ⟨n, upd e t d', h.set j .dead⟩) : ao P G ops (⟨some t, .load u x, ty, pos, aft, gd⟩ :: rest) Q ⟨n, e, h⟩ := by
 refine ao1 hw ht fun K HK => ?_
 refine Yy hx hi hg ?_
 refine HK _ _ ?_
 refine ao_give j t ?_
 have e1 : upd (upd e t d) t (cvD (fun i => i == j) h (upd e t d t)) = upd e t d' := by
  funext k
  unfold upd
  by_cases hk : k = t
  · simp [hk, hc]
  · simp [hk]
 rw [e1]; exact q
theorem be8_get (n : Nat) : be8 n = (List.range 8).map fun j => UInt8.ofNat (n / 2 ^ (56 - 8 * j)) := rfl
theorem be8_take (n : Nat) {j : Nat} (h : j < 8) : (be8 n).take (j + 1) = (be8 n).take j ++ [UInt8.ofNat (n / 2 ^ (56 - 8 * j))] := by
 rw [be8_get, List.take_add_one, List.getElem?_map, List.getElem?_range h]; rfl
theorem restZ_ge {b : List UInt8} (h : 64 ≤ b.length) : U3 (b.drop 64) = U3 b := by
 unfold U3
 rw [List.drop_drop, List.length_drop]
 congr 1
 omega
theorem restZ_lt {b : List UInt8} (h : b.length < 64) : U3 b = b := by
 unfold U3; rw [Nat.div_eq_of_lt h]; rfl
theorem restZ_len (b : List UInt8) : (U3 b).length < 64 := by unfold U3; rw [List.length_drop]; omega
end
section
attribute [local irreducible] on aOp
attribute [local go_sem] decide_true decide_false Zd Zc
attribute [local simp] byD_len
def eM (A B x w v : Ob) (T : List Ob) : List Ob := A :: B :: x :: w :: v :: T
section
variable {A B x w v y z : Ob} {T l : List Ob}
end
variable (G : Nat → D) (hG : ∀ g, low 0 (G g))
include hG
end
section
attribute [local irreducible] on aOp
attribute [local go_sem] decide_true decide_false Zd Zc
attribute [local simp] byD_len
variable (G : Nat → D) (hG : ∀ g, low 0 (G g))
include hG
theorem rNum_d (i : Nat) (s : RS) (h : List Ob) (hi : h[i]? = some (Yj s)) (ho : s.Ok) (hl : s.data.length ≤ 1000000000) :
 Does Za G 83 h [.ptr i 0] (fun h' r => h' = h ∧ r = s.rawN) := by
 rw [U8] at hi
 refine Y5 Tryz.func83 rfl (Z9 rfl) hG fun hl0 _ => ?_
 simp only [Tryz.ntmps83]
 repeat' first
  | refine sA rfl ?_
  | refine Y4 ?_
  | (refine ao1 rfl rfl fun K HK => ?_; simp only [go_sem, ↓reduceIte, Z0, Z2, Z1, Z3, Z4, Z5, Z6, Z7, hi] <;> (refine HK _ _ ?_; clear HK K))
 refine Yr (fun m e h' => ∃ (k acc : Nat), m = 10 - k ∧ k ≤ 10 ∧ acc < 2 ^ (7 * k) ∧ rawJ s.pos k acc (s.data.drop (s.pos + k)) = s.rawN ∧ h' = h ∧ e 0 = .ptr i 0 ∧ e 2 = .v (.int .u64 acc) ∧ e 7 = .v (.int .i64 k)) 10 ⟨0, 0, rfl, by omega, by decide, rfl, rfl, rfl, rfl, rfl⟩ ?_
 rintro m e h' ⟨k, acc, rfl, hk, ha, hJ, rfl, e0, e2, e7⟩
 have hp := ho.pos
 have w1 : IntKind.i64.wrap ((s.pos : Int) + (k : Int)) = ((s.pos + k : Nat) : Int) := IntWalk.i64_in _ (by omega)
 by_cases hk9 : k = 10
 · subst hk9
   have hR : rawJ s.pos 10 acc (Zk (s.pos + 10) s.data) = .tup [.v (.int .u64 (0 : Int)), .v (.int .i64 (0 : Int)), .v (.bool false)] := by
    unfold rawJ; split
    · rfl
    · rw [if_pos (by omega)]
   repeat' first
    | refine sA rfl ?_ | refine sI rfl rfl ?_ | refine sT rfl ?_ | refine sB rfl ?_
    | refine Y4 ?_
    | ((first | refine ao1 rfl rfl fun K HK => ?_ | refine aq1 rfl rfl fun K HK => ?_); (first | refine Y7 rfl ?_ | skip); simp only [go_sem, ↓reduceIte, Z0, Z2, Z1, Z3, Z4, Z5, Z6, Z7, e0, e2, e7, hi]; (first | refine Y6 (fun hq => ?_) (fun hq => ?_) | (refine ⟨by omega, by omega, ?_⟩; intro row hrow; obtain ⟨x, hx, rfl⟩ := Yn hrow; clear hrow) | skip) <;> ((first | refine HK _ _ ?_ | refine HK _ _ rfl ?_); clear HK K))
    | refine X2 ?_
    | (refine Ya mixd (by kernel_rfl) ?_)
    | refine ao0 rfl rfl ?_
    | (exfalso; omega)
   exact ⟨.inr rfl, endD (r := .tup [.v (.int .u64 (0 : Int)), .v (.int .i64 (0 : Int)), .v (.bool false)]) hl0 rfl (by simp) (by simp) rfl (by simp [low, lowL]) ⟨rfl, hR.symm.trans hJ⟩⟩
 by_cases hlt : s.pos + k < s.data.length
 rotate_left
 · have hR : rawJ s.pos k acc (Zk (s.pos + k) s.data) = .tup [.v (.int .u64 (0 : Int)), .v (.int .i64 (0 : Int)), .v (.bool false)] := by
    rw [List.drop_eq_nil_of_le (by omega)]; rfl
   repeat' first
    | refine sA rfl ?_ | refine sI rfl rfl ?_ | refine sT rfl ?_ | refine sB rfl ?_
    | refine Y4 ?_
    | ((first | refine ao1 rfl rfl fun K HK => ?_ | refine aq1 rfl rfl fun K HK => ?_); (first | refine Y7 rfl ?_ | skip); simp only [go_sem, ↓reduceIte, Z0, Z2, Z1, Z3, Z4, Z5, Z6, Z7, e0, e2, e7, hi, w1]; (first | refine Y6 (fun hq => ?_) (fun hq => ?_) | (refine ⟨by omega, by omega, ?_⟩; intro row hrow; obtain ⟨x, hx, rfl⟩ := Yn hrow; clear hrow) | skip) <;> ((first | refine HK _ _ ?_ | refine HK _ _ rfl ?_); clear HK K))
    | refine X2 ?_
    | (refine Ya mixd (by kernel_rfl) ?_)
    | refine ao0 rfl rfl ?_
    | (exfalso; omega)
   exact ⟨.inr rfl, endD (r := .tup [.v (.int .u64 (0 : Int)), .v (.int .i64 (0 : Int)), .v (.bool false)]) hl0 rfl (by simp) (by simp) rfl (by simp [low, lowL]) ⟨rfl, hR.symm.trans hJ⟩⟩
 have hx : s.data[s.pos + k]? = some s.data[s.pos + k] := List.getElem?_eq_getElem hlt
 rw [List.drop_eq_getElem_cons hlt] at hJ
 generalize s.data[s.pos + k] = x at hx hJ
 have hxl := x.toNat_lt
 by_cases h9 : k = 9 ∧ 1 < x.toNat
 · have hR : rawJ s.pos k acc (x :: Zk (s.pos + k + 1) s.data) = .tup [.v (.int .u64 (0 : Int)), .v (.int .i64 (0 : Int)), .v (.bool false)] := by
    rw [rawJ, if_neg (by omega), if_pos h9]
   obtain ⟨rfl, h9⟩ := h9
   repeat' first
    | refine sA rfl ?_ | refine sI rfl rfl ?_ | refine sT rfl ?_ | refine sB rfl ?_
    | refine Y4 ?_
    | ((first | refine ao1 rfl rfl fun K HK => ?_ | refine aq1 rfl rfl fun K HK => ?_); (first | refine Y7 rfl ?_ | skip); simp only [go_sem, ↓reduceIte, Z0, Z2, Z1, Z3, Z4, Z5, Z6, Z7, e0, e2, e7, hi, w1, Zg]; (first | refine Y6 (fun hq => ?_) (fun hq => ?_) | (refine ⟨by omega, by omega, ?_⟩; refine Yg (by assumption) ?_) | skip) <;> ((first | refine HK _ _ ?_ | refine HK _ _ rfl ?_); clear HK K))
    | refine X2 ?_
    | (refine Ya mixd (by kernel_rfl) ?_)
    | refine ao0 rfl rfl ?_
    | (exfalso; omega)
   exact ⟨.inr rfl, endD (r := .tup [.v (.int .u64 (0 : Int)), .v (.int .i64 (0 : Int)), .v (.bool false)]) hl0 rfl (by simp) (by simp) rfl (by simp [low, lowL]) ⟨rfl, hR.symm.trans hJ⟩⟩
 obtain ⟨s1, s2, s3⟩ := shl_step ha (by omega) h9 hxl
 have w2 : IntKind.i64.wrap (7 * (k : Int)) = ((7 * k : Nat) : Int) := IntWalk.i64_in _ (by omega)
 have w3 : decide (0 ≤ ((7 * k : Nat) : Int)) = true := decide_eq_true (by omega)
 have hV := num_val (x := x) ha (by omega) h9
 have w6 : IntKind.i64.wrap (((s.pos + k : Nat) : Int) + 1) = ((s.pos + k + 1 : Nat) : Int) := IntWalk.i64_in _ (by omega)
 have w7 : IntKind.i64.wrap ((k : Int) + 1) = ((k + 1 : Nat) : Int) := IntWalk.i64_in _ (by omega)
 repeat' first
  | refine sA rfl ?_ | refine sI rfl rfl ?_ | refine sT rfl ?_ | refine sB rfl ?_
  | refine Y4 ?_
  | ((first | refine ao1 rfl rfl fun K HK => ?_ | refine aq1 rfl rfl fun K HK => ?_); (first | refine Y7 rfl ?_ | skip); simp only [go_sem, ↓reduceIte, Z0, Z2, Z1, Z3, Z4, Z5, Z6, Z7, e0, e2, e7, hi, w1, w2, w3, w6, w7, Zg, Z8]; (first | refine Y6 (fun hq => ?_) (fun hq => ?_) | refine W7 (fun hq => ?_) (fun hq => ?_) | (refine ⟨by omega, by omega, ?_⟩; refine Yg (by assumption) ?_) | skip) <;> ((first | refine HK _ _ ?_ | refine HK _ _ rfl ?_); clear HK K))
  | refine aq0 rfl rfl ?_
  | refine X2 ?_
  | (refine Ya mixd (by kernel_rfl) ?_)
  | refine ao0 rfl rfl ?_
  | (exfalso; omega)
 all_goals first
 | (have hR : rawJ s.pos k acc (x :: Zk (s.pos + k + 1) s.data) = .tup [.v (.int .u64 ((acc + x.toNat % 128 * 2 ^ (7 * k) : Nat) : Int)), .v (.int .i64 ((s.pos + k + 1 : Nat) : Int)), .v (.bool true)] := by (rw [rawJ, if_neg (by omega), if_neg h9, if_pos (by omega), decide_eq_true (by omega)])
    exact ⟨.inr rfl, endD (r := .tup [.v (.int .u64 ((acc + x.toNat % 128 * 2 ^ (7 * k) : Nat) : Int)), .v (.int .i64 ((s.pos + k + 1 : Nat) : Int)), .v (.bool true)]) hl0 rfl (by simp) (by simp) (congrArg (fun z : Int => D.tup [.v (.int .u64 z), .v (.int .i64 ((s.pos + k + 1 : Nat) : Int)), .v (.bool true)]) hV) (by simp [low, lowL]) ⟨rfl, hR.symm.trans hJ⟩⟩)
 | (have hR : rawJ s.pos k acc (x :: Zk (s.pos + k + 1) s.data) = .tup [.v (.int .u64 ((acc + x.toNat % 128 * 2 ^ (7 * k) : Nat) : Int)), .v (.int .i64 ((s.pos + k + 1 : Nat) : Int)), .v (.bool false)] := by (rw [rawJ, if_neg (by omega), if_neg h9, if_pos (by omega), decide_eq_false (by omega)])
    exact ⟨.inr rfl, endD (r := .tup [.v (.int .u64 ((acc + x.toNat % 128 * 2 ^ (7 * k) : Nat) : Int)), .v (.int .i64 ((s.pos + k + 1 : Nat) : Int)), .v (.bool false)]) hl0 rfl (by simp) (by simp) (congrArg (fun z : Int => D.tup [.v (.int .u64 z), .v (.int .i64 ((s.pos + k + 1 : Nat) : Int)), .v (.bool false)]) hV) (by simp [low, lowL]) ⟨rfl, hR.symm.trans hJ⟩⟩)
 | (rw [rawJ, if_neg (by omega), if_neg h9, if_neg (by omega)] at hJ
    refine ⟨rfl, 10 - (k + 1), by omega, k + 1, acc + x.toNat % 128 * 2 ^ (7 * k), rfl, by omega, s3, hJ, rfl, ?_, congrArg (fun z : Int => D.v (.int .u64 z)) hV, rfl⟩
    simp [upd, e0])
end
section
attribute [local irreducible] on aOp
attribute [local go_sem] decide_true decide_false Zd Zc
attribute [local simp] byD_len
variable (G : Nat → D) (hG : ∀ g, low 0 (G g))
include hG
theorem Zq8 {s : RS} {d : D} (q : s.rawN = d) {i : Nat} {h : List Ob} (hi : h[i]? = some (Yj s)) (ho : s.Ok) (hl : s.data.length ≤ 1000000000) :
 Does Za G 83 h [.ptr i 0] (fun h' r => h' = h ∧ r = d) := q ▸ rNum_d G hG i s h hi ho hl
theorem rBegin_d (i : Nat) (s : RS) (h : List Ob) (hi : h[i]? = some (Yj s)) :
 Does Za G 82 h [.ptr i 0] (fun h' r => h' = h.set i (Yj (if s.err = 0 then s.begun else s)) ∧ r = .v (.bool (decide (s.err = 0)))) := by
 have hil := (Zb.1 hi).1
 have hi0 := hi
 rw [U8] at hi
 obtain ⟨g1, g2, g3, g4, g5⟩ := Ya1 hi
 refine Y5 Tryz.func82 rfl (Z9 rfl) hG fun hl0 _ => ?_
 simp only [Tryz.ntmps82]
 by_cases hb : s.err = 0
 · rw [if_pos hb, decide_eq_true hb]
   rw [hb] at hi
   repeat' first
    | (with_reducible first | refine sA rfl ?_ | refine sI rfl rfl ?_ | refine sT rfl ?_)
    | (with_reducible refine Y8 ?_; first | refine Y4 ?_ | (refine ao1 rfl rfl fun K HK => ?_; simp only [go_sem, ↓reduceIte, Z0, Z2, Z1, Z3, Z4, Z5, Z6, Z7, hi, g1] <;> (refine HK _ _ ?_; clear HK K)) | (refine ao1' rfl fun K HK => ?_; simp only [go_sem, ↓reduceIte, Z0, Z2, Z1, Z3, Z4, Z5, Z6, Z7, hi, g1]; refine HK _ _ ?_; clear HK K))
   exact ⟨.inr rfl, endS (i := i) (ob := Yj s.begun) (r := .v (.bool true)) hl0 (Wb _ _) rfl (by simp [Yj, RS.begun, hb, putL_succ, putL_zero, J6]) (by simp) rfl (by rw [low]; trivial) ⟨rfl, rfl⟩⟩
 · rw [if_neg hb, decide_eq_false hb]
   repeat' first
    | (with_reducible first | refine sA rfl ?_ | refine sI rfl rfl ?_ | refine sT rfl ?_)
    | (with_reducible refine Y8 ?_; first | refine Y4 ?_ | (refine ao1 rfl rfl fun K HK => ?_; simp only [go_sem, ↓reduceIte, Z0, Z2, Z1, Z3, Z4, Z5, Z6, Z7, hi, g1, hb] <;> (refine HK _ _ ?_; clear HK K)))
   exact ⟨.inr rfl, endS (i := i) (ob := Yj s) (r := .v (.bool false)) hl0 (Wb _ _) rfl (by simp [J9 hi0]) (by simp) rfl (by rw [low]; trivial) ⟨rfl, rfl⟩⟩
theorem rBegin_ok {i : Nat} {s : RS} {h : List Ob} (hb : s.err = 0) (hi : h[i]? = some (Yj s)) :
 Does Za G 82 h [.ptr i 0] (fun h' r => h' = h.set i (Yj s.begun) ∧ r = .v (.bool true)) := by
 have := rBegin_d G hG i s h hi
 rwa [if_pos hb, decide_eq_true hb] at this
theorem Jc {i : Nat} {s : RS} {h h1 : List Ob} (q : h.set i (Yj s.begun) = h1) (hb : s.err = 0) (hi : h[i]? = some (Yj s)) :
 Does Za G 82 h [.ptr i 0] (fun h' r => h' = h1 ∧ r = .v (.bool true)) := q ▸ rBegin_ok G hG hb hi
theorem Zq9 {i : Nat} {s : RS} {h : List Ob} (hb : ¬ s.err = 0) (hi : h[i]? = some (Yj s)) :
 Does Za G 82 h [.ptr i 0] (fun h' r => h' = h ∧ r = .v (.bool false)) := by
 have := rBegin_d G hG i s h hi
 rw [if_neg hb, decide_eq_false hb, J9 hi] at this
 exact this
theorem rUint_d (i : Nat) (s : RS) (h : List Ob) (hi : h[i]? = some (Yj s)) (ho : s.Ok) (hl : s.data.length ≤ 1000000000) :
 Does Za G 81 h [.ptr i 0] (fun h' r => h' = h.set i (Yj (Xc s).2) ∧ r = .v (.int .u64 (Xc s).1)) := by
 have hil := (Zb.1 hi).1
 have g1 := fun ob => Ze (a := ob) hil
 refine Y5 Tryz.func81 rfl (Z9 rfl) hG fun hl0 _ => ?_
 simp only [Tryz.ntmps81]
 by_cases hb : s.err = 0
 rotate_left
 · skip
   repeat' first
    | (with_reducible first | refine sA rfl ?_ | refine sI rfl rfl ?_ | refine sT rfl ?_)
    | (with_reducible refine Y8 ?_; first | refine Y4 ?_ | (refine ao1 rfl rfl fun K HK => ?_; simp only [go_sem, ↓reduceIte, Z0, Z2, Z1, Z3, Z4, Z5, Z6, Z7, g1] <;> (refine HK _ _ ?_; clear HK K)) | (refine ao2 rfl rfl rfl Zc7 (Zq9 G hG hb hi) ?_; rintro _ _ ⟨rfl, rfl⟩))
   have hR : Xc s = (0, s) := by unfold Xc; rw [if_pos hb]
   exact ⟨by simp, endS (i := i) (ob := Yj s) (r := .v (.int .u64 (0 : Int))) hl0 (Wb _ _) rfl (by simp [J9 hi]) (by simp) rfl (by rw [low]; trivial) ⟨by rw [hR], by rw [hR]; rfl⟩⟩
 have hO : s.begun.Ok := ⟨ho.pos, Zj _, ho.err⟩
 obtain ⟨h1, hh⟩ : ∃ h1, h.set i (Yj s.begun) = h1 := ⟨_, rfl⟩
 have hB : h1[i]? = some (Yj s.begun) := hh ▸ g1 _
 have hS : ∀ x, h1.set i x = h.set i x := fun x => by rw [← hh, List.set_set]
 have hT : ∀ x, (h1.set i x).take h.length = h.set i x := fun x => by rw [hS]; exact J6
 have hL : h1.length = h.length := by rw [← hh, Zi]
 have hB2 := hB
 rw [U8] at hB2
 obtain ⟨k1, k2, k3, k4, k5⟩ := Ya1 hB2
 rcases hN : s.num with _ | ⟨m, c⟩
 · obtain ⟨a, b, hr⟩ := Zq6 (s := s.begun) hN
   repeat' first
    | (with_reducible first | refine sA rfl ?_ | refine sI rfl rfl ?_ | refine sT rfl ?_)
    | (with_reducible refine Y8 ?_; first | refine Y4 ?_ | (refine ao1 rfl rfl fun K HK => ?_; simp only [go_sem, ↓reduceIte, Z0, Z2, Z1, Z3, Z4, Z5, Z6, Z7, hB2, k1] <;> (refine HK _ _ ?_; clear HK K)) | (refine ao2 rfl rfl rfl Zc7 (Jc G hG hh hb hi) ?_; rintro _ _ ⟨rfl, rfl⟩) | (refine ao1' rfl fun K HK => ?_; simp only [go_sem, ↓reduceIte, Z0, Z2, Z1, Z3, Z4, Z5, Z6, Z7, hB2, k1]; refine HK _ _ ?_; clear HK K))
    | ((with_reducible refine Y8 ?_); first | (refine ao2 rfl rfl rfl Zs3 (Zq8 G hG hr hB hO hl) ?_; rintro _ _ ⟨rfl, rfl⟩))
   have hR : Xc s = (0, s.bad) := by unfold Xc; rw [if_neg (fun h => h hb), hN]
   exact ⟨by simp, endS (i := i) (ob := Yj s.bad) (r := .v (.int .u64 (0 : Int))) hl0 (Wb _ _) rfl (by simp [Yj, RS.bad, RS.begun, putL_succ, putL_zero, hT]) (by simp [hL]) rfl (by rw [low]; trivial) ⟨by rw [hR], by rw [hR]; rfl⟩⟩
 · have hr := Zq5 (s := s.begun) hN
   repeat' first
    | (with_reducible first | refine sA rfl ?_ | refine sI rfl rfl ?_ | refine sT rfl ?_)
    | (with_reducible refine Y8 ?_; first | refine Y4 ?_ | (refine ao1 rfl rfl fun K HK => ?_; simp only [go_sem, ↓reduceIte, Z0, Z2, Z1, Z3, Z4, Z5, Z6, Z7, hB2, k1] <;> (refine HK _ _ ?_; clear HK K)) | (refine ao2 rfl rfl rfl Zc7 (Jc G hG hh hb hi) ?_; rintro _ _ ⟨rfl, rfl⟩) | (refine ao1' rfl fun K HK => ?_; simp only [go_sem, ↓reduceIte, Z0, Z2, Z1, Z3, Z4, Z5, Z6, Z7, hB2, k1]; refine HK _ _ ?_; clear HK K))
    | ((with_reducible refine Y8 ?_); first | (refine ao2 rfl rfl rfl Zs3 (Zq8 G hG hr hB hO hl) ?_; rintro _ _ ⟨rfl, rfl⟩))
   have hR : Xc s = (m, s.go c) := by unfold Xc; rw [if_neg (fun h => h hb), hN]
   exact ⟨by simp, endS (i := i) (ob := Yj (s.go c)) (r := .v (.int .u64 (m : Int))) hl0 (Wb _ _) rfl (by simp [Yj, RS.go, RS.begun, putL_succ, putL_zero, hT]) (by simp [hL]) rfl (by rw [low]; trivial) ⟨by rw [hR], by rw [hR]⟩⟩
theorem rLeft_d (i : Nat) (s : RS) (h : List Ob) (hi : h[i]? = some (Yj s)) (ho : s.Ok) (hl : s.data.length ≤ 1000000000) :
 Does Za G 84 h [.ptr i 0] (fun h' r => h' = h ∧ r = .v (.int .i64 ((s.data.length - s.pos : Nat) : Int))) := by
 rw [U8] at hi
 refine Y5 Tryz.func84 rfl (Z9 rfl) hG fun hl0 _ => ?_
 simp only [Tryz.ntmps84]
 have hp := ho.pos
 have w1 : IntKind.i64.wrap ((s.data.length : Int) - (s.pos : Int)) = ((s.data.length - s.pos : Nat) : Int) := by rw [← Int.ofNat_sub hp]; exact IntWalk.i64_in _ (by omega)
 repeat' first
  | (with_reducible first | refine sA rfl ?_ | refine sT rfl ?_)
  | (with_reducible refine Xe ?_; first | refine Ya mixd (by kernel_rfl) ?_)
  | (with_reducible refine Y8 ?_; first | refine Y4 ?_ | (refine ao1 rfl rfl fun K HK => ?_; simp only [go_sem, ↓reduceIte, Z0, Z2, Z1, Z3, Z4, Z5, Z6, Z7, hi, w1] <;> (refine HK _ _ ?_; clear HK K)))
  | (with_reducible refine Ws ?_; first | (refine aq1 rfl rfl fun K HK => ?_; simp only [go_sem, ↓reduceIte, Z0, Z2, Z1, Z3, Z4, Z5, Z6, Z7, hi, w1] <;> (refine HK _ _ rfl ?_; clear HK K)) | refine X2 ?_)
 exact ⟨.inr rfl, endD (r := .v (.int .i64 ((s.data.length - s.pos : Nat) : Int))) hl0 rfl (by simp) (by simp) rfl (by rw [low]; trivial) ⟨rfl, rfl⟩⟩
end
section
attribute [local irreducible] on aOp
attribute [local go_sem] decide_true decide_false Zd Zc
attribute [local simp] byD_len
theorem i64_xor_zero (a : Nat) (h : a ≤ 9223372036854775807) : bits .xor .i64 (a : Int) 0 = (a : Int) := by
 show IntKind.i64.wrap ((BitVec.ofInt 64 (a : Int) ^^^ BitVec.ofInt 64 0).toNat : Int) = _
 have e0 : BitVec.ofInt 64 0 = 0#64 := rfl
 rw [e0, BitVec.xor_zero, BitVec.ofInt_natCast, BitVec.toNat_ofNat, IntKind.wrap_i64]
 omega
theorem unzz_bits (n : Nat) (h : n < 18446744073709551616) : bits .xor .i64 ((n : Int) / 2) (-((n : Int) % 2)) = unzz n := by
 unfold unzz
 by_cases h0 : n % 2 = 0
 · rw [if_pos h0]
   have e : -((n : Int) % 2) = 0 := by omega
   rw [e]
   have e2 : (n : Int) / 2 = ((n / 2 : Nat) : Int) := by omega
   rw [e2]
   exact i64_xor_zero (n / 2) (by omega)
 · rw [if_neg h0]
   have e : -((n : Int) % 2) = -1 := by omega
   rw [e]
   have e2 : (n : Int) / 2 = ((n / 2 : Nat) : Int) := by omega
   rw [e2]
   have hc : bits .xor .i64 ((n / 2 : Nat) : Int) (-1) = bits .xor .i64 (-1) ((n / 2 : Nat) : Int) := by
    unfold bits
    simp only
    rw [BitVec.xor_comm]
   rw [hc, Lib.i64_not _ (by omega)]
theorem and_one' (m : Nat) (h : m < 18446744073709551616) : IntKind.u64.wrap ((BitVec.ofInt 64 (m : Int) &&& BitVec.ofInt 64 1).toNat : Int) = ((m : Int) % 2) := by
 have e : BitVec.ofInt 64 (m : Int) &&& BitVec.ofInt 64 1 = BitVec.ofNat 64 (m % 2) := by
  apply BitVec.eq_of_toNat_eq
  have e1 : (BitVec.ofInt 64 1).toNat = 1 := rfl
  rw [BitVec.toNat_and, BitVec.ofInt_natCast, BitVec.toNat_ofNat, e1, Nat.and_one_is_mod, BitVec.toNat_ofNat]
  omega
 rw [e, BitVec.toNat_ofNat, IntKind.wrap_u64]; omega
theorem int_val (m : Nat) (h : m < 18446744073709551616) : IntKind.i64.wrap ((BitVec.ofInt 64 (IntKind.i64.wrap ((m : Int).fdiv (2 ^ min (Int.toNat 1) 64))) ^^^ BitVec.ofInt 64 (IntKind.i64.wrap (0 - IntKind.i64.wrap (IntKind.u64.wrap ((BitVec.ofInt 64 (m : Int) &&& BitVec.ofInt 64 1).toNat : Int))))).toNat : Int) = unzz m := by
 have e1 : (m : Int).fdiv (2 ^ min (Int.toNat 1) 64) = (m : Int) / 2 := by
  rw [show (2 : Int) ^ min (Int.toNat 1) 64 = 2 by decide, Zf _ (by omega)]
 have w1 : IntKind.i64.wrap ((m : Int) / 2) = (m : Int) / 2 := IntWalk.i64_in _ (by omega)
 have w2 : IntKind.i64.wrap ((m : Int) % 2) = (m : Int) % 2 := IntWalk.i64_in _ (by omega)
 have w3 : IntKind.i64.wrap (0 - (m : Int) % 2) = -((m : Int) % 2) := by rw [Int.zero_sub]; exact IntWalk.i64_in _ (by omega)
 rw [e1, w1, and_one' m h, w2, w3]
 exact unzz_bits m h
variable (G : Nat → D) (hG : ∀ g, low 0 (G g))
include hG
theorem rInt_d (i : Nat) (s : RS) (h : List Ob) (hi : h[i]? = some (Yj s)) (ho : s.Ok) (hl : s.data.length ≤ 1000000000) :
 Does Za G 48 h [.ptr i 0] (fun h' r => h' = h.set i (Yj (Yo s).2) ∧ r = .v (.int .i64 (Yo s).1)) := by
 have hlt := (Zf3 ho).2.2
 have hc := rUint_d G hG i s h hi ho hl
 have hI : Yo s = (unzz (Xc s).1, (Xc s).2) := rfl
 rw [hI]
 generalize Xc s = ru at hc hlt ⊢
 obtain ⟨m, t⟩ := ru
 simp only at hc hlt ⊢
 refine Y5 Tryz.func48 rfl (Z9 rfl) hG fun hl0 _ => ?_
 simp only [Tryz.ntmps48]
 repeat' first
  | (with_reducible first | refine sA rfl ?_ | refine sT rfl ?_)
  | (with_reducible refine Y8 ?_; first | refine Y4 ?_ | (refine ao1 rfl rfl fun K HK => ?_; simp only [go_sem, ↓reduceIte, Z0, Z2, Z1, Z3, Z4, Z5, Z6, Z7] <;> (refine HK _ _ ?_; clear HK K)) | (refine ao2 rfl rfl rfl ent_81 (hc) ?_; rintro _ _ ⟨rfl, rfl⟩))
 exact ⟨.inr rfl, endS (i := i) (ob := Yj t) (r := .v (.int .i64 (unzz m))) hl0 (Wb _ _) rfl (by simp [J6]) (by simp) (congrArg (fun z : Int => D.v (.int .i64 z)) (int_val m hlt)) (by rw [low]; trivial) ⟨rfl, rfl⟩⟩
theorem rEnd_d (i : Nat) (s : RS) (h : List Ob) (hi : h[i]? = some (Yj s)) (ho : s.Ok) (hl : s.data.length ≤ 1000000000) :
 Does Za G 52 h [.ptr i 0] (fun h' r => h' = h ∧ r = .v (.int .i64 s.ends)) := by
 have hL := rLeft_d G hG i s h hi ho hl
 rw [U8] at hi
 refine Y5 Tryz.func52 rfl (Z9 rfl) hG fun hl0 _ => ?_
 simp only [Tryz.ntmps52]
 by_cases hb : s.err = 0
 · rw [hb] at hi
   by_cases hp : s.pos < s.data.length
   · have w1 : decide (((s.data.length - s.pos : Nat) : Int) > 0) = true := decide_eq_true (by omega)
     have w2 : decide (0 < ((s.data.length - s.pos : Nat) : Int)) = true := decide_eq_true (by omega)
     repeat' first
      | (with_reducible first | refine sA rfl ?_ | refine sI rfl rfl ?_ | refine sT rfl ?_)
      | (with_reducible refine Y8 ?_; first | refine Y4 ?_ | (refine ao1 rfl rfl fun K HK => ?_; (first | refine Y7 rfl ?_ | skip); simp only [go_sem, ↓reduceIte, Z0, Z2, Z1, Z3, Z4, Z5, Z6, Z7, hi, w1, w2, Z8] <;> (refine HK _ _ ?_; clear HK K)) | (refine ao2 rfl rfl rfl ent_84 (hL) ?_; rintro _ _ ⟨rfl, rfl⟩))
     have hE : s.ends = 2 := by unfold RS.ends; rw [if_pos ⟨hb, hp⟩]
     exact ⟨.inr rfl, endD (r := .v (.int .i64 2)) hl0 rfl (by simp) (by simp) rfl (by rw [low]; trivial) ⟨rfl, by rw [hE]⟩⟩
   · have w1 : s.data.length - s.pos = 0 := by omega
     rw [w1] at hL
     repeat' first
      | (with_reducible first | refine sA rfl ?_ | refine sI rfl rfl ?_ | refine sT rfl ?_)
      | (with_reducible refine Y8 ?_; first | refine Y4 ?_ | (refine ao1 rfl rfl fun K HK => ?_; (first | refine Y7 rfl ?_ | skip); simp only [go_sem, ↓reduceIte, Z0, Z2, Z1, Z3, Z4, Z5, Z6, Z7, hi, Z8]; (first | refine Y6 (fun hq => ?_) (fun hq => ?_) | skip) <;> (refine HK _ _ ?_; clear HK K)) | (refine ao2 rfl rfl rfl ent_84 (hL) ?_; rintro _ _ ⟨rfl, rfl⟩))
      | (exfalso; omega)
     have hE : s.ends = 0 := by unfold RS.ends; rw [if_neg (fun h => hp h.2), hb]
     exact ⟨.inr rfl, endD (r := .v (.int .i64 0)) hl0 rfl (by simp) (by simp) rfl (by rw [low]; trivial) ⟨rfl, by rw [hE]⟩⟩
 · skip
   repeat' first
    | (with_reducible first | refine sA rfl ?_ | refine sI rfl rfl ?_ | refine sT rfl ?_)
    | (with_reducible refine Y8 ?_; first | refine Y4 ?_ | (refine ao1 rfl rfl fun K HK => ?_; (first | refine Y7 rfl ?_ | skip); simp only [go_sem, ↓reduceIte, Z0, Z2, Z1, Z3, Z4, Z5, Z6, Z7, hi, hb, Z8] <;> (refine HK _ _ ?_; clear HK K)) | refine ao0 rfl rfl ?_)
   have hE : s.ends = s.err := by unfold RS.ends; rw [if_neg (fun h => hb h.1)]
   exact ⟨.inr rfl, endD (r := .v (.int .i64 s.err)) hl0 rfl (by simp) (by simp) rfl (by rw [low]; trivial) ⟨rfl, by rw [hE]⟩⟩
theorem rCount_d (i : Nat) (s : RS) (h : List Ob) (hi : h[i]? = some (Yj s)) (ho : s.Ok) (hl : s.data.length ≤ 1000000000) :
 Does Za G 49 h [.ptr i 0] (fun h' r => h' = h.set i (Yj (Ym s).2) ∧ r = .v (.int .i64 ((Ym s).1 : Nat))) := by
 have hil := (Zb.1 hi).1
 have g1 := fun ob => Ze (a := ob) hil
 refine Y5 Tryz.func49 rfl (Z9 rfl) hG fun hl0 _ => ?_
 simp only [Tryz.ntmps49]
 have hp := ho.pos
 by_cases hb : s.err = 0
 rotate_left
 · skip
   repeat' first
    | (with_reducible first | refine sA rfl ?_ | refine sI rfl rfl ?_ | refine sT rfl ?_)
    | (with_reducible refine Y8 ?_; first | refine Y4 ?_ | (refine ao1 rfl rfl fun K HK => ?_; simp only [go_sem, ↓reduceIte, Z0, Z2, Z1, Z3, Z4, Z5, Z6, Z7, g1] <;> (refine HK _ _ ?_; clear HK K)) | (refine ao2 rfl rfl rfl Zc7 (Zq9 G hG hb hi) ?_; rintro _ _ ⟨rfl, rfl⟩))
   have hR : Ym s = (0, s) := by unfold Ym; rw [if_pos hb]
   exact ⟨by simp, endS (i := i) (ob := Yj s) (r := .v (.int .i64 (0 : Int))) hl0 (Wb _ _) rfl (by simp [J9 hi]) (by simp) rfl (by rw [low]; trivial) ⟨by rw [hR], by rw [hR]; rfl⟩⟩
 have hO : s.begun.Ok := ⟨ho.pos, Zj _, ho.err⟩
 obtain ⟨h1, hh⟩ : ∃ h1, h.set i (Yj s.begun) = h1 := ⟨_, rfl⟩
 have hB : h1[i]? = some (Yj s.begun) := hh ▸ g1 _
 have hS : ∀ x, h1.set i x = h.set i x := fun x => by rw [← hh, List.set_set]
 have hT : ∀ x, (h1.set i x).take h.length = h.set i x := fun x => by rw [hS]; exact J6
 have hL : h1.length = h.length := by rw [← hh, Zi]
 have hB2 := hB
 rw [U8] at hB2
 have hB2 : h1[i]? = some (.cells [.sl 1 (byD s.data), .v (.int .i64 s.pos), .v (.int .i64 s.pos), .v (.int .i64 s.err)]) := hB2
 obtain ⟨k1, k2, k3, k4, k5⟩ := Ya1 hB2
 rcases hN : s.num with _ | ⟨m, c⟩
 · obtain ⟨a, b, hr⟩ := Zq6 (s := s.begun) hN
   repeat' first
    | (with_reducible first | refine sA rfl ?_ | refine sI rfl rfl ?_ | refine sT rfl ?_)
    | (with_reducible refine Y8 ?_; first | refine Y4 ?_ | (refine ao1 rfl rfl fun K HK => ?_; (first | refine Y7 rfl ?_ | skip); simp only [go_sem, ↓reduceIte, Z0, Z2, Z1, Z3, Z4, Z5, Z6, Z7, hB2, k1, Z8] <;> (refine HK _ _ ?_; clear HK K)) | refine ao0 rfl rfl ?_ | (refine ao2 rfl rfl rfl Zc7 (Jc G hG hh hb hi) ?_; rintro _ _ ⟨rfl, rfl⟩) | (refine ao1' rfl fun K HK => ?_; simp only [go_sem, ↓reduceIte, Z0, Z2, Z1, Z3, Z4, Z5, Z6, Z7, hB2, k1, Z8]; refine HK _ _ ?_; clear HK K))
    | ((with_reducible refine Y8 ?_); first | (refine ao2 rfl rfl rfl Zs3 (Zq8 G hG hr hB hO hl) ?_; rintro _ _ ⟨rfl, rfl⟩))
   have hR : Ym s = (0, s.bad) := by unfold Ym; rw [if_neg (fun h => h hb), hN]
   exact ⟨by simp, endS (i := i) (ob := Yj s.bad) (r := .v (.int .i64 (0 : Int))) hl0 (Wb _ _) rfl (by simp [Yj, RS.bad, putL_succ, putL_zero, hT]) (by simp [hL]) rfl (by rw [low]; trivial) ⟨by rw [hR], by rw [hR]; rfl⟩⟩
 · have hr := Zq5 (s := s.begun) hN
   have hr : s.begun.rawN = .tup [.v (.int .u64 m), .v (.int .i64 ((s.pos : Int) + (c : Int))), .v (.bool true)] := hr
   obtain ⟨hn1, hn2, hn3, hn4⟩ := RS.num_some hN hp
   have w1 : IntKind.i64.wrap ((s.data.length : Int) - ((s.pos : Int) + (c : Int))) = (s.data.length : Int) - ((s.pos : Int) + (c : Int)) := IntWalk.i64_in _ (by omega)
   have w2 : IntKind.u64.wrap ((s.data.length : Int) - ((s.pos : Int) + (c : Int))) = (s.data.length : Int) - ((s.pos : Int) + (c : Int)) := by rw [IntKind.wrap_u64]; omega
   have w3 : m ≤ 1000000000 → IntKind.i64.wrap (m : Int) = (m : Int) := fun h => IntWalk.i64_in _ (by omega)
   have hR : Ym s = (if s.data.length - (s.pos + c) < m then (0, s.bad) else (m, s.go c)) := by unfold Ym; rw [if_neg (fun h => h hb), hN]
   repeat' first
    | (with_reducible first | refine sA rfl ?_ | refine sI rfl rfl ?_ | refine sT rfl ?_)
    | (with_reducible refine Y8 ?_; first | refine Y4 ?_ | (refine ao1 rfl rfl fun K HK => ?_; (first | refine Y7 rfl ?_ | skip); simp only [go_sem, ↓reduceIte, Z0, Z2, Z1, Z3, Z4, Z5, Z6, Z7, hB2, k1, w1, w2, Z8]; (first | refine Y6 (fun hq => ?_) (fun hq => ?_) | skip) <;> (refine HK _ _ ?_; clear HK K)) | (refine ao2 rfl rfl rfl Zc7 (Jc G hG hh hb hi) ?_; rintro _ _ ⟨rfl, rfl⟩) | (refine ao1' rfl fun K HK => ?_; simp only [go_sem, ↓reduceIte, Z0, Z2, Z1, Z3, Z4, Z5, Z6, Z7, hB2, k1, w1, w2, Z8]; refine HK _ _ ?_; clear HK K))
    | ((with_reducible refine Y8 ?_); first | (refine ao2 rfl rfl rfl Zs3 (Zq8 G hG hr hB hO hl) ?_; rintro _ _ ⟨rfl, rfl⟩))
   all_goals
    first
    | (have hR2 : Ym s = (0, s.bad) := by (rw [hR, if_pos (by omega)])
       exact ⟨by simp, endS (i := i) (ob := Yj s.bad) (r := .v (.int .i64 (0 : Int))) hl0 (Wb _ _) rfl (by simp [Yj, RS.bad, putL_succ, putL_zero, hT]) (by simp [hL]) rfl (by rw [low]; trivial) ⟨by rw [hR2], by rw [hR2]; rfl⟩⟩)
    | (have hR2 : Ym s = (m, s.go c) := by (rw [hR, if_neg (by omega)])
       exact ⟨by simp, endS (i := i) (ob := Yj (s.go c)) (r := .v (.int .i64 (m : Int))) hl0 (Wb _ _) rfl (by simp [Yj, RS.go, putL_succ, putL_zero, hT]) (by simp [hL]) (congrArg (fun z : Int => D.v (.int .i64 z)) (w3 (by omega))) (by rw [low]; trivial) ⟨by rw [hR2], by rw [hR2]⟩⟩)
end
section
attribute [local irreducible] on aOp
attribute [local go_sem] decide_true decide_false Zd Zc
attribute [local simp] byD_len
variable (G : Nat → D) (hG : ∀ g, low 0 (G g))
include hG
theorem Zz8 (i : Nat) (s : RS) (h : List Ob) (hi : h[i]? = some (Yj s)) (ho : s.Ok) (hl : s.data.length ≤ 1000000000) :
 Does Za G 51 h [.ptr i 0] (fun h' r => h' = h.set i (Yj (Yh s).2) ∧ r = .sl 1 (byD (Yh s).1)) := by
 have hil := (Zb.1 hi).1
 have g1 := fun ob => Ze (a := ob) hil
 apply Does.weak
 refine Y5 Tryz.func51 rfl (Z9 rfl) hG fun hl0 _ => ?_
 simp only [Tryz.ntmps51]
 have hp := ho.pos
 by_cases hb : s.err = 0
 rotate_left
 · skip
   repeat' first
    | (with_reducible first | refine sA rfl ?_ | refine sI rfl rfl ?_ | refine sT rfl ?_)
    | (with_reducible refine Y8 ?_; first | refine Y4 ?_ | (refine ao1 rfl rfl fun K HK => ?_; simp only [go_sem, ↓reduceIte, Z0, Z2, Z1, Z3, Z4, Z5, Z6, Z7, g1] <;> (refine HK _ _ ?_; clear HK K)) | (refine ao2 rfl rfl rfl Zc7 (Zq9 G hG hb hi) ?_; rintro _ _ ⟨rfl, rfl⟩))
   have hR : Yh s = ([], s) := by unfold Yh; rw [if_pos hb]
   exact ⟨by simp, endS (i := i) (ob := Yj s) (r := .v _) hl0 (Wb _ _) rfl (by simp [J9 hi]) (by simp) rfl (by rw [low]; trivial) ⟨_, ⟨by rw [hR], by rw [hR]; rfl⟩, Zk9⟩⟩
 have hO : s.begun.Ok := ⟨ho.pos, Zj _, ho.err⟩
 obtain ⟨h1, hh⟩ : ∃ h1, h.set i (Yj s.begun) = h1 := ⟨_, rfl⟩
 have hB : h1[i]? = some (Yj s.begun) := hh ▸ g1 _
 have hS : ∀ x, h1.set i x = h.set i x := fun x => by rw [← hh, List.set_set]
 have hT : ∀ x, (h1.set i x).take h.length = h.set i x := fun x => by rw [hS]; exact J6
 have hT2 : ∀ x (l : List Ob), (h1.set i x ++ l).take h.length = h.set i x := fun x l => by rw [hS]; exact take_set_app
 have hL : h1.length = h.length := by rw [← hh, Zi]
 have hB2 := hB
 rw [U8] at hB2
 have hB2 : h1[i]? = some (.cells [.sl 1 (byD s.data), .v (.int .i64 s.pos), .v (.int .i64 s.pos), .v (.int .i64 s.err)]) := hB2
 obtain ⟨k1, k2, k3, k4, k5⟩ := Ya1 hB2
 rcases hN : s.num with _ | ⟨m, c⟩
 · obtain ⟨a, b, hr⟩ := Zq6 (s := s.begun) hN
   repeat' first
    | (with_reducible first | refine sA rfl ?_ | refine sI rfl rfl ?_ | refine sT rfl ?_)
    | (with_reducible refine Y8 ?_; first | refine Y4 ?_ | (refine ao1 rfl rfl fun K HK => ?_; (first | refine Y7 rfl ?_ | skip); simp only [go_sem, ↓reduceIte, Z0, Z2, Z1, Z3, Z4, Z5, Z6, Z7, hB2, k1, Z8] <;> (refine HK _ _ ?_; clear HK K)) | refine ao0 rfl rfl ?_ | (refine ao2 rfl rfl rfl Zc7 (Jc G hG hh hb hi) ?_; rintro _ _ ⟨rfl, rfl⟩) | (refine ao1' rfl fun K HK => ?_; simp only [go_sem, ↓reduceIte, Z0, Z2, Z1, Z3, Z4, Z5, Z6, Z7, hB2, k1, Z8]; refine HK _ _ ?_; clear HK K))
    | ((with_reducible refine Y8 ?_); first | (refine ao2 rfl rfl rfl Zs3 (Zq8 G hG hr hB hO hl) ?_; rintro _ _ ⟨rfl, rfl⟩))
   have hR : Yh s = ([], s.bad) := by unfold Yh; rw [if_neg (fun h => h hb), hN]
   exact ⟨by simp, endS (i := i) (ob := Yj s.bad) (r := .v _) hl0 (Wb _ _) rfl (by simp [Yj, RS.bad, putL_succ, putL_zero, hT]) (by simp [hL]) rfl (by rw [low]; trivial) ⟨_, ⟨by rw [hR], by rw [hR]; rfl⟩, Zk9⟩⟩
 · have hr := Zq5 (s := s.begun) hN
   have hr : s.begun.rawN = .tup [.v (.int .u64 m), .v (.int .i64 ((s.pos : Int) + (c : Int))), .v (.bool true)] := hr
   obtain ⟨hn1, hn2, hn3, hn4⟩ := RS.num_some hN hp
   have w1 : IntKind.i64.wrap ((s.data.length : Int) - ((s.pos : Int) + (c : Int))) = (s.data.length : Int) - ((s.pos : Int) + (c : Int)) := IntWalk.i64_in _ (by omega)
   have w2 : IntKind.u64.wrap ((s.data.length : Int) - ((s.pos : Int) + (c : Int))) = (s.data.length : Int) - ((s.pos : Int) + (c : Int)) := by rw [IntKind.wrap_u64]; omega
   have hR : Yh s = (if s.data.length - (s.pos + c) < m then ([], s.bad) else ((s.data.drop (s.pos + c)).take m, s.go (c + m))) := by unfold Yh; rw [if_neg (fun h => h hb), hN]
   by_cases hm : s.data.length - (s.pos + c) < m
   · have hR2 : Yh s = ([], s.bad) := by rw [hR, if_pos hm]
     repeat' first
      | (with_reducible first | refine sA rfl ?_ | refine sI rfl rfl ?_ | refine sT rfl ?_)
      | (with_reducible refine Xe ?_; first | refine Ya mixd (by kernel_rfl) ?_)
      | (with_reducible refine Y8 ?_; first | refine Y4 ?_ | (refine ao1 rfl rfl fun K HK => ?_; (first | refine Y7 rfl ?_ | skip); simp only [go_sem, ↓reduceIte, Z0, Z2, Z1, Z3, Z4, Z5, Z6, Z7, hB2, k1, w1, w2, Z8]; (first | refine Y6 (fun hq => ?_) (fun hq => ?_) | skip) <;> (refine HK _ _ ?_; clear HK K)) | (refine ao2 rfl rfl rfl Zc7 (Jc G hG hh hb hi) ?_; rintro _ _ ⟨rfl, rfl⟩) | (refine ao1' rfl fun K HK => ?_; simp only [go_sem, ↓reduceIte, Z0, Z2, Z1, Z3, Z4, Z5, Z6, Z7, hB2, k1, w1, w2, Z8]; refine HK _ _ ?_; clear HK K))
      | ((with_reducible refine Y8 ?_); first | (refine ao2 rfl rfl rfl Zs3 (Zq8 G hG hr hB hO hl) ?_; rintro _ _ ⟨rfl, rfl⟩))
      | (exfalso; omega)
     exact ⟨by simp, endS (i := i) (ob := Yj s.bad) (r := .v _) hl0 (Wb _ _) rfl (by simp [Yj, RS.bad, putL_succ, putL_zero, hT]) (by simp [hL]) rfl (by rw [low]; trivial) ⟨_, ⟨by rw [hR2], by rw [hR2]; rfl⟩, Zk9⟩⟩
   · have w3 : IntKind.i64.wrap (m : Int) = (m : Int) := IntWalk.i64_in _ (by omega)
     have w4 : IntKind.i64.wrap ((s.pos : Int) + (c : Int) + (m : Int)) = (s.pos : Int) + (c : Int) + (m : Int) := IntWalk.i64_in _ (by omega)
     have hR2 : Yh s = ((s.data.drop (s.pos + c)).take m, s.go (c + m)) := by rw [hR, if_neg hm]
     repeat' first
      | (with_reducible first | refine sA rfl ?_ | refine sI rfl rfl ?_ | refine sT rfl ?_)
      | (with_reducible refine Xe ?_; first | refine Wq mixd (by kernel_rfl) ?_)
      | (with_reducible refine Y8 ?_; first | refine Y4 ?_ | (refine ao1 rfl rfl fun K HK => ?_; (first | refine Y7 rfl ?_ | skip); simp only [go_sem, ↓reduceIte, Z0, Z2, Z1, Z3, Z4, Z5, Z6, Z7, hB2, k1, k2, k3, k4, k5, w1, w2, w3, w4, Z8]; (first | refine Y6 (fun hq => ?_) (fun hq => ?_) | (refine Zc4 (by simp only [go_sem]) rfl rfl (by first | omega | simp) (by first | omega | simp) (by simp only [go_sem]; omega) ?_) | skip) <;> (refine HK _ _ ?_; clear HK K)) | (refine ao2 rfl rfl rfl Zc7 (Jc G hG hh hb hi) ?_; rintro _ _ ⟨rfl, rfl⟩) | (refine ao1' rfl fun K HK => ?_; simp only [go_sem, ↓reduceIte, Z0, Z2, Z1, Z3, Z4, Z5, Z6, Z7, hB2, k1, k2, k3, k4, k5, w1, w2, w3, w4, Z8]; refine HK _ _ ?_; clear HK K))
      | ((with_reducible refine gd_aS ?_); first | (refine aS1 rfl rfl fun K HK => ?_; (first | refine Y7 rfl ?_ | skip); simp only [go_sem, ↓reduceIte, Z0, Z2, Z1, Z3, Z4, Z5, Z6, Z7, hB2, k1, k2, k3, k4, k5, w1, w2, w3, w4, Z8]; (first | refine Y6 (fun hq => ?_) (fun hq => ?_) | (refine Zc4 (by simp only [go_sem]) rfl rfl (by first | omega | simp) (by first | omega | simp) (by simp only [go_sem]; omega) ?_) | skip) <;> (refine HK _ _ rfl ?_; clear HK K)) | refine Vj rfl rfl rfl (by (first | assumption | (simp only [go_sem, ↓reduceIte, Z0, Z2, Z1, Z3, Z4, Z5, Z6, Z7, hB2, k1, k2, k3, k4, k5, w1, w2, w3, w4, Z8]; rfl))) (by rw [getD_one (by simp only [go_sem, ↓reduceIte, Z0, Z2, Z1, Z3, Z4, Z5, Z6, Z7, hB2, k1, k2, k3, k4, k5, w1, w2, w3, w4, Z8])]; rfl) ?_ | refine aS_lit rfl rfl (by simp only [litD, Um, go_sem, List.length_cons, List.length_nil, Option.map_some, Option.bind_some, and_self, ↓reduceIte, Z0, Z2, Z1, Z3, Z4, Z5, Z6, Z7, hB2, k1, k2, k3, k4, k5, w1, w2, w3, w4, Z8]; rfl) ?_ | refine aS_appR rfl rfl rfl (by (first | assumption | (simp only [go_sem, ↓reduceIte, Z0, Z2, Z1, Z3, Z4, Z5, Z6, Z7, hB2, k1, k2, k3, k4, k5, w1, w2, w3, w4, Z8]; rfl))) (by simp) (by simp only [go_sem]; rfl) rfl (by (rw [Za9]; exact X0 _)) (by (simp; omega)) ?_ | refine Jw (by simp only [List.reverse_cons, List.reverse_nil, List.nil_append, List.cons_append, Vh, chk1]; repeat' (first | exact trivial | refine And.intro ?_ ?_ | exact .inr Xr | exact .inr Wn | exact .inr U1 | (refine .inr ?_; simp [compat, Za2, J1, Jf, nop] <;> omega) | exact .inl (by kernel_rfl))) ?_)
      | ((with_reducible refine Y8 ?_); first | (refine ao2 rfl rfl rfl Zs3 (Zq8 G hG hr hB hO hl) ?_; rintro _ _ ⟨rfl, rfl⟩))
      | (exfalso; omega)
     have e2 : ((s.pos : Int) + (c : Int) + (m : Int)).toNat = s.pos + c + m := by omega
     have e1 : ((s.pos : Int) + (c : Int)).toNat = s.pos + c := by omega
     refine ⟨by simp, endS (i := i) (ob := Yj (s.go (c + m))) (r := .sl 1 _) hl0 (Wb _ _) rfl (by simp [Yj, RS.go, putL_succ, putL_zero, hT, hT2, Int.add_assoc]) (by simp [hL]) (by simp [outD, cvD, cv1, upd_app, hL]; rfl) ?_ ⟨_, ⟨by rw [hR2], rfl⟩, ?_⟩⟩
     · rw [Za9, e1, e2]; exact Yb _ _
     · rw [Za9, e1, e2, hR2, show (s.data.take (s.pos + c + m)).drop (s.pos + c) = (s.data.drop (s.pos + c)).take m by rw [List.drop_take]; congr 1; omega]
       exact fun _ _ _ _ h => h
end
section
attribute [local irreducible] on aOp
attribute [local go_sem] decide_true decide_false Zd Zc
attribute [local simp] byD_len
section
variable {P : Program} {G : Nat → D} {n : Nat} {e : Nat → D} {h : List Ob} {ops : Array Oper} {rest : List Oper} {Q : S → Prop} {t : Option Nat} {ty : TypeId} {pos : String} {aft : Array Edge}
theorem ao_bldG {u t' j n1 E1 k1 : Nat} {xs : List (List D)} (hx : e t' = .buf j n1) (hj : h[j]? = some (.buf E1 k1 xs)) (hn : xs.length = n1)
 (q : ao P G ops (⟨t, .build u #[(0, .tmp t')], ty, pos, aft, none⟩ :: rest) Q ⟨n, upd e t' (.sl k1 xs), h.set j .dead⟩) : ao P G ops (⟨t, .build u #[(0, .tmp t')], ty, pos, aft, none⟩ :: rest) Q ⟨n, e, h⟩ := by
 refine ao_give j t' ?_
 have e1 : cvD (fun i => i == j) h (e t') = .sl k1 xs := by rw [hx]; simp [cvD, cv1, hj, hn]
 rw [e1]
 exact q
end
variable (G : Nat → D) (hG : ∀ g, low 0 (G g))
include hG
theorem newReader0 (l : List UInt8) (hl : l.length ≤ 1000000000) : Does Za G 47 [] [.sl 1 (byD l)] (fun h' r => h' = [.dead, Yj ⟨l, 0, 0, 0⟩] ∧ r = .ptr 1 0) := by
 refine Y5 Tryz.func47 rfl (Z9 rfl) hG fun hl0 _ => ?_
 simp only [Tryz.ntmps47]
 repeat' first
  | (refine ao_bldG rfl rfl (by first | rfl | (simp; done) | (simp; omega)) ?_)
  | refine sA rfl ?_
  | refine Y4 ?_
  | (refine ao1 rfl rfl fun K HK => ?_; simp only [go_sem, ↓reduceIte, Z0, Z2, Z1, Z3, Z4, Z5, Z6, Z7] <;> (refine HK _ _ ?_; clear HK K))
  | refine Js rfl rfl rfl (by (simp only [go_sem, ↓reduceIte, Z0, Z2, Z1, Z3, Z4, Z5, Z6, Z7]; rfl)) (by simp) (by simp only [go_sem]; rfl) rfl (by exact X0 _) (by (simp; omega)) ?_
 refine ⟨.inr rfl, [.ptr 1 0], 2, rfl, by simp, by simp, ?_, ?_, ?_, ?_⟩
 · intro x hx
   have hx : x ∈ [Ob.dead, Yj ⟨l, 0, 0, 0⟩] := hx
   simp at hx
   rcases hx with rfl | rfl
   · trivial
   · exact Wb _ _
 · simp [outD, cvD, cv1, low]
 · rfl
 · simp [outD, cvD, cv1]
theorem newReader1 (l : List UInt8) (hl : l.length ≤ 1000000000) : Does Za G 47 [] [.sl 1 (byD l)] (fun h' r => h' = [Yj ⟨l, 0, 0, 0⟩] ∧ r = .ptr 0 0) := by
 refine (newReader0 G hG l hl).shrink hG ?_
 rintro _ _ ⟨rfl, rfl⟩
 refine ⟨[Yj ⟨l, 0, 0, 0⟩], .ptr 0 0, ⟨[1], ?_, rfl, ?_, Nat.zero_le _, fun k hk => by simp at hk⟩, rfl, rfl⟩
 · have e : rnR [1] (byD l) = some (byD l) := Zm0 _ _ (by have := Yb 0 l; rwa [low] at this)
   simp [rnH, Yj, rnOb, rnL, rnO, e]
 · simp [rnO, pos]
theorem newReader_d (l : List UInt8) (hl : l.length ≤ 1000000000) (h : List Ob) : Does Za G 47 h [.sl 1 (byD l)] (fun h' r => h' = h ++ [Yj ⟨l, 0, 0, 0⟩] ∧ r = .ptr h.length 0) := by
 have la : lowL 0 [D.sl 1 (byD l)] := by rw [lowL, lowL]; exact ⟨Yb _ _, trivial⟩
 have lo : lowL 0 [D.sl 1 (byD l), .v (.int .i64 (0 : Int)), .v (.int .i64 (0 : Int)), .v (.int .i64 (0 : Int))] := by
  simp only [lowL]; exact ⟨Yb _ _, by simp [low], by simp [low], by simp [low], trivial⟩
 refine Does.holes 1 ?_
 have L : Lies (fun _ => h.length) [] (h ++ holes 1) := ⟨fun i ob q => by simp at q, fun i j q => by simp at q, fun ob q => by simp at q⟩
 have F := Does.frame hG L (args := [.sl 1 (byD l)]) la (K1 := fun h' r => h' = [Yj ⟨l, 0, 0, 0⟩] ∧ r = .ptr 0 0) (by
  rintro _ _ ⟨rfl, _⟩
  refine ⟨fun i j hi hj _ => by simp at hi hj; omega, fun j _ hj => ?_⟩
  simp [holes]) (newReader1 G hG l hl)
 rw [Yt _ _ la] at F
 refine F.mono ?_
 rintro _ _ ⟨_, _, ⟨rfl, rfl⟩, rfl, rfl⟩
 have e1 := Yt (fun _ => h.length) _ lo
 simp [plc, Xv, ren, holes, Yj, e1]
theorem rText_d (i : Nat) (s : RS) (h : List Ob) (hi : h[i]? = some (Yj s)) (ho : s.Ok) (hl : s.data.length ≤ 1000000000) :
 Does Za G 50 h [.ptr i 0] (fun h' r => h' = h.set i (Yj (Yh s).2) ∧ r = .v (.string ⟨(Yh s).1.toArray⟩)) := by
 have hil := (Zb.1 hi).1
 refine Y5 Tryz.func50 rfl (Z9 rfl) hG fun hl0 _ => ?_
 simp only [Tryz.ntmps50]
 repeat' first
  | refine sA rfl ?_
  | refine Y4 ?_
  | (refine ao1 rfl rfl fun K HK => ?_; simp only [go_sem, ↓reduceIte, Z0, Z2, Z1, Z3, Z4, Z5, Z6, Z7, hi] <;> (refine HK _ _ ?_; clear HK K))
  | (refine ao2 rfl rfl rfl ent_51 (Zz8 G hG _ _ _ hi ho hl) ?_; rintro _ _ ⟨rfl, rfl⟩)
 refine ao1 rfl rfl fun K HK => ?_
 simp only [go_sem, ↓reduceIte, Z0]
 refine bst_by (by simp only [go_sem]) (by simp only [go_sem]) ?_
 refine HK _ _ ?_; clear HK K
 repeat' first
  | refine Y4 ?_
  | (refine ao1 rfl rfl fun K HK => ?_; simp only [go_sem, ↓reduceIte, Z0, Z2, Z1, Z3, Z4, Z5, Z6, Z7, hi] <;> (refine HK _ _ ?_; clear HK K))
  | refine sA rfl ?_
 exact ⟨by simp, endS (i := i) (ob := Yj (Yh s).2) (r := .v _) hl0 (Wb _ _) rfl (by simp [J6]) (by simp) rfl (by rw [low]; trivial) ⟨rfl, rfl⟩⟩
end
section
attribute [local irreducible] on aOp
attribute [local go_sem] decide_true decide_false Zd Zc
attribute [local simp] byD_len
def dM (A B x w : Ob) (T : List Ob) : List Ob := A :: B :: x :: w :: T
section
variable {A B x w y z : Ob} {T l : List Ob}
theorem dM_0 : (dM A B x w T)[0]? = some A := rfl
theorem dM_1 : (dM A B x w T)[1]? = some B := rfl
theorem dM_2 : (dM A B x w T)[2]? = some x := rfl
theorem dM_3 : (dM A B x w T)[3]? = some w := rfl
theorem dM_s1 : (dM A B x w T).set 1 y = dM A y x w T := rfl
theorem dM_s2 : (dM A B x w T).set 2 y = dM A B y w T := rfl
theorem dM_s3 : (dM A B x w T).set 3 y = dM A B x y T := rfl
theorem dM_app : dM A B x w T ++ l = dM A B x w (T ++ l) := rfl
theorem dM_len : (dM A B x w T).length = T.length + 4 := rfl
theorem dM_l : (dM A B x w (T ++ [y]))[T.length + 4]? = some y := by simp [dM]
theorem dM_sl : (dM A B x w (T ++ [y])).set (T.length + 4) z = dM A B x w (T ++ [z]) := by simp [dM]
theorem dM_l2 : (dM A B x w (T ++ [y, z]))[T.length + 4]? = some y := by simp [dM]
theorem dM_sl2 {y' : Ob} : (dM A B x w (T ++ [y, z])).set (T.length + 4) y' = dM A B x w (T ++ [y', z]) := by simp [dM]
theorem dM_l4 : (dM A B x w (T ++ [y, z]))[T.length + 1 + 4]? = some z := by simp [dM]
theorem dM_l3 : (dM A B x w (T ++ [y, z]))[(T ++ [y]).length + 4]? = some z := by simp [dM]
end
def zC : List D := [.v (.int .i64 0), .v (.int .i64 0), .v (.int .i64 0), .v (.slice none 0 0), .v (.int .i64 0), .v (.slice none 0 0)]
theorem zC_weak : ∀ (hd : List Value) (hh : List Ob) (W : World) (u : Value), rd hd hh W (.tup [.agg zC, .v (.int .i64 2)]) u → rd hd hh W (.tup [.agg (cmdX zeroC), .v (.int .i64 2)]) u := fun hd hh W u q => by
 simp only [rd, rdL, zC] at q
 obtain ⟨cs, rfl, u1, t1, e1, ⟨ar, rfl, a0, b0, f0, rfl, a1, b1, f1, rfl, a2, b2, f2, rfl, a3, b3, f3, g3, a4, b4, f4, rfl, a5, b5, f5, g5, rfl⟩, u2, t2, e2, rfl, rfl⟩ := q
 subst g3 g5 f5 f4 f3 f2 f1 e2
 simp only [rd, rdL, cmdX, zeroC]
 refine ⟨cs, rfl, _, _, e1, ⟨ar, rfl, _, _, f0, rfl, _, _, rfl, rfl, _, _, rfl, rfl, _, _, rfl, ?_, _, _, rfl, rfl, _, _, rfl, ?_, rfl⟩, _, _, rfl, rfl, rfl⟩
 · have := Zk9 (k := 2) hd hh W (.slice none 0 0) (by rw [rd]); rw [rd] at this; exact this
 · have := Zk9 (k := 1) hd hh W (.slice none 0 0) (by rw [rd]); rw [rd] at this; exact this
variable (G : Nat → D) (hG : ∀ g, low 0 (G g))
include hG
theorem decode_p (b : List UInt8) (hb : b.length ≤ 100000000) : Does Za G 18 [] [.sl 1 (byD b)] (fun h' r => h' = [] ∧ r = .tup [.agg (cmdX (decC b).1), .v (.int .i64 (decC b).2)]) := by
 apply Does.weak
 obtain ⟨o1, k1, _⟩ := Zm5 (newR_ok b)
 obtain ⟨o2, k2, _⟩ := Zm5 o1
 obtain ⟨o3, k3, _⟩ := Zm5 o2
 obtain ⟨o4, k4, hN⟩ := rdCount_ok o3
 refine Y5 Tryz.func18 rfl (Z9 rfl) hG fun hl0 _ => ?_
 simp only [Tryz.ntmps18]
 repeat' first
  | refine sA rfl ?_
  | refine Y4 ?_
  | (refine ao1 rfl rfl fun K HK => ?_; simp only [go_sem, ↓reduceIte, Z0, Z2, Z1, Z3, Z4, Z5, Z6, Z7] <;> (refine HK _ _ ?_; clear HK K))
  | (refine ao2 rfl rfl rfl ent_47 (newReader_d G hG b (by omega) _) ?_; rintro _ _ ⟨rfl, rfl⟩)
  | (refine ao2 rfl rfl rfl ent_48 (rInt_d G hG 1 ⟨b, 0, 0, 0⟩ _ rfl (newR_ok b) (by show b.length ≤ _; omega)) ?_; rintro _ _ ⟨rfl, rfl⟩)
  | (refine ao2 rfl rfl rfl ent_48 (rInt_d G hG 1 _ _ rfl o1 (by rw [k1]; show b.length ≤ _; omega)) ?_; rintro _ _ ⟨rfl, rfl⟩)
  | (refine ao2 rfl rfl rfl ent_48 (rInt_d G hG 1 _ _ rfl o2 (by rw [k2, k1]; show b.length ≤ _; omega)) ?_; rintro _ _ ⟨rfl, rfl⟩)
  | (refine ao2 rfl rfl rfl ent_49 (rCount_d G hG 1 _ _ rfl o3 (by rw [k3, k2, k1]; show b.length ≤ _; omega)) ?_; rintro _ _ ⟨rfl, rfl⟩)
  | (refine ao1' rfl fun K HK => ?_; simp only [go_sem, ↓reduceIte, Z0, Z2, Z1, Z3, Z4, Z5, Z6, Z7]; refine HK _ _ ?_; clear HK K)
 generalize e1 : Yo ⟨b, 0, 0, 0⟩ = r1 at o1 k1 o2 k2 o3 k3 o4 k4 hN ⊢
 generalize e2 : Yo r1.2 = r2 at o2 k2 o3 k3 o4 k4 hN ⊢
 generalize e3 : Yo r2.2 = r3 at o3 k3 o4 k4 hN ⊢
 generalize e4 : Ym r3.2 = r4 at o4 k4 hN ⊢
 have hd : r4.2.data = b := by rw [k4, k3, k2, k1]
 have hN' : r4.1 ≤ b.length := by rw [k3, k2, k1] at hN; exact hN
 refine aw_nilcell 72 2 2 [.v (.int .i64 r1.1), .v (.int .i64 r2.1), .v (.int .i64 r3.1)] [.v (.int .i64 0), .v (.slice none 0 0)] rfl ?_
 refine Yr (fun m e h' => ∃ (k : Nat) (acc : List (ByteArray × List UInt8)) (s : RS) (T : List Ob), k ≤ r4.1 ∧ m = r4.1 - k ∧ (acc ++ (Zd5 rdWr (r4.1 - k) s).1, (Zd5 rdWr (r4.1 - k) s).2) = Zd5 rdWr r4.1 r4.2 ∧ s.Ok ∧ s.data = b ∧ acc.length = k ∧ h' = dM (.cells [.v (.int .i64 0), .v (.int .i64 0), .v (.int .i64 0), .v (.slice none 0 0), .v (.int .i64 0), .v (.slice none 0 0)]) (Yj s) (.cells [.v (.int .i64 r1.1), .v (.int .i64 r2.1), .v (.int .i64 r3.1), .buf 3 k, .v (.int .i64 0), .v (.slice none 0 0)]) (.buf 72 2 (acc.map wrX)) T ∧ e 2 = .ptr 0 0 ∧ e 4 = .ptr 1 0 ∧ e 5 = .ptr 2 0 ∧ e 19 = .v (.int .i64 r4.1) ∧ e 20 = .v (.int .i64 k)) r4.1 ⟨0, [], r4.2, [], Nat.zero_le _, rfl, rfl, o4, hd, rfl, rfl, rfl, rfl, rfl, rfl, rfl⟩ ?_
 rintro m e h' ⟨k, acc, s, T, hk, rfl, hR, ho, hsd, hal, rfl, e2', e4', e5', e19, e20⟩
 have hsl : s.data.length ≤ 1000000000 := by rw [hsd]; omega
 by_cases hlt : k < r4.1
 · have ⟨ob, kb, hbl⟩ := Zj1 ho
   have ⟨oc, kc, hcl⟩ := Zj1 ob
   have hbl2 : (Yh s).2.data.length ≤ 1000000000 := by rw [kb]; exact hsl
   have wk : IntKind.i64.wrap ((k : Int) + 1) = ((k + 1 : Nat) : Int) := IntWalk.i64_in _ (by omega)
   repeat' first
    | (refine Wf rfl rfl rfl rfl dM_3 (by simp [hal]) (by simp only [go_sem]; rfl) (by first | exact dM_l4 | exact dM_l3 | exact dM_l) (by simp) (by simp [X9, D.one, Value.oneCell']) (by simp; omega) ?_)
    | refine sA rfl ?_ | refine sI rfl rfl ?_ | refine sT rfl ?_
    | refine Y4 ?_
    | (refine ao1 rfl rfl fun K HK => ?_; simp only [go_sem, ↓reduceIte, Z0, Z2, Z1, Z3, Z4, Z5, Z6, Z7, e2', e4', e5', e19, e20, wk, dM_0, dM_1, dM_2, dM_3, dM_s1, dM_s2, dM_s3, dM_app, dM_len, dM_l, dM_sl, dM_l2, dM_sl2]; (first | refine Y6 (fun hq => ?_) (fun hq => ?_) | skip) <;> (refine HK _ _ ?_; clear HK K))
    | (refine ao2 rfl rfl rfl ent_50 (rText_d G hG 1 s _ dM_1 ho hsl) ?_; rintro _ _ ⟨rfl, rfl⟩)
    | (refine ao2 rfl rfl rfl ent_51 (Zz8 G hG 1 (Yh s).2 _ (by first | exact dM_1 | rfl) ob hbl2) ?_; rintro _ _ ⟨rfl, rfl⟩)
    | (refine ao1' rfl fun K HK => ?_; simp only [go_sem, ↓reduceIte, Z0, Z2, Z1, Z3, Z4, Z5, Z6, Z7, e2', e4', e5', e19, e20, wk, dM_0, dM_1, dM_2, dM_3, dM_s1, dM_s2, dM_s3, dM_app, dM_len, dM_l, dM_sl, dM_l2, dM_sl2]; refine HK _ _ ?_; clear HK K)
    | (exfalso; omega)
   refine ⟨rfl, r4.1 - (k + 1), by omega, k + 1, acc ++ [(rdWr s).1], (rdWr s).2, T ++ [.cells (wrX (rdWr s).1), .buf 72 2 [wrX (rdWr s).1]], by omega, rfl, ?_, oc, (kc.trans (kb.trans hsd) : (Yh (Yh s).2).2.data = b), by simp [hal], ?_, by simp [upd, e2'], by simp [upd, e4'], by simp [upd, e5'], by simp [upd, e19], rfl⟩
   · rw [← hR, show r4.1 - k = r4.1 - (k + 1) + 1 by omega, Zd5]
     simp only [Zh, List.singleton_append]
   · exact congrArg (fun x => dM (.cells [.v (.int .i64 0), .v (.int .i64 0), .v (.int .i64 0), .v (.slice none 0 0), .v (.int .i64 0), .v (.slice none 0 0)]) (Yj (rdWr s).2) (.cells [.v (.int .i64 r1.1), .v (.int .i64 r2.1), .v (.int .i64 r3.1), .buf 3 (k + 1), .v (.int .i64 0), .v (.slice none 0 0)]) (  .buf 72 2 x) (T ++ [.cells (wrX (rdWr s).1), .buf 72 2 [wrX (rdWr s).1]])) (by simp : acc.map wrX ++ [wrX (rdWr s).1] = (acc ++ [(rdWr s).1]).map wrX)
 have hk' : k = r4.1 := by omega
 subst hk'
 rw [Nat.sub_self, Zd5, List.append_nil] at hR
 have hA : Zc6 ⟨b, 0, 0, 0⟩ = (⟨r1.1, r2.1, r3.1, acc, (Yo s).1, (Yh (Yo s).2).1⟩, (Yh (Yo s).2).2) := by
  unfold Zc6 rdCw Zq2
  simp only [e1, e2, e3, e4, ← hR]
 have ⟨o5, k5, _⟩ := Zm5 ho
 have ⟨o6, k6, _⟩ := Zj1 o5
 have l5 : (Yo s).2.data.length ≤ 1000000000 := by rw [k5]; exact hsl
 have l6 : (Yh (Yo s).2).2.data.length ≤ 1000000000 := by rw [k6, k5]; exact hsl
 repeat' first
  | (refine ao_ldgive (j := 3) (d' := .agg (cmdX ⟨r1.1, r2.1, r3.1, acc, (Yo s).1, (Yh (Yo s).2).1⟩)) rfl rfl (by first | rfl | (simp only [go_sem, e5']; rfl)) dM_2 (by rw [getD_agg' (by simp only [go_sem])]; simp only [go_sem]; rfl) (by simp [cvD, cv1, dM_3, hal, cmdX]) ?_)
  | (refine ao1' rfl fun K HK => ?_; refine Yd3 (i := 0) (es := cmdX ⟨r1.1, r2.1, r3.1, acc, (Yo s).1, (Yh (Yo s).2).1⟩) (by first | rfl | (simp only [go_sem, e2']; rfl)) rfl rfl (by simp only [go_sem]; rfl) rfl ?_; refine HK _ _ ?_; clear HK K)
  | refine sA rfl ?_ | refine sI rfl rfl ?_ | refine sT rfl ?_
  | refine Y4 ?_
  | (refine ao1 rfl rfl fun K HK => ?_; simp only [go_sem, ↓reduceIte, Z0, Z2, Z1, Z3, Z4, Z5, Z6, Z7, e2', e4', e5', e19, e20, dM_0, dM_1, dM_2, dM_3, dM_s1, dM_s2, dM_s3, dM_app, dM_len, dM_l, dM_sl, dM_l2, dM_sl2]; (first | refine Y6 (fun hq => ?_) (fun hq => ?_) | refine W7 (fun hq => ?_) (fun hq => ?_) | skip) <;> (refine HK _ _ ?_; clear HK K))
  | (refine ao2 rfl rfl rfl ent_48 (rInt_d G hG 1 s _ dM_1 ho hsl) ?_; rintro _ _ ⟨rfl, rfl⟩)
  | (refine ao2 rfl rfl rfl ent_51 (Zz8 G hG 1 (Yo s).2 _ (by first | exact dM_1 | rfl) o5 l5) ?_; rintro _ _ ⟨rfl, rfl⟩)
  | (refine ao2 rfl rfl rfl ent_52 (rEnd_d G hG 1 (Yh (Yo s).2).2 _ (by first | exact dM_1 | rfl) o6 l6) ?_; rintro _ _ ⟨rfl, rfl⟩)
  | (refine ao1' rfl fun K HK => ?_; simp only [go_sem, ↓reduceIte, Z0, Z2, Z1, Z3, Z4, Z5, Z6, Z7, e2', e4', e5', e19, e20, dM_0, dM_1, dM_2, dM_3, dM_s1, dM_s2, dM_s3, dM_app, dM_len, dM_l, dM_sl, dM_l2, dM_sl2]; refine HK _ _ ?_; clear HK K)
  | (exfalso; omega)
 · have hdec := decC_yes hA hq o6.pos (by rw [k6, k5, hsd])
   rw [hdec]
   exact ⟨.inr rfl, endD (ds := [.agg (cmdX ⟨r1.1, r2.1, r3.1, acc, (Yo s).1, (Yh (Yo s).2).1⟩), .v (.int .i64 0)]) (r := .tup [.agg (cmdX ⟨r1.1, r2.1, r3.1, acc, (Yo s).1, (Yh (Yo s).2).1⟩), .v (.int .i64 0)]) hl0 (Zv3 (i := 0) (o := 0) (by simp [upd, e2']) rfl (by rw [getD_agg' (by simp only [go_sem])]; simp only [go_sem]; rfl) rfl) (by simp) (by simp) rfl (by rw [low, lowL, lowL, lowL]; exact ⟨W0 _ _, by rw [low]; trivial, trivial⟩) ⟨_, ⟨rfl, rfl⟩, fun _ _ _ _ q => q⟩⟩
 · rw [decC_no hA hq (by rw [k6, k5, hsd])]
   exact ⟨.inr rfl, endD (ds := [.agg zC, .v (.int .i64 2)]) (r := .tup [.agg zC, .v (.int .i64 2)]) hl0 (Zv3 (i := 0) (o := 0) (by simp [upd, e2']) rfl (by rw [getD_agg' (by simp only [go_sem])]; simp only [go_sem]; rfl) rfl) (by simp) (by simp) rfl (by simp [low, lowL, zC]) ⟨_, ⟨rfl, rfl⟩, zC_weak⟩⟩
end
section
attribute [local irreducible] on aOp
attribute [local go_sem] decide_true decide_false Zd Zc
attribute [local simp] byD_len
def rG (rows : List (List D)) (T : List Ob) : List Ob := .buf 5 1 rows :: T
section
variable {rows r2 : List (List D)} {T l : List Ob}
theorem rG_0 : (rG rows T)[0]? = some (.buf 5 1 rows) := rfl
theorem V2 : (rG rows T).set 0 (.buf 5 1 r2) = rG r2 T := rfl
theorem V4 : (rG rows T ++ l)[0]? = some (.buf 5 1 rows) := rfl
theorem V3 : (rG rows T ++ l).set 0 (.buf 5 1 r2) = rG r2 (T ++ l) := rfl
end
theorem endB {res : Array ResultVar} {K : List Ob → D → Prop} {l : List UInt8} {n : Nat} {rows : List (List D)} {T : List Ob} {s : S} (h1 : resD Za s res.toList = some [.buf 0 n]) (h2 : s.h = rG rows T) (h3 : n = l.length) (h4 : rows = byD l) (hK : K [.buf 5 1 (byD l)] (.buf 0 l.length)) : EndD Za res ([] : List Ob).length K s := by
 subst h3 h4
 have e : s.h.take 1 = [.buf 5 1 (byD l)] := by rw [h2]; rfl
 refine ⟨[.buf 0 l.length], 1, h1, Nat.zero_le _, by rw [h2]; exact Nat.le_add_left 1 T.length, ?_, ?_, ?_⟩
 · rw [e]
   intro x hx
   rw [List.mem_singleton.1 hx]
   exact Yb 1 l
 · simp [outD, cvD, cv1, low]
 · rw [e]; simpa [outD, cvD, cv1] using hK
theorem rem_byte (m : Nat) : IntKind.u8.wrap (IntKind.u8.wrap ((m : Int).tmod 128) + 128) = ((UInt8.ofNat (m % 128 + 128)).toNat : Int) := by
 have e : (m : Int).tmod 128 = ((m % 128 : Nat) : Int) := by rw [Int.tmod_eq_emod_of_nonneg (by omega)]; omega
 rw [e, Zo0, Yc6 _ (by omega)]
 have : ((m % 128 % 256 : Nat) : Int) + 128 = ((m % 128 % 256 + 128 : Nat) : Int) := by omega
 rw [this, Zo0]; omega
theorem quo128 {m : Nat} (h : m < 18446744073709551616) : IntKind.u64.wrap ((m : Int).tdiv 128) = ((m / 128 : Nat) : Int) := by
 have e : (m : Int).tdiv 128 = ((m / 128 : Nat) : Int) := by rw [Int.tdiv_eq_ediv_of_nonneg (by omega)]; omega
 rw [e, IntKind.wrap_u64]; omega
variable (G : Nat → D) (hG : ∀ g, low 0 (G g))
include hG
theorem rUint0 (l : List UInt8) (n : Nat) (hn : n < 18446744073709551616) (hl : l.length ≤ 100000000) :
 Does Za G 85 [] [.sl 1 (byD l), .v (.int .u64 n)] (fun h' r => h' = [.buf 5 1 (byD (l ++ X3 n))] ∧ r = .buf 0 (l ++ X3 n).length) := by
 refine Y5 Tryz.func85 rfl (Z9 rfl) hG fun hl0 _ => ?_
 simp only [Tryz.ntmps85]
 repeat' first
  | refine sA rfl ?_
  | refine Y4 ?_
  | (refine ao1 rfl rfl fun K HK => ?_; simp only [go_sem, ↓reduceIte, Z0, Z2, Z1, Z3, Z4, Z5, Z6, Z7, rG_0, V2, V4, V3] <;> (refine HK _ _ ?_; clear HK K))
  | refine Js rfl rfl rfl (by (simp only [go_sem, ↓reduceIte, Z0, Z2, Z1, Z3, Z4, Z5, Z6, Z7, rG_0, V2, V4, V3]; rfl)) (by simp) (by simp only [go_sem]; rfl) rfl (by exact X0 _) (by (simp; omega)) ?_
 refine Yr (fun m e h' => ∃ (k n0 : Nat) (cur : List UInt8) (T : List Ob), m = k ∧ k < 18446744073709551616 ∧ n0 = cur.length ∧ cur ++ X3 k = l ++ X3 n ∧ h' = rG (byD cur) T ∧ e 1 = .v (.int .u64 k) ∧ e 5 = .buf 0 n0) n ⟨n, _, l, [], rfl, hn, (by simp), rfl, rfl, rfl, rfl⟩ ?_
 rintro m e h' ⟨k, n0, cur, T, rfl, hk, hn0, hE, rfl, e1, e5⟩
 have hc : cur.length ≤ 100000010 := by
  have h1 := congrArg List.length hE
  rw [List.length_append, List.length_append] at h1
  have := (X7 n hn).1
  omega
 subst hn0
 repeat' first
  | refine sA rfl ?_ | refine sI rfl rfl ?_ | refine sT rfl ?_ | refine sB rfl ?_
  | refine Y4 ?_
  | (refine ao1 rfl rfl fun K HK => ?_; simp only [go_sem, ↓reduceIte, Z0, Z2, Z1, Z3, Z4, Z5, Z6, Z7, e1, e5, rG_0, V2, V4, V3, Int.reduceBEq]; (first | refine Y6 (fun hq => ?_) (fun hq => ?_) | skip) <;> (refine HK _ _ ?_; clear HK K))
  | refine Wf rfl rfl rfl rfl (by (simp only [go_sem, ↓reduceIte, Z0, Z2, Z1, Z3, Z4, Z5, Z6, Z7, e1, e5, rG_0, V2, V4, V3, Int.reduceBEq]; rfl)) (by simp) (by simp only [go_sem]; rfl) (by (simp only [go_sem, ↓reduceIte, Z0, Z2, Z1, Z3, Z4, Z5, Z6, Z7, e1, e5, rG_0, V2, V4, V3, Int.reduceBEq]; rfl)) (by simp) (by (simp [X9, D.one, Value.oneCell']; done)) (by (simp; omega)) ?_
 · have hc' : byD cur ++ [[.v (.int .u8 (IntKind.u8.wrap (IntKind.u8.wrap ((m : Int).tmod 128) + 128)))]] = byD (cur ++ [UInt8.ofNat (m % 128 + 128)]) := Yc8 _ _ (rem_byte m)
   refine ⟨rfl, m / 128, by omega, m / 128, _, cur ++ [UInt8.ofNat (m % 128 + 128)], _, rfl, by omega, ?_, ?_, congrArg (fun r => rG r _) hc', ?_, rfl⟩
   · simp
   · rw [Zh, ← hE, Zb1 (n := m) (by omega)]; rfl
   · simp only [upd, quo128 hk]; rfl
 · refine ⟨.inr rfl, endB (l := l ++ X3 n) (n := cur.length + 1) rfl rfl ?_ ?_ ⟨rfl, rfl⟩⟩
   · rw [← hE, Wg (by omega)]; simp
   · rw [← hE, Wg (by omega), Yc8 _ (UInt8.ofNat m)]
     rw [Zo0, Yc6 _ (by omega)]; omega
theorem rUint_z {l : List UInt8} {n : Nat} {Z : Int} (hz : Z = (n : Int)) (hn : n < 18446744073709551616) (hl : l.length ≤ 100000000) :
 Does Za G 85 [] [.sl 1 (byD l), .v (.int .u64 Z)] (fun h' r => h' = [.buf 5 1 (byD (l ++ X3 n))] ∧ r = .buf 0 (l ++ X3 n).length) := hz ▸ rUint0 G hG l n hn hl
omit hG in
theorem zz_p {n : Int} (hn : I64 n) (h0 : 0 ≤ n) : IntKind.u64.wrap (2 * IntKind.u64.wrap n) = ((zz n : Nat) : Int) := by
 obtain ⟨h1, h2⟩ := hn
 unfold zz
 rw [if_pos h0, IntKind.wrap_u64, IntKind.wrap_u64]; omega
omit hG in
theorem zz_n {n : Int} (hn : I64 n) (h0 : ¬ 0 ≤ n) : IntKind.u64.wrap (IntKind.u64.wrap (2 * IntKind.u64.wrap (IntKind.i64.wrap (0 - IntKind.i64.wrap (n + 1)))) + 1) = ((zz n : Nat) : Int) := by
 obtain ⟨h1, h2⟩ := hn
 have e1 : IntKind.i64.wrap (n + 1) = n + 1 := IntWalk.i64_in _ (by omega)
 have e2 : IntKind.i64.wrap (0 - (n + 1)) = 0 - (n + 1) := IntWalk.i64_in _ (by omega)
 unfold zz
 rw [e1, e2, if_neg h0, IntKind.wrap_u64, IntKind.wrap_u64, IntKind.wrap_u64]; omega
theorem rInt0 (l : List UInt8) (n : Int) (hn : I64 n) (hl : l.length ≤ 100000000) :
 Does Za G 86 [] [.sl 1 (byD l), .v (.int .i64 n)] (fun h' r => h' = [.buf 5 1 (byD (l ++ intE n))] ∧ r = .buf 0 (l ++ intE n).length) := by
 have hz := zz_lt n hn.1 hn.2
 refine Y5 Tryz.func86 rfl (Z9 rfl) hG fun hl0 _ => ?_
 simp only [Tryz.ntmps86]
 by_cases h0 : 0 ≤ n
 · skip
   repeat' first
    | refine sA rfl ?_ | refine sI rfl rfl ?_ | refine sT rfl ?_
    | refine Y4 ?_
    | (refine ao1 rfl rfl fun K HK => ?_; simp only [go_sem, ↓reduceIte, Z0, Z2, Z1, Z3, Z4, Z5, Z6, Z7, h0] <;> (refine HK _ _ ?_; clear HK K))
    | (refine ao2 rfl rfl rfl ent_85 (rUint_z G hG (zz_p hn h0) hz hl) ?_; rintro _ _ ⟨rfl, rfl⟩)
   exact ⟨.inr rfl, endB (l := l ++ intE n) rfl (T := []) rfl (by simp [intE]) rfl ⟨rfl, rfl⟩⟩
 · skip
   repeat' first
    | refine sA rfl ?_ | refine sI rfl rfl ?_
    | refine Y4 ?_
    | (refine ao1 rfl rfl fun K HK => ?_; simp only [go_sem, ↓reduceIte, Z0, Z2, Z1, Z3, Z4, Z5, Z6, Z7, h0] <;> (refine HK _ _ ?_; clear HK K))
    | (refine ao2 rfl rfl rfl ent_85 (rUint_z G hG (zz_n hn h0) hz hl) ?_; rintro _ _ ⟨rfl, rfl⟩)
   exact ⟨.inr rfl, endB (l := l ++ intE n) rfl (T := []) rfl (by simp [intE]) rfl ⟨rfl, rfl⟩⟩
theorem rText0 (l : List UInt8) (s : ByteArray) (hs : s.size ≤ 10000000) (hl : l.length ≤ 80000000) :
 Does Za G 56 [] [.sl 1 (byD l), .v (.string s)] (fun h' r => h' = [.buf 5 1 (byD (l ++ Yv s))] ∧ r = .buf 0 (l ++ Yv s).length) := by
 have hu := (X7 s.size (by omega)).1
 refine Y5 Tryz.func56 rfl (Z9 rfl) hG fun hl0 _ => ?_
 simp only [Tryz.ntmps56]
 repeat' first
  | refine sA rfl ?_
  | refine Y4 ?_
  | (refine ao1 rfl rfl fun K HK => ?_; simp only [go_sem, ↓reduceIte, Z0, Z2, Z1, Z3, Z4, Z5, Z6, Z7, lenU (a := s.size) (by omega)] <;> (refine HK _ _ ?_; clear HK K))
  | refine Js rfl rfl rfl (by (simp only [go_sem, ↓reduceIte, Z0, Z2, Z1, Z3, Z4, Z5, Z6, Z7, lenU (a := s.size) (by omega)]; rfl)) (by simp) (by simp only [go_sem]; rfl) rfl (by exact X0 _) (by (simp; omega)) ?_
  | (refine ao2 rfl rfl rfl ent_85 (rUint0 G hG l _ (by omega) (by omega)) ?_; rintro _ _ ⟨rfl, rfl⟩)
 exact ⟨.inr rfl, endB (l := l ++ Yv s) rfl (T := []) rfl (by simp [Yv]; try omega) (by rw [byD_app, Zh]; rfl) ⟨rfl, rfl⟩⟩
end
end Go.Proofs.YtgkjcmglcnhpaaaGreatDoor
