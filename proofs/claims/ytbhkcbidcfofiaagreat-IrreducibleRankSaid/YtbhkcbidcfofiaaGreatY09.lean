/-
  What the statements of the chapter share, part 09: N3, N4, F5.
-/
import Derived.Test.YtbhkcbidcfofiaaGreatY08
import Derived.Lib.AppendZeros
set_option linter.unusedVariables false
set_option linter.unusedSimpArgs false
set_option maxRecDepth 100000
set_option maxHeartbeats 8000000
namespace Go.Proofs.YtbhkcbidcfofiaaGreat
open _root_.Array renaming toArray_toList → Z3
open _root_.Bool renaming and_eq_true → Zc
open _root_.List renaming getElem?_eq_getElem → Z0, getElem?_eq_some_iff → Z1, replicate → Z2, getElem?_append_left → Z4, mem_replicate → Z5, mem_map → Z7, getElem?_append_right → Za, flatten_cons → Zb, mem_append → Ze, mem_range → Zf, map_cons → Zg
open _root_.Nat renaming mul_le_mul_right → Z8, lt_or_ge → Z9, succ_mul → Zd
open _root_.Option renaming map_eq_some_iff → Z6
open Go.RowKit
section
variable {P : Program} {G : Nat → D} {e : Nat → D} {h : List Ob} {w : World} {hd : List Value} {p : Nat → Bool}
theorem Zy7 {α : Type} {k : Nat} : ∀ (xs : List (List α)) (_ : ∀ row ∈ xs, row.length = k) (a : Nat), (xs.take a).flatten = xs.flatten.take (a * k)
 | [], _, a => by simp
 | x :: t, _, 0 => by simp
 | x :: t, hx, a + 1 => by
  have e := hx x (by simp)
  rw [List.take_succ_cons, Zb, Zb, Zy7 t (fun row hr => hx row (by simp [hr])) a, List.take_append, e, show (a + 1) * k - k = a * k by rw [Zd]; omega, List.take_of_length_le (l := x) (by rw [e, Zd]; omega)]
theorem flat_drop {α : Type} {k : Nat} : ∀ (xs : List (List α)) (_ : ∀ row ∈ xs, row.length = k) (a : Nat), (xs.drop a).flatten = xs.flatten.drop (a * k)
 | [], _, a => by simp
 | x :: t, _, 0 => by simp
 | x :: t, hx, a + 1 => by
  have e := hx x (by simp)
  rw [List.drop_succ_cons, Zb, flat_drop t (fun row hr => hx row (by simp [hr])) a, List.drop_append, e, show (a + 1) * k - k = a * k by rw [Zd]; omega, List.drop_of_length_le (l := x) (by rw [e, Zd]; omega), List.nil_append]
theorem Ok.reown (o : Ok G w hd h p) {i n b E k : Nat} {xs : List (List D)} {u : Value} (hi : h[i]? = some (.buf E k xs)) (hn : xs.length = n) (hb : b ≤ n) (q : rd hd h (only p w) (.win i n 0 b) u) :
 Ok G w (hd ++ [u]) (h.set i .dead ++ [.buf E k (xs.take b)]) p ∧ Evo w hd h p w (hd ++ [u]) (h.set i .dead ++ [.buf E k (xs.take b)]) p ∧ rd (hd ++ [u]) (h.set i .dead ++ [.buf E k (xs.take b)]) (only p w) (.buf h.length b) u := by
 have hih := (Z1.1 hi).1
 rw [rd] at q
 obtain ⟨hsh, hus, q⟩ := q
 obtain ⟨_, _, q⟩ := (q E k xs hi).2 hn
 have hid : i < hd.length := by rw [o.len]; exact hih
 obtain ⟨v, hv, hblk, hown⟩ : ∃ v, hd[i]? = some v ∧ (∀ c, blk u = some c → blk v = some c) ∧ ∀ cs, w.ownsRow 0 E k v n cs → w.ownsRow 0 E k u b (cs.take (b * k)) := by
  rcases q with ⟨rfl, hn0⟩ | ⟨B, cap, q0, hv, rfl, hq⟩
  · refine ⟨_, Z0 hid, fun c hc => (by cases hc), fun cs hcs => ?_⟩
    have : b = 0 := by omega
    subst this
    exact ⟨by simp, .inl ⟨rfl, rfl⟩⟩
  · have := hq (.inr rfl)
    rw [Nat.zero_mul] at this
    subst this
    refine ⟨_, hv, fun c hc => hc, fun cs hcs => ?_⟩
    rcases hcs.2 with ⟨h5, _⟩ | ⟨g, cap', cur, h5, hb0, hg, hnc, hcm, hcs2, htake⟩
    · cases h5
    · cases h5
      have hbk : b * k ≤ n * k := Z8 _ hb
      refine ⟨by rw [List.length_take, hcs.1]; omega, .inr ⟨B, cap, cur, by simp, hb0, hg, by omega, hcm, hcs2, ?_⟩⟩
      rw [← htake, List.take_take, Nat.min_eq_left hbk]
 have gi : ∀ {j : Nat} {ob : Ob}, (h.set i .dead ++ [Ob.buf E k (xs.take b)])[j]? = some ob → (j < h.length ∧ ((j = i ∧ ob = .dead) ∨ (j ≠ i ∧ h[j]? = some ob))) ∨ (j = h.length ∧ ob = .buf E k (xs.take b)) := fun {j ob} q => by
  rcases Z9 j h.length with hj | hj
  · rw [Z4 (by simpa using hj)] at q
    refine .inl ⟨hj, ?_⟩
    by_cases hji : j = i
    · subst hji; rw [List.getElem?_set_self hj] at q; cases q; exact .inl ⟨rfl, rfl⟩
    · rw [List.getElem?_set_ne (Ne.symm hji)] at q; exact .inr ⟨hji, q⟩
  · rw [Za (by simpa using hj), List.length_set] at q
    have : j - h.length = 0 := by
     have := (Z1.1 q).1
     simp at this; omega
    rw [this] at q; simp at q
    exact .inr ⟨by omega, q.symm⟩
 have gu : ∀ {j : Nat} {x : Value}, j < h.length → (hd ++ [u])[j]? = some x → hd[j]? = some x := fun {j x} hj q => by rwa [Z4 (by rw [o.len]; exact hj)] at q
 have gn : ∀ {x : Value}, (hd ++ [u])[h.length]? = some x → x = u := fun {x} q => by rw [← o.len] at q; simp at q; exact q.symm
 have hob := o.ob i _ v hi hv
 obtain ⟨cs, o1, o2, o3, o4⟩ := hob
 rw [hn] at o1
 have e : Evo w hd h p w (hd ++ [u]) (h.set i .dead ++ [.buf E k (xs.take b)]) p := by
  refine ⟨⟨rfl, Nat.le_refl _⟩, rfl, rfl, Nat.le_refl _, fun _ _ _ => rfl, fun _ _ q => q, fun _ _ q => .inl q, fun c _ ⟨j, ob, x, q1, q2, q3, q4⟩ => ?_, by simp, fun j B q => ?_, fun j B q => ?_, fun j q => (q.set rfl).app, fun j E' k' ys hu q => ?_⟩
  · rcases gi q1 with ⟨hj, ⟨_, rfl⟩ | ⟨_, hj2⟩⟩ | ⟨rfl, rfl⟩
    · cases q2
    · exact ⟨j, ob, x, hj2, q2, gu hj q3, q4⟩
    · rw [gn q3] at q4; exact ⟨i, _, v, hi, rfl, hv, hblk _ q4⟩
  · rw [Z4 (Z1.1 q).1]; exact q
  · rw [Z4 (Z1.1 q).1]; exact q
  · have hj := hu.lt
    rcases gi q with ⟨_, ⟨_, h5⟩ | ⟨_, hj2⟩⟩ | ⟨h5, _⟩
    · cases h5
    · exact ⟨E', ys, hj2, Nat.le_refl _, fun _ => by rw [Z4 (by rw [o.len]; exact hj)]⟩
    · omega
 refine ⟨⟨by simp [o.len], fun j ob x q1 q2 => ?_, fun j j2 oj oj2 uj uj2 c q1 q2 l1 l2 r1 r2 b1 b2 => ?_, Zb5 e o, Zb7 e o⟩, e, ?_⟩
 · rcases gi q1 with ⟨hj, ⟨_, rfl⟩ | ⟨_, hj2⟩⟩ | ⟨rfl, rfl⟩
   · trivial
   · exact (o.ob j ob x hj2 (gu hj q2)).move e o (fun _ _ _ => rfl) fun _ _ _ q => q
   · rw [gn q2]
     refine ⟨cs.take (b * k), ?_, ?_, fun row hr => o3 row (List.mem_of_mem_take hr), fun g hg => o4 g (hblk g hg)⟩
     · rw [show (xs.take b).length = b by simp; omega]; exact hown cs o1
     · rw [Zy7 xs o3]; exact e.rdL o (Zt3 o2 _)
 · rcases gi q1 with ⟨hj, ⟨_, rfl⟩ | ⟨hne, hj2⟩⟩ | ⟨rfl, rfl⟩
   · cases l1
   · rcases gi q2 with ⟨hk, ⟨_, rfl⟩ | ⟨_, hk2⟩⟩ | ⟨rfl, rfl⟩
     · cases l2
     · exact o.inj j j2 oj oj2 uj uj2 c hj2 hk2 l1 l2 (gu hj r1) (gu hk r2) b1 b2
     · rw [gn r2] at b2
       exact absurd (o.inj j i oj _ uj v c hj2 hi l1 rfl (gu hj r1) hv b1 (hblk _ b2)) hne
   · rcases gi q2 with ⟨hk, ⟨_, rfl⟩ | ⟨hne2, hk2⟩⟩ | ⟨rfl, _⟩
     · cases l2
     · rw [gn r1] at b1
       exact absurd (o.inj j2 i oj2 _ uj2 v c hk2 hi l2 rfl (gu hk r2) hv b2 (hblk _ b1)) hne2
     · rfl
 · rw [rd]
   rw [Nat.sub_zero] at hsh
   refine ⟨hsh, .of (ob := .buf E k (xs.take b)) (by simp) rfl, fun e' k' xs' hx => ?_⟩
   have : xs' = xs.take b := by simp at hx; exact hx.2.2.symm
   subst this
   exact ⟨by simp; omega, fun _ => by rw [← o.len]; simp⟩
theorem Gives.post {r : Result Next} {K : List Ob → D → Prop} (q : Gives P G w hd h p K r) : ∃ v w', (r = .ok (.value v) w' ∨ (r = .ok .skip w' ∧ v = undef)) ∧ Post G w hd h p K v w' := by
 obtain ⟨v, w', hd', h', p', d, hr, k, o, q, ev⟩ := q
 exact ⟨v, w', hr, hd', h', d, p', k, o, q, ev⟩
section
variable (P : Program) (h : List Ob)
def apN (t u : TypeId) (x y : D) : Option (List Ob × D) := match x with
 | .win i n 0 b => match h[i]? with
  | some (.buf E k xs) => bif decide (xs.length = n) && decide (b ≤ n) then apF P (h.set i .dead ++ [.buf E k (xs.take b)]) t u (.buf h.length b) y else none
  | _ => none
 | .v (.slice none 0 0) => match y, intT P u with
  | .v (.int _ m), some _ => match apT P t with
   | some (el, k, by') => match Vq P el with
    | some zs => bif decide (0 < m) && decide (m * by' ≤ 281474976710656) && decide (m ≤ 281474976710656) && decide (zs.length = k) then some (h ++ [.buf el k (Z2 m.toNat zs)], .buf h.length m.toNat) else none
    | none => none
   | none => none
  | _, _ => none
 | _ => none
def clrF (t : TypeId) (x : D) : Option (List Ob × D) := match x with
 | .v (.slice none 0 0) | .e0 => bif slT P t then some (h, .tup []) else none
 | .win i n a b => match h[i]? with
  | some (.buf E k xs) => match elT P t with
   | some el => match Vq P el with
    | some zs => bif decide (xs.length = n) && decide (0 < k) && decide (b ≤ n) && decide (zs.length = k) && zs.all D.one then some (bif Nat.beq a b then h else h.set i (.buf E k (xs.take a ++ Z2 (b - a) zs ++ xs.drop b)), .tup []) else none
    | none => none
   | none => none
  | _ => none
 | _ => none
end
theorem zero_rows {k el : Nat} {z : Value} {zs : List D} {hd2 : List Value} {h2 : List Ob} {W : World} (hz0 : Zk8 P el = some z) (hzs : Vq P el = some zs) (hk : zs.length = k) (hpos : 0 < k) (m : Nat) : rdL hd2 h2 W (Z2 m zs).flatten (Builtin.zeroCells z.cells m).toList := by
 have hzc : (D.v z).cells = some zs := by unfold Vq at hzs; rw [hz0] at hzs; exact hzs
 have zr : rdL hd2 h2 W zs z.cells.toList := U0 (d := .v z) (v := z) (by rw [rd]) hzc
 have hzl : z.cells.size = k := by have := Vg zr; simp at this; omega
 have hfl : (Z2 m zs).flatten.length = m * k := by simp [hk]
 refine (Yx _ _).2 ⟨by rw [hfl]; simp [Builtin.zeroCells, hzl], fun j d hj => ?_⟩
 have hj' : j < m * k := by rw [← hfl]; exact (Z1.1 hj).1
 have hdm : j / k * k + j % k = j := Nat.div_add_mod' j k
 have hmk : j % k < k := Nat.mod_lt _ hpos
 have hfr := Jx (k := k) (Z2 m zs) (fun row hr => by rw [(Z5.1 hr).2, hk]) (j / k) (j % k) hmk
 have hdl : j / k < m := Nat.div_lt_of_lt_mul (by rw [Nat.mul_comm]; exact hj')
 rw [hdm, List.getElem?_replicate, if_pos hdl] at hfr
 rw [hfr] at hj
 obtain ⟨u, g1, g2⟩ := ((Yx _ _).1 zr).2 (j % k) d hj
 refine ⟨u, ?_, g2⟩
 have hm : j % z.cells.size < z.cells.size := Nat.mod_lt _ (by omega)
 rw [Array.getElem?_toList]
 unfold Builtin.zeroCells
 have hm' : j % k < z.cells.size := by omega
 rw [Array.getElem?_map, Array.getElem?_range, if_pos (by rw [hzl]; exact hj'), ← g1, hzl, Option.map_some, getElem!_pos z.cells (j % k) hm', Array.getElem?_toList, Array.getElem?_eq_getElem hm']
theorem apN_post (o : Ok G w hd h p) {t u' ty : Nat} {x y d : D} {h' : List Ob} {u v : Value} (q : apN P h t u' x y = some (h', d)) (qx : rd hd h (only p w) x u) (qy : rd hd h (only p w) y v) : ∃ r w', (Builtin.append_ #[t, u'] ty #[u, v]).run P w = .ok r w' ∧ Post G w hd h p (fun h1 d1 => h1 = h' ∧ d1 = d) r w' := by
 unfold apN at q
 split at q
 · rename_i i n b
   split at q
   rotate_left
   · cases q
   rename_i E k xs hi
   cases hc : (decide (xs.length = n) && decide (b ≤ n))
   · rw [hc] at q; cases q
   rw [hc] at q
   simp only [Zc, decide_eq_true_eq] at hc
   simp only [cond_true] at q
   obtain ⟨o2, ev, q2⟩ := o.reown hi hc.1 hc.2 qx
   obtain ⟨v', w', hd', h2, p', d', e3, ⟨rfl, rfl⟩, e5, e6, e7⟩ := run_apA (K := fun h1 d1 => h1 = h' ∧ d1 = d) o2 q2 (ev.rd o qy) (apF_sound P _ q ⟨rfl, rfl⟩)
   exact ⟨v', w', e3, hd', _, _, p', ⟨rfl, rfl⟩, e5, e6, ev.trans e7⟩
 · split at q
   rotate_left
   · cases q
   rename_i κ m κ2 hint
   split at q
   rotate_left
   · cases q
   rename_i el k by' ha
   split at q
   rotate_left
   · cases q
   rename_i zs hzs
   obtain ⟨hc, hq⟩ := Yw q
   cases hq
   simp only [Zc, decide_eq_true_eq] at hc
   obtain ⟨⟨⟨c1, c2⟩, c3⟩, c4⟩ := hc
   rw [rd] at qx qy; subst qx; subst qy
   obtain ⟨hu, inf, z, hinf, hz, hsz, hby, hzsz, hpos⟩ := Zo7 ha
   subst hby
   have hz0 : Zk8 P el = some z := by unfold Zk8; rw [hinf]; exact hz
   have hm : ((m.toNat : Nat) : Int) = m := by omega
   have hr := Lib.run_append_nil_zeros (P := P) w t u' ty el inf z κ κ2 hu (Zy2 hint) hinf hz m.toNat (by omega) (by omega) (by omega) (Int.ofNat_le.1 (by rw [Int.natCast_mul, hm]; exact c2))
   rw [hm] at hr
   generalize hcap : grownCap w m.toNat 0 el = cap at hr
   have hcap2 : m.toNat ≤ cap ∧ cap ≤ maxLen := by
    rw [← hcap]
    show m.toNat ≤ m.toNat + w.tape w.drawn (.appendCap m.toNat 0 el) % (2 ^ 63 - m.toNat) ∧ m.toNat + w.tape w.drawn (.appendCap m.toNat 0 el) % (2 ^ 63 - m.toNat) ≤ maxLen
    have h63 : (2 : Nat) ^ 63 = 9223372036854775808 := rfl
    rw [h63]
    have hlt : w.tape w.drawn (.appendCap m.toNat 0 el) % (9223372036854775808 - m.toNat) < 9223372036854775808 - m.toNat := Nat.mod_lt _ (by omega)
    generalize w.tape w.drawn (.appendCap m.toNat 0 el) % (9223372036854775808 - m.toNat) = r at hlt ⊢
    have : maxLen = 9223372036854775807 := rfl
    omega
   have hzk : z.cells.size = k := by omega
   generalize hcur : Builtin.zeroCells z.cells m.toNat ++ Builtin.zeroCells z.cells (cap - m.toNat) = cur at hr
   have hcs : cur.size = cap * k := by
    rw [← hcur]; simp [Builtin.zeroCells, hzk, ← Nat.add_mul]; congr 1; omega
   have htk : cur.toList.take (m.toNat * k) = (Builtin.zeroCells z.cells m.toNat).toList := by
    rw [← hcur, Array.toList_append, List.take_append_of_le_length (by simp [Builtin.zeroCells, hzk]), List.take_of_length_le (by simp [Builtin.zeroCells, hzk])]
   have o1 := o.drew
   have g := o1.1.grow (w' := w.drew.alloc (.cells cur el)) (ob := .buf el k (Z2 m.toNat zs)) (u := .slice (some ⟨w.heap.size, 0, none⟩) m.toNat cap) rfl rfl rfl (by simp) (fun b hb => Wt w.drew _ hb) (fun b hb => by cases hb; rfl)
    (fun c' sb => ⟨(Builtin.zeroCells z.cells m.toNat).toList, ⟨by simp [Builtin.zeroCells, hzk], .inr ⟨w.heap.size, cap, cur, by simp, Nat.zero_le _, heap_alloc_new w.drew _, by simpa using hcap2.1, hcap2.2, hcs, by simpa using htk⟩⟩, zero_rows hz0 hzs c4 hpos _, fun row hr => by rw [(Z5.1 hr).2, c4], fun g hg => by cases hg; simp⟩)
   refine ⟨_, _, hr, _, _, _, _, ⟨rfl, rfl⟩, g.1, ?_, o1.2.trans g.2⟩
   rw [rd]
   refine ⟨⟨_, _, rfl⟩, .of (ob := .buf el k (Z2 m.toNat zs)) (by simp) rfl, fun e' k' xs' hx => ?_⟩
   have : xs' = Z2 m.toNat zs := by simp at hx; exact hx.2.2.symm
   subst this
   exact ⟨by simp, fun _ => by rw [← o.len]; simp⟩
 · cases q
theorem clrF_post (o : Ok G w hd h p) {t ty : Nat} {x d : D} {h' : List Ob} {u : Value} (q : clrF P h t x = some (h', d)) (qx : rd hd h (only p w) x u) : ∃ r w', (Builtin.clear_ #[t] ty #[u]).run P w = .ok r w' ∧ Post G w hd h p (fun h1 d1 => h1 = h' ∧ d1 = d) r w' := by
 have tup : rd hd h (only p w) (.tup []) (.tuple #[]) := by rw [rd]; exact ⟨#[], rfl, by rw [rdL]⟩
 unfold clrF at q
 split at q
 · obtain ⟨hc, hq⟩ := Yw q
   cases hq
   obtain ⟨el, hu⟩ := Vw hc
   rw [rd] at qx; subst qx
   exact ⟨.tuple #[], w, by simp [Builtin.clear_, run_underlying hu], .same o ⟨rfl, rfl⟩ tup⟩
 · obtain ⟨hc, hq⟩ := Yw q
   cases hq
   obtain ⟨el, hu⟩ := Vw hc
   rw [rd] at qx; obtain ⟨a, rfl⟩ := qx
   exact ⟨.tuple #[], w, by cases a <;> simp [Builtin.clear_, run_underlying hu], .same o ⟨rfl, rfl⟩ tup⟩
 · rename_i i n a b
   split at q
   rotate_left
   · cases q
   rename_i E k xs hi
   split at q
   rotate_left
   · cases q
   rename_i el hel
   split at q
   rotate_left
   · cases q
   rename_i zs hzs
   obtain ⟨hc, hq⟩ := Yw q
   obtain ⟨c1, c2, c3, c4, c5⟩ := and5 hc
   simp only [decide_eq_true_eq] at c1 c2 c3 c4
   have hu := Zc1 hel
   rw [rd] at qx
   obtain ⟨hsh, hus, qx⟩ := qx
   obtain ⟨wab, _, qx⟩ := (qx E k xs hi).2 c1
   cases hab : Nat.beq a b
   · rw [hab] at hq
     simp only [cond_false, Prod.mk.injEq] at hq
     obtain ⟨rfl, rfl⟩ := hq
     have hlt : a < b := by have := bqF hab; omega
     rcases qx with ⟨_, hn⟩ | ⟨B, cap, q0, hv, rfl, hq0⟩
     · omega
     have hob := o.ob i _ _ hi hv
     obtain ⟨cs, o1, o2, o3, o4⟩ := hob
     rw [c1] at o1
     rcases id o1.2 with ⟨h5, _⟩ | ⟨g, cap', cur, h5, hb0, hg, hnc, hcm, hcs, htake⟩
     · cases h5
     cases h5
     have hq1 := hq0 (.inl (by omega))
     subst hq1
     obtain ⟨z, hz0⟩ : ∃ z, Zk8 P el = some z := by
      unfold Vq at hzs
      cases hz : Zk8 P el with
      | none => rw [hz] at hzs; cases hzs
      | some z => exact ⟨z, rfl⟩
     have hpos := c2
     have hzr := zero_rows (P := P) (hd2 := hd) (h2 := h) (W := only p w) hz0 hzs c4 hpos (b - a)
     have hones : ((Z2 (b - a) zs).flatten).all D.one = true := by
      rw [List.all_eq_true]
      intro d hd'
      obtain ⟨row, h1, h2⟩ := List.mem_flatten.1 hd'
      rw [(Z5.1 h1).2] at h2
      exact List.all_eq_true.1 c5 d h2
     have hzl : (Builtin.zeroCells z.cells (b - a)).toList.length = (b - a) * k := by rw [← Vg hzr]; simp [c4]
     have hbk : b * k ≤ n * k := Z8 _ c3
     have hnk : n * k ≤ cap * k := Z8 _ hnc
     have habk : a * k + (b - a) * k = b * k := by rw [← Nat.add_mul]; congr 1; omega
     have hst := run_storeCells_at (P := P) B (a * k) E (Builtin.zeroCells z.cells (b - a)).toList 0 cur w hg (by rw [hzl, hcs]; omega) (Zg6 hzr hones)
     simp only [Nat.add_zero] at hst
     have hfl : (xs.take a ++ Z2 (b - a) zs ++ xs.drop b).flatten = putL xs.flatten (a * k) (Z2 (b - a) zs).flatten := by
      unfold putL
      rw [List.flatten_append, List.flatten_append, Zy7 xs o3, flat_drop xs o3]
      congr 2
      simp [c4]; omega
     have hlen : (xs.take a ++ Z2 (b - a) zs ++ xs.drop b).length = n := by simp; omega
     have res := o.repl (w' := w.setRow B (putL cur.toList (a * k) (Builtin.zeroCells z.cells (b - a)).toList).toArray) (ob' := .buf E k (xs.take a ++ Z2 (b - a) zs ++ xs.drop b)) (u' := .slice (some ⟨B, 0, none⟩) n cap) hi hv rfl X2.1 X2.2.1 X2.2.2.1 (Nat.le_of_eq X2.2.2.2.1.symm) (fun b _ hb => X2.2.2.2.2 b fun e => hb (by rw [e]; rfl)) (fun b hb => .inl hb) (fun _ _ => rfl)
      (fun e' k' xs' e => by cases e; exact ⟨E, xs, rfl, by omega, fun _ => rfl⟩) fun c sb => ⟨putL cs (a * k) (Builtin.zeroCells z.cells (b - a)).toList, ⟨?_, .inr ⟨B, cap, _, by rw [hlen], hb0, Zv9 hg, by omega, hcm, ?_, ?_⟩⟩, ?_, fun row hr => ?_, fun g' hg' => ?_⟩
     · refine ⟨.tuple #[], _, ?_, _, _, _, _, ⟨rfl, rfl⟩, res.1, by rw [rd]; exact ⟨#[], rfl, by rw [rdL]⟩, res.2⟩
       have hba : b - a ≠ 0 := by omega
       obtain ⟨m, hm⟩ : ∃ m, b - a = m + 1 := ⟨b - a - 1, by omega⟩
       have hst' : (storeCells ⟨B, a * k, none⟩ (Builtin.zeroCells z.cells (b - a)).toList).run P w = .ok () (w.setRow B (putL cur.toList (a * k) (Builtin.zeroCells z.cells (b - a)).toList).toArray) := by
        have := hst
        unfold putL
        exact this
       rw [hm] at hst' ⊢
       simp [Builtin.clear_, run_underlying hu, Zz9 hz0, hst']
     · rw [hlen, Zm5 (by rw [hzl, o1.1]; omega)]; exact o1.1
     · rw [List.size_toArray, Zm5 (by rw [hzl]; simp [hcs]; omega)]; simpa using hcs
     · rw [hlen, ← htake, List.toList_toArray]; exact putL_take (by rw [hzl]; omega) (by simp [hcs]; omega)
     · rw [hfl]; exact Xt c sb _ _ (Zt4 o2 hzr _)
     · rcases Ze.1 hr with hr | hr
       · rcases Ze.1 hr with hr | hr
         · exact o3 row (List.mem_of_mem_take hr)
         · rw [(Z5.1 hr).2]; exact c4
       · exact o3 row (List.mem_of_mem_drop hr)
     · have := o4 g' hg'; simp [this]
   · rw [hab] at hq
     simp only [cond_true, Prod.mk.injEq] at hq
     obtain ⟨rfl, rfl⟩ := hq
     have : b - a = 0 := by rw [bqT hab]; omega
     refine ⟨.tuple #[], w, ?_, .same o ⟨rfl, rfl⟩ tup⟩
     obtain ⟨ad, c, rfl⟩ := hsh
     rw [this]
     cases ad <;> simp [Builtin.clear_, run_underlying hu]
 · cases q
end
section
variable {P : Program} {G : Nat → D} {e : Nat → D} {h : List Ob}
section
variable (P : Program) (G : Nat → D) (env : Nat → D) (h : List Ob)
def nF : Op → Option (List Ob × D)
 | .makeFunc (.func f) first caps => bif first.isEmpty then some (h, .fn f (caps.toList.map (ev G env))) else none
 | .makeSlice t x y => makF P h t (ev G env x) (ev G env y)
 | .slice t x lo hi none => V6 h (sliF P h t (ev G env x) (lo.map (ev G env)) (hi.map (ev G env)))
 | .indexAddr t x i => V6 h (idxN P h t (ev G env x) (ev G env i))
 | .binOp op t x y _ => match binN op (ev G env x) (ev G env y) with
  | some d => some (h, d)
  | none => V6 h (nilF P h op t (ev G env x) (ev G env y))
 | .nilCheck x => match ev G env x with
  | .fn f ds => some (h, .fn f ds)
  | _ => none
 | .call ⟨.builtin b, args, tys⟩ => match b, tys.toList, args.toList with
  | .len, [t], [x] => V6 h (lenN P t (ev G env x))
  | .cap, [t], [x] => V6 h (capN P t (ev G env x))
  | .clear, [t], [x] => clrF P h t (ev G env x)
  | .append, [t, u], [x, y] => apN P h t u (ev G env x) (ev G env y)
  | _, _, _ => none
 | _ => none
def xF (op : Op) : Option (List Ob × D) := match nF P G env h op with
 | some r => some r
 | none => aF P G env h op
end
theorem binN_sound {w : World} {op : BinOp} {t : TypeId} {xo yo : Operand} {x y d : D} {u v : Value} {hd : List Value} {W : World} (q : binN op x y = some d) (qx : rd hd h W x u) (qy : rd hd h W y v) : ∃ r, (do eqGuard op t xo yo u v; binOp op t u v : Sem Value).run P w = .ok r w ∧ rd hd h W d r := by
 refine run_bin qx qy ?_
 unfold binN at q
 split at q
 · rename_i j a k b
   cases hjk : decide (j = k)
   · rw [hjk] at q; cases q
   · rw [hjk] at q
     have hjk := of_decide_eq_true hjk
     subst hjk
     simp only [cond_true] at q
     rw [Z6] at q
     obtain ⟨z, h1, rfl⟩ := q
     show binV P op t xo yo (.int j a) (.int j b) = some (.v z)
     cases op <;> simp only [binI] at h1 <;> first | cases h1 | skip
     · exact b_add
     · exact b_sub
     · exact b_mul
     · exact b_eql
     · exact b_neq
     · exact b_lss
     · exact b_leq
     · exact b_gtr
     · exact b_geq
 · rename_i a b
   rw [Z6] at q
   obtain ⟨z, h1, rfl⟩ := q
   have ee : (decide (a.data.toList = b.data.toList)) = decide (a = b) := by
    congr 1
    exact propext ⟨fun h => ByteArray.ext (Array.ext' h), fun h => by rw [h]⟩
   have ll : ∀ a b : ByteArray, Zq3 a.data.toList b.data.toList = Op.bytesLess a.toList b.toList := fun a b => by rw [lessB_eq, U6, U6]
   have tot : ∀ x y : List UInt8, (Op.bytesLess x y || decide (x = y)) = !Op.bytesLess y x := fun x => by
    induction x with
    | nil => intro y; cases y <;> simp [Op.bytesLess]
    | cons c s ih =>
     intro y
     cases y with
     | nil => simp [Op.bytesLess]
     | cons d t =>
      have := ih t
      simp only [Op.bytesLess]
      have h3 : (c < d) = (c.toNat < d.toNat) := propext UInt8.lt_iff_toNat_lt
      have h4 : (d < c) = (d.toNat < c.toNat) := propext UInt8.lt_iff_toNat_lt
      have h5 : (c = d) = (c.toNat = d.toNat) := propext UInt8.toNat_inj.symm
      by_cases hcd : c = d
      · subst hcd; simp; simpa using this
      · have hne : c.toNat ≠ d.toNat := fun h => hcd (UInt8.toNat_inj.1 h)
        have b1 : (c == d) = false := beq_false_of_ne hcd
        have b2 : (d == c) = false := beq_false_of_ne (Ne.symm hcd)
        rcases Nat.lt_or_gt_of_ne hne with hlt | hlt
        · have n2 : ¬ d.toNat < c.toNat := by omega
          simp [h3, h4, hlt, n2, hcd, b1, b2]
        · have n2 : ¬ c.toNat < d.toNat := by omega
          simp [h3, h4, hlt, n2, hcd, b1, b2]
   have le : ∀ a b : ByteArray, (Op.bytesLess a.toList b.toList || decide (a = b)) = !Zq3 b.data.toList a.data.toList := fun a b => by
    rw [ll, ← tot]
    congr 1
    rw [Bool.eq_iff_iff, decide_eq_true_eq, decide_eq_true_eq, U6, U6]
    exact ⟨fun h => by rw [h], fun h => ByteArray.ext (Array.ext' h)⟩
   show binV P op t xo yo (.string a) (.string b) = some (.v z)
   cases op <;> simp only [binS] at h1 <;> first | cases h1 | skip
   · rw [ee]; exact b_seql
   · rw [ee]; exact b_sneq
   · rw [ll]; exact b_slss
   · rw [← le]; exact b_sleq
   · rw [show Zq3 b.data.toList a.data.toList = !(Op.bytesLess a.toList b.toList || decide (a = b)) by rw [le]; simp]; exact b_sgtr
   · rw [ll]; exact b_sgeq
 · cases q
theorem Yj1 {o : Oper} {h' : List Ob} {d : D} (q : nF P G e h o.op = some (h', d)) : OpTri P G o ((opds o.op).map (ev G e)) h (fun h1 d1 => h1 = h' ∧ d1 = d) := by
 obtain ⟨dst, op, ty, pos, aft, gd⟩ := o
 have keep : ∀ {x : Option D}, V6 h x = some (h', d) → h' = h ∧ x = some d := fun {x} q => by
  unfold V6 at q
  rw [Z6] at q
  obtain ⟨d', h1, h2⟩ := q
  cases h2; exact ⟨rfl, h1⟩
 cases op <;> try (simp only [nF] at q; cases q; done)
 case makeFunc fn first caps =>
  cases fn <;> try (simp only [nF] at q; cases q; done)
  case func f =>
  simp only [nF] at q
  obtain ⟨hc, hq⟩ := Yw q
  cases hq
  have hf : first = #[] := by simpa using hc
  subst hf
  refine Za5 fun a w hd p ok ha => ⟨.func (.func f) #[] (caps.map a.eval), by simp [execOp, Instr.makeFunc], ?_⟩
  rw [rd]
  refine ⟨_, rfl, ?_⟩
  have ho : opds (.makeFunc (.func f) #[] caps) = caps.toList := by simp [opds, Op.operands]
  have ha : ∀ x ∈ caps.toList, rd hd h (only p w) (ev G e x) (a.eval x) := fun x hx => ha x (by rw [ho]; exact hx)
  rw [Array.toList_map]
  generalize caps.toList = l at ha
  induction l with
  | nil => rw [List.map_nil, List.map_nil, rdL]
  | cons x t ih => rw [Zg, Zg, rdL]; exact ⟨_, _, rfl, ha x (by simp), ih fun y hy => ha y (by simp [hy])⟩
 case makeSlice t x y =>
  refine Zl4 fun a w hd p ok ha => ?_
  obtain ⟨r, w', h1, h2⟩ := makF_post ok q (ha x (by simp [opds, Op.operands])) (ha y (by simp [opds, Op.operands]))
  exact ⟨r, w', .inl (by simp [execOp, h1]), h2⟩
 case slice t x lo hi mx =>
  cases mx with
  | some m => simp only [nF] at q; cases q
  | none =>
   replace q := keep q
   obtain ⟨rfl, q⟩ := q
   refine Za5 fun a w hd p ok ha => ?_
   have ro : ∀ y : Option Operand, (∀ z, y = some z → z ∈ opds (.slice t x lo hi none)) → (y.map (ev G e) = none ∧ y.map a.eval = none) ∨ ∃ d v, y.map (ev G e) = some d ∧ y.map a.eval = some v ∧ rd hd h' (only p w) d v := fun y hy => by
    cases y with
    | none => exact .inl ⟨rfl, rfl⟩
    | some y => exact .inr ⟨_, _, rfl, rfl, ha y (hy y rfl)⟩
   obtain ⟨u, h1, h2⟩ := sliF_run ok q (ha x (by simp [opds, Op.operands])) (ro lo (by rintro z rfl; simp [opds, Op.operands])) (ro hi (by rintro z rfl; simp [opds, Op.operands]))
   exact ⟨u, by simp [execOp, h1], h2⟩
 case indexAddr t x i =>
  replace q := keep q
  obtain ⟨rfl, q⟩ := q
  refine Za5 fun a w hd p ok ha => ?_
  obtain ⟨u, h1, h2⟩ := idxN_run ok q (ha x (by simp [opds, Op.operands])) (ha i (by simp [opds, Op.operands]))
  exact ⟨u, by simp [execOp, h1], h2⟩
 case binOp op t x y yt =>
  simp only [nF] at q
  split at q
  · rename_i d' hb
    cases q
    refine Za5 fun a w hd p ok ha => ?_
    obtain ⟨r, h1, h2⟩ := binN_sound (P := P) (w := w) (t := t) (xo := x) (yo := y) hb (ha x (by simp [opds, Op.operands])) (ha y (by simp [opds, Op.operands]))
    exact ⟨r, by show ((do pure (Next.value (← (do eqGuard op t x y (a.eval x) (a.eval y); binOp op t (a.eval x) (a.eval y)))) : Sem Next).run P w) = _; simp only [Sem.run_bind] at h1 ⊢; simp [h1], h2⟩
  · replace q := keep q
    obtain ⟨rfl, q⟩ := q
    refine Za5 fun a w hd p ok ha => ?_
    unfold nilF at q
    split at q
    · rename_i hy
      cases hc : (slT P t && nonNil h' (ev G e x))
      · rw [hc] at q; cases q
      rw [hc] at q
      simp only [cond_true, Zc] at q hc
      obtain ⟨el, hu⟩ := Vw hc.1
      obtain ⟨ad, n, c, hx⟩ := nonNil_spec ok hc.2 (ha x (by simp [opds, Op.operands]))
      have hy2 := ha y (by simp [opds, Op.operands])
      rw [hy, rd] at hy2
      have e2 : ∀ w, (Op.equal t (.slice (some ad) n c) (.slice none 0 0)).run P w = .ok false w := fun w => by
       unfold Op.equal Op.maxDepth Op.equalIn
       simp [Go.underlying, hu]
      cases op <;> simp only at q <;> first | cases q | skip
      · exact ⟨.bool false, by simp [execOp, hx, hy2, eqGuard, binOp, e2], by rw [rd]⟩
      · exact ⟨.bool true, by simp [execOp, hx, hy2, eqGuard, binOp, e2], by rw [rd]⟩
    · cases q
 case nilCheck x =>
  simp only [nF] at q
  split at q
  · rename_i f ds hx
    cases q
    refine Za5 fun a w hd p ok ha => ?_
    have hx2 := ha x (by simp [opds, Op.operands])
    rw [hx] at hx2
    have hx3 := hx2
    rw [rd] at hx3
    obtain ⟨cs, hcs, _⟩ := hx3
    exact ⟨a.eval x, by simp [execOp, hcs], hx2⟩
  · cases q
 case call c =>
  obtain ⟨cal, args, tys⟩ := c
  cases cal <;> try (simp only [nF] at q; cases q; done)
  case builtin b =>
  have ho : opds (.call ⟨.builtin b, args, tys⟩) = args.toList := by simp [opds, Op.operands, Call.operands]
  simp only [nF] at q
  split at q
  · rename_i t x h1 h2
    have h1 : tys = #[t] := by rw [← Z3 (xs := tys), h1]
    have h2 : args = #[x] := by rw [← Z3 (xs := args), h2]
    subst h1; subst h2
    replace q := keep q
    obtain ⟨rfl, q⟩ := q
    refine Za5 fun a w hd p ok ha => ?_
    have hx := ha x (by rw [ho]; simp)
    have run : ∃ u, (Builtin.len_ #[t] ty #[a.eval x]).run P w = .ok u w ∧ rd hd h' (only p w) d u := by
     unfold lenN at q
     split at q
     · rename_i i n b1 b2 hxx
       obtain ⟨hc, rfl⟩ := Yw q
       obtain ⟨el, hu⟩ := Vw hc
       rw [hxx, rd] at hx
       obtain ⟨⟨ad, c, he⟩, _⟩ := hx
       exact ⟨_, by rw [he]; simp [Builtin.len_, Go.underlying, hu, goInt]; rfl, by rw [rd]⟩
     · rename_i i o n c k hxx
       obtain ⟨hc, rfl⟩ := Yw q
       obtain ⟨el, hu⟩ := Vw hc
       rw [hxx, rd] at hx
       obtain ⟨B, _, he⟩ := hx
       exact ⟨_, by rw [he]; simp [Builtin.len_, Go.underlying, hu, goInt]; rfl, by rw [rd]⟩
     · rename_i hxx
       obtain ⟨hc, rfl⟩ := Yw q
       obtain ⟨el, hu⟩ := Vw hc
       rw [hxx, rd] at hx
       obtain ⟨ad, he⟩ := hx
       exact ⟨_, by rw [he]; simp [Builtin.len_, Go.underlying, hu, goInt]; rfl, by rw [rd]⟩
     · cases q
    obtain ⟨u, e1, e2⟩ := run
    exact ⟨u, by simp [execOp, resolve, invoke, builtin, e1], e2⟩
  · rename_i t x h1 h2
    have h1 : tys = #[t] := by rw [← Z3 (xs := tys), h1]
    have h2 : args = #[x] := by rw [← Z3 (xs := args), h2]
    subst h1; subst h2
    replace q := keep q
    obtain ⟨rfl, q⟩ := q
    refine Za5 fun a w hd p ok ha => ?_
    have hx := ha x (by rw [ho]; simp)
    have run : ∃ u, (Builtin.cap_ #[t] ty #[a.eval x]).run P w = .ok u w ∧ rd hd h' (only p w) d u := by
     unfold capN at q
     split at q
     · rename_i hxx
       obtain ⟨hc, rfl⟩ := Yw q
       obtain ⟨el, hu⟩ := Vw hc
       rw [hxx, rd] at hx
       exact ⟨_, by rw [hx]; simp [Builtin.cap_, Go.underlying, hu, goInt]; rfl, by rw [rd]⟩
     · rename_i hxx
       obtain ⟨hc, rfl⟩ := Yw q
       obtain ⟨el, hu⟩ := Vw hc
       rw [hxx, rd] at hx
       obtain ⟨ad, he⟩ := hx
       exact ⟨_, by rw [he]; simp [Builtin.cap_, Go.underlying, hu, goInt]; rfl, by rw [rd]⟩
     · rename_i i o n c k hxx
       obtain ⟨hc, rfl⟩ := Yw q
       obtain ⟨el, hu⟩ := Vw hc
       rw [hxx, rd] at hx
       obtain ⟨B, _, he⟩ := hx
       exact ⟨_, by rw [he]; simp [Builtin.cap_, Go.underlying, hu, goInt]; rfl, by rw [rd]⟩
     · cases q
    obtain ⟨u, e1, e2⟩ := run
    exact ⟨u, by simp [execOp, resolve, invoke, builtin, e1], e2⟩
  · rename_i t x h1 h2
    have h1 : tys = #[t] := by rw [← Z3 (xs := tys), h1]
    have h2 : args = #[x] := by rw [← Z3 (xs := args), h2]
    subst h1; subst h2
    refine Zl4 fun a w hd p ok ha => ?_
    obtain ⟨r, w', e1, e2⟩ := clrF_post (ty := ty) ok q (ha x (by rw [ho]; simp))
    exact ⟨r, w', .inl (by simp [execOp, resolve, invoke, builtin, e1]), e2⟩
  · rename_i t u x y h1 h2
    have h1 : tys = #[t, u] := by rw [← Z3 (xs := tys), h1]
    have h2 : args = #[x, y] := by rw [← Z3 (xs := args), h2]
    subst h1; subst h2
    refine Zl4 fun a w hd p ok ha => ?_
    obtain ⟨r, w', e1, e2⟩ := apN_post (ty := ty) ok q (ha x (by rw [ho]; simp)) (ha y (by rw [ho]; simp))
    exact ⟨r, w', .inl (by simp [execOp, resolve, invoke, builtin, e1]), e2⟩
  · cases q
theorem xF_sound {o : Oper} {h' : List Ob} {d : D} (q : xF P G e h o.op = some (h', d)) : OpTri P G o ((opds o.op).map (ev G e)) h (fun h1 d1 => h1 = h' ∧ d1 = d) := by
 unfold xF at q
 split at q
 · rename_i r hr; cases q; exact Yj1 hr
 · exact Xx (Zh3 q ⟨rfl, rfl⟩)
end
section
variable {P : Program} {G : Nat → D} {n : Nat} {e : Nat → D} {h h1 : List Ob}
def effR (R : List Nat) (h : List Ob) : List (Nat × Ob) := R.map fun i => (i, (h[i]?).getD .dead)
def slotsR (L c : Nat) : List (Nat × Ob) := (List.range c).map fun j => (L + j, .hole)
def mkEf (R : List Nat) (h h1 h1' : List Ob) (r1 : D) : Ef := ⟨effR R h ++ slotsR h.length (h1'.length - R.length), wrs (plcN R h.length) 0 h1 h1', ren (plcN R h.length) r1⟩
def mkH (R : List Nat) (h h1' : List Ob) : List Ob := plc (plcN R h.length) (h ++ holes (h1'.length - R.length)) 0 (h1'.map (Va (plcN R h.length)))
theorem plc_app {α : Type} {π : Nat → Nat} : ∀ (l h X : List α) (j : Nat), (∀ i, i < l.length → π (j + i) < h.length) → plc π (h ++ X) j l = plc π h j l ++ X
 | [], _, _, _, _ => rfl
 | o :: t, h, X, j, q => by
  rw [plc, plc, List.set_append_left _ _ (by simpa using q 0 (by simp)), plc_app t _ X (j + 1)]
  intro i hi
  rw [List.length_set, show j + 1 + i = j + (i + 1) by omega]; exact q (i + 1) (by simp; omega)
theorem wrs_mem {π : Nat → Nat} {x : Nat × Ob} : ∀ (l' l : List Ob) (j : Nat), x ∈ wrs π j l l' → ∃ i, i < l'.length ∧ x.1 = π (j + i)
 | [], l, j, q => by cases l <;> simp [wrs] at q
 | o :: t, [], j, q => by
  rw [wrs] at q
  rcases List.mem_cons.1 q with rfl | q
  · exact ⟨0, by simp, rfl⟩
  · obtain ⟨i, h1, h2⟩ := wrs_mem t [] (j + 1) q
    exact ⟨i + 1, by simp; omega, by rw [h2]; congr 1; omega⟩
 | o :: t, a :: s, j, q => by
  rw [wrs] at q
  have tl : x ∈ wrs π (j + 1) s t → ∃ i, i < (o :: t).length ∧ x.1 = π (j + i) := fun q => by
   obtain ⟨i, h1, h2⟩ := wrs_mem t s (j + 1) q
   exact ⟨i + 1, by simp; omega, by rw [h2]; congr 1; omega⟩
  cases hq : oq a o
  · rw [hq] at q
    rcases List.mem_cons.1 q with rfl | q
    · exact ⟨0, by simp, rfl⟩
    · exact tl q
  · rw [hq] at q; exact tl q
section
variable {R : List Nat} {h1' : List Ob} {r1 : D} {o : Oper} {args1 : List D}
theorem rn_lt {l : List Nat} {hh : List Ob} : ∀ {k i : Nat}, rnH R h l = some hh → l[k]? = some i → i < h.length := fun {k i} q hk => by
 obtain ⟨a, b⟩ := Zt1 (π := idxR R) Yk2 l hh q
 obtain ⟨i', h2, h3, _⟩ := b k _ (Z0 (by rw [a]; exact (Z1.1 hk).1))
 rw [hk] at h2; cases h2
 exact (Z1.1 h3).1
theorem plcN_inj (hr : rnH R h R = some h1) (nd : Jr R = true) : ∀ i j, plcN R h.length i = plcN R h.length j → i = j := fun i j he => by
 rcases Z9 i R.length with hi | hi <;> rcases Z9 j R.length with hj | hj
 · rw [Vx i _ (Z0 hi), Vx j _ (Z0 hj)] at he
   exact (List.getElem_inj (Zj1 R nd)).1 he
 · rw [Vx i _ (Z0 hi), Zb2 hj] at he
   have := rn_lt hr (Z0 hi)
   omega
 · rw [Vx j _ (Z0 hj), Zb2 hi] at he
   have := rn_lt hr (Z0 hj)
   omega
 · rw [Zb2 hi, Zb2 hj] at he; omega
theorem Ye1 (hG : ∀ g, low 0 (G g)) (hr : rnH R h R = some h1) (nd : Jr R = true) (hle : h1.length ≤ h1'.length) (q : OpTri P G o args1 h1 (fun h' r => h' = h1' ∧ r = r1)) (la : lowL R.length args1) :
 YT P G o (renL (plcN R h.length) args1) (mkEf R h h1 h1' r1) ∧ ∀ T, h1'.length - R.length ≤ T → (mkEf R h h1 h1' r1).ok (h ++ holes T) ∧ (mkEf R h h1 h1' r1).heap (h ++ holes T) = mkH R h h1' ++ holes (T - (h1'.length - R.length)) := by
 obtain ⟨len1, spec⟩ := Zt1 (π := plcN R h.length) Vx R h1 hr
 have inj := plcN_inj hr nd
 have rok : ∀ {h2 : List Ob}, (mkEf R h h1 h1' r1).ok h2 → (∀ i ob, h1[i]? = some ob → h2[plcN R h.length i]? = some (Va (plcN R h.length) ob)) ∧ ∀ j, R.length ≤ j → j < h1'.length → h2[plcN R h.length j]? = some .hole := fun {h2} k => by
  refine ⟨fun i ob hi => ?_, fun j hj hj' => ?_⟩
  · obtain ⟨x, g1, g2, _⟩ := spec i ob hi
    rw [Vx i x g1]
    have := k (x, (h[x]?).getD .dead) (List.mem_append_left _ (Z7.2 ⟨x, List.mem_of_getElem? g1, rfl⟩))
    rw [this, g2]; rfl
  · rw [Zb2 hj]
    exact k (h.length + (j - R.length), .hole) (List.mem_append_right _ (Z7.2 ⟨j - R.length, Zf.2 (by omega), rfl⟩))
 have heapE : ∀ {h2 : List Ob}, (mkEf R h h1 h1' r1).ok h2 → plc (plcN R h.length) h2 0 (h1'.map (Va (plcN R h.length))) = (mkEf R h h1 h1' r1).heap h2 := fun {h2} k =>
  Zu6 h1' h1 h2 0 (fun a b _ _ he => by have := inj _ _ he; omega) fun i ob hi => by rw [Nat.zero_add]; exact (rok k).1 i ob hi
 refine ⟨⟨fun x hx => ?_, fun h2 k => ?_⟩, fun T hT => ?_⟩
 · obtain ⟨i, g1, g2⟩ := wrs_mem _ _ _ hx
   rw [Nat.zero_add] at g2
   rcases Z9 i R.length with hi | hi
   · exact ⟨(R[i], (h[R[i]]?).getD .dead), List.mem_append_left _ (Z7.2 ⟨R[i], List.getElem_mem hi, rfl⟩), by rw [g2, Vx i _ (Z0 hi)]⟩
   · exact ⟨(h.length + (i - R.length), .hole), List.mem_append_right _ (Z7.2 ⟨i - R.length, Zf.2 (by omega), rfl⟩), by rw [g2, Zb2 hi]⟩
 · have L : Lies (plcN R h.length) h1 h2 := ⟨(rok k).1, fun i j _ _ he => inj i j he, fun ob hob => by
    obtain ⟨i, hi, rfl⟩ := List.getElem_of_mem hob
    obtain ⟨_, _, _, g⟩ := spec i _ (Z0 hi)
    rw [len1]; exact g⟩
   refine (OpTri.frame hG L (by rw [len1]; exact la) ?_ q).mono ?_
   · rintro h' r ⟨rfl, _⟩
     exact ⟨fun i j _ _ he => inj i j he, fun j hj hj' => (rok k).2 j (by omega) hj'⟩
   · rintro h' r ⟨_, _, ⟨rfl, rfl⟩, rfl, rfl⟩
     exact ⟨heapE k, rfl⟩
 · have hok : (mkEf R h h1 h1' r1).ok (h ++ holes T) := fun x hx => by
    rcases Ze.1 hx with hx | hx
    · obtain ⟨i, hi, rfl⟩ := Z7.1 hx
      obtain ⟨k, hk, rfl⟩ := List.getElem_of_mem hi
      have hlt := rn_lt hr (Z0 hk)
      simp only
      rw [Z4 hlt, Z0 hlt]; rfl
    · obtain ⟨j, hj, rfl⟩ := Z7.1 hx
      have hj := Zf.1 hj
      simp only
      rw [Za (by omega)]
      unfold holes
      rw [List.getElem?_replicate, if_pos (by omega)]
   refine ⟨hok, ?_⟩
   rw [← heapE hok]
   unfold mkH
   rw [← plc_app _ _ _ _ (fun i hi => ?_), List.append_assoc]
   · congr 2
     unfold holes
     rw [List.replicate_append_replicate]; congr 1; omega
   · rw [Nat.zero_add]
     have hi : i < h1'.length := by simpa using hi
     rcases Z9 i R.length with hi' | hi'
     · rw [Vx i _ (Z0 hi')]
       have := rn_lt hr (Z0 hi')
       simp; omega
     · rw [Zb2 hi']; simp [holes]; omega
end
abbrev Cal := FuncId → List D → List Ob → Option (List Ob × D)
def ExtTri (P : Program) (f : FuncId) (args : List D) (r : D) : Prop := ∀ (w : World) (hd : List Value) (h : List Ob) (W : World) (vs : List Value), rdL hd h W args vs → ∃ v, (callFunc f vs.toArray).run P w = .ok (.value v) w ∧ rd hd h W r v
def Yc1 (P : Program) (G : Nat → D) (cal : Cal) : Prop := ∀ f args h h' r, cal f args h = some (h', r) → (entB P f = true ∧ Does P G f h args (fun h1 r1 => h1 = h' ∧ r1 = r)) ∨ (entB P f = false ∧ h' = h ∧ ExtTri P f args r)
theorem Yc5 {dst : Option Nat} {x : Operand} {args : Array Operand} {tys : Array TypeId} {ty : TypeId} {pos : String} {aft : Array Edge} {gd : Option (Nat × Bool)} {f : FuncId} {cap xs : List D} {r : D} (hc : ExtTri P f (xs ++ cap) r) :
 OpTri P G ⟨dst, .call ⟨.value x, args, tys⟩, ty, pos, aft, gd⟩ (.fn f cap :: xs) h (fun h' r' => h' = h ∧ r' = r) := fun a w hd p R hdf ok ha => by
 have ho : opds (.call ⟨.value x, args, tys⟩) = x :: args.toList := by simp [opds, Op.operands, Call.operands]
 rw [ho, Zg, rdL] at ha
 obtain ⟨u, t, e0, q, ha⟩ := ha
 cases e0
 rw [rd] at q
 obtain ⟨cs, e1, q⟩ := q
 obtain ⟨v, hr, hv⟩ := hc w _ _ _ _ (W7 ha q)
 rw [show (args.toList.map a.eval ++ cs.toList).toArray = args.map a.eval ++ cs by apply Array.ext'; simp] at hr
 have hrun : (execOp a.eval ⟨dst, .call ⟨.value x, args, tys⟩, ty, pos, aft, gd⟩).run P w = .ok (.value v) w := by
  simp [execOp, resolve, e1, Deferred.ofValue, invoke, hr]
 unfold Oper.wp
 rw [hrun]
 exact ⟨v, rfl, .same ok ⟨rfl, rfl⟩ hv⟩
def opF (P : Program) (G : Nat → D) (cal : Cal) (env : Nat → D) (h : List Ob) (op : Op) : Option (List Ob × D) := match op with
 | .call ⟨.value x, args, _⟩ => match ev G env x with
  | .fn f cap => cal f (args.toList.map (ev G env) ++ cap) h
  | _ => none
 | op => xF P G env h op
def Zr5 (R : List Nat) (env : Nat → D) : Nat → D := fun t => match rnO R (env t) with
 | some d => d
 | none => .any
def Zp9 (P : Program) (G : Nat → D) (env : Nat → D) (op : Op) : Option D := match op with
 | .call ⟨.value _, _, _⟩ => none
 | .binOp b ta x y tb => match binN b (ev G env x) (ev G env y) with
  | some d => some d
  | none => match aF P G env [] (.binOp b ta x y tb) with
   | some ([], d) => some d
   | _ => none
 | .makeFunc (.func f) first caps => bif first.isEmpty then some (.fn f (caps.toList.map (ev G env))) else none
 | op => match aF P G env [] op with
  | some ([], d) => some d
  | _ => none
def readF (P : Program) (G : Nat → D) (env : Nat → D) (h : List Ob) (op : Op) : Option (Nat × D) := match op with
 | .load t x => match ev G env x with
  | .ptr i o => match Ug P h t (.ptr i o) with
   | some d => some (i, d)
   | none => none
  | .bp i n r j => match Ug P h t (.bp i n r j) with
   | some d => some (i, d)
   | none => none
  | _ => none
 | .indexAddr t x y => match ev G env x with
  | .buf i n => match idxF P h t (.buf i n) (ev G env y) with
   | some d => some (i, d)
   | none => none
  | .win i n a b => match idxN P h t (.win i n a b) (ev G env y) with
   | some d => some (i, d)
   | none => none
  | _ => none
 | _ => none
def storF (P : Program) (G : Nat → D) (env : Nat → D) (h : List Ob) (op : Op) : Option (Nat × Ob) := match op with
 | .store t x y => match ev G env x with
  | .ptr i o => match (ev G env y).cells with
   | some es => bif es.all D.one && decide (szT P t = some es.length) then (match h[i]? with
    | some (.cells ds) => bif Nat.ble (o + es.length) ds.length then some (i, .cells (putL ds o es)) else none
    | _ => none) else none
   | none => none
  | .bp i n r j => match (ev G env y).cells with
   | some es => bif es.all D.one && decide (szT P t = some es.length) then (match h[i]? with
    | some (.buf e k xs) => match xs[r]? with
     | some row => bif Nat.beq xs.length n && Nat.ble (j + es.length) row.length then some (i, .buf e k (xs.set r (putL row j es))) else none
     | none => none
    | _ => none) else none
   | none => none
  | _ => none
 | _ => none
theorem pureF_sound {o : Oper} {d : D} (q : Zp9 P G e o.op = some d) (h : List Ob) : OpTri P G o ((opds o.op).map (ev G e)) h (fun h1 d1 => h1 = h ∧ d1 = d) := by
 obtain ⟨dst, op, ty, pos, aft, gd⟩ := o
 unfold Zp9 at q
 simp only at q
 split at q
 · cases q
 · split at q
   · rename_i b ta x y tb _ d' hb
     cases q
     exact Yj1 (o := ⟨dst, .binOp b ta x y tb, ty, pos, aft, gd⟩) (by simp only [nF, hb])
   · split at q
     · rename_i b ta x y tb _ _ _ d' ha
       cases q
       exact Xx (o := ⟨dst, .binOp b ta x y tb, ty, pos, aft, gd⟩) (Ym6 (Zh3 ha ⟨rfl, rfl⟩) h)
     · cases q
 · rename_i f first caps
   exact Yj1 (o := ⟨dst, .makeFunc (.func f) first caps, ty, pos, aft, gd⟩) (by
    obtain ⟨h1, h2⟩ := Yw q
    simp only [nF, h1, cond_true, h2])
 · split at q
   · rename_i d' ha
     cases q
     exact Xx (o := ⟨dst, op, ty, pos, aft, gd⟩) (Ym6 (Zh3 ha ⟨rfl, rfl⟩) h)
   · cases q
def effF (P : Program) (G : Nat → D) (cal : Cal) (env : Nat → D) (h : List Ob) (o : Oper) : Option (Ef × List Ob) := match Zp9 P G env o.op with
 | some d => some (⟨[], [], d⟩, h)
 | none => match readF P G env h o.op with
  | some (i, d) => match h[i]? with
   | some ob => some (⟨[(i, ob)], [], d⟩, h)
   | none => none
  | none => match storF P G env h o.op with
   | some (i, ob') => match h[i]? with
    | some ob => some (⟨[(i, ob)], [(i, ob')], .v undef⟩, h.set i ob')
    | none => none
   | none =>
    let args := (opds o.op).map (ev G env)
    let R := closeR h 4000 0 (addR [] (refsL args))
    match rnH R h R, rnL R args with
    | some h1, some _ => bif Jr R then match opF P G cal (Zr5 R env) h1 o.op with
      | some (h1', r1) => bif Nat.ble h1.length h1'.length then some (mkEf R h h1 h1' r1, mkH R h h1') else none
      | none => none
     else none
    | _, _ => none
theorem Yj2 (R : List Nat) (h h1' : List Ob) : (mkH R h h1').length = h.length + (h1'.length - R.length) := by unfold mkH; rw [Yi7]; simp [holes]
theorem OpTri.holes {o : Oper} {args : List D} {K : List Ob → D → Prop} (c : Nat) (q : OpTri P G o args (h ++ Go.Proofs.YtbhkcbidcfofiaaGreat.holes c) K) : OpTri P G o args h K := fun a w hd p R hdf ok ha => by
 obtain ⟨ok2, e⟩ := ok.holes c
 exact Oper.wp_mono (fun _ _ ⟨v, e1, q⟩ => ⟨v, e1, q.before e⟩) (q a w _ p R hdf ok2 (e.rdL ok ha))
def isCall : Op → Bool
 | .call ⟨.value _, _, _⟩ => true
 | _ => false
def stepF (P : Program) (G : Nat → D) (cal : Cal) (env : Nat → D) (h : List Ob) (o : Oper) : Option (List Ob × D) := bif isCall o.op then (match effF P G cal env h o with
  | some (E, h') => some (h', E.d)
  | none => none) else opF P G cal env h o.op
def putT (n : Nat) (t : Tr) (dst : Option Nat) (d : D) : Option Tr := match dst with
 | some i => bif Nat.blt i n then (bif Nat.blt i 4095 then some (Tr.set 12 t i d) else none) else some t
 | none => some t
def seqF (P : Program) (G : Nat → D) (cal : Cal) (n : Nat) (ops : Array Oper) : List Oper → Tr → List Ob → Option (Tr × List Ob)
 | [], t, h => some (t, h)
 | o :: rest, t, h => match Yc ops o.guard t.get with
  | some true => match stepF P G cal t.get h o with
   | some (h', d) => match putT n t o.dst d with
    | some t' => seqF P G cal n ops rest t' h'
    | none => none
   | none => none
  | some false => match putT n t o.dst (.v undef) with
   | some t' => seqF P G cal n ops rest t' h
   | none => none
  | none => none
def drawF (P : Program) (G : Nat → D) (cal : Cal) (n : Nat) (ops : Array Oper) : List Oper → Tr → List Ob → Option (Tr × List Ob × List Ef)
 | [], t, h => some (t, h, [])
 | o :: rest, t, h => match Yc ops o.guard t.get with
  | some true => match effF P G cal t.get h o with
   | some (E, h') => match putT n t o.dst E.d with
    | some t' => match drawF P G cal n ops rest t' h' with
     | some (t2, h2, es) => some (t2, h2, E :: es)
     | none => none
    | none => none
   | none => none
  | some false => match putT n t o.dst (.v undef) with
   | some t' => match drawF P G cal n ops rest t' h with
    | some (t2, h2, es) => some (t2, h2, nopF :: es)
    | none => none
   | none => none
  | none => none
def apartB (a b : List (Nat × Ob)) : Bool := a.all fun x => b.all fun y => !Nat.beq x.1 y.1
def chkF1 (ops : Array Oper) (i : Nat) (E : Ef) : Nat → List Ef → Bool
 | _, [] => true
 | j, F :: t => (apartB E.W F.R && apartB F.W E.R || twB .any ops 12 j i) && chkF1 ops i E (j + 1) t
def chkF (ops : Array Oper) : Nat → List Ef → Bool
 | _, [] => true
 | i, E :: t => chkF1 ops i E (i + 1) t && chkF ops (i + 1) t
end
end Go.Proofs.YtbhkcbidcfofiaaGreat
