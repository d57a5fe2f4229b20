/-
  What the statements of the chapter share, part 18: SC, PL, IN, OL, OF4, IX, DF, SMB, BS, ST, JO, SE, LW1.
-/
import Derived.Test.YtidpdgdakghfnaaGreatS14
import Derived.Test.YtidpdgdakghfnaaGreatS17
import Derived.Sort.Walk0
set_option linter.unusedVariables false
set_option linter.unusedSimpArgs false
set_option maxRecDepth 100000
set_option maxHeartbeats 8000000
namespace Go.Proofs.YtidpdgdakghfnaaGreat
open Go.RowKit
section
open Go.RowKit Go.Shelf
theorem cmpC_swo : Go.Sort.SWO (ltOf cmpC) where
 irrefl x := by simp only [ltOf, decide_eq_false_iff_not, cmpC_lt]; exact LtC.irrefl x
 trans x y z h k := by
  simp only [ltOf, decide_eq_true_eq, cmpC_lt] at h k ⊢
  exact h.trans k
 ntrans x y z h k := by
  simp only [ltOf, decide_eq_false_iff_not, cmpC_lt] at h k ⊢
  intro q
  rcases cmpC_cases x y with ⟨a, _⟩ | ⟨a, _⟩ | ⟨a, _⟩
  · exact h a
  · exact k (EqC.left ⟨a.1.symm, a.2.1.symm, a.2.2.symm⟩ q)
  · exact k (a.trans q)
variable (G : Nat → D) (hG : ∀ g, low 0 (G g))
include hG
theorem sortC (l : List Cmd) (hl : ∀ c ∈ l, c.Ok) (hsz : l.length ≤ 1000000) {h : List Ob} {i : Nat} (hi : h[i]? = some (.buf 40 6 (l.map cmdX))) :
 Does Tryz.prog G 42 h [.buf i l.length, .fn 43 []] (fun h' r => ∃ l' : List Cmd, l'.Perm l ∧ l'.Pairwise (fun x y => ¬ cmpC y x < 0) ∧ h' = h.set i (.buf 40 6 (l'.map cmdX)) ∧ r = .tup []) :=
 sort_does (xX := cmdX) (okX := Cmd.Ok) (k := 6) (ρ := laysSort_ren) hG laysSort Tryz.isAgg40 Tryz.sizeOf40 (by decide) (fun _ _ => rfl) (fun c _ => one_cmd c) (fun c => low_cmd 0 c) cmpC_swo (enters_of Tryz.func43 (by kernel_rfl) rfl) (fun x y hx hy => compare_d G hG x y hx hy []) hl hsz hi
end
section
theorem EqC.symm {a b : Cmd} (h : EqC a b) : EqC b a := ⟨h.1.symm, h.2.1.symm, h.2.2.symm⟩
theorem EqC.trans {a b c : Cmd} (h : EqC a b) (k : EqC b c) : EqC a c := ⟨h.1.trans k.1, h.2.1.trans k.2.1, h.2.2.trans k.2.2⟩
theorem EqC.refl (a : Cmd) : EqC a a := ⟨rfl, rfl, rfl⟩
def SubC (a b : List Cmd) : Prop := ∀ c ∈ a, ∃ d ∈ b, EqC c d
theorem SubC.trans {a b c : List Cmd} (h : SubC a b) (k : SubC b c) : SubC a c := fun x hx => by
 obtain ⟨y, hy, e⟩ := h x hx
 obtain ⟨z, hz, f⟩ := k y hy
 exact ⟨z, hz, e.trans f⟩
theorem hasL_iff : ∀ (l : List Cmd) (c : Cmd), hasL l c = true ↔ ∃ d ∈ l, EqC d c
 | [], c => by simp [hasL]
 | x :: s, c => by
  rw [hasL, Bool.or_eq_true, decide_eq_true_eq, hasL_iff s c, cmpC_zero]
  simp
theorem sortedL_of : ∀ l : List Cmd, l.Pairwise LtC → sortedL l = true
 | [], _ => rfl
 | [_], _ => rfl
 | x :: y :: t, h => by
  obtain ⟨h1, h2⟩ := List.pairwise_cons.1 h
  rw [sortedL, decide_eq_true (cmpC_lt.2 (h1 y List.mem_cons_self)), Bool.true_and]
  exact sortedL_of (y :: t) h2
end
section
theorem uintE_inj {n m : Nat} {x y : List UInt8} (hn : n < 18446744073709551616) (hm : m < 18446744073709551616) (h : uintE n ++ x = uintE m ++ y) : n = m ∧ x = y := by
 have h1 := numF_uintE 64 n 0 x hn hn (by omega) (.inl rfl)
 have h2 := numF_uintE 64 m 0 y hm hm (by omega) (.inl rfl)
 rw [h, h2] at h1
 simp only [Option.some.injEq, Prod.mk.injEq] at h1
 obtain ⟨rfl, _⟩ := h1
 exact ⟨rfl, List.append_cancel_left h⟩
theorem intE_inj {n m : Int} {x y : List UInt8} (hn : I64 n) (hm : I64 m) (h : intE n ++ x = intE m ++ y) : n = m ∧ x = y := by
 obtain ⟨h1, h2⟩ := uintE_inj (zz_lt n hn.1 hn.2) (zz_lt m hm.1 hm.2) h
 exact ⟨by rw [← unzz_zz n, h1, unzz_zz], h2⟩
theorem bytesE_inj {a b x y : List UInt8} (ha : a.length ≤ 1000000) (hb : b.length ≤ 1000000) (h : bytesE a ++ x = bytesE b ++ y) : a = b ∧ x = y := by
 unfold bytesE at h
 rw [List.append_assoc, List.append_assoc] at h
 obtain ⟨h1, h2⟩ := uintE_inj (by omega) (by omega) h
 exact List.append_inj h2 h1
theorem textE_inj {a b : ByteArray} {x y : List UInt8} (ha : a.size ≤ 1000000) (hb : b.size ≤ 1000000) (h : textE a ++ x = textE b ++ y) : a = b ∧ x = y := by
 unfold textE at h
 rw [List.append_assoc, List.append_assoc] at h
 obtain ⟨h1, h2⟩ := uintE_inj (by omega) (by omega) h
 obtain ⟨h3, h4⟩ := List.append_inj h2 (by simpa using h1)
 exact ⟨ByteArray.ext (Array.ext' h3), h4⟩
theorem writesE_inj : ∀ (a b : List (ByteArray × List UInt8)) (x y : List UInt8), a.length = b.length → (∀ w ∈ a, w.1.size ≤ 10000 ∧ w.2.length ≤ 10000) → (∀ w ∈ b, w.1.size ≤ 10000 ∧ w.2.length ≤ 10000) → writesE a ++ x = writesE b ++ y → a = b ∧ x = y
 | [], [], x, y, _, _, _, h => ⟨rfl, by simpa [writesE] using h⟩
 | [], _ :: _, _, _, hl, _, _, _ => by simp at hl
 | _ :: _, [], _, _, hl, _, _, _ => by simp at hl
 | u :: s, v :: t, x, y, hl, ha, hb, h => by
  have e : ∀ (u : ByteArray × List UInt8) (s : List (ByteArray × List UInt8)) (x : List UInt8), writesE (u :: s) ++ x = textE u.1 ++ (bytesE u.2 ++ (writesE s ++ x)) := fun u s x => by simp [writesE]
  rw [e, e] at h
  have hu := ha u (by simp)
  have hv := hb v (by simp)
  obtain ⟨h1, h2⟩ := textE_inj (by omega) (by omega) h
  obtain ⟨h3, h4⟩ := bytesE_inj (by omega) (by omega) h2
  obtain ⟨h5, h6⟩ := writesE_inj s t x y (by simpa using hl) (fun w hw => ha w (by simp [hw])) (fun w hw => hb w (by simp [hw])) h4
  exact ⟨by rw [h5, show u = v from Prod.ext h1 h3], h6⟩
theorem encC_inj {a b : Cmd} {x y : List UInt8} (ha : a.Ok) (hb : b.Ok) (h : encC a ++ x = encC b ++ y) : a = b ∧ x = y := by
 have e : ∀ (c : Cmd) (x : List UInt8), encC c ++ x = intE c.client ++ (intE c.seq ++ (intE c.kind ++ (uintE c.writes.length ++ (writesE c.writes ++ (intE c.replica ++ (bytesE c.tag ++ x)))))) := fun c x => by simp [encC, writeC]
 rw [e, e] at h
 obtain ⟨h1, h⟩ := intE_inj ha.client hb.client h
 obtain ⟨h2, h⟩ := intE_inj ha.seq hb.seq h
 obtain ⟨h3, h⟩ := intE_inj ha.kind hb.kind h
 obtain ⟨h4, h⟩ := uintE_inj (by have := ha.many; omega) (by have := hb.many; omega) h
 obtain ⟨h5, h⟩ := writesE_inj _ _ _ _ h4 ha.each hb.each h
 obtain ⟨h6, h⟩ := intE_inj ha.replica hb.replica h
 obtain ⟨h7, h8⟩ := bytesE_inj (by have := ha.tag; omega) (by have := hb.tag; omega) h
 cases a; cases b
 simp only at h1 h2 h3 h5 h6 h7
 subst h1 h2 h3 h5 h6 h7
 exact ⟨rfl, h8⟩
theorem EqC.eq {a b : Cmd} (h : EqC a b) (ha : a.Ok) (hb : b.Ok) : a = b := (encC_inj (x := []) (y := []) ha hb (by rw [h.2.2])).1
end
section
def OkL (l : List Cmd) : Prop := ∀ c ∈ l, c.Ok
theorem OkL.app {a b : List Cmd} (ha : OkL a) (hb : OkL b) : OkL (a ++ b) := fun c hc => (List.mem_append.1 hc).elim (ha c) (hb c)
def insC (c : Cmd) : List Cmd → List Cmd
 | [] => [c]
 | y :: t => if cmpC c y < 0 then c :: y :: t else if cmpC c y = 0 then y :: t else y :: insC c t
def ofL (l : List Cmd) : List Cmd := l.foldr insC []
theorem insC_mem : ∀ (c : Cmd) (l : List Cmd) (d : Cmd), d ∈ insC c l → d = c ∨ d ∈ l
 | c, [], d, h => by simp [insC] at h; exact .inl h
 | c, y :: t, d, h => by
  rw [insC] at h
  split at h
  · simpa using h
  split at h
  · exact .inr h
  · rcases List.mem_cons.1 h with rfl | h
    · exact .inr (by simp)
    · exact (insC_mem c t d h).imp id fun h => by simp [h]
theorem insC_old : ∀ (c : Cmd) (l : List Cmd) (d : Cmd), d ∈ l → d ∈ insC c l
 | c, y :: t, d, h => by
  rw [insC]
  split
  · exact List.mem_cons_of_mem _ h
  split
  · exact h
  · rcases List.mem_cons.1 h with rfl | h
    · simp
    · exact List.mem_cons_of_mem _ (insC_old c t d h)
theorem insC_new : ∀ (c : Cmd) (l : List Cmd), c.Ok → OkL l → c ∈ insC c l
 | c, [], _, _ => by simp [insC]
 | c, y :: t, hc, hl => by
  rw [insC]
  split
  · simp
  split
  · rename_i h0
    rw [EqC.eq (cmpC_zero.1 h0) hc (hl y (by simp))]; simp
  · exact List.mem_cons_of_mem _ (insC_new c t hc fun d hd => hl d (by simp [hd]))
theorem insC_sorted : ∀ (c : Cmd) (l : List Cmd), l.Pairwise LtC → (insC c l).Pairwise LtC
 | c, [], _ => by simp [insC]
 | c, y :: t, h => by
  obtain ⟨h1, h2⟩ := List.pairwise_cons.1 h
  rw [insC]
  split
  · rename_i hlt
    have hlt := cmpC_lt.1 hlt
    refine List.pairwise_cons.2 ⟨fun d hd => ?_, h⟩
    rcases List.mem_cons.1 hd with rfl | hd
    · exact hlt
    · exact hlt.trans (h1 d hd)
  split
  · exact h
  · rename_i hlt hz
    have hy : LtC y c := by
     rcases cmpC_cases c y with ⟨a, _⟩ | ⟨a, _⟩ | ⟨a, _⟩
     · exact absurd (cmpC_lt.2 a) hlt
     · exact absurd (cmpC_zero.2 a) hz
     · exact a
    refine List.pairwise_cons.2 ⟨fun d hd => ?_, insC_sorted c t h2⟩
    rcases insC_mem c t d hd with rfl | hd
    · exact hy
    · exact h1 d hd
theorem ofL_sorted : ∀ l : List Cmd, (ofL l).Pairwise LtC
 | [] => .nil
 | c :: t => insC_sorted c _ (ofL_sorted t)
theorem ofL_sub : ∀ (l : List Cmd) (c : Cmd), c ∈ ofL l → c ∈ l
 | [], _, h => h
 | x :: t, c, h => by
  rcases insC_mem x _ c h with rfl | h
  · simp
  · exact List.mem_cons_of_mem _ (ofL_sub t c h)
theorem ofL_ok {l : List Cmd} (h : OkL l) : OkL (ofL l) := fun c hc => h c (ofL_sub l c hc)
theorem mem_ofL : ∀ {l : List Cmd} {c : Cmd}, OkL l → (c ∈ ofL l ↔ c ∈ l)
 | [], _, _ => Iff.rfl
 | x :: t, c, hl => ⟨ofL_sub _ c, fun h => by
   have ht : OkL t := fun d hd => hl d (by simp [hd])
   show c ∈ insC x (ofL t)
   rcases List.mem_cons.1 h with rfl | h
   · exact insC_new _ _ (hl _ (by simp)) (ofL_ok ht)
   · exact insC_old _ _ _ ((mem_ofL ht).2 h)⟩
theorem ofL_len : ∀ l : List Cmd, (ofL l).length ≤ l.length
 | [] => Nat.le_refl _
 | x :: t => by
  have key : ∀ (c : Cmd) (s : List Cmd), (insC c s).length ≤ s.length + 1 := fun c s => by
   induction s with
   | nil => simp [insC]
   | cons y u ih =>
    rw [insC]
    split
    · simp
    split
    · simp
    · simp only [List.length_cons]; omega
  have h1 := key x (ofL t)
  have h2 := ofL_len t
  show (insC x (ofL t)).length ≤ _
  simp only [List.length_cons]; omega
theorem sorted_ext : ∀ {a b : List Cmd}, a.Pairwise LtC → b.Pairwise LtC → (∀ c, c ∈ a ↔ c ∈ b) → a = b
 | [], [], _, _, _ => rfl
 | [], y :: t, _, _, h => by simpa using (h y).2 (by simp)
 | x :: s, [], _, _, h => by simpa using (h x).1 (by simp)
 | x :: s, y :: t, ha, hb, h => by
  obtain ⟨a1, a2⟩ := List.pairwise_cons.1 ha
  obtain ⟨b1, b2⟩ := List.pairwise_cons.1 hb
  have hxy : x = y := by
   rcases List.mem_cons.1 ((h x).1 (by simp)) with e | hx
   · exact e
   rcases List.mem_cons.1 ((h y).2 (by simp)) with e | hy
   · exact e.symm
   exact absurd ((a1 y hy).trans (b1 x hx)) (LtC.irrefl x)
  subst hxy
  rw [sorted_ext a2 b2 fun c => ⟨fun hc => ?_, fun hc => ?_⟩]
  · rcases List.mem_cons.1 ((h c).1 (by simp [hc])) with rfl | q
    · exact absurd (a1 c hc) (LtC.irrefl c)
    · exact q
  · rcases List.mem_cons.1 ((h c).2 (by simp [hc])) with rfl | q
    · exact absurd (b1 c hc) (LtC.irrefl c)
    · exact q
theorem ofL_is {l l' : List Cmd} (hl : OkL l) (hp : l'.Perm l) (hs : l'.Pairwise (fun x y => ¬ cmpC y x < 0)) : compactL l' = ofL l := by
 have hl' : OkL l' := fun c hc => hl c (hp.mem_iff.1 hc)
 refine sorted_ext (compact_sorted hs) (ofL_sorted l) fun c => ?_
 rw [mem_ofL hl, ← hp.mem_iff]
 refine ⟨compact_mem, fun h => ?_⟩
 obtain ⟨d, h1, h2⟩ := compact_has h
 rw [h2.eq (hl' c h) (hl' d (compact_mem h1))]; exact h1
theorem hasL_mem {l : List Cmd} {c : Cmd} (hl : OkL l) (hc : c.Ok) : hasL l c = true ↔ c ∈ l := by
 rw [hasL_iff]
 exact ⟨fun ⟨d, h1, h2⟩ => by rw [← h2.eq (hl d h1) hc]; exact h1, fun h => ⟨c, h, .refl c⟩⟩
def joinL (a b : List Cmd) : List Cmd := ofL (a ++ b)
def minusL (a b : List Cmd) : List Cmd := (ofL a).filter fun c => !hasL b c
theorem minusL_ok {a b : List Cmd} (ha : OkL a) : OkL (minusL a b) := fun c hc => ofL_ok ha c (List.mem_filter.1 hc).1
theorem minusL_sorted (a b : List Cmd) : (minusL a b).Pairwise LtC := (ofL_sorted a).filter _
theorem mem_minusL {a b : List Cmd} {c : Cmd} (ha : OkL a) (hb : OkL b) : c ∈ minusL a b ↔ c ∈ a ∧ c ∉ b := by
 unfold minusL
 rw [List.mem_filter, mem_ofL ha]
 constructor
 · rintro ⟨h1, h2⟩
   refine ⟨h1, fun h => ?_⟩
   rw [(hasL_mem hb (ha c h1)).2 h] at h2; cases h2
 · rintro ⟨h1, h2⟩
   refine ⟨h1, ?_⟩
   cases h : hasL b c
   · rfl
   · exact absurd ((hasL_mem hb (ha c h1)).1 h) h2
theorem joinL_ok {a b : List Cmd} (ha : OkL a) (hb : OkL b) : OkL (joinL a b) := ofL_ok (ha.app hb)
theorem joinL_sorted (a b : List Cmd) : (joinL a b).Pairwise LtC := ofL_sorted _
theorem mem_joinL {a b : List Cmd} {c : Cmd} (ha : OkL a) (hb : OkL b) : c ∈ joinL a b ↔ c ∈ a ∨ c ∈ b := by
 unfold joinL; rw [mem_ofL (ha.app hb), List.mem_append]
end
section
set_option maxRecDepth 100000
set_option maxHeartbeats 2000000
attribute [local irreducible] on aOp
attribute [local go_sem] decide_true decide_false Bool.not_true Bool.not_false
attribute [local simp] byD_len
theorem lowR_cms (m : Nat) (l : List Cmd) : lowR m (l.map cmdX) := by have := low_cms m l; rwa [low] at this
theorem lies1 {h : List Ob} {i : Nat} {E k : Nat} {rows : List (List D)} (lr : lowR 0 rows) (hi : h[i]? = some (.buf E k rows)) : Lies (fun _ => i) [.buf E k rows] h := by
 refine ⟨fun j ob hj => ?_, fun a b ha hb _ => ?_, fun x hx => ?_⟩
 · rcases j with _ | j
   · cases hj
     simp only [renOb, renR_low0 _ _ lr]; exact hi
   · simp at hj
 · simp at ha hb; omega
 · rw [List.mem_singleton.1 hx]; exact lowR_mono (Nat.zero_le _) _ lr
variable (G : Nat → D) (hG : ∀ g, low 0 (G g))
include hG
theorem compact_at (l : List Cmd) (hl : ∀ c ∈ l, c.Ok) (hsz : l.length ≤ 1000000) {h : List Ob} {i : Nat} (hi : h[i]? = some (.buf 40 6 (l.map cmdX))) :
 Does Tryz.prog G 44 h [.buf i l.length, .fn 45 []] (fun h' r => ∃ rows, h' = h.set i (.buf 40 6 rows) ∧ rows.length = l.length ∧ rows.take (compactL l).length = (compactL l).map cmdX ∧ (r = .win i l.length 0 (compactL l).length ∨ (r = .buf i l.length ∧ compactL l = l))) := by
 have F := Does.frame hG (lies1 (lowR_cms 0 l) hi) (args := [.buf 0 l.length, .fn 45 []]) (by simp [lowL, low]) (K1 := fun h' r => ∃ rows, h' = [.buf 40 6 rows] ∧ rows.length = l.length ∧ rows.take (compactL l).length = (compactL l).map cmdX ∧ (r = .win 0 l.length 0 (compactL l).length ∨ (r = .buf 0 l.length ∧ compactL l = l))) (by
  rintro _ _ ⟨rows, rfl, _⟩
  refine ⟨fun a b ha hb _ => by simp at ha hb; omega, fun k h1 h2 => by simp at h1 h2; omega⟩) (compact_d G hG l hl hsz)
 have e : renL (fun _ => i) [.buf 0 l.length, .fn 45 []] = [.buf i l.length, .fn 45 []] := by simp [renL, ren]
 rw [e] at F
 refine F.mono ?_
 rintro _ _ ⟨_, r, ⟨rows, rfl, h1, h2, h3⟩, rfl, rfl⟩
 refine ⟨renR (fun _ => i) rows, by simp [plc, renOb], by rw [renR_map, List.length_map, h1], ?_, ?_⟩
 · rw [renR_map, ← List.map_take, h2, ← renR_map, renR_low0 _ _ (lowR_cms 0 _)]
 · rcases h3 with rfl | ⟨rfl, h3⟩
   · exact .inl (by rw [ren])
   · exact .inr ⟨by rw [ren], h3⟩
omit hG
def oG (rows : List (List D)) (T : List Ob) : List Ob := .buf 40 6 rows :: T
variable {rows r2 : List (List D)} {T : List Ob} {x y : Ob}
theorem oG_0 : (oG rows T)[0]? = some (.buf 40 6 rows) := rfl
theorem oG_s0 : (oG rows T).set 0 (.buf 40 6 r2) = oG r2 T := rfl
theorem oG_app : oG rows T ++ [x] = oG rows (T ++ [x]) := rfl
theorem oG_len : (oG rows T).length = T.length + 1 := rfl
theorem oG_last : (oG rows (T ++ [x]))[T.length + 1]? = some x := by simp [oG]
theorem oG_lset : (oG rows (T ++ [x])).set (T.length + 1) y = oG rows (T ++ [y]) := by simp [oG]
theorem ofRows_set {l : List Cmd} {k : Nat} {c : Cmd} (h : l[k]? = some c) : ((l.take k).map cmdX ++ List.replicate (l.length - k) zeC).set k (cmdX c) = (l.take (k + 1)).map cmdX ++ List.replicate (l.length - (k + 1)) zeC := by
 have hk := (List.getElem?_eq_some_iff.1 h).1
 rw [List.set_append_right _ _ (by simp; omega), show l.length - k = (l.length - (k + 1)) + 1 by omega, List.replicate_succ, show k - ((l.take k).map cmdX).length = 0 by simp; omega, List.set_cons_zero, List.take_add_one, h]
 simp
theorem ofRows_get {l : List Cmd} {k : Nat} (hk : k < l.length) : ((l.take k).map cmdX ++ List.replicate (l.length - k) zeC)[k]? = some zeC := by
 rw [List.getElem?_append_right (by simp; omega), List.getElem?_replicate, if_pos (by simp; omega)]
theorem ofRows_len (l : List Cmd) {k : Nat} (hk : k ≤ l.length) : ((l.take k).map cmdX ++ List.replicate (l.length - k) zeC).length = l.length := by
 simp; omega
theorem putL_z (c : Cmd) : putL zeC 0 (cmdX c) = cmdX c := put_cmd rfl c
variable (hG : ∀ g, low 0 (G g))
include hG
theorem of0 (l : List Cmd) (hl : OkL l) (hsz : l.length ≤ 1000) : Does Tryz.prog G 14 [] [.sl 6 (l.map cmdX)] (fun h' r => h' = [.buf 40 6 ((ofL l).map cmdX)] ∧ r = .buf 0 (ofL l).length) := by
 refine Does.only0 hG (low_cms _ _) (Does.reown (K := fun h' r => ∃ rows, h'[0]? = some (.buf 40 6 rows) ∧ rows.length = l.length ∧ rows.take (ofL l).length = (ofL l).map cmdX ∧ (r = .win 0 l.length 0 (ofL l).length ∨ (r = .buf 0 l.length ∧ (ofL l).length = l.length))) (K' := fun h' r => ∃ i, h'[i]? = some (.buf 40 6 ((ofL l).map cmdX)) ∧ r = .buf i (ofL l).length) ?_ ?_) (fun _ _ h => h)
 rotate_left
 · rintro h' r ⟨rows, h1, h2, h3, rfl | ⟨rfl, h4⟩⟩
   · have hb := ofL_len l
     refine .inr ⟨0, l.length, (ofL l).length, _, _, rows, h1, h2, hb, rfl, h'.length, ?_, rfl⟩
     rw [List.getElem?_append_right (by simp)]
     simp [h3]
   · exact .inl ⟨0, by rw [← h3, h4, ← h2, List.take_length]; exact h1, by rw [h4]⟩
 refine does_keep Tryz.func14 rfl (Nat.le_of_ble_eq_true rfl) ?_
 simp only [Tryz.ntmps14]
 repeat' first
  | (refine ao_make rfl rfl rfl rfl apT_22 zero_cmd rfl (by omega) (by omega) ?_)
  | refine aw_seq' ?_
  | refine aw_region' ?_
  | refine aw_block ?_
  | refine ao_nil ?_
  | (refine ao1 rfl rfl fun K HK => ?_; simp only [go_sem, ↓reduceIte, Nat.reduceEqDiff, Nat.reduceAdd, Nat.reduceLeDiff, Nat.reduceBEq, Nat.reduceMul, Int.reduceEq, Int.reduceLT, Int.reduceLE, List.length_map] <;> (refine HK _ _ ?_; clear HK K))
 refine aw_for (fun m e h' => ∃ (k : Nat) (T : List Ob), k ≤ l.length ∧ m = l.length - k ∧ h' = oG ((l.take k).map cmdX ++ List.replicate (l.length - k) zeC) T ∧ e 3 = .buf 0 l.length ∧ e 9 = .sl 6 (l.map cmdX) ∧ e 10 = .v (.int .i64 l.length) ∧ e 11 = .v (.int .i64 k)) l.length ⟨0, [], Nat.zero_le _, rfl, by simp [oG], rfl, rfl, rfl, rfl⟩ ?_
 rintro m e h' ⟨k, T, hk, rfl, rfl, e3, e9, e10, e11⟩
 have hrl := ofRows_len l hk
 by_cases hlt : k < l.length
 · have hx : l[k]? = some l[k] := List.getElem?_eq_getElem hlt
   have hxo := hl _ (List.getElem_mem hlt)
   generalize l[k] = x at hx hxo
   have wk : IntKind.i64.wrap ((k : Int) + 1) = (k : Int) + 1 := IntWalk.i64_in _ (by omega)
   have hzr : ((l.take k).map cmdX ++ List.replicate (l.length - k) zeC)[((k : Nat) : Int).toNat]? = some zeC := by rw [Int.toNat_natCast]; exact ofRows_get hlt
   have hset := ofRows_set hx
   generalize (l.take k).map cmdX ++ List.replicate (l.length - k) zeC = rows at hrl hzr hset
   repeat' first
    | (refine ao_idxB rfl rfl rfl rfl oG_0 hrl (by rw [elT_22]; exact szT_40) (by omega) (by omega) ?_)
    | (refine ao_storeB rfl rfl oG_0 hrl hzr rfl (by rw [one_cmd, szT_40]; rfl) (Nat.le_refl 6) ?_)
    | refine aw_seq' ?_
    | refine aw_region' ?_
    | refine aw_block ?_
    | refine ao_nil ?_
    | (refine ao1 rfl rfl fun K HK => ?_; simp only [go_sem, ↓reduceIte, Nat.reduceEqDiff, Nat.reduceAdd, Nat.reduceLeDiff, Nat.reduceBEq, Nat.reduceMul, Int.reduceEq, Int.reduceLT, Int.reduceLE, e3, e9, e10, e11, wk, cmdX_eq, oG_app, oG_len, oG_last, oG_lset, oG_0, List.length_map, Int.toNat_natCast]; (first | refine splitB (fun hq => ?_) (fun hq => ?_) | (refine ⟨by omega, by omega, ?_⟩; refine row_at (by assumption) ?_) | skip) <;> (refine HK _ _ ?_; clear HK K))
    | (refine ao2 rfl rfl rfl ent_41 (clone_d G hG x hxo _) ?_; rintro _ _ ⟨rfl, rfl⟩)
    | (refine ao1' rfl fun K HK => ?_; simp only [go_sem, ↓reduceIte, Nat.reduceEqDiff, Nat.reduceAdd, Nat.reduceLeDiff, Nat.reduceBEq, Nat.reduceMul, Int.reduceEq, Int.reduceLT, Int.reduceLE, e3, e9, e10, e11, wk, cmdX_eq, oG_app, oG_len, oG_last, oG_lset, oG_0, List.length_map, Int.toNat_natCast]; refine HK _ _ ?_; clear HK K)
    | refine aw_if1 rfl ?_
    | refine aw_if0 rfl ?_
    | refine aw_skip ?_
    | refine aw_exit ?_
    | refine thenS_n ?_
    | (exfalso; omega)
   exact ⟨rfl, l.length - (k + 1), by omega, k + 1, _, by omega, rfl, by
    show (oG rows _).set 0 (.buf 40 6 (rows.set (Int.toNat (k : Int)) (putL zeC 0 (cmdX x)))) = _
    rw [putL_z, Int.toNat_natCast, hset]; rfl, e3, e9, e10, rfl⟩
 · have hr : (l.take k).map cmdX ++ List.replicate (l.length - k) zeC = l.map cmdX := by rw [List.take_of_length_le (by omega), show l.length - k = 0 by omega]; simp
   rw [hr]
   repeat' first
    | (refine ao_callK rfl rfl rfl (by kernel_rfl) (sortC G hG l hl (by omega) oG_0) ?_; rintro _ _ ⟨l', hp, hs, rfl, rfl⟩; rw [oG_s0]; have hl' : OkL l' := fun c hc => hl c (hp.mem_iff.1 hc); have hle := hp.length_eq)
    | (refine ao_callK rfl rfl rfl (by kernel_rfl) (hle ▸ compact_at G hG l' hl' (by omega) oG_0) ?_; rintro _ r ⟨rows, rfl, h1, h2, h3⟩; rw [ofL_is hl hp hs] at h2 h3; rw [oG_s0])
    | refine aw_seq' ?_
    | refine aw_region' ?_
    | refine aw_block ?_
    | refine ao_nil ?_
    | (refine ao1 rfl rfl fun K HK => ?_; simp only [go_sem, ↓reduceIte, Nat.reduceEqDiff, Nat.reduceAdd, Nat.reduceLeDiff, Nat.reduceBEq, Nat.reduceMul, Int.reduceEq, Int.reduceLT, Int.reduceLE, e3, e9, e10, e11, List.length_map]; (first | refine splitB (fun hq => ?_) (fun hq => ?_) | (refine ⟨by omega, by omega, ?_⟩; intro row hrow; obtain ⟨x, hx, rfl⟩ := row_inv hrow; clear hrow) | skip) <;> (refine HK _ _ ?_; clear HK K))
    | refine aw_if1 rfl ?_
    | refine aw_if0 rfl ?_
    | refine aw_skip ?_
    | refine aw_exit ?_
    | refine aw_ret ?_
    | (exfalso; omega)
   refine ⟨.inr rfl, [r], rfl, rows, rfl, h1, h2, ?_⟩
   rcases h3 with h3 | ⟨h3, h4⟩
   · exact .inl h3
   · exact .inr ⟨h3, by rw [h4, hle]⟩
theorem of_d (l : List Cmd) (hl : OkL l) (hsz : l.length ≤ 1000) (h : List Ob) : Does Tryz.prog G 14 h [.sl 6 (l.map cmdX)] (fun h' r => h' = h ++ [.buf 40 6 ((ofL l).map cmdX)] ∧ r = .buf h.length (ofL l).length) := does_newR hG (low_cms _ _) (by rw [lowL, lowL]; exact ⟨low_cms _ _, trivial⟩) (of0 G hG l hl hsz) h
theorem of_s (l : List Cmd) (hl : OkL l) (hsz : l.length ≤ 1000) (h : List Ob) : Does Tryz.prog G 14 h [.sl 6 (l.map cmdX)] (fun h' r => h' = h ∧ r = .sl 6 ((ofL l).map cmdX)) := Does.gave0 hG (low_cms _ _) (by rw [lowL, lowL]; exact ⟨low_cms _ _, trivial⟩) (List.length_map _) (of0 G hG l hl hsz) h
end
section
set_option maxRecDepth 100000
set_option maxHeartbeats 2000000
attribute [local irreducible] on aOp
attribute [local go_sem] decide_true decide_false Bool.not_true Bool.not_false
attribute [local simp] byD_len
theorem ao_mkf {P : Program} {G : Nat → D} {n : Nat} {e : Nat → D} {h : List Ob} {ops : Array Oper} {rest : List Oper} {Q : S → Prop} {t : Nat} {ty : TypeId} {pos : String} {aft : Array Edge} {gd : Option (Nat × Bool)} {f : FuncId} {caps : Array Operand} (hw : wantedD ops gd e = some true) (ht : decide (t < n) = true)
 (q : ao P G ops rest Q ⟨n, upd e t (.fn f (caps.toList.map (ev G e))), h⟩) : ao P G ops (⟨some t, .makeFunc (.func f) #[] caps, ty, pos, aft, gd⟩ :: rest) Q ⟨n, e, h⟩ := by
 have hN : nF P G e h (.makeFunc (.func f) #[] caps) = some (h, .fn f (caps.toList.map (ev G e))) := rfl
 refine ao_tri hw (nF_sound hN) ?_
 unfold putE
 simp only [if_pos (of_decide_eq_true ht)]
 exact q
def Tells (G : Nat → D) (g : FuncId) (caps : List D) (p : Cmd → Bool) (l : List Cmd) (h : List Ob) : Prop := ∀ c ∈ l, Does Tryz.prog G g h (.agg (cmdX c) :: caps) (fun h' r => h' = h ∧ r = .v (.bool (p c)))
def Found (p : Cmd → Bool) (l : List Cmd) (z : Int) : Prop := (z = -1 ∧ ∀ c ∈ l, p c = false) ∨ ∃ (k : Nat) (c : Cmd), z = k ∧ l[k]? = some c ∧ p c = true ∧ ∀ y ∈ l.take k, p y = false
theorem take_all {p : Cmd → Bool} {l : List Cmd} {k : Nat} {x : Cmd} (h : ∀ y ∈ l.take k, p y = false) (hx : l[k]? = some x) (q : p x = false) : ∀ y ∈ l.take (k + 1), p y = false := by
 rw [List.take_add_one, hx]
 intro y hy
 rcases List.mem_append.1 hy with hy | hy
 · exact h y hy
 · simp at hy; rw [hy]; exact q
variable (G : Nat → D) (hG : ∀ g, low 0 (G g))
theorem index_s (l : List Cmd) (p : Cmd → Bool) (g : FuncId) (caps : List D) (he : entB Tryz.prog g = true) (hsz : l.length ≤ 1000000) (h : List Ob) (ht : Tells G g caps p l h) :
 Does Tryz.prog G 81 h [.sl 6 (l.map cmdX), .fn g caps] (fun h' r => h' = h ∧ ∃ z, r = .v (.int .i64 z) ∧ Found p l z) := by
 refine does_keep Tryz.func81 rfl (Nat.le_of_ble_eq_true rfl) ?_
 simp only [Tryz.ntmps81]
 repeat' first
  | refine aw_seq' ?_
  | refine aw_region' ?_
  | refine aw_block ?_
  | refine ao_nil ?_
  | (refine ao1 rfl rfl fun K HK => ?_; simp only [go_sem, ↓reduceIte, Nat.reduceEqDiff, Nat.reduceAdd, Nat.reduceLeDiff, Nat.reduceBEq, Nat.reduceMul, Int.reduceEq, Int.reduceLT, Int.reduceLE, List.length_map] <;> (refine HK _ _ ?_; clear HK K))
 refine aw_for (fun m e h' => ∃ k : Nat, k ≤ l.length ∧ m = l.length - k ∧ (∀ y ∈ l.take k, p y = false) ∧ h' = h ∧ e 0 = .sl 6 (l.map cmdX) ∧ e 1 = .fn g caps ∧ e 7 = .v (.int .i64 l.length) ∧ e 8 = .v (.int .i64 k)) l.length ⟨0, Nat.zero_le _, rfl, by simp, rfl, rfl, rfl, rfl, rfl⟩ ?_
 rintro m e h' ⟨k, hk, rfl, ha, rfl, e0, e1, e7, e8⟩
 by_cases hlt : k < l.length
 · have hx : l[k]? = some l[k] := List.getElem?_eq_getElem hlt
   have hxm := List.getElem_mem hlt
   generalize l[k] = x at hx hxm
   have wk : IntKind.i64.wrap ((k : Int) + 1) = (k : Int) + 1 := IntWalk.i64_in _ (by omega)
   have hc := ht x hxm
   cases hpx : p x
   · rw [hpx] at hc
     repeat' first
      | (refine ao_callK rfl rfl rfl he hc ?_; rintro _ _ ⟨rfl, rfl⟩)
      | refine aw_seq' ?_
      | refine aw_region' ?_
      | refine aw_block ?_
      | refine ao_nil ?_
      | (refine ao1 rfl rfl fun K HK => ?_; simp only [go_sem, ↓reduceIte, Nat.reduceEqDiff, Nat.reduceAdd, Nat.reduceLeDiff, Nat.reduceBEq, Nat.reduceMul, Int.reduceEq, Int.reduceLT, Int.reduceLE, e0, e1, e7, e8, cmdX_eq, wk, List.length_map, Int.toNat_natCast]; (first | refine splitB (fun hq => ?_) (fun hq => ?_) | (refine ⟨by omega, by omega, ?_⟩; refine row_at (by assumption) ?_) | skip) <;> (refine HK _ _ ?_; clear HK K))
      | refine aw_if1 rfl ?_
      | refine aw_if0 rfl ?_
      | refine aw_skip ?_
      | refine aw_exit ?_
      | refine aw_ret ?_
      | refine thenS_n ?_
      | (exfalso; omega)
     exact ⟨rfl, l.length - (k + 1), by omega, k + 1, by omega, rfl, take_all ha hx hpx, rfl, e0, e1, e7, rfl⟩
   · rw [hpx] at hc
     repeat' first
      | (refine ao_callK rfl rfl rfl he hc ?_; rintro _ _ ⟨rfl, rfl⟩)
      | refine aw_seq' ?_
      | refine aw_region' ?_
      | refine aw_block ?_
      | refine ao_nil ?_
      | (refine ao1 rfl rfl fun K HK => ?_; simp only [go_sem, ↓reduceIte, Nat.reduceEqDiff, Nat.reduceAdd, Nat.reduceLeDiff, Nat.reduceBEq, Nat.reduceMul, Int.reduceEq, Int.reduceLT, Int.reduceLE, e0, e1, e7, e8, cmdX_eq, wk, List.length_map, Int.toNat_natCast]; (first | refine splitB (fun hq => ?_) (fun hq => ?_) | (refine ⟨by omega, by omega, ?_⟩; refine row_at (by assumption) ?_) | skip) <;> (refine HK _ _ ?_; clear HK K))
      | refine aw_if1 rfl ?_
      | refine aw_if0 rfl ?_
      | refine aw_skip ?_
      | refine aw_exit ?_
      | refine aw_ret ?_
      | refine thenS_r ?_
      | refine inB_r ?_
      | (exfalso; omega)
     exact ⟨.inr rfl, [.v (.int .i64 k)], rfl, rfl, _, rfl, .inr ⟨k, x, rfl, hx, hpx, ha⟩⟩
 · skip
   repeat' first
    | refine aw_seq' ?_
    | refine aw_region' ?_
    | refine aw_block ?_
    | refine ao_nil ?_
    | (refine ao1 rfl rfl fun K HK => ?_; simp only [go_sem, ↓reduceIte, Nat.reduceEqDiff, Nat.reduceAdd, Nat.reduceLeDiff, Nat.reduceBEq, Nat.reduceMul, Int.reduceEq, Int.reduceLT, Int.reduceLE, e0, e1, e7, e8]; (first | refine splitB (fun hq => ?_) (fun hq => ?_) | (refine ⟨by omega, by omega, ?_⟩; intro row hrow; obtain ⟨x, hx, rfl⟩ := row_inv hrow; clear hrow) | skip) <;> (refine HK _ _ ?_; clear HK K))
    | refine aw_if1 rfl ?_
    | refine aw_if0 rfl ?_
    | refine aw_skip ?_
    | refine aw_exit ?_
    | refine aw_ret ?_
    | (exfalso; omega)
   exact ⟨.inr rfl, [.v (.int .i64 (-1))], rfl, rfl, _, rfl, .inl ⟨rfl, by rwa [List.take_of_length_le (by omega)] at ha⟩⟩
theorem index_b (l : List Cmd) (p : Cmd → Bool) (g : FuncId) (caps : List D) (he : entB Tryz.prog g = true) (hsz : l.length ≤ 1000000) (T : List Ob) (ht : Tells G g caps p l (oG (l.map cmdX) T)) :
 Does Tryz.prog G 81 (oG (l.map cmdX) T) [.buf 0 l.length, .fn g caps] (fun h' r => h' = oG (l.map cmdX) T ∧ ∃ z, r = .v (.int .i64 z) ∧ Found p l z) := by
 refine does_keep Tryz.func81 rfl (Nat.le_of_ble_eq_true rfl) ?_
 simp only [Tryz.ntmps81]
 repeat' first
  | refine aw_seq' ?_
  | refine aw_region' ?_
  | refine aw_block ?_
  | refine ao_nil ?_
  | (refine ao1 rfl rfl fun K HK => ?_; simp only [go_sem, ↓reduceIte, Nat.reduceEqDiff, Nat.reduceAdd, Nat.reduceLeDiff, Nat.reduceBEq, Nat.reduceMul, Int.reduceEq, Int.reduceLT, Int.reduceLE, List.length_map] <;> (refine HK _ _ ?_; clear HK K))
 refine aw_for (fun m e h' => ∃ k : Nat, k ≤ l.length ∧ m = l.length - k ∧ (∀ y ∈ l.take k, p y = false) ∧ h' = oG (l.map cmdX) T ∧ e 0 = .buf 0 l.length ∧ e 1 = .fn g caps ∧ e 7 = .v (.int .i64 l.length) ∧ e 8 = .v (.int .i64 k)) l.length ⟨0, Nat.zero_le _, rfl, by simp, rfl, rfl, rfl, rfl, rfl⟩ ?_
 rintro m e h' ⟨k, hk, rfl, ha, rfl, e0, e1, e7, e8⟩
 by_cases hlt : k < l.length
 · have hx : l[k]? = some l[k] := List.getElem?_eq_getElem hlt
   have hxm := List.getElem_mem hlt
   generalize l[k] = x at hx hxm
   have wk : IntKind.i64.wrap ((k : Int) + 1) = (k : Int) + 1 := IntWalk.i64_in _ (by omega)
   have hxr : (l.map cmdX)[((k : Nat) : Int).toNat]? = some (cmdX x) := by rw [Int.toNat_natCast, List.getElem?_map, hx]; rfl
   have hc := ht x hxm
   cases hpx : p x
   · rw [hpx] at hc
     repeat' first
      | (refine ao_callK rfl rfl rfl he hc ?_; rintro _ _ ⟨rfl, rfl⟩)
      | (refine ao_idxB rfl rfl rfl rfl oG_0 (List.length_map _) (by rw [elT_22]; exact szT_40) (by omega) (by omega) ?_)
      | (refine ao_loadB rfl rfl rfl oG_0 (List.length_map _) hxr (getC _) ?_)
      | refine aw_seq' ?_
      | refine aw_region' ?_
      | refine aw_block ?_
      | refine ao_nil ?_
      | (refine ao1 rfl rfl fun K HK => ?_; simp only [go_sem, ↓reduceIte, Nat.reduceEqDiff, Nat.reduceAdd, Nat.reduceLeDiff, Nat.reduceBEq, Nat.reduceMul, Int.reduceEq, Int.reduceLT, Int.reduceLE, e0, e1, e7, e8, wk, List.length_map]; (first | refine splitB (fun hq => ?_) (fun hq => ?_) | skip) <;> (refine HK _ _ ?_; clear HK K))
      | refine aw_if1 rfl ?_
      | refine aw_if0 rfl ?_
      | refine aw_skip ?_
      | refine aw_exit ?_
      | refine aw_ret ?_
      | refine thenS_n ?_
      | (exfalso; omega)
     exact ⟨rfl, l.length - (k + 1), by omega, k + 1, by omega, rfl, take_all ha hx hpx, rfl, e0, e1, e7, rfl⟩
   · rw [hpx] at hc
     repeat' first
      | (refine ao_callK rfl rfl rfl he hc ?_; rintro _ _ ⟨rfl, rfl⟩)
      | (refine ao_idxB rfl rfl rfl rfl oG_0 (List.length_map _) (by rw [elT_22]; exact szT_40) (by omega) (by omega) ?_)
      | (refine ao_loadB rfl rfl rfl oG_0 (List.length_map _) hxr (getC _) ?_)
      | refine aw_seq' ?_
      | refine aw_region' ?_
      | refine aw_block ?_
      | refine ao_nil ?_
      | (refine ao1 rfl rfl fun K HK => ?_; simp only [go_sem, ↓reduceIte, Nat.reduceEqDiff, Nat.reduceAdd, Nat.reduceLeDiff, Nat.reduceBEq, Nat.reduceMul, Int.reduceEq, Int.reduceLT, Int.reduceLE, e0, e1, e7, e8, wk, List.length_map]; (first | refine splitB (fun hq => ?_) (fun hq => ?_) | skip) <;> (refine HK _ _ ?_; clear HK K))
      | refine aw_if1 rfl ?_
      | refine aw_if0 rfl ?_
      | refine aw_skip ?_
      | refine aw_exit ?_
      | refine aw_ret ?_
      | refine thenS_r ?_
      | refine inB_r ?_
      | (exfalso; omega)
     exact ⟨.inr rfl, [.v (.int .i64 k)], rfl, rfl, _, rfl, .inr ⟨k, x, rfl, hx, hpx, ha⟩⟩
 · skip
   repeat' first
    | refine aw_seq' ?_
    | refine aw_region' ?_
    | refine aw_block ?_
    | refine ao_nil ?_
    | (refine ao1 rfl rfl fun K HK => ?_; simp only [go_sem, ↓reduceIte, Nat.reduceEqDiff, Nat.reduceAdd, Nat.reduceLeDiff, Nat.reduceBEq, Nat.reduceMul, Int.reduceEq, Int.reduceLT, Int.reduceLE, e0, e1, e7, e8]; (first | refine splitB (fun hq => ?_) (fun hq => ?_) | skip) <;> (refine HK _ _ ?_; clear HK K))
    | refine aw_if1 rfl ?_
    | refine aw_if0 rfl ?_
    | refine aw_skip ?_
    | refine aw_exit ?_
    | refine aw_ret ?_
    | (exfalso; omega)
   exact ⟨.inr rfl, [.v (.int .i64 (-1))], rfl, rfl, _, rfl, .inl ⟨rfl, by rwa [List.take_of_length_le (by omega)] at ha⟩⟩
end
section
set_option maxRecDepth 100000
set_option maxHeartbeats 2000000
attribute [local irreducible] on aOp
attribute [local go_sem] decide_true decide_false Bool.not_true Bool.not_false
attribute [local simp] byD_len
def delL (p : Cmd → Bool) (l : List Cmd) : List Cmd := l.filter fun c => !p c
theorem delL_len (p : Cmd → Bool) (l : List Cmd) : (delL p l).length ≤ l.length := List.length_filter_le _ _
theorem delL_all {p : Cmd → Bool} {l : List Cmd} (h : ∀ c ∈ l, p c = false) : delL p l = l := List.filter_eq_self.2 fun c hc => by rw [h c hc]; rfl
theorem delL_take {p : Cmd → Bool} {l : List Cmd} {k : Nat} {x : Cmd} (hx : l[k]? = some x) : delL p (l.take (k + 1)) = delL p (l.take k) ++ if p x then [] else [x] := by
 unfold delL
 rw [List.take_add_one, hx, List.filter_append]
 cases h : p x <;> simp [h]
variable (G : Nat → D) (hG : ∀ g, low 0 (G g))
theorem delete_d (l : List Cmd) (p : Cmd → Bool) (g : FuncId) (caps : List D) (he : entB Tryz.prog g = true) (hsz : l.length ≤ 1000000) (T : List Ob) (ht : ∀ rows U, T <+: U → Tells G g caps p l (oG rows U)) :
 Does Tryz.prog G 46 (oG (l.map cmdX) T) [.buf 0 l.length, .fn g caps] (fun h' r => ∃ rows U, h' = oG rows U ∧ rows.length = l.length ∧ rows.take (delL p l).length = (delL p l).map cmdX ∧ (r = .win 0 l.length 0 (delL p l).length ∨ (r = .buf 0 l.length ∧ delL p l = l))) := by
 refine does_keep Tryz.func46 rfl (Nat.le_of_ble_eq_true rfl) ?_
 simp only [Tryz.ntmps46]
 repeat' first
  | (refine ao_callK rfl rfl rfl (by kernel_rfl) (index_b G l p g caps he hsz T (ht _ T (List.prefix_refl _))) ?_; rintro _ _ ⟨rfl, z, rfl, ⟨rfl, hf⟩ | ⟨k, c, rfl, hk, hpc, hf⟩⟩)
  | refine aw_seq' ?_
  | refine aw_region' ?_
  | refine aw_block ?_
  | refine ao_nil ?_
  | (refine ao1 rfl rfl fun K HK => ?_; simp only [go_sem, ↓reduceIte, Nat.reduceEqDiff, Nat.reduceAdd, Nat.reduceLeDiff, Nat.reduceBEq, Nat.reduceMul, Int.reduceEq, Int.reduceLT, Int.reduceLE]; (first | refine splitB (fun hq => ?_) (fun hq => ?_) | skip) <;> (refine HK _ _ ?_; clear HK K))
  | refine aw_if1 rfl ?_
  | refine aw_if0 rfl ?_
  | refine aw_skip ?_
  | refine aw_ret ?_
  | refine thenS_r ?_
  | (exfalso; omega)
 · exact ⟨.inr rfl, [.buf 0 l.length], rfl, l.map cmdX, T, rfl, by simp, by rw [delL_all hf, ← List.length_map (f := cmdX), List.take_length], .inr ⟨rfl, delL_all hf⟩⟩
 have hkl := (List.getElem?_eq_some_iff.1 hk).1
 have wk : IntKind.i64.wrap ((k : Int) + 1) = ((k + 1 : Nat) : Int) := IntWalk.i64_in _ (by omega)
 refine aw_for (fun m e h' => ∃ (K kk : Nat) (rows : List (List D)) (U : List Ob), K ≤ l.length ∧ m = l.length - K ∧ kk = (delL p (l.take K)).length ∧ kk < K ∧ rows.length = l.length ∧ (∀ r ∈ rows, r.length = 6) ∧ rows.take kk = (delL p (l.take K)).map cmdX ∧ (∀ j, K ≤ j → rows[j]? = (l.map cmdX)[j]?) ∧ T <+: U ∧ h' = oG rows U ∧ e 0 = .buf 0 l.length ∧ e 1 = .fn g caps ∧ e 5 = .v (.int .i64 kk) ∧ e 6 = .v (.int .i64 K)) (l.length - (k + 1))
  ⟨k + 1, k, l.map cmdX, T, hkl, rfl, by rw [delL_take hk, delL_all hf, if_pos hpc]; simp; omega, by omega, by simp, six_map l, by rw [delL_take hk, delL_all hf, if_pos hpc, List.append_nil, List.map_take], fun _ _ => rfl, List.prefix_refl _, rfl, rfl, rfl, rfl, by show D.v (.int .i64 (IntKind.i64.wrap ((k : Int) + 1))) = _; rw [wk]⟩ ?_
 clear wk hf hpc hk
 rintro m e h' ⟨K, kk, rows, U, hKl, rfl, hkk, hkK, hrl, hr6, hrt, hrr, hU, rfl, e0, e1, e5, e6⟩
 by_cases hlt : K < l.length
 rotate_left
 · skip
   rw [List.take_of_length_le (show l.length ≤ K by omega)] at hkk hrt
   repeat' first
    | (refine ao_from rfl rfl rfl rfl oG_0 hrl (by rw [elT_22]; exact szT_40) (by omega) ?_)
    | (refine ao_clrW rfl rfl oG_0 hrl elT_22 zero_cmd rfl (by decide) rfl (by omega) (Nat.le_refl _) fun ys hyl hyt => ?_)
    | (refine ao_upto rfl rfl rfl rfl rfl hyl (by rw [elT_22]; exact szT_40) (by omega) ?_)
    | refine aw_seq' ?_
    | refine aw_region' ?_
    | refine aw_block ?_
    | refine ao_nil ?_
    | (refine ao1 rfl rfl fun K HK => ?_; simp only [go_sem, ↓reduceIte, Nat.reduceEqDiff, Nat.reduceAdd, Nat.reduceLeDiff, Nat.reduceBEq, Nat.reduceMul, Int.reduceEq, Int.reduceLT, Int.reduceLE, e0, e1, e5, e6]; (first | refine splitB (fun hq => ?_) (fun hq => ?_) | skip) <;> (refine HK _ _ ?_; clear HK K))
    | refine aw_if1 rfl ?_
    | refine aw_if0 rfl ?_
    | refine aw_skip ?_
    | refine aw_exit ?_
    | refine aw_ret ?_
    | (exfalso; omega)
   exact ⟨.inr rfl, [.win 0 l.length 0 kk], rfl, ys, U, rfl, hyl, by rw [← hkk, hyt, hrt], .inl (by rw [← hkk]; rfl)⟩
 have hx : l[K]? = some l[K] := List.getElem?_eq_getElem hlt
 have hxm := List.getElem_mem hlt
 generalize l[K] = x at hx hxm
 have wk : IntKind.i64.wrap ((K : Int) + 1) = ((K + 1 : Nat) : Int) := IntWalk.i64_in _ (by omega)
 have wkk : IntKind.i64.wrap ((kk : Int) + 1) = ((kk + 1 : Nat) : Int) := IntWalk.i64_in _ (by omega)
 have hxr : rows[((K : Nat) : Int).toNat]? = some (cmdX x) := by rw [Int.toNat_natCast, hrr K (Nat.le_refl _), List.getElem?_map, hx]; rfl
 have hU2 : T <+: U ++ [.cells (cmdX x)] := hU.trans (List.prefix_append _ _)
 have hc := ht rows _ hU2 x hxm
 have hd := delL_take (p := p) hx
 cases hpx : p x
 · rw [hpx] at hc hd
   obtain ⟨row, hkr⟩ : ∃ row, rows[((kk : Nat) : Int).toNat]? = some row := ⟨_, List.getElem?_eq_getElem (by rw [Int.toNat_natCast]; omega)⟩
   have hrow6 : row.length = 6 := hr6 _ (List.mem_of_getElem? hkr)
   repeat' first
    | (refine ao_callK rfl rfl rfl he hc ?_; rintro _ _ ⟨rfl, rfl⟩)
    | (refine ao_idxB rfl rfl rfl rfl oG_0 hrl (by rw [elT_22]; exact szT_40) (by omega) (by omega) ?_)
    | (refine ao_loadB rfl rfl rfl oG_0 hrl hxr (getC _) ?_)
    | (refine ao_storeB rfl rfl oG_0 hrl hkr rfl (by rw [szT_40]; rfl) (by rw [hrow6]; exact Nat.le_refl 6) ?_)
    | refine aw_seq' ?_
    | refine aw_region' ?_
    | refine aw_block ?_
    | refine ao_nil ?_
    | (refine ao1 rfl rfl fun K HK => ?_; simp only [go_sem, ↓reduceIte, Nat.reduceEqDiff, Nat.reduceAdd, Nat.reduceLeDiff, Nat.reduceBEq, Nat.reduceMul, Int.reduceEq, Int.reduceLT, Int.reduceLE, e0, e1, e5, e6, wk, wkk, cmdX_eq, oG_app, oG_len, oG_last, oG_lset, oG_0, Int.toNat_natCast]; (first | refine splitB (fun hq => ?_) (fun hq => ?_) | skip) <;> (refine HK _ _ ?_; clear HK K))
    | (refine ao1' rfl fun K HK => ?_; simp only [go_sem, ↓reduceIte, Nat.reduceEqDiff, Nat.reduceAdd, Nat.reduceLeDiff, Nat.reduceBEq, Nat.reduceMul, Int.reduceEq, Int.reduceLT, Int.reduceLE, e0, e1, e5, e6, wk, wkk, cmdX_eq, oG_app, oG_len, oG_last, oG_lset, oG_0, Int.toNat_natCast]; refine HK _ _ ?_; clear HK K)
    | refine aw_if1 rfl ?_
    | refine aw_if0 rfl ?_
    | refine aw_skip ?_
    | refine aw_exit ?_
    | refine thenS_n ?_
    | (exfalso; omega)
   refine ⟨rfl, l.length - (K + 1), by omega, K + 1, kk + 1, rows.set kk (cmdX x), _, by omega, rfl, by rw [hd]; simp; omega, by omega, by simpa using hrl, fun r hr => ?_, ?_, fun j hj => ?_, hU2, by
    show (oG rows (U ++ [.cells (cmdX x)])).set 0 (.buf 40 6 (rows.set (Int.toNat (kk : Int)) (putL row 0 (cmdX x)))) = _
    rw [put_cmd hrow6, Int.toNat_natCast]; rfl, e0, e1, rfl, rfl⟩
   · rcases List.mem_or_eq_of_mem_set hr with h | rfl
     · exact hr6 _ h
     · rfl
   · rw [hd, List.take_add_one, List.take_set_of_le (Nat.le_refl _), hrt, List.getElem?_set_self (by omega)]; simp
   · rw [List.getElem?_set_ne (by omega)]; exact hrr j (by omega)
 · rw [hpx] at hc hd
   repeat' first
    | (refine ao_callK rfl rfl rfl he hc ?_; rintro _ _ ⟨rfl, rfl⟩)
    | (refine ao_idxB rfl rfl rfl rfl oG_0 hrl (by rw [elT_22]; exact szT_40) (by omega) (by omega) ?_)
    | (refine ao_loadB rfl rfl rfl oG_0 hrl hxr (getC _) ?_)
    | refine aw_seq' ?_
    | refine aw_region' ?_
    | refine aw_block ?_
    | refine ao_nil ?_
    | (refine ao1 rfl rfl fun K HK => ?_; simp only [go_sem, ↓reduceIte, Nat.reduceEqDiff, Nat.reduceAdd, Nat.reduceLeDiff, Nat.reduceBEq, Nat.reduceMul, Int.reduceEq, Int.reduceLT, Int.reduceLE, e0, e1, e5, e6, wk, wkk, cmdX_eq, oG_app, oG_len, oG_last, oG_lset, oG_0, Int.toNat_natCast]; (first | refine splitB (fun hq => ?_) (fun hq => ?_) | skip) <;> (refine HK _ _ ?_; clear HK K))
    | (refine ao1' rfl fun K HK => ?_; simp only [go_sem, ↓reduceIte, Nat.reduceEqDiff, Nat.reduceAdd, Nat.reduceLeDiff, Nat.reduceBEq, Nat.reduceMul, Int.reduceEq, Int.reduceLT, Int.reduceLE, e0, e1, e5, e6, wk, wkk, cmdX_eq, oG_app, oG_len, oG_last, oG_lset, oG_0, Int.toNat_natCast]; refine HK _ _ ?_; clear HK K)
    | refine aw_if1 rfl ?_
    | refine aw_if0 rfl ?_
    | refine aw_skip ?_
    | refine aw_exit ?_
    | refine thenS_n ?_
    | (exfalso; omega)
   exact ⟨rfl, l.length - (K + 1), by omega, K + 1, kk, rows, _, by omega, rfl, by rw [hd]; simpa using hkk, by omega, hrl, hr6, by rw [hd]; simpa using hrt, fun j hj => hrr j (by omega), hU2, rfl, e0, e1, e5, rfl⟩
end
section
set_option maxRecDepth 100000
set_option maxHeartbeats 2000000
attribute [local irreducible] on aOp
attribute [local go_sem] decide_true decide_false Bool.not_true Bool.not_false
attribute [local simp] byD_len
def smallW (x : ByteArray × List UInt8) : Prop := x.1.size ≤ 40 ∧ x.2.length ≤ 200
def smallC (c : Cmd) : Prop := c.writes.length ≤ 6 ∧ c.tag.length ≤ 100 ∧ ∀ x ∈ c.writes, smallW x
def SmallL (l : List Cmd) (most : Nat) : Prop := l.length ≤ most ∧ ∀ c ∈ l, smallC c
theorem all_take {α : Type} {p : α → Prop} {l : List α} {k : Nat} {x : α} (h : ∀ y ∈ l.take k, p y) (hx : l[k]? = some x) (q : p x) : ∀ y ∈ l.take (k + 1), p y := fun y hy => by
 rw [List.take_add_one, hx] at hy
 rcases List.mem_append.1 hy with h1 | h1
 · exact h y h1
 · simp at h1; subst h1; exact q
variable (G : Nat → D) (hG : ∀ g, low 0 (G g))
include hG
theorem does_anyK {P : Program} {f : FuncId} {args : List D} {KR : D → Prop} (la : lowL 0 args) (lr : ∀ r, KR r → low 0 r) (q : Does P G f [] args (fun h' r => h' = [] ∧ KR r)) (h : List Ob) : Does P G f h args (fun h' r => h' = h ∧ KR r) := by
 have L : Lies (fun i => i) [] h := ⟨fun i ob q => by simp at q, fun i j q => by simp at q, fun ob q => by simp at q⟩
 have F := Does.frame hG L (args := args) la (K1 := fun h1 r1 => h1 = [] ∧ KR r1) (by
  rintro _ _ ⟨rfl, _⟩
  exact ⟨fun i j hi => by simp at hi, fun j _ hj => by simp at hj⟩) q
 rw [renL_low0 _ _ la] at F
 refine F.mono ?_
 rintro _ _ ⟨_, r1, ⟨rfl, hr⟩, rfl, rfl⟩
 exact ⟨rfl, by rw [ren_low0 _ _ (lr _ hr)]; exact hr⟩
theorem small_d (l : List Cmd) (most : Nat) (hm : most ≤ 1000) (h : List Ob) : Does Tryz.prog G 10 h [.sl 6 (l.map cmdX), .v (.int .i64 most)] (fun h' r => h' = h ∧ ∃ b : Bool, r = .v (.bool b) ∧ (b = true ↔ SmallL l most)) := by
 refine does_anyK G hG (by rw [lowL, lowL, lowL]; exact ⟨low_cms _ _, by simp [low], trivial⟩) (by rintro _ ⟨b, rfl, _⟩; rw [low]; trivial) ?_ h
 have no : ∀ {res : Array ResultVar} {s : S} {v : Bool} (hl0 : lowH ([] : List Ob).length []) (hres : resD Tryz.prog s res.toList = some [.v (.bool v)]), (v = true ↔ SmallL l most) → EndD Tryz.prog res ([] : List Ob).length (fun h' r => h' = [] ∧ ∃ b : Bool, r = .v (.bool b) ∧ (b = true ↔ SmallL l most)) s := fun hl0 hres hv => endD (r := .v _) hl0 hres (by simp) (by simp) rfl (by rw [low]; trivial) ⟨rfl, _, rfl, hv⟩
 refine does_of_aw Tryz.func10 rfl (Nat.le_of_ble_eq_true rfl) hG fun hl0 _ => ?_
 simp only [Tryz.ntmps10]
 by_cases h1 : most < l.length
 · have h1' : (most : Int) < (l.length : Int) := by omega
   repeat' first
    | refine aw_seq' ?_
    | refine aw_region' ?_
    | refine ao_nil ?_
    | (refine ao1 rfl rfl fun K HK => ?_; simp only [go_sem, ↓reduceIte, Nat.reduceEqDiff, Nat.reduceAdd, Nat.reduceLeDiff, Nat.reduceBEq, Nat.reduceMul, Int.reduceEq, Int.reduceLT, Int.reduceLE, h1', List.length_map] <;> (refine HK _ _ ?_; clear HK K))
    | refine aw_if1 rfl ?_
    | refine aw_ret ?_
    | refine thenS_r ?_
   all_goals exact ⟨by simp, no hl0 rfl ⟨fun h => (by cases h), fun h => (by have := h.1; omega)⟩⟩
 have h1' : ¬ (most : Int) < (l.length : Int) := by omega
 repeat' first
  | refine aw_seq' ?_
  | refine aw_region' ?_
  | refine aw_block ?_
  | refine ao_nil ?_
  | (refine ao1 rfl rfl fun K HK => ?_; simp only [go_sem, ↓reduceIte, Nat.reduceEqDiff, Nat.reduceAdd, Nat.reduceLeDiff, Nat.reduceBEq, Nat.reduceMul, Int.reduceEq, Int.reduceLT, Int.reduceLE, h1', List.length_map] <;> (refine HK _ _ ?_; clear HK K))
  | refine aw_if0 rfl ?_
  | refine aw_skip ?_
 refine aw_for (fun m e h' => ∃ k : Nat, k ≤ l.length ∧ m = l.length - k ∧ (∀ y ∈ l.take k, smallC y) ∧ h' = [] ∧ e 0 = .sl 6 (l.map cmdX) ∧ e 5 = .v (.int .i64 k)) l.length ⟨0, Nat.zero_le _, rfl, by simp, rfl, rfl, rfl⟩ ?_
 rintro m e h' ⟨k, hk, rfl, hs, rfl, e0, e5⟩
 by_cases hlt : k < l.length
 rotate_left
 · skip
   repeat' first
    | refine aw_seq' ?_
    | refine aw_region' ?_
    | refine aw_block ?_
    | refine ao_nil ?_
    | (refine ao1 rfl rfl fun K HK => ?_; simp only [go_sem, ↓reduceIte, Nat.reduceEqDiff, Nat.reduceAdd, Nat.reduceLeDiff, Nat.reduceBEq, Nat.reduceMul, Int.reduceEq, Int.reduceLT, Int.reduceLE, e0, e5, List.length_map]; (first | refine splitB (fun hq => ?_) (fun hq => ?_) | (refine ⟨by omega, by omega, ?_⟩; intro row hrow; obtain ⟨x, hx, rfl⟩ := row_inv hrow; clear hrow) | skip) <;> (refine HK _ _ ?_; clear HK K))
    | refine aw_if1 rfl ?_
    | refine aw_if0 rfl ?_
    | refine aw_skip ?_
    | refine aw_exit ?_
    | refine aw_ret ?_
    | (exfalso; omega)
   exact ⟨by simp, no hl0 rfl ⟨fun _ => ⟨by omega, by rwa [List.take_of_length_le (by omega)] at hs⟩, fun _ => rfl⟩⟩
 have hx : l[k]? = some l[k] := List.getElem?_eq_getElem hlt
 have hxm : l[k] ∈ l := List.getElem_mem hlt
 generalize l[k] = x at hx hxm
 have wk : IntKind.i64.wrap ((k : Int) + 1) = (k : Int) + 1 := IntWalk.i64_in _ (by omega)
 repeat' first
  | refine aw_seq' ?_
  | refine aw_region' ?_
  | refine aw_block ?_
  | refine ao_nil ?_
  | (refine ao1 rfl rfl fun K HK => ?_; (first | refine aOp_pick rfl ?_ | skip); simp only [go_sem, ↓reduceIte, Nat.reduceEqDiff, Nat.reduceAdd, Nat.reduceLeDiff, Nat.reduceBEq, Nat.reduceMul, Int.reduceEq, Int.reduceLT, Int.reduceLE, e0, e5, cmdX_eq, byD_len, wk, List.length_map, Int.toNat_natCast]; (first | refine splitB (fun hq => ?_) (fun hq => ?_) | (refine ⟨by omega, by omega, ?_⟩; refine row_at (by assumption) ?_) | skip) <;> (refine HK _ _ ?_; clear HK K))
  | refine ao0 rfl rfl ?_
  | refine aw_if1 rfl ?_
  | refine aw_if0 rfl ?_
  | refine aw_skip ?_
  | refine aw_exit ?_
  | refine aw_ret ?_
  | refine thenS_r ?_
  | refine inB_r ?_
  | (exfalso; omega)
 · exact ⟨by simp, no hl0 rfl ⟨fun h => (by cases h), fun h => (by have := (h.2 x hxm).1; omega)⟩⟩
 · exact ⟨by simp, no hl0 rfl ⟨fun h => (by cases h), fun h => (by have := (h.2 x hxm).2.1; omega)⟩⟩
 rename_i hw ht
 refine aw_for (fun m e h' => ∃ j : Nat, j ≤ x.writes.length ∧ m = x.writes.length - j ∧ (∀ y ∈ x.writes.take j, smallW y) ∧ h' = [] ∧ e 0 = .sl 6 (l.map cmdX) ∧ e 5 = .v (.int .i64 k) ∧ e 6 = .v (.int .i64 j)) x.writes.length ⟨0, Nat.zero_le _, rfl, by simp, rfl, e0, e5, rfl⟩ ?_
 clear e0 e5
 rintro m e h' ⟨j, hj, rfl, hsw, rfl, e0, e5, e6⟩
 by_cases hjl : j < x.writes.length
 rotate_left
 · skip
   repeat' first
    | refine aw_seq' ?_
    | refine aw_region' ?_
    | refine aw_block ?_
    | refine ao_nil ?_
    | (refine ao1 rfl rfl fun K HK => ?_; simp only [go_sem, ↓reduceIte, Nat.reduceEqDiff, Nat.reduceAdd, Nat.reduceLeDiff, Nat.reduceBEq, Nat.reduceMul, Int.reduceEq, Int.reduceLT, Int.reduceLE, e0, e5, e6, cmdX_eq, wk, List.length_map, Int.toNat_natCast]; (first | refine splitB (fun hq => ?_) (fun hq => ?_) | (refine ⟨by omega, by omega, ?_⟩; refine row_at (by assumption) ?_) | (refine ⟨by omega, by omega, ?_⟩; intro row hrow; obtain ⟨x, hx, rfl⟩ := row_inv hrow; clear hrow) | skip) <;> (refine HK _ _ ?_; clear HK K))
    | refine aw_if1 rfl ?_
    | refine aw_if0 rfl ?_
    | refine aw_skip ?_
    | refine aw_exit ?_
    | refine thenS_n ?_
    | (exfalso; omega)
   exact ⟨rfl, l.length - (k + 1), by omega, k + 1, hlt, rfl, all_take hs hx ⟨by omega, by omega, by rwa [List.take_of_length_le (by omega)] at hsw⟩, rfl, e0, rfl⟩
 have hy : x.writes[j]? = some x.writes[j] := List.getElem?_eq_getElem hjl
 have hym : x.writes[j] ∈ x.writes := List.getElem_mem hjl
 generalize x.writes[j] = y at hy hym
 have wj : IntKind.i64.wrap ((j : Int) + 1) = (j : Int) + 1 := IntWalk.i64_in _ (by omega)
 repeat' first
  | refine aw_seq' ?_
  | refine aw_region' ?_
  | refine aw_block ?_
  | refine ao_nil ?_
  | (refine ao1 rfl rfl fun K HK => ?_; (first | refine aOp_pick rfl ?_ | skip); simp only [go_sem, ↓reduceIte, Nat.reduceEqDiff, Nat.reduceAdd, Nat.reduceLeDiff, Nat.reduceBEq, Nat.reduceMul, Int.reduceEq, Int.reduceLT, Int.reduceLE, e0, e5, e6, cmdX_eq, wrX_eq, byD_len, wj, List.length_map, Int.toNat_natCast]; (first | refine splitB (fun hq => ?_) (fun hq => ?_) | (refine ⟨by omega, by omega, ?_⟩; refine row_at (by assumption) ?_) | skip) <;> (refine HK _ _ ?_; clear HK K))
  | refine ao0 rfl rfl ?_
  | refine aw_if1 rfl ?_
  | refine aw_if0 rfl ?_
  | refine aw_skip ?_
  | refine aw_exit ?_
  | refine aw_ret ?_
  | refine thenS_n ?_
  | refine thenS_r ?_
  | refine inB_r ?_
  | (exfalso; omega)
 · exact ⟨by simp, no hl0 rfl ⟨fun h => (by cases h), fun h => (by have := ((h.2 x hxm).2.2 y hym).1; omega)⟩⟩
 · exact ⟨by simp, no hl0 rfl ⟨fun h => (by cases h), fun h => (by have := ((h.2 x hxm).2.2 y hym).2; omega)⟩⟩
 · exact ⟨rfl, x.writes.length - (j + 1), by omega, j + 1, hjl, rfl, all_take hsw hy ⟨by omega, by omega⟩, rfl, e0, e5, rfl⟩
end
section
set_option maxRecDepth 100000
set_option maxHeartbeats 2000000
attribute [local irreducible] on aOp
attribute [local go_sem] decide_true decide_false Bool.not_true Bool.not_false
attribute [local simp] byD_len
theorem fdiv2 (m : Nat) : (m : Int).fdiv (2 ^ min (Int.toNat 1) 64) = ((m / 2 : Nat) : Int) := by
 rw [show (2 : Int) ^ min (Int.toNat 1) 64 = ((2 : Nat) : Int) by decide, Int.fdiv_eq_ediv_of_nonneg _ (by omega)]
 omega
theorem u64n {a : Nat} (h : a ≤ 100000000) : IntKind.u64.wrap (a : Int) = (a : Int) := lenU h
def Bs (s : List Cmd) (c : Cmd) (i j : Nat) : Prop := i ≤ j ∧ j ≤ s.length ∧ (∀ (x : Nat) d, x < i → s[x]? = some d → cmpC d c < 0) ∧ ∀ (x : Nat) d, j ≤ x → s[x]? = some d → ¬ cmpC d c < 0
theorem Bs.start (s : List Cmd) (c : Cmd) : Bs s c 0 s.length := ⟨Nat.zero_le _, Nat.le_refl _, fun x d h => by omega, fun x d h hx => by
 have := (List.getElem?_eq_some_iff.1 hx).1; omega⟩
theorem sorted_at {s : List Cmd} (hs : s.Pairwise LtC) {i j : Nat} {a b : Cmd} (h : i < j) (ha : s[i]? = some a) (hb : s[j]? = some b) : LtC a b := by
 obtain ⟨h1, rfl⟩ := List.getElem?_eq_some_iff.1 ha
 obtain ⟨h2, rfl⟩ := List.getElem?_eq_some_iff.1 hb
 exact List.pairwise_iff_getElem.1 hs i j h1 h2 h
theorem Bs.right {s : List Cmd} {c d : Cmd} {i j m : Nat} (hs : s.Pairwise LtC) (h : Bs s c i j) (h1 : i ≤ m) (h2 : m < j) (hd : s[m]? = some d) (hc : cmpC d c < 0) : Bs s c (m + 1) j :=
 ⟨by omega, h.2.1, fun x e hx he => by
  rcases Nat.lt_or_ge x m with hlt | hge
  · exact cmpC_lt.2 ((sorted_at hs hlt he hd).trans (cmpC_lt.1 hc))
  · obtain rfl : x = m := by omega
    rw [hd] at he; cases he; exact hc, h.2.2.2⟩
theorem Bs.left {s : List Cmd} {c d : Cmd} {i j m : Nat} (hs : s.Pairwise LtC) (h : Bs s c i j) (h1 : i ≤ m) (h2 : m < j) (hd : s[m]? = some d) (hc : ¬ cmpC d c < 0) : Bs s c i m :=
 ⟨h1, by have := h.2.1; omega, h.2.2.1, fun x e hx he => by
  rcases Nat.lt_or_ge m x with hlt | hge
  · exact fun hk => hc (cmpC_lt.2 ((sorted_at hs hlt hd he).trans (cmpC_lt.1 hk)))
  · obtain rfl : x = m := by omega
    rw [hd] at he; cases he; exact hc⟩
theorem Bs.no {s : List Cmd} {c : Cmd} {i : Nat} (h : Bs s c i i) (hi : s.length ≤ i) : hasL s c = false := by
 cases hh : hasL s c
 · rfl
 · obtain ⟨d, hd, he⟩ := (hasL_iff s c).1 hh
   obtain ⟨x, hx, rfl⟩ := List.getElem_of_mem hd
   have := h.2.2.1 x _ (by omega) (List.getElem?_eq_getElem hx)
   rw [cmpC_zero.2 he] at this; omega
theorem Bs.at {s : List Cmd} {c d : Cmd} {i : Nat} (hs : s.Pairwise LtC) (h : Bs s c i i) (hd : s[i]? = some d) : hasL s c = decide (cmpC d c = 0) := by
 by_cases h0 : cmpC d c = 0
 · rw [decide_eq_true h0]
   exact (hasL_iff s c).2 ⟨d, List.mem_of_getElem? hd, cmpC_zero.1 h0⟩
 · rw [decide_eq_false h0]
   cases hh : hasL s c
   · rfl
   · obtain ⟨e, he, hq⟩ := (hasL_iff s c).1 hh
     obtain ⟨x, hx, rfl⟩ := List.getElem_of_mem he
     have hx' := List.getElem?_eq_getElem hx
     exfalso
     rcases Nat.lt_trichotomy x i with hlt | rfl | hgt
     · have := h.2.2.1 x _ hlt hx'
       rw [cmpC_zero.2 hq] at this; omega
     · rw [hd] at hx'; cases hx'; exact h0 (cmpC_zero.2 hq)
     · exact h.2.2.2 i d (Nat.le_refl _) hd (cmpC_lt.2 (EqC.right hq (sorted_at hs hgt hd hx')))
variable (G : Nat → D) (hG : ∀ g, low 0 (G g))
include hG
theorem bsearch_d (s : List Cmd) (c : Cmd) (hs : s.Pairwise LtC) (ho : OkL s) (hc : c.Ok) (hsz : s.length ≤ 10000) (h : List Ob) :
 Does Tryz.prog G 48 h [.sl 6 (s.map cmdX), .agg (cmdX c), .fn 43 []] (fun h' r => h' = h ∧ ∃ z : Int, r = .tup [.v (.int .i64 z), .v (.bool (hasL s c))]) := by
 refine does_anyK G hG (by rw [lowL, lowL, lowL, lowL]; exact ⟨low_cms _ _, low_agg _ _, by simp [low, lowL], trivial⟩) (by rintro _ ⟨z, rfl⟩; simp [low, lowL]) ?_ h
 refine does_of_aw Tryz.func48 rfl (Nat.le_of_ble_eq_true rfl) hG fun hl0 _ => ?_
 simp only [Tryz.ntmps48]
 repeat' first
  | refine aw_seq' ?_
  | refine aw_region' ?_
  | refine aw_block ?_
  | refine ao_nil ?_
  | (refine ao1 rfl rfl fun K HK => ?_; simp only [go_sem, ↓reduceIte, Nat.reduceEqDiff, Nat.reduceAdd, Nat.reduceLeDiff, Nat.reduceBEq, Nat.reduceMul, Int.reduceEq, Int.reduceLT, Int.reduceLE, List.length_map] <;> (refine HK _ _ ?_; clear HK K))
 refine aw_for (fun m e h' => ∃ i j : Nat, Bs s c i j ∧ m = j - i ∧ h' = [.cells (cmdX c)] ∧ e 0 = .sl 6 (s.map cmdX) ∧ e 2 = .fn 43 [] ∧ e 4 = .ptr 0 0 ∧ e 8 = .v (.int .i64 s.length) ∧ e 9 = .v (.int .i64 i) ∧ e 10 = .v (.int .i64 j)) s.length ⟨0, s.length, Bs.start s c, rfl, rfl, rfl, rfl, rfl, rfl, rfl, rfl⟩ ?_
 rintro m e h' ⟨i, j, hb, rfl, rfl, e0, e2, e4, e8, e9, e10⟩
 have hb1 := hb.1
 have hb2 := hb.2.1
 by_cases hlt : i < j
 · have hm1 : i ≤ (i + j) / 2 := by omega
   have hm2 : (i + j) / 2 < j := by omega
   have hx : s[(i + j) / 2]? = some s[(i + j) / 2] := List.getElem?_eq_getElem (by omega)
   have hxo := ho _ (List.getElem_mem (show (i + j) / 2 < s.length by omega))
   generalize s[(i + j) / 2] = x at hx hxo
   have w1 : IntKind.i64.wrap ((i : Int) + (j : Int)) = ((i + j : Nat) : Int) := IntWalk.i64_in _ (by omega)
   have w2 : IntKind.u64.wrap ((i + j : Nat) : Int) = ((i + j : Nat) : Int) := u64n (by omega)
   have w3 := fdiv2 (i + j)
   have w4 : IntKind.u64.wrap (((i + j) / 2 : Nat) : Int) = (((i + j) / 2 : Nat) : Int) := u64n (by omega)
   have w5 : IntKind.i64.wrap (((i + j) / 2 : Nat) : Int) = (((i + j) / 2 : Nat) : Int) := IntWalk.i64_in _ (by omega)
   have w6 : IntKind.i64.wrap (((i + j) / 2 : Nat) + 1 : Int) = ((((i + j) / 2 : Nat) : Int) + 1) := IntWalk.i64_in _ (by omega)
   generalize i + j = ij at *
   generalize ij / 2 = m at *
   repeat' first
    | refine aw_seq' ?_
    | refine aw_region' ?_
    | refine aw_block ?_
    | refine ao_nil ?_
    | ((first | refine ao1 rfl rfl fun K HK => ?_ | refine aq1 rfl rfl fun K HK => ?_); (first | refine aOp_pick rfl ?_ | skip); simp only [go_sem, ↓reduceIte, Nat.reduceEqDiff, Nat.reduceAdd, Nat.reduceLeDiff, Nat.reduceBEq, Nat.reduceMul, Int.reduceEq, Int.reduceLT, Int.reduceLE, e0, e2, e4, e8, e9, e10, cmdX_eq, w1, w2, w3, w4, w5, w6, List.length_map, Int.toNat_natCast]; (first | refine splitB (fun hq => ?_) (fun hq => ?_) | (refine ⟨by omega, by omega, ?_⟩; refine row_at (by assumption) ?_) | (refine ⟨by omega, by omega, ?_⟩; intro row hrow; obtain ⟨x, hx, rfl⟩ := row_inv hrow; clear hrow) | skip) <;> ((first | refine HK _ _ ?_ | refine HK _ _ rfl ?_); clear HK K))
    | refine aq0 rfl rfl ?_
    | refine aq_nil ?_
    | (refine aw_draw mixd (by kernel_rfl) ?_)
    | refine aq2 rfl rfl rfl ent_43 (compare_d G hG x c hxo hc _) ?_
    | refine aw_if1 rfl ?_
    | refine aw_if0 rfl ?_
    | refine aw_skip ?_
    | refine aw_exit ?_
    | refine aw_ret ?_
    | refine thenS_n ?_
    | refine inB_n ?_
    | (exfalso; omega)
   · exact ⟨rfl, j - (m + 1), by omega, m + 1, j, hb.right hs hm1 hm2 hx (by assumption), rfl, rfl, e0, e2, e4, e8, rfl, e10⟩
   · exact ⟨rfl, m - i, by omega, i, m, hb.left hs hm1 hm2 hx (by assumption), rfl, rfl, e0, e2, e4, e8, e9, rfl⟩
 obtain rfl : i = j := by omega
 by_cases hn : i < s.length
 · have hx : s[i]? = some s[i] := List.getElem?_eq_getElem hn
   have hxo := ho _ (List.getElem_mem hn)
   generalize s[i] = x at hx hxo
   have hQ := hb.at hs hx
   repeat' first
    | refine aw_seq' ?_
    | refine aw_region' ?_
    | refine aw_block ?_
    | refine ao_nil ?_
    | ((first | refine ao1 rfl rfl fun K HK => ?_ | refine aq1 rfl rfl fun K HK => ?_); (first | refine aOp_pick rfl ?_ | skip); simp only [go_sem, ↓reduceIte, Nat.reduceEqDiff, Nat.reduceAdd, Nat.reduceLeDiff, Nat.reduceBEq, Nat.reduceMul, Int.reduceEq, Int.reduceLT, Int.reduceLE, e0, e2, e4, e8, e9, e10, cmdX_eq, List.length_map, Int.toNat_natCast]; (first | refine splitB (fun hq => ?_) (fun hq => ?_) | (refine ⟨by omega, by omega, ?_⟩; refine row_at (by assumption) ?_) | (refine ⟨by omega, by omega, ?_⟩; intro row hrow; obtain ⟨x, hx, rfl⟩ := row_inv hrow; clear hrow) | skip) <;> ((first | refine HK _ _ ?_ | refine HK _ _ rfl ?_); clear HK K))
    | refine aq0 rfl rfl ?_
    | refine aq_nil ?_
    | (refine aw_draw mixd (by kernel_rfl) ?_)
    | refine aq2 rfl rfl rfl ent_43 (compare_d G hG x c hxo hc _) ?_
    | refine aw_if1 rfl ?_
    | refine aw_if0 rfl ?_
    | refine aw_skip ?_
    | refine aw_exit ?_
    | refine aw_ret ?_
    | (exfalso; omega)
   · exact ⟨.inr rfl, endD (r := .tup [.v (.int .i64 i), .v (.bool true)]) hl0 rfl (by simp) (by simp) rfl (by simp [low, lowL]) ⟨rfl, _, by rw [hQ, decide_eq_true (by assumption)]⟩⟩
   · exact ⟨.inr rfl, endD (r := .tup [.v (.int .i64 i), .v (.bool false)]) hl0 rfl (by simp) (by simp) rfl (by simp [low, lowL]) ⟨rfl, _, by rw [hQ, decide_eq_false (by assumption)]⟩⟩
 · have hQ := hb.no (by omega)
   repeat' first
    | refine aw_seq' ?_
    | refine aw_region' ?_
    | refine aw_block ?_
    | refine ao_nil ?_
    | ((first | refine ao1 rfl rfl fun K HK => ?_ | refine aq1 rfl rfl fun K HK => ?_); (first | refine aOp_pick rfl ?_ | skip); simp only [go_sem, ↓reduceIte, Nat.reduceEqDiff, Nat.reduceAdd, Nat.reduceLeDiff, Nat.reduceBEq, Nat.reduceMul, Int.reduceEq, Int.reduceLT, Int.reduceLE, e0, e2, e4, e8, e9, e10, List.length_map]; (first | refine splitB (fun hq => ?_) (fun hq => ?_) | (refine ⟨by omega, by omega, ?_⟩; intro row hrow; obtain ⟨x, hx, rfl⟩ := row_inv hrow; clear hrow) | skip) <;> ((first | refine HK _ _ ?_ | refine HK _ _ rfl ?_); clear HK K))
    | refine aq0 rfl rfl ?_
    | refine aq_nil ?_
    | (refine aw_draw mixd (by kernel_rfl) ?_)
    | refine aw_if1 rfl ?_
    | refine aw_if0 rfl ?_
    | refine aw_skip ?_
    | refine aw_exit ?_
    | refine aw_ret ?_
    | (exfalso; omega)
   exact ⟨.inr rfl, endD (r := .tup [.v (.int .i64 i), .v (.bool false)]) hl0 rfl (by simp) (by simp) rfl (by simp [low, lowL]) ⟨rfl, _, by rw [hQ]⟩⟩
end
section
set_option maxRecDepth 100000
set_option maxHeartbeats 2000000
attribute [local irreducible] on aOp
attribute [local go_sem] decide_true decide_false Bool.not_true Bool.not_false
attribute [local simp] byD_len
theorem del_only {G : Nat → D} (hG : ∀ g, low 0 (G g)) {f : FuncId} {args : List D} {n : Nat} {out : List Cmd}
 (q : Does Tryz.prog G f [] args (fun h' r => ∃ rows U, h' = oG rows U ∧ rows.length = n ∧ rows.take out.length = out.map cmdX ∧ out.length ≤ n ∧ (r = .win 0 n 0 out.length ∨ (r = .buf 0 n ∧ out.length = n)))) :
 Does Tryz.prog G f [] args (fun h' r => h' = [.buf 40 6 (out.map cmdX)] ∧ r = .buf 0 out.length) := by
 refine Does.only0 hG (low_cms _ _) (Does.reown (K' := fun h' r => ∃ i, h'[i]? = some (.buf 40 6 (out.map cmdX)) ∧ r = .buf i out.length) q ?_) (fun _ _ h => h)
 rintro h' r ⟨rows, U, rfl, h2, h3, hb, rfl | ⟨rfl, h4⟩⟩
 · refine .inr ⟨0, n, out.length, _, _, rows, oG_0, h2, hb, rfl, (oG rows U).length, ?_, rfl⟩
   rw [List.getElem?_append_right (by simp)]
   simp [h3]
 · exact .inl ⟨0, by rw [← h3, h4, ← h2, List.take_length]; exact oG_0, by rw [h4]⟩
theorem oG_1 {rows : List (List D)} {T : List Ob} {x : Ob} : (oG rows (x :: T))[1]? = some x := rfl
theorem oG_capp {rows : List (List D)} {T : List Ob} {x y : Ob} : oG rows (x :: T) ++ [y] = oG rows (x :: (T ++ [y])) := rfl
theorem oG_clen {rows : List (List D)} {T : List Ob} {x : Ob} : (oG rows (x :: T)).length = T.length + 2 := rfl
theorem oG_clast {rows : List (List D)} {T : List Ob} {x y : Ob} : (oG rows (x :: (T ++ [y])))[T.length + 2]? = some y := by simp [oG]
variable (G : Nat → D) (hG : ∀ g, low 0 (G g))
include hG
theorem minus1_d (c : Cmd) (hc : c.Ok) (s : List Cmd) (hs : s.Pairwise LtC) (ho : OkL s) (hsz : s.length ≤ 10000) (rows : List (List D)) (T : List Ob) :
 Does Tryz.prog G 47 (oG rows (.cells [.sl 6 (s.map cmdX)] :: T)) [.agg (cmdX c), .ptr 1 0] (fun h' r => h' = oG rows (.cells [.sl 6 (s.map cmdX)] :: T) ∧ r = .v (.bool (hasL s c))) := by
 refine does_of_aw Tryz.func47 rfl (Nat.le_of_ble_eq_true rfl) hG fun hl0 _ => ?_
 simp only [Tryz.ntmps47]
 repeat' first
  | (refine ao_callK rfl rfl rfl (by kernel_rfl) (bsearch_d G hG s c hs ho hc hsz _) ?_; rintro _ _ ⟨rfl, z, rfl⟩)
  | refine aw_seq' ?_
  | refine aw_region' ?_
  | refine ao_nil ?_
  | (refine ao1 rfl rfl fun K HK => ?_; simp only [go_sem, ↓reduceIte, Nat.reduceEqDiff, Nat.reduceAdd, Nat.reduceLeDiff, Nat.reduceBEq, Nat.reduceMul, Int.reduceEq, Int.reduceLT, Int.reduceLE, cmdX_eq, oG_capp, oG_clen, oG_clast, oG_1] <;> (refine HK _ _ ?_; clear HK K))
  | refine aw_ret ?_
 exact ⟨.inr rfl, endD (r := .v _) hl0 rfl (by simp [oG]) (by simp [oG]) rfl (by rw [low]; trivial) ⟨rfl, rfl⟩⟩
theorem minus0 (a b : List Cmd) (ha : OkL a) (hb : OkL b) (la : a.length ≤ 1000) (lb : b.length ≤ 1000) : Does Tryz.prog G 15 [] [.sl 6 (a.map cmdX), .sl 6 (b.map cmdX)] (fun h' r => h' = [.buf 40 6 ((minusL a b).map cmdX)] ∧ r = .buf 0 (minusL a b).length) := by
 have lo := ofL_len a
 have lo2 := ofL_len b
 have hD := delete_d G (ofL a) (hasL (ofL b)) 47 [.ptr 1 0] (by kernel_rfl) (by omega) [.cells [.sl 6 ((ofL b).map cmdX)]] (fun rows U hU c hc => by
  obtain ⟨T, rfl⟩ := hU
  exact minus1_d G hG c (ofL_ok ha c hc) (ofL b) (ofL_sorted b) (ofL_ok hb) (by omega) rows T)
 have hm : delL (hasL (ofL b)) (ofL a) = minusL a b := by
  unfold delL minusL
  refine List.filter_congr fun c hc => ?_
  have hco := ofL_ok ha c hc
  rw [Bool.eq_iff_iff, Bool.not_eq_true', Bool.not_eq_true', ← Bool.not_eq_true, ← Bool.not_eq_true, hasL_mem (ofL_ok hb) hco, hasL_mem hb hco, mem_ofL hb]
 rw [hm] at hD
 have hml : (minusL a b).length ≤ (ofL a).length := by rw [← hm]; exact delL_len _ _
 refine del_only hG (n := (ofL a).length) ?_
 refine does_keep Tryz.func15 rfl (Nat.le_of_ble_eq_true rfl) ?_
 simp only [Tryz.ntmps15]
 repeat' first
  | (refine ao_callK rfl rfl rfl ent_14 (of0 G hG a ha la) ?_; rintro _ _ ⟨rfl, rfl⟩)
  | (refine ao_callK rfl rfl rfl ent_14 (of_s G hG b hb lb _) ?_; rintro _ _ ⟨rfl, rfl⟩)
  | (refine ao_mkf rfl rfl ?_)
  | (refine ao_callK rfl rfl rfl ent_46 hD ?_; rintro _ r ⟨rows, U, rfl, h1, h2, h3⟩)
  | refine aw_seq' ?_
  | refine aw_region' ?_
  | refine ao_nil ?_
  | (refine ao1 rfl rfl fun K HK => ?_; simp only [go_sem, ↓reduceIte, Nat.reduceEqDiff, Nat.reduceAdd, Nat.reduceLeDiff, Nat.reduceBEq, Nat.reduceMul, Int.reduceEq, Int.reduceLT, Int.reduceLE] <;> (refine HK _ _ ?_; clear HK K))
  | (refine ao1' rfl fun K HK => ?_; simp only [go_sem, ↓reduceIte, Nat.reduceEqDiff, Nat.reduceAdd, Nat.reduceLeDiff, Nat.reduceBEq, Nat.reduceMul, Int.reduceEq, Int.reduceLT, Int.reduceLE]; refine HK _ _ ?_; clear HK K)
  | refine aw_ret ?_
 exact ⟨.inr rfl, [r], rfl, rows, U, rfl, h1, h2, hml, h3.imp id (fun ⟨x, y⟩ => ⟨x, by rw [y]⟩)⟩
theorem minus_s (a b : List Cmd) (ha : OkL a) (hb : OkL b) (la : a.length ≤ 1000) (lb : b.length ≤ 1000) (h : List Ob) : Does Tryz.prog G 15 h [.sl 6 (a.map cmdX), .sl 6 (b.map cmdX)] (fun h' r => h' = h ∧ r = .sl 6 ((minusL a b).map cmdX)) :=
 Does.gave0 hG (low_cms _ _) (by rw [lowL, lowL, lowL]; exact ⟨low_cms _ _, low_cms _ _, trivial⟩) (List.length_map _) (minus0 G hG a b ha hb la lb) h
def isConf (c : Cmd) : Bool := decide (c.kind = 2) || decide (c.kind = 3)
def confL (a : List Cmd) : List Cmd := (ofL a).filter isConf
end
section
set_option maxRecDepth 100000
set_option maxHeartbeats 2000000
attribute [local irreducible] on aOp
attribute [local go_sem] decide_true decide_false Bool.not_true Bool.not_false
attribute [local simp] byD_len
section
variable {P : Program} {G : Nat → D} {n : Nat} {e : Nat → D} {h : List Ob} {ops : Array Oper} {rest : List Oper} {Q : S → Prop} {t : Nat} {ty : TypeId} {pos : String} {aft : Array Edge} {gd : Option (Nat × Bool)}
theorem ao_nF {op : Op} {h' : List Ob} {d : D} (hw : wantedD ops gd e = some true) (ht : decide (t < n) = true) (hN : nF P G e h op = some (h', d)) (q : ao P G ops rest Q ⟨n, upd e t d, h'⟩) : ao P G ops (⟨some t, op, ty, pos, aft, gd⟩ :: rest) Q ⟨n, e, h⟩ := by
 refine ao_tri hw (nF_sound hN) ?_
 unfold putE
 simp only [if_pos (of_decide_eq_true ht)]
 exact q
theorem ao_capnil {u : Nat} {x : Operand} (hw : wantedD ops gd e = some true) (ht : decide (t < n) = true) (hx : ev G e x = .v (.slice none 0 0)) (hu : slT P u = true)
 (q : ao P G ops rest Q ⟨n, upd e t (.v (.int .i64 0)), h⟩) : ao P G ops (⟨some t, .call ⟨.builtin .cap, #[x], #[u]⟩, ty, pos, aft, gd⟩ :: rest) Q ⟨n, e, h⟩ := by
 refine ao_nF hw ht ?_ q
 show keepF h (capN P u (ev G e x)) = _
 rw [hx]
 simp [capN, hu, keepF]
theorem ao_slcnil {u k : Nat} {x y : Operand} (hw : wantedD ops gd e = some true) (ht : decide (t < n) = true) (hx : ev G e x = .v (.slice none 0 0)) (hy : ev G e y = .v (.int .i64 0)) (hu : (elT P u).bind (szT P) = some k)
 (q : ao P G ops rest Q ⟨n, upd e t (.v (.slice none 0 0)), h⟩) : ao P G ops (⟨some t, .slice u x none (some y) none, ty, pos, aft, gd⟩ :: rest) Q ⟨n, e, h⟩ := by
 refine ao_nF hw ht ?_ q
 show keepF h (sliF P h u (ev G e x) none (some (ev G e y))) = _
 rw [hx, hy]
 simp [sliF, hu, bndD, keepF]
theorem ao_appmake {u v el k by' m : Nat} {x y : Operand} {zs : List D} {ik : IntKind} (hw : wantedD ops gd e = some true) (ht : decide (t < n) = true) (hx : ev G e x = .v (.slice none 0 0)) (hy : ev G e y = .v (.int .i64 m)) (hi : intT P v = some ik) (ha : apT P u = some (el, k, by')) (hz : zeroD P el = some zs) (hk : zs.length = k) (h0 : 0 < m) (hb : m * by' ≤ 281474976710656) (hm : m ≤ 281474976710656)
 (q : ao P G ops rest Q ⟨n, upd e t (.buf h.length m), h ++ [.buf el k (List.replicate m zs)]⟩) : ao P G ops (⟨some t, .call ⟨.builtin .append, #[x, y], #[u, v]⟩, ty, pos, aft, gd⟩ :: rest) Q ⟨n, e, h⟩ := by
 refine ao_nF hw ht ?_ q
 show apN P h u v (ev G e x) (ev G e y) = _
 rw [hx, hy]
 have c1 : decide ((0 : Int) < (m : Int)) = true := decide_eq_true (by omega)
 have c2 : decide ((m : Int) * (by' : Int) ≤ 281474976710656) = true := decide_eq_true (by have := Int.ofNat_le.2 hb; rwa [Int.natCast_mul] at this)
 have c3 : decide ((m : Int) ≤ 281474976710656) = true := decide_eq_true (by omega)
 have c4 : decide (zs.length = k) = true := decide_eq_true hk
 simp only [apN, hi, ha, hz, c1, c2, c3, c4, Bool.and_self, cond_true, Int.toNat_natCast]
end
theorem Does.give1 {P : Program} {G : Nat → D} {f : FuncId} {h : List Ob} {i E k n : Nat} {rows : List (List D)} {K : List Ob → D → Prop} (hi : h[i]? = some (.buf E k rows)) (hn : rows.length = n) (q : Does P G f (h.set i .dead) [.sl k rows] K) : Does P G f h [.buf i n] K := fun w hd p vs ok ha => by
 rw [rdL] at ha
 obtain ⟨u, t, rfl, hu, ht⟩ := ha
 rw [rdL] at ht
 subst ht
 obtain ⟨p', o', ev, cv⟩ := ok.give (fun j => j == i)
 rw [killH_one] at o' ev cv
 have hr := cv _ _ hu
 have e : cvD (fun j => j == i) h (.buf i n) = .sl k rows := by simp [cvD, cv1, hi, hn]
 rw [e] at hr
 refine (q w hd p' [u] o' (by rw [rdL]; exact ⟨u, [], rfl, hr, by rw [rdL]⟩)).mono ?_
 rintro e w' ⟨v, hd', h', r, p2, rfl, hK, ok2, hr2, ev2⟩
 exact ⟨v, hd', h', r, p2, rfl, hK, ok2, hr2, ev.trans ev2⟩
variable (G : Nat → D) (hG : ∀ g, low 0 (G g))
include hG
theorem grow0 (m : Nat) (hm : m ≤ 100000) : Does Tryz.prog G 70 [] [.v (.slice none 0 0), .v (.int .i64 m)] (fun h' r => h' = [.buf 40 6 []] ∧ r = .buf 0 0) := by
 refine Does.only0 hG (K := fun h' r => ∃ i, h'[i]? = some (.buf 40 6 []) ∧ r = .buf i 0) (by simp [low, lowR]) (Does.reown (K := fun h' r => (∃ rows, h'[0]? = some (.buf 40 6 rows) ∧ rows.length = m ∧ r = .win 0 m 0 0) ∨ ∃ i, h'[i]? = some (.buf 40 6 []) ∧ r = .buf i 0) (Does.nilbuf (K := fun h' r => (∃ rows, h'[0]? = some (.buf 40 6 rows) ∧ rows.length = m ∧ r = .win 0 m 0 0) ∨ (h' = [] ∧ r = .v (.slice none 0 0))) 40 6 ?_ ?_) ?_) (fun _ _ h => h)
 rotate_left
 · rintro h' r (h | ⟨rfl, rfl⟩)
   · exact .inl (.inl h)
   · exact .inr ⟨rfl, .inr ⟨0, rfl, rfl⟩⟩
 · rintro h' r (⟨rows, h1, h2, rfl⟩ | h)
   · refine .inr ⟨0, m, 0, _, _, rows, h1, h2, Nat.zero_le _, rfl, h'.length, ?_, rfl⟩
     rw [List.getElem?_append_right (by simp)]; simp
   · exact .inl h
 refine does_keep Tryz.func70 rfl (Nat.le_of_ble_eq_true rfl) ?_
 simp only [Tryz.ntmps70]
 have w1 : IntKind.i64.wrap ((0 : Int) - 0) = 0 := by decide
 have w2 : IntKind.i64.wrap ((m : Int) - 0) = (m : Int) := by rw [Int.sub_zero]; exact IntWalk.i64_in _ (by omega)
 by_cases h0 : m = 0
 · subst h0
   repeat' first
    | (refine ao_capnil rfl rfl rfl (by kernel_rfl) ?_)
    | refine aw_seq' ?_
    | refine aw_region' ?_
    | refine ao_nil ?_
    | (refine ao1 rfl rfl fun K HK => ?_; simp only [go_sem, ↓reduceIte, Nat.reduceEqDiff, Nat.reduceAdd, Nat.reduceLeDiff, Nat.reduceBEq, Nat.reduceMul, Int.reduceEq, Int.reduceLT, Int.reduceLE, w1, w2]; (first | refine splitB (fun hq => ?_) (fun hq => ?_) | skip) <;> (refine HK _ _ ?_; clear HK K))
    | refine aw_if1 rfl ?_
    | refine aw_if0 rfl ?_
    | refine aw_skip ?_
    | refine aw_ret ?_
    | (exfalso; omega)
   exact ⟨.inr rfl, [.v (.slice none 0 0)], rfl, .inr ⟨rfl, rfl⟩⟩
 · skip
   repeat' first
    | (refine ao_capnil rfl rfl rfl (by kernel_rfl) ?_)
    | (refine ao_slcnil rfl rfl rfl rfl (by rw [elT_22]; exact szT_40) ?_)
    | (refine ao_appmake (ik := .i64) (m := m) rfl rfl rfl rfl (by kernel_rfl) apT_22 zero_cmd rfl (by omega) (by omega) (by omega) ?_)
    | (refine ao_upto rfl rfl rfl rfl rfl (List.length_replicate ..) (by rw [elT_22]; exact szT_40) (Nat.zero_le _) ?_)
    | refine aw_seq' ?_
    | refine aw_region' ?_
    | refine ao_nil ?_
    | (refine ao1 rfl rfl fun K HK => ?_; simp only [go_sem, ↓reduceIte, Nat.reduceEqDiff, Nat.reduceAdd, Nat.reduceLeDiff, Nat.reduceBEq, Nat.reduceMul, Int.reduceEq, Int.reduceLT, Int.reduceLE, w1, w2]; (first | refine splitB (fun hq => ?_) (fun hq => ?_) | skip) <;> (refine HK _ _ ?_; clear HK K))
    | refine aw_if1 rfl ?_
    | refine aw_if0 rfl ?_
    | refine aw_skip ?_
    | refine aw_ret ?_
    | (exfalso; omega)
   exact ⟨.inr rfl, [.win 0 m 0 0], rfl, .inl ⟨_, rfl, List.length_replicate .., rfl⟩⟩
theorem grow_d (m : Nat) (hm : m ≤ 100000) (h : List Ob) : Does Tryz.prog G 70 h [.v (.slice none 0 0), .v (.int .i64 m)] (fun h' r => h' = h ++ [.buf 40 6 []] ∧ r = .buf h.length 0) := does_newR hG (rows := []) (by simp [low, lowR]) (by simp [lowL, low]) (grow0 G hG m hm) h
omit hG in
theorem flat_take1 {ls : List (List Cmd)} {k : Nat} {x : List Cmd} (h : ls[k]? = some x) : (ls.take (k + 1)).flatten = (ls.take k).flatten ++ x := by
 rw [List.take_add_one, h]; simp
omit hG in
theorem flat_le {ls : List (List Cmd)} {k : Nat} : (ls.take k).flatten.length ≤ ls.flatten.length := by
 conv => rhs; rw [← List.take_append_drop k ls, List.flatten_append, List.length_append]
 omega
def lsX (ls : List (List Cmd)) : List (List D) := ls.map fun l => [.sl 6 (l.map cmdX)]
omit hG in
theorem rowsOk_cms (l : List Cmd) : rowsOk 6 (l.map cmdX) := fun row hr => by
 obtain ⟨c, _, rfl⟩ := List.mem_map.1 hr
 exact ⟨rfl, fun d hd => List.all_eq_true.1 (one_cmd c) d hd⟩
theorem concat0 (ls : List (List Cmd)) (hn : ls.length ≤ 1000) (hs : ls.flatten.length ≤ 10000) : Does Tryz.prog G 39 [] [.sl 1 (lsX ls)] (fun h' r => h' = [.buf 40 6 (ls.flatten.map cmdX)] ∧ r = .buf 0 ls.flatten.length) := by
 have hll : (lsX ls).length = ls.length := List.length_map _
 refine does_keep Tryz.func39 rfl (Nat.le_of_ble_eq_true rfl) ?_
 simp only [Tryz.ntmps39]
 repeat' first
  | refine aw_seq' ?_
  | refine aw_region' ?_
  | refine aw_block ?_
  | refine ao_nil ?_
  | (refine ao1 rfl rfl fun K HK => ?_; simp only [go_sem, ↓reduceIte, Nat.reduceEqDiff, Nat.reduceAdd, Nat.reduceLeDiff, Nat.reduceBEq, Nat.reduceMul, Int.reduceEq, Int.reduceLT, Int.reduceLE, hll] <;> (refine HK _ _ ?_; clear HK K))
 refine aw_for (fun m e h' => ∃ k : Nat, k ≤ ls.length ∧ m = ls.length - k ∧ h' = [] ∧ e 0 = .sl 1 (lsX ls) ∧ e 3 = .v (.int .i64 (ls.take k).flatten.length) ∧ e 9 = .sl 1 (lsX ls) ∧ e 10 = .v (.int .i64 ls.length) ∧ e 11 = .v (.int .i64 k)) ls.length ⟨0, Nat.zero_le _, rfl, rfl, rfl, rfl, rfl, rfl, rfl⟩ ?_
 rintro m e h' ⟨k, hk, rfl, rfl, e0, e3, e9, e10, e11⟩
 by_cases hlt : k < ls.length
 · have hx : ls[k]? = some ls[k] := List.getElem?_eq_getElem hlt
   generalize ls[k] = x at hx
   have hxr : (lsX ls)[((k : Nat) : Int).toNat]? = some [.sl 6 (x.map cmdX)] := by rw [Int.toNat_natCast]; unfold lsX; rw [List.getElem?_map, hx]; rfl
   have wk : IntKind.i64.wrap ((k : Int) + 1) = (k : Int) + 1 := IntWalk.i64_in _ (by omega)
   have hf := flat_take1 hx
   have hfl := flat_le (ls := ls) (k := k + 1)
   have hfe : ((ls.take (k + 1)).flatten.length : Int) = (ls.take k).flatten.length + x.length := by rw [hf, List.length_append]; rfl
   have ws : IntKind.i64.wrap (((ls.take k).flatten.length : Int) + (x.length : Int)) = ((ls.take (k + 1)).flatten.length : Int) := by rw [← hfe]; exact IntWalk.i64_in _ (by omega)
   have hnn : ¬ ((ls.take (k + 1)).flatten.length : Int) < 0 := by omega
   repeat' first
    | refine aw_seq' ?_
    | refine aw_region' ?_
    | refine aw_block ?_
    | refine ao_nil ?_
    | (refine ao1 rfl rfl fun K HK => ?_; simp only [go_sem, ↓reduceIte, Nat.reduceEqDiff, Nat.reduceAdd, Nat.reduceLeDiff, Nat.reduceBEq, Nat.reduceMul, Int.reduceEq, Int.reduceLT, Int.reduceLE, e0, e3, e9, e10, e11, hll, wk, ws, hnn, List.length_map]; (first | refine splitB (fun hq => ?_) (fun hq => ?_) | (refine ⟨by omega, by omega, ?_⟩; refine row_at (by assumption) ?_) | skip) <;> (refine HK _ _ ?_; clear HK K))
    | refine aw_if1 rfl ?_
    | refine aw_if0 rfl ?_
    | refine aw_skip ?_
    | refine aw_exit ?_
    | refine thenS_n ?_
    | (exfalso; omega)
   exact ⟨rfl, ls.length - (k + 1), by omega, k + 1, by omega, rfl, rfl, e0, rfl, e9, e10, rfl⟩
 rw [List.take_of_length_le (by omega)] at e3
 repeat' first
  | refine aw_seq' ?_
  | refine aw_region' ?_
  | refine aw_block ?_
  | refine ao_nil ?_
  | (refine ao1 rfl rfl fun K HK => ?_; simp only [go_sem, ↓reduceIte, Nat.reduceEqDiff, Nat.reduceAdd, Nat.reduceLeDiff, Nat.reduceBEq, Nat.reduceMul, Int.reduceEq, Int.reduceLT, Int.reduceLE, e0, e3, e9, e10, e11, hll]; (first | refine splitB (fun hq => ?_) (fun hq => ?_) | (refine ⟨by omega, by omega, ?_⟩; intro row hrow; obtain ⟨x, hx, rfl⟩ := row_inv hrow; clear hrow) | skip) <;> (refine HK _ _ ?_; clear HK K))
  | (refine ao2 rfl rfl rfl ent_70 (grow_d G hG ls.flatten.length (by omega) _) ?_; rintro _ _ ⟨rfl, rfl⟩)
  | refine aw_if1 rfl ?_
  | refine aw_if0 rfl ?_
  | refine aw_skip ?_
  | refine aw_exit ?_
  | refine thenS_n ?_
  | (exfalso; omega)
 clear e0 e3 e9 e10 e11
 refine aw_for (fun m e h' => ∃ k : Nat, k ≤ ls.length ∧ m = ls.length - k ∧ h' = [.buf 40 6 ((ls.take k).flatten.map cmdX)] ∧ e 6 = .buf 0 (ls.take k).flatten.length ∧ e 25 = .sl 1 (lsX ls) ∧ e 26 = .v (.int .i64 ls.length) ∧ e 27 = .v (.int .i64 k)) ls.length ⟨0, Nat.zero_le _, rfl, rfl, rfl, rfl, rfl, rfl⟩ ?_
 rintro m e h' ⟨k, hk, rfl, rfl, e6, e25, e26, e27⟩
 by_cases hlt : k < ls.length
 · have hx : ls[k]? = some ls[k] := List.getElem?_eq_getElem hlt
   generalize ls[k] = x at hx
   have hxr : (lsX ls)[((k : Nat) : Int).toNat]? = some [.sl 6 (x.map cmdX)] := by rw [Int.toNat_natCast]; unfold lsX; rw [List.getElem?_map, hx]; rfl
   have wk : IntKind.i64.wrap ((k : Int) + 1) = (k : Int) + 1 := IntWalk.i64_in _ (by omega)
   have hf := flat_take1 hx
   have hfl := flat_le (ls := ls) (k := k + 1)
   have hfe : (ls.take (k + 1)).flatten.length = (ls.take k).flatten.length + (x.map cmdX).length := by rw [hf, List.length_append, List.length_map]
   have hro := rowsOk_cms x
   have hlt' : (k : Int) < (ls.length : Int) := by omega
   have hF2 : (ls.take k).flatten.length ≤ 10000 := by omega
   generalize (ls.take k).flatten = F at *
   repeat' first
    | (refine ao_appR rfl rfl rfl rfl (List.length_map _) apT_22 rfl hro (by rw [List.length_map]; rw [List.length_map] at hfe; omega) ?_)
    | refine aw_seq' ?_
    | refine aw_region' ?_
    | refine aw_block ?_
    | refine ao_nil ?_
    | (refine ao1 rfl rfl fun K HK => ?_; simp only [go_sem, ↓reduceIte, Nat.reduceEqDiff, Nat.reduceAdd, Nat.reduceLeDiff, Nat.reduceBEq, Nat.reduceMul, Int.reduceEq, Int.reduceLT, Int.reduceLE, hlt', e6, e25, e26, e27, hll, wk, List.length_map]; (first | (refine ⟨by omega, ?_⟩; refine row_at (by assumption) ?_) | skip) <;> (refine HK _ _ ?_; clear HK K))
    | refine aw_if1 rfl ?_
    | refine aw_skip ?_
    | refine thenS_n ?_
   exact ⟨rfl, ls.length - (k + 1), by omega, k + 1, by omega, rfl, by rw [hf, List.map_append], by rw [hf, List.length_append]; rfl, e25, e26, rfl⟩
 · skip
   rw [List.take_of_length_le (by omega)] at e6 ⊢
   have hlt' : ¬ (k : Int) < (ls.length : Int) := by omega
   repeat' first
    | refine aw_seq' ?_
    | refine aw_region' ?_
    | refine ao_nil ?_
    | (refine ao1 rfl rfl fun K HK => ?_; simp only [go_sem, ↓reduceIte, Nat.reduceEqDiff, Nat.reduceAdd, Nat.reduceLeDiff, Nat.reduceBEq, Nat.reduceMul, Int.reduceEq, Int.reduceLT, Int.reduceLE, hlt', e6, e25, e26, e27] <;> (refine HK _ _ ?_; clear HK K))
    | refine aw_if0 rfl ?_
    | refine aw_exit ?_
    | refine aw_ret ?_
   exact ⟨.inr rfl, [.buf 0 ls.flatten.length], rfl, rfl, rfl⟩
omit hG in
theorem low_lsX (m : Nat) (ls : List (List Cmd)) : low m (.sl 1 (lsX ls)) := by
 rw [low, lowR_iff]
 intro row hr
 obtain ⟨l, _, rfl⟩ := List.mem_map.1 hr
 rw [lowL, lowL]; exact ⟨low_cms _ _, trivial⟩
theorem concat_b (ls : List (List Cmd)) (hn : ls.length ≤ 1000) (hs : ls.flatten.length ≤ 10000) {h : List Ob} {i E n : Nat} (hi : h[i]? = some (.buf E 1 (lsX ls))) (hl : ls.length = n) : Does Tryz.prog G 39 h [.buf i n] (fun h' r => h' = h.set i .dead ++ [.buf 40 6 (ls.flatten.map cmdX)] ∧ r = .buf h.length ls.flatten.length) := by
 refine Does.give1 hi (by rw [← hl]; exact List.length_map _) ?_
 have := does_newR hG (low_cms 0 ls.flatten) (by rw [lowL, lowL]; exact ⟨low_lsX _ _, trivial⟩) (concat0 G hG ls hn hs) (h.set i .dead)
 rwa [List.length_set] at this
theorem of_b (l : List Cmd) (hl : OkL l) (hsz : l.length ≤ 1000) {h : List Ob} {i E n : Nat} (hi : h[i]? = some (.buf E 6 (l.map cmdX))) (hn : l.length = n) : Does Tryz.prog G 14 h [.buf i n] (fun h' r => h' = h.set i .dead ++ [.buf 40 6 ((ofL l).map cmdX)] ∧ r = .buf h.length (ofL l).length) := by
 refine Does.give1 hi (by rw [← hn]; exact List.length_map _) ?_
 have := of_d G hG l hl hsz (h.set i .dead)
 rwa [List.length_set] at this
theorem join0 (a b : List Cmd) (ha : OkL a) (hb : OkL b) (la : a.length ≤ 500) (lb : b.length ≤ 500) : Does Tryz.prog G 12 [] [.sl 6 (a.map cmdX), .sl 6 (b.map cmdX)] (fun h' r => h' = [.buf 40 6 ((joinL a b).map cmdX)] ∧ r = .buf 0 (joinL a b).length) := by
 refine Does.only0 hG (low_cms _ _) (K := fun h' r => ∃ i, h'[i]? = some (.buf 40 6 ((joinL a b).map cmdX)) ∧ r = .buf i (joinL a b).length) ?_ (fun _ _ h => h)
 have hf : [a, b].flatten = a ++ b := by simp
 have hc := @concat_b G hG [a, b] (Nat.le_of_ble_eq_true rfl) (by rw [hf, List.length_append]; omega) [.buf 22 1 (lsX [a, b])] 0 _ 2 rfl rfl
 rw [hf] at hc
 refine does_keep Tryz.func12 rfl (Nat.le_of_ble_eq_true rfl) ?_
 simp only [Tryz.ntmps12]
 repeat' first
  | (refine ao_callK rfl rfl rfl (by kernel_rfl) hc ?_; rintro _ _ ⟨rfl, rfl⟩)
  | (refine ao_callK rfl rfl rfl ent_14 (of_b G hG (a ++ b) (ha.app hb) (by rw [List.length_append]; omega) rfl rfl) ?_; rintro _ _ ⟨rfl, rfl⟩)
  | refine aw_seq' ?_
  | refine aw_region' ?_
  | refine ao_nil ?_
  | (refine ao1 rfl rfl fun K HK => ?_; simp only [go_sem, ↓reduceIte, Nat.reduceEqDiff, Nat.reduceAdd, Nat.reduceLeDiff, Nat.reduceBEq, Nat.reduceMul, Int.reduceEq, Int.reduceLT, Int.reduceLE] <;> (refine HK _ _ ?_; clear HK K))
  | refine aw_ret ?_
 exact ⟨.inr rfl, [.buf 2 (ofL (a ++ b)).length], rfl, 2, rfl, rfl⟩
theorem join_s (a b : List Cmd) (ha : OkL a) (hb : OkL b) (la : a.length ≤ 500) (lb : b.length ≤ 500) (h : List Ob) : Does Tryz.prog G 12 h [.sl 6 (a.map cmdX), .sl 6 (b.map cmdX)] (fun h' r => h' = h ∧ r = .sl 6 ((joinL a b).map cmdX)) :=
 Does.gave0 hG (low_cms _ _) (by rw [lowL, lowL, lowL]; exact ⟨low_cms _ _, low_cms _ _, trivial⟩) (List.length_map _) (join0 G hG a b ha hb la lb) h
end
section
set_option maxRecDepth 100000
set_option maxHeartbeats 2000000
attribute [local irreducible] on aOp
attribute [local go_sem] decide_true decide_false Bool.not_true Bool.not_false
attribute [local simp] byD_len
variable (G : Nat → D) (hG : ∀ g, low 0 (G g))
include hG
theorem has1_d (x c : Cmd) (hx : x.Ok) (hc : c.Ok) : Does Tryz.prog G 68 [.cells (cmdX c)] [.agg (cmdX x), .ptr 0 0] (fun h' r => h' = [.cells (cmdX c)] ∧ r = .v (.bool (decide (cmpC x c = 0)))) := by
 refine does_of_aw Tryz.func68 rfl (Nat.le_of_ble_eq_true rfl) hG fun hl0 _ => ?_
 simp only [Tryz.ntmps68]
 repeat' first
  | refine aw_seq' ?_
  | refine aw_region' ?_
  | refine ao_nil ?_
  | (refine ao1 rfl rfl fun K HK => ?_; simp only [go_sem, ↓reduceIte, Nat.reduceEqDiff, Nat.reduceAdd, Nat.reduceLeDiff, Nat.reduceBEq, Nat.reduceMul, Int.reduceEq, Int.reduceLT, Int.reduceLE, cmdX_eq]; (first | refine splitB (fun hq => ?_) (fun hq => ?_) | skip) <;> (refine HK _ _ ?_; clear HK K))
  | (refine ao2 rfl rfl rfl ent_45 (ssame_d G hG x c hx hc _) ?_; rintro _ _ ⟨rfl, rfl⟩)
  | refine aw_ret ?_
 all_goals exact ⟨.inr rfl, endD (r := .v _) hl0 rfl rfl (by simp) rfl (by rw [low]; trivial) ⟨rfl, by simp [*]⟩⟩
omit hG in
theorem contains_d (l : List Cmd) (p : Cmd → Bool) (g : FuncId) (caps : List D) (he : entB Tryz.prog g = true) (hsz : l.length ≤ 1000000) (h : List Ob) (ht : Tells G g caps p l h) :
 Does Tryz.prog G 67 h [.sl 6 (l.map cmdX), .fn g caps] (fun h' r => h' = h ∧ r = .v (.bool (l.any p))) := by
 refine does_keep Tryz.func67 rfl (Nat.le_of_ble_eq_true rfl) ?_
 simp only [Tryz.ntmps67]
 repeat' first
  | (refine ao_callK rfl rfl rfl (by kernel_rfl) (index_s G l p g caps he hsz h ht) ?_; rintro _ _ ⟨rfl, z, rfl, ⟨rfl, hf⟩ | ⟨k, c, rfl, hk, hpc, hf⟩⟩)
  | refine aw_seq' ?_
  | refine aw_region' ?_
  | refine ao_nil ?_
  | (refine ao1 rfl rfl fun K HK => ?_; simp only [go_sem, ↓reduceIte, Nat.reduceEqDiff, Nat.reduceAdd, Nat.reduceLeDiff, Nat.reduceBEq, Nat.reduceMul, Int.reduceEq, Int.reduceLT, Int.reduceLE]; (first | refine splitB (fun hq => ?_) (fun hq => ?_) | skip) <;> (refine HK _ _ ?_; clear HK K))
  | refine aw_ret ?_
  | (exfalso; omega)
 all_goals first
  | exact ⟨.inr rfl, [.v (.bool false)], rfl, rfl, by rw [List.any_eq_false.2 fun x hx => by rw [hf x hx]; decide]; rfl⟩
  | exact ⟨.inr rfl, [.v (.bool true)], rfl, rfl, by rw [List.any_eq_true.2 ⟨c, List.mem_of_getElem? hk, hpc⟩]; rfl⟩
theorem shas_d (l : List Cmd) (c : Cmd) (hl : OkL l) (hc : c.Ok) (hsz : l.length ≤ 1000) (h : List Ob) : Does Tryz.prog G 34 h [.sl 6 (l.map cmdX), .agg (cmdX c)] (fun h' r => h' = h ∧ r = .v (.bool (hasL l c))) := by
 have hA := contains_d G l (fun x => decide (cmpC x c = 0)) 68 [.ptr 0 0] (by kernel_rfl) (by omega) [.cells (cmdX c)] (fun x hx => has1_d G hG x c (hl x hx) hc)
 have hany : l.any (fun x => decide (cmpC x c = 0)) = hasL l c := by
  clear hA hsz hl
  induction l with
  | nil => rfl
  | cons x t ih => rw [List.any_cons, hasL, ih]
 rw [hany] at hA
 refine does_any G hG (by rw [lowL, lowL, lowL]; exact ⟨low_cms _ _, low_agg _ _, trivial⟩) (by rw [low]; trivial) ?_ h
 refine does_of_aw Tryz.func34 rfl (Nat.le_of_ble_eq_true rfl) hG fun hl0 _ => ?_
 simp only [Tryz.ntmps34]
 repeat' first
  | (refine ao_mkf rfl rfl ?_)
  | (refine ao_callK rfl rfl rfl (by kernel_rfl) hA ?_; rintro _ _ ⟨rfl, rfl⟩)
  | refine aw_seq' ?_
  | refine aw_region' ?_
  | refine ao_nil ?_
  | (refine ao1 rfl rfl fun K HK => ?_; simp only [go_sem, ↓reduceIte, Nat.reduceEqDiff, Nat.reduceAdd, Nat.reduceLeDiff, Nat.reduceBEq, Nat.reduceMul, Int.reduceEq, Int.reduceLT, Int.reduceLE] <;> (refine HK _ _ ?_; clear HK K))
  | refine aw_ret ?_
 all_goals exact ⟨.inr rfl, endD (r := .v _) hl0 rfl (by simp) (by simp) rfl (by rw [low]; trivial) ⟨rfl, rfl⟩⟩
end
section
set_option maxRecDepth 100000
set_option maxHeartbeats 2000000
attribute [local irreducible] on aOp
attribute [local go_sem] decide_true decide_false Bool.not_true Bool.not_false
attribute [local simp] byD_len
@[go_sem] theorem b_beql {x y : Operand} {a c : Bool} : binV Tryz.prog .eql 4 x y (.bool a) (.bool c) = some (.v (.bool (decide (a = c)))) := by cases a <;> cases c <;> kernel_rfl
@[go_sem] theorem b_bneq {x y : Operand} {a c : Bool} : binV Tryz.prog .neq 4 x y (.bool a) (.bool c) = some (.v (.bool (!decide (a = c)))) := by cases a <;> cases c <;> kernel_rfl
def Nums (c : Cmd) : Prop := I64 c.client ∧ I64 c.seq ∧ I64 c.kind ∧ I64 c.replica
theorem ok_of_small {c : Cmd} (h : Nums c) (s : smallC c) : c.Ok := ⟨h.1, h.2.1, h.2.2.1, h.2.2.2, by have := s.1; omega, fun x hx => by have := s.2.2 x hx; unfold smallW at this; omega, by have := s.2.1; omega⟩
theorem okL_of_small {l : List Cmd} {m : Nat} (h : ∀ c ∈ l, Nums c) (s : SmallL l m) : OkL l := fun c hc => ok_of_small (h c hc) (s.2 c hc)
theorem joinL_len (a b : List Cmd) : (joinL a b).length ≤ a.length + b.length := by have := ofL_len (a ++ b); rwa [List.length_append] at this
theorem minusL_len (a b : List Cmd) : (minusL a b).length ≤ a.length := Nat.le_trans (List.length_filter_le _ _) (ofL_len a)
section
variable {a b c : List Cmd} (ha : OkL a) (hb : OkL b) (hc : OkL c)
include ha hb
include hc
end
variable (G : Nat → D) (hG : ∀ g, low 0 (G g))
include hG
theorem small_y {l : List Cmd} {most : Nat} (hm : most ≤ 1000) (s : SmallL l most) (h : List Ob) : Does Tryz.prog G 10 h [.sl 6 (l.map cmdX), .v (.int .i64 most)] (fun h' r => h' = h ∧ r = .v (.bool true)) := (small_d G hG l most hm h).mono fun h' r ⟨h1, b, h2, h3⟩ => ⟨h1, by rw [h2, h3.2 s]⟩
theorem small_n {l : List Cmd} {most : Nat} (hm : most ≤ 1000) (s : ¬ SmallL l most) (h : List Ob) : Does Tryz.prog G 10 h [.sl 6 (l.map cmdX), .v (.int .i64 most)] (fun h' r => h' = h ∧ r = .v (.bool false)) := (small_d G hG l most hm h).mono fun h' r ⟨h1, b, h2, h3⟩ => ⟨h1, by
 cases b
 · exact h2
 · exact absurd (h3.1 rfl) s⟩
def Awake (G : Nat → D) : Prop := ∀ h, Does Tryz.prog G 11 h [] (fun h' r => h' = h ∧ r = .v (.bool true))
end
end Go.Proofs.YtidpdgdakghfnaaGreat
