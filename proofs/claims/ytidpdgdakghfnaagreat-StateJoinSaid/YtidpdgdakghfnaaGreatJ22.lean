/-
  What the statements of the chapter share, part 22: SC, PL, IN, OL, OF4, IX.
-/
import Derived.Test.YtidpdgdakghfnaaGreatJ17
import Derived.Test.YtidpdgdakghfnaaGreatJ18
import Derived.Test.YtidpdgdakghfnaaGreatJ21
import Derived.Sort.Walk0
set_option linter.unusedVariables false
set_option linter.unusedSimpArgs false
set_option maxRecDepth 100000
set_option maxHeartbeats 8000000
namespace Go.Proofs.YtidpdgdakghfnaaGreat
open Go.RowKit
section
open Go.RowKit Go.Shelf
theorem cmpC_swo : Go.Sort.SWO (ltOf cmpC) where
 irrefl x := by simp only [ltOf, decide_eq_false_iff_not, cmpC_lt]; exact LtC.irrefl x
 trans x y z h k := by
  simp only [ltOf, decide_eq_true_eq, cmpC_lt] at h k ⊢
  exact h.trans k
 ntrans x y z h k := by
  simp only [ltOf, decide_eq_false_iff_not, cmpC_lt] at h k ⊢
  intro q
  rcases cmpC_cases x y with ⟨a, _⟩ | ⟨a, _⟩ | ⟨a, _⟩
  · exact h a
  · exact k (EqC.left ⟨a.1.symm, a.2.1.symm, a.2.2.symm⟩ q)
  · exact k (a.trans q)
variable (G : Nat → D) (hG : ∀ g, low 0 (G g))
include hG
theorem sortC (l : List Cmd) (hl : ∀ c ∈ l, c.Ok) (hsz : l.length ≤ 1000000) {h : List Ob} {i : Nat} (hi : h[i]? = some (.buf 40 6 (l.map cmdX))) :
 Does Tryz.prog G 42 h [.buf i l.length, .fn 43 []] (fun h' r => ∃ l' : List Cmd, l'.Perm l ∧ l'.Pairwise (fun x y => ¬ cmpC y x < 0) ∧ h' = h.set i (.buf 40 6 (l'.map cmdX)) ∧ r = .tup []) :=
 sort_does (xX := cmdX) (okX := Cmd.Ok) (k := 6) (ρ := laysSort_ren) hG laysSort Tryz.isAgg40 Tryz.sizeOf40 (by decide) (fun _ _ => rfl) (fun c _ => one_cmd c) (fun c => low_cmd 0 c) cmpC_swo (enters_of Tryz.func43 (by kernel_rfl) rfl) (fun x y hx hy => compare_d G hG x y hx hy []) hl hsz hi
end
section
theorem EqC.symm {a b : Cmd} (h : EqC a b) : EqC b a := ⟨h.1.symm, h.2.1.symm, h.2.2.symm⟩
theorem EqC.trans {a b c : Cmd} (h : EqC a b) (k : EqC b c) : EqC a c := ⟨h.1.trans k.1, h.2.1.trans k.2.1, h.2.2.trans k.2.2⟩
theorem EqC.refl (a : Cmd) : EqC a a := ⟨rfl, rfl, rfl⟩
def SubC (a b : List Cmd) : Prop := ∀ c ∈ a, ∃ d ∈ b, EqC c d
theorem SubC.trans {a b c : List Cmd} (h : SubC a b) (k : SubC b c) : SubC a c := fun x hx => by
 obtain ⟨y, hy, e⟩ := h x hx
 obtain ⟨z, hz, f⟩ := k y hy
 exact ⟨z, hz, e.trans f⟩
theorem hasL_iff : ∀ (l : List Cmd) (c : Cmd), hasL l c = true ↔ ∃ d ∈ l, EqC d c
 | [], c => by simp [hasL]
 | x :: s, c => by
  rw [hasL, Bool.or_eq_true, decide_eq_true_eq, hasL_iff s c, cmpC_zero]
  simp
end
section
theorem uintE_inj {n m : Nat} {x y : List UInt8} (hn : n < 18446744073709551616) (hm : m < 18446744073709551616) (h : uintE n ++ x = uintE m ++ y) : n = m ∧ x = y := by
 have h1 := numF_uintE 64 n 0 x hn hn (by omega) (.inl rfl)
 have h2 := numF_uintE 64 m 0 y hm hm (by omega) (.inl rfl)
 rw [h, h2] at h1
 simp only [Option.some.injEq, Prod.mk.injEq] at h1
 obtain ⟨rfl, _⟩ := h1
 exact ⟨rfl, List.append_cancel_left h⟩
theorem intE_inj {n m : Int} {x y : List UInt8} (hn : I64 n) (hm : I64 m) (h : intE n ++ x = intE m ++ y) : n = m ∧ x = y := by
 obtain ⟨h1, h2⟩ := uintE_inj (zz_lt n hn.1 hn.2) (zz_lt m hm.1 hm.2) h
 exact ⟨by rw [← unzz_zz n, h1, unzz_zz], h2⟩
theorem bytesE_inj {a b x y : List UInt8} (ha : a.length ≤ 1000000) (hb : b.length ≤ 1000000) (h : bytesE a ++ x = bytesE b ++ y) : a = b ∧ x = y := by
 unfold bytesE at h
 rw [List.append_assoc, List.append_assoc] at h
 obtain ⟨h1, h2⟩ := uintE_inj (by omega) (by omega) h
 exact List.append_inj h2 h1
theorem textE_inj {a b : ByteArray} {x y : List UInt8} (ha : a.size ≤ 1000000) (hb : b.size ≤ 1000000) (h : textE a ++ x = textE b ++ y) : a = b ∧ x = y := by
 unfold textE at h
 rw [List.append_assoc, List.append_assoc] at h
 obtain ⟨h1, h2⟩ := uintE_inj (by omega) (by omega) h
 obtain ⟨h3, h4⟩ := List.append_inj h2 (by simpa using h1)
 exact ⟨ByteArray.ext (Array.ext' h3), h4⟩
theorem writesE_inj : ∀ (a b : List (ByteArray × List UInt8)) (x y : List UInt8), a.length = b.length → (∀ w ∈ a, w.1.size ≤ 10000 ∧ w.2.length ≤ 10000) → (∀ w ∈ b, w.1.size ≤ 10000 ∧ w.2.length ≤ 10000) → writesE a ++ x = writesE b ++ y → a = b ∧ x = y
 | [], [], x, y, _, _, _, h => ⟨rfl, by simpa [writesE] using h⟩
 | [], _ :: _, _, _, hl, _, _, _ => by simp at hl
 | _ :: _, [], _, _, hl, _, _, _ => by simp at hl
 | u :: s, v :: t, x, y, hl, ha, hb, h => by
  have e : ∀ (u : ByteArray × List UInt8) (s : List (ByteArray × List UInt8)) (x : List UInt8), writesE (u :: s) ++ x = textE u.1 ++ (bytesE u.2 ++ (writesE s ++ x)) := fun u s x => by simp [writesE]
  rw [e, e] at h
  have hu := ha u (by simp)
  have hv := hb v (by simp)
  obtain ⟨h1, h2⟩ := textE_inj (by omega) (by omega) h
  obtain ⟨h3, h4⟩ := bytesE_inj (by omega) (by omega) h2
  obtain ⟨h5, h6⟩ := writesE_inj s t x y (by simpa using hl) (fun w hw => ha w (by simp [hw])) (fun w hw => hb w (by simp [hw])) h4
  exact ⟨by rw [h5, show u = v from Prod.ext h1 h3], h6⟩
theorem encC_inj {a b : Cmd} {x y : List UInt8} (ha : a.Ok) (hb : b.Ok) (h : encC a ++ x = encC b ++ y) : a = b ∧ x = y := by
 have e : ∀ (c : Cmd) (x : List UInt8), encC c ++ x = intE c.client ++ (intE c.seq ++ (intE c.kind ++ (uintE c.writes.length ++ (writesE c.writes ++ (intE c.replica ++ (bytesE c.tag ++ x)))))) := fun c x => by simp [encC, writeC]
 rw [e, e] at h
 obtain ⟨h1, h⟩ := intE_inj ha.client hb.client h
 obtain ⟨h2, h⟩ := intE_inj ha.seq hb.seq h
 obtain ⟨h3, h⟩ := intE_inj ha.kind hb.kind h
 obtain ⟨h4, h⟩ := uintE_inj (by have := ha.many; omega) (by have := hb.many; omega) h
 obtain ⟨h5, h⟩ := writesE_inj _ _ _ _ h4 ha.each hb.each h
 obtain ⟨h6, h⟩ := intE_inj ha.replica hb.replica h
 obtain ⟨h7, h8⟩ := bytesE_inj (by have := ha.tag; omega) (by have := hb.tag; omega) h
 cases a; cases b
 simp only at h1 h2 h3 h5 h6 h7
 subst h1 h2 h3 h5 h6 h7
 exact ⟨rfl, h8⟩
theorem EqC.eq {a b : Cmd} (h : EqC a b) (ha : a.Ok) (hb : b.Ok) : a = b := (encC_inj (x := []) (y := []) ha hb (by rw [h.2.2])).1
end
section
def OkL (l : List Cmd) : Prop := ∀ c ∈ l, c.Ok
theorem OkL.app {a b : List Cmd} (ha : OkL a) (hb : OkL b) : OkL (a ++ b) := fun c hc => (List.mem_append.1 hc).elim (ha c) (hb c)
def insC (c : Cmd) : List Cmd → List Cmd
 | [] => [c]
 | y :: t => if cmpC c y < 0 then c :: y :: t else if cmpC c y = 0 then y :: t else y :: insC c t
def ofL (l : List Cmd) : List Cmd := l.foldr insC []
theorem insC_mem : ∀ (c : Cmd) (l : List Cmd) (d : Cmd), d ∈ insC c l → d = c ∨ d ∈ l
 | c, [], d, h => by simp [insC] at h; exact .inl h
 | c, y :: t, d, h => by
  rw [insC] at h
  split at h
  · simpa using h
  split at h
  · exact .inr h
  · rcases List.mem_cons.1 h with rfl | h
    · exact .inr (by simp)
    · exact (insC_mem c t d h).imp id fun h => by simp [h]
theorem insC_old : ∀ (c : Cmd) (l : List Cmd) (d : Cmd), d ∈ l → d ∈ insC c l
 | c, y :: t, d, h => by
  rw [insC]
  split
  · exact List.mem_cons_of_mem _ h
  split
  · exact h
  · rcases List.mem_cons.1 h with rfl | h
    · simp
    · exact List.mem_cons_of_mem _ (insC_old c t d h)
theorem insC_new : ∀ (c : Cmd) (l : List Cmd), c.Ok → OkL l → c ∈ insC c l
 | c, [], _, _ => by simp [insC]
 | c, y :: t, hc, hl => by
  rw [insC]
  split
  · simp
  split
  · rename_i h0
    rw [EqC.eq (cmpC_zero.1 h0) hc (hl y (by simp))]; simp
  · exact List.mem_cons_of_mem _ (insC_new c t hc fun d hd => hl d (by simp [hd]))
theorem insC_sorted : ∀ (c : Cmd) (l : List Cmd), l.Pairwise LtC → (insC c l).Pairwise LtC
 | c, [], _ => by simp [insC]
 | c, y :: t, h => by
  obtain ⟨h1, h2⟩ := List.pairwise_cons.1 h
  rw [insC]
  split
  · rename_i hlt
    have hlt := cmpC_lt.1 hlt
    refine List.pairwise_cons.2 ⟨fun d hd => ?_, h⟩
    rcases List.mem_cons.1 hd with rfl | hd
    · exact hlt
    · exact hlt.trans (h1 d hd)
  split
  · exact h
  · rename_i hlt hz
    have hy : LtC y c := by
     rcases cmpC_cases c y with ⟨a, _⟩ | ⟨a, _⟩ | ⟨a, _⟩
     · exact absurd (cmpC_lt.2 a) hlt
     · exact absurd (cmpC_zero.2 a) hz
     · exact a
    refine List.pairwise_cons.2 ⟨fun d hd => ?_, insC_sorted c t h2⟩
    rcases insC_mem c t d hd with rfl | hd
    · exact hy
    · exact h1 d hd
theorem ofL_sorted : ∀ l : List Cmd, (ofL l).Pairwise LtC
 | [] => .nil
 | c :: t => insC_sorted c _ (ofL_sorted t)
theorem ofL_sub : ∀ (l : List Cmd) (c : Cmd), c ∈ ofL l → c ∈ l
 | [], _, h => h
 | x :: t, c, h => by
  rcases insC_mem x _ c h with rfl | h
  · simp
  · exact List.mem_cons_of_mem _ (ofL_sub t c h)
theorem ofL_ok {l : List Cmd} (h : OkL l) : OkL (ofL l) := fun c hc => h c (ofL_sub l c hc)
theorem mem_ofL : ∀ {l : List Cmd} {c : Cmd}, OkL l → (c ∈ ofL l ↔ c ∈ l)
 | [], _, _ => Iff.rfl
 | x :: t, c, hl => ⟨ofL_sub _ c, fun h => by
   have ht : OkL t := fun d hd => hl d (by simp [hd])
   show c ∈ insC x (ofL t)
   rcases List.mem_cons.1 h with rfl | h
   · exact insC_new _ _ (hl _ (by simp)) (ofL_ok ht)
   · exact insC_old _ _ _ ((mem_ofL ht).2 h)⟩
theorem ofL_len : ∀ l : List Cmd, (ofL l).length ≤ l.length
 | [] => Nat.le_refl _
 | x :: t => by
  have key : ∀ (c : Cmd) (s : List Cmd), (insC c s).length ≤ s.length + 1 := fun c s => by
   induction s with
   | nil => simp [insC]
   | cons y u ih =>
    rw [insC]
    split
    · simp
    split
    · simp
    · simp only [List.length_cons]; omega
  have h1 := key x (ofL t)
  have h2 := ofL_len t
  show (insC x (ofL t)).length ≤ _
  simp only [List.length_cons]; omega
theorem sorted_ext : ∀ {a b : List Cmd}, a.Pairwise LtC → b.Pairwise LtC → (∀ c, c ∈ a ↔ c ∈ b) → a = b
 | [], [], _, _, _ => rfl
 | [], y :: t, _, _, h => by simpa using (h y).2 (by simp)
 | x :: s, [], _, _, h => by simpa using (h x).1 (by simp)
 | x :: s, y :: t, ha, hb, h => by
  obtain ⟨a1, a2⟩ := List.pairwise_cons.1 ha
  obtain ⟨b1, b2⟩ := List.pairwise_cons.1 hb
  have hxy : x = y := by
   rcases List.mem_cons.1 ((h x).1 (by simp)) with e | hx
   · exact e
   rcases List.mem_cons.1 ((h y).2 (by simp)) with e | hy
   · exact e.symm
   exact absurd ((a1 y hy).trans (b1 x hx)) (LtC.irrefl x)
  subst hxy
  rw [sorted_ext a2 b2 fun c => ⟨fun hc => ?_, fun hc => ?_⟩]
  · rcases List.mem_cons.1 ((h c).1 (by simp [hc])) with rfl | q
    · exact absurd (a1 c hc) (LtC.irrefl c)
    · exact q
  · rcases List.mem_cons.1 ((h c).2 (by simp [hc])) with rfl | q
    · exact absurd (b1 c hc) (LtC.irrefl c)
    · exact q
theorem ofL_is {l l' : List Cmd} (hl : OkL l) (hp : l'.Perm l) (hs : l'.Pairwise (fun x y => ¬ cmpC y x < 0)) : compactL l' = ofL l := by
 have hl' : OkL l' := fun c hc => hl c (hp.mem_iff.1 hc)
 refine sorted_ext (compact_sorted hs) (ofL_sorted l) fun c => ?_
 rw [mem_ofL hl, ← hp.mem_iff]
 refine ⟨compact_mem, fun h => ?_⟩
 obtain ⟨d, h1, h2⟩ := compact_has h
 rw [h2.eq (hl' c h) (hl' d (compact_mem h1))]; exact h1
theorem hasL_mem {l : List Cmd} {c : Cmd} (hl : OkL l) (hc : c.Ok) : hasL l c = true ↔ c ∈ l := by
 rw [hasL_iff]
 exact ⟨fun ⟨d, h1, h2⟩ => by rw [← h2.eq (hl d h1) hc]; exact h1, fun h => ⟨c, h, .refl c⟩⟩
def joinL (a b : List Cmd) : List Cmd := ofL (a ++ b)
def minusL (a b : List Cmd) : List Cmd := (ofL a).filter fun c => !hasL b c
theorem minusL_ok {a b : List Cmd} (ha : OkL a) : OkL (minusL a b) := fun c hc => ofL_ok ha c (List.mem_filter.1 hc).1
theorem minusL_sorted (a b : List Cmd) : (minusL a b).Pairwise LtC := (ofL_sorted a).filter _
theorem mem_minusL {a b : List Cmd} {c : Cmd} (ha : OkL a) (hb : OkL b) : c ∈ minusL a b ↔ c ∈ a ∧ c ∉ b := by
 unfold minusL
 rw [List.mem_filter, mem_ofL ha]
 constructor
 · rintro ⟨h1, h2⟩
   refine ⟨h1, fun h => ?_⟩
   rw [(hasL_mem hb (ha c h1)).2 h] at h2; cases h2
 · rintro ⟨h1, h2⟩
   refine ⟨h1, ?_⟩
   cases h : hasL b c
   · rfl
   · exact absurd ((hasL_mem hb (ha c h1)).1 h) h2
theorem joinL_ok {a b : List Cmd} (ha : OkL a) (hb : OkL b) : OkL (joinL a b) := ofL_ok (ha.app hb)
theorem joinL_sorted (a b : List Cmd) : (joinL a b).Pairwise LtC := ofL_sorted _
theorem mem_joinL {a b : List Cmd} {c : Cmd} (ha : OkL a) (hb : OkL b) : c ∈ joinL a b ↔ c ∈ a ∨ c ∈ b := by
 unfold joinL; rw [mem_ofL (ha.app hb), List.mem_append]
theorem sameL_refl : ∀ l : List Cmd, sameL l l = true
 | [] => rfl
 | x :: t => by rw [sameL, decide_eq_true (cmpC_zero.2 (.refl x)), Bool.true_and, sameL_refl t]
theorem sameL_eq : ∀ {a b : List Cmd}, OkL a → OkL b → (sameL a b = true ↔ a = b)
 | [], [], _, _ => by simp [sameL]
 | [], _ :: _, _, _ => by simp [sameL]
 | _ :: _, [], _, _ => by simp [sameL]
 | x :: s, y :: t, ha, hb => by
  rw [sameL, Bool.and_eq_true, decide_eq_true_eq, sameL_eq (fun c hc => ha c (by simp [hc])) (fun c hc => hb c (by simp [hc]))]
  constructor
  · rintro ⟨h1, rfl⟩
    rw [EqC.eq (cmpC_zero.1 h1) (ha x (by simp)) (hb y (by simp))]
  · intro h
    injection h with h1 h2
    subst h1 h2
    exact ⟨cmpC_zero.2 (.refl x), rfl⟩
end
section
set_option maxRecDepth 100000
set_option maxHeartbeats 2000000
attribute [local irreducible] on aOp
attribute [local simp] byD_len
theorem lowR_cms (m : Nat) (l : List Cmd) : lowR m (l.map cmdX) := by have := low_cms m l; rwa [low] at this
theorem lies1 {h : List Ob} {i : Nat} {E k : Nat} {rows : List (List D)} (lr : lowR 0 rows) (hi : h[i]? = some (.buf E k rows)) : Lies (fun _ => i) [.buf E k rows] h := by
 refine ⟨fun j ob hj => ?_, fun a b ha hb _ => ?_, fun x hx => ?_⟩
 · rcases j with _ | j
   · cases hj
     simp only [renOb, renR_low0 _ _ lr]; exact hi
   · simp at hj
 · simp at ha hb; omega
 · rw [List.mem_singleton.1 hx]; exact lowR_mono (Nat.zero_le _) _ lr
variable (G : Nat → D) (hG : ∀ g, low 0 (G g))
include hG
theorem compact_at (l : List Cmd) (hl : ∀ c ∈ l, c.Ok) (hsz : l.length ≤ 1000000) {h : List Ob} {i : Nat} (hi : h[i]? = some (.buf 40 6 (l.map cmdX))) :
 Does Tryz.prog G 44 h [.buf i l.length, .fn 45 []] (fun h' r => ∃ rows, h' = h.set i (.buf 40 6 rows) ∧ rows.length = l.length ∧ rows.take (compactL l).length = (compactL l).map cmdX ∧ (r = .win i l.length 0 (compactL l).length ∨ (r = .buf i l.length ∧ compactL l = l))) := by
 have F := Does.frame hG (lies1 (lowR_cms 0 l) hi) (args := [.buf 0 l.length, .fn 45 []]) (by simp [lowL, low]) (K1 := fun h' r => ∃ rows, h' = [.buf 40 6 rows] ∧ rows.length = l.length ∧ rows.take (compactL l).length = (compactL l).map cmdX ∧ (r = .win 0 l.length 0 (compactL l).length ∨ (r = .buf 0 l.length ∧ compactL l = l))) (by
  rintro _ _ ⟨rows, rfl, _⟩
  refine ⟨fun a b ha hb _ => by simp at ha hb; omega, fun k h1 h2 => by simp at h1 h2; omega⟩) (compact_d G hG l hl hsz)
 have e : renL (fun _ => i) [.buf 0 l.length, .fn 45 []] = [.buf i l.length, .fn 45 []] := by simp [renL, ren]
 rw [e] at F
 refine F.mono ?_
 rintro _ _ ⟨_, r, ⟨rows, rfl, h1, h2, h3⟩, rfl, rfl⟩
 refine ⟨renR (fun _ => i) rows, by simp [plc, renOb], by rw [renR_map, List.length_map, h1], ?_, ?_⟩
 · rw [renR_map, ← List.map_take, h2, ← renR_map, renR_low0 _ _ (lowR_cms 0 _)]
 · rcases h3 with rfl | ⟨rfl, h3⟩
   · exact .inl (by rw [ren])
   · exact .inr ⟨by rw [ren], h3⟩
omit hG
def oG (rows : List (List D)) (T : List Ob) : List Ob := .buf 40 6 rows :: T
variable {rows r2 : List (List D)} {T : List Ob} {x y : Ob}
theorem oG_0 : (oG rows T)[0]? = some (.buf 40 6 rows) := rfl
theorem oG_s0 : (oG rows T).set 0 (.buf 40 6 r2) = oG r2 T := rfl
theorem oG_app : oG rows T ++ [x] = oG rows (T ++ [x]) := rfl
theorem oG_len : (oG rows T).length = T.length + 1 := rfl
theorem oG_last : (oG rows (T ++ [x]))[T.length + 1]? = some x := by simp [oG]
theorem oG_lset : (oG rows (T ++ [x])).set (T.length + 1) y = oG rows (T ++ [y]) := by simp [oG]
theorem ofRows_set {l : List Cmd} {k : Nat} {c : Cmd} (h : l[k]? = some c) : ((l.take k).map cmdX ++ List.replicate (l.length - k) zeC).set k (cmdX c) = (l.take (k + 1)).map cmdX ++ List.replicate (l.length - (k + 1)) zeC := by
 have hk := (List.getElem?_eq_some_iff.1 h).1
 rw [List.set_append_right _ _ (by simp; omega), show l.length - k = (l.length - (k + 1)) + 1 by omega, List.replicate_succ, show k - ((l.take k).map cmdX).length = 0 by simp; omega, List.set_cons_zero, List.take_add_one, h]
 simp
theorem ofRows_get {l : List Cmd} {k : Nat} (hk : k < l.length) : ((l.take k).map cmdX ++ List.replicate (l.length - k) zeC)[k]? = some zeC := by
 rw [List.getElem?_append_right (by simp; omega), List.getElem?_replicate, if_pos (by simp; omega)]
theorem ofRows_len (l : List Cmd) {k : Nat} (hk : k ≤ l.length) : ((l.take k).map cmdX ++ List.replicate (l.length - k) zeC).length = l.length := by
 simp; omega
theorem putL_z (c : Cmd) : putL zeC 0 (cmdX c) = cmdX c := put_cmd rfl c
variable (hG : ∀ g, low 0 (G g))
include hG
theorem of0 (l : List Cmd) (hl : OkL l) (hsz : l.length ≤ 1000) : Does Tryz.prog G 14 [] [.sl 6 (l.map cmdX)] (fun h' r => h' = [.buf 40 6 ((ofL l).map cmdX)] ∧ r = .buf 0 (ofL l).length) := by
 refine Does.only0 hG (low_cms _ _) (Does.reown (K := fun h' r => ∃ rows, h'[0]? = some (.buf 40 6 rows) ∧ rows.length = l.length ∧ rows.take (ofL l).length = (ofL l).map cmdX ∧ (r = .win 0 l.length 0 (ofL l).length ∨ (r = .buf 0 l.length ∧ (ofL l).length = l.length))) (K' := fun h' r => ∃ i, h'[i]? = some (.buf 40 6 ((ofL l).map cmdX)) ∧ r = .buf i (ofL l).length) ?_ ?_) (fun _ _ h => h)
 rotate_left
 · rintro h' r ⟨rows, h1, h2, h3, rfl | ⟨rfl, h4⟩⟩
   · have hb := ofL_len l
     refine .inr ⟨0, l.length, (ofL l).length, _, _, rows, h1, h2, hb, rfl, h'.length, ?_, rfl⟩
     rw [List.getElem?_append_right (by simp)]
     simp [h3]
   · exact .inl ⟨0, by rw [← h3, h4, ← h2, List.take_length]; exact h1, by rw [h4]⟩
 refine does_keep Tryz.func14 rfl (Nat.le_of_ble_eq_true rfl) ?_
 simp only [Tryz.ntmps14]
 repeat' first
  | (refine ao_make rfl rfl rfl rfl apT_22 zero_cmd rfl (by omega) (by omega) ?_)
  | refine aw_seq' ?_
  | refine aw_region' ?_
  | refine aw_block ?_
  | refine ao_nil ?_
  | (refine ao1 rfl rfl fun K HK => ?_; (try refine aOp_pick rfl ?_); simp only [go_sem, ↓reduceIte, Nat.reduceEqDiff, Nat.reduceAdd, Nat.reduceLeDiff, Nat.reduceBEq, Nat.reduceMul, Int.reduceEq, Int.reduceLT, Int.reduceLE, decide_true, decide_false, Bool.not_true, Bool.not_false, List.length_map]; (first | refine splitB (fun hq => ?_) (fun hq => ?_) | refine splitN (fun hq => ?_) (fun hq => ?_) | (refine slc_sl (by simp only [go_sem]) rfl rfl (by first | omega | simp) (by first | omega | simp) (by simp only [go_sem]; omega) ?_) | (refine ⟨by omega, by omega, ?_⟩; first | refine row_at (by assumption) ?_ | (intro row hrow; obtain ⟨x, hx, rfl⟩ := row_inv hrow; clear hrow) | (intro row hrow)) | (refine ⟨by omega, ?_⟩; refine row_at (by assumption) ?_) | skip) <;> (refine HK _ _ ?_; clear HK K))
  | (refine aq1 rfl rfl fun K HK => ?_; (try refine aOp_pick rfl ?_); simp only [go_sem, ↓reduceIte, Nat.reduceEqDiff, Nat.reduceAdd, Nat.reduceLeDiff, Nat.reduceBEq, Nat.reduceMul, Int.reduceEq, Int.reduceLT, Int.reduceLE, decide_true, decide_false, Bool.not_true, Bool.not_false, List.length_map]; (first | refine splitB (fun hq => ?_) (fun hq => ?_) | refine splitN (fun hq => ?_) (fun hq => ?_) | (refine slc_sl (by simp only [go_sem]) rfl rfl (by first | omega | simp) (by first | omega | simp) (by simp only [go_sem]; omega) ?_) | (refine ⟨by omega, by omega, ?_⟩; first | refine row_at (by assumption) ?_ | (intro row hrow; obtain ⟨x, hx, rfl⟩ := row_inv hrow; clear hrow) | (intro row hrow)) | (refine ⟨by omega, ?_⟩; refine row_at (by assumption) ?_) | skip) <;> (refine HK _ _ rfl ?_; clear HK K))
  | refine aq0 rfl rfl ?_
  | refine aq_nil ?_
  | (refine aw_draw mixd (by kernel_rfl) ?_)
  | refine ao_appB rfl rfl rfl rfl (by first | assumption | (simp only [go_sem, ↓reduceIte, Nat.reduceEqDiff, Nat.reduceAdd, Nat.reduceLeDiff, Nat.reduceBEq, Nat.reduceMul, Int.reduceEq, Int.reduceLT, Int.reduceLE, decide_true, decide_false, Bool.not_true, Bool.not_false, List.length_map]; rfl) | (simp only [go_sem, ↓reduceIte, Nat.reduceEqDiff, Nat.reduceAdd, Nat.reduceLeDiff, Nat.reduceBEq, Nat.reduceMul, Int.reduceEq, Int.reduceLT, Int.reduceLE, decide_true, decide_false, Bool.not_true, Bool.not_false, List.length_map]; done)) (by simp) (by simp only [go_sem]; rfl) (by first | assumption | (simp only [go_sem, ↓reduceIte, Nat.reduceEqDiff, Nat.reduceAdd, Nat.reduceLeDiff, Nat.reduceBEq, Nat.reduceMul, Int.reduceEq, Int.reduceLT, Int.reduceLE, decide_true, decide_false, Bool.not_true, Bool.not_false, List.length_map]; rfl) | (simp only [go_sem, ↓reduceIte, Nat.reduceEqDiff, Nat.reduceAdd, Nat.reduceLeDiff, Nat.reduceBEq, Nat.reduceMul, Int.reduceEq, Int.reduceLT, Int.reduceLE, decide_true, decide_false, Bool.not_true, Bool.not_false, List.length_map]; done)) (by simp) (by first | assumption | exact rowsOk_nil _ | exact rowsOk_by _ | (rw [byD_cut]; exact rowsOk_by _) | (simp [rowsOk, D.one, Value.oneCell']; done)) (by first | omega | (simp; done) | (simp; omega) | (simp [byD]; omega)) ?_
  | refine ao_appNB rfl rfl rfl rfl (by simp only [go_sem]; rfl) (by first | assumption | (simp only [go_sem, ↓reduceIte, Nat.reduceEqDiff, Nat.reduceAdd, Nat.reduceLeDiff, Nat.reduceBEq, Nat.reduceMul, Int.reduceEq, Int.reduceLT, Int.reduceLE, decide_true, decide_false, Bool.not_true, Bool.not_false, List.length_map]; rfl) | (simp only [go_sem, ↓reduceIte, Nat.reduceEqDiff, Nat.reduceAdd, Nat.reduceLeDiff, Nat.reduceBEq, Nat.reduceMul, Int.reduceEq, Int.reduceLT, Int.reduceLE, decide_true, decide_false, Bool.not_true, Bool.not_false, List.length_map]; done)) (by simp) (by first | assumption | exact rowsOk_nil _ | exact rowsOk_by _ | (rw [byD_cut]; exact rowsOk_by _) | (simp [rowsOk, D.one, Value.oneCell']; done)) (by first | omega | (simp; done) | (simp; omega) | (simp [byD]; omega)) ?_
  | refine ao_appR rfl rfl rfl (by first | assumption | (simp only [go_sem, ↓reduceIte, Nat.reduceEqDiff, Nat.reduceAdd, Nat.reduceLeDiff, Nat.reduceBEq, Nat.reduceMul, Int.reduceEq, Int.reduceLT, Int.reduceLE, decide_true, decide_false, Bool.not_true, Bool.not_false, List.length_map]; rfl) | (simp only [go_sem, ↓reduceIte, Nat.reduceEqDiff, Nat.reduceAdd, Nat.reduceLeDiff, Nat.reduceBEq, Nat.reduceMul, Int.reduceEq, Int.reduceLT, Int.reduceLE, decide_true, decide_false, Bool.not_true, Bool.not_false, List.length_map]; done)) (by simp) (by simp only [go_sem]; rfl) rfl (by first | assumption | exact rowsOk_nil _ | exact rowsOk_by _ | (rw [byD_cut]; exact rowsOk_by _) | (simp [rowsOk, D.one, Value.oneCell']; done)) (by first | omega | (simp; done) | (simp; omega) | (simp [byD]; omega)) ?_
  | refine ao_appNR rfl rfl rfl (by simp only [go_sem]; rfl) rfl (by first | assumption | exact rowsOk_nil _ | exact rowsOk_by _ | (rw [byD_cut]; exact rowsOk_by _) | (simp [rowsOk, D.one, Value.oneCell']; done)) (by first | omega | (simp; done) | (simp; omega) | (simp [byD]; omega)) ?_
  | refine ao0 rfl rfl ?_
  | (refine ao1' rfl fun K HK => ?_; simp only [go_sem, ↓reduceIte, Nat.reduceEqDiff, Nat.reduceAdd, Nat.reduceLeDiff, Nat.reduceBEq, Nat.reduceMul, Int.reduceEq, Int.reduceLT, Int.reduceLE, decide_true, decide_false, Bool.not_true, Bool.not_false, List.length_map]; refine HK _ _ ?_; clear HK K)
  | refine ao0' rfl ?_
  | refine aw_if1 rfl ?_
  | refine aw_if0 rfl ?_
  | refine aw_skip ?_
  | refine aw_exit ?_
  | refine aw_ret ?_
  | refine thenS_n ?_
  | refine thenS_x ?_
  | refine thenS_r ?_
  | refine inB_n ?_
  | refine inB_r ?_
  | refine inB_x ?_
  | refine inB_y rfl ?_
  | (exfalso; omega)
 refine aw_for (fun m e h' => ∃ (k : Nat) (T : List Ob), k ≤ l.length ∧ m = l.length - k ∧ h' = oG ((l.take k).map cmdX ++ List.replicate (l.length - k) zeC) T ∧ e 3 = .buf 0 l.length ∧ e 9 = .sl 6 (l.map cmdX) ∧ e 10 = .v (.int .i64 l.length) ∧ e 11 = .v (.int .i64 k)) l.length ⟨0, [], Nat.zero_le _, rfl, by simp [oG], rfl, rfl, rfl, rfl⟩ ?_
 rintro m e h' ⟨k, T, hk, rfl, rfl, e3, e9, e10, e11⟩
 have hrl := ofRows_len l hk
 by_cases hlt : k < l.length
 · have hx : l[k]? = some l[k] := List.getElem?_eq_getElem hlt
   have hxo := hl _ (List.getElem_mem hlt)
   generalize l[k] = x at hx hxo
   have wk : IntKind.i64.wrap ((k : Int) + 1) = (k : Int) + 1 := IntWalk.i64_in _ (by omega)
   have hzr : ((l.take k).map cmdX ++ List.replicate (l.length - k) zeC)[((k : Nat) : Int).toNat]? = some zeC := by rw [Int.toNat_natCast]; exact ofRows_get hlt
   have hset := ofRows_set hx
   generalize (l.take k).map cmdX ++ List.replicate (l.length - k) zeC = rows at hrl hzr hset
   repeat' first
    | (refine ao_storeB rfl rfl oG_0 hrl hzr rfl (by rw [one_cmd, szT_40]; rfl) (Nat.le_refl 6) ?_)
    | (refine ao_idxB rfl rfl rfl rfl oG_0 hrl (by rw [elT_22]; exact szT_40) (by omega) (by omega) ?_)
    | refine aw_seq' ?_
    | refine aw_region' ?_
    | refine aw_block ?_
    | refine ao_nil ?_
    | (refine ao1 rfl rfl fun K HK => ?_; (try refine aOp_pick rfl ?_); simp only [go_sem, ↓reduceIte, Nat.reduceEqDiff, Nat.reduceAdd, Nat.reduceLeDiff, Nat.reduceBEq, Nat.reduceMul, Int.reduceEq, Int.reduceLT, Int.reduceLE, decide_true, decide_false, Bool.not_true, Bool.not_false, e3, e9, e10, e11, wk, cmdX_eq, List.length_map, Int.toNat_natCast, oG_app, oG_len, oG_last, oG_lset, oG_0]; (first | refine splitB (fun hq => ?_) (fun hq => ?_) | refine splitN (fun hq => ?_) (fun hq => ?_) | (refine slc_sl (by simp only [go_sem]) rfl rfl (by first | omega | simp) (by first | omega | simp) (by simp only [go_sem]; omega) ?_) | (refine ⟨by omega, by omega, ?_⟩; first | refine row_at (by assumption) ?_ | (intro row hrow; obtain ⟨x, hx, rfl⟩ := row_inv hrow; clear hrow) | (intro row hrow)) | (refine ⟨by omega, ?_⟩; refine row_at (by assumption) ?_) | skip) <;> (refine HK _ _ ?_; clear HK K))
    | (refine aq1 rfl rfl fun K HK => ?_; (try refine aOp_pick rfl ?_); simp only [go_sem, ↓reduceIte, Nat.reduceEqDiff, Nat.reduceAdd, Nat.reduceLeDiff, Nat.reduceBEq, Nat.reduceMul, Int.reduceEq, Int.reduceLT, Int.reduceLE, decide_true, decide_false, Bool.not_true, Bool.not_false, e3, e9, e10, e11, wk, cmdX_eq, List.length_map, Int.toNat_natCast, oG_app, oG_len, oG_last, oG_lset, oG_0]; (first | refine splitB (fun hq => ?_) (fun hq => ?_) | refine splitN (fun hq => ?_) (fun hq => ?_) | (refine slc_sl (by simp only [go_sem]) rfl rfl (by first | omega | simp) (by first | omega | simp) (by simp only [go_sem]; omega) ?_) | (refine ⟨by omega, by omega, ?_⟩; first | refine row_at (by assumption) ?_ | (intro row hrow; obtain ⟨x, hx, rfl⟩ := row_inv hrow; clear hrow) | (intro row hrow)) | (refine ⟨by omega, ?_⟩; refine row_at (by assumption) ?_) | skip) <;> (refine HK _ _ rfl ?_; clear HK K))
    | refine aq0 rfl rfl ?_
    | refine aq_nil ?_
    | (refine aw_draw mixd (by kernel_rfl) ?_)
    | refine ao_appB rfl rfl rfl rfl (by first | assumption | (simp only [go_sem, ↓reduceIte, Nat.reduceEqDiff, Nat.reduceAdd, Nat.reduceLeDiff, Nat.reduceBEq, Nat.reduceMul, Int.reduceEq, Int.reduceLT, Int.reduceLE, decide_true, decide_false, Bool.not_true, Bool.not_false, e3, e9, e10, e11, wk, cmdX_eq, List.length_map, Int.toNat_natCast, oG_app, oG_len, oG_last, oG_lset, oG_0]; rfl) | (simp only [go_sem, ↓reduceIte, Nat.reduceEqDiff, Nat.reduceAdd, Nat.reduceLeDiff, Nat.reduceBEq, Nat.reduceMul, Int.reduceEq, Int.reduceLT, Int.reduceLE, decide_true, decide_false, Bool.not_true, Bool.not_false, e3, e9, e10, e11, wk, cmdX_eq, List.length_map, Int.toNat_natCast, oG_app, oG_len, oG_last, oG_lset, oG_0]; done)) (by simp) (by simp only [go_sem]; rfl) (by first | assumption | (simp only [go_sem, ↓reduceIte, Nat.reduceEqDiff, Nat.reduceAdd, Nat.reduceLeDiff, Nat.reduceBEq, Nat.reduceMul, Int.reduceEq, Int.reduceLT, Int.reduceLE, decide_true, decide_false, Bool.not_true, Bool.not_false, e3, e9, e10, e11, wk, cmdX_eq, List.length_map, Int.toNat_natCast, oG_app, oG_len, oG_last, oG_lset, oG_0]; rfl) | (simp only [go_sem, ↓reduceIte, Nat.reduceEqDiff, Nat.reduceAdd, Nat.reduceLeDiff, Nat.reduceBEq, Nat.reduceMul, Int.reduceEq, Int.reduceLT, Int.reduceLE, decide_true, decide_false, Bool.not_true, Bool.not_false, e3, e9, e10, e11, wk, cmdX_eq, List.length_map, Int.toNat_natCast, oG_app, oG_len, oG_last, oG_lset, oG_0]; done)) (by simp) (by first | assumption | exact rowsOk_nil _ | exact rowsOk_by _ | (rw [byD_cut]; exact rowsOk_by _) | (simp [rowsOk, D.one, Value.oneCell']; done)) (by first | omega | (simp; done) | (simp; omega) | (simp [byD]; omega)) ?_
    | refine ao_appNB rfl rfl rfl rfl (by simp only [go_sem]; rfl) (by first | assumption | (simp only [go_sem, ↓reduceIte, Nat.reduceEqDiff, Nat.reduceAdd, Nat.reduceLeDiff, Nat.reduceBEq, Nat.reduceMul, Int.reduceEq, Int.reduceLT, Int.reduceLE, decide_true, decide_false, Bool.not_true, Bool.not_false, e3, e9, e10, e11, wk, cmdX_eq, List.length_map, Int.toNat_natCast, oG_app, oG_len, oG_last, oG_lset, oG_0]; rfl) | (simp only [go_sem, ↓reduceIte, Nat.reduceEqDiff, Nat.reduceAdd, Nat.reduceLeDiff, Nat.reduceBEq, Nat.reduceMul, Int.reduceEq, Int.reduceLT, Int.reduceLE, decide_true, decide_false, Bool.not_true, Bool.not_false, e3, e9, e10, e11, wk, cmdX_eq, List.length_map, Int.toNat_natCast, oG_app, oG_len, oG_last, oG_lset, oG_0]; done)) (by simp) (by first | assumption | exact rowsOk_nil _ | exact rowsOk_by _ | (rw [byD_cut]; exact rowsOk_by _) | (simp [rowsOk, D.one, Value.oneCell']; done)) (by first | omega | (simp; done) | (simp; omega) | (simp [byD]; omega)) ?_
    | refine ao_appR rfl rfl rfl (by first | assumption | (simp only [go_sem, ↓reduceIte, Nat.reduceEqDiff, Nat.reduceAdd, Nat.reduceLeDiff, Nat.reduceBEq, Nat.reduceMul, Int.reduceEq, Int.reduceLT, Int.reduceLE, decide_true, decide_false, Bool.not_true, Bool.not_false, e3, e9, e10, e11, wk, cmdX_eq, List.length_map, Int.toNat_natCast, oG_app, oG_len, oG_last, oG_lset, oG_0]; rfl) | (simp only [go_sem, ↓reduceIte, Nat.reduceEqDiff, Nat.reduceAdd, Nat.reduceLeDiff, Nat.reduceBEq, Nat.reduceMul, Int.reduceEq, Int.reduceLT, Int.reduceLE, decide_true, decide_false, Bool.not_true, Bool.not_false, e3, e9, e10, e11, wk, cmdX_eq, List.length_map, Int.toNat_natCast, oG_app, oG_len, oG_last, oG_lset, oG_0]; done)) (by simp) (by simp only [go_sem]; rfl) rfl (by first | assumption | exact rowsOk_nil _ | exact rowsOk_by _ | (rw [byD_cut]; exact rowsOk_by _) | (simp [rowsOk, D.one, Value.oneCell']; done)) (by first | omega | (simp; done) | (simp; omega) | (simp [byD]; omega)) ?_
    | refine ao_appNR rfl rfl rfl (by simp only [go_sem]; rfl) rfl (by first | assumption | exact rowsOk_nil _ | exact rowsOk_by _ | (rw [byD_cut]; exact rowsOk_by _) | (simp [rowsOk, D.one, Value.oneCell']; done)) (by first | omega | (simp; done) | (simp; omega) | (simp [byD]; omega)) ?_
    | refine ao0 rfl rfl ?_
    | refine aq2 rfl rfl rfl ent_41 (clone_d G hG x hxo _) ?_
    | (refine ao2 rfl rfl rfl ent_41 (clone_d G hG x hxo _) ?_; rintro _ _ ⟨rfl, rfl⟩)
    | (refine ao1' rfl fun K HK => ?_; simp only [go_sem, ↓reduceIte, Nat.reduceEqDiff, Nat.reduceAdd, Nat.reduceLeDiff, Nat.reduceBEq, Nat.reduceMul, Int.reduceEq, Int.reduceLT, Int.reduceLE, decide_true, decide_false, Bool.not_true, Bool.not_false, e3, e9, e10, e11, wk, cmdX_eq, List.length_map, Int.toNat_natCast, oG_app, oG_len, oG_last, oG_lset, oG_0]; refine HK _ _ ?_; clear HK K)
    | refine ao0' rfl ?_
    | refine aw_if1 rfl ?_
    | refine aw_if0 rfl ?_
    | refine aw_skip ?_
    | refine aw_exit ?_
    | refine aw_ret ?_
    | refine thenS_n ?_
    | refine thenS_x ?_
    | refine thenS_r ?_
    | refine inB_n ?_
    | refine inB_r ?_
    | refine inB_x ?_
    | refine inB_y rfl ?_
    | (exfalso; omega)
   exact ⟨rfl, l.length - (k + 1), by omega, k + 1, _, by omega, rfl, by
    show (oG rows _).set 0 (.buf 40 6 (rows.set (Int.toNat (k : Int)) (putL zeC 0 (cmdX x)))) = _
    rw [putL_z, Int.toNat_natCast, hset]; rfl, e3, e9, e10, rfl⟩
 · have hr : (l.take k).map cmdX ++ List.replicate (l.length - k) zeC = l.map cmdX := by rw [List.take_of_length_le (by omega), show l.length - k = 0 by omega]; simp
   rw [hr]
   repeat' first
    | (refine ao_callK rfl rfl rfl (by kernel_rfl) (hle ▸ compact_at G hG l' hl' (by omega) oG_0) ?_; rintro _ r ⟨rows, rfl, h1, h2, h3⟩; rw [ofL_is hl hp hs] at h2 h3; rw [oG_s0])
    | (refine ao_callK rfl rfl rfl (by kernel_rfl) (sortC G hG l hl (by omega) oG_0) ?_; rintro _ _ ⟨l', hp, hs, rfl, rfl⟩; rw [oG_s0]; have hl' : OkL l' := fun c hc => hl c (hp.mem_iff.1 hc); have hle := hp.length_eq)
    | refine aw_seq' ?_
    | refine aw_region' ?_
    | refine aw_block ?_
    | refine ao_nil ?_
    | (refine ao1 rfl rfl fun K HK => ?_; (try refine aOp_pick rfl ?_); simp only [go_sem, ↓reduceIte, Nat.reduceEqDiff, Nat.reduceAdd, Nat.reduceLeDiff, Nat.reduceBEq, Nat.reduceMul, Int.reduceEq, Int.reduceLT, Int.reduceLE, decide_true, decide_false, Bool.not_true, Bool.not_false, e3, e9, e10, e11, List.length_map]; (first | refine splitB (fun hq => ?_) (fun hq => ?_) | refine splitN (fun hq => ?_) (fun hq => ?_) | (refine slc_sl (by simp only [go_sem]) rfl rfl (by first | omega | simp) (by first | omega | simp) (by simp only [go_sem]; omega) ?_) | (refine ⟨by omega, by omega, ?_⟩; first | refine row_at (by assumption) ?_ | (intro row hrow; obtain ⟨x, hx, rfl⟩ := row_inv hrow; clear hrow) | (intro row hrow)) | (refine ⟨by omega, ?_⟩; refine row_at (by assumption) ?_) | skip) <;> (refine HK _ _ ?_; clear HK K))
    | (refine aq1 rfl rfl fun K HK => ?_; (try refine aOp_pick rfl ?_); simp only [go_sem, ↓reduceIte, Nat.reduceEqDiff, Nat.reduceAdd, Nat.reduceLeDiff, Nat.reduceBEq, Nat.reduceMul, Int.reduceEq, Int.reduceLT, Int.reduceLE, decide_true, decide_false, Bool.not_true, Bool.not_false, e3, e9, e10, e11, List.length_map]; (first | refine splitB (fun hq => ?_) (fun hq => ?_) | refine splitN (fun hq => ?_) (fun hq => ?_) | (refine slc_sl (by simp only [go_sem]) rfl rfl (by first | omega | simp) (by first | omega | simp) (by simp only [go_sem]; omega) ?_) | (refine ⟨by omega, by omega, ?_⟩; first | refine row_at (by assumption) ?_ | (intro row hrow; obtain ⟨x, hx, rfl⟩ := row_inv hrow; clear hrow) | (intro row hrow)) | (refine ⟨by omega, ?_⟩; refine row_at (by assumption) ?_) | skip) <;> (refine HK _ _ rfl ?_; clear HK K))
    | refine aq0 rfl rfl ?_
    | refine aq_nil ?_
    | (refine aw_draw mixd (by kernel_rfl) ?_)
    | refine ao_appB rfl rfl rfl rfl (by first | assumption | (simp only [go_sem, ↓reduceIte, Nat.reduceEqDiff, Nat.reduceAdd, Nat.reduceLeDiff, Nat.reduceBEq, Nat.reduceMul, Int.reduceEq, Int.reduceLT, Int.reduceLE, decide_true, decide_false, Bool.not_true, Bool.not_false, e3, e9, e10, e11, List.length_map]; rfl) | (simp only [go_sem, ↓reduceIte, Nat.reduceEqDiff, Nat.reduceAdd, Nat.reduceLeDiff, Nat.reduceBEq, Nat.reduceMul, Int.reduceEq, Int.reduceLT, Int.reduceLE, decide_true, decide_false, Bool.not_true, Bool.not_false, e3, e9, e10, e11, List.length_map]; done)) (by simp) (by simp only [go_sem]; rfl) (by first | assumption | (simp only [go_sem, ↓reduceIte, Nat.reduceEqDiff, Nat.reduceAdd, Nat.reduceLeDiff, Nat.reduceBEq, Nat.reduceMul, Int.reduceEq, Int.reduceLT, Int.reduceLE, decide_true, decide_false, Bool.not_true, Bool.not_false, e3, e9, e10, e11, List.length_map]; rfl) | (simp only [go_sem, ↓reduceIte, Nat.reduceEqDiff, Nat.reduceAdd, Nat.reduceLeDiff, Nat.reduceBEq, Nat.reduceMul, Int.reduceEq, Int.reduceLT, Int.reduceLE, decide_true, decide_false, Bool.not_true, Bool.not_false, e3, e9, e10, e11, List.length_map]; done)) (by simp) (by first | assumption | exact rowsOk_nil _ | exact rowsOk_by _ | (rw [byD_cut]; exact rowsOk_by _) | (simp [rowsOk, D.one, Value.oneCell']; done)) (by first | omega | (simp; done) | (simp; omega) | (simp [byD]; omega)) ?_
    | refine ao_appNB rfl rfl rfl rfl (by simp only [go_sem]; rfl) (by first | assumption | (simp only [go_sem, ↓reduceIte, Nat.reduceEqDiff, Nat.reduceAdd, Nat.reduceLeDiff, Nat.reduceBEq, Nat.reduceMul, Int.reduceEq, Int.reduceLT, Int.reduceLE, decide_true, decide_false, Bool.not_true, Bool.not_false, e3, e9, e10, e11, List.length_map]; rfl) | (simp only [go_sem, ↓reduceIte, Nat.reduceEqDiff, Nat.reduceAdd, Nat.reduceLeDiff, Nat.reduceBEq, Nat.reduceMul, Int.reduceEq, Int.reduceLT, Int.reduceLE, decide_true, decide_false, Bool.not_true, Bool.not_false, e3, e9, e10, e11, List.length_map]; done)) (by simp) (by first | assumption | exact rowsOk_nil _ | exact rowsOk_by _ | (rw [byD_cut]; exact rowsOk_by _) | (simp [rowsOk, D.one, Value.oneCell']; done)) (by first | omega | (simp; done) | (simp; omega) | (simp [byD]; omega)) ?_
    | refine ao_appR rfl rfl rfl (by first | assumption | (simp only [go_sem, ↓reduceIte, Nat.reduceEqDiff, Nat.reduceAdd, Nat.reduceLeDiff, Nat.reduceBEq, Nat.reduceMul, Int.reduceEq, Int.reduceLT, Int.reduceLE, decide_true, decide_false, Bool.not_true, Bool.not_false, e3, e9, e10, e11, List.length_map]; rfl) | (simp only [go_sem, ↓reduceIte, Nat.reduceEqDiff, Nat.reduceAdd, Nat.reduceLeDiff, Nat.reduceBEq, Nat.reduceMul, Int.reduceEq, Int.reduceLT, Int.reduceLE, decide_true, decide_false, Bool.not_true, Bool.not_false, e3, e9, e10, e11, List.length_map]; done)) (by simp) (by simp only [go_sem]; rfl) rfl (by first | assumption | exact rowsOk_nil _ | exact rowsOk_by _ | (rw [byD_cut]; exact rowsOk_by _) | (simp [rowsOk, D.one, Value.oneCell']; done)) (by first | omega | (simp; done) | (simp; omega) | (simp [byD]; omega)) ?_
    | refine ao_appNR rfl rfl rfl (by simp only [go_sem]; rfl) rfl (by first | assumption | exact rowsOk_nil _ | exact rowsOk_by _ | (rw [byD_cut]; exact rowsOk_by _) | (simp [rowsOk, D.one, Value.oneCell']; done)) (by first | omega | (simp; done) | (simp; omega) | (simp [byD]; omega)) ?_
    | refine ao0 rfl rfl ?_
    | (refine ao1' rfl fun K HK => ?_; simp only [go_sem, ↓reduceIte, Nat.reduceEqDiff, Nat.reduceAdd, Nat.reduceLeDiff, Nat.reduceBEq, Nat.reduceMul, Int.reduceEq, Int.reduceLT, Int.reduceLE, decide_true, decide_false, Bool.not_true, Bool.not_false, e3, e9, e10, e11, List.length_map]; refine HK _ _ ?_; clear HK K)
    | refine ao0' rfl ?_
    | refine aw_if1 rfl ?_
    | refine aw_if0 rfl ?_
    | refine aw_skip ?_
    | refine aw_exit ?_
    | refine aw_ret ?_
    | refine thenS_n ?_
    | refine thenS_x ?_
    | refine thenS_r ?_
    | refine inB_n ?_
    | refine inB_r ?_
    | refine inB_x ?_
    | refine inB_y rfl ?_
    | (exfalso; omega)
   refine ⟨.inr rfl, [r], rfl, rows, rfl, h1, h2, ?_⟩
   rcases h3 with h3 | ⟨h3, h4⟩
   · exact .inl h3
   · exact .inr ⟨h3, by rw [h4, hle]⟩
theorem of_d (l : List Cmd) (hl : OkL l) (hsz : l.length ≤ 1000) (h : List Ob) : Does Tryz.prog G 14 h [.sl 6 (l.map cmdX)] (fun h' r => h' = h ++ [.buf 40 6 ((ofL l).map cmdX)] ∧ r = .buf h.length (ofL l).length) := does_newR hG (low_cms _ _) (by rw [lowL, lowL]; exact ⟨low_cms _ _, trivial⟩) (of0 G hG l hl hsz) h
theorem of_s (l : List Cmd) (hl : OkL l) (hsz : l.length ≤ 1000) (h : List Ob) : Does Tryz.prog G 14 h [.sl 6 (l.map cmdX)] (fun h' r => h' = h ∧ r = .sl 6 ((ofL l).map cmdX)) := Does.gave0 hG (low_cms _ _) (by rw [lowL, lowL]; exact ⟨low_cms _ _, trivial⟩) (List.length_map _) (of0 G hG l hl hsz) h
end
section
set_option maxRecDepth 100000
set_option maxHeartbeats 2000000
attribute [local irreducible] on aOp
attribute [local simp] byD_len
theorem ao_mkf {P : Program} {G : Nat → D} {n : Nat} {e : Nat → D} {h : List Ob} {ops : Array Oper} {rest : List Oper} {Q : S → Prop} {t : Nat} {ty : TypeId} {pos : String} {aft : Array Edge} {gd : Option (Nat × Bool)} {f : FuncId} {caps : Array Operand} (hw : wantedD ops gd e = some true) (ht : decide (t < n) = true)
 (q : ao P G ops rest Q ⟨n, upd e t (.fn f (caps.toList.map (ev G e))), h⟩) : ao P G ops (⟨some t, .makeFunc (.func f) #[] caps, ty, pos, aft, gd⟩ :: rest) Q ⟨n, e, h⟩ := by
 have hN : nF P G e h (.makeFunc (.func f) #[] caps) = some (h, .fn f (caps.toList.map (ev G e))) := rfl
 refine ao_tri hw (nF_sound hN) ?_
 unfold putE
 simp only [if_pos (of_decide_eq_true ht)]
 exact q
def Tells (G : Nat → D) (g : FuncId) (caps : List D) (p : Cmd → Bool) (l : List Cmd) (h : List Ob) : Prop := ∀ c ∈ l, Does Tryz.prog G g h (.agg (cmdX c) :: caps) (fun h' r => h' = h ∧ r = .v (.bool (p c)))
def Found (p : Cmd → Bool) (l : List Cmd) (z : Int) : Prop := (z = -1 ∧ ∀ c ∈ l, p c = false) ∨ ∃ (k : Nat) (c : Cmd), z = k ∧ l[k]? = some c ∧ p c = true ∧ ∀ y ∈ l.take k, p y = false
theorem take_all {p : Cmd → Bool} {l : List Cmd} {k : Nat} {x : Cmd} (h : ∀ y ∈ l.take k, p y = false) (hx : l[k]? = some x) (q : p x = false) : ∀ y ∈ l.take (k + 1), p y = false := by
 rw [List.take_add_one, hx]
 intro y hy
 rcases List.mem_append.1 hy with hy | hy
 · exact h y hy
 · simp at hy; rw [hy]; exact q
variable (G : Nat → D) (hG : ∀ g, low 0 (G g))
theorem index_b (l : List Cmd) (p : Cmd → Bool) (g : FuncId) (caps : List D) (he : entB Tryz.prog g = true) (hsz : l.length ≤ 1000000) (T : List Ob) (ht : Tells G g caps p l (oG (l.map cmdX) T)) :
 Does Tryz.prog G 81 (oG (l.map cmdX) T) [.buf 0 l.length, .fn g caps] (fun h' r => h' = oG (l.map cmdX) T ∧ ∃ z, r = .v (.int .i64 z) ∧ Found p l z) := by
 refine does_keep Tryz.func81 rfl (Nat.le_of_ble_eq_true rfl) ?_
 simp only [Tryz.ntmps81]
 repeat' first
  | refine aw_seq' ?_
  | refine aw_region' ?_
  | refine aw_block ?_
  | refine ao_nil ?_
  | (refine ao1 rfl rfl fun K HK => ?_; (try refine aOp_pick rfl ?_); simp only [go_sem, ↓reduceIte, Nat.reduceEqDiff, Nat.reduceAdd, Nat.reduceLeDiff, Nat.reduceBEq, Nat.reduceMul, Int.reduceEq, Int.reduceLT, Int.reduceLE, decide_true, decide_false, Bool.not_true, Bool.not_false, List.length_map]; (first | refine splitB (fun hq => ?_) (fun hq => ?_) | refine splitN (fun hq => ?_) (fun hq => ?_) | (refine slc_sl (by simp only [go_sem]) rfl rfl (by first | omega | simp) (by first | omega | simp) (by simp only [go_sem]; omega) ?_) | (refine ⟨by omega, by omega, ?_⟩; first | refine row_at (by assumption) ?_ | (intro row hrow; obtain ⟨x, hx, rfl⟩ := row_inv hrow; clear hrow) | (intro row hrow)) | (refine ⟨by omega, ?_⟩; refine row_at (by assumption) ?_) | skip) <;> (refine HK _ _ ?_; clear HK K))
  | (refine aq1 rfl rfl fun K HK => ?_; (try refine aOp_pick rfl ?_); simp only [go_sem, ↓reduceIte, Nat.reduceEqDiff, Nat.reduceAdd, Nat.reduceLeDiff, Nat.reduceBEq, Nat.reduceMul, Int.reduceEq, Int.reduceLT, Int.reduceLE, decide_true, decide_false, Bool.not_true, Bool.not_false, List.length_map]; (first | refine splitB (fun hq => ?_) (fun hq => ?_) | refine splitN (fun hq => ?_) (fun hq => ?_) | (refine slc_sl (by simp only [go_sem]) rfl rfl (by first | omega | simp) (by first | omega | simp) (by simp only [go_sem]; omega) ?_) | (refine ⟨by omega, by omega, ?_⟩; first | refine row_at (by assumption) ?_ | (intro row hrow; obtain ⟨x, hx, rfl⟩ := row_inv hrow; clear hrow) | (intro row hrow)) | (refine ⟨by omega, ?_⟩; refine row_at (by assumption) ?_) | skip) <;> (refine HK _ _ rfl ?_; clear HK K))
  | refine aq0 rfl rfl ?_
  | refine aq_nil ?_
  | (refine aw_draw mixd (by kernel_rfl) ?_)
  | refine ao_appB rfl rfl rfl rfl (by first | assumption | (simp only [go_sem, ↓reduceIte, Nat.reduceEqDiff, Nat.reduceAdd, Nat.reduceLeDiff, Nat.reduceBEq, Nat.reduceMul, Int.reduceEq, Int.reduceLT, Int.reduceLE, decide_true, decide_false, Bool.not_true, Bool.not_false, List.length_map]; rfl) | (simp only [go_sem, ↓reduceIte, Nat.reduceEqDiff, Nat.reduceAdd, Nat.reduceLeDiff, Nat.reduceBEq, Nat.reduceMul, Int.reduceEq, Int.reduceLT, Int.reduceLE, decide_true, decide_false, Bool.not_true, Bool.not_false, List.length_map]; done)) (by simp) (by simp only [go_sem]; rfl) (by first | assumption | (simp only [go_sem, ↓reduceIte, Nat.reduceEqDiff, Nat.reduceAdd, Nat.reduceLeDiff, Nat.reduceBEq, Nat.reduceMul, Int.reduceEq, Int.reduceLT, Int.reduceLE, decide_true, decide_false, Bool.not_true, Bool.not_false, List.length_map]; rfl) | (simp only [go_sem, ↓reduceIte, Nat.reduceEqDiff, Nat.reduceAdd, Nat.reduceLeDiff, Nat.reduceBEq, Nat.reduceMul, Int.reduceEq, Int.reduceLT, Int.reduceLE, decide_true, decide_false, Bool.not_true, Bool.not_false, List.length_map]; done)) (by simp) (by first | assumption | exact rowsOk_nil _ | exact rowsOk_by _ | (rw [byD_cut]; exact rowsOk_by _) | (simp [rowsOk, D.one, Value.oneCell']; done)) (by first | omega | (simp; done) | (simp; omega) | (simp [byD]; omega)) ?_
  | refine ao_appNB rfl rfl rfl rfl (by simp only [go_sem]; rfl) (by first | assumption | (simp only [go_sem, ↓reduceIte, Nat.reduceEqDiff, Nat.reduceAdd, Nat.reduceLeDiff, Nat.reduceBEq, Nat.reduceMul, Int.reduceEq, Int.reduceLT, Int.reduceLE, decide_true, decide_false, Bool.not_true, Bool.not_false, List.length_map]; rfl) | (simp only [go_sem, ↓reduceIte, Nat.reduceEqDiff, Nat.reduceAdd, Nat.reduceLeDiff, Nat.reduceBEq, Nat.reduceMul, Int.reduceEq, Int.reduceLT, Int.reduceLE, decide_true, decide_false, Bool.not_true, Bool.not_false, List.length_map]; done)) (by simp) (by first | assumption | exact rowsOk_nil _ | exact rowsOk_by _ | (rw [byD_cut]; exact rowsOk_by _) | (simp [rowsOk, D.one, Value.oneCell']; done)) (by first | omega | (simp; done) | (simp; omega) | (simp [byD]; omega)) ?_
  | refine ao_appR rfl rfl rfl (by first | assumption | (simp only [go_sem, ↓reduceIte, Nat.reduceEqDiff, Nat.reduceAdd, Nat.reduceLeDiff, Nat.reduceBEq, Nat.reduceMul, Int.reduceEq, Int.reduceLT, Int.reduceLE, decide_true, decide_false, Bool.not_true, Bool.not_false, List.length_map]; rfl) | (simp only [go_sem, ↓reduceIte, Nat.reduceEqDiff, Nat.reduceAdd, Nat.reduceLeDiff, Nat.reduceBEq, Nat.reduceMul, Int.reduceEq, Int.reduceLT, Int.reduceLE, decide_true, decide_false, Bool.not_true, Bool.not_false, List.length_map]; done)) (by simp) (by simp only [go_sem]; rfl) rfl (by first | assumption | exact rowsOk_nil _ | exact rowsOk_by _ | (rw [byD_cut]; exact rowsOk_by _) | (simp [rowsOk, D.one, Value.oneCell']; done)) (by first | omega | (simp; done) | (simp; omega) | (simp [byD]; omega)) ?_
  | refine ao_appNR rfl rfl rfl (by simp only [go_sem]; rfl) rfl (by first | assumption | exact rowsOk_nil _ | exact rowsOk_by _ | (rw [byD_cut]; exact rowsOk_by _) | (simp [rowsOk, D.one, Value.oneCell']; done)) (by first | omega | (simp; done) | (simp; omega) | (simp [byD]; omega)) ?_
  | refine ao0 rfl rfl ?_
  | (refine ao1' rfl fun K HK => ?_; simp only [go_sem, ↓reduceIte, Nat.reduceEqDiff, Nat.reduceAdd, Nat.reduceLeDiff, Nat.reduceBEq, Nat.reduceMul, Int.reduceEq, Int.reduceLT, Int.reduceLE, decide_true, decide_false, Bool.not_true, Bool.not_false, List.length_map]; refine HK _ _ ?_; clear HK K)
  | refine ao0' rfl ?_
  | refine aw_if1 rfl ?_
  | refine aw_if0 rfl ?_
  | refine aw_skip ?_
  | refine aw_exit ?_
  | refine aw_ret ?_
  | refine thenS_n ?_
  | refine thenS_x ?_
  | refine thenS_r ?_
  | refine inB_n ?_
  | refine inB_r ?_
  | refine inB_x ?_
  | refine inB_y rfl ?_
  | (exfalso; omega)
 refine aw_for (fun m e h' => ∃ k : Nat, k ≤ l.length ∧ m = l.length - k ∧ (∀ y ∈ l.take k, p y = false) ∧ h' = oG (l.map cmdX) T ∧ e 0 = .buf 0 l.length ∧ e 1 = .fn g caps ∧ e 7 = .v (.int .i64 l.length) ∧ e 8 = .v (.int .i64 k)) l.length ⟨0, Nat.zero_le _, rfl, by simp, rfl, rfl, rfl, rfl, rfl⟩ ?_
 rintro m e h' ⟨k, hk, rfl, ha, rfl, e0, e1, e7, e8⟩
 by_cases hlt : k < l.length
 · have hx : l[k]? = some l[k] := List.getElem?_eq_getElem hlt
   have hxm := List.getElem_mem hlt
   generalize l[k] = x at hx hxm
   have wk : IntKind.i64.wrap ((k : Int) + 1) = (k : Int) + 1 := IntWalk.i64_in _ (by omega)
   have hxr : (l.map cmdX)[((k : Nat) : Int).toNat]? = some (cmdX x) := by rw [Int.toNat_natCast, List.getElem?_map, hx]; rfl
   have hc := ht x hxm
   cases hpx : p x
   · rw [hpx] at hc
     repeat' first
      | (refine ao_loadB rfl rfl rfl oG_0 (List.length_map _) hxr (getC _) ?_)
      | (refine ao_idxB rfl rfl rfl rfl oG_0 (List.length_map _) (by rw [elT_22]; exact szT_40) (by omega) (by omega) ?_)
      | (refine ao_callK rfl rfl rfl he hc ?_; rintro _ _ ⟨rfl, rfl⟩)
      | refine aw_seq' ?_
      | refine aw_region' ?_
      | refine aw_block ?_
      | refine ao_nil ?_
      | (refine ao1 rfl rfl fun K HK => ?_; (try refine aOp_pick rfl ?_); simp only [go_sem, ↓reduceIte, Nat.reduceEqDiff, Nat.reduceAdd, Nat.reduceLeDiff, Nat.reduceBEq, Nat.reduceMul, Int.reduceEq, Int.reduceLT, Int.reduceLE, decide_true, decide_false, Bool.not_true, Bool.not_false, e0, e1, e7, e8, List.length_map, wk]; (first | refine splitB (fun hq => ?_) (fun hq => ?_) | refine splitN (fun hq => ?_) (fun hq => ?_) | (refine slc_sl (by simp only [go_sem]) rfl rfl (by first | omega | simp) (by first | omega | simp) (by simp only [go_sem]; omega) ?_) | (refine ⟨by omega, by omega, ?_⟩; first | refine row_at (by assumption) ?_ | (intro row hrow; obtain ⟨x, hx, rfl⟩ := row_inv hrow; clear hrow) | (intro row hrow)) | (refine ⟨by omega, ?_⟩; refine row_at (by assumption) ?_) | skip) <;> (refine HK _ _ ?_; clear HK K))
      | (refine aq1 rfl rfl fun K HK => ?_; (try refine aOp_pick rfl ?_); simp only [go_sem, ↓reduceIte, Nat.reduceEqDiff, Nat.reduceAdd, Nat.reduceLeDiff, Nat.reduceBEq, Nat.reduceMul, Int.reduceEq, Int.reduceLT, Int.reduceLE, decide_true, decide_false, Bool.not_true, Bool.not_false, e0, e1, e7, e8, List.length_map, wk]; (first | refine splitB (fun hq => ?_) (fun hq => ?_) | refine splitN (fun hq => ?_) (fun hq => ?_) | (refine slc_sl (by simp only [go_sem]) rfl rfl (by first | omega | simp) (by first | omega | simp) (by simp only [go_sem]; omega) ?_) | (refine ⟨by omega, by omega, ?_⟩; first | refine row_at (by assumption) ?_ | (intro row hrow; obtain ⟨x, hx, rfl⟩ := row_inv hrow; clear hrow) | (intro row hrow)) | (refine ⟨by omega, ?_⟩; refine row_at (by assumption) ?_) | skip) <;> (refine HK _ _ rfl ?_; clear HK K))
      | refine aq0 rfl rfl ?_
      | refine aq_nil ?_
      | (refine aw_draw mixd (by kernel_rfl) ?_)
      | refine ao_appB rfl rfl rfl rfl (by first | assumption | (simp only [go_sem, ↓reduceIte, Nat.reduceEqDiff, Nat.reduceAdd, Nat.reduceLeDiff, Nat.reduceBEq, Nat.reduceMul, Int.reduceEq, Int.reduceLT, Int.reduceLE, decide_true, decide_false, Bool.not_true, Bool.not_false, e0, e1, e7, e8, List.length_map, wk]; rfl) | (simp only [go_sem, ↓reduceIte, Nat.reduceEqDiff, Nat.reduceAdd, Nat.reduceLeDiff, Nat.reduceBEq, Nat.reduceMul, Int.reduceEq, Int.reduceLT, Int.reduceLE, decide_true, decide_false, Bool.not_true, Bool.not_false, e0, e1, e7, e8, List.length_map, wk]; done)) (by simp) (by simp only [go_sem]; rfl) (by first | assumption | (simp only [go_sem, ↓reduceIte, Nat.reduceEqDiff, Nat.reduceAdd, Nat.reduceLeDiff, Nat.reduceBEq, Nat.reduceMul, Int.reduceEq, Int.reduceLT, Int.reduceLE, decide_true, decide_false, Bool.not_true, Bool.not_false, e0, e1, e7, e8, List.length_map, wk]; rfl) | (simp only [go_sem, ↓reduceIte, Nat.reduceEqDiff, Nat.reduceAdd, Nat.reduceLeDiff, Nat.reduceBEq, Nat.reduceMul, Int.reduceEq, Int.reduceLT, Int.reduceLE, decide_true, decide_false, Bool.not_true, Bool.not_false, e0, e1, e7, e8, List.length_map, wk]; done)) (by simp) (by first | assumption | exact rowsOk_nil _ | exact rowsOk_by _ | (rw [byD_cut]; exact rowsOk_by _) | (simp [rowsOk, D.one, Value.oneCell']; done)) (by first | omega | (simp; done) | (simp; omega) | (simp [byD]; omega)) ?_
      | refine ao_appNB rfl rfl rfl rfl (by simp only [go_sem]; rfl) (by first | assumption | (simp only [go_sem, ↓reduceIte, Nat.reduceEqDiff, Nat.reduceAdd, Nat.reduceLeDiff, Nat.reduceBEq, Nat.reduceMul, Int.reduceEq, Int.reduceLT, Int.reduceLE, decide_true, decide_false, Bool.not_true, Bool.not_false, e0, e1, e7, e8, List.length_map, wk]; rfl) | (simp only [go_sem, ↓reduceIte, Nat.reduceEqDiff, Nat.reduceAdd, Nat.reduceLeDiff, Nat.reduceBEq, Nat.reduceMul, Int.reduceEq, Int.reduceLT, Int.reduceLE, decide_true, decide_false, Bool.not_true, Bool.not_false, e0, e1, e7, e8, List.length_map, wk]; done)) (by simp) (by first | assumption | exact rowsOk_nil _ | exact rowsOk_by _ | (rw [byD_cut]; exact rowsOk_by _) | (simp [rowsOk, D.one, Value.oneCell']; done)) (by first | omega | (simp; done) | (simp; omega) | (simp [byD]; omega)) ?_
      | refine ao_appR rfl rfl rfl (by first | assumption | (simp only [go_sem, ↓reduceIte, Nat.reduceEqDiff, Nat.reduceAdd, Nat.reduceLeDiff, Nat.reduceBEq, Nat.reduceMul, Int.reduceEq, Int.reduceLT, Int.reduceLE, decide_true, decide_false, Bool.not_true, Bool.not_false, e0, e1, e7, e8, List.length_map, wk]; rfl) | (simp only [go_sem, ↓reduceIte, Nat.reduceEqDiff, Nat.reduceAdd, Nat.reduceLeDiff, Nat.reduceBEq, Nat.reduceMul, Int.reduceEq, Int.reduceLT, Int.reduceLE, decide_true, decide_false, Bool.not_true, Bool.not_false, e0, e1, e7, e8, List.length_map, wk]; done)) (by simp) (by simp only [go_sem]; rfl) rfl (by first | assumption | exact rowsOk_nil _ | exact rowsOk_by _ | (rw [byD_cut]; exact rowsOk_by _) | (simp [rowsOk, D.one, Value.oneCell']; done)) (by first | omega | (simp; done) | (simp; omega) | (simp [byD]; omega)) ?_
      | refine ao_appNR rfl rfl rfl (by simp only [go_sem]; rfl) rfl (by first | assumption | exact rowsOk_nil _ | exact rowsOk_by _ | (rw [byD_cut]; exact rowsOk_by _) | (simp [rowsOk, D.one, Value.oneCell']; done)) (by first | omega | (simp; done) | (simp; omega) | (simp [byD]; omega)) ?_
      | refine ao0 rfl rfl ?_
      | (refine ao1' rfl fun K HK => ?_; simp only [go_sem, ↓reduceIte, Nat.reduceEqDiff, Nat.reduceAdd, Nat.reduceLeDiff, Nat.reduceBEq, Nat.reduceMul, Int.reduceEq, Int.reduceLT, Int.reduceLE, decide_true, decide_false, Bool.not_true, Bool.not_false, e0, e1, e7, e8, List.length_map, wk]; refine HK _ _ ?_; clear HK K)
      | refine ao0' rfl ?_
      | refine aw_if1 rfl ?_
      | refine aw_if0 rfl ?_
      | refine aw_skip ?_
      | refine aw_exit ?_
      | refine aw_ret ?_
      | refine thenS_n ?_
      | refine thenS_x ?_
      | refine thenS_r ?_
      | refine inB_n ?_
      | refine inB_r ?_
      | refine inB_x ?_
      | refine inB_y rfl ?_
      | (exfalso; omega)
     exact ⟨rfl, l.length - (k + 1), by omega, k + 1, by omega, rfl, take_all ha hx hpx, rfl, e0, e1, e7, rfl⟩
   · rw [hpx] at hc
     repeat' first
      | (refine ao_loadB rfl rfl rfl oG_0 (List.length_map _) hxr (getC _) ?_)
      | (refine ao_idxB rfl rfl rfl rfl oG_0 (List.length_map _) (by rw [elT_22]; exact szT_40) (by omega) (by omega) ?_)
      | (refine ao_callK rfl rfl rfl he hc ?_; rintro _ _ ⟨rfl, rfl⟩)
      | refine aw_seq' ?_
      | refine aw_region' ?_
      | refine aw_block ?_
      | refine ao_nil ?_
      | (refine ao1 rfl rfl fun K HK => ?_; (try refine aOp_pick rfl ?_); simp only [go_sem, ↓reduceIte, Nat.reduceEqDiff, Nat.reduceAdd, Nat.reduceLeDiff, Nat.reduceBEq, Nat.reduceMul, Int.reduceEq, Int.reduceLT, Int.reduceLE, decide_true, decide_false, Bool.not_true, Bool.not_false, e0, e1, e7, e8, List.length_map, wk]; (first | refine splitB (fun hq => ?_) (fun hq => ?_) | refine splitN (fun hq => ?_) (fun hq => ?_) | (refine slc_sl (by simp only [go_sem]) rfl rfl (by first | omega | simp) (by first | omega | simp) (by simp only [go_sem]; omega) ?_) | (refine ⟨by omega, by omega, ?_⟩; first | refine row_at (by assumption) ?_ | (intro row hrow; obtain ⟨x, hx, rfl⟩ := row_inv hrow; clear hrow) | (intro row hrow)) | (refine ⟨by omega, ?_⟩; refine row_at (by assumption) ?_) | skip) <;> (refine HK _ _ ?_; clear HK K))
      | (refine aq1 rfl rfl fun K HK => ?_; (try refine aOp_pick rfl ?_); simp only [go_sem, ↓reduceIte, Nat.reduceEqDiff, Nat.reduceAdd, Nat.reduceLeDiff, Nat.reduceBEq, Nat.reduceMul, Int.reduceEq, Int.reduceLT, Int.reduceLE, decide_true, decide_false, Bool.not_true, Bool.not_false, e0, e1, e7, e8, List.length_map, wk]; (first | refine splitB (fun hq => ?_) (fun hq => ?_) | refine splitN (fun hq => ?_) (fun hq => ?_) | (refine slc_sl (by simp only [go_sem]) rfl rfl (by first | omega | simp) (by first | omega | simp) (by simp only [go_sem]; omega) ?_) | (refine ⟨by omega, by omega, ?_⟩; first | refine row_at (by assumption) ?_ | (intro row hrow; obtain ⟨x, hx, rfl⟩ := row_inv hrow; clear hrow) | (intro row hrow)) | (refine ⟨by omega, ?_⟩; refine row_at (by assumption) ?_) | skip) <;> (refine HK _ _ rfl ?_; clear HK K))
      | refine aq0 rfl rfl ?_
      | refine aq_nil ?_
      | (refine aw_draw mixd (by kernel_rfl) ?_)
      | refine ao_appB rfl rfl rfl rfl (by first | assumption | (simp only [go_sem, ↓reduceIte, Nat.reduceEqDiff, Nat.reduceAdd, Nat.reduceLeDiff, Nat.reduceBEq, Nat.reduceMul, Int.reduceEq, Int.reduceLT, Int.reduceLE, decide_true, decide_false, Bool.not_true, Bool.not_false, e0, e1, e7, e8, List.length_map, wk]; rfl) | (simp only [go_sem, ↓reduceIte, Nat.reduceEqDiff, Nat.reduceAdd, Nat.reduceLeDiff, Nat.reduceBEq, Nat.reduceMul, Int.reduceEq, Int.reduceLT, Int.reduceLE, decide_true, decide_false, Bool.not_true, Bool.not_false, e0, e1, e7, e8, List.length_map, wk]; done)) (by simp) (by simp only [go_sem]; rfl) (by first | assumption | (simp only [go_sem, ↓reduceIte, Nat.reduceEqDiff, Nat.reduceAdd, Nat.reduceLeDiff, Nat.reduceBEq, Nat.reduceMul, Int.reduceEq, Int.reduceLT, Int.reduceLE, decide_true, decide_false, Bool.not_true, Bool.not_false, e0, e1, e7, e8, List.length_map, wk]; rfl) | (simp only [go_sem, ↓reduceIte, Nat.reduceEqDiff, Nat.reduceAdd, Nat.reduceLeDiff, Nat.reduceBEq, Nat.reduceMul, Int.reduceEq, Int.reduceLT, Int.reduceLE, decide_true, decide_false, Bool.not_true, Bool.not_false, e0, e1, e7, e8, List.length_map, wk]; done)) (by simp) (by first | assumption | exact rowsOk_nil _ | exact rowsOk_by _ | (rw [byD_cut]; exact rowsOk_by _) | (simp [rowsOk, D.one, Value.oneCell']; done)) (by first | omega | (simp; done) | (simp; omega) | (simp [byD]; omega)) ?_
      | refine ao_appNB rfl rfl rfl rfl (by simp only [go_sem]; rfl) (by first | assumption | (simp only [go_sem, ↓reduceIte, Nat.reduceEqDiff, Nat.reduceAdd, Nat.reduceLeDiff, Nat.reduceBEq, Nat.reduceMul, Int.reduceEq, Int.reduceLT, Int.reduceLE, decide_true, decide_false, Bool.not_true, Bool.not_false, e0, e1, e7, e8, List.length_map, wk]; rfl) | (simp only [go_sem, ↓reduceIte, Nat.reduceEqDiff, Nat.reduceAdd, Nat.reduceLeDiff, Nat.reduceBEq, Nat.reduceMul, Int.reduceEq, Int.reduceLT, Int.reduceLE, decide_true, decide_false, Bool.not_true, Bool.not_false, e0, e1, e7, e8, List.length_map, wk]; done)) (by simp) (by first | assumption | exact rowsOk_nil _ | exact rowsOk_by _ | (rw [byD_cut]; exact rowsOk_by _) | (simp [rowsOk, D.one, Value.oneCell']; done)) (by first | omega | (simp; done) | (simp; omega) | (simp [byD]; omega)) ?_
      | refine ao_appR rfl rfl rfl (by first | assumption | (simp only [go_sem, ↓reduceIte, Nat.reduceEqDiff, Nat.reduceAdd, Nat.reduceLeDiff, Nat.reduceBEq, Nat.reduceMul, Int.reduceEq, Int.reduceLT, Int.reduceLE, decide_true, decide_false, Bool.not_true, Bool.not_false, e0, e1, e7, e8, List.length_map, wk]; rfl) | (simp only [go_sem, ↓reduceIte, Nat.reduceEqDiff, Nat.reduceAdd, Nat.reduceLeDiff, Nat.reduceBEq, Nat.reduceMul, Int.reduceEq, Int.reduceLT, Int.reduceLE, decide_true, decide_false, Bool.not_true, Bool.not_false, e0, e1, e7, e8, List.length_map, wk]; done)) (by simp) (by simp only [go_sem]; rfl) rfl (by first | assumption | exact rowsOk_nil _ | exact rowsOk_by _ | (rw [byD_cut]; exact rowsOk_by _) | (simp [rowsOk, D.one, Value.oneCell']; done)) (by first | omega | (simp; done) | (simp; omega) | (simp [byD]; omega)) ?_
      | refine ao_appNR rfl rfl rfl (by simp only [go_sem]; rfl) rfl (by first | assumption | exact rowsOk_nil _ | exact rowsOk_by _ | (rw [byD_cut]; exact rowsOk_by _) | (simp [rowsOk, D.one, Value.oneCell']; done)) (by first | omega | (simp; done) | (simp; omega) | (simp [byD]; omega)) ?_
      | refine ao0 rfl rfl ?_
      | (refine ao1' rfl fun K HK => ?_; simp only [go_sem, ↓reduceIte, Nat.reduceEqDiff, Nat.reduceAdd, Nat.reduceLeDiff, Nat.reduceBEq, Nat.reduceMul, Int.reduceEq, Int.reduceLT, Int.reduceLE, decide_true, decide_false, Bool.not_true, Bool.not_false, e0, e1, e7, e8, List.length_map, wk]; refine HK _ _ ?_; clear HK K)
      | refine ao0' rfl ?_
      | refine aw_if1 rfl ?_
      | refine aw_if0 rfl ?_
      | refine aw_skip ?_
      | refine aw_exit ?_
      | refine aw_ret ?_
      | refine thenS_n ?_
      | refine thenS_x ?_
      | refine thenS_r ?_
      | refine inB_n ?_
      | refine inB_r ?_
      | refine inB_x ?_
      | refine inB_y rfl ?_
      | (exfalso; omega)
     exact ⟨.inr rfl, [.v (.int .i64 k)], rfl, rfl, _, rfl, .inr ⟨k, x, rfl, hx, hpx, ha⟩⟩
 · skip
   repeat' first
    | refine aw_seq' ?_
    | refine aw_region' ?_
    | refine aw_block ?_
    | refine ao_nil ?_
    | (refine ao1 rfl rfl fun K HK => ?_; (try refine aOp_pick rfl ?_); simp only [go_sem, ↓reduceIte, Nat.reduceEqDiff, Nat.reduceAdd, Nat.reduceLeDiff, Nat.reduceBEq, Nat.reduceMul, Int.reduceEq, Int.reduceLT, Int.reduceLE, decide_true, decide_false, Bool.not_true, Bool.not_false, e0, e1, e7, e8]; (first | refine splitB (fun hq => ?_) (fun hq => ?_) | refine splitN (fun hq => ?_) (fun hq => ?_) | (refine slc_sl (by simp only [go_sem]) rfl rfl (by first | omega | simp) (by first | omega | simp) (by simp only [go_sem]; omega) ?_) | (refine ⟨by omega, by omega, ?_⟩; first | refine row_at (by assumption) ?_ | (intro row hrow; obtain ⟨x, hx, rfl⟩ := row_inv hrow; clear hrow) | (intro row hrow)) | (refine ⟨by omega, ?_⟩; refine row_at (by assumption) ?_) | skip) <;> (refine HK _ _ ?_; clear HK K))
    | (refine aq1 rfl rfl fun K HK => ?_; (try refine aOp_pick rfl ?_); simp only [go_sem, ↓reduceIte, Nat.reduceEqDiff, Nat.reduceAdd, Nat.reduceLeDiff, Nat.reduceBEq, Nat.reduceMul, Int.reduceEq, Int.reduceLT, Int.reduceLE, decide_true, decide_false, Bool.not_true, Bool.not_false, e0, e1, e7, e8]; (first | refine splitB (fun hq => ?_) (fun hq => ?_) | refine splitN (fun hq => ?_) (fun hq => ?_) | (refine slc_sl (by simp only [go_sem]) rfl rfl (by first | omega | simp) (by first | omega | simp) (by simp only [go_sem]; omega) ?_) | (refine ⟨by omega, by omega, ?_⟩; first | refine row_at (by assumption) ?_ | (intro row hrow; obtain ⟨x, hx, rfl⟩ := row_inv hrow; clear hrow) | (intro row hrow)) | (refine ⟨by omega, ?_⟩; refine row_at (by assumption) ?_) | skip) <;> (refine HK _ _ rfl ?_; clear HK K))
    | refine aq0 rfl rfl ?_
    | refine aq_nil ?_
    | (refine aw_draw mixd (by kernel_rfl) ?_)
    | refine ao_appB rfl rfl rfl rfl (by first | assumption | (simp only [go_sem, ↓reduceIte, Nat.reduceEqDiff, Nat.reduceAdd, Nat.reduceLeDiff, Nat.reduceBEq, Nat.reduceMul, Int.reduceEq, Int.reduceLT, Int.reduceLE, decide_true, decide_false, Bool.not_true, Bool.not_false, e0, e1, e7, e8]; rfl) | (simp only [go_sem, ↓reduceIte, Nat.reduceEqDiff, Nat.reduceAdd, Nat.reduceLeDiff, Nat.reduceBEq, Nat.reduceMul, Int.reduceEq, Int.reduceLT, Int.reduceLE, decide_true, decide_false, Bool.not_true, Bool.not_false, e0, e1, e7, e8]; done)) (by simp) (by simp only [go_sem]; rfl) (by first | assumption | (simp only [go_sem, ↓reduceIte, Nat.reduceEqDiff, Nat.reduceAdd, Nat.reduceLeDiff, Nat.reduceBEq, Nat.reduceMul, Int.reduceEq, Int.reduceLT, Int.reduceLE, decide_true, decide_false, Bool.not_true, Bool.not_false, e0, e1, e7, e8]; rfl) | (simp only [go_sem, ↓reduceIte, Nat.reduceEqDiff, Nat.reduceAdd, Nat.reduceLeDiff, Nat.reduceBEq, Nat.reduceMul, Int.reduceEq, Int.reduceLT, Int.reduceLE, decide_true, decide_false, Bool.not_true, Bool.not_false, e0, e1, e7, e8]; done)) (by simp) (by first | assumption | exact rowsOk_nil _ | exact rowsOk_by _ | (rw [byD_cut]; exact rowsOk_by _) | (simp [rowsOk, D.one, Value.oneCell']; done)) (by first | omega | (simp; done) | (simp; omega) | (simp [byD]; omega)) ?_
    | refine ao_appNB rfl rfl rfl rfl (by simp only [go_sem]; rfl) (by first | assumption | (simp only [go_sem, ↓reduceIte, Nat.reduceEqDiff, Nat.reduceAdd, Nat.reduceLeDiff, Nat.reduceBEq, Nat.reduceMul, Int.reduceEq, Int.reduceLT, Int.reduceLE, decide_true, decide_false, Bool.not_true, Bool.not_false, e0, e1, e7, e8]; rfl) | (simp only [go_sem, ↓reduceIte, Nat.reduceEqDiff, Nat.reduceAdd, Nat.reduceLeDiff, Nat.reduceBEq, Nat.reduceMul, Int.reduceEq, Int.reduceLT, Int.reduceLE, decide_true, decide_false, Bool.not_true, Bool.not_false, e0, e1, e7, e8]; done)) (by simp) (by first | assumption | exact rowsOk_nil _ | exact rowsOk_by _ | (rw [byD_cut]; exact rowsOk_by _) | (simp [rowsOk, D.one, Value.oneCell']; done)) (by first | omega | (simp; done) | (simp; omega) | (simp [byD]; omega)) ?_
    | refine ao_appR rfl rfl rfl (by first | assumption | (simp only [go_sem, ↓reduceIte, Nat.reduceEqDiff, Nat.reduceAdd, Nat.reduceLeDiff, Nat.reduceBEq, Nat.reduceMul, Int.reduceEq, Int.reduceLT, Int.reduceLE, decide_true, decide_false, Bool.not_true, Bool.not_false, e0, e1, e7, e8]; rfl) | (simp only [go_sem, ↓reduceIte, Nat.reduceEqDiff, Nat.reduceAdd, Nat.reduceLeDiff, Nat.reduceBEq, Nat.reduceMul, Int.reduceEq, Int.reduceLT, Int.reduceLE, decide_true, decide_false, Bool.not_true, Bool.not_false, e0, e1, e7, e8]; done)) (by simp) (by simp only [go_sem]; rfl) rfl (by first | assumption | exact rowsOk_nil _ | exact rowsOk_by _ | (rw [byD_cut]; exact rowsOk_by _) | (simp [rowsOk, D.one, Value.oneCell']; done)) (by first | omega | (simp; done) | (simp; omega) | (simp [byD]; omega)) ?_
    | refine ao_appNR rfl rfl rfl (by simp only [go_sem]; rfl) rfl (by first | assumption | exact rowsOk_nil _ | exact rowsOk_by _ | (rw [byD_cut]; exact rowsOk_by _) | (simp [rowsOk, D.one, Value.oneCell']; done)) (by first | omega | (simp; done) | (simp; omega) | (simp [byD]; omega)) ?_
    | refine ao0 rfl rfl ?_
    | (refine ao1' rfl fun K HK => ?_; simp only [go_sem, ↓reduceIte, Nat.reduceEqDiff, Nat.reduceAdd, Nat.reduceLeDiff, Nat.reduceBEq, Nat.reduceMul, Int.reduceEq, Int.reduceLT, Int.reduceLE, decide_true, decide_false, Bool.not_true, Bool.not_false, e0, e1, e7, e8]; refine HK _ _ ?_; clear HK K)
    | refine ao0' rfl ?_
    | refine aw_if1 rfl ?_
    | refine aw_if0 rfl ?_
    | refine aw_skip ?_
    | refine aw_exit ?_
    | refine aw_ret ?_
    | refine thenS_n ?_
    | refine thenS_x ?_
    | refine thenS_r ?_
    | refine inB_n ?_
    | refine inB_r ?_
    | refine inB_x ?_
    | refine inB_y rfl ?_
    | (exfalso; omega)
   exact ⟨.inr rfl, [.v (.int .i64 (-1))], rfl, rfl, _, rfl, .inl ⟨rfl, by rwa [List.take_of_length_le (by omega)] at ha⟩⟩
end
end Go.Proofs.YtidpdgdakghfnaaGreat
