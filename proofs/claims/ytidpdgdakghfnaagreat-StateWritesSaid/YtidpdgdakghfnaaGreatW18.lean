/-
  What the statements of the chapter share, part 18: SC, PL, IN, OL, OF4, IX, DF, SMB, BS, ST, JO, SE, LW1, AW, BO, SS0, SS1.
-/
import Derived.Test.YtidpdgdakghfnaaGreatW11
import Derived.Test.YtidpdgdakghfnaaGreatW14
import Derived.Test.YtidpdgdakghfnaaGreatW17
import Derived.Sort.Walk0
set_option linter.unusedVariables false
set_option linter.unusedSimpArgs false
set_option maxRecDepth 100000
set_option maxHeartbeats 8000000
namespace Go.Proofs.YtidpdgdakghfnaaGreat
open Go.RowKit
section
open Go.RowKit Go.Shelf
theorem cmpC_swo : Go.Sort.SWO (ltOf cmpC) where
 irrefl x := by simp only [ltOf, decide_eq_false_iff_not, cmpC_lt]; exact LtC.irrefl x
 trans x y z h k := by
  simp only [ltOf, decide_eq_true_eq, cmpC_lt] at h k ⊢
  exact h.trans k
 ntrans x y z h k := by
  simp only [ltOf, decide_eq_false_iff_not, cmpC_lt] at h k ⊢
  intro q
  rcases cmpC_cases x y with ⟨a, _⟩ | ⟨a, _⟩ | ⟨a, _⟩
  · exact h a
  · exact k (EqC.left ⟨a.1.symm, a.2.1.symm, a.2.2.symm⟩ q)
  · exact k (a.trans q)
variable (G : Nat → D) (hG : ∀ g, low 0 (G g))
include hG
theorem sortC (l : List Cmd) (hl : ∀ c ∈ l, c.Ok) (hsz : l.length ≤ 1000000) {h : List Ob} {i : Nat} (hi : h[i]? = some (.buf 40 6 (l.map cmdX))) :
 Does Tryz.prog G 42 h [.buf i l.length, .fn 43 []] (fun h' r => ∃ l' : List Cmd, l'.Perm l ∧ l'.Pairwise (fun x y => ¬ cmpC y x < 0) ∧ h' = h.set i (.buf 40 6 (l'.map cmdX)) ∧ r = .tup []) :=
 sort_does (xX := cmdX) (okX := Cmd.Ok) (k := 6) (ρ := laysSort_ren) hG laysSort Tryz.isAgg40 Tryz.sizeOf40 (by decide) (fun _ _ => rfl) (fun c _ => one_cmd c) (fun c => low_cmd 0 c) cmpC_swo (enters_of Tryz.func43 (by kernel_rfl) rfl) (fun x y hx hy => compare_d G hG x y hx hy []) hl hsz hi
end
section
theorem EqC.symm {a b : Cmd} (h : EqC a b) : EqC b a := ⟨h.1.symm, h.2.1.symm, h.2.2.symm⟩
theorem EqC.trans {a b c : Cmd} (h : EqC a b) (k : EqC b c) : EqC a c := ⟨h.1.trans k.1, h.2.1.trans k.2.1, h.2.2.trans k.2.2⟩
theorem EqC.refl (a : Cmd) : EqC a a := ⟨rfl, rfl, rfl⟩
def SubC (a b : List Cmd) : Prop := ∀ c ∈ a, ∃ d ∈ b, EqC c d
theorem SubC.trans {a b c : List Cmd} (h : SubC a b) (k : SubC b c) : SubC a c := fun x hx => by
 obtain ⟨y, hy, e⟩ := h x hx
 obtain ⟨z, hz, f⟩ := k y hy
 exact ⟨z, hz, e.trans f⟩
theorem hasL_iff : ∀ (l : List Cmd) (c : Cmd), hasL l c = true ↔ ∃ d ∈ l, EqC d c
 | [], c => by simp [hasL]
 | x :: s, c => by
  rw [hasL, Bool.or_eq_true, decide_eq_true_eq, hasL_iff s c, cmpC_zero]
  simp
end
section
theorem uintE_inj {n m : Nat} {x y : List UInt8} (hn : n < 18446744073709551616) (hm : m < 18446744073709551616) (h : uintE n ++ x = uintE m ++ y) : n = m ∧ x = y := by
 have h1 := numF_uintE 64 n 0 x hn hn (by omega) (.inl rfl)
 have h2 := numF_uintE 64 m 0 y hm hm (by omega) (.inl rfl)
 rw [h, h2] at h1
 simp only [Option.some.injEq, Prod.mk.injEq] at h1
 obtain ⟨rfl, _⟩ := h1
 exact ⟨rfl, List.append_cancel_left h⟩
theorem intE_inj {n m : Int} {x y : List UInt8} (hn : I64 n) (hm : I64 m) (h : intE n ++ x = intE m ++ y) : n = m ∧ x = y := by
 obtain ⟨h1, h2⟩ := uintE_inj (zz_lt n hn.1 hn.2) (zz_lt m hm.1 hm.2) h
 exact ⟨by rw [← unzz_zz n, h1, unzz_zz], h2⟩
theorem bytesE_inj {a b x y : List UInt8} (ha : a.length ≤ 1000000) (hb : b.length ≤ 1000000) (h : bytesE a ++ x = bytesE b ++ y) : a = b ∧ x = y := by
 unfold bytesE at h
 rw [List.append_assoc, List.append_assoc] at h
 obtain ⟨h1, h2⟩ := uintE_inj (by omega) (by omega) h
 exact List.append_inj h2 h1
theorem textE_inj {a b : ByteArray} {x y : List UInt8} (ha : a.size ≤ 1000000) (hb : b.size ≤ 1000000) (h : textE a ++ x = textE b ++ y) : a = b ∧ x = y := by
 unfold textE at h
 rw [List.append_assoc, List.append_assoc] at h
 obtain ⟨h1, h2⟩ := uintE_inj (by omega) (by omega) h
 obtain ⟨h3, h4⟩ := List.append_inj h2 (by simpa using h1)
 exact ⟨ByteArray.ext (Array.ext' h3), h4⟩
theorem writesE_inj : ∀ (a b : List (ByteArray × List UInt8)) (x y : List UInt8), a.length = b.length → (∀ w ∈ a, w.1.size ≤ 10000 ∧ w.2.length ≤ 10000) → (∀ w ∈ b, w.1.size ≤ 10000 ∧ w.2.length ≤ 10000) → writesE a ++ x = writesE b ++ y → a = b ∧ x = y
 | [], [], x, y, _, _, _, h => ⟨rfl, by simpa [writesE] using h⟩
 | [], _ :: _, _, _, hl, _, _, _ => by simp at hl
 | _ :: _, [], _, _, hl, _, _, _ => by simp at hl
 | u :: s, v :: t, x, y, hl, ha, hb, h => by
  have e : ∀ (u : ByteArray × List UInt8) (s : List (ByteArray × List UInt8)) (x : List UInt8), writesE (u :: s) ++ x = textE u.1 ++ (bytesE u.2 ++ (writesE s ++ x)) := fun u s x => by simp [writesE]
  rw [e, e] at h
  have hu := ha u (by simp)
  have hv := hb v (by simp)
  obtain ⟨h1, h2⟩ := textE_inj (by omega) (by omega) h
  obtain ⟨h3, h4⟩ := bytesE_inj (by omega) (by omega) h2
  obtain ⟨h5, h6⟩ := writesE_inj s t x y (by simpa using hl) (fun w hw => ha w (by simp [hw])) (fun w hw => hb w (by simp [hw])) h4
  exact ⟨by rw [h5, show u = v from Prod.ext h1 h3], h6⟩
theorem encC_inj {a b : Cmd} {x y : List UInt8} (ha : a.Ok) (hb : b.Ok) (h : encC a ++ x = encC b ++ y) : a = b ∧ x = y := by
 have e : ∀ (c : Cmd) (x : List UInt8), encC c ++ x = intE c.client ++ (intE c.seq ++ (intE c.kind ++ (uintE c.writes.length ++ (writesE c.writes ++ (intE c.replica ++ (bytesE c.tag ++ x)))))) := fun c x => by simp [encC, writeC]
 rw [e, e] at h
 obtain ⟨h1, h⟩ := intE_inj ha.client hb.client h
 obtain ⟨h2, h⟩ := intE_inj ha.seq hb.seq h
 obtain ⟨h3, h⟩ := intE_inj ha.kind hb.kind h
 obtain ⟨h4, h⟩ := uintE_inj (by have := ha.many; omega) (by have := hb.many; omega) h
 obtain ⟨h5, h⟩ := writesE_inj _ _ _ _ h4 ha.each hb.each h
 obtain ⟨h6, h⟩ := intE_inj ha.replica hb.replica h
 obtain ⟨h7, h8⟩ := bytesE_inj (by have := ha.tag; omega) (by have := hb.tag; omega) h
 cases a; cases b
 simp only at h1 h2 h3 h5 h6 h7
 subst h1 h2 h3 h5 h6 h7
 exact ⟨rfl, h8⟩
theorem EqC.eq {a b : Cmd} (h : EqC a b) (ha : a.Ok) (hb : b.Ok) : a = b := (encC_inj (x := []) (y := []) ha hb (by rw [h.2.2])).1
end
section
def OkL (l : List Cmd) : Prop := ∀ c ∈ l, c.Ok
theorem OkL.app {a b : List Cmd} (ha : OkL a) (hb : OkL b) : OkL (a ++ b) := fun c hc => (List.mem_append.1 hc).elim (ha c) (hb c)
def insC (c : Cmd) : List Cmd → List Cmd
 | [] => [c]
 | y :: t => if cmpC c y < 0 then c :: y :: t else if cmpC c y = 0 then y :: t else y :: insC c t
def ofL (l : List Cmd) : List Cmd := l.foldr insC []
theorem insC_mem : ∀ (c : Cmd) (l : List Cmd) (d : Cmd), d ∈ insC c l → d = c ∨ d ∈ l
 | c, [], d, h => by simp [insC] at h; exact .inl h
 | c, y :: t, d, h => by
  rw [insC] at h
  split at h
  · simpa using h
  split at h
  · exact .inr h
  · rcases List.mem_cons.1 h with rfl | h
    · exact .inr (by simp)
    · exact (insC_mem c t d h).imp id fun h => by simp [h]
theorem insC_old : ∀ (c : Cmd) (l : List Cmd) (d : Cmd), d ∈ l → d ∈ insC c l
 | c, y :: t, d, h => by
  rw [insC]
  split
  · exact List.mem_cons_of_mem _ h
  split
  · exact h
  · rcases List.mem_cons.1 h with rfl | h
    · simp
    · exact List.mem_cons_of_mem _ (insC_old c t d h)
theorem insC_new : ∀ (c : Cmd) (l : List Cmd), c.Ok → OkL l → c ∈ insC c l
 | c, [], _, _ => by simp [insC]
 | c, y :: t, hc, hl => by
  rw [insC]
  split
  · simp
  split
  · rename_i h0
    rw [EqC.eq (cmpC_zero.1 h0) hc (hl y (by simp))]; simp
  · exact List.mem_cons_of_mem _ (insC_new c t hc fun d hd => hl d (by simp [hd]))
theorem insC_sorted : ∀ (c : Cmd) (l : List Cmd), l.Pairwise LtC → (insC c l).Pairwise LtC
 | c, [], _ => by simp [insC]
 | c, y :: t, h => by
  obtain ⟨h1, h2⟩ := List.pairwise_cons.1 h
  rw [insC]
  split
  · rename_i hlt
    have hlt := cmpC_lt.1 hlt
    refine List.pairwise_cons.2 ⟨fun d hd => ?_, h⟩
    rcases List.mem_cons.1 hd with rfl | hd
    · exact hlt
    · exact hlt.trans (h1 d hd)
  split
  · exact h
  · rename_i hlt hz
    have hy : LtC y c := by
     rcases cmpC_cases c y with ⟨a, _⟩ | ⟨a, _⟩ | ⟨a, _⟩
     · exact absurd (cmpC_lt.2 a) hlt
     · exact absurd (cmpC_zero.2 a) hz
     · exact a
    refine List.pairwise_cons.2 ⟨fun d hd => ?_, insC_sorted c t h2⟩
    rcases insC_mem c t d hd with rfl | hd
    · exact hy
    · exact h1 d hd
theorem ofL_sorted : ∀ l : List Cmd, (ofL l).Pairwise LtC
 | [] => .nil
 | c :: t => insC_sorted c _ (ofL_sorted t)
theorem ofL_sub : ∀ (l : List Cmd) (c : Cmd), c ∈ ofL l → c ∈ l
 | [], _, h => h
 | x :: t, c, h => by
  rcases insC_mem x _ c h with rfl | h
  · simp
  · exact List.mem_cons_of_mem _ (ofL_sub t c h)
theorem ofL_ok {l : List Cmd} (h : OkL l) : OkL (ofL l) := fun c hc => h c (ofL_sub l c hc)
theorem mem_ofL : ∀ {l : List Cmd} {c : Cmd}, OkL l → (c ∈ ofL l ↔ c ∈ l)
 | [], _, _ => Iff.rfl
 | x :: t, c, hl => ⟨ofL_sub _ c, fun h => by
   have ht : OkL t := fun d hd => hl d (by simp [hd])
   show c ∈ insC x (ofL t)
   rcases List.mem_cons.1 h with rfl | h
   · exact insC_new _ _ (hl _ (by simp)) (ofL_ok ht)
   · exact insC_old _ _ _ ((mem_ofL ht).2 h)⟩
theorem ofL_len : ∀ l : List Cmd, (ofL l).length ≤ l.length
 | [] => Nat.le_refl _
 | x :: t => by
  have key : ∀ (c : Cmd) (s : List Cmd), (insC c s).length ≤ s.length + 1 := fun c s => by
   induction s with
   | nil => simp [insC]
   | cons y u ih =>
    rw [insC]
    split
    · simp
    split
    · simp
    · simp only [List.length_cons]; omega
  have h1 := key x (ofL t)
  have h2 := ofL_len t
  show (insC x (ofL t)).length ≤ _
  simp only [List.length_cons]; omega
theorem sorted_ext : ∀ {a b : List Cmd}, a.Pairwise LtC → b.Pairwise LtC → (∀ c, c ∈ a ↔ c ∈ b) → a = b
 | [], [], _, _, _ => rfl
 | [], y :: t, _, _, h => by simpa using (h y).2 (by simp)
 | x :: s, [], _, _, h => by simpa using (h x).1 (by simp)
 | x :: s, y :: t, ha, hb, h => by
  obtain ⟨a1, a2⟩ := List.pairwise_cons.1 ha
  obtain ⟨b1, b2⟩ := List.pairwise_cons.1 hb
  have hxy : x = y := by
   rcases List.mem_cons.1 ((h x).1 (by simp)) with e | hx
   · exact e
   rcases List.mem_cons.1 ((h y).2 (by simp)) with e | hy
   · exact e.symm
   exact absurd ((a1 y hy).trans (b1 x hx)) (LtC.irrefl x)
  subst hxy
  rw [sorted_ext a2 b2 fun c => ⟨fun hc => ?_, fun hc => ?_⟩]
  · rcases List.mem_cons.1 ((h c).1 (by simp [hc])) with rfl | q
    · exact absurd (a1 c hc) (LtC.irrefl c)
    · exact q
  · rcases List.mem_cons.1 ((h c).2 (by simp [hc])) with rfl | q
    · exact absurd (b1 c hc) (LtC.irrefl c)
    · exact q
theorem ofL_is {l l' : List Cmd} (hl : OkL l) (hp : l'.Perm l) (hs : l'.Pairwise (fun x y => ¬ cmpC y x < 0)) : compactL l' = ofL l := by
 have hl' : OkL l' := fun c hc => hl c (hp.mem_iff.1 hc)
 refine sorted_ext (compact_sorted hs) (ofL_sorted l) fun c => ?_
 rw [mem_ofL hl, ← hp.mem_iff]
 refine ⟨compact_mem, fun h => ?_⟩
 obtain ⟨d, h1, h2⟩ := compact_has h
 rw [h2.eq (hl' c h) (hl' d (compact_mem h1))]; exact h1
theorem hasL_mem {l : List Cmd} {c : Cmd} (hl : OkL l) (hc : c.Ok) : hasL l c = true ↔ c ∈ l := by
 rw [hasL_iff]
 exact ⟨fun ⟨d, h1, h2⟩ => by rw [← h2.eq (hl d h1) hc]; exact h1, fun h => ⟨c, h, .refl c⟩⟩
def joinL (a b : List Cmd) : List Cmd := ofL (a ++ b)
def minusL (a b : List Cmd) : List Cmd := (ofL a).filter fun c => !hasL b c
end
section
set_option maxRecDepth 100000
set_option maxHeartbeats 2000000
attribute [local irreducible] on aOp
attribute [local go_sem] decide_true decide_false Bool.not_true Bool.not_false
attribute [local simp] byD_len
theorem lowR_cms (m : Nat) (l : List Cmd) : lowR m (l.map cmdX) := by have := low_cms m l; rwa [low] at this
theorem lies1 {h : List Ob} {i : Nat} {E k : Nat} {rows : List (List D)} (lr : lowR 0 rows) (hi : h[i]? = some (.buf E k rows)) : Lies (fun _ => i) [.buf E k rows] h := by
 refine ⟨fun j ob hj => ?_, fun a b ha hb _ => ?_, fun x hx => ?_⟩
 · rcases j with _ | j
   · cases hj
     simp only [renOb, renR_low0 _ _ lr]; exact hi
   · simp at hj
 · simp at ha hb; omega
 · rw [List.mem_singleton.1 hx]; exact lowR_mono (Nat.zero_le _) _ lr
variable (G : Nat → D) (hG : ∀ g, low 0 (G g))
include hG
theorem compact_at (l : List Cmd) (hl : ∀ c ∈ l, c.Ok) (hsz : l.length ≤ 1000000) {h : List Ob} {i : Nat} (hi : h[i]? = some (.buf 40 6 (l.map cmdX))) :
 Does Tryz.prog G 44 h [.buf i l.length, .fn 45 []] (fun h' r => ∃ rows, h' = h.set i (.buf 40 6 rows) ∧ rows.length = l.length ∧ rows.take (compactL l).length = (compactL l).map cmdX ∧ (r = .win i l.length 0 (compactL l).length ∨ (r = .buf i l.length ∧ compactL l = l))) := by
 have F := Does.frame hG (lies1 (lowR_cms 0 l) hi) (args := [.buf 0 l.length, .fn 45 []]) (by simp [lowL, low]) (K1 := fun h' r => ∃ rows, h' = [.buf 40 6 rows] ∧ rows.length = l.length ∧ rows.take (compactL l).length = (compactL l).map cmdX ∧ (r = .win 0 l.length 0 (compactL l).length ∨ (r = .buf 0 l.length ∧ compactL l = l))) (by
  rintro _ _ ⟨rows, rfl, _⟩
  refine ⟨fun a b ha hb _ => by simp at ha hb; omega, fun k h1 h2 => by simp at h1 h2; omega⟩) (compact_d G hG l hl hsz)
 have e : renL (fun _ => i) [.buf 0 l.length, .fn 45 []] = [.buf i l.length, .fn 45 []] := by simp [renL, ren]
 rw [e] at F
 refine F.mono ?_
 rintro _ _ ⟨_, r, ⟨rows, rfl, h1, h2, h3⟩, rfl, rfl⟩
 refine ⟨renR (fun _ => i) rows, by simp [plc, renOb], by rw [renR_map, List.length_map, h1], ?_, ?_⟩
 · rw [renR_map, ← List.map_take, h2, ← renR_map, renR_low0 _ _ (lowR_cms 0 _)]
 · rcases h3 with rfl | ⟨rfl, h3⟩
   · exact .inl (by rw [ren])
   · exact .inr ⟨by rw [ren], h3⟩
omit hG
def oG (rows : List (List D)) (T : List Ob) : List Ob := .buf 40 6 rows :: T
variable {rows r2 : List (List D)} {T : List Ob} {x y : Ob}
theorem oG_0 : (oG rows T)[0]? = some (.buf 40 6 rows) := rfl
theorem oG_s0 : (oG rows T).set 0 (.buf 40 6 r2) = oG r2 T := rfl
theorem oG_app : oG rows T ++ [x] = oG rows (T ++ [x]) := rfl
theorem oG_len : (oG rows T).length = T.length + 1 := rfl
theorem oG_last : (oG rows (T ++ [x]))[T.length + 1]? = some x := by simp [oG]
theorem oG_lset : (oG rows (T ++ [x])).set (T.length + 1) y = oG rows (T ++ [y]) := by simp [oG]
theorem ofRows_set {l : List Cmd} {k : Nat} {c : Cmd} (h : l[k]? = some c) : ((l.take k).map cmdX ++ List.replicate (l.length - k) zeC).set k (cmdX c) = (l.take (k + 1)).map cmdX ++ List.replicate (l.length - (k + 1)) zeC := by
 have hk := (List.getElem?_eq_some_iff.1 h).1
 rw [List.set_append_right _ _ (by simp; omega), show l.length - k = (l.length - (k + 1)) + 1 by omega, List.replicate_succ, show k - ((l.take k).map cmdX).length = 0 by simp; omega, List.set_cons_zero, List.take_add_one, h]
 simp
theorem ofRows_get {l : List Cmd} {k : Nat} (hk : k < l.length) : ((l.take k).map cmdX ++ List.replicate (l.length - k) zeC)[k]? = some zeC := by
 rw [List.getElem?_append_right (by simp; omega), List.getElem?_replicate, if_pos (by simp; omega)]
theorem ofRows_len (l : List Cmd) {k : Nat} (hk : k ≤ l.length) : ((l.take k).map cmdX ++ List.replicate (l.length - k) zeC).length = l.length := by
 simp; omega
theorem putL_z (c : Cmd) : putL zeC 0 (cmdX c) = cmdX c := put_cmd rfl c
variable (hG : ∀ g, low 0 (G g))
include hG
theorem of0 (l : List Cmd) (hl : OkL l) (hsz : l.length ≤ 1000) : Does Tryz.prog G 14 [] [.sl 6 (l.map cmdX)] (fun h' r => h' = [.buf 40 6 ((ofL l).map cmdX)] ∧ r = .buf 0 (ofL l).length) := by
 refine Does.only0 hG (low_cms _ _) (Does.reown (K := fun h' r => ∃ rows, h'[0]? = some (.buf 40 6 rows) ∧ rows.length = l.length ∧ rows.take (ofL l).length = (ofL l).map cmdX ∧ (r = .win 0 l.length 0 (ofL l).length ∨ (r = .buf 0 l.length ∧ (ofL l).length = l.length))) (K' := fun h' r => ∃ i, h'[i]? = some (.buf 40 6 ((ofL l).map cmdX)) ∧ r = .buf i (ofL l).length) ?_ ?_) (fun _ _ h => h)
 rotate_left
 · rintro h' r ⟨rows, h1, h2, h3, rfl | ⟨rfl, h4⟩⟩
   · have hb := ofL_len l
     refine .inr ⟨0, l.length, (ofL l).length, _, _, rows, h1, h2, hb, rfl, h'.length, ?_, rfl⟩
     rw [List.getElem?_append_right (by simp)]
     simp [h3]
   · exact .inl ⟨0, by rw [← h3, h4, ← h2, List.take_length]; exact h1, by rw [h4]⟩
 refine does_keep Tryz.func14 rfl (Nat.le_of_ble_eq_true rfl) ?_
 simp only [Tryz.ntmps14]
 repeat' first
  | (refine ao_make rfl rfl rfl rfl apT_22 zero_cmd rfl (by omega) (by omega) ?_)
  | refine aw_seq' ?_
  | refine aw_region' ?_
  | refine aw_block ?_
  | refine ao_nil ?_
  | (refine ao1 rfl rfl fun K HK => ?_; simp only [go_sem, ↓reduceIte, Nat.reduceEqDiff, Nat.reduceAdd, Nat.reduceLeDiff, Nat.reduceBEq, Nat.reduceMul, Int.reduceEq, Int.reduceLT, Int.reduceLE, List.length_map] <;> (refine HK _ _ ?_; clear HK K))
 refine aw_for (fun m e h' => ∃ (k : Nat) (T : List Ob), k ≤ l.length ∧ m = l.length - k ∧ h' = oG ((l.take k).map cmdX ++ List.replicate (l.length - k) zeC) T ∧ e 3 = .buf 0 l.length ∧ e 9 = .sl 6 (l.map cmdX) ∧ e 10 = .v (.int .i64 l.length) ∧ e 11 = .v (.int .i64 k)) l.length ⟨0, [], Nat.zero_le _, rfl, by simp [oG], rfl, rfl, rfl, rfl⟩ ?_
 rintro m e h' ⟨k, T, hk, rfl, rfl, e3, e9, e10, e11⟩
 have hrl := ofRows_len l hk
 by_cases hlt : k < l.length
 · have hx : l[k]? = some l[k] := List.getElem?_eq_getElem hlt
   have hxo := hl _ (List.getElem_mem hlt)
   generalize l[k] = x at hx hxo
   have wk : IntKind.i64.wrap ((k : Int) + 1) = (k : Int) + 1 := IntWalk.i64_in _ (by omega)
   have hzr : ((l.take k).map cmdX ++ List.replicate (l.length - k) zeC)[((k : Nat) : Int).toNat]? = some zeC := by rw [Int.toNat_natCast]; exact ofRows_get hlt
   have hset := ofRows_set hx
   generalize (l.take k).map cmdX ++ List.replicate (l.length - k) zeC = rows at hrl hzr hset
   repeat' first
    | (refine ao_idxB rfl rfl rfl rfl oG_0 hrl (by rw [elT_22]; exact szT_40) (by omega) (by omega) ?_)
    | (refine ao_storeB rfl rfl oG_0 hrl hzr rfl (by rw [one_cmd, szT_40]; rfl) (Nat.le_refl 6) ?_)
    | refine aw_seq' ?_
    | refine aw_region' ?_
    | refine aw_block ?_
    | refine ao_nil ?_
    | (refine ao1 rfl rfl fun K HK => ?_; simp only [go_sem, ↓reduceIte, Nat.reduceEqDiff, Nat.reduceAdd, Nat.reduceLeDiff, Nat.reduceBEq, Nat.reduceMul, Int.reduceEq, Int.reduceLT, Int.reduceLE, e3, e9, e10, e11, wk, cmdX_eq, oG_app, oG_len, oG_last, oG_lset, oG_0, List.length_map, Int.toNat_natCast]; (first | refine splitB (fun hq => ?_) (fun hq => ?_) | (refine ⟨by omega, by omega, ?_⟩; refine row_at (by assumption) ?_) | skip) <;> (refine HK _ _ ?_; clear HK K))
    | (refine ao2 rfl rfl rfl ent_41 (clone_d G hG x hxo _) ?_; rintro _ _ ⟨rfl, rfl⟩)
    | (refine ao1' rfl fun K HK => ?_; simp only [go_sem, ↓reduceIte, Nat.reduceEqDiff, Nat.reduceAdd, Nat.reduceLeDiff, Nat.reduceBEq, Nat.reduceMul, Int.reduceEq, Int.reduceLT, Int.reduceLE, e3, e9, e10, e11, wk, cmdX_eq, oG_app, oG_len, oG_last, oG_lset, oG_0, List.length_map, Int.toNat_natCast]; refine HK _ _ ?_; clear HK K)
    | refine aw_if1 rfl ?_
    | refine aw_if0 rfl ?_
    | refine aw_skip ?_
    | refine aw_exit ?_
    | refine thenS_n ?_
    | (exfalso; omega)
   exact ⟨rfl, l.length - (k + 1), by omega, k + 1, _, by omega, rfl, by
    show (oG rows _).set 0 (.buf 40 6 (rows.set (Int.toNat (k : Int)) (putL zeC 0 (cmdX x)))) = _
    rw [putL_z, Int.toNat_natCast, hset]; rfl, e3, e9, e10, rfl⟩
 · have hr : (l.take k).map cmdX ++ List.replicate (l.length - k) zeC = l.map cmdX := by rw [List.take_of_length_le (by omega), show l.length - k = 0 by omega]; simp
   rw [hr]
   repeat' first
    | (refine ao_callK rfl rfl rfl (by kernel_rfl) (sortC G hG l hl (by omega) oG_0) ?_; rintro _ _ ⟨l', hp, hs, rfl, rfl⟩; rw [oG_s0]; have hl' : OkL l' := fun c hc => hl c (hp.mem_iff.1 hc); have hle := hp.length_eq)
    | (refine ao_callK rfl rfl rfl (by kernel_rfl) (hle ▸ compact_at G hG l' hl' (by omega) oG_0) ?_; rintro _ r ⟨rows, rfl, h1, h2, h3⟩; rw [ofL_is hl hp hs] at h2 h3; rw [oG_s0])
    | refine aw_seq' ?_
    | refine aw_region' ?_
    | refine aw_block ?_
    | refine ao_nil ?_
    | (refine ao1 rfl rfl fun K HK => ?_; simp only [go_sem, ↓reduceIte, Nat.reduceEqDiff, Nat.reduceAdd, Nat.reduceLeDiff, Nat.reduceBEq, Nat.reduceMul, Int.reduceEq, Int.reduceLT, Int.reduceLE, e3, e9, e10, e11, List.length_map]; (first | refine splitB (fun hq => ?_) (fun hq => ?_) | (refine ⟨by omega, by omega, ?_⟩; intro row hrow; obtain ⟨x, hx, rfl⟩ := row_inv hrow; clear hrow) | skip) <;> (refine HK _ _ ?_; clear HK K))
    | refine aw_if1 rfl ?_
    | refine aw_if0 rfl ?_
    | refine aw_skip ?_
    | refine aw_exit ?_
    | refine aw_ret ?_
    | (exfalso; omega)
   refine ⟨.inr rfl, [r], rfl, rows, rfl, h1, h2, ?_⟩
   rcases h3 with h3 | ⟨h3, h4⟩
   · exact .inl h3
   · exact .inr ⟨h3, by rw [h4, hle]⟩
theorem of_s (l : List Cmd) (hl : OkL l) (hsz : l.length ≤ 1000) (h : List Ob) : Does Tryz.prog G 14 h [.sl 6 (l.map cmdX)] (fun h' r => h' = h ∧ r = .sl 6 ((ofL l).map cmdX)) := Does.gave0 hG (low_cms _ _) (by rw [lowL, lowL]; exact ⟨low_cms _ _, trivial⟩) (List.length_map _) (of0 G hG l hl hsz) h
end
section
set_option maxRecDepth 100000
set_option maxHeartbeats 2000000
attribute [local irreducible] on aOp
attribute [local go_sem] decide_true decide_false Bool.not_true Bool.not_false
attribute [local simp] byD_len
def Tells (G : Nat → D) (g : FuncId) (caps : List D) (p : Cmd → Bool) (l : List Cmd) (h : List Ob) : Prop := ∀ c ∈ l, Does Tryz.prog G g h (.agg (cmdX c) :: caps) (fun h' r => h' = h ∧ r = .v (.bool (p c)))
def Found (p : Cmd → Bool) (l : List Cmd) (z : Int) : Prop := (z = -1 ∧ ∀ c ∈ l, p c = false) ∨ ∃ (k : Nat) (c : Cmd), z = k ∧ l[k]? = some c ∧ p c = true ∧ ∀ y ∈ l.take k, p y = false
variable (G : Nat → D) (hG : ∀ g, low 0 (G g))
end
section
set_option maxRecDepth 100000
set_option maxHeartbeats 2000000
attribute [local irreducible] on aOp
attribute [local go_sem] decide_true decide_false Bool.not_true Bool.not_false
attribute [local simp] byD_len
def delL (p : Cmd → Bool) (l : List Cmd) : List Cmd := l.filter fun c => !p c
variable (G : Nat → D) (hG : ∀ g, low 0 (G g))
end
section
set_option maxRecDepth 100000
set_option maxHeartbeats 2000000
attribute [local irreducible] on aOp
attribute [local go_sem] decide_true decide_false Bool.not_true Bool.not_false
attribute [local simp] byD_len
def smallW (x : ByteArray × List UInt8) : Prop := x.1.size ≤ 40 ∧ x.2.length ≤ 200
def smallC (c : Cmd) : Prop := c.writes.length ≤ 6 ∧ c.tag.length ≤ 100 ∧ ∀ x ∈ c.writes, smallW x
def SmallL (l : List Cmd) (most : Nat) : Prop := l.length ≤ most ∧ ∀ c ∈ l, smallC c
theorem all_take {α : Type} {p : α → Prop} {l : List α} {k : Nat} {x : α} (h : ∀ y ∈ l.take k, p y) (hx : l[k]? = some x) (q : p x) : ∀ y ∈ l.take (k + 1), p y := fun y hy => by
 rw [List.take_add_one, hx] at hy
 rcases List.mem_append.1 hy with h1 | h1
 · exact h y h1
 · simp at h1; subst h1; exact q
variable (G : Nat → D) (hG : ∀ g, low 0 (G g))
include hG
theorem does_anyK {P : Program} {f : FuncId} {args : List D} {KR : D → Prop} (la : lowL 0 args) (lr : ∀ r, KR r → low 0 r) (q : Does P G f [] args (fun h' r => h' = [] ∧ KR r)) (h : List Ob) : Does P G f h args (fun h' r => h' = h ∧ KR r) := by
 have L : Lies (fun i => i) [] h := ⟨fun i ob q => by simp at q, fun i j q => by simp at q, fun ob q => by simp at q⟩
 have F := Does.frame hG L (args := args) la (K1 := fun h1 r1 => h1 = [] ∧ KR r1) (by
  rintro _ _ ⟨rfl, _⟩
  exact ⟨fun i j hi => by simp at hi, fun j _ hj => by simp at hj⟩) q
 rw [renL_low0 _ _ la] at F
 refine F.mono ?_
 rintro _ _ ⟨_, r1, ⟨rfl, hr⟩, rfl, rfl⟩
 exact ⟨rfl, by rw [ren_low0 _ _ (lr _ hr)]; exact hr⟩
theorem small_d (l : List Cmd) (most : Nat) (hm : most ≤ 1000) (h : List Ob) : Does Tryz.prog G 10 h [.sl 6 (l.map cmdX), .v (.int .i64 most)] (fun h' r => h' = h ∧ ∃ b : Bool, r = .v (.bool b) ∧ (b = true ↔ SmallL l most)) := by
 refine does_anyK G hG (by rw [lowL, lowL, lowL]; exact ⟨low_cms _ _, by simp [low], trivial⟩) (by rintro _ ⟨b, rfl, _⟩; rw [low]; trivial) ?_ h
 have no : ∀ {res : Array ResultVar} {s : S} {v : Bool} (hl0 : lowH ([] : List Ob).length []) (hres : resD Tryz.prog s res.toList = some [.v (.bool v)]), (v = true ↔ SmallL l most) → EndD Tryz.prog res ([] : List Ob).length (fun h' r => h' = [] ∧ ∃ b : Bool, r = .v (.bool b) ∧ (b = true ↔ SmallL l most)) s := fun hl0 hres hv => endD (r := .v _) hl0 hres (by simp) (by simp) rfl (by rw [low]; trivial) ⟨rfl, _, rfl, hv⟩
 refine does_of_aw Tryz.func10 rfl (Nat.le_of_ble_eq_true rfl) hG fun hl0 _ => ?_
 simp only [Tryz.ntmps10]
 by_cases h1 : most < l.length
 · have h1' : (most : Int) < (l.length : Int) := by omega
   repeat' first
    | refine aw_seq' ?_
    | refine aw_region' ?_
    | refine ao_nil ?_
    | (refine ao1 rfl rfl fun K HK => ?_; simp only [go_sem, ↓reduceIte, Nat.reduceEqDiff, Nat.reduceAdd, Nat.reduceLeDiff, Nat.reduceBEq, Nat.reduceMul, Int.reduceEq, Int.reduceLT, Int.reduceLE, h1', List.length_map] <;> (refine HK _ _ ?_; clear HK K))
    | refine aw_if1 rfl ?_
    | refine aw_ret ?_
    | refine thenS_r ?_
   all_goals exact ⟨by simp, no hl0 rfl ⟨fun h => (by cases h), fun h => (by have := h.1; omega)⟩⟩
 have h1' : ¬ (most : Int) < (l.length : Int) := by omega
 repeat' first
  | refine aw_seq' ?_
  | refine aw_region' ?_
  | refine aw_block ?_
  | refine ao_nil ?_
  | (refine ao1 rfl rfl fun K HK => ?_; simp only [go_sem, ↓reduceIte, Nat.reduceEqDiff, Nat.reduceAdd, Nat.reduceLeDiff, Nat.reduceBEq, Nat.reduceMul, Int.reduceEq, Int.reduceLT, Int.reduceLE, h1', List.length_map] <;> (refine HK _ _ ?_; clear HK K))
  | refine aw_if0 rfl ?_
  | refine aw_skip ?_
 refine aw_for (fun m e h' => ∃ k : Nat, k ≤ l.length ∧ m = l.length - k ∧ (∀ y ∈ l.take k, smallC y) ∧ h' = [] ∧ e 0 = .sl 6 (l.map cmdX) ∧ e 5 = .v (.int .i64 k)) l.length ⟨0, Nat.zero_le _, rfl, by simp, rfl, rfl, rfl⟩ ?_
 rintro m e h' ⟨k, hk, rfl, hs, rfl, e0, e5⟩
 by_cases hlt : k < l.length
 rotate_left
 · skip
   repeat' first
    | refine aw_seq' ?_
    | refine aw_region' ?_
    | refine aw_block ?_
    | refine ao_nil ?_
    | (refine ao1 rfl rfl fun K HK => ?_; simp only [go_sem, ↓reduceIte, Nat.reduceEqDiff, Nat.reduceAdd, Nat.reduceLeDiff, Nat.reduceBEq, Nat.reduceMul, Int.reduceEq, Int.reduceLT, Int.reduceLE, e0, e5, List.length_map]; (first | refine splitB (fun hq => ?_) (fun hq => ?_) | (refine ⟨by omega, by omega, ?_⟩; intro row hrow; obtain ⟨x, hx, rfl⟩ := row_inv hrow; clear hrow) | skip) <;> (refine HK _ _ ?_; clear HK K))
    | refine aw_if1 rfl ?_
    | refine aw_if0 rfl ?_
    | refine aw_skip ?_
    | refine aw_exit ?_
    | refine aw_ret ?_
    | (exfalso; omega)
   exact ⟨by simp, no hl0 rfl ⟨fun _ => ⟨by omega, by rwa [List.take_of_length_le (by omega)] at hs⟩, fun _ => rfl⟩⟩
 have hx : l[k]? = some l[k] := List.getElem?_eq_getElem hlt
 have hxm : l[k] ∈ l := List.getElem_mem hlt
 generalize l[k] = x at hx hxm
 have wk : IntKind.i64.wrap ((k : Int) + 1) = (k : Int) + 1 := IntWalk.i64_in _ (by omega)
 repeat' first
  | refine aw_seq' ?_
  | refine aw_region' ?_
  | refine aw_block ?_
  | refine ao_nil ?_
  | (refine ao1 rfl rfl fun K HK => ?_; (first | refine aOp_pick rfl ?_ | skip); simp only [go_sem, ↓reduceIte, Nat.reduceEqDiff, Nat.reduceAdd, Nat.reduceLeDiff, Nat.reduceBEq, Nat.reduceMul, Int.reduceEq, Int.reduceLT, Int.reduceLE, e0, e5, cmdX_eq, byD_len, wk, List.length_map, Int.toNat_natCast]; (first | refine splitB (fun hq => ?_) (fun hq => ?_) | (refine ⟨by omega, by omega, ?_⟩; refine row_at (by assumption) ?_) | skip) <;> (refine HK _ _ ?_; clear HK K))
  | refine ao0 rfl rfl ?_
  | refine aw_if1 rfl ?_
  | refine aw_if0 rfl ?_
  | refine aw_skip ?_
  | refine aw_exit ?_
  | refine aw_ret ?_
  | refine thenS_r ?_
  | refine inB_r ?_
  | (exfalso; omega)
 · exact ⟨by simp, no hl0 rfl ⟨fun h => (by cases h), fun h => (by have := (h.2 x hxm).1; omega)⟩⟩
 · exact ⟨by simp, no hl0 rfl ⟨fun h => (by cases h), fun h => (by have := (h.2 x hxm).2.1; omega)⟩⟩
 rename_i hw ht
 refine aw_for (fun m e h' => ∃ j : Nat, j ≤ x.writes.length ∧ m = x.writes.length - j ∧ (∀ y ∈ x.writes.take j, smallW y) ∧ h' = [] ∧ e 0 = .sl 6 (l.map cmdX) ∧ e 5 = .v (.int .i64 k) ∧ e 6 = .v (.int .i64 j)) x.writes.length ⟨0, Nat.zero_le _, rfl, by simp, rfl, e0, e5, rfl⟩ ?_
 clear e0 e5
 rintro m e h' ⟨j, hj, rfl, hsw, rfl, e0, e5, e6⟩
 by_cases hjl : j < x.writes.length
 rotate_left
 · skip
   repeat' first
    | refine aw_seq' ?_
    | refine aw_region' ?_
    | refine aw_block ?_
    | refine ao_nil ?_
    | (refine ao1 rfl rfl fun K HK => ?_; simp only [go_sem, ↓reduceIte, Nat.reduceEqDiff, Nat.reduceAdd, Nat.reduceLeDiff, Nat.reduceBEq, Nat.reduceMul, Int.reduceEq, Int.reduceLT, Int.reduceLE, e0, e5, e6, cmdX_eq, wk, List.length_map, Int.toNat_natCast]; (first | refine splitB (fun hq => ?_) (fun hq => ?_) | (refine ⟨by omega, by omega, ?_⟩; refine row_at (by assumption) ?_) | (refine ⟨by omega, by omega, ?_⟩; intro row hrow; obtain ⟨x, hx, rfl⟩ := row_inv hrow; clear hrow) | skip) <;> (refine HK _ _ ?_; clear HK K))
    | refine aw_if1 rfl ?_
    | refine aw_if0 rfl ?_
    | refine aw_skip ?_
    | refine aw_exit ?_
    | refine thenS_n ?_
    | (exfalso; omega)
   exact ⟨rfl, l.length - (k + 1), by omega, k + 1, hlt, rfl, all_take hs hx ⟨by omega, by omega, by rwa [List.take_of_length_le (by omega)] at hsw⟩, rfl, e0, rfl⟩
 have hy : x.writes[j]? = some x.writes[j] := List.getElem?_eq_getElem hjl
 have hym : x.writes[j] ∈ x.writes := List.getElem_mem hjl
 generalize x.writes[j] = y at hy hym
 have wj : IntKind.i64.wrap ((j : Int) + 1) = (j : Int) + 1 := IntWalk.i64_in _ (by omega)
 repeat' first
  | refine aw_seq' ?_
  | refine aw_region' ?_
  | refine aw_block ?_
  | refine ao_nil ?_
  | (refine ao1 rfl rfl fun K HK => ?_; (first | refine aOp_pick rfl ?_ | skip); simp only [go_sem, ↓reduceIte, Nat.reduceEqDiff, Nat.reduceAdd, Nat.reduceLeDiff, Nat.reduceBEq, Nat.reduceMul, Int.reduceEq, Int.reduceLT, Int.reduceLE, e0, e5, e6, cmdX_eq, wrX_eq, byD_len, wj, List.length_map, Int.toNat_natCast]; (first | refine splitB (fun hq => ?_) (fun hq => ?_) | (refine ⟨by omega, by omega, ?_⟩; refine row_at (by assumption) ?_) | skip) <;> (refine HK _ _ ?_; clear HK K))
  | refine ao0 rfl rfl ?_
  | refine aw_if1 rfl ?_
  | refine aw_if0 rfl ?_
  | refine aw_skip ?_
  | refine aw_exit ?_
  | refine aw_ret ?_
  | refine thenS_n ?_
  | refine thenS_r ?_
  | refine inB_r ?_
  | (exfalso; omega)
 · exact ⟨by simp, no hl0 rfl ⟨fun h => (by cases h), fun h => (by have := ((h.2 x hxm).2.2 y hym).1; omega)⟩⟩
 · exact ⟨by simp, no hl0 rfl ⟨fun h => (by cases h), fun h => (by have := ((h.2 x hxm).2.2 y hym).2; omega)⟩⟩
 · exact ⟨rfl, x.writes.length - (j + 1), by omega, j + 1, hjl, rfl, all_take hsw hy ⟨by omega, by omega⟩, rfl, e0, e5, rfl⟩
end
section
set_option maxRecDepth 100000
set_option maxHeartbeats 2000000
attribute [local irreducible] on aOp
attribute [local go_sem] decide_true decide_false Bool.not_true Bool.not_false
attribute [local simp] byD_len
def Bs (s : List Cmd) (c : Cmd) (i j : Nat) : Prop := i ≤ j ∧ j ≤ s.length ∧ (∀ (x : Nat) d, x < i → s[x]? = some d → cmpC d c < 0) ∧ ∀ (x : Nat) d, j ≤ x → s[x]? = some d → ¬ cmpC d c < 0
theorem Bs.start (s : List Cmd) (c : Cmd) : Bs s c 0 s.length := ⟨Nat.zero_le _, Nat.le_refl _, fun x d h => by omega, fun x d h hx => by
 have := (List.getElem?_eq_some_iff.1 hx).1; omega⟩
theorem sorted_at {s : List Cmd} (hs : s.Pairwise LtC) {i j : Nat} {a b : Cmd} (h : i < j) (ha : s[i]? = some a) (hb : s[j]? = some b) : LtC a b := by
 obtain ⟨h1, rfl⟩ := List.getElem?_eq_some_iff.1 ha
 obtain ⟨h2, rfl⟩ := List.getElem?_eq_some_iff.1 hb
 exact List.pairwise_iff_getElem.1 hs i j h1 h2 h
theorem Bs.right {s : List Cmd} {c d : Cmd} {i j m : Nat} (hs : s.Pairwise LtC) (h : Bs s c i j) (h1 : i ≤ m) (h2 : m < j) (hd : s[m]? = some d) (hc : cmpC d c < 0) : Bs s c (m + 1) j :=
 ⟨by omega, h.2.1, fun x e hx he => by
  rcases Nat.lt_or_ge x m with hlt | hge
  · exact cmpC_lt.2 ((sorted_at hs hlt he hd).trans (cmpC_lt.1 hc))
  · obtain rfl : x = m := by omega
    rw [hd] at he; cases he; exact hc, h.2.2.2⟩
theorem Bs.left {s : List Cmd} {c d : Cmd} {i j m : Nat} (hs : s.Pairwise LtC) (h : Bs s c i j) (h1 : i ≤ m) (h2 : m < j) (hd : s[m]? = some d) (hc : ¬ cmpC d c < 0) : Bs s c i m :=
 ⟨h1, by have := h.2.1; omega, h.2.2.1, fun x e hx he => by
  rcases Nat.lt_or_ge m x with hlt | hge
  · exact fun hk => hc (cmpC_lt.2 ((sorted_at hs hlt hd he).trans (cmpC_lt.1 hk)))
  · obtain rfl : x = m := by omega
    rw [hd] at he; cases he; exact hc⟩
theorem Bs.no {s : List Cmd} {c : Cmd} {i : Nat} (h : Bs s c i i) (hi : s.length ≤ i) : hasL s c = false := by
 cases hh : hasL s c
 · rfl
 · obtain ⟨d, hd, he⟩ := (hasL_iff s c).1 hh
   obtain ⟨x, hx, rfl⟩ := List.getElem_of_mem hd
   have := h.2.2.1 x _ (by omega) (List.getElem?_eq_getElem hx)
   rw [cmpC_zero.2 he] at this; omega
theorem Bs.at {s : List Cmd} {c d : Cmd} {i : Nat} (hs : s.Pairwise LtC) (h : Bs s c i i) (hd : s[i]? = some d) : hasL s c = decide (cmpC d c = 0) := by
 by_cases h0 : cmpC d c = 0
 · rw [decide_eq_true h0]
   exact (hasL_iff s c).2 ⟨d, List.mem_of_getElem? hd, cmpC_zero.1 h0⟩
 · rw [decide_eq_false h0]
   cases hh : hasL s c
   · rfl
   · obtain ⟨e, he, hq⟩ := (hasL_iff s c).1 hh
     obtain ⟨x, hx, rfl⟩ := List.getElem_of_mem he
     have hx' := List.getElem?_eq_getElem hx
     exfalso
     rcases Nat.lt_trichotomy x i with hlt | rfl | hgt
     · have := h.2.2.1 x _ hlt hx'
       rw [cmpC_zero.2 hq] at this; omega
     · rw [hd] at hx'; cases hx'; exact h0 (cmpC_zero.2 hq)
     · exact h.2.2.2 i d (Nat.le_refl _) hd (cmpC_lt.2 (EqC.right hq (sorted_at hs hgt hd hx')))
variable (G : Nat → D) (hG : ∀ g, low 0 (G g))
include hG
end
section
set_option maxRecDepth 100000
set_option maxHeartbeats 2000000
attribute [local irreducible] on aOp
attribute [local go_sem] decide_true decide_false Bool.not_true Bool.not_false
attribute [local simp] byD_len
variable (G : Nat → D) (hG : ∀ g, low 0 (G g))
include hG
def isConf (c : Cmd) : Bool := decide (c.kind = 2) || decide (c.kind = 3)
def confL (a : List Cmd) : List Cmd := (ofL a).filter isConf
end
section
set_option maxRecDepth 100000
set_option maxHeartbeats 2000000
attribute [local irreducible] on aOp
attribute [local go_sem] decide_true decide_false Bool.not_true Bool.not_false
attribute [local simp] byD_len
section
variable {P : Program} {G : Nat → D} {n : Nat} {e : Nat → D} {h : List Ob} {ops : Array Oper} {rest : List Oper} {Q : S → Prop} {t : Nat} {ty : TypeId} {pos : String} {aft : Array Edge} {gd : Option (Nat × Bool)}
end
theorem Does.give1 {P : Program} {G : Nat → D} {f : FuncId} {h : List Ob} {i E k n : Nat} {rows : List (List D)} {K : List Ob → D → Prop} (hi : h[i]? = some (.buf E k rows)) (hn : rows.length = n) (q : Does P G f (h.set i .dead) [.sl k rows] K) : Does P G f h [.buf i n] K := fun w hd p vs ok ha => by
 rw [rdL] at ha
 obtain ⟨u, t, rfl, hu, ht⟩ := ha
 rw [rdL] at ht
 subst ht
 obtain ⟨p', o', ev, cv⟩ := ok.give (fun j => j == i)
 rw [killH_one] at o' ev cv
 have hr := cv _ _ hu
 have e : cvD (fun j => j == i) h (.buf i n) = .sl k rows := by simp [cvD, cv1, hi, hn]
 rw [e] at hr
 refine (q w hd p' [u] o' (by rw [rdL]; exact ⟨u, [], rfl, hr, by rw [rdL]⟩)).mono ?_
 rintro e w' ⟨v, hd', h', r, p2, rfl, hK, ok2, hr2, ev2⟩
 exact ⟨v, hd', h', r, p2, rfl, hK, ok2, hr2, ev.trans ev2⟩
variable (G : Nat → D) (hG : ∀ g, low 0 (G g))
include hG
omit hG in
omit hG in
def lsX (ls : List (List Cmd)) : List (List D) := ls.map fun l => [.sl 6 (l.map cmdX)]
omit hG in
omit hG in
end
section
set_option maxRecDepth 100000
set_option maxHeartbeats 2000000
attribute [local irreducible] on aOp
attribute [local go_sem] decide_true decide_false Bool.not_true Bool.not_false
attribute [local simp] byD_len
variable (G : Nat → D) (hG : ∀ g, low 0 (G g))
include hG
omit hG in
end
section
set_option maxRecDepth 100000
set_option maxHeartbeats 2000000
attribute [local irreducible] on aOp
attribute [local go_sem] decide_true decide_false Bool.not_true Bool.not_false
attribute [local simp] byD_len
@[go_sem] theorem b_beql {x y : Operand} {a c : Bool} : binV Tryz.prog .eql 4 x y (.bool a) (.bool c) = some (.v (.bool (decide (a = c)))) := by cases a <;> cases c <;> kernel_rfl
@[go_sem] theorem b_bneq {x y : Operand} {a c : Bool} : binV Tryz.prog .neq 4 x y (.bool a) (.bool c) = some (.v (.bool (!decide (a = c)))) := by cases a <;> cases c <;> kernel_rfl
def Nums (c : Cmd) : Prop := I64 c.client ∧ I64 c.seq ∧ I64 c.kind ∧ I64 c.replica
theorem ok_of_small {c : Cmd} (h : Nums c) (s : smallC c) : c.Ok := ⟨h.1, h.2.1, h.2.2.1, h.2.2.2, by have := s.1; omega, fun x hx => by have := s.2.2 x hx; unfold smallW at this; omega, by have := s.2.1; omega⟩
theorem okL_of_small {l : List Cmd} {m : Nat} (h : ∀ c ∈ l, Nums c) (s : SmallL l m) : OkL l := fun c hc => ok_of_small (h c hc) (s.2 c hc)
section
variable {a b c : List Cmd} (ha : OkL a) (hb : OkL b) (hc : OkL c)
include ha hb
include hc
end
variable (G : Nat → D) (hG : ∀ g, low 0 (G g))
include hG
theorem small_y {l : List Cmd} {most : Nat} (hm : most ≤ 1000) (s : SmallL l most) (h : List Ob) : Does Tryz.prog G 10 h [.sl 6 (l.map cmdX), .v (.int .i64 most)] (fun h' r => h' = h ∧ r = .v (.bool true)) := (small_d G hG l most hm h).mono fun h' r ⟨h1, b, h2, h3⟩ => ⟨h1, by rw [h2, h3.2 s]⟩
theorem small_n {l : List Cmd} {most : Nat} (hm : most ≤ 1000) (s : ¬ SmallL l most) (h : List Ob) : Does Tryz.prog G 10 h [.sl 6 (l.map cmdX), .v (.int .i64 most)] (fun h' r => h' = h ∧ r = .v (.bool false)) := (small_d G hG l most hm h).mono fun h' r ⟨h1, b, h2, h3⟩ => ⟨h1, by
 cases b
 · exact h2
 · exact absurd (h3.1 rfl) s⟩
def Awake (G : Nat → D) : Prop := ∀ h, Does Tryz.prog G 11 h [] (fun h' r => h' = h ∧ r = .v (.bool true))
end
section
def G0 : Nat → D := fun _ => .any
theorem G0_low : ∀ g, low 0 (G0 g) := fun g => by unfold G0; rw [low]; trivial
theorem mixdB : Tryz.prog.follows .mixedOrders = true := by kernel_rfl
theorem awake_run : callK Tryz.prog G0 188 100000 100 11 [] [] = some ([], .v (.bool true)) := by kernel_rfl
theorem awake0 : Awake G0 := fun h => does_runK G0_low mixdB cmpX (by kernel_rfl) awake_run h
theorem ok0 (w : World) : Ok G0 w [] [] (fun k => decide (k < w.heap.size)) :=
 ⟨rfl, fun i ob u q => by simp at q, fun i j oi oj ui uj b q => by simp at q, fun g => by unfold G0; rw [rd]; trivial, fun g ds q => by cases q⟩
end
section
variable {P : Program} {G : Nat → D} {w w' : World} {hd : List Value} {h : List Ob} {p : Nat → Bool}
theorem Ok.kept (o : Ok G w hd h p) (h1 : w'.os = w.os ∧ w.drawn ≤ w'.drawn) (h2 : w'.tape = w.tape) (h3 : w'.output = w.output) (h4 : w.heap.size ≤ w'.heap.size) (h5 : ∀ b, b < w.heap.size → w'.heap[b]? = w.heap[b]?) : Ok G w' hd h p ∧ Evo w hd h p w' hd h p := by
 have e : Evo w hd h p w' hd h p := ⟨h1, h2, h3, h4, fun k hk _ => h5 k hk, fun _ _ q => q, fun _ _ q => .inl q, fun _ _ q => q, .refl _ _⟩
 exact ⟨⟨o.len, fun i ob u h1 h2 => obOk.move e o (o.ob i ob u h1 h2) (fun hl k hk => h5 k (o.lt ⟨i, ob, u, h1, hl, h2, hk⟩)) (fun _ _ _ q => q), o.inj, gl_move e o, ex_move e o⟩, e⟩
theorem Does.borrow (hG : ∀ g, low 0 (G g)) {f : FuncId} {args : List D} {i E k n : Nat} {rows : List (List D)} {x : Value} (hi : h[i]? = some (.buf E k rows)) (hn : rows.length = n) (la : lowL 0 args) (lr : low 0 (.sl k rows)) (q : Does P G f [] (.sl k rows :: args) (fun h' r => h' = [] ∧ r = .v x)) : Does P G f h (.buf i n :: args) (fun h' r => h' = h ∧ r = .v x) := fun w hd p vs ok ha => by
 rw [rdL] at ha
 obtain ⟨u, t, rfl, hu, ht⟩ := ha
 obtain ⟨p', o', ev, cv⟩ := ok.give (fun j => j == i)
 have hr := cv _ _ hu
 have e : cvD (fun j => j == i) h (.buf i n) = .sl k rows := by simp [cvD, cv1, hi, hn]
 rw [e] at hr
 have ht2 := ev.rdL ok ht
 have o2 := o'.take (m := 0) (fun x hx => by simp at hx) hG
 have r1 := rd_take (m := 0) o'.len _ _ lr hr
 have r2 := rdL_takeH (m := 0) o'.len _ _ la ht2
 simp only [List.take_zero] at o2 r1 r2
 refine (q w [] p' (u :: t) o2 (by rw [rdL]; exact ⟨u, t, rfl, r1, r2⟩)).mono ?_
 rintro e w' ⟨v, hd', h', r, p2, rfl, ⟨rfl, rfl⟩, ok2, hr2, ev2⟩
 rw [rd] at hr2; subst hr2
 obtain ⟨o3, ev3⟩ := ok.kept ev2.os ev2.tape ev2.output ev2.size fun b hb => ev2.keep b hb fun ⟨j, ob, u, q, _⟩ => by simp at q
 exact ⟨_, hd, h, .v _, p, rfl, ⟨rfl, rfl⟩, o3, by rw [rd], ev3⟩
end
section
section
variable {P : Program} {G : Nat → D} {n : Nat} {e : Nat → D} {h : List Ob}
theorem Sit_niltmp {B : Base} {a : Act} {w : World} (E k t : Nat) (ht : e t = .v (.slice none 0 0)) (r : Sit G B ⟨n, e, h⟩ a w) : Sit G B ⟨n, upd e t (.buf h.length 0), h ++ [.buf E k []]⟩ a w := by
 obtain ⟨hd, p, r⟩ := r
 obtain ⟨o, ev⟩ := Ok.grow (ob := .buf E k []) (u := .slice none 0 0) (w' := w) r.ok rfl rfl rfl (Nat.le_refl _) (fun _ _ => rfl) (fun b hb => by cases hb) (fun c s => ⟨[], World.ownsRow_nil _ _ _ _, by simp [rdL], fun row h => by simp at h, fun g h => by cases h⟩)
 refine ⟨_, _, o, r.evo.trans ev, fun t' => ?_, r.size, r.defers⟩
 have q := ev.rd r.ok (r.tmp t')
 show rd _ _ _ (upd e t (.buf h.length 0) t') _
 unfold upd
 by_cases hh : t' = t
 · subst hh
   rw [if_pos rfl]
   have ht : (⟨n, e, h⟩ : S).env t' = .v (.slice none 0 0) := ht
   rw [ht] at q
   exact rd_nilbuf (E := E) (k := k) (by simp) (by rw [← r.ok.len]; simp) q
 · rw [if_neg hh]; exact q
theorem aw_niltmp {c : Code} {Q : Exit → S → Prop} (E k t : Nat) (ht : e t = .v (.slice none 0 0)) (q : aw P G c Q ⟨n, upd e t (.buf h.length 0), h ++ [.buf E k []]⟩) : aw P G c Q ⟨n, e, h⟩ := fun B a w r => q B a w (Sit_niltmp E k t ht r)
end
/-! Texts in the order of their bytes. -/
def ltS (a b : ByteArray) : Prop := a.data.toList < b.data.toList
instance : DecidableRel ltS := fun a b => inferInstanceAs (Decidable (a.data.toList < b.data.toList))
theorem ltS_irrefl (a : ByteArray) : ¬ ltS a a := List.lt_irrefl _
theorem ltS_trans {a b c : ByteArray} (h : ltS a b) (k : ltS b c) : ltS a c := List.lt_trans h k
theorem ba_ext {a b : ByteArray} (h : a.data.toList = b.data.toList) : a = b := ByteArray.ext (Array.ext' h)
theorem ltS_tri (a b : ByteArray) : ltS a b ∨ a = b ∨ ltS b a := by
 by_cases h : ltS a b
 · exact .inl h
 by_cases k : a = b
 · exact .inr (.inl k)
 · have h1 : b.data.toList ≤ a.data.toList := List.not_lt.1 h
   rcases List.le_iff_lt_or_eq.1 h1 with h2 | h2
   · exact .inr (.inr h2)
   · exact absurd (ba_ext h2).symm k
theorem bl_ltS (a b : ByteArray) : Op.bytesLess a.toList b.toList = decide (ltS a b) := by rw [ba_toList, ba_toList, bl_eq]; rfl
def insS (c : ByteArray) : List ByteArray → List ByteArray
 | [] => [c]
 | y :: t => if ltS c y then c :: y :: t else if c = y then y :: t else y :: insS c t
def ofS (l : List ByteArray) : List ByteArray := l.foldr insS []
theorem insS_mem : ∀ (c : ByteArray) (l : List ByteArray) (d : ByteArray), d ∈ insS c l ↔ d = c ∨ d ∈ l
 | c, [], d => by simp [insS]
 | c, y :: t, d => by
  rw [insS]
  split
  · simp
  split
  · rename_i h; subst h; simp
  · rw [List.mem_cons, insS_mem c t d, List.mem_cons]
    constructor
    · rintro (h | h | h) <;> simp [h]
    · rintro (h | h | h) <;> simp [h]
theorem insS_sorted : ∀ (c : ByteArray) (l : List ByteArray), l.Pairwise ltS → (insS c l).Pairwise ltS
 | c, [], _ => by simp [insS]
 | c, y :: t, h => by
  obtain ⟨h1, h2⟩ := List.pairwise_cons.1 h
  rw [insS]
  split
  · rename_i hlt
    refine List.pairwise_cons.2 ⟨fun d hd => ?_, h⟩
    rcases List.mem_cons.1 hd with rfl | hd
    · exact hlt
    · exact ltS_trans hlt (h1 d hd)
  split
  · exact h
  · rename_i hlt hz
    have hy : ltS y c := (ltS_tri c y).elim (fun a => absurd a hlt) (fun a => a.elim (fun a => absurd a hz) id)
    refine List.pairwise_cons.2 ⟨fun d hd => ?_, insS_sorted c t h2⟩
    rcases (insS_mem c t d).1 hd with rfl | hd
    · exact hy
    · exact h1 d hd
theorem ofS_sorted : ∀ l : List ByteArray, (ofS l).Pairwise ltS
 | [] => .nil
 | c :: t => insS_sorted c _ (ofS_sorted t)
theorem mem_ofS : ∀ {l : List ByteArray} {c : ByteArray}, c ∈ ofS l ↔ c ∈ l
 | [], _ => Iff.rfl
 | x :: t, c => by
  show c ∈ insS x (ofS t) ↔ _
  rw [insS_mem, mem_ofS, List.mem_cons]
theorem insS_len (c : ByteArray) : ∀ s : List ByteArray, (insS c s).length ≤ s.length + 1
 | [] => by simp [insS]
 | y :: u => by
  rw [insS]
  split
  · simp
  split
  · simp
  · have := insS_len c u; simp only [List.length_cons]; omega
theorem ofS_len : ∀ l : List ByteArray, (ofS l).length ≤ l.length
 | [] => Nat.le_refl _
 | x :: t => by
  have h1 := insS_len x (ofS t)
  have h2 := ofS_len t
  show (insS x (ofS t)).length ≤ _
  simp only [List.length_cons]; omega
theorem sortedS_ext : ∀ {a b : List ByteArray}, a.Pairwise ltS → b.Pairwise ltS → (∀ c, c ∈ a ↔ c ∈ b) → a = b
 | [], [], _, _, _ => rfl
 | [], y :: t, _, _, h => by simpa using (h y).2 (by simp)
 | x :: s, [], _, _, h => by simpa using (h x).1 (by simp)
 | x :: s, y :: t, ha, hb, h => by
  obtain ⟨a1, a2⟩ := List.pairwise_cons.1 ha
  obtain ⟨b1, b2⟩ := List.pairwise_cons.1 hb
  have hxy : x = y := by
   rcases List.mem_cons.1 ((h x).1 (by simp)) with e | hx
   · exact e
   rcases List.mem_cons.1 ((h y).2 (by simp)) with e | hy
   · exact e.symm
   exact absurd (ltS_trans (a1 y hy) (b1 x hx)) (ltS_irrefl x)
  subst hxy
  rw [sortedS_ext a2 b2 fun c => ⟨fun hc => ?_, fun hc => ?_⟩]
  · rcases List.mem_cons.1 ((h c).1 (by simp [hc])) with rfl | q
    · exact absurd (a1 c hc) (ltS_irrefl c)
    · exact q
  · rcases List.mem_cons.1 ((h c).2 (by simp [hc])) with rfl | q
    · exact absurd (b1 c hc) (ltS_irrefl c)
    · exact q
theorem ofS_snoc {l : List ByteArray} {x : ByteArray} : ofS (l ++ [x]) = insS x (ofS l) :=
 sortedS_ext (ofS_sorted _) (insS_sorted _ _ (ofS_sorted _)) fun c => by rw [mem_ofS, insS_mem, mem_ofS, List.mem_append]; simp [or_comm]
theorem insS_has {s : List ByteArray} {x : ByteArray} (hs : s.Pairwise ltS) (h : x ∈ s) : insS x s = s := sortedS_ext (insS_sorted _ _ hs) hs fun c => by
 rw [insS_mem]; exact ⟨fun q => q.elim (fun e => e ▸ h) id, .inr⟩
theorem insS_at {a b : List ByteArray} {x : ByteArray} (hs : (a ++ b).Pairwise ltS) (h1 : ∀ y ∈ b, ltS x y) (h2 : ∀ y, a.getLast? = some y → ltS y x) : insS x (a ++ b) = a ++ x :: b := by
 obtain ⟨ha, hb, hab⟩ := List.pairwise_append.1 hs
 have h3 : ∀ y ∈ a, ltS y x := fun y hy => by
  rcases List.eq_nil_or_concat a with rfl | ⟨t, z, hz⟩
  · cases hy
  · rw [List.concat_eq_append] at hz; subst hz
    have hz := h2 z (by simp)
    rcases List.mem_append.1 hy with hy | hy
    · exact ltS_trans ((List.pairwise_append.1 ha).2.2 y hy z (by simp)) hz
    · simp at hy; rw [hy]; exact hz
 refine sortedS_ext (insS_sorted _ _ hs) (List.pairwise_append.2 ⟨ha, List.pairwise_cons.2 ⟨h1, hb⟩, fun y hy z hz => ?_⟩) fun c => ?_
 · rcases List.mem_cons.1 hz with rfl | hz
   · exact h3 y hy
   · exact ltS_trans (h3 y hy) (h1 z hz)
 · rw [insS_mem]; simp only [List.mem_append, List.mem_cons]
   constructor
   · rintro (h | h | h) <;> simp [h]
   · rintro (h | h | h) <;> simp [h]
/-! Leaving out equal neighbours. -/
def cptS : ByteArray → List ByteArray → List ByteArray
 | _, [] => []
 | p, y :: t => if y = p then cptS y t else y :: cptS y t
def compactS : List ByteArray → List ByteArray
 | [] => []
 | x :: t => x :: cptS x t
theorem cptS_mem : ∀ (p : ByteArray) (l : List ByteArray) (c : ByteArray), c ∈ p :: cptS p l ↔ c ∈ p :: l
 | p, [], c => by simp [cptS]
 | p, y :: t, c => by
  have ih := cptS_mem y t c
  rw [cptS]
  split
  · rename_i h; subst h
    rw [ih]; simp
  · rw [List.mem_cons, ih]; simp
theorem cptS_sorted : ∀ (p : ByteArray) (l : List ByteArray), (p :: l).Pairwise (fun x y => ¬ ltS y x) → (p :: cptS p l).Pairwise ltS
 | p, [], h => by simp [cptS]
 | p, y :: t, h => by
  obtain ⟨h1, h2⟩ := List.pairwise_cons.1 h
  have ih := cptS_sorted y t h2
  rw [cptS]
  split
  · rename_i h0; subst h0; exact ih
  · rename_i h0
    have hy : ltS p y := (ltS_tri p y).elim id fun a => a.elim (fun a => absurd a.symm h0) fun a => absurd a (h1 y (by simp))
    refine List.pairwise_cons.2 ⟨fun c hc => ?_, ih⟩
    rcases List.mem_cons.1 hc with rfl | hc
    · exact hy
    · exact ltS_trans hy ((List.pairwise_cons.1 ih).1 c hc)
theorem compactS_is {l l' : List ByteArray} (hp : l'.Perm l) (hs : l'.Pairwise (fun x y => ¬ ltS y x)) : compactS l' = ofS l := by
 cases l' with
 | nil => rw [← hp.nil_eq]; rfl
 | cons x t =>
  refine sortedS_ext (cptS_sorted x t hs) (ofS_sorted l) fun c => ?_
  show c ∈ x :: cptS x t ↔ _
  rw [cptS_mem, mem_ofS, hp.mem_iff]
def sX (s : ByteArray) : List D := [.v (.string s)]
theorem sX_eq (s : ByteArray) : sX s = [.v (.string s)] := rfl
theorem low_ss (m : Nat) (l : List ByteArray) : low m (.sl 1 (l.map sX)) := by
 rw [low, lowR_iff]
 intro row hr
 obtain ⟨s, _, rfl⟩ := List.mem_map.1 hr
 simp [sX, lowL, low]
theorem lowR_ss (m : Nat) (l : List ByteArray) : lowR m (l.map sX) := by have := low_ss m l; rwa [low] at this
theorem rowsOk_ss (l : List ByteArray) : rowsOk 1 (l.map sX) := fun row hr => by
 obtain ⟨c, _, rfl⟩ := List.mem_map.1 hr
 exact ⟨rfl, fun d hd => by simp [sX] at hd; subst hd; rfl⟩
end
section
set_option maxRecDepth 100000
set_option maxHeartbeats 2000000
attribute [local irreducible] on aOp
attribute [local go_sem] decide_true decide_false Bool.not_true Bool.not_false
attribute [local simp] byD_len
def sameS : List ByteArray → List ByteArray → Bool
 | [], [] => true
 | x :: s, y :: t => decide (x = y) && sameS s t
 | _, _ => false
theorem sameS_len : ∀ a b : List ByteArray, ¬ a.length = b.length → sameS a b = false
 | [], [], h => absurd rfl h
 | [], _ :: _, _ => rfl
 | _ :: _, [], _ => rfl
 | x :: s, y :: t, h => by rw [sameS, sameS_len s t (fun e => h (by simp [e])), Bool.and_false]
theorem sameS_refl : ∀ l : List ByteArray, sameS l l = true
 | [] => rfl
 | x :: t => by rw [sameS, decide_eq_true rfl, Bool.true_and, sameS_refl t]
def hasS : List ByteArray → ByteArray → Bool
 | [], _ => false
 | x :: s, c => decide (x = c) || hasS s c
theorem hasS_mem : ∀ {l : List ByteArray} {c : ByteArray}, hasS l c = true ↔ c ∈ l
 | [], c => by simp [hasS]
 | x :: s, c => by rw [hasS, Bool.or_eq_true, decide_eq_true_eq, hasS_mem, List.mem_cons, eq_comm]
theorem getS (s : ByteArray) : getD Tryz.prog 9 (sX s) 0 = some (.v (.string s)) := by rw [getD_one aggT_9]; rfl
theorem put_s {row : List D} (h : row.length = 1) (c : ByteArray) : putL row 0 [.v (.string c)] = sX c := by
 unfold putL
 rw [List.take_zero, List.nil_append, List.drop_eq_nil_of_le (by rw [h]; exact Nat.le_refl 1), List.append_nil]; rfl
theorem one_map (l : List ByteArray) : ∀ r ∈ l.map sX, r.length = 1 := fun r hr => by
 obtain ⟨c, _, rfl⟩ := List.mem_map.1 hr; rfl
def sG (rows : List (List D)) (T : List Ob) : List Ob := .buf 9 1 rows :: T
section
variable {rows r2 : List (List D)} {T : List Ob} {x y : Ob}
theorem sG_0 : (sG rows T)[0]? = some (.buf 9 1 rows) := rfl
theorem sG_app : sG rows T ++ [x] = sG rows (T ++ [x]) := rfl
theorem sG_len : (sG rows T).length = T.length + 1 := rfl
theorem sG_last : (sG rows (T ++ [x]))[T.length + 1]? = some x := by simp [sG]
theorem sG_lset : (sG rows (T ++ [x])).set (T.length + 1) y = sG rows (T ++ [y]) := by simp [sG]
end
theorem swap_s (t b : List ByteArray) (x z : ByteArray) : (((t ++ [z] ++ x :: b).map sX).set t.length (sX x)).set (t ++ [z]).length (sX z) = (t ++ x :: z :: b).map sX := by
 simp [List.set_append]
variable (G : Nat → D) (hG : ∀ g, low 0 (G g))
include hG
theorem cloneS0 (l : List ByteArray) (hl : l.length ≤ 100000) :
 Does Tryz.prog G 93 [] [.sl 1 (l.map sX)] (fun h' r => h' = [.buf 9 1 (l.map sX)] ∧ r = .buf 0 l.length) := by
 refine Does.nilbuf (K := fun h' r => (h' = [.buf 9 1 (l.map sX)] ∧ r = .buf 0 l.length) ∨ (l = [] ∧ h' = [] ∧ r = .v (.slice none 0 0))) 9 1 ?_ ?_
 rotate_left
 · rintro h' r (h | ⟨rfl, rfl, rfl⟩)
   · exact .inl h
   · exact .inr ⟨rfl, rfl, rfl⟩
 have hro := rowsOk_ss l
 refine does_of_aw Tryz.func93 rfl (Nat.le_of_ble_eq_true rfl) hG fun hl0 _ => ?_
 simp only [Tryz.ntmps93]
 repeat' first
  | (refine ao_ex rfl (tri_nil (k := 1) (xs := l.map sX) (by kernel_rfl)) ?_; rintro _ _ ⟨rfl, ⟨rfl, hnil⟩ | rfl⟩)
  | refine aw_seq' ?_
  | refine aw_region' ?_
  | refine ao_nil ?_
  | (refine ao1 rfl rfl fun K HK => ?_; simp only [go_sem, ↓reduceIte, Nat.reduceEqDiff, Nat.reduceAdd, Nat.reduceLeDiff, Nat.reduceBEq, Nat.reduceMul, Int.reduceEq, Int.reduceLT, Int.reduceLE] <;> (refine HK _ _ ?_; clear HK K))
  | refine ao_appR rfl rfl rfl (by (simp only [go_sem, ↓reduceIte, Nat.reduceEqDiff, Nat.reduceAdd, Nat.reduceLeDiff, Nat.reduceBEq, Nat.reduceMul, Int.reduceEq, Int.reduceLT, Int.reduceLE]; rfl)) (by simp) (by simp only [go_sem]; rfl) rfl (by assumption) (by (simp; omega)) ?_
  | refine aw_if1 rfl ?_
  | refine aw_if0 rfl ?_
  | refine aw_skip ?_
  | refine aw_ret ?_
  | refine thenS_r ?_
 · exact ⟨.inr rfl, endD (r := .v _) hl0 rfl (by simp) (by simp) rfl (by rw [low]; trivial) (.inr ⟨by simpa using hnil, rfl, rfl⟩)⟩
 · exact ⟨.inr rfl, endBk (n := l.length) (rows := l.map sX) rfl (T := []) rfl (by simp) (by simp) (lowR_ss 1 l) (.inl ⟨rfl, rfl⟩)⟩
theorem rsame_d (a b : List ByteArray) (hl : a.length ≤ 1000000) (h : List Ob) : Does Tryz.prog G 26 h [.sl 1 (a.map sX), .sl 1 (b.map sX)] (fun h' r => h' = h ∧ r = .v (.bool (sameS a b))) := by
 refine does_any G hG (by rw [lowL, lowL, lowL]; exact ⟨low_ss _ _, low_ss _ _, trivial⟩) (by rw [low]; trivial) ?_ h
 refine does_of_aw Tryz.func26 rfl (Nat.le_of_ble_eq_true rfl) hG fun hl0 _ => ?_
 simp only [Tryz.ntmps26]
 by_cases hab : a.length = b.length
 rotate_left
 · have e := sameS_len a b hab
   have hab' : ¬ (a.length : Int) = (b.length : Int) := by omega
   repeat' first
    | refine aw_seq' ?_
    | refine aw_region' ?_
    | refine ao_nil ?_
    | (refine ao1 rfl rfl fun K HK => ?_; simp only [go_sem, ↓reduceIte, Nat.reduceEqDiff, Nat.reduceAdd, Nat.reduceLeDiff, Nat.reduceBEq, Nat.reduceMul, Int.reduceEq, Int.reduceLT, Int.reduceLE, hab', List.length_map] <;> (refine HK _ _ ?_; clear HK K))
    | refine aw_if1 rfl ?_
    | refine aw_ret ?_
    | refine thenS_r ?_
   all_goals exact ⟨by simp, endD (r := .v _) hl0 rfl (by simp) (by simp) rfl (by rw [low]; trivial) ⟨rfl, by rw [e]⟩⟩
 have hab' : (a.length : Int) = (b.length : Int) := by omega
 repeat' first
  | refine aw_seq' ?_
  | refine aw_region' ?_
  | refine aw_block ?_
  | refine ao_nil ?_
  | (refine ao1 rfl rfl fun K HK => ?_; simp only [go_sem, ↓reduceIte, Nat.reduceEqDiff, Nat.reduceAdd, Nat.reduceLeDiff, Nat.reduceBEq, Nat.reduceMul, Int.reduceEq, Int.reduceLT, Int.reduceLE, hab', List.length_map] <;> (refine HK _ _ ?_; clear HK K))
  | refine aw_if0 rfl ?_
  | refine aw_skip ?_
 refine aw_for (fun m e h' => ∃ k : Nat, k ≤ a.length ∧ m = a.length - k ∧ sameS a b = sameS (a.drop k) (b.drop k) ∧ h' = [] ∧ e 0 = .sl 1 (a.map sX) ∧ e 1 = .sl 1 (b.map sX) ∧ e 5 = .v (.int .i64 k)) a.length ⟨0, Nat.zero_le _, rfl, rfl, rfl, rfl, rfl, rfl⟩ ?_
 rintro m e h' ⟨k, hk, rfl, ho, rfl, e0, e1, e5⟩
 by_cases hlt : k < a.length
 · have hx : a[k]? = some a[k] := List.getElem?_eq_getElem hlt
   have hy : b[k]? = some b[k] := List.getElem?_eq_getElem (by omega)
   generalize a[k] = x at hx
   generalize b[k] = y at hy
   have wk : IntKind.i64.wrap ((k : Int) + 1) = (k : Int) + 1 := IntWalk.i64_in _ (by omega)
   rw [drop_get hx, drop_get hy, sameS] at ho
   repeat' first
    | refine aw_seq' ?_
    | refine aw_region' ?_
    | refine aw_block ?_
    | refine ao_nil ?_
    | ((first | refine ao1 rfl rfl fun K HK => ?_ | refine aq1 rfl rfl fun K HK => ?_); simp only [go_sem, ↓reduceIte, Nat.reduceEqDiff, Nat.reduceAdd, Nat.reduceLeDiff, Nat.reduceBEq, Nat.reduceMul, Int.reduceEq, Int.reduceLT, Int.reduceLE, e0, e1, e5, sX_eq, wk, List.length_map, Int.toNat_natCast]; (first | refine splitB (fun hq => ?_) (fun hq => ?_) | refine splitN (fun hq => ?_) (fun hq => ?_) | (refine ⟨by omega, by omega, ?_⟩; refine row_at (by assumption) ?_) | skip) <;> ((first | refine HK _ _ ?_ | refine HK _ _ rfl ?_); clear HK K))
    | refine aq_nil ?_
    | (refine aw_draw mixd (by kernel_rfl) ?_)
    | refine aw_if1 rfl ?_
    | refine aw_if0 rfl ?_
    | refine aw_skip ?_
    | refine aw_exit ?_
    | refine aw_ret ?_
    | refine thenS_n ?_
    | refine thenS_r ?_
    | refine inB_r ?_
    | (exfalso; omega)
   · exact ⟨rfl, a.length - (k + 1), by omega, k + 1, hlt, rfl, by rw [ho, decide_eq_true (by assumption)]; rfl, rfl, e0, e1, rfl⟩
   · exact ⟨by simp, endD (r := .v _) hl0 rfl (by simp) (by simp) rfl (by rw [low]; trivial) ⟨rfl, by rw [ho, decide_eq_false (by assumption)]; rfl⟩⟩
 · skip
   repeat' first
    | refine aw_seq' ?_
    | refine aw_region' ?_
    | refine aw_block ?_
    | refine ao_nil ?_
    | ((first | refine ao1 rfl rfl fun K HK => ?_ | refine aq1 rfl rfl fun K HK => ?_); simp only [go_sem, ↓reduceIte, Nat.reduceEqDiff, Nat.reduceAdd, Nat.reduceLeDiff, Nat.reduceBEq, Nat.reduceMul, Int.reduceEq, Int.reduceLT, Int.reduceLE, e0, e1, e5, List.length_map]; (first | refine splitB (fun hq => ?_) (fun hq => ?_) | (refine ⟨by omega, by omega, ?_⟩; intro row hrow; obtain ⟨x, hx, rfl⟩ := row_inv hrow; clear hrow) | skip) <;> ((first | refine HK _ _ ?_ | refine HK _ _ rfl ?_); clear HK K))
    | (refine aw_draw mixd (by kernel_rfl) ?_)
    | refine aw_if1 rfl ?_
    | refine aw_if0 rfl ?_
    | refine aw_skip ?_
    | refine aw_exit ?_
    | refine aw_ret ?_
    | (exfalso; omega)
   exact ⟨by simp, endD (r := .v _) hl0 rfl (by simp) (by simp) rfl (by rw [low]; trivial) ⟨rfl, by rw [ho, List.drop_eq_nil_of_le (by omega), List.drop_eq_nil_of_le (by omega)]; rfl⟩⟩
theorem rhas_d (l : List ByteArray) (c : ByteArray) (hl : l.length ≤ 1000000) (h : List Ob) : Does Tryz.prog G 28 h [.sl 1 (l.map sX), .v (.string c)] (fun h' r => h' = h ∧ r = .v (.bool (hasS l c))) := by
 refine does_any G hG (by rw [lowL, lowL, lowL]; exact ⟨low_ss _ _, by simp [low], trivial⟩) (by rw [low]; trivial) ?_ h
 refine does_of_aw Tryz.func28 rfl (Nat.le_of_ble_eq_true rfl) hG fun hl0 _ => ?_
 simp only [Tryz.ntmps28]
 repeat' first
  | refine aw_seq' ?_
  | refine aw_region' ?_
  | refine aw_block ?_
  | refine ao_nil ?_
  | (refine ao1 rfl rfl fun K HK => ?_; simp only [go_sem, ↓reduceIte, Nat.reduceEqDiff, Nat.reduceAdd, Nat.reduceLeDiff, Nat.reduceBEq, Nat.reduceMul, Int.reduceEq, Int.reduceLT, Int.reduceLE] <;> (refine HK _ _ ?_; clear HK K))
 refine aw_for (fun m e h' => ∃ k : Nat, k ≤ l.length ∧ m = l.length - k ∧ hasS l c = hasS (l.drop k) c ∧ h' = [] ∧ e 0 = .sl 1 (l.map sX) ∧ e 1 = .v (.string c) ∧ e 5 = .v (.int .i64 k)) l.length ⟨0, Nat.zero_le _, rfl, rfl, rfl, rfl, rfl, rfl⟩ ?_
 rintro m e h' ⟨k, hk, rfl, ho, rfl, e0, e1, e5⟩
 by_cases hlt : k < l.length
 · have hx : l[k]? = some l[k] := List.getElem?_eq_getElem hlt
   generalize l[k] = x at hx
   have wk : IntKind.i64.wrap ((k : Int) + 1) = (k : Int) + 1 := IntWalk.i64_in _ (by omega)
   rw [drop_get hx, hasS] at ho
   repeat' first
    | refine aw_seq' ?_
    | refine aw_region' ?_
    | refine aw_block ?_
    | refine ao_nil ?_
    | (refine ao1 rfl rfl fun K HK => ?_; simp only [go_sem, ↓reduceIte, Nat.reduceEqDiff, Nat.reduceAdd, Nat.reduceLeDiff, Nat.reduceBEq, Nat.reduceMul, Int.reduceEq, Int.reduceLT, Int.reduceLE, e0, e1, e5, sX_eq, wk, List.length_map, Int.toNat_natCast]; (first | refine splitB (fun hq => ?_) (fun hq => ?_) | (refine ⟨by omega, by omega, ?_⟩; refine row_at (by assumption) ?_) | skip) <;> (refine HK _ _ ?_; clear HK K))
    | refine aw_if1 rfl ?_
    | refine aw_if0 rfl ?_
    | refine aw_skip ?_
    | refine aw_exit ?_
    | refine aw_ret ?_
    | refine thenS_n ?_
    | refine thenS_r ?_
    | refine inB_r ?_
    | (exfalso; omega)
   · exact ⟨by simp, endD (r := .v _) hl0 rfl (by simp) (by simp) rfl (by rw [low]; trivial) ⟨rfl, by rw [ho, decide_eq_true (by assumption)]; rfl⟩⟩
   · exact ⟨rfl, l.length - (k + 1), by omega, k + 1, hlt, rfl, by rw [ho, decide_eq_false (by assumption)]; rfl, rfl, e0, e1, rfl⟩
 · skip
   repeat' first
    | refine aw_seq' ?_
    | refine aw_region' ?_
    | refine aw_block ?_
    | refine ao_nil ?_
    | (refine ao1 rfl rfl fun K HK => ?_; simp only [go_sem, ↓reduceIte, Nat.reduceEqDiff, Nat.reduceAdd, Nat.reduceLeDiff, Nat.reduceBEq, Nat.reduceMul, Int.reduceEq, Int.reduceLT, Int.reduceLE, e0, e1, e5, List.length_map]; (first | refine splitB (fun hq => ?_) (fun hq => ?_) | (refine ⟨by omega, by omega, ?_⟩; intro row hrow; obtain ⟨x, hx, rfl⟩ := row_inv hrow; clear hrow) | skip) <;> (refine HK _ _ ?_; clear HK K))
    | refine aw_if1 rfl ?_
    | refine aw_if0 rfl ?_
    | refine aw_skip ?_
    | refine aw_exit ?_
    | refine aw_ret ?_
    | (exfalso; omega)
   exact ⟨by simp, endD (r := .v _) hl0 rfl (by simp) (by simp) rfl (by rw [low]; trivial) ⟨rfl, by rw [ho, List.drop_eq_nil_of_le (by omega)]; rfl⟩⟩
theorem rhas_b (l : List ByteArray) (c : ByteArray) (hl : l.length ≤ 1000000) {h : List Ob} {i n : Nat} (hi : h[i]? = some (.buf 9 1 (l.map sX))) (hn : l.length = n) : Does Tryz.prog G 28 h [.buf i n, .v (.string c)] (fun h' r => h' = h ∧ r = .v (.bool (hasS l c))) :=
 Does.borrow hG hi (by rw [← hn]; exact List.length_map _) (by simp [lowL, low]) (low_ss _ _) (rhas_d G hG l c hl [])
theorem rofS0 (l : List ByteArray) (hsz : l.length ≤ 10000) : Does Tryz.prog G 58 [] [.sl 1 (l.map sX)] (fun h' r => h' = [.buf 9 1 ((ofS l).map sX)] ∧ r = .buf 0 (ofS l).length) := by
 refine Does.only0 hG (low_ss _ _) (K := fun h' r => ∃ i, h'[i]? = some (.buf 9 1 ((ofS l).map sX)) ∧ r = .buf i (ofS l).length) ?_ (fun _ _ h => h)
 refine does_keep Tryz.func58 rfl (Nat.le_of_ble_eq_true rfl) ?_
 simp only [Tryz.ntmps58]
 repeat' first
  | refine aw_seq' ?_
  | refine aw_region' ?_
  | refine aw_block ?_
  | refine ao_nil ?_
  | (refine ao1 rfl rfl fun K HK => ?_; simp only [go_sem, ↓reduceIte, Nat.reduceEqDiff, Nat.reduceAdd, Nat.reduceLeDiff, Nat.reduceBEq, Nat.reduceMul, Int.reduceEq, Int.reduceLT, Int.reduceLE] <;> (refine HK _ _ ?_; clear HK K))
 refine aw_for (fun m e h' => ∃ (k : Nat) (T : List Ob), k ≤ l.length ∧ m = l.length - k ∧ h' = sG ((ofS (l.take k)).map sX) T ∧ e 0 = .sl 1 (l.map sX) ∧ e 3 = .buf 0 (ofS (l.take k)).length ∧ e 4 = .v (.int .i64 k)) l.length ⟨0, [], Nat.zero_le _, rfl, rfl, rfl, rfl, rfl⟩ ?_
 rintro m e h' ⟨k, T, hk, rfl, rfl, e0, e3, e4⟩
 by_cases hlt : k < l.length
 rotate_left
 · rw [List.take_of_length_le (by omega)] at e3 ⊢
   repeat' first
    | refine aw_seq' ?_
    | refine aw_region' ?_
    | refine aw_block ?_
    | refine ao_nil ?_
    | (refine ao1 rfl rfl fun K HK => ?_; simp only [go_sem, ↓reduceIte, Nat.reduceEqDiff, Nat.reduceAdd, Nat.reduceLeDiff, Nat.reduceBEq, Nat.reduceMul, Int.reduceEq, Int.reduceLT, Int.reduceLE, e0, e3, e4, List.length_map]; (first | refine splitB (fun hq => ?_) (fun hq => ?_) | (refine ⟨by omega, by omega, ?_⟩; intro row hrow; obtain ⟨x, hx, rfl⟩ := row_inv hrow; clear hrow) | skip) <;> (refine HK _ _ ?_; clear HK K))
    | refine aw_if1 rfl ?_
    | refine aw_if0 rfl ?_
    | refine aw_skip ?_
    | refine aw_exit ?_
    | refine aw_ret ?_
    | (exfalso; omega)
   exact ⟨.inr rfl, [.buf 0 (ofS l).length], rfl, 0, rfl, rfl⟩
 have hx : l[k]? = some l[k] := List.getElem?_eq_getElem hlt
 generalize l[k] = x at hx
 have hof := ofS_snoc (l := l.take k) (x := x)
 rw [show l.take k ++ [x] = l.take (k + 1) by rw [List.take_add_one, hx]; rfl] at hof
 have wk : IntKind.i64.wrap ((k : Int) + 1) = (k : Int) + 1 := IntWalk.i64_in _ (by omega)
 have hso := ofS_sorted (l.take k)
 have hln : (ofS (l.take k)).length ≤ 10000 := by have := ofS_len (l.take k); rw [List.length_take] at this; omega
 generalize ofS (l.take k) = s at *
 have hb : ∀ T, Does Tryz.prog G 28 (sG (s.map sX) T) [.buf 0 s.length, .v (.string x)] (fun h' r => h' = sG (s.map sX) T ∧ r = .v (.bool (hasS s x))) := fun T => rhas_b G hG s x (by omega) sG_0 rfl
 cases hh : hasS s x
 rotate_left
 · rw [hh] at hb
   have hin := insS_has hso (hasS_mem.1 hh)
   repeat' first
    | refine aw_seq' ?_
    | refine aw_region' ?_
    | refine aw_block ?_
    | refine ao_nil ?_
    | (refine ao1 rfl rfl fun K HK => ?_; simp only [go_sem, ↓reduceIte, Nat.reduceEqDiff, Nat.reduceAdd, Nat.reduceLeDiff, Nat.reduceBEq, Nat.reduceMul, Int.reduceEq, Int.reduceLT, Int.reduceLE, e0, e3, e4, wk, sX_eq, List.length_map, Int.toNat_natCast]; (first | refine splitB (fun hq => ?_) (fun hq => ?_) | (refine ⟨by omega, by omega, ?_⟩; refine row_at (by assumption) ?_) | skip) <;> (refine HK _ _ ?_; clear HK K))
    | (refine ao2 rfl rfl rfl ent_28 (hb _) ?_; rintro _ _ ⟨rfl, rfl⟩)
    | refine aw_if1 rfl ?_
    | refine aw_if0 rfl ?_
    | refine aw_skip ?_
    | refine aw_exit ?_
    | refine aw_ret ?_
    | refine thenS_n ?_
    | (exfalso; omega)
   exact ⟨rfl, l.length - (k + 1), by omega, k + 1, _, by omega, rfl, by rw [hof, hin], e0, by rw [hof, hin]; exact e3, rfl⟩
 rw [hh] at hb
 have hnot : x ∉ s := fun q => by rw [hasS_mem.2 q] at hh; cases hh
 repeat' first
  | refine aw_seq' ?_
  | refine aw_region' ?_
  | refine aw_block ?_
  | refine ao_nil ?_
  | (refine ao1 rfl rfl fun K HK => ?_; simp only [go_sem, ↓reduceIte, Nat.reduceEqDiff, Nat.reduceAdd, Nat.reduceLeDiff, Nat.reduceBEq, Nat.reduceMul, Int.reduceEq, Int.reduceLT, Int.reduceLE, e0, e3, e4, wk, sX_eq, sG_app, sG_len, sG_last, sG_0, List.length_map, Int.toNat_natCast]; (first | refine splitB (fun hq => ?_) (fun hq => ?_) | (refine ⟨by omega, by omega, ?_⟩; refine row_at (by assumption) ?_) | skip) <;> (refine HK _ _ ?_; clear HK K))
  | refine ao_appB rfl rfl rfl rfl (by (simp only [go_sem, ↓reduceIte, Nat.reduceEqDiff, Nat.reduceAdd, Nat.reduceLeDiff, Nat.reduceBEq, Nat.reduceMul, Int.reduceEq, Int.reduceLT, Int.reduceLE, e0, e3, e4, wk, sX_eq, sG_app, sG_len, sG_last, sG_0, List.length_map, Int.toNat_natCast]; rfl)) (by simp) (by simp only [go_sem]; rfl) (by (simp only [go_sem, ↓reduceIte, Nat.reduceEqDiff, Nat.reduceAdd, Nat.reduceLeDiff, Nat.reduceBEq, Nat.reduceMul, Int.reduceEq, Int.reduceLT, Int.reduceLE, e0, e3, e4, wk, sX_eq, sG_app, sG_len, sG_last, sG_0, List.length_map, Int.toNat_natCast]; rfl)) (by simp) (by (simp [rowsOk, D.one, Value.oneCell']; done)) (by (simp; omega)) ?_
  | (refine ao2 rfl rfl rfl ent_28 (hb _) ?_; rintro _ _ ⟨rfl, rfl⟩)
  | refine aw_if1 rfl ?_
  | refine aw_if0 rfl ?_
  | refine aw_skip ?_
  | refine aw_exit ?_
  | refine aw_ret ?_
  | (exfalso; omega)
 have w5 : IntKind.i64.wrap (((s.length + 1 : Nat) : Int) - 1) = (s.length : Int) := by rw [show (((s.length + 1 : Nat) : Int) - 1) = (s.length : Int) by omega]; exact IntWalk.i64_in _ (by omega)
 refine aw_for (fun m e h' => ∃ (a b : List ByteArray) (U : List Ob), a ++ b = s ∧ m = a.length ∧ (∀ y ∈ b, ltS x y) ∧ h' = sG ((a ++ x :: b).map sX) U ∧ e 0 = .sl 1 (l.map sX) ∧ e 3 = .buf 0 (s.length + 1) ∧ e 4 = .v (.int .i64 k) ∧ e 5 = .v (.int .i64 a.length)) s.length
  ⟨s, [], _, by simp, rfl, by simp, by rw [List.map_append]; rfl, e0, rfl, e4, by show D.v (.int .i64 (IntKind.i64.wrap (((s.length + 1 : Nat) : Int) - 1))) = _; rw [w5]⟩ ?_
 clear e0 e3 e4 w5
 rintro m e h' ⟨a, b, U, rfl, rfl, hgt, rfl, e0, e3, e4, e5⟩
 have hrl : ((a ++ x :: b).map sX).length = (a ++ b).length + 1 := by simp; omega
 have hla : a.length ≤ 10000 := by rw [List.length_append] at hln; omega
 rcases List.eq_nil_or_concat a with rfl | ⟨t, z, hz⟩
 · have hi := insS_at (a := []) hso hgt (by simp)
   repeat' first
    | refine aw_seq' ?_
    | refine aw_region' ?_
    | refine ao_nil ?_
    | ((first | refine ao1 rfl rfl fun K HK => ?_ | refine aq1 rfl rfl fun K HK => ?_); (first | refine aOp_pick rfl ?_ | skip); simp only [go_sem, ↓reduceIte, Nat.reduceEqDiff, Nat.reduceAdd, Nat.reduceLeDiff, Nat.reduceBEq, Nat.reduceMul, Int.reduceEq, Int.reduceLT, Int.reduceLE, e0, e3, e4, e5, wk]; (first | refine splitB (fun hq => ?_) (fun hq => ?_) | skip) <;> ((first | refine HK _ _ ?_ | refine HK _ _ rfl ?_); clear HK K))
    | refine aq0 rfl rfl ?_
    | refine aq_nil ?_
    | (refine aw_draw mixd (by kernel_rfl) ?_)
    | refine aw_if0 rfl ?_
    | refine aw_exit ?_
    | refine thenS_n ?_
    | (exfalso; omega)
   exact ⟨rfl, l.length - (k + 1), by omega, k + 1, U, by omega, rfl, by rw [hof, hi]; rfl, e0, by show e 3 = _; rw [e3, hof, hi]; rfl, rfl⟩
 rw [List.concat_eq_append] at hz; subst hz
 have w1 : IntKind.i64.wrap (((t ++ [z]).length : Int) - 1) = (t.length : Int) := by rw [show (((t ++ [z]).length : Int) - 1) = (t.length : Int) by simp]; exact IntWalk.i64_in _ (by rw [List.length_append] at hla; omega)
 have hzr : ((t ++ [z] ++ x :: b).map sX)[(t.length : Int).toNat]? = some (sX z) := by rw [Int.toNat_natCast]; simp
 have hxr : ((t ++ [z] ++ x :: b).map sX)[((t ++ [z]).length : Int).toNat]? = some (sX x) := by rw [Int.toNat_natCast, List.getElem?_map, List.getElem?_append_right (Nat.le_refl _)]; simp
 have hpos : (0 : Int) < ((t ++ [z]).length : Int) := by rw [List.length_append]; simp only [List.length_cons, List.length_nil]; omega
 have hlt3 : ((t ++ [z]).length : Int) < (((t ++ [z] ++ b).length + 1 : Nat) : Int) := by simp only [List.length_append, List.length_cons, List.length_nil]; omega
 have hlt4 : (t.length : Int) < (((t ++ [z] ++ b).length + 1 : Nat) : Int) := by simp only [List.length_append, List.length_cons, List.length_nil]; omega
 have hzx : z ≠ x := fun q => hnot (by rw [← q]; simp)
 generalize hn1 : (t ++ [z]).length = n1 at *
 generalize hn2 : (t ++ [z] ++ b).length + 1 = n2 at *
 generalize hrw : (t ++ [z] ++ x :: b).map sX = rows at *
 have hne : t.length ≠ n1 := by rw [← hn1]; simp
 have hxr2 : ∀ y, (rows.set (t.length : Int).toNat y)[(n1 : Int).toNat]? = some (sX x) := fun y => by rw [List.getElem?_set_ne (by rw [Int.toNat_natCast, Int.toNat_natCast]; exact hne)]; exact hxr
 have hls : ∀ y, (rows.set (t.length : Int).toNat y).length = n2 := fun y => by rw [List.length_set]; exact hrl
 by_cases hlt5 : ltS z x
 · have hb1 : (Op.bytesLess z.toList x.toList || decide (z = x)) = true := by rw [bl_ltS, decide_eq_true hlt5]; rfl
   repeat' first
    | (refine aS_idxB rfl rfl rfl rfl sG_0 hrl (by rw [elT_42]; exact szT_9) (by omega) (by omega) ?_)
    | (refine aS_loadB rfl rfl rfl sG_0 hrl hzr (getS _) ?_)
    | (refine aS_loadB rfl rfl rfl sG_0 hrl hxr (getS _) ?_)
    | refine aw_seq' ?_
    | refine aw_region' ?_
    | refine ao_nil ?_
    | ((first | refine ao1 rfl rfl fun K HK => ?_ | refine aS1 rfl rfl fun K HK => ?_); (first | refine aOp_pick rfl ?_ | skip); simp only [go_sem, ↓reduceIte, Nat.reduceEqDiff, Nat.reduceAdd, Nat.reduceLeDiff, Nat.reduceBEq, Nat.reduceMul, Int.reduceEq, Int.reduceLT, Int.reduceLE, e0, e3, e4, e5, wk, w1, hpos, hb1, Bool.false_eq_true] <;> ((first | refine HK _ _ ?_ | refine HK _ _ rfl ?_); clear HK K))
    | (refine aw_drawE mixd (by kernel_rfl) ?_)
    | refine aS_nil (by simp only [List.reverse_cons, List.reverse_nil, List.nil_append, List.cons_append, chkAll, chk1]; repeat' (first | exact trivial | refine And.intro ?_ ?_ | exact .inr compat_pl | exact .inr compat_pr | exact .inr compat_rr)) ?_
    | refine aw_if0 rfl ?_
    | refine aw_exit ?_
    | refine thenS_n ?_
   have hi := insS_at (a := t ++ [z]) hso hgt (fun y hy => by simp at hy; rw [← hy]; exact hlt5)
   exact ⟨rfl, l.length - (k + 1), by omega, k + 1, U, by omega, rfl, by rw [hof, hi, hrw], e0, by show e 3 = _; rw [e3, hof, hi, ← hn2]; congr 1; simp only [List.length_append, List.length_cons, List.length_nil]; omega, rfl⟩
 · have hb1 : (Op.bytesLess z.toList x.toList || decide (z = x)) = false := by rw [bl_ltS, decide_eq_false hlt5, decide_eq_false hzx]; rfl
   have hxz : ltS x z := (ltS_tri z x).elim (fun q => absurd q hlt5) fun q => q.elim (fun q => absurd q hzx) id
   repeat' first
    | (refine aS_idxB rfl rfl rfl rfl sG_0 hrl (by rw [elT_42]; exact szT_9) (by omega) (by omega) ?_)
    | (refine aS_idxB rfl rfl rfl rfl rfl (hls _) (by rw [elT_42]; exact szT_9) (by omega) (by omega) ?_)
    | (refine aS_loadB rfl rfl rfl sG_0 hrl hzr (getS _) ?_)
    | (refine aS_loadB rfl rfl rfl sG_0 hrl hxr (getS _) ?_)
    | (refine aS_storeB rfl rfl sG_0 hrl hzr rfl (by rw [szT_9]; rfl) (Nat.le_refl 1) ?_)
    | (refine aS_storeB rfl rfl rfl (hls _) (hxr2 _) rfl (by rw [szT_9]; rfl) (Nat.le_refl 1) ?_)
    | refine aw_seq' ?_
    | refine aw_region' ?_
    | refine aw_block ?_
    | refine ao_nil ?_
    | ((first | refine ao1 rfl rfl fun K HK => ?_ | refine aS1 rfl rfl fun K HK => ?_); (first | refine aOp_pick rfl ?_ | skip); simp only [go_sem, ↓reduceIte, Nat.reduceEqDiff, Nat.reduceAdd, Nat.reduceLeDiff, Nat.reduceBEq, Nat.reduceMul, Int.reduceEq, Int.reduceLT, Int.reduceLE, e0, e3, e4, e5, wk, w1, hpos, hb1, Bool.false_eq_true] <;> ((first | refine HK _ _ ?_ | refine HK _ _ rfl ?_); clear HK K))
    | (refine aw_drawE mixd (by kernel_rfl) ?_)
    | refine aS_nil (by simp only [List.reverse_cons, List.reverse_nil, List.nil_append, List.cons_append, chkAll, chk1]; repeat' (first | exact trivial | refine And.intro ?_ ?_ | exact .inr compat_pl | exact .inr compat_pr | exact .inr compat_rr | exact .inl (by kernel_rfl))) ?_
    | refine aw_if1 rfl ?_
    | refine aw_skip ?_
    | refine thenS_n ?_
   refine ⟨rfl, t.length, by rw [← hn1]; simp, t, z :: b, U, by simp, rfl, fun y hy => ?_, ?_, e0, e3, e4, rfl⟩
   · rcases List.mem_cons.1 hy with rfl | hy
     · exact hxz
     · exact hgt y hy
   · show sG ((rows.set (t.length : Int).toNat (putL (sX z) 0 [.v (.string x)])).set (n1 : Int).toNat (putL (sX x) 0 [.v (.string z)])) U = _
     rw [put_s rfl, put_s rfl, Int.toNat_natCast, Int.toNat_natCast, ← hrw, ← hn1, swap_s]
end
end Go.Proofs.YtidpdgdakghfnaaGreat
