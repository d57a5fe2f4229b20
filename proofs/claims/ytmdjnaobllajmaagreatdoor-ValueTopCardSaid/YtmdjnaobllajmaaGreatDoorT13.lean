/-
  What the statements of the chapter share, part 13: PEnc, VWri0, VWri1, VWri2, VWri3, VRead4.
-/
import Derived.Test.YtmdjnaobllajmaaGreatDoorT08
import Derived.Test.YtmdjnaobllajmaaGreatDoorT09
import Derived.Test.YtmdjnaobllajmaaGreatDoorT10
import Derived.Test.YtmdjnaobllajmaaGreatDoorT12
set_option linter.unusedVariables false
set_option linter.unusedSimpArgs false
set_option maxRecDepth 100000
set_option maxHeartbeats 8000000
namespace Go.Proofs.YtmdjnaobllajmaaGreatDoor
open Go.RowKit
/-! What was read. -/
structure Tks {α : Type} (f : RS → α × RS) (enc : α → List UInt8) : Prop where
 ok : ∀ s, s.Ok → (f s).2.Ok ∧ (f s).2.data = s.data
 took : ∀ s, s.Ok → (f s).2.err = 0 → Took s (f s).2 (enc (f s).1)
theorem tks_text : Tks rdText textE := ⟨fun _ h => ⟨(rdBytes_ok h).1, (rdBytes_ok h).2.1⟩, fun s h he => rdBytes_took h he⟩
theorem rdSmall_ok (m : Nat) {s : RS} (h : s.Ok) : (rdSmall m s).2.Ok ∧ (rdSmall m s).2.data = s.data := by
 unfold rdSmall
 obtain ⟨h1, h2, _⟩ := rdUint_ok h
 show (if m < (rdUint s).1 then (rdUint s).2.fail else (rdUint s).2).Ok ∧ (if m < (rdUint s).1 then (rdUint s).2.fail else (rdUint s).2).data = s.data
 split
 · exact ⟨h1.fail, (RS.fail_data _).trans h2⟩
 · exact ⟨h1, h2⟩
theorem fail_err (s : RS) : s.fail.err ≠ 0 := by
 unfold RS.fail
 split
 · exact fun h => absurd (show (2 : Int) = 0 from h) (by decide)
 · assumption
theorem rdSmall_took (m : Nat) {s : RS} (h : s.Ok) (he : (rdSmall m s).2.err = 0) : Took s (rdSmall m s).2 (uintE (rdSmall m s).1) := by
 by_cases hm : m < (rdUint s).1
 · have : (rdSmall m s).2 = (rdUint s).2.fail := if_pos hm
   rw [this] at he
   exact absurd he (fail_err _)
 · have e : rdSmall m s = rdUint s := by
    unfold rdSmall
    rw [if_neg hm, if_neg hm]
   rw [e] at he ⊢
   exact rdUint_took h he
theorem tks_tick : Tks rdTick fun t => uintE t.process.toNat ++ uintE t.n.toNat := ⟨fun s h => by
    obtain ⟨h1, h2⟩ := rdSmall_ok 63 h
    obtain ⟨h3, h4⟩ := rdSmall_ok 1000000000000000 h1
    exact ⟨h3, h4.trans h2⟩, fun s h he => by
    obtain ⟨h1, h2⟩ := rdSmall_ok 63 h
    have t2 := rdSmall_took 1000000000000000 h1 he
    exact (rdSmall_took 63 h t2.err.1).trans t2⟩
theorem rdLoop_keeps {α : Type} {f : RS → α × RS} {enc : α → List UInt8} (hf : Tks f enc) : ∀ (n : Nat) (s : RS), s.Ok → (rdLoop f n s).2.Ok ∧ (rdLoop f n s).2.data = s.data
 | 0, s, h => ⟨h, rfl⟩
 | n + 1, s, h => by
   by_cases he : s.err = 0
   · rw [rdLoop_go f n s he]
     obtain ⟨h1, h2⟩ := hf.ok s h
     obtain ⟨h3, h4⟩ := rdLoop_keeps hf n _ h1
     exact ⟨h3, h4.trans h2⟩
   · rw [rdLoop_bad f _ s he]
     exact ⟨h, rfl⟩
theorem rdLoop_took {α : Type} {f : RS → α × RS} {enc : α → List UInt8} (hf : Tks f enc) : ∀ (n : Nat) (s : RS), s.Ok → (rdLoop f n s).2.err = 0 → Took s (rdLoop f n s).2 ((rdLoop f n s).1.flatMap enc) ∧ (rdLoop f n s).1.length = n
 | 0, s, _, he => ⟨Took.refl he, rfl⟩
 | n + 1, s, h, he => by
   by_cases h0 : s.err = 0
   · rw [rdLoop_go f n s h0] at he ⊢
     obtain ⟨h1, h2⟩ := hf.ok s h
     obtain ⟨h3, h4⟩ := rdLoop_took hf n _ h1 he
     refine ⟨?_, by simp only [List.length_cons, h4]⟩
     rw [List.flatMap_cons]
     exact (hf.took s h h3.err.1).trans h3
   · rw [rdLoop_bad f _ s h0] at he
     exact absurd he h0
def rdList {α : Type} (f : RS → α × RS) (s : RS) : List α × RS := rdLoop f (rdCount s).1 (rdCount s).2
theorem tks_list {α : Type} {f : RS → α × RS} {enc : α → List UInt8} (hf : Tks f enc) : Tks (rdList f) fun l => uintE l.length ++ l.flatMap enc := ⟨fun s h => by
    obtain ⟨h1, h2, _⟩ := rdCount_ok h
    obtain ⟨h3, h4⟩ := rdLoop_keeps hf (rdCount s).1 _ h1
    exact ⟨h3, h4.trans h2⟩, fun s h he => by
    obtain ⟨h1, h2, _⟩ := rdCount_ok h
    obtain ⟨h3, h4⟩ := rdLoop_took hf (rdCount s).1 _ h1 he
    have t := (rdCount_took h h3.err.1).trans h3
    show Took s _ (uintE (rdList f s).1.length ++ _)
    rw [show (rdList f s).1.length = (rdCount s).1 from h4]
    exact t⟩
theorem ticksE_eq : ∀ l : List Tk, ticksE l = l.flatMap fun t => uintE t.process.toNat ++ uintE t.n.toNat
  | [] => rfl
  | t :: r => by rw [ticksE, List.flatMap_cons, ticksE_eq r, List.append_assoc]
theorem entriesE_eq : ∀ l : List En, entriesE l = l.flatMap entryE
 | [] => rfl
 | t :: r => by rw [entriesE, List.flatMap_cons, entriesE_eq r]
theorem textsE_eq : ∀ l : List ByteArray, textsE l = l.flatMap textE
 | [] => rfl
 | t :: r => by rw [textsE, List.flatMap_cons, textsE_eq r]
theorem tks_entry : Tks rdEntry entryE := ⟨fun s h => by
    obtain ⟨h1, h2⟩ := (tks_list tks_tick).ok s h
    obtain ⟨h3, h4⟩ := tks_text.ok _ h1
    exact ⟨h3, h4.trans h2⟩, fun s h he => by
    obtain ⟨h1, h2⟩ := (tks_list tks_tick).ok s h
    have t2 := tks_text.took _ h1 he
    have t1 := (tks_list tks_tick).took s h t2.err.1
    have t := t1.trans t2
    unfold entryE
    rw [ticksE_eq, ← List.append_assoc]
    exact t⟩
theorem tks_pair {f : RS → Val × RS} {enc : Val → List UInt8} (hf : Tks f enc) : Tks (rdPair f) fun x => textE x.1 ++ enc x.2 := ⟨fun s h => by
    obtain ⟨h1, h2⟩ := tks_text.ok s h
    obtain ⟨h3, h4⟩ := hf.ok _ h1
    exact ⟨h3, h4.trans h2⟩, fun s h he => by
    obtain ⟨h1, h2⟩ := tks_text.ok s h
    have t2 := hf.took _ h1 he
    exact (tks_text.took s h t2.err.1).trans t2⟩
theorem sizeOf_lpart {l p : Lat} (h : p ∈ l.parts) : SizeOf.sizeOf p < SizeOf.sizeOf l := by
 cases l
 have := List.sizeOf_lt_of_mem h
 simp only [Lat.parts] at this
 simp only [Lat.mk.sizeOf_spec]
 omega
theorem readParts_keeps : ∀ (ps : List Lat), (∀ p ∈ ps, ∀ s, s.Ok → (readV p s).2.Ok ∧ (readV p s).2.data = s.data) → ∀ s : RS, s.Ok → (readParts ps s).2.Ok ∧ (readParts ps s).2.data = s.data
 | [], _, s, h => by rw [readParts]; exact ⟨h, rfl⟩
 | p :: t, H, s, h => by
   rw [readParts]
   obtain ⟨h1, h2⟩ := H p (by simp) s h
   obtain ⟨h3, h4⟩ := readParts_keeps t (fun q hq => H q (by simp [hq])) _ h1
   exact ⟨h3, h4.trans h2⟩
theorem readParts_took : ∀ (ps : List Lat), (∀ p ∈ ps, Tks (readV p) (putV p)) → ∀ s : RS, s.Ok → (readParts ps s).2.err = 0 → Took s (readParts ps s).2 (putVs ps (readParts ps s).1) ∧ (readParts ps s).1.length = ps.length
 | [], _, s, h, he => by rw [readParts] at he ⊢; exact ⟨by rw [putVs]; exact Took.refl he, rfl⟩
 | p :: t, H, s, h, he => by
   rw [readParts] at he ⊢
   obtain ⟨h1, h2⟩ := (H p (by simp)).ok s h
   obtain ⟨h3, h4⟩ := readParts_took t (fun q hq => H q (by simp [hq])) _ h1 he
   refine ⟨?_, by simp only [List.length_cons, h4]⟩
   rw [putVs]
   exact ((H p (by simp)).took s h h3.err.1).trans h3
theorem readV_1 {lo hi : Int} {ns : List ByteArray} {ps : List Lat} {rs : List Rl} (s : RS) : readV (.mk 1 lo hi ns ps rs) s = (.mk (if (rdBool s).1 then 1 else 0) [] [] [], (rdBool s).2) := by rw [readV]; rfl
theorem readV_23 {k lo hi : Int} {ns : List ByteArray} {ps : List Lat} {rs : List Rl} (hk : k = 2 ∨ k = 3) (s : RS) : readV (.mk k lo hi ns ps rs) s = (.mk (rdInt s).1 [] [] [], (rdInt s).2) := by
 rw [readV, if_neg (by omega), if_pos hk]
theorem readV_410 {k lo hi : Int} {ns : List ByteArray} {ps : List Lat} {rs : List Rl} (hk : k = 4 ∨ k = 10) (s : RS) : readV (.mk k lo hi ns ps rs) s = (.mk 0 (rdList rdText s).1 [] [], (rdList rdText s).2) := by
 rw [readV, if_neg (by omega), if_neg (by omega), if_pos hk]; rfl
theorem readV_5 {lo hi : Int} {ns : List ByteArray} {p : Lat} {rs : List Rl} (s : RS) : readV (.mk 5 lo hi ns [p] rs) s = (.mk 0 ((rdList (rdPair (readV p)) s).1.map Prod.fst) ((rdList (rdPair (readV p)) s).1.map Prod.snd) [], (rdList (rdPair (readV p)) s).2) := by
 rw [readV, if_neg (by decide), if_neg (by decide), if_neg (by decide), if_pos (by rfl)]
 simp only [readMap]
 rfl
theorem readV_8 {lo hi : Int} {ns : List ByteArray} {ps : List Lat} {rs : List Rl} (s : RS) : readV (.mk 8 lo hi ns ps rs) s = if (rdSmall 2 s).1 = 1 then (.mk 1 [(rdText (rdSmall 2 s).2).1] [] [], (rdText (rdSmall 2 s).2).2) else (.mk ((rdSmall 2 s).1 : Nat) [] [] [], (rdSmall 2 s).2) := by
 rw [readV, if_neg (by decide), if_neg (by decide), if_neg (by decide), if_neg (by decide), if_pos (by rfl)]
theorem readV_9 {lo hi : Int} {ns : List ByteArray} {ps : List Lat} {rs : List Rl} (s : RS) : readV (.mk 9 lo hi ns ps rs) s = (.mk 0 [] [] (rdList rdEntry s).1, (rdList rdEntry s).2) := by
 rw [readV, if_neg (by decide), if_neg (by decide), if_neg (by decide), if_neg (by decide), if_neg (by decide), if_pos (by rfl)]; rfl
theorem readV_67 {k lo hi : Int} {ns : List ByteArray} {ps : List Lat} {rs : List Rl} (hk : k = 6 ∨ k = 7) (s : RS) : readV (.mk k lo hi ns ps rs) s = (.mk 0 [] (readParts ps s).1 [], (readParts ps s).2) := by
 rw [readV, if_neg (by omega), if_neg (by omega), if_neg (by omega), if_neg (by omega), if_neg (by omega), if_neg (by omega)]
theorem putV_1 {lo hi : Int} {ns : List ByteArray} {ps : List Lat} {rs : List Rl} (v : Val) : putV (.mk 1 lo hi ns ps rs) v = boolE (decide (v.n = 1)) := by rw [putV, if_pos (by rfl)]
theorem putV_23 {k lo hi : Int} {ns : List ByteArray} {ps : List Lat} {rs : List Rl} (hk : k = 2 ∨ k = 3) (v : Val) : putV (.mk k lo hi ns ps rs) v = intE v.n := by
 rw [putV, if_neg (by omega), if_pos hk]
theorem putV_410 {k lo hi : Int} {ns : List ByteArray} {ps : List Lat} {rs : List Rl} (hk : k = 4 ∨ k = 10) (v : Val) : putV (.mk k lo hi ns ps rs) v = uintE v.names.length ++ v.names.flatMap textE := by
 rw [putV, if_neg (by omega), if_neg (by omega), if_pos hk, textsE_eq]
theorem putV_5 {lo hi : Int} {ns : List ByteArray} {p : Lat} {rs : List Rl} (v : Val) : putV (.mk 5 lo hi ns [p] rs) v = uintE v.names.length ++ (v.names.zip v.parts).flatMap fun x => textE x.1 ++ putV p x.2 := by
  rw [putV, if_neg (by decide), if_neg (by decide), if_neg (by decide), if_pos (by rfl), putMap]
theorem putV_8 {lo hi : Int} {ns : List ByteArray} {ps : List Lat} {rs : List Rl} (v : Val) : putV (.mk 8 lo hi ns ps rs) v = uintE v.n.toNat ++ (if v.n = 1 then textE (v.names.headD ByteArray.empty) else []) := by
 rw [putV, if_neg (by decide), if_neg (by decide), if_neg (by decide), if_neg (by decide), if_pos (by rfl)]
theorem putV_9 {lo hi : Int} {ns : List ByteArray} {ps : List Lat} {rs : List Rl} (v : Val) : putV (.mk 9 lo hi ns ps rs) v = uintE v.entries.length ++ v.entries.flatMap entryE := by
 rw [putV, if_neg (by decide), if_neg (by decide), if_neg (by decide), if_neg (by decide), if_neg (by decide), if_pos (by rfl), entriesE_eq]
theorem putV_67 {k lo hi : Int} {ns : List ByteArray} {ps : List Lat} {rs : List Rl} (hk : k = 6 ∨ k = 7) (v : Val) : putV (.mk k lo hi ns ps rs) v = putVs ps v.parts := by
 rw [putV, if_neg (by omega), if_neg (by omega), if_neg (by omega), if_neg (by omega), if_neg (by omega), if_neg (by omega)]
theorem kind_cases {k : Int} (h : 1 ≤ k ∧ k ≤ 10) : k = 1 ∨ (k = 2 ∨ k = 3) ∨ (k = 4 ∨ k = 10) ∨ k = 5 ∨ (k = 6 ∨ k = 7) ∨ k = 8 ∨ k = 9 := by omega
theorem zip_map {α β : Type} : ∀ l : List (α × β), (l.map Prod.fst).zip (l.map Prod.snd) = l
 | [] => rfl
 | (a, b) :: t => by simp [zip_map t]
theorem tks_read (f : Nat) : ∀ l : Lat, SizeOf.sizeOf l ≤ f → WfL l → Tks (readV l) (putV l) := by
 induction f with
 | zero => intro l hn; cases l; simp at hn
 | succ f ih =>
   intro l hn hwf
   have hk := hwf.kinds
   have hp : ∀ p ∈ l.parts, Tks (readV p) (putV p) := fun p hp => ih p (by have := sizeOf_lpart hp; omega) (hwf.part hp)
   obtain ⟨k, lo, hi, ns, ps, rs⟩ := l
   simp only [Lat.kind, Lat.lo, Lat.hi, Lat.names, Lat.parts, Lat.rules] at hk hp
   rcases kind_cases hk.1 with rfl | e | e | rfl | e | rfl | rfl
   · refine ⟨fun s h => ?_, fun s h he => ?_⟩
     · rw [readV_1]; exact rdBool_ok h
     · rw [readV_1] at he ⊢
       have := rdBool_took h he
       rw [putV_1]
       simp only [Val.n]
       cases hb : (rdBool s).1 <;> rw [hb] at this <;> exact this
   · refine ⟨fun s h => ?_, fun s h he => ?_⟩
     · rw [readV_23 e]; exact ⟨(rdInt_ok h).1, (rdInt_ok h).2.1⟩
     · rw [readV_23 e] at he ⊢
       rw [putV_23 e]
       exact rdInt_took h he
   · refine ⟨fun s h => ?_, fun s h he => ?_⟩
     · rw [readV_410 e]; exact (tks_list tks_text).ok s h
     · rw [readV_410 e] at he ⊢
       rw [putV_410 e]
       exact (tks_list tks_text).took s h he
   · obtain ⟨p, rfl⟩ := List.length_eq_one_iff.1 (hk.2.1 rfl)
     have hq := tks_list (tks_pair (hp p (by simp)))
     refine ⟨fun s h => ?_, fun s h he => ?_⟩
     · rw [readV_5]; exact hq.ok s h
     · rw [readV_5] at he ⊢
       rw [putV_5]
       simp only [Val.names, Val.parts, zip_map, List.length_map]
       exact hq.took s h he
   · refine ⟨fun s h => ?_, fun s h he => ?_⟩
     · rw [readV_67 e]; exact readParts_keeps ps (fun p hpm => (hp p hpm).ok) s h
     · rw [readV_67 e] at he ⊢
       rw [putV_67 e]
       exact (readParts_took ps hp s h he).1
   · refine ⟨fun s h => ?_, fun s h he => ?_⟩
     · rw [readV_8]
       obtain ⟨h1, h2⟩ := rdSmall_ok 2 h
       split
       · obtain ⟨h3, h4⟩ := tks_text.ok _ h1
         exact ⟨h3, h4.trans h2⟩
       · exact ⟨h1, h2⟩
     · rw [readV_8] at he ⊢
       obtain ⟨h1, h2⟩ := rdSmall_ok 2 h
       rw [putV_8]
       by_cases h8 : (rdSmall 2 s).1 = 1
       · rw [if_pos h8] at he ⊢
         simp only [Val.n, Val.names, if_true, List.headD_cons]
         have t2 := tks_text.took _ h1 he
         have t1 := rdSmall_took 2 h t2.err.1
         rw [h8] at t1
         exact t1.trans t2
       · rw [if_neg h8] at he ⊢
         rw [show (if (Val.mk ((rdSmall 2 s).1 : Nat) [] [] []).n = 1 then textE ((Val.mk ((rdSmall 2 s).1 : Nat) [] [] []).names.headD ByteArray.empty) else []) = [] from if_neg (by show ¬ (((rdSmall 2 s).1 : Nat) : Int) = 1; omega), List.append_nil]
         exact rdSmall_took 2 h he
   · refine ⟨fun s h => ?_, fun s h he => ?_⟩
     · rw [readV_9]; exact (tks_list tks_entry).ok s h
     · rw [readV_9] at he ⊢
       rw [putV_9]
       exact (tks_list tks_entry).took s h he
/-! What was written. -/
def Rds {α : Type} (f : RS → α × RS) (x : α) (bs : List UInt8) : Prop := ∀ (s : RS) (r : List UInt8), s.Ok → s.err = 0 → s.data.length < 18446744073709551616 → s.data.drop s.pos = bs ++ r → ∃ s', f s = (x, s') ∧ s'.Ok ∧ Took s s' bs
theorem took_rest {s t : RS} {bs r : List UInt8} (h : Took s t bs) (hr : s.data.drop s.pos = bs ++ r) : t.data.drop t.pos = r := by
 have := h.read
 rw [hr] at this
 exact (List.append_cancel_left this).symm
theorem took_len {s t : RS} {bs : List UInt8} (h : Took s t bs) : t.data.length = s.data.length := congrArg List.length h.data
theorem rds_go {s : RS} {bs r : List UInt8} (ho : s.Ok) (he : s.err = 0) (hr : s.data.drop s.pos = bs ++ r) : (s.go bs.length).Ok ∧ Took s (s.go bs.length) bs := by
 have hp := go_pos ho.pos hr
 refine ⟨ho.go hp, took_go he hp ?_⟩
 rw [hr, List.take_left]
theorem rds_uint {n : Nat} (hn : n < 18446744073709551616) : Rds rdUint n (uintE n) := fun s r ho he _ hr => ⟨_, rdUint_of he hn hr, rds_go ho he hr⟩
theorem rds_int {n : Int} (hn : -9223372036854775808 ≤ n ∧ n ≤ 9223372036854775807) : Rds rdInt n (intE n) := fun s r ho he _ hr => ⟨_, rdInt_of he hn hr, rds_go ho he hr⟩
theorem rds_bool (b : Bool) : Rds rdBool b (boolE b) := fun s r ho he _ hr => ⟨_, rdBool_of he hr, rds_go ho he hr⟩
theorem rds_text (q : ByteArray) : Rds rdText q (textE q) := fun s r ho he hl hr => by
  have hb : s.data.drop s.pos = bytesE q.data.toList ++ r := hr
  have hlen := congrArg List.length hb
  rw [List.length_drop, List.length_append] at hlen
  unfold bytesE at hlen
  rw [List.length_append] at hlen
  refine ⟨_, ?_, rds_go ho he hb⟩
  unfold rdText
  rw [rdBytes_of he ho.pos (by omega) hb]
  rfl
theorem rds_small {m n : Nat} (hn : n ≤ m) (hm : m < 18446744073709551616) : Rds (rdSmall m) n (uintE n) := fun s r ho he hl hr => by
  obtain ⟨s', h1, h2⟩ := rds_uint (n := n) (by omega) s r ho he hl hr
  refine ⟨s', ?_, h2⟩
  unfold rdSmall
  rw [h1, if_neg (by omega), if_neg (by omega)]
theorem Rds.bind {α β γ : Type} {f : RS → α × RS} {x : α} {a : List UInt8} (hf : Rds f x a) {g : RS → β × RS} {y : β} {b : List UInt8} (hg : Rds g y b) {h : RS → γ × RS} {z : γ} (hh : ∀ s s' s'', f s = (x, s') → g s' = (y, s'') → h s = (z, s'')) : Rds h z (a ++ b) := fun s r ho he hl hr => by
  rw [List.append_assoc] at hr
  obtain ⟨s', h1, h2, h3⟩ := hf s _ ho he hl hr
  obtain ⟨s'', h4, h5, h6⟩ := hg s' r h2 h3.err.2 (by rw [took_len h3]; exact hl) (took_rest h3 hr)
  exact ⟨s'', hh s s' s'' h1 h4, h5, h3.trans h6⟩
theorem rds_tick {t : Tk} (h1 : 0 ≤ t.process ∧ t.process ≤ 63) (h2 : 0 ≤ t.n ∧ t.n ≤ 1000000000000000) : Rds rdTick t (uintE t.process.toNat ++ uintE t.n.toNat) :=
 (rds_small (m := 63) (n := t.process.toNat) (by omega) (by decide)).bind (rds_small (m := 1000000000000000) (n := t.n.toNat) (by omega) (by decide)) fun s s' s'' e1 e2 => by
   unfold rdTick
   rw [e1, e2]
   obtain ⟨p, n⟩ := t
   simp only at h1 h2 ⊢
   rw [Int.toNat_of_nonneg h1.1, Int.toNat_of_nonneg h2.1]
theorem rds_loop {α : Type} {f : RS → α × RS} {enc : α → List UInt8} : ∀ (l : List α), (∀ x ∈ l, Rds f x (enc x)) → Rds (rdLoop f l.length) l (l.flatMap enc)
 | [], _ => fun s r ho he hl hr => ⟨s, rfl, ho, Took.refl he⟩
 | x :: t, h => fun s r ho he hl hr => by
   rw [List.flatMap_cons, List.append_assoc] at hr
   obtain ⟨s', h1, h2, h3⟩ := h x (by simp) s _ ho he hl hr
   obtain ⟨s'', h4, h5, h6⟩ := rds_loop t (fun y hy => h y (by simp [hy])) s' r h2 h3.err.2 (by rw [took_len h3]; exact hl) (took_rest h3 hr)
   refine ⟨s'', ?_, h5, by rw [List.flatMap_cons]; exact h3.trans h6⟩
   show rdLoop f (t.length + 1) s = _
   rw [rdLoop_go f _ s he, h1, h4]
theorem flatMap_len {α : Type} {enc : α → List UInt8} (h1 : ∀ x, 1 ≤ (enc x).length) : ∀ l : List α, l.length ≤ (l.flatMap enc).length
 | [] => Nat.zero_le _
 | x :: t => by
   rw [List.flatMap_cons, List.length_append, List.length_cons]
   have := h1 x
   have := flatMap_len h1 t
   omega
theorem rds_list {α : Type} {f : RS → α × RS} {enc : α → List UInt8} (h1 : ∀ x, 1 ≤ (enc x).length) (l : List α) (h : ∀ x ∈ l, Rds f x (enc x)) : Rds (rdList f) l (uintE l.length ++ l.flatMap enc) := fun s r ho he hl hr => by
  rw [List.append_assoc] at hr
  have hlen := congrArg List.length hr
  rw [List.length_drop, List.length_append, List.length_append] at hlen
  have := flatMap_len h1 l
  have hc := rdCount_of he ho.pos (n := l.length) (by omega) hr (by rw [List.length_append]; omega)
  obtain ⟨h2, h3⟩ := rds_go ho he hr
  obtain ⟨s'', h4, h5, h6⟩ := rds_loop l h _ r h2 h3.err.2 hl (took_rest h3 hr)
  refine ⟨s'', ?_, h5, h3.trans h6⟩
  unfold rdList
  rw [hc]
  exact h4
theorem uintE_pos (n : Nat) : 1 ≤ (uintE n).length := by
 by_cases h : n < 128
 · rw [uintE_lt h]; exact Nat.le_refl _
 · rw [uintE_ge (by omega), List.length_cons]; omega
theorem textE_pos (s : ByteArray) : 1 ≤ (textE s).length := by
 unfold textE
 rw [List.length_append]
 have := uintE_pos s.size
 omega
theorem entryE_pos (e : En) : 1 ≤ (entryE e).length := by
 unfold entryE
 rw [List.length_append]
 have := uintE_pos e.clock.length
 omega
theorem clockFrom_mem : ∀ (last : Int) (c : List Tk), -1 ≤ last → clockFrom last c = true → ∀ t ∈ c, (0 ≤ t.process ∧ t.process ≤ 63) ∧ (0 ≤ t.n ∧ t.n ≤ 1000000000000000)
 | _, [], _, _, t, h => by simp at h
 | last, x :: r, hl, hc, t, h => by
   rw [clockFrom, Bool.and_eq_true] at hc
   have hx : last < x.process ∧ x.process ≤ 63 ∧ 1 ≤ x.n ∧ x.n ≤ 1000000000000000 := of_decide_eq_true hc.1
   rcases List.mem_cons.1 h with rfl | h
   · omega
   · exact clockFrom_mem x.process r (by omega) hc.2 t h
theorem rds_entry {e : En} (h : clockB e.clock = true) : Rds rdEntry e (entryE e) := by
 unfold entryE
 rw [ticksE_eq, ← List.append_assoc]
 refine (rds_list (f := rdTick) (fun t => by rw [List.length_append]; have := uintE_pos t.process.toNat; omega) e.clock fun t ht => ?_).bind (rds_text e.name) fun s s' s'' e1 e2 => ?_
 · obtain ⟨a, b⟩ := clockFrom_mem (-1) e.clock (by omega) h t ht
   exact rds_tick a b
 · unfold rdEntry
   rw [show rdClock s = (e.clock, s') from e1, e2]
theorem regGo_mem (list : List En) : ∀ (k : Nat) (l : List En), regGo list k l = true → ∀ e ∈ l, clockB e.clock = true ∧ nameB e.name = true
 | _, [], _, e, h => by simp at h
 | k, x :: t, hr, e, h => by
   rw [regGo, Bool.and_eq_true] at hr
   rcases List.mem_cons.1 h with rfl | h
   · have := hr.1
     unfold entryB at this
     simp only [Bool.and_eq_true] at this
     exact ⟨this.1.1.1.2, this.1.1.2⟩
   · exact regGo_mem list (k + 1) t hr.2 e h
theorem rds_parts : ∀ (ps : List Lat) (vs : List Val), vs.length = ps.length → elemsB ps vs = true → (∀ p ∈ ps, ∀ v, elemB p v = true → Rds (readV p) v (putV p v)) → Rds (readParts ps) vs (putVs ps vs)
 | [], [], _, _, _ => fun s r ho he hl hr => ⟨s, by rw [readParts], ho, by rw [putVs]; exact Took.refl he⟩
 | [], _ :: _, h, _, _ => by simp at h
 | _ :: _, [], h, _, _ => by simp at h
 | p :: ps, v :: vs, hl, he, H => by
   rw [elemsB, Bool.and_eq_true] at he
   rw [putVs]
   refine (H p (by simp) v he.1).bind (rds_parts ps vs (by simpa using hl) he.2 fun q hq => H q (by simp [hq])) fun s s' s'' e1 e2 => ?_
   rw [readParts, e1, e2]
theorem rds_read (f : Nat) : ∀ (l : Lat) (v : Val), SizeOf.sizeOf l ≤ f → WfL l → elemB l v = true → Rds (readV l) v (putV l v) := by
 induction f with
 | zero => intro l v hn; cases l; simp at hn
 | succ f ih =>
   intro l v hn hwf hel
   have hk := hwf.kinds
   have hrg : ¬ _ := of_decide_eq_false hwf.ranges
   have hp : ∀ p ∈ l.parts, ∀ v, elemB p v = true → Rds (readV p) v (putV p v) := fun p hp v => ih p v (by have := sizeOf_lpart hp; omega) (hwf.part hp)
   obtain ⟨k, lo, hi, ns, ps, rs⟩ := l
   simp only [Lat.kind, Lat.lo, Lat.hi, Lat.names, Lat.parts, Lat.rules] at hk hp hrg
   rcases kind_cases hk.1 with rfl | e | e | rfl | e | rfl | rfl
   · have hu := isE_1.1 hel
     obtain ⟨vn, vns, vps, ves⟩ := v
     simp only [Val.n, Val.names, Val.parts, Val.entries] at hu
     obtain ⟨hn, rfl, rfl, rfl⟩ := hu
     rw [putV_1]
     intro s r ho he hl hr
     obtain ⟨s', h1, h2⟩ := rds_bool _ s r ho he hl hr
     refine ⟨s', ?_, h2⟩
     rw [readV_1, h1]
     rcases hn with rfl | rfl <;> rfl
   · have hu := (isE_23 e).1 hel
     obtain ⟨vn, vns, vps, ves⟩ := v
     simp only [Val.n, Val.names, Val.parts, Val.entries] at hu
     obtain ⟨hn, rfl, rfl, rfl⟩ := hu
     rw [putV_23 e]
     intro s r ho he hl hr
     obtain ⟨s', h1, h2⟩ := rds_int (n := vn) (by omega) s r ho he hl hr
     refine ⟨s', ?_, h2⟩
     rw [readV_23 e, h1]
   · have hu := isE_410 e hel
     obtain ⟨vn, vns, vps, ves⟩ := v
     simp only [Val.n, Val.names, Val.parts, Val.entries] at hu
     obtain ⟨⟨rfl, rfl, rfl⟩, _⟩ := hu
     rw [putV_410 e]
     intro s r ho he hl hr
     obtain ⟨s', h1, h2⟩ := rds_list (f := rdText) textE_pos vns (fun x _ => rds_text x) s r ho he hl hr
     refine ⟨s', ?_, h2⟩
     rw [readV_410 e, h1]
   · have hu := isE_5.1 hel
     obtain ⟨vn, vns, vps, ves⟩ := v
     simp only [Val.n, Val.names, Val.parts, Val.entries] at hu
     obtain ⟨⟨rfl, rfl⟩, hlen, _, hm⟩ := hu
     obtain ⟨p, rfl⟩ := List.length_eq_one_iff.1 (hk.2.1 rfl)
     rw [mapB_one] at hm
     rw [putV_5]
     simp only [Val.names, Val.parts]
     have hz : (vns.zip vps).length = vns.length := by rw [List.length_zip]; omega
     intro s r ho he hl hr
     rw [← hz] at hr
     obtain ⟨s', h1, h2⟩ := rds_list (f := rdPair (readV p)) (enc := fun x => textE x.1 ++ putV p x.2) (fun x => by rw [List.length_append]; have := textE_pos x.1; omega) (vns.zip vps) (fun x hx => by
       obtain ⟨a, b⟩ := x
       have hb := (List.of_mem_zip hx).2
       exact (rds_text a).bind (hp p (by simp) b (hm b hb).1) fun s s' s'' e1 e2 => by
         unfold rdPair
         rw [e1, e2]) s r ho he hl hr
     rw [hz] at h2
     refine ⟨s', ?_, h2⟩
     rw [readV_5, h1, List.map_fst_zip (by omega), List.map_snd_zip (by omega)]
   · have hu := (isE_67 e).1 hel
     obtain ⟨vn, vns, vps, ves⟩ := v
     simp only [Val.n, Val.names, Val.parts, Val.entries] at hu
     obtain ⟨⟨rfl, rfl, rfl⟩, hlen, hm⟩ := hu
     rw [putV_67 e]
     intro s r ho he hl hr
     obtain ⟨s', h1, h2⟩ := rds_parts ps vps hlen hm hp s r ho he hl hr
     refine ⟨s', ?_, h2⟩
     rw [readV_67 e, h1]
   · have hu := isE_8.1 hel
     obtain ⟨vn, vns, vps, ves⟩ := v
     simp only [Val.n, Val.names, Val.parts, Val.entries] at hu
     obtain ⟨rfl, rfl, hu⟩ := hu
     rw [putV_8]
     rcases hu with ⟨rfl, rfl⟩ | ⟨rfl, rfl⟩ | ⟨rfl, hlen, _⟩
     · rw [show (if (Val.mk 0 [] [] []).n = 1 then textE ((Val.mk 0 [] [] []).names.headD ByteArray.empty) else []) = [] from if_neg (by decide), List.append_nil]
       intro s r ho he hl hr
       obtain ⟨s', h1, h2⟩ := rds_small (m := 2) (n := 0) (by decide) (by decide) s r ho he hl hr
       exact ⟨s', by rw [readV_8, h1]; rfl, h2⟩
     · rw [show (if (Val.mk 2 [] [] []).n = 1 then textE ((Val.mk 2 [] [] []).names.headD ByteArray.empty) else []) = [] from if_neg (by decide), List.append_nil]
       intro s r ho he hl hr
       obtain ⟨s', h1, h2⟩ := rds_small (m := 2) (n := 2) (by decide) (by decide) s r ho he hl hr
       exact ⟨s', by rw [readV_8, h1]; rfl, h2⟩
     · obtain ⟨q, rfl⟩ := List.length_eq_one_iff.1 hlen
       exact (rds_small (m := 2) (n := 1) (by decide) (by decide)).bind (rds_text q) fun s s' s'' e1 e2 => by
         rw [readV_8, e1]
         show (if (1 : Nat) = 1 then _ else _) = _
         rw [if_pos rfl, e2]
   · have hu := isE_9.1 hel
     obtain ⟨vn, vns, vps, ves⟩ := v
     simp only [Val.n, Val.names, Val.parts, Val.entries] at hu
     obtain ⟨⟨rfl, rfl, rfl⟩, hreg⟩ := hu
     rw [putV_9]
     intro s r ho he hl hr
     obtain ⟨s', h1, h2⟩ := rds_list (f := rdEntry) entryE_pos ves (fun x hx => rds_entry (regGo_mem ves 0 ves hreg x hx).1) s r ho he hl hr
     refine ⟨s', ?_, h2⟩
     rw [readV_9, h1]
/-! The decoder. -/
def decodeV (l : Lat) (b : List UInt8) : Val × Int :=
 if chkE l ≠ 0 then (zeroV, 1) else if (readV l ⟨b, 0, 0, 0⟩).2.ends ≠ 0 ∨ elemB l (readV l ⟨b, 0, 0, 0⟩).1 = false then (zeroV, 2) else ((readV l ⟨b, 0, 0, 0⟩).1, 0)
theorem new_ok (b : List UInt8) : RS.Ok ⟨b, 0, 0, 0⟩ := ⟨Nat.zero_le _, Nat.le_refl _, .inl rfl⟩
theorem decodeV_iff {l : Lat} (hl : chkE l = 0) (b : List UInt8) (v : Val) (hb : b.length < 18446744073709551616) : decodeV l b = (v, 0) ↔ elemB l v = true ∧ b = putV l v := by
 have hwf := chkE_wf hl
 unfold decodeV
 rw [if_neg (fun h => h hl)]
 constructor
 · intro h
   by_cases hc : (readV l ⟨b, 0, 0, 0⟩).2.ends ≠ 0 ∨ elemB l (readV l ⟨b, 0, 0, 0⟩).1 = false
   · rw [if_pos hc] at h
     injection h with _ h
     exact absurd h (by decide)
   · rw [if_neg hc] at h
     injection h with h _
     subst h
     have hel : elemB l (readV l ⟨b, 0, 0, 0⟩).1 = true := by
      cases h : elemB l (readV l ⟨b, 0, 0, 0⟩).1
      · exact absurd (.inr h) hc
      · rfl
     refine ⟨hel, ?_⟩
     have hends : (readV l ⟨b, 0, 0, 0⟩).2.ends = 0 := Decidable.byContradiction fun h => hc (.inl h)
     unfold RS.ends at hends
     have hT := tks_read _ l (Nat.le_refl _) hwf
     obtain ⟨hok, hd⟩ := hT.ok _ (new_ok b)
     by_cases h0 : (readV l ⟨b, 0, 0, 0⟩).2.err = 0
     · have ht := hT.took _ (new_ok b) h0
       have hnot : ¬ (readV l ⟨b, 0, 0, 0⟩).2.pos < (readV l ⟨b, 0, 0, 0⟩).2.data.length := fun h => by
         rw [if_pos ⟨h0, h⟩] at hends
         exact absurd hends (by decide)
       have hr := ht.read
       rw [show (readV l ⟨b, 0, 0, 0⟩).2.data.drop (readV l ⟨b, 0, 0, 0⟩).2.pos = [] from List.drop_eq_nil_of_le (by omega), List.append_nil] at hr
       exact hr
     · rw [if_neg (fun h => h0 h.1)] at hends
       exact absurd hends h0
 · rintro ⟨hel, rfl⟩
   obtain ⟨s', h1, h2, h3⟩ := rds_read _ l v (Nat.le_refl _) hwf hel ⟨putV l v, 0, 0, 0⟩ [] (new_ok _) rfl hb (by rw [List.append_nil]; rfl)
   rw [h1]
   have hd := h3.data
   have hp := h3.pos
   simp only at hd hp ⊢
   have he : s'.ends = 0 := by
    unfold RS.ends
    rw [if_neg (by rw [hd, hp]; omega)]
    exact h3.err.2
   rw [if_neg (by rw [he, hel]; simp)]
def lows (n : Nat) : Nat → Bool := fun b => decide (b < n)
structure WtSt (w wr : World) (B : Nat) (rv0 rv : Value) (bs : List UInt8) (lc vc : Array Value) : Prop where
 wrt : WrAt wr B rv bs
 boxL : wr.heap[w.heap.size]? = some (.cells lc 26 (0, 0))
 boxV : wr.heap[w.heap.size + 1]? = some (.cells vc 30 (0, 0))
 wf : Wf B rv0 rv w wr
 notL : rv.ownBlock ≠ some w.heap.size
 notV : rv.ownBlock ≠ some (w.heap.size + 1)
 lt : B < w.heap.size
 base : ∀ k, rv0.ownBlock = some k → B + 1 ≤ k
theorem Wf.of_below {B : Nat} {v : Value} {w w' : World} (h : Below w.heap.size w w') : Wf B v v w w' := ⟨h.os, h.tape, h.output, h.size, fun k hk _ _ => h.block k hk, fun _ e => .inl e⟩
theorem WrAt.below {w w' : World} {B : Nat} {v : Value} {bs : List UInt8} (h : WrAt w B v bs) (k : Below w.heap.size w w') : WrAt w' B v bs := ⟨(k.block _ h.lt).trans h.blk, owns_below h.own k⟩
section
variable {w wr w1 : World} {B : Nat} {rv0 rv : Value} {bs bs' : List UInt8} {lc vc : Array Value}
theorem WtSt.cellL (h : WtSt w wr B rv0 rv bs lc vc) {i : Nat} {v : Value} (e : lc[i]? = some v) : wr.cell? ⟨w.heap.size, i, none⟩ = some v := (cell_at_block h.boxL).trans e
theorem WtSt.cellV (h : WtSt w wr B rv0 rv bs lc vc) {i : Nat} {v : Value} (e : vc[i]? = some v) : wr.cell? ⟨w.heap.size + 1, i, none⟩ = some v := (cell_at_block h.boxV).trans e
theorem WtSt.low (h : WtSt w wr B rv0 rv bs lc vc) : Sub (only (lows B) w) (only (lows B) wr) := only_keep fun b hb hl => ⟨hb, h.wf.block b hl (by have := of_decide_eq_true hb; omega) fun e => by have := h.base b e; have := of_decide_eq_true hb; omega⟩
theorem WtSt.sub (h : WtSt w wr B rv0 rv bs lc vc) : Sub (only (lows B) w) wr := h.low.trans (only_sub _ _)
theorem WtSt.fin (h : WtSt w wr B rv0 rv bs lc vc) (k : WrPost B rv wr bs' w1) : WrPost B rv0 w bs' w1 := WrPost.after h.wf k
theorem WtSt.done (h : WtSt w wr B rv0 rv bs lc vc) : WrPost B rv0 w bs wr := ⟨rv, h.wrt, h.wf⟩
theorem WtSt.call (h : WtSt w wr B rv0 rv bs lc vc) (k : WrPost B rv wr bs' w1) : ∃ rv', WtSt w w1 B rv0 rv' bs' lc vc := by
 obtain ⟨rv', h1, h2⟩ := k
 have hl := h.lt
 have hv := block_lt h.boxV
 refine ⟨rv', h1, (h2.block _ (by omega) (by omega) h.notL).trans h.boxL, (h2.block _ hv (by omega) h.notV).trans h.boxV, h.wf.trans h2, fun e => ?_, fun e => ?_, hl, h.base⟩
 · rcases h2.own _ e with e | e
   · exact h.notL e
   · omega
 · rcases h2.own _ e with e | e
   · exact h.notV e
   · omega
theorem WtSt.below (h : WtSt w wr B rv0 rv bs lc vc) (k : Below wr.heap.size wr w1) : WtSt w w1 B rv0 rv bs lc vc :=
 have hl := h.lt
 have hv := block_lt h.boxV
 ⟨h.wrt.below k, (k.block _ (by omega)).trans h.boxL, (k.block _ hv).trans h.boxV, h.wf.trans (Wf.of_below k), h.notL, h.notV, h.lt, h.base⟩
theorem WtSt.alloc (h : WtSt w wr B rv0 rv bs lc vc) (O : Obj) : WtSt w (wr.alloc O) B rv0 rv bs lc vc := h.below ((Below.refl _ _).alloc (Nat.le_refl _) O)
theorem WtSt.drewN (h : WtSt w wr B rv0 rv bs lc vc) (q : Nat) : WtSt w (wr.drewN q) B rv0 rv bs lc vc := h.below (below_drewN' (Below.refl _ _) q)
theorem WtSt.keep (h : WtSt w wr B rv0 rv bs lc vc) {g : Nat} (hg : w.heap.size ≤ g) (hl : g < wr.heap.size) (hn : rv.ownBlock ≠ some g) (k : WrPost B rv wr bs' w1) : w1.heap[g]? = wr.heap[g]? := by
 obtain ⟨rv', h1, h2⟩ := k
 exact h2.block _ hl (by have := h.lt; omega) hn
theorem WtSt.start (h : WrAt w B rv bs) (lc vc : Array Value) : WtSt w ((w.alloc (.cells lc 26 (0, 0))).alloc (.cells vc 30 (0, 0))) B rv rv bs lc vc :=
 have hb : Below w.heap.size w ((w.alloc (.cells lc 26 (0, 0))).alloc (.cells vc 30 (0, 0))) := ((Below.refl _ _).alloc (Nat.le_refl _) _).alloc (by simp) _
 ⟨h.below hb, block_alloc (heap_alloc_new _ _) _, heap_new_at _ _ _ (by simp), Wf.of_below hb, fun e => by have := (h.base _ e).2; omega, fun e => by have := (h.base _ e).2; omega, h.lt, fun k e => (h.base k e).1⟩
end
theorem beqI (a b : Int) : (a == b) = decide (a = b) := by
 by_cases h : a = b
 · subst h; simp
 · rw [decide_eq_false h]; simpa using h
theorem name_small {s : ByteArray} (h : nameB s = true) : s.size ≤ 1000000 := by
 unfold nameB at h
 simp only [Bool.and_eq_true, decide_eq_true_eq] at h
 omega
theorem strs_sub {w : World} {a : Option Addr} {n cap : Nat} {l : List ByteArray} (h : Strs w (.slice a n cap) l) (i : Nat) (hi : i < l.length) : ∃ b o, a = some ⟨b, o, none⟩ ∧ w.cell? ⟨b, o + i, none⟩ = some (.string l[i]) := by
 obtain ⟨b, o, h1, h2, _⟩ := h.cell i hi
 exact ⟨b, o, h1, h2⟩
theorem flatMap_drop {α : Type} (f : α → List UInt8) (l : List α) (j : Nat) (h : j < l.length) : (l.drop j).flatMap f = f l[j] ++ (l.drop (j + 1)).flatMap f := by
 rw [List.drop_eq_getElem_cons h, List.flatMap_cons]
theorem part_le {a b T : List UInt8} {n : Nat} (h : a ++ b = T) (hT : T.length ≤ n) : a.length ≤ n := by
 rw [← h, List.length_append] at hT
 omega
def WriteOk (l : Lat) (v : Val) : Prop := ∀ (B : Nat) (rv : Value) (bs : List UInt8) (cl cv : List Value) (w : World), latRd (only (lows B) w) l cl → valRd (only (lows B) w) v cv → WrAt w B rv bs → bs.length + (putV l v).length ≤ 80000000 →
    Calls Tryz.prog 50 #[.pointer (some ⟨B, 0, none⟩), .agg cl.toArray, .agg cv.toArray] w fun e w' => e = .returned (.tuple #[]) ∧ WrPost B rv w (bs ++ putV l v) w'
theorem write_1 (l : Lat) (v : Val) (hk : l.kind = 1) (hwf : WfL l) (hel : elemB l v = true) : WriteOk l v := by
 intro B rv bs cl cv w hl hv hw hsz
 obtain ⟨aln, cln, alp, clp, alr, clr, rfl, hli, hln, hlp, hlr, ⟨_, mln⟩, ⟨_, mlp⟩, _, mlr⟩ := latRd.lay hl
 obtain ⟨bvn, dvn, bvp, dvp, bve, dve, rfl, gvi, gvn, gvp, gve, ⟨_, nvn⟩, ⟨_, nvp⟩, _, nve⟩ := valRd.lay hv
 have HWF := hid hwf
 obtain ⟨k, lo, hi, ns, ps, rs⟩ := l
 obtain ⟨vn, vns, vps, ves⟩ := v
 simp only [Lat.kind, Lat.lo, Lat.hi, Lat.names, Lat.parts, Lat.rules, Val.n, Val.names, Val.parts, Val.entries] at *
 subst hk
 have HST := hid (WtSt.start hw #[.int .i64 1, .int .i64 lo, .int .i64 hi, .slice aln ns.length cln, .slice alp ps.length clp, .slice alr rs.length clr] #[.int .i64 vn, .slice bvn vns.length dvn, .slice bvp vps.length dvp, .slice bve ves.length dve])
 have HSZ := hid hsz
 rw [putV_1] at *
 simp only [Val.n] at *
 clear hl hv hsz hw hel hwf hln hlp hlr gvn gvp gve
 go_enter Tryz.func50, Tryz.ntmps50
 go_wp2_with fail
 rw [beqI]
 refine (wBool_any B rv bs (decide (vn = 1)) _ HST.out.wrt (by have := HSZ.out; omega)).mono ?_
 rintro e w1 ⟨rfl, hp⟩
 have HP := hid (HST.out.fin hp)
 clear hp
 go_wp2_with fail
 go_end0
 exact ⟨rfl, HP.out⟩
theorem write_2 (l : Lat) (v : Val) (hk : l.kind = 2) (hwf : WfL l) (hel : elemB l v = true) : WriteOk l v := by
 intro B rv bs cl cv w hl hv hw hsz
 obtain ⟨aln, cln, alp, clp, alr, clr, rfl, hli, hln, hlp, hlr, ⟨_, mln⟩, ⟨_, mlp⟩, _, mlr⟩ := latRd.lay hl
 obtain ⟨bvn, dvn, bvp, dvp, bve, dve, rfl, gvi, gvn, gvp, gve, ⟨_, nvn⟩, ⟨_, nvp⟩, _, nve⟩ := valRd.lay hv
 have HWF := hid hwf
 obtain ⟨k, lo, hi, ns, ps, rs⟩ := l
 obtain ⟨vn, vns, vps, ves⟩ := v
 simp only [Lat.kind, Lat.lo, Lat.hi, Lat.names, Lat.parts, Lat.rules, Val.n, Val.names, Val.parts, Val.entries] at *
 subst hk
 have HST := hid (WtSt.start hw #[.int .i64 2, .int .i64 lo, .int .i64 hi, .slice aln ns.length cln, .slice alp ps.length clp, .slice alr rs.length clr] #[.int .i64 vn, .slice bvn vns.length dvn, .slice bvp vps.length dvp, .slice bve ves.length dve])
 have HSZ := hid hsz
 rw [putV_23 (by omega)] at *
 simp only [Val.n] at *
 have HI := hid gvi
 clear hl hv hsz hw hel hwf hln hlp hlr gvn gvp gve gvi
 go_enter Tryz.func50, Tryz.ntmps50
 go_wp2_with fail
 refine (wInt_any B rv bs vn _ HST.out.wrt HI.out (by have := HSZ.out; omega)).mono ?_
 rintro e w1 ⟨rfl, hp⟩
 have HP := hid (HST.out.fin hp)
 clear hp
 go_wp2_with fail
 go_end0
 exact ⟨rfl, HP.out⟩
theorem write_3 (l : Lat) (v : Val) (hk : l.kind = 3) (hwf : WfL l) (hel : elemB l v = true) : WriteOk l v := by
 intro B rv bs cl cv w hl hv hw hsz
 obtain ⟨aln, cln, alp, clp, alr, clr, rfl, hli, hln, hlp, hlr, ⟨_, mln⟩, ⟨_, mlp⟩, _, mlr⟩ := latRd.lay hl
 obtain ⟨bvn, dvn, bvp, dvp, bve, dve, rfl, gvi, gvn, gvp, gve, ⟨_, nvn⟩, ⟨_, nvp⟩, _, nve⟩ := valRd.lay hv
 have HWF := hid hwf
 obtain ⟨k, lo, hi, ns, ps, rs⟩ := l
 obtain ⟨vn, vns, vps, ves⟩ := v
 simp only [Lat.kind, Lat.lo, Lat.hi, Lat.names, Lat.parts, Lat.rules, Val.n, Val.names, Val.parts, Val.entries] at *
 subst hk
 have HST := hid (WtSt.start hw #[.int .i64 3, .int .i64 lo, .int .i64 hi, .slice aln ns.length cln, .slice alp ps.length clp, .slice alr rs.length clr] #[.int .i64 vn, .slice bvn vns.length dvn, .slice bvp vps.length dvp, .slice bve ves.length dve])
 have HSZ := hid hsz
 rw [putV_23 (by omega)] at *
 simp only [Val.n] at *
 have HI := hid gvi
 clear hl hv hsz hw hel hwf hln hlp hlr gvn gvp gve gvi
 go_enter Tryz.func50, Tryz.ntmps50
 go_wp2_with fail
 refine (wInt_any B rv bs vn _ HST.out.wrt HI.out (by have := HSZ.out; omega)).mono ?_
 rintro e w1 ⟨rfl, hp⟩
 have HP := hid (HST.out.fin hp)
 clear hp
 go_wp2_with fail
 go_end0
 exact ⟨rfl, HP.out⟩
theorem write_8 (l : Lat) (v : Val) (hk : l.kind = 8) (hwf : WfL l) (hel : elemB l v = true) : WriteOk l v := by
 intro B rv bs cl cv w hl hv hw hsz
 obtain ⟨aln, cln, alp, clp, alr, clr, rfl, hli, hln, hlp, hlr, ⟨_, mln⟩, ⟨_, mlp⟩, _, mlr⟩ := latRd.lay hl
 obtain ⟨bvn, dvn, bvp, dvp, bve, dve, rfl, gvi, gvn, gvp, gve, ⟨_, nvn⟩, ⟨_, nvp⟩, _, nve⟩ := valRd.lay hv
 have HWF := hid hwf
 obtain ⟨k, lo, hi, ns, ps, rs⟩ := l
 obtain ⟨vn, vns, vps, ves⟩ := v
 simp only [Lat.kind, Lat.lo, Lat.hi, Lat.names, Lat.parts, Lat.rules, Val.n, Val.names, Val.parts, Val.entries] at *
 subst hk
 have HST := hid (WtSt.start hw #[.int .i64 8, .int .i64 lo, .int .i64 hi, .slice aln ns.length cln, .slice alp ps.length clp, .slice alr rs.length clr] #[.int .i64 vn, .slice bvn vns.length dvn, .slice bvp vps.length dvp, .slice bve ves.length dve])
 have HSZ := hid hsz
 have hF : (vn = 0 ∨ vn = 2) ∨ (vn = 1 ∧ ∃ q, vns = [q] ∧ nameB q = true) := by
  have hu := isE_8.1 hel
  simp only [Val.n, Val.names, Val.parts, Val.entries] at hu
  rcases hu.2.2 with h | h | ⟨h, hq, ha⟩
  · exact .inl (.inl h.1)
  · exact .inl (.inr h.1)
  · obtain ⟨q, rfl⟩ := List.length_eq_one_iff.1 hq
    exact .inr ⟨h, q, rfl, allowed_names ha q (by simp)⟩
 have HVN := hid gvn
 clear hl hv hsz hw hel hwf hln hlp hlr gvn gvp gve gvi
 rcases hF with h02 | ⟨rfl, q, rfl, hq⟩
 · have e1 : putV (.mk 8 lo hi ns ps rs) (.mk vn vns vps ves) = uintE vn.toNat := by
    rw [putV_8, show (if (Val.mk vn vns vps ves).n = 1 then textE ((Val.mk vn vns vps ves).names.headD ByteArray.empty) else []) = [] from if_neg (by show ¬ vn = 1; omega), List.append_nil]
    rfl
   rw [e1]
   clear e1
   rcases h02 with rfl | rfl
   all_goals
    go_enter Tryz.func50, Tryz.ntmps50
    go_wp2_with fail
    refine (wUint_any B rv bs _ _ HST.out.wrt (by decide) (by have := HSZ.out; omega)).mono ?_
    rintro e w1 ⟨rfl, hp⟩
    obtain ⟨rv1, hst1⟩ := HST.out.call hp
    have HP := hid (HST.out.fin hp)
    have c0 := hst1.cellV (i := 0) rfl
    clear hp hst1
    go_wp2_with fail
    go_end0
    exact ⟨rfl, HP.out⟩
 · have e1 : putV (.mk 8 lo hi ns ps rs) (.mk 1 [q] vps ves) = uintE 1 ++ textE q := by rw [putV_8]; rfl
   rw [e1]
   have HSZ2 : Hid (bs.length + (uintE 1 ++ textE q).length ≤ 80000000) := hid (by rw [← e1]; exact HSZ.out)
   clear e1
   obtain ⟨qb, qo, rfl, hqc⟩ := strs_sub HVN.out 0 (by simp)
   have HQ := hid (name_small hq)
   simp only [List.getElem_cons_zero, Nat.add_zero] at hqc
   have HQC := hid hqc
   clear hq hqc
   go_enter Tryz.func50, Tryz.ntmps50
   go_wp2_with fail
   refine (wUint_any B rv bs 1 _ HST.out.wrt (by decide) (by have := HSZ.out; omega)).mono ?_
   rintro e w1 ⟨rfl, hp⟩
   obtain ⟨rv1, hst1⟩ := HST.out.call hp
   have ST1 := hid hst1
   have c0 := hst1.cellV (i := 0) rfl
   have c1 := hst1.cellV (i := 1) rfl
   have c2 := hst1.sub _ _ HQC.out
   clear hp hst1
   go_wp2_with fail
   refine (wText_any B rv1 (bs ++ uintE 1) q _ ST1.out.wrt (by have := HSZ2.out; simp only [List.length_append] at this ⊢; omega) HQ.out).mono ?_
   rintro e w2 ⟨rfl, hp⟩
   have HP := hid (ST1.out.fin hp)
   clear hp
   go_wp2_with fail
   go_end0
   exact ⟨rfl, by have := HP.out; rw [List.append_assoc] at this; exact this⟩
theorem write_4 (l : Lat) (v : Val) (hk : l.kind = 4) (hwf : WfL l) (hel : elemB l v = true) : WriteOk l v := by
 intro B rv bs cl cv w hl hv hw hsz
 obtain ⟨aln, cln, alp, clp, alr, clr, rfl, hli, hln, hlp, hlr, ⟨_, mln⟩, ⟨_, mlp⟩, _, mlr⟩ := latRd.lay hl
 obtain ⟨bvn, dvn, bvp, dvp, bve, dve, rfl, gvi, gvn, gvp, gve, ⟨_, nvn⟩, ⟨_, nvp⟩, _, nve⟩ := valRd.lay hv
 have HWF := hid hwf
 obtain ⟨k, lo, hi, ns, ps, rs⟩ := l
 obtain ⟨vn, vns, vps, ves⟩ := v
 simp only [Lat.kind, Lat.lo, Lat.hi, Lat.names, Lat.parts, Lat.rules, Val.n, Val.names, Val.parts, Val.entries] at *
 subst hk
 have HST := hid (WtSt.start hw #[.int .i64 4, .int .i64 lo, .int .i64 hi, .slice aln ns.length cln, .slice alp ps.length clp, .slice alr rs.length clr] #[.int .i64 vn, .slice bvn vns.length dvn, .slice bvp vps.length dvp, .slice bve ves.length dve])
 have HSZ := hid hsz
 rw [putV_410 (by omega)] at *
 simp only [Val.names] at *
 have hF : ∀ s ∈ vns, nameB s = true := allowed_names (isE_410 (by omega) hel).2
 have HVN := hid gvn
 have HNB := hid hF
 clear hl hv hw hel hwf hln hlp hlr gvn gvp gve gvi hF
 have HT : Hid ((bs ++ (uintE vns.length ++ vns.flatMap textE)).length ≤ 80000000) := hid (by rw [List.length_append]; exact hsz)
 generalize hT : bs ++ (uintE vns.length ++ vns.flatMap textE) = T at HT ⊢
 have HTE := hid hT
 clear hT hsz
 go_enter Tryz.func50, Tryz.ntmps50
 go_wp2_with fail
 refine (wUint_any B rv bs vns.length _ HST.out.wrt (by omega) (by have := HSZ.out; omega)).mono ?_
 rintro e w1 ⟨rfl, hp⟩
 obtain ⟨rv1, hst1⟩ := HST.out.call hp
 have ST1 := hid hst1
 have c1 := hst1.cellV (i := 1) rfl
 clear hp hst1
 go_wp2_with fail
 clear c1
 go_loopw [6, 7, 60] (fun _ _ i wr => ∃ (j : Nat) (rv1 : Value) (cur : List UInt8), j ≤ vns.length ∧ i = .int .i64 j ∧ Hid (WtSt w wr B rv rv1 cur #[.int .i64 4, .int .i64 lo, .int .i64 hi, .slice aln ns.length cln, .slice alp ps.length clp, .slice alr rs.length clr] #[.int .i64 vn, .slice bvn vns.length dvn, .slice bvp vps.length dvp, .slice bve ves.length dve]) ∧ Hid (cur ++ (vns.drop j).flatMap textE = T)) (fun _ _ i _ => vns.length - (intOf i).toNat)
 case atStart => exact ⟨0, rv1, _, Nat.zero_le _, rfl, ST1, hid (by rw [← HTE.out, List.append_assoc]; rfl)⟩
 case round =>
  obtain ⟨j, rv2, cur, hj, rfl, STW, He⟩ := hrel
  by_cases hlt : j < vns.length
  · obtain ⟨qb, qo, rfl, hqc⟩ := strs_sub HVN.out j hlt
    have c1 := STW.out.cellV (i := 1) rfl
    have c2 := STW.out.sub _ _ hqc
    have HQ := hid (name_small (HNB.out _ (List.getElem_mem hlt)))
    have HS : Hid ((cur ++ textE vns[j]) ++ (vns.drop (j + 1)).flatMap textE = T) := hid (by rw [← He.out, flatMap_drop textE vns j hlt, List.append_assoc])
    clear hqc
    go_wp2_with fail
    refine (wText_any B rv2 cur vns[j] _ STW.out.wrt (by have := part_le He.out HT.out; omega) HQ.out).mono ?_
    rintro e w2 ⟨rfl, hp⟩
    obtain ⟨rv3, hst3⟩ := STW.out.call hp
    have ST3 := hid hst3
    have c0 := hst3.cellL (i := 0) rfl
    clear hp hst3 c1 c2
    go_wp2_with fail
    go_roundw
    case rel => exact ⟨j + 1, rv3, _, by omega, by go_num, ST3, HS⟩
    case measure => simp [intOf]; omega
  · have HF : Hid (cur = T) := hid (by have := He.out; rw [show vns.drop j = [] from List.drop_eq_nil_of_le (by omega)] at this; simpa using this)
    have HP := hid STW.out.done
    rw [HF.out] at HP
    go_wp2_with fail
    go_end0
    exact ⟨rfl, HP.out⟩
theorem write_10 (l : Lat) (v : Val) (hk : l.kind = 10) (hwf : WfL l) (hel : elemB l v = true) : WriteOk l v := by
 intro B rv bs cl cv w hl hv hw hsz
 obtain ⟨aln, cln, alp, clp, alr, clr, rfl, hli, hln, hlp, hlr, ⟨_, mln⟩, ⟨_, mlp⟩, _, mlr⟩ := latRd.lay hl
 obtain ⟨bvn, dvn, bvp, dvp, bve, dve, rfl, gvi, gvn, gvp, gve, ⟨_, nvn⟩, ⟨_, nvp⟩, _, nve⟩ := valRd.lay hv
 have HWF := hid hwf
 obtain ⟨k, lo, hi, ns, ps, rs⟩ := l
 obtain ⟨vn, vns, vps, ves⟩ := v
 simp only [Lat.kind, Lat.lo, Lat.hi, Lat.names, Lat.parts, Lat.rules, Val.n, Val.names, Val.parts, Val.entries] at *
 subst hk
 have HST := hid (WtSt.start hw #[.int .i64 10, .int .i64 lo, .int .i64 hi, .slice aln ns.length cln, .slice alp ps.length clp, .slice alr rs.length clr] #[.int .i64 vn, .slice bvn vns.length dvn, .slice bvp vps.length dvp, .slice bve ves.length dve])
 have HSZ := hid hsz
 rw [putV_410 (by omega)] at *
 simp only [Val.names] at *
 have hF : ∀ s ∈ vns, nameB s = true := allowed_names (isE_410 (by omega) hel).2
 have HVN := hid gvn
 have HNB := hid hF
 clear hl hv hw hel hwf hln hlp hlr gvn gvp gve gvi hF
 have HT : Hid ((bs ++ (uintE vns.length ++ vns.flatMap textE)).length ≤ 80000000) := hid (by rw [List.length_append]; exact hsz)
 generalize hT : bs ++ (uintE vns.length ++ vns.flatMap textE) = T at HT ⊢
 have HTE := hid hT
 clear hT hsz
 go_enter Tryz.func50, Tryz.ntmps50
 go_wp2_with fail
 refine (wUint_any B rv bs vns.length _ HST.out.wrt (by omega) (by have := HSZ.out; omega)).mono ?_
 rintro e w1 ⟨rfl, hp⟩
 obtain ⟨rv1, hst1⟩ := HST.out.call hp
 have ST1 := hid hst1
 have c1 := hst1.cellV (i := 1) rfl
 clear hp hst1
 go_wp2_with fail
 clear c1
 go_loopw [6, 7, 60] (fun _ _ i wr => ∃ (j : Nat) (rv1 : Value) (cur : List UInt8), j ≤ vns.length ∧ i = .int .i64 j ∧ Hid (WtSt w wr B rv rv1 cur #[.int .i64 10, .int .i64 lo, .int .i64 hi, .slice aln ns.length cln, .slice alp ps.length clp, .slice alr rs.length clr] #[.int .i64 vn, .slice bvn vns.length dvn, .slice bvp vps.length dvp, .slice bve ves.length dve]) ∧ Hid (cur ++ (vns.drop j).flatMap textE = T)) (fun _ _ i _ => vns.length - (intOf i).toNat)
 case atStart => exact ⟨0, rv1, _, Nat.zero_le _, rfl, ST1, hid (by rw [← HTE.out, List.append_assoc]; rfl)⟩
 case round =>
  obtain ⟨j, rv2, cur, hj, rfl, STW, He⟩ := hrel
  by_cases hlt : j < vns.length
  · obtain ⟨qb, qo, rfl, hqc⟩ := strs_sub HVN.out j hlt
    have c1 := STW.out.cellV (i := 1) rfl
    have c2 := STW.out.sub _ _ hqc
    have HQ := hid (name_small (HNB.out _ (List.getElem_mem hlt)))
    have HS : Hid ((cur ++ textE vns[j]) ++ (vns.drop (j + 1)).flatMap textE = T) := hid (by rw [← He.out, flatMap_drop textE vns j hlt, List.append_assoc])
    clear hqc
    go_wp2_with fail
    refine (wText_any B rv2 cur vns[j] _ STW.out.wrt (by have := part_le He.out HT.out; omega) HQ.out).mono ?_
    rintro e w2 ⟨rfl, hp⟩
    obtain ⟨rv3, hst3⟩ := STW.out.call hp
    have ST3 := hid hst3
    have c0 := hst3.cellL (i := 0) rfl
    clear hp hst3 c1 c2
    go_wp2_with fail
    go_roundw
    case rel => exact ⟨j + 1, rv3, _, by omega, by go_num, ST3, HS⟩
    case measure => simp [intOf]; omega
  · have HF : Hid (cur = T) := hid (by have := He.out; rw [show vns.drop j = [] from List.drop_eq_nil_of_le (by omega)] at this; simpa using this)
    have HP := hid STW.out.done
    rw [HF.out] at HP
    go_wp2_with fail
    go_end0
    exact ⟨rfl, HP.out⟩
theorem latCs_low {w : World} {a : Option Addr} {n cap : Nat} {l : List Lat} (h : SlRd w 6 (latRd w) (.slice a n cap) l) (i : Nat) (hi : i < l.length) : ∃ b o an cn ap cp ar cr, a = some ⟨b, o, none⟩ ∧ latRd w l[i] [.int .i64 l[i].kind, .int .i64 l[i].lo, .int .i64 l[i].hi, .slice an l[i].names.length cn, .slice ap l[i].parts.length cp, .slice ar l[i].rules.length cr] ∧ CellsAt w b (o + i * 6) [.int .i64 l[i].kind, .int .i64 l[i].lo, .int .i64 l[i].hi, .slice an l[i].names.length cn, .slice ap l[i].parts.length cp, .slice ar l[i].rules.length cr] := by
 obtain ⟨b, o, cs, ha, _, hc, hr⟩ := h.at i hi
 have hr' := hr
 obtain ⟨axn, cxn, axp, cxp, axr, cxr, rfl, hxi, hxn, hxp, hxr, ⟨_, mxn⟩, ⟨_, mxp⟩, _, mxr⟩ := latRd.lay hr
 exact ⟨b, o, axn, cxn, axp, cxp, axr, cxr, ha, hr', hc⟩
theorem valCs_low {w : World} {a : Option Addr} {n cap : Nat} {l : List Val} (h : SlRd w 4 (valRd w) (.slice a n cap) l) (i : Nat) (hi : i < l.length) : ∃ b o bn dn bp dp be de, a = some ⟨b, o, none⟩ ∧ valRd w l[i] [.int .i64 l[i].n, .slice bn l[i].names.length dn, .slice bp l[i].parts.length dp, .slice be l[i].entries.length de] ∧ CellsAt w b (o + i * 4) [.int .i64 l[i].n, .slice bn l[i].names.length dn, .slice bp l[i].parts.length dp, .slice be l[i].entries.length de] := by
 obtain ⟨b, o, cs, ha, _, hc, hr⟩ := h.at i hi
 have hr' := hr
 obtain ⟨bxn, dxn, bxp, dxp, bxe, dxe, rfl, gxi, gxn, gxp, gxe, ⟨_, nxn⟩, ⟨_, nxp⟩, _, nxe⟩ := valRd.lay hr
 exact ⟨b, o, bxn, dxn, bxp, dxp, bxe, dxe, ha, hr', hc⟩
theorem CellsAt.four {w : World} {b o : Nat} {x0 x1 x2 x3 : Value} (h : CellsAt w b o [x0, x1, x2, x3]) : w.cell? ⟨b, o, none⟩ = some x0 ∧ w.cell? ⟨b, o + 1, none⟩ = some x1 ∧ w.cell? ⟨b, o + 2, none⟩ = some x2 ∧ w.cell? ⟨b, o + 3, none⟩ = some x3 :=
 ⟨h 0 (by simp), h 1 (by simp), h 2 (by simp), h 3 (by simp)⟩
theorem putVs_drop (ps : List Lat) (vs : List Val) (j : Nat) (h : j < ps.length) (h' : j < vs.length) : putVs (ps.drop j) (vs.drop j) = putV ps[j] vs[j] ++ putVs (ps.drop (j + 1)) (vs.drop (j + 1)) := by
 rw [List.drop_eq_getElem_cons h, List.drop_eq_getElem_cons h', putVs]
theorem putVs_nil (vs : List Val) : putVs [] vs = [] := by rw [putVs]
theorem write_6 (l : Lat) (v : Val) (hk : l.kind = 6) (hwf : WfL l) (hel : elemB l v = true) (ih : ∀ p ∈ l.parts, ∀ v, elemB p v = true → WriteOk p v) : WriteOk l v := by
 intro B rv bs cl cv w hl hv hw hsz
 obtain ⟨aln, cln, alp, clp, alr, clr, rfl, hli, hln, hlp, hlr, ⟨_, mln⟩, ⟨_, mlp⟩, _, mlr⟩ := latRd.lay hl
 obtain ⟨bvn, dvn, bvp, dvp, bve, dve, rfl, gvi, gvn, gvp, gve, ⟨_, nvn⟩, ⟨_, nvp⟩, _, nve⟩ := valRd.lay hv
 have HWF := hid hwf
 obtain ⟨k, lo, hi, ns, ps, rs⟩ := l
 obtain ⟨vn, vns, vps, ves⟩ := v
 simp only [Lat.kind, Lat.lo, Lat.hi, Lat.names, Lat.parts, Lat.rules, Val.n, Val.names, Val.parts, Val.entries] at *
 subst hk
 have HST := hid (WtSt.start hw #[.int .i64 6, .int .i64 lo, .int .i64 hi, .slice aln ns.length cln, .slice alp ps.length clp, .slice alr rs.length clr] #[.int .i64 vn, .slice bvn vns.length dvn, .slice bvp vps.length dvp, .slice bve ves.length dve])
 have HSZ := hid hsz
 rw [putV_67 (by omega)] at *
 simp only [Val.parts] at *
 have hF := (isE_67 (by omega)).1 hel
 simp only [Val.n, Val.names, Val.parts, Val.entries] at hF
 have hlen := hF.2.1
 have hes := hF.2.2
 have HLEN := hid hlen
 have HES := hid ((elemsB_iff ps vps hlen).1 hes)
 have IH := hid ih
 have HLP := hid hlp
 have HVP := hid gvp
 clear hl hv hw hel hwf hln hlp hlr gvn gvp gve gvi hes hlen ih hF
 have HT : Hid ((bs ++ putVs ps vps).length ≤ 80000000) := hid (by rw [List.length_append]; exact hsz)
 generalize hT : bs ++ putVs ps vps = T at HT ⊢
 have HTE := hid hT
 clear hT hsz
 go_enter Tryz.func50, Tryz.ntmps50
 go_wp2_with fail
 go_loopw [12, 13, 19] (fun _ _ i wr => ∃ (j : Nat) (rv1 : Value) (cur : List UInt8), j ≤ vps.length ∧ i = .int .i64 j ∧ Hid (WtSt w wr B rv rv1 cur #[.int .i64 6, .int .i64 lo, .int .i64 hi, .slice aln ns.length cln, .slice alp ps.length clp, .slice alr rs.length clr] #[.int .i64 vn, .slice bvn vns.length dvn, .slice bvp vps.length dvp, .slice bve ves.length dve]) ∧ Hid (cur ++ putVs (ps.drop j) (vps.drop j) = T)) (fun _ _ i _ => vps.length - (intOf i).toNat)
 case atStart => exact ⟨0, rv, bs, Nat.zero_le _, rfl, HST, HTE⟩
 case round =>
  obtain ⟨j, rv2, cur, hj, rfl, STW, He⟩ := hrel
  by_cases hlt : j < vps.length
  · have hlt' : j < ps.length := by have := HLEN.out; omega
    obtain ⟨vb, vo, xn, xcn, xp, xcp, xe, xce, rfl, hxr, hxc⟩ := valCs_low HVP.out j hlt
    obtain ⟨lb, lo2, yn, ycn, yp, ycp, yr, ycr, rfl, hyr, hyc⟩ := latCs_low HLP.out j hlt'
    obtain ⟨x0, x1, x2, x3⟩ := (hxc.mono STW.out.sub).four
    have HXR := hid hxr
    have HYR := hid hyr
    have HYC := hid hyc
    have HS : Hid ((cur ++ putV ps[j] vps[j]) ++ putVs (ps.drop (j + 1)) (vps.drop (j + 1)) = T) := hid (by rw [← He.out, putVs_drop ps vps j hlt' hlt, List.append_assoc])
    have HSB : Hid (cur.length + (putV ps[j] vps[j]).length ≤ 80000000) := hid (by have := part_le HS.out HT.out; rw [List.length_append] at this; exact this)
    have HEL := hid (HES.out j hlt' hlt)
    have HJ : Hid (j + 1 ≤ vps.length) := hid hlt
    clear hxr hxc hyr hyc
    have hst := STW.out.cellV (i := 2) rfl
    go_wp2_with fail
    have ST2 := hid (STW.out.alloc (.cells #[.int .i64 vps[j].n, .slice xn vps[j].names.length xcn, .slice xp vps[j].parts.length xcp, .slice xe vps[j].entries.length xce] 30 (0, 0)))
    have HBX : Hid (∀ (i : Nat) (v : Value), #[.int .i64 vps[j].n, .slice xn vps[j].names.length xcn, .slice xp vps[j].parts.length xcp, .slice xe vps[j].entries.length xce][i]? = some v → (wr.alloc (.cells #[.int .i64 vps[j].n, .slice xn vps[j].names.length xcn, .slice xp vps[j].parts.length xcp, .slice xe vps[j].entries.length xce] 30 (0, 0))).cell? ⟨wr.heap.size, i, none⟩ = some v) := hid fun i v hv => by
      rw [World.cell?_alloc_at _ _ _ _ rfl]; exact hv
    have g0 := HBX.out 0 _ rfl
    have g1 := HBX.out 1 _ rfl
    have g2 := HBX.out 2 _ rfl
    have g3 := HBX.out 3 _ rfl
    have k4 := ST2.out.cellL (i := 4) rfl
    obtain ⟨y0, y1, y2, y3, y4, y5⟩ := (HYC.out.mono ST2.out.sub).six
    clear x0 x1 x2 x3 hst HBX
    generalize wr.alloc (.cells #[.int .i64 vps[j].n, .slice xn vps[j].names.length xcn, .slice xp vps[j].parts.length xcp, .slice xe vps[j].entries.length xce] 30 (0, 0)) = w6 at ST2 g0 g1 g2 g3 k4 y0 y1 y2 y3 y4 y5 ⊢
    go_region_law
     (go_simp
      go_at_call 50
      refine (IH.out ps[j] (List.getElem_mem hlt') vps[j] HEL.out B rv2 cur [.int .i64 ps[j].kind, .int .i64 ps[j].lo, .int .i64 ps[j].hi, .slice yn ps[j].names.length ycn, .slice yp ps[j].parts.length ycp, .slice yr ps[j].rules.length ycr] [.int .i64 vps[j].n, .slice xn vps[j].names.length xcn, .slice xp vps[j].parts.length xcp, .slice xe vps[j].entries.length xce] _ (latRd.mono (ST2.out.drewN _).low _ _ HYR.out) (valRd.mono (ST2.out.drewN _).low _ _ HXR.out) (ST2.out.drewN _).wrt HSB.out).mono ?_
      rintro e w7 ⟨rfl, hp⟩
      obtain ⟨rv3, hst3⟩ := (ST2.out.drewN _).call hp
      have ST3 := hid hst3
      clear hp hst3)
    all_goals
     clear g0 g1 g2 g3 k4 y0 y1 y2 y3 y4 y5
     go_wp2_with fail
     go_roundw
     case rel => exact ⟨j + 1, rv3, _, HJ.out, by go_num, ST3, HS⟩
     case measure => simp [intOf]; omega
  · have HF : Hid (cur = T) := hid (by have := He.out; rw [show ps.drop j = [] from List.drop_eq_nil_of_le (by have := HLEN.out; omega), putVs_nil, List.append_nil] at this; exact this)
    have HP := hid STW.out.done
    rw [HF.out] at HP
    go_wp2_with fail
    go_end0
    exact ⟨rfl, HP.out⟩
theorem write_7 (l : Lat) (v : Val) (hk : l.kind = 7) (hwf : WfL l) (hel : elemB l v = true) (ih : ∀ p ∈ l.parts, ∀ v, elemB p v = true → WriteOk p v) : WriteOk l v := by
 intro B rv bs cl cv w hl hv hw hsz
 obtain ⟨aln, cln, alp, clp, alr, clr, rfl, hli, hln, hlp, hlr, ⟨_, mln⟩, ⟨_, mlp⟩, _, mlr⟩ := latRd.lay hl
 obtain ⟨bvn, dvn, bvp, dvp, bve, dve, rfl, gvi, gvn, gvp, gve, ⟨_, nvn⟩, ⟨_, nvp⟩, _, nve⟩ := valRd.lay hv
 have HWF := hid hwf
 obtain ⟨k, lo, hi, ns, ps, rs⟩ := l
 obtain ⟨vn, vns, vps, ves⟩ := v
 simp only [Lat.kind, Lat.lo, Lat.hi, Lat.names, Lat.parts, Lat.rules, Val.n, Val.names, Val.parts, Val.entries] at *
 subst hk
 have HST := hid (WtSt.start hw #[.int .i64 7, .int .i64 lo, .int .i64 hi, .slice aln ns.length cln, .slice alp ps.length clp, .slice alr rs.length clr] #[.int .i64 vn, .slice bvn vns.length dvn, .slice bvp vps.length dvp, .slice bve ves.length dve])
 have HSZ := hid hsz
 rw [putV_67 (by omega)] at *
 simp only [Val.parts] at *
 have hF := (isE_67 (by omega)).1 hel
 simp only [Val.n, Val.names, Val.parts, Val.entries] at hF
 have hlen := hF.2.1
 have hes := hF.2.2
 have HLEN := hid hlen
 have HES := hid ((elemsB_iff ps vps hlen).1 hes)
 have IH := hid ih
 have HLP := hid hlp
 have HVP := hid gvp
 clear hl hv hw hel hwf hln hlp hlr gvn gvp gve gvi hes hlen ih hF
 have HT : Hid ((bs ++ putVs ps vps).length ≤ 80000000) := hid (by rw [List.length_append]; exact hsz)
 generalize hT : bs ++ putVs ps vps = T at HT ⊢
 have HTE := hid hT
 clear hT hsz
 go_enter Tryz.func50, Tryz.ntmps50
 go_wp2_with fail
 go_loopw [12, 13, 19] (fun _ _ i wr => ∃ (j : Nat) (rv1 : Value) (cur : List UInt8), j ≤ vps.length ∧ i = .int .i64 j ∧ Hid (WtSt w wr B rv rv1 cur #[.int .i64 7, .int .i64 lo, .int .i64 hi, .slice aln ns.length cln, .slice alp ps.length clp, .slice alr rs.length clr] #[.int .i64 vn, .slice bvn vns.length dvn, .slice bvp vps.length dvp, .slice bve ves.length dve]) ∧ Hid (cur ++ putVs (ps.drop j) (vps.drop j) = T)) (fun _ _ i _ => vps.length - (intOf i).toNat)
 case atStart => exact ⟨0, rv, bs, Nat.zero_le _, rfl, HST, HTE⟩
 case round =>
  obtain ⟨j, rv2, cur, hj, rfl, STW, He⟩ := hrel
  by_cases hlt : j < vps.length
  · have hlt' : j < ps.length := by have := HLEN.out; omega
    obtain ⟨vb, vo, xn, xcn, xp, xcp, xe, xce, rfl, hxr, hxc⟩ := valCs_low HVP.out j hlt
    obtain ⟨lb, lo2, yn, ycn, yp, ycp, yr, ycr, rfl, hyr, hyc⟩ := latCs_low HLP.out j hlt'
    obtain ⟨x0, x1, x2, x3⟩ := (hxc.mono STW.out.sub).four
    have HXR := hid hxr
    have HYR := hid hyr
    have HYC := hid hyc
    have HS : Hid ((cur ++ putV ps[j] vps[j]) ++ putVs (ps.drop (j + 1)) (vps.drop (j + 1)) = T) := hid (by rw [← He.out, putVs_drop ps vps j hlt' hlt, List.append_assoc])
    have HSB : Hid (cur.length + (putV ps[j] vps[j]).length ≤ 80000000) := hid (by have := part_le HS.out HT.out; rw [List.length_append] at this; exact this)
    have HEL := hid (HES.out j hlt' hlt)
    have HJ : Hid (j + 1 ≤ vps.length) := hid hlt
    clear hxr hxc hyr hyc
    have hst := STW.out.cellV (i := 2) rfl
    go_wp2_with fail
    have ST2 := hid (STW.out.alloc (.cells #[.int .i64 vps[j].n, .slice xn vps[j].names.length xcn, .slice xp vps[j].parts.length xcp, .slice xe vps[j].entries.length xce] 30 (0, 0)))
    have HBX : Hid (∀ (i : Nat) (v : Value), #[.int .i64 vps[j].n, .slice xn vps[j].names.length xcn, .slice xp vps[j].parts.length xcp, .slice xe vps[j].entries.length xce][i]? = some v → (wr.alloc (.cells #[.int .i64 vps[j].n, .slice xn vps[j].names.length xcn, .slice xp vps[j].parts.length xcp, .slice xe vps[j].entries.length xce] 30 (0, 0))).cell? ⟨wr.heap.size, i, none⟩ = some v) := hid fun i v hv => by
      rw [World.cell?_alloc_at _ _ _ _ rfl]; exact hv
    have g0 := HBX.out 0 _ rfl
    have g1 := HBX.out 1 _ rfl
    have g2 := HBX.out 2 _ rfl
    have g3 := HBX.out 3 _ rfl
    have k4 := ST2.out.cellL (i := 4) rfl
    obtain ⟨y0, y1, y2, y3, y4, y5⟩ := (HYC.out.mono ST2.out.sub).six
    clear x0 x1 x2 x3 hst HBX
    generalize wr.alloc (.cells #[.int .i64 vps[j].n, .slice xn vps[j].names.length xcn, .slice xp vps[j].parts.length xcp, .slice xe vps[j].entries.length xce] 30 (0, 0)) = w6 at ST2 g0 g1 g2 g3 k4 y0 y1 y2 y3 y4 y5 ⊢
    go_region_law
     (go_simp
      go_at_call 50
      refine (IH.out ps[j] (List.getElem_mem hlt') vps[j] HEL.out B rv2 cur [.int .i64 ps[j].kind, .int .i64 ps[j].lo, .int .i64 ps[j].hi, .slice yn ps[j].names.length ycn, .slice yp ps[j].parts.length ycp, .slice yr ps[j].rules.length ycr] [.int .i64 vps[j].n, .slice xn vps[j].names.length xcn, .slice xp vps[j].parts.length xcp, .slice xe vps[j].entries.length xce] _ (latRd.mono (ST2.out.drewN _).low _ _ HYR.out) (valRd.mono (ST2.out.drewN _).low _ _ HXR.out) (ST2.out.drewN _).wrt HSB.out).mono ?_
      rintro e w7 ⟨rfl, hp⟩
      obtain ⟨rv3, hst3⟩ := (ST2.out.drewN _).call hp
      have ST3 := hid hst3
      clear hp hst3)
    all_goals
     clear g0 g1 g2 g3 k4 y0 y1 y2 y3 y4 y5
     go_wp2_with fail
     go_roundw
     case rel => exact ⟨j + 1, rv3, _, HJ.out, by go_num, ST3, HS⟩
     case measure => simp [intOf]; omega
  · have HF : Hid (cur = T) := hid (by have := He.out; rw [show ps.drop j = [] from List.drop_eq_nil_of_le (by have := HLEN.out; omega), putVs_nil, List.append_nil] at this; exact this)
    have HP := hid STW.out.done
    rw [HF.out] at HP
    go_wp2_with fail
    go_end0
    exact ⟨rfl, HP.out⟩
def pairE (p : Lat) (x : ByteArray × Val) : List UInt8 := textE x.1 ++ putV p x.2
theorem WtSt.call2 {w wr w1 : World} {B : Nat} {rv0 rv : Value} {bs bs' : List UInt8} {lc vc : Array Value} (h : WtSt w wr B rv0 rv bs lc vc) (k : WrPost B rv wr bs' w1) {g : Nat} (hg : w.heap.size ≤ g) (hl : g < wr.heap.size) (hn : rv.ownBlock ≠ some g) :
 ∃ rv', WtSt w w1 B rv0 rv' bs' lc vc ∧ w1.heap[g]? = wr.heap[g]? ∧ rv'.ownBlock ≠ some g := by
 obtain ⟨rv', h1, h2⟩ := k
 have hlt := h.lt
 have hv := block_lt h.boxV
 refine ⟨rv', ⟨h1, (h2.block _ (by omega) (by omega) h.notL).trans h.boxL, (h2.block _ hv (by omega) h.notV).trans h.boxV, h.wf.trans h2, fun e => ?_, fun e => ?_, hlt, h.base⟩, h2.block _ hl (by omega) hn, fun e => ?_⟩
 · rcases h2.own _ e with e | e
   · exact h.notL e
   · omega
 · rcases h2.own _ e with e | e
   · exact h.notV e
   · omega
 · rcases h2.own _ e with e | e
   · exact hn e
   · omega
theorem write_5 (l : Lat) (v : Val) (hk : l.kind = 5) (hwf : WfL l) (hel : elemB l v = true) (ih : ∀ p ∈ l.parts, ∀ v, elemB p v = true → WriteOk p v) : WriteOk l v := by
 intro B rv bs cl cv w hl hv hw hsz
 obtain ⟨aln, cln, alp, clp, alr, clr, rfl, hli, hln, hlp, hlr, ⟨_, mln⟩, ⟨_, mlp⟩, _, mlr⟩ := latRd.lay hl
 obtain ⟨bvn, dvn, bvp, dvp, bve, dve, rfl, gvi, gvn, gvp, gve, ⟨_, nvn⟩, ⟨_, nvp⟩, _, nve⟩ := valRd.lay hv
 have HWF := hid hwf
 obtain ⟨k, lo, hi, ns, ps, rs⟩ := l
 obtain ⟨vn, vns, vps, ves⟩ := v
 simp only [Lat.kind, Lat.lo, Lat.hi, Lat.names, Lat.parts, Lat.rules, Val.n, Val.names, Val.parts, Val.entries] at *
 subst hk
 have HST := hid (WtSt.start hw #[.int .i64 5, .int .i64 lo, .int .i64 hi, .slice aln ns.length cln, .slice alp ps.length clp, .slice alr rs.length clr] #[.int .i64 vn, .slice bvn vns.length dvn, .slice bvp vps.length dvp, .slice bve ves.length dve])
 have HSZ := hid hsz
 have hF := isE_5.1 hel
 simp only [Val.n, Val.names, Val.parts, Val.entries] at hF
 obtain ⟨p, rfl⟩ := List.length_eq_one_iff.1 (hwf.kinds.2.1 rfl)
 rw [putV_5] at *
 simp only [Val.names, Val.parts] at *
 have HLEN := hid hF.2.1
 have HNB := hid (allowed_names hF.2.2.1)
 have HES := hid ((mapB_one p vps).1 hF.2.2.2)
 have IH := hid (ih p (by simp))
 have HLP := hid hlp
 have HVP := hid gvp
 have HVN := hid gvn
 have HZ := hid (show (vns.zip vps).length = vns.length by rw [List.length_zip]; omega)
 clear hl hv hw hel hwf hln hlp hlr gvn gvp gve gvi ih hF
 have HT : Hid ((bs ++ (uintE vns.length ++ (vns.zip vps).flatMap (pairE p))).length ≤ 80000000) := hid (by rw [List.length_append]; exact hsz)
 show Calls _ _ _ _ fun e w' => e = .returned (.tuple #[]) ∧ WrPost B rv w (bs ++ (uintE vns.length ++ (vns.zip vps).flatMap (pairE p))) w'
 generalize hT : bs ++ (uintE vns.length ++ (vns.zip vps).flatMap (pairE p)) = T at HT ⊢
 have HTE := hid hT
 clear hT hsz
 obtain ⟨lb, lo2, yn, ycn, yp, ycp, yr, ycr, rfl, hyr, hyc⟩ := latCs_low HLP.out 0 (by simp)
 simp only [List.getElem_cons_zero, Nat.zero_mul, Nat.add_zero] at hyr hyc
 have HYR := hid hyr
 have HYC := hid hyc
 clear hyr hyc
 go_enter Tryz.func50, Tryz.ntmps50
 go_wp2_with fail
 refine (wUint_any B rv bs vns.length _ HST.out.wrt (by omega) (by have := HSZ.out; omega)).mono ?_
 rintro e w1 ⟨rfl, hp⟩
 obtain ⟨rv1, hst1⟩ := HST.out.call hp
 have ST1 := hid hst1
 have c1 := hst1.cellV (i := 1) rfl
 clear hp hst1
 go_wp2_with fail
 clear c1
 go_loopw [6, 7, 60] (fun _ _ i wr => ∃ (j : Nat) (rv1 : Value) (cur : List UInt8), j ≤ vns.length ∧ i = .int .i64 j ∧ Hid (WtSt w wr B rv rv1 cur #[.int .i64 5, .int .i64 lo, .int .i64 hi, .slice aln ns.length cln, .slice (some ⟨lb, lo2, none⟩) 1 clp, .slice alr rs.length clr] #[.int .i64 vn, .slice bvn vns.length dvn, .slice bvp vps.length dvp, .slice bve ves.length dve]) ∧ Hid (cur ++ ((vns.zip vps).drop j).flatMap (pairE p) = T)) (fun _ _ i _ => vns.length - (intOf i).toNat)
 case atStart => exact ⟨0, rv1, _, Nat.zero_le _, rfl, ST1, hid (by rw [← HTE.out, List.append_assoc]; rfl)⟩
 case round =>
  obtain ⟨j, rv2, cur, hj, rfl, STW, He⟩ := hrel
  by_cases hlt : j < vns.length
  · have hlt' : j < vps.length := by have := HLEN.out; omega
    obtain ⟨qb, qo, rfl, hqc⟩ := strs_sub HVN.out j hlt
    obtain ⟨vb, vo, xn, xcn, xp, xcp, xe, xce, rfl, hxr, hxc⟩ := valCs_low HVP.out j hlt'
    have HXR := hid hxr
    have HXC := hid hxc
    have c1 := STW.out.cellV (i := 1) rfl
    have c2 := STW.out.sub _ _ hqc
    have HQ := hid (name_small (HNB.out _ (List.getElem_mem hlt)))
    have HS : Hid (((cur ++ textE vns[j]) ++ putV p vps[j]) ++ ((vns.zip vps).drop (j + 1)).flatMap (pairE p) = T) := hid (by
     rw [← He.out, flatMap_drop (pairE p) (vns.zip vps) j (by rw [HZ.out]; exact hlt), List.getElem_zip]
     unfold pairE
     simp only [List.append_assoc])
    have HEL := hid (HES.out _ (List.getElem_mem hlt')).1
    have HJ : Hid (j + 1 ≤ vns.length) := hid hlt
    have HSB : Hid ((cur ++ textE vns[j]).length + (putV p vps[j]).length ≤ 80000000) := hid (by have := part_le HS.out HT.out; rw [List.length_append] at this; exact this)
    clear hqc hxr hxc
    go_wp2_with fail
    refine (wText_any B rv2 cur vns[j] _ STW.out.wrt (by have := part_le He.out HT.out; omega) HQ.out).mono ?_
    rintro e w2 ⟨rfl, hp⟩
    obtain ⟨rv3, hst3⟩ := STW.out.call hp
    have ST3 := hid hst3
    have c0 := hst3.cellL (i := 0) rfl
    have c4 := hst3.cellL (i := 4) rfl
    have d2 := hst3.cellV (i := 2) rfl
    obtain ⟨x0, x1, x2, x3⟩ := (HXC.out.mono hst3.sub).four
    obtain ⟨y0, y1, y2, y3, y4, y5⟩ := (HYC.out.mono hst3.sub).six
    clear hp hst3 c1 c2
    go_wp2_with fail
    go_region_law
     (go_simp
      go_at_call 50
      refine (IH.out vps[j] HEL.out B rv3 (cur ++ textE vns[j]) [.int .i64 p.kind, .int .i64 p.lo, .int .i64 p.hi, .slice yn p.names.length ycn, .slice yp p.parts.length ycp, .slice yr p.rules.length ycr] [.int .i64 vps[j].n, .slice xn vps[j].names.length xcn, .slice xp vps[j].parts.length xcp, .slice xe vps[j].entries.length xce] _ (latRd.mono (ST3.out.drewN _).low _ _ HYR.out) (valRd.mono (ST3.out.drewN _).low _ _ HXR.out) (ST3.out.drewN _).wrt HSB.out).mono ?_
      rintro e w7 ⟨rfl, hp⟩
      obtain ⟨rv4, hst4⟩ := (ST3.out.drewN _).call hp
      have ST4 := hid hst4
      clear hp hst4)
    all_goals
     clear c0 c4 d2 x0 x1 x2 x3 y0 y1 y2 y3 y4 y5
     go_wp2_with fail
     go_roundw
     case rel => exact ⟨j + 1, rv4, _, HJ.out, by go_num, ST4, HS⟩
     case measure => simp [intOf]; omega
  · have HF : Hid (cur = T) := hid (by have := He.out; rw [show (vns.zip vps).drop j = [] from List.drop_eq_nil_of_le (by have := HZ.out; omega)] at this; simpa using this)
    have HP := hid STW.out.done
    rw [HF.out] at HP
    go_wp2_with fail
    go_end0
    exact ⟨rfl, HP.out⟩
def tickE (t : Tk) : List UInt8 := uintE t.process.toNat ++ uintE t.n.toNat
theorem entryE_eq (e : En) : entryE e = uintE e.clock.length ++ (e.clock.flatMap tickE ++ textE e.name) := by
 unfold entryE
 rw [ticksE_eq]
 rfl
theorem write_9 (l : Lat) (v : Val) (hk : l.kind = 9) (hwf : WfL l) (hel : elemB l v = true) : WriteOk l v := by
 intro B rv bs cl cv w hl hv hw hsz
 obtain ⟨aln, cln, alp, clp, alr, clr, rfl, hli, hln, hlp, hlr, ⟨_, mln⟩, ⟨_, mlp⟩, _, mlr⟩ := latRd.lay hl
 obtain ⟨bvn, dvn, bvp, dvp, bve, dve, rfl, gvi, gvn, gvp, gve, ⟨_, nvn⟩, ⟨_, nvp⟩, _, nve⟩ := valRd.lay hv
 have HWF := hid hwf
 obtain ⟨k, lo, hi, ns, ps, rs⟩ := l
 obtain ⟨vn, vns, vps, ves⟩ := v
 simp only [Lat.kind, Lat.lo, Lat.hi, Lat.names, Lat.parts, Lat.rules, Val.n, Val.names, Val.parts, Val.entries] at *
 subst hk
 have HST := hid (WtSt.start hw #[.int .i64 9, .int .i64 lo, .int .i64 hi, .slice aln ns.length cln, .slice alp ps.length clp, .slice alr rs.length clr] #[.int .i64 vn, .slice bvn vns.length dvn, .slice bvp vps.length dvp, .slice bve ves.length dve])
 have HSZ := hid hsz
 rw [putV_9] at *
 simp only [Val.entries] at *
 have hF := (isE_9.1 hel).2
 have HRG := hid (regGo_mem ves 0 ves hF)
 have HVE := hid gve
 clear hl hv hw hel hwf hln hlp hlr gvn gvp gve gvi hF
 have HT : Hid ((bs ++ (uintE ves.length ++ ves.flatMap entryE)).length ≤ 80000000) := hid (by rw [List.length_append]; exact hsz)
 generalize hT : bs ++ (uintE ves.length ++ ves.flatMap entryE) = T at HT ⊢
 have HTE := hid hT
 clear hT hsz
 go_enter Tryz.func50, Tryz.ntmps50
 go_wp2_with fail
 refine (wUint_any B rv bs ves.length _ HST.out.wrt (by omega) (by have := HSZ.out; omega)).mono ?_
 rintro e w1 ⟨rfl, hp⟩
 obtain ⟨rv1, hst1⟩ := HST.out.call hp
 have ST1 := hid hst1
 have c3 := hst1.cellV (i := 3) rfl
 clear hp hst1
 go_wp2_with fail
 clear c3
 go_loopw [9, 11, 110] (fun _ _ i wr => ∃ (j : Nat) (rv1 : Value) (cur : List UInt8), j ≤ ves.length ∧ i = .int .i64 j ∧ Hid (WtSt w wr B rv rv1 cur #[.int .i64 9, .int .i64 lo, .int .i64 hi, .slice aln ns.length cln, .slice alp ps.length clp, .slice alr rs.length clr] #[.int .i64 vn, .slice bvn vns.length dvn, .slice bvp vps.length dvp, .slice bve ves.length dve]) ∧ Hid (cur ++ (ves.drop j).flatMap entryE = T)) (fun _ _ i _ => ves.length - (intOf i).toNat)
 case atStart => exact ⟨0, rv1, _, Nat.zero_le _, rfl, ST1, hid (by rw [← HTE.out, List.append_assoc]; rfl)⟩
 case round =>
  obtain ⟨j, rv2, cur, hj, rfl, STW, He⟩ := hrel
  by_cases hlt : j < ves.length
  · obtain ⟨eb, eo, ecs, heb, _, hec, evc, rfl, hek, hen⟩ := HVE.out.at j hlt
    subst heb
    obtain ⟨ea, ecp, rfl, _, hem⟩ := hek.shape
    have r0 : wr.cell? ⟨eb, eo + j * 2, none⟩ = some (.slice ea ves[j].clock.length ecp) := (hec.mono STW.out.sub) 0 (by simp)
    have r1 : wr.cell? ⟨eb, eo + j * 2 + 1, none⟩ = some (.string ves[j].name) := (hec.mono STW.out.sub) 1 (by simp)
    have HEK := hid hek
    have HRJ := hid (HRG.out _ (List.getElem_mem hlt))
    have HJ : Hid (j + 1 ≤ ves.length) := hid hlt
    have HQ := hid (name_small HRJ.out.2)
    have HS : Hid (((cur ++ uintE ves[j].clock.length) ++ (ves[j].clock.flatMap tickE ++ textE ves[j].name)) ++ (ves.drop (j + 1)).flatMap entryE = T) := hid (by
     rw [← He.out, flatMap_drop entryE ves j hlt, entryE_eq]
     simp only [List.append_assoc]
     rfl)
    have HJT := hid hlt
    clear hec hek hen
    generalize ves[j] = en at r0 r1 HEK HRJ HQ HS hem ⊢
    go_wp2_with fail
    have ST2 := hid (STW.out.alloc (.cells #[.slice ea en.clock.length ecp, .string en.name] 43 (0, 0)))
    obtain ⟨g, hg⟩ : ∃ g, g = wr.heap.size := ⟨_, rfl⟩
    have HG : Hid ((wr.alloc (.cells #[.slice ea en.clock.length ecp, .string en.name] 43 (0, 0))).heap[g]? = some (.cells #[.slice ea en.clock.length ecp, .string en.name] 43 (0, 0)) ∧ rv2.ownBlock ≠ some g ∧ w.heap.size ≤ g) := hid ⟨heap_new_at _ _ _ hg, fun e => by have := (STW.out.wrt.base _ e).2; omega, by have := block_lt STW.out.boxV; omega⟩
    rw [← hg]
    clear hg r0 r1
    generalize wr.alloc (.cells #[.slice ea en.clock.length ecp, .string en.name] 43 (0, 0)) = w2 at ST2 HG ⊢
    have e0 : w2.cell? ⟨g, 0, none⟩ = some (.slice ea en.clock.length ecp) := cell_at_block HG.out.1
    go_wp2_with fail
    refine (wUint_any B rv2 cur en.clock.length _ ST2.out.wrt (by omega) (by have := part_le He.out HT.out; omega)).mono ?_
    rintro e w3 ⟨rfl, hp⟩
    obtain ⟨rv3, hst3, hg3, hn3⟩ := ST2.out.call2 hp HG.out.2.2 (block_lt HG.out.1) HG.out.2.1
    have ST3 := hid hst3
    have HG3 : Hid (w3.heap[g]? = some (.cells #[.slice ea en.clock.length ecp, .string en.name] 43 (0, 0)) ∧ rv3.ownBlock ≠ some g ∧ w.heap.size ≤ g) := hid ⟨hg3.trans HG.out.1, hn3, HG.out.2.2⟩
    clear hp hst3 hg3 hn3 e0
    have e1 : w3.cell? ⟨g, 0, none⟩ = some (.slice ea en.clock.length ecp) := cell_at_block HG3.out.1
    go_wp2_with fail
    clear e1
    go_loopw [11, 123] (fun _ i wr => ∃ (kk : Nat) (rv1 : Value) (cu : List UInt8), kk ≤ en.clock.length ∧ i = .int .i64 kk ∧ Hid (WtSt w wr B rv rv1 cu #[.int .i64 9, .int .i64 lo, .int .i64 hi, .slice aln ns.length cln, .slice alp ps.length clp, .slice alr rs.length clr] #[.int .i64 vn, .slice bvn vns.length dvn, .slice bvp vps.length dvp, .slice (some ⟨eb, eo, none⟩) ves.length dve]) ∧ Hid (wr.heap[g]? = some (.cells #[.slice ea en.clock.length ecp, .string en.name] 43 (0, 0)) ∧ rv1.ownBlock ≠ some g ∧ w.heap.size ≤ g) ∧ Hid ((cu ++ ((en.clock.drop kk).flatMap tickE ++ textE en.name)) ++ (ves.drop (j + 1)).flatMap entryE = T)) (fun _ i _ => en.clock.length - (intOf i).toNat)
    case atStart => exact ⟨0, rv3, _, Nat.zero_le _, rfl, ST3, HG3, HS⟩
    case round =>
     obtain ⟨kk, rv4, cu, hkk, rfl, STK, HGK, HeK⟩ := hrel
     by_cases hlk : kk < en.clock.length
     · obtain ⟨tb, to, tcs, htb, _, htc, rfl, hti⟩ := HEK.out.at kk hlk
       subst htb
       obtain ⟨hp1, hn1⟩ := clockFrom_mem (-1) en.clock (by omega) HRJ.out.1 _ (List.getElem_mem hlk)
       have HSK : Hid (((cu ++ uintE en.clock[kk].process.toNat) ++ uintE en.clock[kk].n.toNat ++ ((en.clock.drop (kk + 1)).flatMap tickE ++ textE en.name)) ++ (ves.drop (j + 1)).flatMap entryE = T) := hid (by
        rw [← HeK.out, flatMap_drop tickE en.clock kk hlk]
        unfold tickE
        simp only [List.append_assoc])
       have HKJ : Hid (kk + 1 ≤ en.clock.length) := hid hlk
       obtain ⟨pn, hpn⟩ : ∃ pn : Nat, en.clock[kk].process = pn := ⟨en.clock[kk].process.toNat, by omega⟩
       obtain ⟨nn, hnn⟩ : ∃ nn : Nat, en.clock[kk].n = nn := ⟨en.clock[kk].n.toNat, by omega⟩
       have s0 : wr.cell? ⟨tb, to + kk * 2, none⟩ = some (.int .i64 pn) := by rw [← hpn]; exact (htc.mono STK.out.sub) 0 (by simp)
       have s1 : wr.cell? ⟨tb, to + kk * 2 + 1, none⟩ = some (.int .i64 nn) := by rw [← hnn]; exact (htc.mono STK.out.sub) 1 (by simp)
       have q1 : en.clock[kk].process.toNat = pn := by omega
       have q2 : en.clock[kk].n.toNat = nn := by omega
       have hpb : (pn : Int) ≤ 63 := by omega
       have hnb : (nn : Int) ≤ 1000000000000000 := by omega
       have HSK : Hid (((cu ++ uintE pn) ++ uintE nn ++ ((en.clock.drop (kk + 1)).flatMap tickE ++ textE en.name)) ++ (ves.drop (j + 1)).flatMap entryE = T) := hid (by rw [← q1, ← q2]; exact HSK.out)
       clear hpn hnn hp1 hn1 hti htc q1 q2
       go_wp2_with fail
       have STL := hid (STK.out.alloc (.cells #[.int .i64 pn, .int .i64 nn] 99 (0, 0)))
       obtain ⟨h, hh⟩ : ∃ h, h = wr.heap.size := ⟨_, rfl⟩
       have HH : Hid ((wr.alloc (.cells #[.int .i64 pn, .int .i64 nn] 99 (0, 0))).heap[h]? = some (.cells #[.int .i64 pn, .int .i64 nn] 99 (0, 0)) ∧ rv4.ownBlock ≠ some h ∧ w.heap.size ≤ h) := hid ⟨heap_new_at _ _ _ hh, fun e => by have := (STK.out.wrt.base _ e).2; omega, by have := block_lt STK.out.boxV; omega⟩
       have HGL : Hid ((wr.alloc (.cells #[.int .i64 pn, .int .i64 nn] 99 (0, 0))).heap[g]? = some (.cells #[.slice (some ⟨tb, to, none⟩) en.clock.length ecp, .string en.name] 43 (0, 0)) ∧ rv4.ownBlock ≠ some g ∧ w.heap.size ≤ g) := hid ⟨block_alloc HGK.out.1 _, HGK.out.2⟩
       rw [← hh]
       clear hh s0 s1
       generalize wr.alloc (.cells #[.int .i64 pn, .int .i64 nn] 99 (0, 0)) = w4 at STL HH HGL ⊢
       have t0 : w4.cell? ⟨h, 0, none⟩ = some (.int .i64 pn) := cell_at_block HH.out.1
       go_wp2_with fail
       refine (wUint_any B rv4 cu pn _ STL.out.wrt (by omega) (by have := part_le HeK.out HT.out; rw [List.length_append] at this; omega)).mono ?_
       rintro e w5 ⟨rfl, hp⟩
       obtain ⟨rv5, hst5, hg5, hn5⟩ := STL.out.call2 hp HGL.out.2.2 (block_lt HGL.out.1) HGL.out.2.1
       have t1 : w5.cell? ⟨h, 1, none⟩ = some (.int .i64 nn) := cell_at_block ((STL.out.keep HH.out.2.2 (block_lt HH.out.1) HH.out.2.1 hp).trans HH.out.1)
       have ST5 := hid hst5
       have HG5 : Hid (w5.heap[g]? = some (.cells #[.slice (some ⟨tb, to, none⟩) en.clock.length ecp, .string en.name] 43 (0, 0)) ∧ rv5.ownBlock ≠ some g ∧ w.heap.size ≤ g) := hid ⟨hg5.trans HGL.out.1, hn5, HGL.out.2.2⟩
       clear hp hst5 hg5 hn5 t0
       go_wp2_with fail
       refine (wUint_any B rv5 (cu ++ uintE pn) nn _ ST5.out.wrt (by omega) (by have := part_le HSK.out HT.out; simp only [List.length_append] at this ⊢; omega)).mono ?_
       rintro e w6 ⟨rfl, hp⟩
       obtain ⟨rv6, hst6, hg6, hn6⟩ := ST5.out.call2 hp HG5.out.2.2 (block_lt HG5.out.1) HG5.out.2.1
       have ST6 := hid hst6
       have HG6 : Hid (w6.heap[g]? = some (.cells #[.slice (some ⟨tb, to, none⟩) en.clock.length ecp, .string en.name] 43 (0, 0)) ∧ rv6.ownBlock ≠ some g ∧ w.heap.size ≤ g) := hid ⟨hg6.trans HG5.out.1, hn6, HG5.out.2.2⟩
       clear hp hst6 hg6 hn6 t1
       go_wp2_with fail
       go_roundw
       case rel => exact ⟨kk + 1, rv6, _, HKJ.out, by go_num, ST6, HG6, HSK⟩
       case measure => simp [intOf]; omega
     · have HF : Hid ((cu ++ textE en.name) ++ (ves.drop (j + 1)).flatMap entryE = T) := hid (by have := HeK.out; rw [show en.clock.drop kk = [] from List.drop_eq_nil_of_le (by omega)] at this; simpa using this)
       have e2 : wr.cell? ⟨g, 1, none⟩ = some (.string en.name) := cell_at_block HGK.out.1
       go_wp2_with fail
       refine (wText_any B rv4 cu en.name _ STK.out.wrt (by have := part_le HF.out HT.out; rw [List.length_append] at this; omega) HQ.out).mono ?_
       rintro e w7 ⟨rfl, hp⟩
       obtain ⟨rv7, hst7⟩ := STK.out.call hp
       have ST7 := hid hst7
       clear hp hst7 e2
       go_wp2_with fail
       go_roundw
       case rel => exact ⟨j + 1, rv7, _, HJ.out, by go_num, ST7, HF⟩
       case measure => have := HJ.out; simp [intOf]; omega
  · have HF : Hid (cur = T) := hid (by have := He.out; rw [show ves.drop j = [] from List.drop_eq_nil_of_le (by omega)] at this; simpa using this)
    have HP := hid STW.out.done
    rw [HF.out] at HP
    go_wp2_with fail
    go_end0
    exact ⟨rfl, HP.out⟩
theorem write_any (f : Nat) : ∀ (l : Lat) (v : Val), SizeOf.sizeOf l ≤ f → WfL l → elemB l v = true → WriteOk l v := by
 induction f with
 | zero => intro l v hn; cases l; simp at hn
 | succ f ih =>
   intro l v hn hwf hel
   have IH : ∀ p ∈ l.parts, ∀ v, elemB p v = true → WriteOk p v := fun p hp v => ih p v (by have := sizeOf_lpart hp; omega) (hwf.part hp)
   rcases (by have := hwf.kinds.1; omega : l.kind = 1 ∨ l.kind = 2 ∨ l.kind = 3 ∨ l.kind = 4 ∨ l.kind = 5 ∨ l.kind = 6 ∨ l.kind = 7 ∨ l.kind = 8 ∨ l.kind = 9 ∨ l.kind = 10) with e | e | e | e | e | e | e | e | e | e
   · exact write_1 l v e hwf hel
   · exact write_2 l v e hwf hel
   · exact write_3 l v e hwf hel
   · exact write_4 l v e hwf hel
   · exact write_5 l v e hwf hel IH
   · exact write_6 l v e hwf hel IH
   · exact write_7 l v e hwf hel IH
   · exact write_8 l v e hwf hel
   · exact write_9 l v e hwf hel
   · exact write_10 l v e hwf hel
theorem RdSt.latCell {w wr : World} {B : Nat} {rv : Value} {s : RS} {lc : Array Value} {n vn vp ve : Value} (h : RdSt w wr B rv s lc n vn vp ve) {p : Addr} {v : Value} (hp : (only (notB B) w).cell? p = some v) : wr.cell? p = some v := by
 have hs := only_sub _ _ _ _ hp
 rw [only_cell] at hp
 have hn : p.block ≠ B := by
  intro e
  rw [show notB B p.block = false from decide_eq_false (by simp [e])] at hp
  cases hp
 exact (h.but.cell (World.block_lt_of_cell? w _ hs) hn).trans hs
theorem RdSt.lat {w wr : World} {B : Nat} {rv : Value} {s : RS} {lc : Array Value} {n vn vp ve : Value} (h : RdSt w wr B rv s lc n vn vp ve) {l : Lat} {cs : List Value} (hp : latRd (only (notB B) w) l cs) : latRd (only (notB B) wr) l cs :=
 latRd.mono (only_keep fun b hb hl => ⟨hb, h.but.block b hl (of_decide_eq_true hb)⟩) _ _ hp
end Go.Proofs.YtmdjnaobllajmaaGreatDoor
