/-
  What the statements of the chapter share, part 09: PEnc, PSize.
-/
import Derived.Test.YtmdjnaobllajmaaGreatDoorX08
set_option linter.unusedVariables false
set_option linter.unusedSimpArgs false
set_option maxRecDepth 100000
set_option maxHeartbeats 8000000
namespace Go.Proofs.YtmdjnaobllajmaaGreatDoor
open Go.RowKit
/-! What was read. -/
structure Tks {α : Type} (f : RS → α × RS) (enc : α → List UInt8) : Prop where
 ok : ∀ s, s.Ok → (f s).2.Ok ∧ (f s).2.data = s.data
 took : ∀ s, s.Ok → (f s).2.err = 0 → Took s (f s).2 (enc (f s).1)
theorem tks_text : Tks rdText textE := ⟨fun _ h => ⟨(rdBytes_ok h).1, (rdBytes_ok h).2.1⟩, fun s h he => rdBytes_took h he⟩
theorem rdSmall_ok (m : Nat) {s : RS} (h : s.Ok) : (rdSmall m s).2.Ok ∧ (rdSmall m s).2.data = s.data := by
 unfold rdSmall
 obtain ⟨h1, h2, _⟩ := rdUint_ok h
 show (if m < (rdUint s).1 then (rdUint s).2.fail else (rdUint s).2).Ok ∧ (if m < (rdUint s).1 then (rdUint s).2.fail else (rdUint s).2).data = s.data
 split
 · exact ⟨h1.fail, (RS.fail_data _).trans h2⟩
 · exact ⟨h1, h2⟩
theorem fail_err (s : RS) : s.fail.err ≠ 0 := by
 unfold RS.fail
 split
 · exact fun h => absurd (show (2 : Int) = 0 from h) (by decide)
 · assumption
theorem rdSmall_took (m : Nat) {s : RS} (h : s.Ok) (he : (rdSmall m s).2.err = 0) : Took s (rdSmall m s).2 (uintE (rdSmall m s).1) := by
 by_cases hm : m < (rdUint s).1
 · have : (rdSmall m s).2 = (rdUint s).2.fail := if_pos hm
   rw [this] at he
   exact absurd he (fail_err _)
 · have e : rdSmall m s = rdUint s := by
    unfold rdSmall
    rw [if_neg hm, if_neg hm]
   rw [e] at he ⊢
   exact rdUint_took h he
theorem tks_tick : Tks rdTick fun t => uintE t.process.toNat ++ uintE t.n.toNat := ⟨fun s h => by
    obtain ⟨h1, h2⟩ := rdSmall_ok 63 h
    obtain ⟨h3, h4⟩ := rdSmall_ok 1000000000000000 h1
    exact ⟨h3, h4.trans h2⟩, fun s h he => by
    obtain ⟨h1, h2⟩ := rdSmall_ok 63 h
    have t2 := rdSmall_took 1000000000000000 h1 he
    exact (rdSmall_took 63 h t2.err.1).trans t2⟩
theorem rdLoop_keeps {α : Type} {f : RS → α × RS} {enc : α → List UInt8} (hf : Tks f enc) : ∀ (n : Nat) (s : RS), s.Ok → (rdLoop f n s).2.Ok ∧ (rdLoop f n s).2.data = s.data
 | 0, s, h => ⟨h, rfl⟩
 | n + 1, s, h => by
   by_cases he : s.err = 0
   · rw [rdLoop_go f n s he]
     obtain ⟨h1, h2⟩ := hf.ok s h
     obtain ⟨h3, h4⟩ := rdLoop_keeps hf n _ h1
     exact ⟨h3, h4.trans h2⟩
   · rw [rdLoop_bad f _ s he]
     exact ⟨h, rfl⟩
theorem rdLoop_took {α : Type} {f : RS → α × RS} {enc : α → List UInt8} (hf : Tks f enc) : ∀ (n : Nat) (s : RS), s.Ok → (rdLoop f n s).2.err = 0 → Took s (rdLoop f n s).2 ((rdLoop f n s).1.flatMap enc) ∧ (rdLoop f n s).1.length = n
 | 0, s, _, he => ⟨Took.refl he, rfl⟩
 | n + 1, s, h, he => by
   by_cases h0 : s.err = 0
   · rw [rdLoop_go f n s h0] at he ⊢
     obtain ⟨h1, h2⟩ := hf.ok s h
     obtain ⟨h3, h4⟩ := rdLoop_took hf n _ h1 he
     refine ⟨?_, by simp only [List.length_cons, h4]⟩
     rw [List.flatMap_cons]
     exact (hf.took s h h3.err.1).trans h3
   · rw [rdLoop_bad f _ s h0] at he
     exact absurd he h0
def rdList {α : Type} (f : RS → α × RS) (s : RS) : List α × RS := rdLoop f (rdCount s).1 (rdCount s).2
theorem tks_list {α : Type} {f : RS → α × RS} {enc : α → List UInt8} (hf : Tks f enc) : Tks (rdList f) fun l => uintE l.length ++ l.flatMap enc := ⟨fun s h => by
    obtain ⟨h1, h2, _⟩ := rdCount_ok h
    obtain ⟨h3, h4⟩ := rdLoop_keeps hf (rdCount s).1 _ h1
    exact ⟨h3, h4.trans h2⟩, fun s h he => by
    obtain ⟨h1, h2, _⟩ := rdCount_ok h
    obtain ⟨h3, h4⟩ := rdLoop_took hf (rdCount s).1 _ h1 he
    have t := (rdCount_took h h3.err.1).trans h3
    show Took s _ (uintE (rdList f s).1.length ++ _)
    rw [show (rdList f s).1.length = (rdCount s).1 from h4]
    exact t⟩
theorem ticksE_eq : ∀ l : List Tk, ticksE l = l.flatMap fun t => uintE t.process.toNat ++ uintE t.n.toNat
  | [] => rfl
  | t :: r => by rw [ticksE, List.flatMap_cons, ticksE_eq r, List.append_assoc]
theorem entriesE_eq : ∀ l : List En, entriesE l = l.flatMap entryE
 | [] => rfl
 | t :: r => by rw [entriesE, List.flatMap_cons, entriesE_eq r]
theorem textsE_eq : ∀ l : List ByteArray, textsE l = l.flatMap textE
 | [] => rfl
 | t :: r => by rw [textsE, List.flatMap_cons, textsE_eq r]
theorem tks_entry : Tks rdEntry entryE := ⟨fun s h => by
    obtain ⟨h1, h2⟩ := (tks_list tks_tick).ok s h
    obtain ⟨h3, h4⟩ := tks_text.ok _ h1
    exact ⟨h3, h4.trans h2⟩, fun s h he => by
    obtain ⟨h1, h2⟩ := (tks_list tks_tick).ok s h
    have t2 := tks_text.took _ h1 he
    have t1 := (tks_list tks_tick).took s h t2.err.1
    have t := t1.trans t2
    unfold entryE
    rw [ticksE_eq, ← List.append_assoc]
    exact t⟩
theorem tks_pair {f : RS → Val × RS} {enc : Val → List UInt8} (hf : Tks f enc) : Tks (rdPair f) fun x => textE x.1 ++ enc x.2 := ⟨fun s h => by
    obtain ⟨h1, h2⟩ := tks_text.ok s h
    obtain ⟨h3, h4⟩ := hf.ok _ h1
    exact ⟨h3, h4.trans h2⟩, fun s h he => by
    obtain ⟨h1, h2⟩ := tks_text.ok s h
    have t2 := hf.took _ h1 he
    exact (tks_text.took s h t2.err.1).trans t2⟩
theorem sizeOf_lpart {l p : Lat} (h : p ∈ l.parts) : SizeOf.sizeOf p < SizeOf.sizeOf l := by
 cases l
 have := List.sizeOf_lt_of_mem h
 simp only [Lat.parts] at this
 simp only [Lat.mk.sizeOf_spec]
 omega
theorem readParts_keeps : ∀ (ps : List Lat), (∀ p ∈ ps, ∀ s, s.Ok → (readV p s).2.Ok ∧ (readV p s).2.data = s.data) → ∀ s : RS, s.Ok → (readParts ps s).2.Ok ∧ (readParts ps s).2.data = s.data
 | [], _, s, h => by rw [readParts]; exact ⟨h, rfl⟩
 | p :: t, H, s, h => by
   rw [readParts]
   obtain ⟨h1, h2⟩ := H p (by simp) s h
   obtain ⟨h3, h4⟩ := readParts_keeps t (fun q hq => H q (by simp [hq])) _ h1
   exact ⟨h3, h4.trans h2⟩
theorem readParts_took : ∀ (ps : List Lat), (∀ p ∈ ps, Tks (readV p) (putV p)) → ∀ s : RS, s.Ok → (readParts ps s).2.err = 0 → Took s (readParts ps s).2 (putVs ps (readParts ps s).1) ∧ (readParts ps s).1.length = ps.length
 | [], _, s, h, he => by rw [readParts] at he ⊢; exact ⟨by rw [putVs]; exact Took.refl he, rfl⟩
 | p :: t, H, s, h, he => by
   rw [readParts] at he ⊢
   obtain ⟨h1, h2⟩ := (H p (by simp)).ok s h
   obtain ⟨h3, h4⟩ := readParts_took t (fun q hq => H q (by simp [hq])) _ h1 he
   refine ⟨?_, by simp only [List.length_cons, h4]⟩
   rw [putVs]
   exact ((H p (by simp)).took s h h3.err.1).trans h3
theorem readV_1 {lo hi : Int} {ns : List ByteArray} {ps : List Lat} {rs : List Rl} (s : RS) : readV (.mk 1 lo hi ns ps rs) s = (.mk (if (rdBool s).1 then 1 else 0) [] [] [], (rdBool s).2) := by rw [readV]; rfl
theorem readV_23 {k lo hi : Int} {ns : List ByteArray} {ps : List Lat} {rs : List Rl} (hk : k = 2 ∨ k = 3) (s : RS) : readV (.mk k lo hi ns ps rs) s = (.mk (rdInt s).1 [] [] [], (rdInt s).2) := by
 rw [readV, if_neg (by omega), if_pos hk]
theorem readV_410 {k lo hi : Int} {ns : List ByteArray} {ps : List Lat} {rs : List Rl} (hk : k = 4 ∨ k = 10) (s : RS) : readV (.mk k lo hi ns ps rs) s = (.mk 0 (rdList rdText s).1 [] [], (rdList rdText s).2) := by
 rw [readV, if_neg (by omega), if_neg (by omega), if_pos hk]; rfl
theorem readV_5 {lo hi : Int} {ns : List ByteArray} {p : Lat} {rs : List Rl} (s : RS) : readV (.mk 5 lo hi ns [p] rs) s = (.mk 0 ((rdList (rdPair (readV p)) s).1.map Prod.fst) ((rdList (rdPair (readV p)) s).1.map Prod.snd) [], (rdList (rdPair (readV p)) s).2) := by
 rw [readV, if_neg (by decide), if_neg (by decide), if_neg (by decide), if_pos (by rfl)]
 simp only [readMap]
 rfl
theorem readV_8 {lo hi : Int} {ns : List ByteArray} {ps : List Lat} {rs : List Rl} (s : RS) : readV (.mk 8 lo hi ns ps rs) s = if (rdSmall 2 s).1 = 1 then (.mk 1 [(rdText (rdSmall 2 s).2).1] [] [], (rdText (rdSmall 2 s).2).2) else (.mk ((rdSmall 2 s).1 : Nat) [] [] [], (rdSmall 2 s).2) := by
 rw [readV, if_neg (by decide), if_neg (by decide), if_neg (by decide), if_neg (by decide), if_pos (by rfl)]
theorem readV_9 {lo hi : Int} {ns : List ByteArray} {ps : List Lat} {rs : List Rl} (s : RS) : readV (.mk 9 lo hi ns ps rs) s = (.mk 0 [] [] (rdList rdEntry s).1, (rdList rdEntry s).2) := by
 rw [readV, if_neg (by decide), if_neg (by decide), if_neg (by decide), if_neg (by decide), if_neg (by decide), if_pos (by rfl)]; rfl
theorem readV_67 {k lo hi : Int} {ns : List ByteArray} {ps : List Lat} {rs : List Rl} (hk : k = 6 ∨ k = 7) (s : RS) : readV (.mk k lo hi ns ps rs) s = (.mk 0 [] (readParts ps s).1 [], (readParts ps s).2) := by
 rw [readV, if_neg (by omega), if_neg (by omega), if_neg (by omega), if_neg (by omega), if_neg (by omega), if_neg (by omega)]
theorem putV_1 {lo hi : Int} {ns : List ByteArray} {ps : List Lat} {rs : List Rl} (v : Val) : putV (.mk 1 lo hi ns ps rs) v = boolE (decide (v.n = 1)) := by rw [putV, if_pos (by rfl)]
theorem putV_23 {k lo hi : Int} {ns : List ByteArray} {ps : List Lat} {rs : List Rl} (hk : k = 2 ∨ k = 3) (v : Val) : putV (.mk k lo hi ns ps rs) v = intE v.n := by
 rw [putV, if_neg (by omega), if_pos hk]
theorem putV_410 {k lo hi : Int} {ns : List ByteArray} {ps : List Lat} {rs : List Rl} (hk : k = 4 ∨ k = 10) (v : Val) : putV (.mk k lo hi ns ps rs) v = uintE v.names.length ++ v.names.flatMap textE := by
 rw [putV, if_neg (by omega), if_neg (by omega), if_pos hk, textsE_eq]
theorem putV_5 {lo hi : Int} {ns : List ByteArray} {p : Lat} {rs : List Rl} (v : Val) : putV (.mk 5 lo hi ns [p] rs) v = uintE v.names.length ++ (v.names.zip v.parts).flatMap fun x => textE x.1 ++ putV p x.2 := by
  rw [putV, if_neg (by decide), if_neg (by decide), if_neg (by decide), if_pos (by rfl), putMap]
theorem putV_8 {lo hi : Int} {ns : List ByteArray} {ps : List Lat} {rs : List Rl} (v : Val) : putV (.mk 8 lo hi ns ps rs) v = uintE v.n.toNat ++ (if v.n = 1 then textE (v.names.headD ByteArray.empty) else []) := by
 rw [putV, if_neg (by decide), if_neg (by decide), if_neg (by decide), if_neg (by decide), if_pos (by rfl)]
theorem putV_9 {lo hi : Int} {ns : List ByteArray} {ps : List Lat} {rs : List Rl} (v : Val) : putV (.mk 9 lo hi ns ps rs) v = uintE v.entries.length ++ v.entries.flatMap entryE := by
 rw [putV, if_neg (by decide), if_neg (by decide), if_neg (by decide), if_neg (by decide), if_neg (by decide), if_pos (by rfl), entriesE_eq]
theorem putV_67 {k lo hi : Int} {ns : List ByteArray} {ps : List Lat} {rs : List Rl} (hk : k = 6 ∨ k = 7) (v : Val) : putV (.mk k lo hi ns ps rs) v = putVs ps v.parts := by
 rw [putV, if_neg (by omega), if_neg (by omega), if_neg (by omega), if_neg (by omega), if_neg (by omega), if_neg (by omega)]
theorem kind_cases {k : Int} (h : 1 ≤ k ∧ k ≤ 10) : k = 1 ∨ (k = 2 ∨ k = 3) ∨ (k = 4 ∨ k = 10) ∨ k = 5 ∨ (k = 6 ∨ k = 7) ∨ k = 8 ∨ k = 9 := by omega
theorem zip_map {α β : Type} : ∀ l : List (α × β), (l.map Prod.fst).zip (l.map Prod.snd) = l
 | [] => rfl
 | (a, b) :: t => by simp [zip_map t]
theorem tks_read (f : Nat) : ∀ l : Lat, SizeOf.sizeOf l ≤ f → WfL l → Tks (readV l) (putV l) := by
 induction f with
 | zero => intro l hn; cases l; simp at hn
 | succ f ih =>
   intro l hn hwf
   have hk := hwf.kinds
   have hp : ∀ p ∈ l.parts, Tks (readV p) (putV p) := fun p hp => ih p (by have := sizeOf_lpart hp; omega) (hwf.part hp)
   obtain ⟨k, lo, hi, ns, ps, rs⟩ := l
   simp only [Lat.kind, Lat.lo, Lat.hi, Lat.names, Lat.parts, Lat.rules] at hk hp
   rcases kind_cases hk.1 with rfl | e | e | rfl | e | rfl | rfl
   · refine ⟨fun s h => ?_, fun s h he => ?_⟩
     · rw [readV_1]; exact rdBool_ok h
     · rw [readV_1] at he ⊢
       have := rdBool_took h he
       rw [putV_1]
       simp only [Val.n]
       cases hb : (rdBool s).1 <;> rw [hb] at this <;> exact this
   · refine ⟨fun s h => ?_, fun s h he => ?_⟩
     · rw [readV_23 e]; exact ⟨(rdInt_ok h).1, (rdInt_ok h).2.1⟩
     · rw [readV_23 e] at he ⊢
       rw [putV_23 e]
       exact rdInt_took h he
   · refine ⟨fun s h => ?_, fun s h he => ?_⟩
     · rw [readV_410 e]; exact (tks_list tks_text).ok s h
     · rw [readV_410 e] at he ⊢
       rw [putV_410 e]
       exact (tks_list tks_text).took s h he
   · obtain ⟨p, rfl⟩ := List.length_eq_one_iff.1 (hk.2.1 rfl)
     have hq := tks_list (tks_pair (hp p (by simp)))
     refine ⟨fun s h => ?_, fun s h he => ?_⟩
     · rw [readV_5]; exact hq.ok s h
     · rw [readV_5] at he ⊢
       rw [putV_5]
       simp only [Val.names, Val.parts, zip_map, List.length_map]
       exact hq.took s h he
   · refine ⟨fun s h => ?_, fun s h he => ?_⟩
     · rw [readV_67 e]; exact readParts_keeps ps (fun p hpm => (hp p hpm).ok) s h
     · rw [readV_67 e] at he ⊢
       rw [putV_67 e]
       exact (readParts_took ps hp s h he).1
   · refine ⟨fun s h => ?_, fun s h he => ?_⟩
     · rw [readV_8]
       obtain ⟨h1, h2⟩ := rdSmall_ok 2 h
       split
       · obtain ⟨h3, h4⟩ := tks_text.ok _ h1
         exact ⟨h3, h4.trans h2⟩
       · exact ⟨h1, h2⟩
     · rw [readV_8] at he ⊢
       obtain ⟨h1, h2⟩ := rdSmall_ok 2 h
       rw [putV_8]
       by_cases h8 : (rdSmall 2 s).1 = 1
       · rw [if_pos h8] at he ⊢
         simp only [Val.n, Val.names, if_true, List.headD_cons]
         have t2 := tks_text.took _ h1 he
         have t1 := rdSmall_took 2 h t2.err.1
         rw [h8] at t1
         exact t1.trans t2
       · rw [if_neg h8] at he ⊢
         rw [show (if (Val.mk ((rdSmall 2 s).1 : Nat) [] [] []).n = 1 then textE ((Val.mk ((rdSmall 2 s).1 : Nat) [] [] []).names.headD ByteArray.empty) else []) = [] from if_neg (by show ¬ (((rdSmall 2 s).1 : Nat) : Int) = 1; omega), List.append_nil]
         exact rdSmall_took 2 h he
   · refine ⟨fun s h => ?_, fun s h he => ?_⟩
     · rw [readV_9]; exact (tks_list tks_entry).ok s h
     · rw [readV_9] at he ⊢
       rw [putV_9]
       exact (tks_list tks_entry).took s h he
/-! What was written. -/
def Rds {α : Type} (f : RS → α × RS) (x : α) (bs : List UInt8) : Prop := ∀ (s : RS) (r : List UInt8), s.Ok → s.err = 0 → s.data.length < 18446744073709551616 → s.data.drop s.pos = bs ++ r → ∃ s', f s = (x, s') ∧ s'.Ok ∧ Took s s' bs
theorem took_rest {s t : RS} {bs r : List UInt8} (h : Took s t bs) (hr : s.data.drop s.pos = bs ++ r) : t.data.drop t.pos = r := by
 have := h.read
 rw [hr] at this
 exact (List.append_cancel_left this).symm
theorem took_len {s t : RS} {bs : List UInt8} (h : Took s t bs) : t.data.length = s.data.length := congrArg List.length h.data
theorem rds_go {s : RS} {bs r : List UInt8} (ho : s.Ok) (he : s.err = 0) (hr : s.data.drop s.pos = bs ++ r) : (s.go bs.length).Ok ∧ Took s (s.go bs.length) bs := by
 have hp := go_pos ho.pos hr
 refine ⟨ho.go hp, took_go he hp ?_⟩
 rw [hr, List.take_left]
theorem rds_uint {n : Nat} (hn : n < 18446744073709551616) : Rds rdUint n (uintE n) := fun s r ho he _ hr => ⟨_, rdUint_of he hn hr, rds_go ho he hr⟩
theorem rds_int {n : Int} (hn : -9223372036854775808 ≤ n ∧ n ≤ 9223372036854775807) : Rds rdInt n (intE n) := fun s r ho he _ hr => ⟨_, rdInt_of he hn hr, rds_go ho he hr⟩
theorem rds_bool (b : Bool) : Rds rdBool b (boolE b) := fun s r ho he _ hr => ⟨_, rdBool_of he hr, rds_go ho he hr⟩
theorem rds_text (q : ByteArray) : Rds rdText q (textE q) := fun s r ho he hl hr => by
  have hb : s.data.drop s.pos = bytesE q.data.toList ++ r := hr
  have hlen := congrArg List.length hb
  rw [List.length_drop, List.length_append] at hlen
  unfold bytesE at hlen
  rw [List.length_append] at hlen
  refine ⟨_, ?_, rds_go ho he hb⟩
  unfold rdText
  rw [rdBytes_of he ho.pos (by omega) hb]
  rfl
theorem rds_small {m n : Nat} (hn : n ≤ m) (hm : m < 18446744073709551616) : Rds (rdSmall m) n (uintE n) := fun s r ho he hl hr => by
  obtain ⟨s', h1, h2⟩ := rds_uint (n := n) (by omega) s r ho he hl hr
  refine ⟨s', ?_, h2⟩
  unfold rdSmall
  rw [h1, if_neg (by omega), if_neg (by omega)]
theorem Rds.bind {α β γ : Type} {f : RS → α × RS} {x : α} {a : List UInt8} (hf : Rds f x a) {g : RS → β × RS} {y : β} {b : List UInt8} (hg : Rds g y b) {h : RS → γ × RS} {z : γ} (hh : ∀ s s' s'', f s = (x, s') → g s' = (y, s'') → h s = (z, s'')) : Rds h z (a ++ b) := fun s r ho he hl hr => by
  rw [List.append_assoc] at hr
  obtain ⟨s', h1, h2, h3⟩ := hf s _ ho he hl hr
  obtain ⟨s'', h4, h5, h6⟩ := hg s' r h2 h3.err.2 (by rw [took_len h3]; exact hl) (took_rest h3 hr)
  exact ⟨s'', hh s s' s'' h1 h4, h5, h3.trans h6⟩
theorem rds_tick {t : Tk} (h1 : 0 ≤ t.process ∧ t.process ≤ 63) (h2 : 0 ≤ t.n ∧ t.n ≤ 1000000000000000) : Rds rdTick t (uintE t.process.toNat ++ uintE t.n.toNat) :=
 (rds_small (m := 63) (n := t.process.toNat) (by omega) (by decide)).bind (rds_small (m := 1000000000000000) (n := t.n.toNat) (by omega) (by decide)) fun s s' s'' e1 e2 => by
   unfold rdTick
   rw [e1, e2]
   obtain ⟨p, n⟩ := t
   simp only at h1 h2 ⊢
   rw [Int.toNat_of_nonneg h1.1, Int.toNat_of_nonneg h2.1]
theorem rds_loop {α : Type} {f : RS → α × RS} {enc : α → List UInt8} : ∀ (l : List α), (∀ x ∈ l, Rds f x (enc x)) → Rds (rdLoop f l.length) l (l.flatMap enc)
 | [], _ => fun s r ho he hl hr => ⟨s, rfl, ho, Took.refl he⟩
 | x :: t, h => fun s r ho he hl hr => by
   rw [List.flatMap_cons, List.append_assoc] at hr
   obtain ⟨s', h1, h2, h3⟩ := h x (by simp) s _ ho he hl hr
   obtain ⟨s'', h4, h5, h6⟩ := rds_loop t (fun y hy => h y (by simp [hy])) s' r h2 h3.err.2 (by rw [took_len h3]; exact hl) (took_rest h3 hr)
   refine ⟨s'', ?_, h5, by rw [List.flatMap_cons]; exact h3.trans h6⟩
   show rdLoop f (t.length + 1) s = _
   rw [rdLoop_go f _ s he, h1, h4]
theorem flatMap_len {α : Type} {enc : α → List UInt8} (h1 : ∀ x, 1 ≤ (enc x).length) : ∀ l : List α, l.length ≤ (l.flatMap enc).length
 | [] => Nat.zero_le _
 | x :: t => by
   rw [List.flatMap_cons, List.length_append, List.length_cons]
   have := h1 x
   have := flatMap_len h1 t
   omega
theorem rds_list {α : Type} {f : RS → α × RS} {enc : α → List UInt8} (h1 : ∀ x, 1 ≤ (enc x).length) (l : List α) (h : ∀ x ∈ l, Rds f x (enc x)) : Rds (rdList f) l (uintE l.length ++ l.flatMap enc) := fun s r ho he hl hr => by
  rw [List.append_assoc] at hr
  have hlen := congrArg List.length hr
  rw [List.length_drop, List.length_append, List.length_append] at hlen
  have := flatMap_len h1 l
  have hc := rdCount_of he ho.pos (n := l.length) (by omega) hr (by rw [List.length_append]; omega)
  obtain ⟨h2, h3⟩ := rds_go ho he hr
  obtain ⟨s'', h4, h5, h6⟩ := rds_loop l h _ r h2 h3.err.2 hl (took_rest h3 hr)
  refine ⟨s'', ?_, h5, h3.trans h6⟩
  unfold rdList
  rw [hc]
  exact h4
theorem uintE_pos (n : Nat) : 1 ≤ (uintE n).length := by
 by_cases h : n < 128
 · rw [uintE_lt h]; exact Nat.le_refl _
 · rw [uintE_ge (by omega), List.length_cons]; omega
theorem textE_pos (s : ByteArray) : 1 ≤ (textE s).length := by
 unfold textE
 rw [List.length_append]
 have := uintE_pos s.size
 omega
theorem entryE_pos (e : En) : 1 ≤ (entryE e).length := by
 unfold entryE
 rw [List.length_append]
 have := uintE_pos e.clock.length
 omega
theorem clockFrom_mem : ∀ (last : Int) (c : List Tk), -1 ≤ last → clockFrom last c = true → ∀ t ∈ c, (0 ≤ t.process ∧ t.process ≤ 63) ∧ (0 ≤ t.n ∧ t.n ≤ 1000000000000000)
 | _, [], _, _, t, h => by simp at h
 | last, x :: r, hl, hc, t, h => by
   rw [clockFrom, Bool.and_eq_true] at hc
   have hx : last < x.process ∧ x.process ≤ 63 ∧ 1 ≤ x.n ∧ x.n ≤ 1000000000000000 := of_decide_eq_true hc.1
   rcases List.mem_cons.1 h with rfl | h
   · omega
   · exact clockFrom_mem x.process r (by omega) hc.2 t h
theorem rds_entry {e : En} (h : clockB e.clock = true) : Rds rdEntry e (entryE e) := by
 unfold entryE
 rw [ticksE_eq, ← List.append_assoc]
 refine (rds_list (f := rdTick) (fun t => by rw [List.length_append]; have := uintE_pos t.process.toNat; omega) e.clock fun t ht => ?_).bind (rds_text e.name) fun s s' s'' e1 e2 => ?_
 · obtain ⟨a, b⟩ := clockFrom_mem (-1) e.clock (by omega) h t ht
   exact rds_tick a b
 · unfold rdEntry
   rw [show rdClock s = (e.clock, s') from e1, e2]
theorem regGo_mem (list : List En) : ∀ (k : Nat) (l : List En), regGo list k l = true → ∀ e ∈ l, clockB e.clock = true ∧ nameB e.name = true
 | _, [], _, e, h => by simp at h
 | k, x :: t, hr, e, h => by
   rw [regGo, Bool.and_eq_true] at hr
   rcases List.mem_cons.1 h with rfl | h
   · have := hr.1
     unfold entryB at this
     simp only [Bool.and_eq_true] at this
     exact ⟨this.1.1.1.2, this.1.1.2⟩
   · exact regGo_mem list (k + 1) t hr.2 e h
theorem rds_parts : ∀ (ps : List Lat) (vs : List Val), vs.length = ps.length → elemsB ps vs = true → (∀ p ∈ ps, ∀ v, elemB p v = true → Rds (readV p) v (putV p v)) → Rds (readParts ps) vs (putVs ps vs)
 | [], [], _, _, _ => fun s r ho he hl hr => ⟨s, by rw [readParts], ho, by rw [putVs]; exact Took.refl he⟩
 | [], _ :: _, h, _, _ => by simp at h
 | _ :: _, [], h, _, _ => by simp at h
 | p :: ps, v :: vs, hl, he, H => by
   rw [elemsB, Bool.and_eq_true] at he
   rw [putVs]
   refine (H p (by simp) v he.1).bind (rds_parts ps vs (by simpa using hl) he.2 fun q hq => H q (by simp [hq])) fun s s' s'' e1 e2 => ?_
   rw [readParts, e1, e2]
theorem rds_read (f : Nat) : ∀ (l : Lat) (v : Val), SizeOf.sizeOf l ≤ f → WfL l → elemB l v = true → Rds (readV l) v (putV l v) := by
 induction f with
 | zero => intro l v hn; cases l; simp at hn
 | succ f ih =>
   intro l v hn hwf hel
   have hk := hwf.kinds
   have hrg : ¬ _ := of_decide_eq_false hwf.ranges
   have hp : ∀ p ∈ l.parts, ∀ v, elemB p v = true → Rds (readV p) v (putV p v) := fun p hp v => ih p v (by have := sizeOf_lpart hp; omega) (hwf.part hp)
   obtain ⟨k, lo, hi, ns, ps, rs⟩ := l
   simp only [Lat.kind, Lat.lo, Lat.hi, Lat.names, Lat.parts, Lat.rules] at hk hp hrg
   rcases kind_cases hk.1 with rfl | e | e | rfl | e | rfl | rfl
   · have hu := isE_1.1 hel
     obtain ⟨vn, vns, vps, ves⟩ := v
     simp only [Val.n, Val.names, Val.parts, Val.entries] at hu
     obtain ⟨hn, rfl, rfl, rfl⟩ := hu
     rw [putV_1]
     intro s r ho he hl hr
     obtain ⟨s', h1, h2⟩ := rds_bool _ s r ho he hl hr
     refine ⟨s', ?_, h2⟩
     rw [readV_1, h1]
     rcases hn with rfl | rfl <;> rfl
   · have hu := (isE_23 e).1 hel
     obtain ⟨vn, vns, vps, ves⟩ := v
     simp only [Val.n, Val.names, Val.parts, Val.entries] at hu
     obtain ⟨hn, rfl, rfl, rfl⟩ := hu
     rw [putV_23 e]
     intro s r ho he hl hr
     obtain ⟨s', h1, h2⟩ := rds_int (n := vn) (by omega) s r ho he hl hr
     refine ⟨s', ?_, h2⟩
     rw [readV_23 e, h1]
   · have hu := isE_410 e hel
     obtain ⟨vn, vns, vps, ves⟩ := v
     simp only [Val.n, Val.names, Val.parts, Val.entries] at hu
     obtain ⟨⟨rfl, rfl, rfl⟩, _⟩ := hu
     rw [putV_410 e]
     intro s r ho he hl hr
     obtain ⟨s', h1, h2⟩ := rds_list (f := rdText) textE_pos vns (fun x _ => rds_text x) s r ho he hl hr
     refine ⟨s', ?_, h2⟩
     rw [readV_410 e, h1]
   · have hu := isE_5.1 hel
     obtain ⟨vn, vns, vps, ves⟩ := v
     simp only [Val.n, Val.names, Val.parts, Val.entries] at hu
     obtain ⟨⟨rfl, rfl⟩, hlen, _, hm⟩ := hu
     obtain ⟨p, rfl⟩ := List.length_eq_one_iff.1 (hk.2.1 rfl)
     rw [mapB_one] at hm
     rw [putV_5]
     simp only [Val.names, Val.parts]
     have hz : (vns.zip vps).length = vns.length := by rw [List.length_zip]; omega
     intro s r ho he hl hr
     rw [← hz] at hr
     obtain ⟨s', h1, h2⟩ := rds_list (f := rdPair (readV p)) (enc := fun x => textE x.1 ++ putV p x.2) (fun x => by rw [List.length_append]; have := textE_pos x.1; omega) (vns.zip vps) (fun x hx => by
       obtain ⟨a, b⟩ := x
       have hb := (List.of_mem_zip hx).2
       exact (rds_text a).bind (hp p (by simp) b (hm b hb).1) fun s s' s'' e1 e2 => by
         unfold rdPair
         rw [e1, e2]) s r ho he hl hr
     rw [hz] at h2
     refine ⟨s', ?_, h2⟩
     rw [readV_5, h1, List.map_fst_zip (by omega), List.map_snd_zip (by omega)]
   · have hu := (isE_67 e).1 hel
     obtain ⟨vn, vns, vps, ves⟩ := v
     simp only [Val.n, Val.names, Val.parts, Val.entries] at hu
     obtain ⟨⟨rfl, rfl, rfl⟩, hlen, hm⟩ := hu
     rw [putV_67 e]
     intro s r ho he hl hr
     obtain ⟨s', h1, h2⟩ := rds_parts ps vps hlen hm hp s r ho he hl hr
     refine ⟨s', ?_, h2⟩
     rw [readV_67 e, h1]
   · have hu := isE_8.1 hel
     obtain ⟨vn, vns, vps, ves⟩ := v
     simp only [Val.n, Val.names, Val.parts, Val.entries] at hu
     obtain ⟨rfl, rfl, hu⟩ := hu
     rw [putV_8]
     rcases hu with ⟨rfl, rfl⟩ | ⟨rfl, rfl⟩ | ⟨rfl, hlen, _⟩
     · rw [show (if (Val.mk 0 [] [] []).n = 1 then textE ((Val.mk 0 [] [] []).names.headD ByteArray.empty) else []) = [] from if_neg (by decide), List.append_nil]
       intro s r ho he hl hr
       obtain ⟨s', h1, h2⟩ := rds_small (m := 2) (n := 0) (by decide) (by decide) s r ho he hl hr
       exact ⟨s', by rw [readV_8, h1]; rfl, h2⟩
     · rw [show (if (Val.mk 2 [] [] []).n = 1 then textE ((Val.mk 2 [] [] []).names.headD ByteArray.empty) else []) = [] from if_neg (by decide), List.append_nil]
       intro s r ho he hl hr
       obtain ⟨s', h1, h2⟩ := rds_small (m := 2) (n := 2) (by decide) (by decide) s r ho he hl hr
       exact ⟨s', by rw [readV_8, h1]; rfl, h2⟩
     · obtain ⟨q, rfl⟩ := List.length_eq_one_iff.1 hlen
       exact (rds_small (m := 2) (n := 1) (by decide) (by decide)).bind (rds_text q) fun s s' s'' e1 e2 => by
         rw [readV_8, e1]
         show (if (1 : Nat) = 1 then _ else _) = _
         rw [if_pos rfl, e2]
   · have hu := isE_9.1 hel
     obtain ⟨vn, vns, vps, ves⟩ := v
     simp only [Val.n, Val.names, Val.parts, Val.entries] at hu
     obtain ⟨⟨rfl, rfl, rfl⟩, hreg⟩ := hu
     rw [putV_9]
     intro s r ho he hl hr
     obtain ⟨s', h1, h2⟩ := rds_list (f := rdEntry) entryE_pos ves (fun x hx => rds_entry (regGo_mem ves 0 ves hreg x hx).1) s r ho he hl hr
     refine ⟨s', ?_, h2⟩
     rw [readV_9, h1]
/-! The decoder. -/
def decodeV (l : Lat) (b : List UInt8) : Val × Int :=
 if chkE l ≠ 0 then (zeroV, 1) else if (readV l ⟨b, 0, 0, 0⟩).2.ends ≠ 0 ∨ elemB l (readV l ⟨b, 0, 0, 0⟩).1 = false then (zeroV, 2) else ((readV l ⟨b, 0, 0, 0⟩).1, 0)
theorem new_ok (b : List UInt8) : RS.Ok ⟨b, 0, 0, 0⟩ := ⟨Nat.zero_le _, Nat.le_refl _, .inl rfl⟩
theorem decodeV_iff {l : Lat} (hl : chkE l = 0) (b : List UInt8) (v : Val) (hb : b.length < 18446744073709551616) : decodeV l b = (v, 0) ↔ elemB l v = true ∧ b = putV l v := by
 have hwf := chkE_wf hl
 unfold decodeV
 rw [if_neg (fun h => h hl)]
 constructor
 · intro h
   by_cases hc : (readV l ⟨b, 0, 0, 0⟩).2.ends ≠ 0 ∨ elemB l (readV l ⟨b, 0, 0, 0⟩).1 = false
   · rw [if_pos hc] at h
     injection h with _ h
     exact absurd h (by decide)
   · rw [if_neg hc] at h
     injection h with h _
     subst h
     have hel : elemB l (readV l ⟨b, 0, 0, 0⟩).1 = true := by
      cases h : elemB l (readV l ⟨b, 0, 0, 0⟩).1
      · exact absurd (.inr h) hc
      · rfl
     refine ⟨hel, ?_⟩
     have hends : (readV l ⟨b, 0, 0, 0⟩).2.ends = 0 := Decidable.byContradiction fun h => hc (.inl h)
     unfold RS.ends at hends
     have hT := tks_read _ l (Nat.le_refl _) hwf
     obtain ⟨hok, hd⟩ := hT.ok _ (new_ok b)
     by_cases h0 : (readV l ⟨b, 0, 0, 0⟩).2.err = 0
     · have ht := hT.took _ (new_ok b) h0
       have hnot : ¬ (readV l ⟨b, 0, 0, 0⟩).2.pos < (readV l ⟨b, 0, 0, 0⟩).2.data.length := fun h => by
         rw [if_pos ⟨h0, h⟩] at hends
         exact absurd hends (by decide)
       have hr := ht.read
       rw [show (readV l ⟨b, 0, 0, 0⟩).2.data.drop (readV l ⟨b, 0, 0, 0⟩).2.pos = [] from List.drop_eq_nil_of_le (by omega), List.append_nil] at hr
       exact hr
     · rw [if_neg (fun h => h0 h.1)] at hends
       exact absurd hends h0
 · rintro ⟨hel, rfl⟩
   obtain ⟨s', h1, h2, h3⟩ := rds_read _ l v (Nat.le_refl _) hwf hel ⟨putV l v, 0, 0, 0⟩ [] (new_ok _) rfl hb (by rw [List.append_nil]; rfl)
   rw [h1]
   have hd := h3.data
   have hp := h3.pos
   simp only at hd hp ⊢
   have he : s'.ends = 0 := by
    unfold RS.ends
    rw [if_neg (by rw [hd, hp]; omega)]
    exact h3.err.2
   rw [if_neg (by rw [he, hel]; simp)]

end Go.Proofs.YtmdjnaobllajmaaGreatDoor
