/-
  What the statements of the chapter share, part 36: QJ2.
-/
import Derived.Test.YtbhkcbidcfofiaaGreatY15
import Derived.Test.YtbhkcbidcfofiaaGreatY26
import Derived.Test.YtbhkcbidcfofiaaGreatY28
import Derived.Test.YtbhkcbidcfofiaaGreatY35
set_option linter.unusedVariables false
set_option linter.unusedSimpArgs false
set_option maxRecDepth 100000
set_option maxHeartbeats 8000000
namespace Go.Proofs.YtbhkcbidcfofiaaGreat
open _root_.And renaming intro → Z8
open _root_.Bool renaming false_and → Z9, true_and → Za
open _root_.List renaming getElem?_eq_getElem → Z0, drop_eq_getElem_cons → Z1, cons_append → Z2, reverse_cons → Z3, nil_append → Z4, reverse_nil → Z5, getElem_mem → Z6, getElem?_eq_some_iff → Z7
open Go.RowKit
section
attribute [local irreducible] on aOp
attribute [local go_sem] decide_true decide_false Bool.not_true Bool.not_false
attribute [local simp] byD_len
theorem Zq6 (s : ByteArray) : ∀ (ns : List ByteArray) (ps : List Val) (k : Nat), ps.length = ns.length → (idxS s ns k = -1 ∧ getL ns ps s = none) ∨ ∃ (j : Nat) (w : Val), j < ns.length ∧ idxS s ns k = ((k + j : Nat) : Int) ∧ ps[j]? = some w ∧ getL ns ps s = some w
 | [], ps, k, _ => .inl ⟨rfl, by cases ps <;> rfl⟩
 | n :: ns, [], k, h => by simp at h
 | n :: ns, p :: ps, k, h => by
  rw [idxS, getL]
  by_cases e : s = n
  · subst e
    rw [if_pos rfl, if_pos rfl]
    exact .inr ⟨0, p, by simp, rfl, rfl, rfl⟩
  · rw [if_neg e, if_neg (fun q => e q.symm)]
    rcases Zq6 s ns ps (k + 1) (by simpa using h) with q | ⟨j, w, h1, h2, h3, h4⟩
    · exact .inl q
    · exact .inr ⟨j + 1, w, by simp; omega, by rw [h2]; omega, h3, h4⟩
def mapLe (p : Lat) (b : Val) (x : ByteArray × Val) : Bool := match getM b x.1 with
 | some w => leqV p x.2 w
 | none => false
theorem leqMapF_eq {p : Lat} {a b : Val} : Zm6 (leqV p) a b = (a.names.zip a.parts).all (mapLe p b) := rfl
theorem mapLe_none {p : Lat} {b x : Val} {s : ByteArray} (h : getL b.names b.parts s = none) : mapLe p b (s, x) = false := by
 unfold mapLe getM
 simp only [h]
theorem mapLe_some {p : Lat} {b x w : Val} {s : ByteArray} (h : getL b.names b.parts s = some w) : mapLe p b (s, x) = leqV p x w := by
 unfold mapLe getM
 simp only [h]
theorem leqs_drop {ps : List Lat} {s t : List Val} {k : Nat} {p : Lat} {a b : Val} (hp : ps[k]? = some p) (ha : s[k]? = some a) (hb : t[k]? = some b) : leqs (ps.drop k) (s.drop k) (t.drop k) = (leqV p a b && leqs (ps.drop (k + 1)) (s.drop (k + 1)) (t.drop (k + 1))) := by
 obtain ⟨h1, e1⟩ := Z7.1 hp
 obtain ⟨h2, e2⟩ := Z7.1 ha
 obtain ⟨h3, e3⟩ := Z7.1 hb
 rw [Z1 h1, Z1 h2, Z1 h3, leqs, e1, e2, e3]
variable (G : Nat → D) (hG : ∀ g, low 0 (G g))
include hG
attribute [local go_sem] Int.reduceEq Int.reduceLE Int.reduceLT Int.toNat_natCast List.append_assoc Z2 List.length_map Z4 Nat.reduceAdd Nat.reduceBEq Nat.reduceEqDiff Nat.reduceLeDiff Nat.reduceMul n3_0 n3_1 n3_2 Yh0 n3_l Yg9 n3_sl Wi
attribute [local go_sem ↓] reduceIte
theorem leq_d (f : Nat) : ∀ (l : Lat) (a b : Val), SizeOf.sizeOf l ≤ f → WfL l → VSm a → VSm b → Ya l a = true → Ya l b = true → ∀ h : List Ob, Does Tryz.prog G 67 h [.agg (latX l), .agg (vaX a), .agg (vaX b)] (fun h' r => h' = h ∧ r = .v (.bool (leqV l a b))) := by
 induction f with
 | zero => intro l a b hn; cases l; simp at hn
 | succ f ih =>
 intro l a b hn hwf sa sb ha hb h
 refine Y9 G hG (by simp only [lowL, low]; exact ⟨Yp _ l, Yb _ a, Yb _ b, trivial⟩) (by rw [low]; trivial) ?_ h
 clear h
 obtain ⟨hk0, hk5, hk7, hk6, _, _, _, hnl, _⟩ := hwf.kinds
 have hpp : ∀ p ∈ l.parts, ∀ x y, VSm x → VSm y → Ya p x = true → Ya p y = true → ∀ h, Does Tryz.prog G 67 h [.agg (latX p), .agg (vaX x), .agg (vaX y)] (fun h' r => h' = h ∧ r = .v (.bool (leqV p x y))) := fun p hp x y hx hy ex ey => ih p x y (by have := Yu hp; omega) (hwf.part hp) hx hy ex ey
 have hlt : leqV l a b = leqV (.mk l.kind l.lo l.hi l.names l.parts l.rules) a b := by cases l; rfl
 have hea : Ya (.mk l.kind l.lo l.hi l.names l.parts l.rules) a = true := by cases l; exact ha
 have heb : Ya (.mk l.kind l.lo l.hi l.names l.parts l.rules) b = true := by cases l; exact hb
 rw [hlt]
 refine Y6 Tryz.func67 rfl (Nat.le_of_ble_eq_true rfl) hG fun hl0 _ => ?_
 simp only [Tryz.ntmps67]
 by_cases h12 : l.kind = 1 ∨ l.kind = 2
 · rw [Zm5 h12]
   rcases h12 with e | e
   all_goals
    repeat' first
     | (with_reducible first | refine sA rfl ?_ | refine sI rfl rfl ?_ | refine sT rfl ?_ | refine sB rfl ?_)
     | (with_reducible refine Y7 ?_; first | refine Yn ?_ | (refine ao1 rfl rfl fun K HK => ?_; simp only [go_sem, Y4 l, Y5 a, Y5 b, e]; (first | refine Ym (fun hq => ?_) (fun hq => ?_) | skip) <;> (refine HK _ _ ?_; clear HK K)))
    all_goals first | (exfalso; omega) | exact ⟨.inr rfl, endD (r := .v (.bool _)) hl0 rfl (by simp) (by simp) rfl (by rw [low]; trivial) ⟨rfl, by first | rfl | (simp [hq]; done)⟩⟩
 by_cases h3 : l.kind = 3
 · rw [h3, leqV_3]
   repeat' first
    | (with_reducible first | refine sA rfl ?_ | refine sI rfl rfl ?_ | refine sT rfl ?_ | refine sB rfl ?_)
    | (with_reducible refine Y7 ?_; first | refine Yn ?_ | (refine ao1 rfl rfl fun K HK => ?_; simp only [go_sem, Y4 l, Y5 a, Y5 b, h3]; (first | refine Ym (fun hq => ?_) (fun hq => ?_) | skip) <;> (refine HK _ _ ?_; clear HK K)))
   all_goals first | (exfalso; omega) | exact ⟨.inr rfl, endD (r := .v (.bool _)) hl0 rfl (by simp) (by simp) rfl (by rw [low]; trivial) ⟨rfl, by first | rfl | (simp [hq]; done)⟩⟩
 have hsub := Zn8 G hG a.names b.names sa.names sb.names
 have hnan := sa.names
 have hpan := sa.parts
 have hnbn := sb.names
 have hpbn := sb.parts
 by_cases h410 : l.kind = 4 ∨ l.kind = 10
 · rw [Jz h410]
   rcases h410 with e | e
   all_goals
    repeat' first
     | (with_reducible first | refine sA rfl ?_ | refine sI rfl rfl ?_ | refine sT rfl ?_ | refine sB rfl ?_)
     | (with_reducible refine Y7 ?_; first | refine Yn ?_ | (refine ao1 rfl rfl fun K HK => ?_; simp only [go_sem, Y4 l, Y5 a, Y5 b, e] <;> (refine HK _ _ ?_; clear HK K)) | (refine ao2 rfl rfl rfl Zh3 (hsub _) ?_; rintro _ _ ⟨rfl, rfl⟩))
    all_goals first | (exfalso; omega) | exact ⟨.inr rfl, endD (r := .v (.bool _)) hl0 rfl (by simp) (by simp) rfl (by rw [low]; trivial) ⟨rfl, rfl⟩⟩
 by_cases h5 : l.kind = 5
 · obtain ⟨p, hp⟩ := List.length_eq_one_iff.1 (hk5 h5)
   have hpm : p ∈ l.parts := by rw [hp]; simp
   have hx0 : l.parts[0]? = some p := by rw [hp]; rfl
   have hl1 : l.parts.length = 1 := by rw [hp]; rfl
   rw [h5, hp] at hea heb ⊢
   rw [Yb0, leqMapF_eq]
   generalize hA : (a.names.zip a.parts).all (mapLe p b) = A
   have hma := Vh.1 hea
   have hmb := Vh.1 heb
   have hca : a.parts.length = a.names.length := hma.2.1.symm
   have hcb : b.parts.length = b.names.length := hmb.2.1.symm
   clear hp
   repeat' first
    | (with_reducible first | refine sA rfl ?_ | refine sI rfl rfl ?_ | refine sT rfl ?_)
    | (with_reducible refine Y7 ?_; first | refine Yn ?_ | (refine ao1 rfl rfl fun K HK => ?_; simp only [go_sem, Y4 l, Y5 a, Y5 b, h5] <;> (refine HK _ _ ?_; clear HK K)))
   all_goals first | (exfalso; omega) | skip
   refine Yh (fun m e h' => ∃ (k : Nat), k ≤ a.names.length ∧ m = a.names.length - k ∧ A = ((a.names.zip a.parts).drop k).all (mapLe p b) ∧ h' = n3 (.cells (latX l)) (.cells (vaX a)) (.cells (vaX b)) [] ∧ e 3 = .ptr 0 0 ∧ e 4 = .ptr 1 0 ∧ e 5 = .ptr 2 0 ∧ e 42 = .sl 1 (a.names.map strX) ∧ e 43 = .v (.int .i64 a.names.length) ∧ e 44 = .v (.int .i64 k)) a.names.length ⟨0, Nat.zero_le _, rfl, hA.symm, by rw [Y4 l, h5, Y5 a, Y5 b]; rfl, rfl, rfl, rfl, rfl, rfl, rfl⟩ ?_
   rintro m e h' ⟨k, hk, rfl, ho, rfl, e3, e4, e5, e42, e43, e44⟩
   by_cases hlt : k < a.names.length
   rotate_left
   · obtain rfl : k = a.names.length := by omega
     rw [List.drop_eq_nil_of_le (by rw [List.length_zip]; omega)] at ho
     rw [ho]
     repeat' first
      | (with_reducible first | refine sA rfl ?_ | refine sI rfl rfl ?_ | refine sT rfl ?_ | refine sB rfl ?_)
      | (with_reducible refine Y7 ?_; first | refine Yn ?_ | (refine ao1 rfl rfl fun K HK => ?_; simp only [go_sem, Y4 l, Y5 a, Y5 b, e3, e4, e5, e42, e43, e44]; (first | refine Ym (fun hq => ?_) (fun hq => ?_) | (refine ⟨by omega, by omega, ?_⟩; intro row hrow; obtain ⟨x, hx, rfl⟩ := Vr hrow; clear hrow) | skip) <;> (refine HK _ _ ?_; clear HK K)))
      | (exfalso; omega)
     all_goals first | (exfalso; omega) | exact ⟨.inr rfl, endD (r := .v (.bool true)) hl0 rfl (by simp) (by simp) rfl (by rw [low]; trivial) ⟨rfl, rfl⟩⟩
   have hlp : k < a.parts.length := by omega
   have hs : a.names[k]? = some a.names[k] := Z0 hlt
   have hx : a.parts[k]? = some a.parts[k] := Z0 hlp
   have hxm := Z6 hlp
   have hd : (a.names.zip a.parts).drop k = (a.names[k], a.parts[k]) :: (a.names.zip a.parts).drop (k + 1) := by
    rw [Z1 (by rw [List.length_zip]; omega)]
    rw [List.getElem_zip]
   have hex : Ya p a.parts[k] = true := (hma.2.2.2 _ hxm).1
   have sx := sa.part _ hxm
   have hgi := Zq6 a.names[k] b.names b.parts 0 hcb
   have hix := idxS_d G hG b.names a.names[k] hnbn
   rw [hd, List.all_cons] at ho
   generalize a.parts[k] = x at *
   generalize a.names[k] = s at *
   have wk : IntKind.i64.wrap ((k : Int) + 1) = (k : Int) + 1 := IntWalk.i64_in _ (by omega)
   rcases hgi with ⟨i1, g1⟩ | ⟨j, w, hj, i1, hw, g1⟩
   · rw [i1] at hix
     rw [mapLe_none g1, Z9] at ho
     rw [ho]
     repeat' first
      | (with_reducible first | refine sA rfl ?_ | refine sI rfl rfl ?_ | refine sT rfl ?_ | refine sB rfl ?_)
      | (with_reducible refine Yc ?_; first | refine Xc mixd (by kernel_rfl) ?_)
      | (with_reducible refine Y7 ?_; first | refine Yn ?_ | (refine ao1 rfl rfl fun K HK => ?_; (first | refine Yi rfl ?_ | skip); simp only [go_sem, Y4 l, Y5 a, Y5 b, h5, e3, e4, e5, e42, e43, e44, wk]; (first | refine Ym (fun hq => ?_) (fun hq => ?_) | (refine ⟨by omega, by omega, ?_⟩; refine Yo (by assumption) ?_) | skip) <;> (refine HK _ _ ?_; clear HK K)) | (refine ao2 rfl rfl rfl Za3 (hix _) ?_; rintro _ _ ⟨rfl, rfl⟩))
      | ((with_reducible refine Up ?_); first | (refine aS1 rfl rfl fun K HK => ?_; (first | refine Yi rfl ?_ | skip); simp only [go_sem, Y4 l, Y5 a, Y5 b, h5, e3, e4, e5, e42, e43, e44, wk]; (first | refine Ym (fun hq => ?_) (fun hq => ?_) | (refine ⟨by omega, by omega, ?_⟩; refine Yo (by assumption) ?_) | skip) <;> (refine HK _ _ rfl ?_; clear HK K)) | refine aS0 rfl rfl ?_ | refine V2 (by simp only [Z3, Z5, Z4, Z2, Wd, chk1]; repeat' (first | exact trivial | refine Z8 ?_ ?_ | exact .inr Yw)) ?_)
      | (exfalso; omega)
     all_goals first | (exfalso; omega) | exact ⟨.inr rfl, endD (r := .v (.bool false)) hl0 rfl (by simp) (by simp) rfl (by rw [low]; trivial) ⟨rfl, rfl⟩⟩
   · have hwm := List.mem_of_getElem? hw
     have hle := hpp p hpm x w sx (sb.part _ hwm) hex (hmb.2.2.2 _ hwm).1
     rw [Nat.zero_add] at i1
     rw [i1] at hix
     rw [mapLe_some g1] at ho
     simp only [Y4 p, Y5 x, Y5 w] at hle
     have hjn : ¬ ((j : Int) < 0) := by omega
     cases hb1 : leqV p x w
     · rw [hb1] at hle ho
       rw [Z9] at ho
       rw [ho]
       repeat' first
        | (with_reducible first | refine sA rfl ?_ | refine sI rfl rfl ?_ | refine sT rfl ?_ | refine sB rfl ?_)
        | (with_reducible refine Yc ?_; first | refine Xc mixd (by kernel_rfl) ?_)
        | (with_reducible refine Y7 ?_; first | refine Yn ?_ | (refine ao1 rfl rfl fun K HK => ?_; (first | refine Yi rfl ?_ | skip); simp only [go_sem, Y4 l, Y4 p, Y5 a, Y5 b, Y5 x, Y5 w, h5, hl1, hjn, e3, e4, e5, e42, e43, e44, wk]; (first | refine Ym (fun hq => ?_) (fun hq => ?_) | (refine ⟨by omega, by omega, ?_⟩; refine Yo (by assumption) ?_) | (refine ⟨by omega, ?_⟩; refine Yo (by assumption) ?_) | skip) <;> (refine HK _ _ ?_; clear HK K)) | (refine ao2 rfl rfl rfl Za3 (hix _) ?_; rintro _ _ ⟨rfl, rfl⟩))
        | ((with_reducible refine Up ?_); first | (refine aS1 rfl rfl fun K HK => ?_; (first | refine Yi rfl ?_ | skip); simp only [go_sem, Y4 l, Y4 p, Y5 a, Y5 b, Y5 x, Y5 w, h5, hl1, hjn, e3, e4, e5, e42, e43, e44, wk]; (first | refine Ym (fun hq => ?_) (fun hq => ?_) | (refine ⟨by omega, by omega, ?_⟩; refine Yo (by assumption) ?_) | (refine ⟨by omega, ?_⟩; refine Yo (by assumption) ?_) | skip) <;> (refine HK _ _ rfl ?_; clear HK K)) | refine Xs rfl rfl rfl (by (simp only [go_sem, Y4 l, Y4 p, Y5 a, Y5 b, Y5 x, Y5 w, h5, hl1, hjn, e3, e4, e5, e42, e43, e44, wk]; rfl)) (by rw [getD_one (by simp only [go_sem, Y4 l, Y4 p, Y5 a, Y5 b, Y5 x, Y5 w, h5, hl1, hjn, e3, e4, e5, e42, e43, e44, wk])]; rfl) ?_ | refine V2 (by simp only [Z3, Z5, Z4, Z2, Wd, chk1]; repeat' (first | exact trivial | refine Z8 ?_ ?_ | exact .inr Yw | exact .inr X0 | exact .inr X4)) ?_ | refine Ys rfl rfl rfl Uz (fun h2 => hle _) ?_)
        | (exfalso; omega)
       all_goals first | (exfalso; omega) | exact ⟨.inr rfl, endD (r := .v (.bool false)) hl0 rfl (by simp) (by simp) rfl (by rw [low]; trivial) ⟨rfl, rfl⟩⟩
     · rw [hb1] at hle ho
       rw [Za] at ho
       repeat' first
        | (with_reducible first | refine sA rfl ?_ | refine sI rfl rfl ?_ | refine sT rfl ?_ | refine sB rfl ?_)
        | (with_reducible refine Yc ?_; first | refine Xc mixd (by kernel_rfl) ?_)
        | (with_reducible refine Y7 ?_; first | refine Yn ?_ | (refine ao1 rfl rfl fun K HK => ?_; (first | refine Yi rfl ?_ | skip); simp only [go_sem, Y4 l, Y4 p, Y5 a, Y5 b, Y5 x, Y5 w, h5, hl1, hjn, e3, e4, e5, e42, e43, e44, wk]; (first | refine Ym (fun hq => ?_) (fun hq => ?_) | (refine ⟨by omega, by omega, ?_⟩; refine Yo (by assumption) ?_) | (refine ⟨by omega, ?_⟩; refine Yo (by assumption) ?_) | skip) <;> (refine HK _ _ ?_; clear HK K)) | (refine ao2 rfl rfl rfl Za3 (hix _) ?_; rintro _ _ ⟨rfl, rfl⟩))
        | ((with_reducible refine Up ?_); first | (refine aS1 rfl rfl fun K HK => ?_; (first | refine Yi rfl ?_ | skip); simp only [go_sem, Y4 l, Y4 p, Y5 a, Y5 b, Y5 x, Y5 w, h5, hl1, hjn, e3, e4, e5, e42, e43, e44, wk]; (first | refine Ym (fun hq => ?_) (fun hq => ?_) | (refine ⟨by omega, by omega, ?_⟩; refine Yo (by assumption) ?_) | (refine ⟨by omega, ?_⟩; refine Yo (by assumption) ?_) | skip) <;> (refine HK _ _ rfl ?_; clear HK K)) | refine Xs rfl rfl rfl (by (simp only [go_sem, Y4 l, Y4 p, Y5 a, Y5 b, Y5 x, Y5 w, h5, hl1, hjn, e3, e4, e5, e42, e43, e44, wk]; rfl)) (by rw [getD_one (by simp only [go_sem, Y4 l, Y4 p, Y5 a, Y5 b, Y5 x, Y5 w, h5, hl1, hjn, e3, e4, e5, e42, e43, e44, wk])]; rfl) ?_ | refine V2 (by simp only [Z3, Z5, Z4, Z2, Wd, chk1]; repeat' (first | exact trivial | refine Z8 ?_ ?_ | exact .inr Yw | exact .inr X0 | exact .inr X4)) ?_ | refine Ys rfl rfl rfl Uz (fun h2 => hle _) ?_)
        | (exfalso; omega)
       all_goals first | (exfalso; omega) | exact ⟨rfl, a.names.length - (k + 1), by omega, k + 1, hlt, rfl, ho, (by rw [Y4 l, Y5 a, Y5 b, h5]), e3, e4, e5, e42, e43, rfl⟩
 by_cases h6 : l.kind = 6
 · rw [h6] at hea heb ⊢
   rw [Ya9]
   have hpa := (el67 (k := 6) (lo := l.lo) (hi := l.hi) (ns := l.names) (ps := l.parts) (rs := l.rules) (v := a) (.inl rfl)).1 hea
   have hpb := (el67 (k := 6) (lo := l.lo) (hi := l.hi) (ns := l.names) (ps := l.parts) (rs := l.rules) (v := b) (.inl rfl)).1 heb
   have hla : a.parts.length = l.parts.length := hpa.1.1
   have hlb : b.parts.length = l.parts.length := hpb.1.1
   have hela : ∀ (i : Nat) (h : i < l.parts.length) (h' : i < a.parts.length), Ya l.parts[i] a.parts[i] = true := (Ue l.parts a.parts hla).1 hpa.1.2
   have helb : ∀ (i : Nat) (h : i < l.parts.length) (h' : i < b.parts.length), Ya l.parts[i] b.parts[i] = true := (Ue l.parts b.parts hlb).1 hpb.1.2
   repeat' first
    | (with_reducible first | refine sA rfl ?_ | refine sI rfl rfl ?_ | refine sT rfl ?_)
    | (with_reducible refine Y7 ?_; first | refine Yn ?_ | (refine ao1 rfl rfl fun K HK => ?_; simp only [go_sem, Y4 l, Y5 a, Y5 b, h6] <;> (refine HK _ _ ?_; clear HK K)))
   all_goals first | (exfalso; omega) | skip
   refine Yh (fun m e h' => ∃ (k : Nat) (T : List Ob), k ≤ l.parts.length ∧ m = l.parts.length - k ∧ leqs l.parts a.parts b.parts = leqs (l.parts.drop k) (a.parts.drop k) (b.parts.drop k) ∧ h' = n3 (.cells (latX l)) (.cells (vaX a)) (.cells (vaX b)) T ∧ e 3 = .ptr 0 0 ∧ e 4 = .ptr 1 0 ∧ e 5 = .ptr 2 0 ∧ e 77 = .sl 6 (l.parts.map latX) ∧ e 78 = .v (.int .i64 l.parts.length) ∧ e 79 = .v (.int .i64 k)) l.parts.length ⟨0, [], Nat.zero_le _, rfl, rfl, by rw [Y4 l, h6, Y5 a, Y5 b]; rfl, rfl, rfl, rfl, rfl, rfl, rfl⟩ ?_
   rintro m e h' ⟨k, T, hk, rfl, ho, rfl, e3, e4, e5, e77, e78, e79⟩
   by_cases hlt : k < l.parts.length
   rotate_left
   · obtain rfl : k = l.parts.length := by omega
     rw [List.drop_length, leqs] at ho
     rw [ho]
     repeat' first
      | (with_reducible first | refine sA rfl ?_ | refine sI rfl rfl ?_ | refine sT rfl ?_ | refine sB rfl ?_)
      | (with_reducible refine Y7 ?_; first | refine Yn ?_ | (refine ao1 rfl rfl fun K HK => ?_; simp only [go_sem, Y4 l, Y5 a, Y5 b, e3, e4, e5, e77, e78, e79]; (first | refine Ym (fun hq => ?_) (fun hq => ?_) | (refine ⟨by omega, by omega, ?_⟩; intro row hrow; obtain ⟨x, hx, rfl⟩ := Vr hrow; clear hrow) | skip) <;> (refine HK _ _ ?_; clear HK K)))
      | (exfalso; omega)
     all_goals first | (exfalso; omega) | exact ⟨.inr rfl, endD (r := .v (.bool true)) hl0 rfl (by simp) (by simp) rfl (by rw [low]; trivial) ⟨rfl, rfl⟩⟩
   have hla' : k < a.parts.length := by omega
   have hlb' : k < b.parts.length := by omega
   have hp : l.parts[k]? = some l.parts[k] := Z0 hlt
   have hx : a.parts[k]? = some a.parts[k] := Z0 hla'
   have hy : b.parts[k]? = some b.parts[k] := Z0 hlb'
   have hle := hpp _ (Z6 hlt) _ _ (sa.part _ (Z6 hla')) (sb.part _ (Z6 hlb')) (hela k hlt hla') (helb k hlt hlb')
   rw [leqs_drop hp hx hy] at ho
   generalize l.parts[k] = p at *
   generalize a.parts[k] = x at *
   generalize b.parts[k] = y at *
   have wk : IntKind.i64.wrap ((k : Int) + 1) = (k : Int) + 1 := IntWalk.i64_in _ (by have := Zw4 hwf; omega)
   simp only [Y4 p, Y5 x, Y5 y] at hle
   cases hb1 : leqV p x y
   · rw [hb1] at hle ho
     rw [ho, Z9]
     repeat' first
      | (with_reducible first | refine sA rfl ?_ | refine sI rfl rfl ?_ | refine sT rfl ?_ | refine sB rfl ?_)
      | (with_reducible refine Yc ?_; first | refine Xc mixd (by kernel_rfl) ?_)
      | (with_reducible refine Y7 ?_; first | refine Yn ?_ | (refine ao1 rfl rfl fun K HK => ?_; simp only [go_sem, Y4 l, Y4 p, Y5 a, Y5 b, Y5 x, Y5 y, h6, e3, e4, e5, e77, e78, e79, wk]; (first | refine Ym (fun hq => ?_) (fun hq => ?_) | (refine ⟨by omega, by omega, ?_⟩; refine Yo (by assumption) ?_) | skip) <;> (refine HK _ _ ?_; clear HK K)) | (refine ao1' rfl fun K HK => ?_; simp only [go_sem, Y4 l, Y4 p, Y5 a, Y5 b, Y5 x, Y5 y, h6, e3, e4, e5, e77, e78, e79, wk]; refine HK _ _ ?_; clear HK K))
      | ((with_reducible refine Up ?_); first | (refine Xs rfl rfl (by first | rfl | (simp only [go_sem, Y4 l, Y4 p, Y5 a, Y5 b, Y5 x, Y5 y, h6, e3, e4, e5, e77, e78, e79, wk]; rfl)) (by (simp only [go_sem, Y4 l, Y4 p, Y5 a, Y5 b, Y5 x, Y5 y, h6, e3, e4, e5, e77, e78, e79, wk]; rfl)) (by rw [getD_agg' aggT_26, szT_26]; rfl) ?_) | (refine aS1 rfl rfl fun K HK => ?_; simp only [go_sem, Y4 l, Y4 p, Y5 a, Y5 b, Y5 x, Y5 y, h6, e3, e4, e5, e77, e78, e79, wk]; (first | refine Ym (fun hq => ?_) (fun hq => ?_) | (refine ⟨by omega, by omega, ?_⟩; refine Yo (by assumption) ?_) | skip) <;> (refine HK _ _ rfl ?_; clear HK K)) | refine Xs rfl rfl rfl (by (simp only [go_sem, Y4 l, Y4 p, Y5 a, Y5 b, Y5 x, Y5 y, h6, e3, e4, e5, e77, e78, e79, wk]; rfl)) (by rw [getD_one (by simp only [go_sem, Y4 l, Y4 p, Y5 a, Y5 b, Y5 x, Y5 y, h6, e3, e4, e5, e77, e78, e79, wk])]; rfl) ?_ | refine V2 (by simp only [Z3, Z5, Z4, Z2, Wd, chk1]; repeat' (first | exact trivial | refine Z8 ?_ ?_ | exact .inr Yw | exact .inr X0 | exact .inr X4)) ?_ | refine Ys rfl rfl rfl Uz (fun h2 => hle _) ?_)
      | (exfalso; omega)
     all_goals first | (exfalso; omega) | exact ⟨.inr rfl, endD (r := .v (.bool false)) hl0 rfl (by simp) (by simp) rfl (by rw [low]; trivial) ⟨rfl, rfl⟩⟩
   · rw [hb1] at hle ho
     rw [Za] at ho
     repeat' first
      | (with_reducible first | refine sA rfl ?_ | refine sI rfl rfl ?_ | refine sT rfl ?_ | refine sB rfl ?_)
      | (with_reducible refine Yc ?_; first | refine Xc mixd (by kernel_rfl) ?_)
      | (with_reducible refine Y7 ?_; first | refine Yn ?_ | (refine ao1 rfl rfl fun K HK => ?_; simp only [go_sem, Y4 l, Y4 p, Y5 a, Y5 b, Y5 x, Y5 y, h6, e3, e4, e5, e77, e78, e79, wk]; (first | refine Ym (fun hq => ?_) (fun hq => ?_) | (refine ⟨by omega, by omega, ?_⟩; refine Yo (by assumption) ?_) | skip) <;> (refine HK _ _ ?_; clear HK K)) | (refine ao1' rfl fun K HK => ?_; simp only [go_sem, Y4 l, Y4 p, Y5 a, Y5 b, Y5 x, Y5 y, h6, e3, e4, e5, e77, e78, e79, wk]; refine HK _ _ ?_; clear HK K))
      | ((with_reducible refine Up ?_); first | (refine Xs rfl rfl (by first | rfl | (simp only [go_sem, Y4 l, Y4 p, Y5 a, Y5 b, Y5 x, Y5 y, h6, e3, e4, e5, e77, e78, e79, wk]; rfl)) (by (simp only [go_sem, Y4 l, Y4 p, Y5 a, Y5 b, Y5 x, Y5 y, h6, e3, e4, e5, e77, e78, e79, wk]; rfl)) (by rw [getD_agg' aggT_26, szT_26]; rfl) ?_) | (refine aS1 rfl rfl fun K HK => ?_; simp only [go_sem, Y4 l, Y4 p, Y5 a, Y5 b, Y5 x, Y5 y, h6, e3, e4, e5, e77, e78, e79, wk]; (first | refine Ym (fun hq => ?_) (fun hq => ?_) | (refine ⟨by omega, by omega, ?_⟩; refine Yo (by assumption) ?_) | skip) <;> (refine HK _ _ rfl ?_; clear HK K)) | refine Xs rfl rfl rfl (by (simp only [go_sem, Y4 l, Y4 p, Y5 a, Y5 b, Y5 x, Y5 y, h6, e3, e4, e5, e77, e78, e79, wk]; rfl)) (by rw [getD_one (by simp only [go_sem, Y4 l, Y4 p, Y5 a, Y5 b, Y5 x, Y5 y, h6, e3, e4, e5, e77, e78, e79, wk])]; rfl) ?_ | refine V2 (by simp only [Z3, Z5, Z4, Z2, Wd, chk1]; repeat' (first | exact trivial | refine Z8 ?_ ?_ | exact .inr Yw | exact .inr X0 | exact .inr X4)) ?_ | refine Ys rfl rfl rfl Uz (fun h2 => hle _) ?_)
      | (exfalso; omega)
     all_goals first | (exfalso; omega) | exact ⟨rfl, l.parts.length - (k + 1), by omega, k + 1, _, hlt, rfl, ho, (by rw [Y4 l, Y5 a, Y5 b, h6]), e3, e4, e5, e77, e78, rfl⟩
 by_cases h7 : l.kind = 7
 · rw [h7] at hea heb ⊢
   rw [leqV_7]
   obtain ⟨p, q, hpq, _⟩ := two_parts hwf h7
   have hx0 : l.parts[0]? = some p := by rw [hpq]; rfl
   have hx1 : l.parts[1]? = some q := by rw [hpq]; rfl
   have hl2 : l.parts.length = 2 := by rw [hpq]; rfl
   have hpm : p ∈ l.parts := by rw [hpq]; simp
   have hqm : q ∈ l.parts := by rw [hpq]; simp
   have hpa := (el67 (k := 7) (lo := l.lo) (hi := l.hi) (ns := l.names) (ps := l.parts) (rs := l.rules) (v := a) (.inr rfl)).1 hea
   have hpb := (el67 (k := 7) (lo := l.lo) (hi := l.hi) (ns := l.names) (ps := l.parts) (rs := l.rules) (v := b) (.inr rfl)).1 heb
   rw [hpq] at hpa hpb ⊢
   obtain ⟨a0, t0, ea, ha0, hpa'⟩ := Yj.1 hpa.1
   obtain ⟨a1, t1, ea1, ha1, hpa''⟩ := Yj.1 hpa'
   rw [Jg.1 hpa''] at ea1
   subst ea1
   obtain ⟨b0, u0, eb, hb0, hpb'⟩ := Yj.1 hpb.1
   obtain ⟨b1, u1, eb1, hb1, hpb''⟩ := Yj.1 hpb'
   rw [Jg.1 hpb''] at eb1
   subst eb1
   have hy0 : a.parts[0]? = some a0 := by rw [ea]; rfl
   have hy1 : a.parts[1]? = some a1 := by rw [ea]; rfl
   have hva : a.parts.length = 2 := by rw [ea]; rfl
   have hz0 : b.parts[0]? = some b0 := by rw [eb]; rfl
   have hz1 : b.parts[1]? = some b1 := by rw [eb]; rfl
   have hvb : b.parts.length = 2 := by rw [eb]; rfl
   have s0 := sa.part a0 (by rw [ea]; simp)
   have s1 := sa.part a1 (by rw [ea]; simp)
   have u0 := sb.part b0 (by rw [eb]; simp)
   have u1 := sb.part b1 (by rw [eb]; simp)
   have hr0 := hpp p hpm a0 b0 s0 u0 ha0 hb0
   have hr1 := hpp q hqm a1 b1 s1 u1 ha1 hb1
   have heq := Zq8 G hG a0 b0 s0 u0
   rw [ea, eb, Yb1, leqLex2]
   clear ea eb hpa hpa' hpa'' hpb hpb' hpb'' hpq
   simp only [Y4 p, Y5 a0, Y5 b0] at hr0
   simp only [Y4 q, Y5 a1, Y5 b1] at hr1
   simp only [Y5 a0, Y5 b0] at heq
   by_cases hv0 : valC a0 b0 = 0
   · rw [if_pos hv0]
     rw [decide_eq_true hv0] at heq
     repeat' first
      | (with_reducible first | refine sA rfl ?_ | refine sI rfl rfl ?_ | refine sT rfl ?_ | refine sB rfl ?_)
      | (with_reducible refine Yc ?_; first | refine Xc mixd (by kernel_rfl) ?_)
      | (with_reducible refine Y7 ?_; first | refine Yn ?_ | (refine ao1 rfl rfl fun K HK => ?_; simp only [go_sem, Y4 l, Y4 p, Y4 q, Y5 a, Y5 b, Y5 a0, Y5 a1, Y5 b0, Y5 b1, h7, hl2, hva, hvb]; (first | (refine ⟨by omega, ?_⟩; refine Yo (by assumption) ?_) | skip) <;> (refine HK _ _ ?_; clear HK K)))
      | ((with_reducible refine Up ?_); first | (refine aS1 rfl rfl fun K HK => ?_; simp only [go_sem, Y4 l, Y4 p, Y4 q, Y5 a, Y5 b, Y5 a0, Y5 a1, Y5 b0, Y5 b1, h7, hl2, hva, hvb]; (first | (refine ⟨by omega, ?_⟩; refine Yo (by assumption) ?_) | skip) <;> (refine HK _ _ rfl ?_; clear HK K)) | refine Xs rfl rfl rfl (by (simp only [go_sem, Y4 l, Y4 p, Y4 q, Y5 a, Y5 b, Y5 a0, Y5 a1, Y5 b0, Y5 b1, h7, hl2, hva, hvb]; rfl)) (by rw [getD_one (by simp only [go_sem, Y4 l, Y4 p, Y4 q, Y5 a, Y5 b, Y5 a0, Y5 a1, Y5 b0, Y5 b1, h7, hl2, hva, hvb])]; rfl) ?_ | refine V2 (by simp only [Z3, Z5, Z4, Z2, Wd, chk1]; repeat' (first | exact trivial | refine Z8 ?_ ?_ | exact .inr Yw | exact .inr X0 | exact .inr X4)) ?_ | refine Ys rfl rfl rfl Zc7 (fun h2 => heq _) ?_ | refine Ys rfl rfl rfl Uz (fun h2 => hr1 _) ?_)
     all_goals first | (exfalso; omega) | exact ⟨.inr rfl, endD (r := .v (.bool _)) hl0 rfl (by simp) (by simp) rfl (by rw [low]; trivial) ⟨rfl, rfl⟩⟩
   · rw [if_neg hv0]
     rw [decide_eq_false hv0] at heq
     repeat' first
      | (with_reducible first | refine sA rfl ?_ | refine sI rfl rfl ?_ | refine sT rfl ?_ | refine sB rfl ?_)
      | (with_reducible refine Yc ?_; first | refine Xc mixd (by kernel_rfl) ?_)
      | (with_reducible refine Y7 ?_; first | refine Yn ?_ | (refine ao1 rfl rfl fun K HK => ?_; simp only [go_sem, Y4 l, Y4 p, Y4 q, Y5 a, Y5 b, Y5 a0, Y5 a1, Y5 b0, Y5 b1, h7, hl2, hva, hvb]; (first | (refine ⟨by omega, ?_⟩; refine Yo (by assumption) ?_) | skip) <;> (refine HK _ _ ?_; clear HK K)))
      | ((with_reducible refine Up ?_); first | (refine aS1 rfl rfl fun K HK => ?_; simp only [go_sem, Y4 l, Y4 p, Y4 q, Y5 a, Y5 b, Y5 a0, Y5 a1, Y5 b0, Y5 b1, h7, hl2, hva, hvb]; (first | (refine ⟨by omega, ?_⟩; refine Yo (by assumption) ?_) | skip) <;> (refine HK _ _ rfl ?_; clear HK K)) | refine Xs rfl rfl rfl (by (simp only [go_sem, Y4 l, Y4 p, Y4 q, Y5 a, Y5 b, Y5 a0, Y5 a1, Y5 b0, Y5 b1, h7, hl2, hva, hvb]; rfl)) (by rw [getD_one (by simp only [go_sem, Y4 l, Y4 p, Y4 q, Y5 a, Y5 b, Y5 a0, Y5 a1, Y5 b0, Y5 b1, h7, hl2, hva, hvb])]; rfl) ?_ | refine V2 (by simp only [Z3, Z5, Z4, Z2, Wd, chk1]; repeat' (first | exact trivial | refine Z8 ?_ ?_ | exact .inr Yw | exact .inr X0 | exact .inr X4)) ?_ | refine Ys rfl rfl rfl Zc7 (fun h2 => heq _) ?_ | refine Ys rfl rfl rfl Uz (fun h2 => hr0 _) ?_)
     all_goals first | (exfalso; omega) | exact ⟨.inr rfl, endD (r := .v (.bool _)) hl0 rfl (by simp) (by simp) rfl (by rw [low]; trivial) ⟨rfl, rfl⟩⟩
 by_cases h8 : l.kind = 8
 · rw [h8, leqV_8]
   have heq := Zq8 G hG a b sa sb
   simp only [Y5 a, Y5 b] at heq
   by_cases c0 : a.n = 0
   · rw [decide_eq_true (.inl c0)]
     repeat' first
      | (with_reducible first | refine sA rfl ?_ | refine sI rfl rfl ?_ | refine sT rfl ?_ | refine sB rfl ?_)
      | (with_reducible refine Y7 ?_; first | refine Yn ?_ | (refine ao1 rfl rfl fun K HK => ?_; (first | refine Yi rfl ?_ | skip); simp only [go_sem, Y4 l, Y5 a, Y5 b, h8, c0] <;> (refine HK _ _ ?_; clear HK K)) | refine ao0 rfl rfl ?_)
     all_goals first | (exfalso; omega) | exact ⟨.inr rfl, endD (r := .v (.bool true)) hl0 rfl (by simp) (by simp) rfl (by rw [low]; trivial) ⟨rfl, rfl⟩⟩
   · by_cases c2 : b.n = 2
     · rw [decide_eq_true (.inr (.inl c2))]
       have g0 : (a.n == 0) = false := by rw [beq_eq_false_iff_ne]; exact c0
       repeat' first
        | (with_reducible first | refine sA rfl ?_ | refine sI rfl rfl ?_ | refine sT rfl ?_ | refine sB rfl ?_)
        | (with_reducible refine Y7 ?_; first | refine Yn ?_ | (refine ao1 rfl rfl fun K HK => ?_; (first | refine Yi rfl ?_ | skip); simp only [go_sem, Y4 l, Y5 a, Y5 b, h8, c0, c2, g0] <;> (refine HK _ _ ?_; clear HK K)) | refine ao0 rfl rfl ?_)
       all_goals first | (exfalso; omega) | exact ⟨.inr rfl, endD (r := .v (.bool true)) hl0 rfl (by simp) (by simp) rfl (by rw [low]; trivial) ⟨rfl, rfl⟩⟩
     · rw [show decide (a.n = 0 ∨ b.n = 2 ∨ valC a b = 0) = decide (valC a b = 0) by rw [decide_eq_decide]; simp [c0, c2]]
       have g0 : (a.n == 0) = false := by rw [beq_eq_false_iff_ne]; exact c0
       have g2 : (b.n == 2) = false := by rw [beq_eq_false_iff_ne]; exact c2
       generalize decide (valC a b = 0) = bb at *
       repeat' first
        | (with_reducible first | refine sA rfl ?_ | refine sI rfl rfl ?_ | refine sT rfl ?_ | refine sB rfl ?_)
        | (with_reducible refine Y7 ?_; first | refine Yn ?_ | (refine ao1 rfl rfl fun K HK => ?_; (first | refine Yi rfl ?_ | skip); simp only [go_sem, Y4 l, Y5 a, Y5 b, h8, c0, c2, g0, g2] <;> (refine HK _ _ ?_; clear HK K)) | (refine ao2 rfl rfl rfl Zc7 (heq _) ?_; rintro _ _ ⟨rfl, rfl⟩))
       all_goals first | (exfalso; omega) | exact ⟨.inr rfl, endD (r := .v (.bool bb)) hl0 rfl (by simp) (by simp) rfl (by rw [low]; trivial) ⟨rfl, rfl⟩⟩
 have h9 : l.kind = 9 := by omega
 rw [h9] at hea heb ⊢
 rw [Ya8]
 unfold leqE
 have hra : regB a.entries = true := (Yo2.1 hea).2
 have hrb : regB b.entries = true := (Yo2.1 heb).2
 have hoa := (Wo.1 hra).1
 have hob := (Wo.1 hrb).1
 have hean := sa.entries
 have hcov := fun p (hp : p ∈ a.entries) => covered_d G hG p b.entries (sa.ents p hp).1 (fun q hq => (sb.ents q hq).1) sb.entries (hoa p hp).2.1 (fun q hq => (hob q hq).2.1)
 repeat' first
  | (with_reducible first | refine sA rfl ?_ | refine sI rfl rfl ?_ | refine sT rfl ?_ | refine sB rfl ?_)
  | (with_reducible refine Y7 ?_; first | refine Yn ?_ | (refine ao1 rfl rfl fun K HK => ?_; simp only [go_sem, Y4 l, Y5 a, Y5 b, h9] <;> (refine HK _ _ ?_; clear HK K)))
 all_goals first | (exfalso; omega) | skip
 refine Yh (fun m e h' => ∃ (k : Nat) (T : List Ob), k ≤ a.entries.length ∧ m = a.entries.length - k ∧ (a.entries.all fun p => b.entries.any fun q => undE p q) = ((a.entries.drop k).all fun p => b.entries.any fun q => undE p q) ∧ h' = n3 (.cells (latX l)) (.cells (vaX a)) (.cells (vaX b)) T ∧ e 5 = .ptr 2 0 ∧ e 151 = .sl 2 (a.entries.map enX) ∧ e 152 = .v (.int .i64 a.entries.length) ∧ e 153 = .v (.int .i64 k)) a.entries.length ⟨0, [], Nat.zero_le _, rfl, rfl, by rw [Y4 l, h9, Y5 a, Y5 b]; rfl, rfl, rfl, rfl, rfl⟩ ?_
 rintro m e h' ⟨k, T, hk, rfl, ho, rfl, e5, e151, e152, e153⟩
 by_cases hlt : k < a.entries.length
 rotate_left
 · obtain rfl : k = a.entries.length := by omega
   rw [List.drop_length] at ho
   rw [ho]
   repeat' first
    | (with_reducible first | refine sA rfl ?_ | refine sI rfl rfl ?_ | refine sT rfl ?_ | refine sB rfl ?_)
    | (with_reducible refine Y7 ?_; first | refine Yn ?_ | (refine ao1 rfl rfl fun K HK => ?_; simp only [go_sem, Y4 l, Y5 a, Y5 b, e5, e151, e152, e153]; (first | refine Ym (fun hq => ?_) (fun hq => ?_) | (refine ⟨by omega, by omega, ?_⟩; intro row hrow; obtain ⟨x, hx, rfl⟩ := Vr hrow; clear hrow) | skip) <;> (refine HK _ _ ?_; clear HK K)))
    | (exfalso; omega)
   all_goals first | (exfalso; omega) | exact ⟨.inr rfl, endD (r := .v (.bool true)) hl0 rfl (by simp) (by simp) rfl (by rw [low]; trivial) ⟨rfl, rfl⟩⟩
 have hx : a.entries[k]? = some a.entries[k] := Z0 hlt
 have hd : a.entries.drop k = a.entries[k] :: a.entries.drop (k + 1) := Z1 hlt
 have hcv := hcov _ (Z6 hlt)
 rw [hd, List.all_cons] at ho
 generalize a.entries[k] = x at *
 have wk : IntKind.i64.wrap ((k : Int) + 1) = (k : Int) + 1 := IntWalk.i64_in _ (by omega)
 simp only [X1 x] at hcv
 cases hb1 : b.entries.any fun q => undE x q
 · rw [hb1] at hcv ho
   rw [ho, Z9]
   repeat' first
    | (with_reducible first | refine sA rfl ?_ | refine sI rfl rfl ?_ | refine sT rfl ?_ | refine sB rfl ?_)
    | (with_reducible refine Y7 ?_; first | refine Yn ?_ | (refine ao1 rfl rfl fun K HK => ?_; simp only [go_sem, Y4 l, Y5 a, Y5 b, X1 x, h9, e5, e151, e152, e153, wk]; (first | refine Ym (fun hq => ?_) (fun hq => ?_) | (refine ⟨by omega, by omega, ?_⟩; refine Yo (by assumption) ?_) | skip) <;> (refine HK _ _ ?_; clear HK K)) | (refine ao2 rfl rfl rfl Yp5 (hcv _) ?_; rintro _ _ ⟨rfl, rfl⟩) | (refine ao1' rfl fun K HK => ?_; simp only [go_sem, Y4 l, Y5 a, Y5 b, X1 x, h9, e5, e151, e152, e153, wk]; refine HK _ _ ?_; clear HK K))
    | (exfalso; omega)
   all_goals first | (exfalso; omega) | exact ⟨.inr rfl, endD (r := .v (.bool false)) hl0 rfl (by simp) (by simp) rfl (by rw [low]; trivial) ⟨rfl, rfl⟩⟩
 · rw [hb1] at hcv ho
   rw [Za] at ho
   repeat' first
    | (with_reducible first | refine sA rfl ?_ | refine sI rfl rfl ?_ | refine sT rfl ?_ | refine sB rfl ?_)
    | (with_reducible refine Y7 ?_; first | refine Yn ?_ | (refine ao1 rfl rfl fun K HK => ?_; simp only [go_sem, Y4 l, Y5 a, Y5 b, X1 x, h9, e5, e151, e152, e153, wk]; (first | refine Ym (fun hq => ?_) (fun hq => ?_) | (refine ⟨by omega, by omega, ?_⟩; refine Yo (by assumption) ?_) | skip) <;> (refine HK _ _ ?_; clear HK K)) | (refine ao2 rfl rfl rfl Yp5 (hcv _) ?_; rintro _ _ ⟨rfl, rfl⟩) | (refine ao1' rfl fun K HK => ?_; simp only [go_sem, Y4 l, Y5 a, Y5 b, X1 x, h9, e5, e151, e152, e153, wk]; refine HK _ _ ?_; clear HK K))
    | (exfalso; omega)
   all_goals first | (exfalso; omega) | exact ⟨rfl, a.entries.length - (k + 1), by omega, k + 1, _, hlt, rfl, ho, (by rw [Y4 l, Y5 a, Y5 b, h9]), e5, e151, e152, rfl⟩
end
end Go.Proofs.YtbhkcbidcfofiaaGreat
