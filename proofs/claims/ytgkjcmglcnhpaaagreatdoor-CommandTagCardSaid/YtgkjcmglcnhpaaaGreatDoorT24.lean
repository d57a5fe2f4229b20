/-
  What the statements of the chapter share, part 24: VA2, VA3.
-/
import Derived.Test.YtgkjcmglcnhpaaaGreatDoorT13
import Derived.Test.YtgkjcmglcnhpaaaGreatDoorT20
import Derived.Test.YtgkjcmglcnhpaaaGreatDoorT23
set_option linter.unusedVariables false
set_option linter.unusedSimpArgs false
set_option maxRecDepth 100000
set_option maxHeartbeats 8000000
namespace Go.Proofs.YtgkjcmglcnhpaaaGreatDoor
open _root_.Bool renaming false_eq_true → Z0
open _root_.Int renaming reduceEq → Z7, reduceLT → Z8, reduceLE → Z9, toNat_zero → Zd, toNat_natCast → Zg
open _root_.List renaming length_map → Z3, append_assoc → Za, cons_append → Zb, nil_append → Zc, length_drop → Ze, length_nil → Zf, length_append → Zh, map_nil → Zj, eq_nil_of_length_eq_zero → Zk, length_cons → Zm, drop_eq_getElem_cons → Zn, getElem?_eq_getElem → Zo, map_append → Zp, drop_eq_nil_of_le → Zq
open _root_.Nat renaming reduceEqDiff → Z1, reduceLeDiff → Z2, reduceAdd → Z4, reduceBEq → Z5, reduceMul → Z6, le_of_ble_eq_true → Zi
open _root_.Go.Proofs.Tryz renaming prog → Zl
open Go.RowKit
section
attribute [local irreducible] on aOp
attribute [local go_sem] decide_true decide_false Bool.not_true Bool.not_false
attribute [local simp] byD_len
def bM (A : Ob) (T : List Ob) : List Ob := A :: T
section
variable {A B y y' : Ob} {T l : List Ob}
theorem bM_0 : (bM A T)[0]? = some A := rfl
theorem Uc : (bM A T).set 0 B = bM B T := rfl
theorem W6 : (bM A T).length = T.length + 1 := rfl
theorem W7 : bM A T ++ l = bM A (T ++ l) := rfl
theorem bM_l : (bM A (T ++ [y]))[T.length + 1]? = some y := by simp [bM]
theorem Ub : (bM A (T ++ [y])).set (T.length + 1) y' = bM A (T ++ [y']) := by simp [bM]
end
theorem Zb0 (m : Nat) (l : List Tk) : low m (.sl 2 (l.map tkX)) := Uy m l fun x _ => low_tk m x
theorem low_ens2 (m : Nat) (l : List En) : low m (.sl 2 (l.map enX)) := Uy m l fun x _ => low_en m x
theorem clock_go {c : List Tk} {k : Nat} {x : Tk} {p : Int} (h : c.drop k = x :: c.drop (k + 1)) : Un p (c.drop k) = (tickB p x && Un x.process (c.drop (k + 1))) := by rw [h, Un]
variable (G : Nat → D) (hG : ∀ g, low 0 (G g))
include hG
theorem Zn3 (v : Val) (hv : VSm v) (n li pa en : Bool) (h : List Ob) : Does Zl G 136 h [.agg (vaX v), .v (.bool n), .v (.bool li), .v (.bool pa), .v (.bool en)] (fun h' r => h' = h ∧ r = .v (.bool (Ue v n li pa en))) := by
 refine Yh G hG (by simp only [lowL, low]; exact ⟨Uk _ v, trivial, trivial, trivial, trivial, trivial⟩) (by rw [low]; trivial) ?_ h
 clear h
 have h1 := hv.names
 have h2 := hv.parts
 have h3 := hv.entries
 unfold Ue
 generalize hn : v.n = m
 generalize hx : v.names.length = a at *
 generalize hy : v.parts.length = b at *
 generalize hz : v.entries.length = c at *
 refine Y7 Tryz.func136 rfl (Zi rfl) hG fun hl0 _ => ?_
 simp only [Tryz.ntmps136]
 cases n <;> cases li <;> cases pa <;> cases en
 all_goals
  skip
  repeat' first
   | (with_reducible first | refine sA rfl ?_ | refine sT rfl ?_)
   | (with_reducible refine Y9 ?_; first | refine Y5 ?_ | (refine ao1 rfl rfl fun K HK => ?_; (first | refine Y6 rfl ?_ | skip); simp only [go_sem, ↓reduceIte, Z1, Z4, Z2, Z5, Z6, Z7, Z8, Z9, Yg, Z3, hn, hx, hy, hz, Z0]; (first | refine Y8 (fun hq => ?_) (fun hq => ?_) | skip) <;> (refine HK _ _ ?_; clear HK K)) | refine ao0 rfl rfl ?_)
  all_goals first | (exfalso; omega) | refine ⟨.inr rfl, endV hl0 rfl rfl ⟨rfl, congrArg (fun b => D.v (.bool b)) ?_⟩⟩
  all_goals
   clear hl0
   rw [Bool.eq_iff_iff]
   simp
   try omega
theorem allowed_d (only list : List ByteArray) (ho : only.length ≤ 9223372036854775807) (hl : list.length ≤ 9223372036854775807) (hs : ∀ s ∈ list, s.size ≤ 9223372036854775807) (h : List Ob) : Does Zl G 137 h [.sl 1 (only.map strX), .sl 1 (list.map strX)] (fun h' r => h' = h ∧ r = .v (.bool (Vg only list))) := by
 refine Yh G hG (by simp only [lowL]; exact ⟨Zc5 _ only, Zc5 _ list, trivial⟩) (by rw [low]; trivial) ?_ h
 clear h
 unfold Vg
 have hso := Zy5 G hG list hl
 refine Y7 Tryz.func137 rfl (Zi rfl) hG fun hl0 _ => ?_
 simp only [Tryz.ntmps137]
 cases hsb : Vi list <;> rw [hsb] at hso
 · skip
   repeat' first
    | (with_reducible first | refine sA rfl ?_ | refine sI rfl rfl ?_ | refine sT rfl ?_)
    | (with_reducible refine Y9 ?_; first | refine Y5 ?_ | (refine ao1 rfl rfl fun K HK => ?_; simp only [go_sem, ↓reduceIte, Z1, Z4, Z2, Z5, Z6, Z7, Z8, Z9, Z0] <;> (refine HK _ _ ?_; clear HK K)) | (refine ao2 rfl rfl rfl Zj4 (hso _) ?_; rintro _ _ ⟨rfl, rfl⟩))
   exact ⟨.inr rfl, endV hl0 rfl rfl ⟨rfl, rfl⟩⟩
 rw [Bool.true_and]
 repeat' first
  | (with_reducible first | refine sA rfl ?_ | refine sI rfl rfl ?_ | refine sT rfl ?_)
  | (with_reducible refine Y9 ?_; first | refine Y5 ?_ | (refine ao1 rfl rfl fun K HK => ?_; simp only [go_sem, ↓reduceIte, Z1, Z4, Z2, Z5, Z6, Z7, Z8, Z9, Z0, Z3] <;> (refine HK _ _ ?_; clear HK K)) | (refine ao2 rfl rfl rfl Zj4 (hso _) ?_; rintro _ _ ⟨rfl, rfl⟩))
 refine Yp (fun m e h' => ∃ k : Nat, k ≤ list.length ∧ m = list.length - k ∧ list.all (memB only) = (list.drop k).all (memB only) ∧ h' = [] ∧ e 0 = .sl 1 (only.map strX) ∧ e 10 = .sl 1 (list.map strX) ∧ e 11 = .v (.int .i64 list.length) ∧ e 12 = .v (.int .i64 k)) list.length ⟨0, Nat.zero_le _, rfl, rfl, rfl, rfl, rfl, rfl, rfl⟩ ?_
 rintro m e h' ⟨k, hk, rfl, hh, rfl, e0, e10, e11, e12⟩
 by_cases hlt : k < list.length
 · have hx : list[k]? = some list[k] := Zo hlt
   have wk : IntKind.i64.wrap ((k : Int) + 1) = ((k + 1 : Nat) : Int) := IntWalk.i64_in _ (by omega)
   rw [Zn hlt, List.all_cons] at hh
   have hn := Zg0 G hG list[k] (hs _ (List.getElem_mem hlt))
   generalize list[k] = x at hx hn hh
   have hha := hasS_d G hG only x ho
   have em : memB only x = (Js x && (decide (only.length = 0) || hasS only x)) := rfl
   cases hnb : Js x <;> rw [hnb] at hn em
   · rw [em] at hh
     rw [hh]
     repeat' first
      | (with_reducible first | refine sA rfl ?_ | refine sI rfl rfl ?_ | refine sT rfl ?_ | refine sB rfl ?_)
      | (with_reducible refine Y9 ?_; first | refine Y5 ?_ | (refine ao1 rfl rfl fun K HK => ?_; (first | refine Y6 rfl ?_ | skip); simp only [go_sem, ↓reduceIte, Z1, Z4, Z2, Z5, Z6, Z7, Z8, Z9, e0, e10, e11, e12, Z3, U2, Zg, wk, Z0]; (first | refine Y8 (fun hq => ?_) (fun hq => ?_) | (refine ⟨by omega, by omega, ?_⟩; refine Ya (by assumption) ?_) | skip) <;> (refine HK _ _ ?_; clear HK K)) | refine ao0 rfl rfl ?_ | (refine ao2 rfl rfl rfl J7 (hn _) ?_; rintro _ _ ⟨rfl, rfl⟩))
      | (exfalso; omega)
     exact ⟨.inr rfl, endV hl0 rfl rfl ⟨rfl, rfl⟩⟩
   by_cases hz : only.length = 0
   · rw [em, decide_eq_true hz] at hh
     repeat' first
      | (with_reducible first | refine sA rfl ?_ | refine sI rfl rfl ?_ | refine sT rfl ?_ | refine sB rfl ?_)
      | (with_reducible refine Y9 ?_; first | refine Y5 ?_ | (refine ao1 rfl rfl fun K HK => ?_; (first | refine Y6 rfl ?_ | skip); simp only [go_sem, ↓reduceIte, Z1, Z4, Z2, Z5, Z6, Z7, Z8, Z9, e0, e10, e11, e12, Z3, U2, Zg, wk, Z0]; (first | refine Y8 (fun hq => ?_) (fun hq => ?_) | (refine ⟨by omega, by omega, ?_⟩; refine Ya (by assumption) ?_) | skip) <;> (refine HK _ _ ?_; clear HK K)) | refine ao0 rfl rfl ?_ | (refine ao2 rfl rfl rfl J7 (hn _) ?_; rintro _ _ ⟨rfl, rfl⟩))
      | (exfalso; omega)
     all_goals first | (exfalso; omega) | exact ⟨rfl, list.length - (k + 1), by omega, k + 1, hlt, rfl, hh, rfl, e0, e10, e11, rfl⟩
   · rw [em, decide_eq_false hz] at hh
     cases hhb : hasS only x <;> rw [hhb] at hha hh
     · rw [hh]
       repeat' first
        | (with_reducible first | refine sA rfl ?_ | refine sI rfl rfl ?_ | refine sT rfl ?_ | refine sB rfl ?_)
        | (with_reducible refine Y9 ?_; first | refine Y5 ?_ | (refine ao1 rfl rfl fun K HK => ?_; (first | refine Y6 rfl ?_ | skip); simp only [go_sem, ↓reduceIte, Z1, Z4, Z2, Z5, Z6, Z7, Z8, Z9, e0, e10, e11, e12, Z3, U2, Zg, wk, Z0]; (first | refine Y8 (fun hq => ?_) (fun hq => ?_) | (refine ⟨by omega, by omega, ?_⟩; refine Ya (by assumption) ?_) | skip) <;> (refine HK _ _ ?_; clear HK K)) | refine ao0 rfl rfl ?_ | (refine ao2 rfl rfl rfl J7 (hn _) ?_; rintro _ _ ⟨rfl, rfl⟩) | (refine ao2 rfl rfl rfl Zj3 (hha _) ?_; rintro _ _ ⟨rfl, rfl⟩))
        | (exfalso; omega)
       all_goals first | (exfalso; omega) | exact ⟨.inr rfl, endV hl0 rfl rfl ⟨rfl, rfl⟩⟩
     · skip
       repeat' first
        | (with_reducible first | refine sA rfl ?_ | refine sI rfl rfl ?_ | refine sT rfl ?_ | refine sB rfl ?_)
        | (with_reducible refine Y9 ?_; first | refine Y5 ?_ | (refine ao1 rfl rfl fun K HK => ?_; (first | refine Y6 rfl ?_ | skip); simp only [go_sem, ↓reduceIte, Z1, Z4, Z2, Z5, Z6, Z7, Z8, Z9, e0, e10, e11, e12, Z3, U2, Zg, wk, Z0]; (first | refine Y8 (fun hq => ?_) (fun hq => ?_) | (refine ⟨by omega, by omega, ?_⟩; refine Ya (by assumption) ?_) | skip) <;> (refine HK _ _ ?_; clear HK K)) | refine ao0 rfl rfl ?_ | (refine ao2 rfl rfl rfl J7 (hn _) ?_; rintro _ _ ⟨rfl, rfl⟩) | (refine ao2 rfl rfl rfl Zj3 (hha _) ?_; rintro _ _ ⟨rfl, rfl⟩))
        | (exfalso; omega)
       all_goals first | (exfalso; omega) | exact ⟨rfl, list.length - (k + 1), by omega, k + 1, hlt, rfl, hh, rfl, e0, e10, e11, rfl⟩
 · rw [Zq (by omega)] at hh
   rw [hh]
   repeat' first
    | (with_reducible first | refine sA rfl ?_ | refine sI rfl rfl ?_ | refine sT rfl ?_ | refine sB rfl ?_)
    | (with_reducible refine Y9 ?_; first | refine Y5 ?_ | (refine ao1 rfl rfl fun K HK => ?_; simp only [go_sem, ↓reduceIte, Z1, Z4, Z2, Z5, Z6, Z7, Z8, Z9, e0, e10, e11, e12]; (first | refine Y8 (fun hq => ?_) (fun hq => ?_) | (refine ⟨by omega, by omega, ?_⟩; intro row hrow; obtain ⟨x, hx, rfl⟩ := Ym hrow; clear hrow) | skip) <;> (refine HK _ _ ?_; clear HK K)))
    | (exfalso; omega)
   exact ⟨.inr rfl, endV hl0 rfl rfl ⟨rfl, rfl⟩⟩
theorem closed_d (rs : List Rl) (list : List ByteArray) (hr : rs.length ≤ 9223372036854775807) (hc : ∀ r ∈ rs, r.cond.length ≤ 9223372036854775807) (hl : list.length ≤ 9223372036854775807) (h : List Ob) : Does Zl G 138 h [.sl 2 (rs.map Zz6), .sl 1 (list.map strX)] (fun h' r => h' = h ∧ r = .v (.bool (Ye3 rs list))) := by
 refine Yh G hG (by simp only [lowL]; exact ⟨low_rules _ rs, Zc5 _ list, trivial⟩) (by rw [low]; trivial) ?_ h
 clear h
 unfold Ye3
 refine Y7 Tryz.func138 rfl (Zi rfl) hG fun hl0 _ => ?_
 simp only [Tryz.ntmps138]
 repeat' first
  | (with_reducible first | refine sA rfl ?_ | refine sT rfl ?_)
  | (with_reducible refine Y9 ?_; first | refine Y5 ?_ | (refine ao1 rfl rfl fun K HK => ?_; simp only [go_sem, ↓reduceIte, Z1, Z4, Z2, Z5, Z6, Z7, Z8, Z9, Z3] <;> (refine HK _ _ ?_; clear HK K)))
 refine Yp (fun m e h' => ∃ (k : Nat) (T : List Ob), k ≤ rs.length ∧ m = rs.length - k ∧ (rs.all fun r => !Jb r.cond list || hasS list r.concl) = ((rs.drop k).all fun r => !Jb r.cond list || hasS list r.concl) ∧ h' = tM T ∧ e 1 = .sl 1 (list.map strX) ∧ e 7 = .sl 2 (rs.map Zz6) ∧ e 8 = .v (.int .i64 rs.length) ∧ e 9 = .v (.int .i64 k)) rs.length ⟨0, [], Nat.zero_le _, rfl, rfl, rfl, rfl, rfl, rfl, rfl⟩ ?_
 rintro m e h' ⟨k, T, hk, rfl, hh, rfl, e1, e7, e8, e9⟩
 by_cases hlt : k < rs.length
 · have hx : rs[k]? = some rs[k] := Zo hlt
   have wk : IntKind.i64.wrap ((k : Int) + 1) = ((k + 1 : Nat) : Int) := IntWalk.i64_in _ (by omega)
   rw [Zn hlt, List.all_cons] at hh
   have hc := hc _ (List.getElem_mem hlt)
   generalize rs[k] = x at hx hh hc
   have hsu := subsetS_d G hG x.cond list hc hl
   have hha := hasS_d G hG list x.concl hl
   cases hb1 : Jb x.cond list <;> rw [hb1] at hsu hh
   · skip
     repeat' first
      | (with_reducible first | refine sA rfl ?_ | refine sI rfl rfl ?_ | refine sT rfl ?_ | refine sB rfl ?_)
      | (with_reducible refine Y9 ?_; first | refine Y5 ?_ | (refine ao1 rfl rfl fun K HK => ?_; (first | refine Y6 rfl ?_ | skip); simp only [go_sem, ↓reduceIte, Z1, Z4, Z2, Z5, Z6, Z7, Z8, Z9, e1, e7, e8, e9, Z3, Wt, Zg, wk, Yr, Ys, tM_l, Xo, Z0]; (first | refine Y8 (fun hq => ?_) (fun hq => ?_) | (refine ⟨by omega, by omega, ?_⟩; refine Ya (by assumption) ?_) | skip) <;> (refine HK _ _ ?_; clear HK K)) | refine ao0 rfl rfl ?_ | (refine ao2 rfl rfl rfl Zt2 (hsu _) ?_; rintro _ _ ⟨rfl, rfl⟩) | (refine ao1' rfl fun K HK => ?_; simp only [go_sem, ↓reduceIte, Z1, Z4, Z2, Z5, Z6, Z7, Z8, Z9, e1, e7, e8, e9, Z3, Wt, Zg, wk, Yr, Ys, tM_l, Xo, Z0]; refine HK _ _ ?_; clear HK K))
      | (exfalso; omega)
     exact ⟨rfl, rs.length - (k + 1), by omega, k + 1, _, hlt, rfl, hh, rfl, e1, e7, e8, rfl⟩
   · cases hb2 : hasS list x.concl <;> rw [hb2] at hha hh
     · rw [hh]
       repeat' first
        | (with_reducible first | refine sA rfl ?_ | refine sI rfl rfl ?_ | refine sT rfl ?_ | refine sB rfl ?_)
        | (with_reducible refine Y9 ?_; first | refine Y5 ?_ | (refine ao1 rfl rfl fun K HK => ?_; (first | refine Y6 rfl ?_ | skip); simp only [go_sem, ↓reduceIte, Z1, Z4, Z2, Z5, Z6, Z7, Z8, Z9, e1, e7, e8, e9, Z3, Wt, Zg, wk, Yr, Ys, tM_l, Xo, Z0]; (first | refine Y8 (fun hq => ?_) (fun hq => ?_) | (refine ⟨by omega, by omega, ?_⟩; refine Ya (by assumption) ?_) | skip) <;> (refine HK _ _ ?_; clear HK K)) | (refine ao2 rfl rfl rfl Zt2 (hsu _) ?_; rintro _ _ ⟨rfl, rfl⟩) | (refine ao2 rfl rfl rfl Zj3 (hha _) ?_; rintro _ _ ⟨rfl, rfl⟩) | (refine ao1' rfl fun K HK => ?_; simp only [go_sem, ↓reduceIte, Z1, Z4, Z2, Z5, Z6, Z7, Z8, Z9, e1, e7, e8, e9, Z3, Wt, Zg, wk, Yr, Ys, tM_l, Xo, Z0]; refine HK _ _ ?_; clear HK K))
        | (exfalso; omega)
       exact ⟨.inr rfl, endV hl0 rfl rfl ⟨rfl, rfl⟩⟩
     · skip
       repeat' first
        | (with_reducible first | refine sA rfl ?_ | refine sI rfl rfl ?_ | refine sT rfl ?_ | refine sB rfl ?_)
        | (with_reducible refine Y9 ?_; first | refine Y5 ?_ | (refine ao1 rfl rfl fun K HK => ?_; (first | refine Y6 rfl ?_ | skip); simp only [go_sem, ↓reduceIte, Z1, Z4, Z2, Z5, Z6, Z7, Z8, Z9, e1, e7, e8, e9, Z3, Wt, Zg, wk, Yr, Ys, tM_l, Xo, Z0]; (first | refine Y8 (fun hq => ?_) (fun hq => ?_) | (refine ⟨by omega, by omega, ?_⟩; refine Ya (by assumption) ?_) | skip) <;> (refine HK _ _ ?_; clear HK K)) | (refine ao2 rfl rfl rfl Zt2 (hsu _) ?_; rintro _ _ ⟨rfl, rfl⟩) | (refine ao2 rfl rfl rfl Zj3 (hha _) ?_; rintro _ _ ⟨rfl, rfl⟩) | (refine ao1' rfl fun K HK => ?_; simp only [go_sem, ↓reduceIte, Z1, Z4, Z2, Z5, Z6, Z7, Z8, Z9, e1, e7, e8, e9, Z3, Wt, Zg, wk, Yr, Ys, tM_l, Xo, Z0]; refine HK _ _ ?_; clear HK K))
        | (exfalso; omega)
       exact ⟨rfl, rs.length - (k + 1), by omega, k + 1, _, hlt, rfl, hh, rfl, e1, e7, e8, rfl⟩
 · rw [Zq (by omega)] at hh
   rw [hh]
   repeat' first
    | (with_reducible first | refine sA rfl ?_ | refine sI rfl rfl ?_ | refine sT rfl ?_ | refine sB rfl ?_)
    | (with_reducible refine Y9 ?_; first | refine Y5 ?_ | (refine ao1 rfl rfl fun K HK => ?_; simp only [go_sem, ↓reduceIte, Z1, Z4, Z2, Z5, Z6, Z7, Z8, Z9, e1, e7, e8, e9]; (first | refine Y8 (fun hq => ?_) (fun hq => ?_) | (refine ⟨by omega, by omega, ?_⟩; intro row hrow; obtain ⟨x, hx, rfl⟩ := Ym hrow; clear hrow) | skip) <;> (refine HK _ _ ?_; clear HK K)))
    | (exfalso; omega)
   exact ⟨.inr rfl, endV hl0 rfl rfl ⟨rfl, rfl⟩⟩
theorem J8 (c : List Tk) (hc : c.length ≤ 9223372036854775807) (h : List Ob) : Does Zl G 154 h [.sl 2 (c.map tkX)] (fun h' r => h' = h ∧ r = .v (.bool (Zc8 c))) := by
 refine Yh G hG (by simp only [lowL]; exact ⟨Zb0 _ c, trivial⟩) (by rw [low]; trivial) ?_ h
 clear h
 unfold Zc8
 refine Y7 Tryz.func154 rfl (Zi rfl) hG fun hl0 _ => ?_
 simp only [Tryz.ntmps154]
 repeat' first
  | (with_reducible first | refine sA rfl ?_ | refine sT rfl ?_)
  | (with_reducible refine Y9 ?_; first | refine Y5 ?_ | (refine ao1 rfl rfl fun K HK => ?_; simp only [go_sem, ↓reduceIte, Z1, Z4, Z2, Z5, Z6, Z7, Z8, Z9, Z3] <;> (refine HK _ _ ?_; clear HK K)))
 refine Yp (fun m e h' => ∃ (k : Nat) (p : Int) (T : List Ob), k ≤ c.length ∧ m = c.length - k ∧ Un (-1) c = Un p (c.drop k) ∧ h' = tM T ∧ e 3 = .v (.int .i64 p) ∧ e 6 = .sl 2 (c.map tkX) ∧ e 7 = .v (.int .i64 c.length) ∧ e 8 = .v (.int .i64 k)) c.length ⟨0, -1, [], Nat.zero_le _, rfl, rfl, rfl, rfl, rfl, rfl, rfl⟩ ?_
 rintro m e h' ⟨k, p, T, hk, rfl, hh, rfl, e3, e6, e7, e8⟩
 by_cases hlt : k < c.length
 · have hx : c[k]? = some c[k] := Zo hlt
   have wk : IntKind.i64.wrap ((k : Int) + 1) = ((k + 1 : Nat) : Int) := IntWalk.i64_in _ (by omega)
   rw [clock_go (Zn hlt)] at hh
   generalize c[k] = x at hx hh
   repeat' first
    | (with_reducible first | refine sA rfl ?_ | refine sI rfl rfl ?_ | refine sT rfl ?_ | refine sB rfl ?_)
    | (with_reducible refine Y9 ?_; first | refine Y5 ?_ | (refine ao1 rfl rfl fun K HK => ?_; (first | refine Y6 rfl ?_ | skip); simp only [go_sem, ↓reduceIte, Z1, Z4, Z2, Z5, Z6, Z7, Z8, Z9, e3, e6, e7, e8, Z3, X0, Zg, wk, Yr, Ys, tM_l, Xo, Z0]; (first | refine Y8 (fun hq => ?_) (fun hq => ?_) | (refine ⟨by omega, by omega, ?_⟩; refine Ya (by assumption) ?_) | skip) <;> (refine HK _ _ ?_; clear HK K)) | refine ao0 rfl rfl ?_ | (refine ao1' rfl fun K HK => ?_; simp only [go_sem, ↓reduceIte, Z1, Z4, Z2, Z5, Z6, Z7, Z8, Z9, e3, e6, e7, e8, Z3, X0, Zg, wk, Yr, Ys, tM_l, Xo, Z0]; refine HK _ _ ?_; clear HK K))
    | (exfalso; omega)
   all_goals first
   | (exfalso; omega)
   | exact ⟨rfl, c.length - (k + 1), by omega, k + 1, x.process, _, hlt, rfl, by rw [hh, tickB, decide_eq_true (by omega)]; rfl, rfl, rfl, e6, e7, rfl⟩
   | exact ⟨.inr rfl, endD (r := .v (.bool false)) hl0 rfl (by simp) (by simp) rfl (by rw [low]; trivial) ⟨rfl, by rw [hh, tickB, decide_eq_false (by omega)]; rfl⟩⟩
 · rw [Zq (by omega)] at hh
   rw [hh]
   repeat' first
    | (with_reducible first | refine sA rfl ?_ | refine sI rfl rfl ?_ | refine sT rfl ?_ | refine sB rfl ?_)
    | (with_reducible refine Y9 ?_; first | refine Y5 ?_ | (refine ao1 rfl rfl fun K HK => ?_; simp only [go_sem, ↓reduceIte, Z1, Z4, Z2, Z5, Z6, Z7, Z8, Z9, e3, e6, e7, e8]; (first | refine Y8 (fun hq => ?_) (fun hq => ?_) | (refine ⟨by omega, by omega, ?_⟩; intro row hrow; obtain ⟨x, hx, rfl⟩ := Ym hrow; clear hrow) | skip) <;> (refine HK _ _ ?_; clear HK K)))
    | (exfalso; omega)
   exact ⟨.inr rfl, endV hl0 rfl rfl ⟨rfl, rfl⟩⟩
theorem minusCh_d (m n : Int) (h : List Ob) : Does Zl G 188 h [.v (.int .i64 m), .v (.int .i64 n)] (fun h' r => h' = h ∧ r = .v (.int .i64 (Yn2 m n))) := by
 unfold Yn2
 refine Y7 Tryz.func188 rfl (Zi rfl) hG fun hl0 _ => ?_
 simp only [Tryz.ntmps188]
 repeat' first
  | (with_reducible first | refine sA rfl ?_ | refine sI rfl rfl ?_ | refine sT rfl ?_)
  | (with_reducible refine Y9 ?_; first | refine Y5 ?_ | (refine ao1 rfl rfl fun K HK => ?_; simp only [go_sem, ↓reduceIte, Z1, Z4, Z2, Z5, Z6, Z7, Z8, Z9]; (first | refine Y8 (fun hq => ?_) (fun hq => ?_) | skip) <;> (refine HK _ _ ?_; clear HK K)))
 all_goals exact ⟨.inr rfl, endV hl0 rfl rfl ⟨rfl, by first | rw [if_pos (by omega)] | rw [if_neg (by omega)]⟩⟩
end
section
attribute [local irreducible] on aOp
attribute [local go_sem] decide_true decide_false Bool.not_true Bool.not_false
attribute [local simp] byD_len
theorem Zr7 (A : List Tk) : D.sl 2 (List.drop (Int.toNat 1) (List.take (Int.toNat ((A.map tkX).length : Int)) (A.map tkX))) = .sl 2 ((A.drop 1).map tkX) := by rw [Zg, List.take_length, List.map_drop]; rfl
theorem Zv5 (A : List Tk) : D.sl 2 (List.drop (Int.toNat 1) (List.take (Int.toNat (A.length : Int)) (A.map tkX))) = .sl 2 ((A.drop 1).map tkX) := by
 rw [show A.length = (A.map tkX).length by simp]; exact Zr7 A
theorem head_of {A : List Tk} (h : A.length ≠ 0) : ∃ x, A[0]? = some x ∧ A = x :: A.drop 1 := by
 cases A with
 | nil => exact absurd rfl h
 | cons x t => exact ⟨x, rfl, rfl⟩
variable (G : Nat → D) (hG : ∀ g, low 0 (G g))
include hG
theorem walk0 (f : FuncId) (ch : Int → Int → Int) (he : entB Zl f = true) (hf : ∀ (m n : Int) (h : List Ob), Does Zl G f h [.v (.int .i64 m), .v (.int .i64 n)] (fun h' r => h' = h ∧ r = .v (.int .i64 (ch m n))))
 (a b : List Tk) (va : Zc8 a = true) (vb : Zc8 b = true) : Does Zl G 187 [] [.sl 2 (a.map tkX), .sl 2 (b.map tkX), .fn f []] (fun h' r => h' = [.buf 165 2 ((W0 ch a b).map tkX)] ∧ r = .buf 0 (W0 ch a b).length) := by
 have la := Yi9 va
 have lb := Yi9 vb
 have ha := J8 G hG a (by omega)
 have hb := J8 G hG b (by omega)
 rw [va] at ha
 rw [vb] at hb
 refine Does.only0 hG (Zb0 _ _) (K := fun h' r => ∃ i, h'[i]? = some (.buf 165 2 ((W0 ch a b).map tkX)) ∧ r = .buf i (W0 ch a b).length) ?_ (fun _ _ h => h)
 refine does_keep Tryz.func187 rfl (Zi rfl) ?_
 simp only [Tryz.ntmps187]
 repeat' first
  | (with_reducible first | refine sA rfl ?_ | refine sI rfl rfl ?_ | refine sT rfl ?_)
  | (with_reducible refine Y9 ?_; first | refine Y5 ?_ | (refine ao1 rfl rfl fun K HK => ?_; (first | refine Y6 rfl ?_ | skip); simp only [go_sem, ↓reduceIte, Z1, Z4, Z2, Z5, Z6, Z7, Z8, Z9, Z0] <;> (refine HK _ _ ?_; clear HK K)) | (refine ao2 rfl rfl rfl Jl (ha _) ?_; rintro _ _ ⟨rfl, rfl⟩) | (refine ao2 rfl rfl rfl Jl (hb _) ?_; rintro _ _ ⟨rfl, rfl⟩))
 refine aw_niltmp 165 2 7 rfl ?_
 refine Yp (fun m e h' => ∃ (A B acc : List Tk) (T : List Ob), m = A.length + B.length ∧ W0 ch a b = acc ++ W0 ch A B ∧ acc.length + A.length + B.length ≤ 128 ∧ h' = bM (.buf 165 2 (acc.map tkX)) T ∧ e 0 = .sl 2 (A.map tkX) ∧ e 1 = .sl 2 (B.map tkX) ∧ e 2 = .fn f [] ∧ e 7 = .buf 0 acc.length) (a.length + b.length) ⟨a, b, [], [], rfl, rfl, by simp; omega, rfl, rfl, rfl, rfl, rfl⟩ ?_
 rintro m e h' ⟨A, B, acc, T, rfl, ho, hl, rfl, e0, e1, e2, e7⟩
 have hAl : (A.map tkX).length = A.length := Z3 _
 have hBl : (B.map tkX).length = B.length := Z3 _
 by_cases hA : A.length = 0
 · obtain rfl : A = [] := Zk hA
   by_cases hB : B.length = 0
   · obtain rfl : B = [] := Zk hB
     rw [walk_nn, List.append_nil] at ho
     rw [ho]
     repeat' first
      | (with_reducible first | refine sA rfl ?_ | refine sI rfl rfl ?_ | refine sT rfl ?_ | refine sB rfl ?_)
      | (with_reducible refine W2 ?_; first | refine Yf mixd (by kernel_rfl) ?_)
      | (with_reducible refine Y9 ?_; first | refine Y5 ?_ | (refine ao1 rfl rfl fun K HK => ?_; (first | refine Y6 rfl ?_ | skip); simp only [go_sem, ↓reduceIte, Z1, Z4, Z2, Z5, Z6, Z7, Z8, Z9, e0, e1, e2, e7, Zf, Zj, Z0]; (first | refine Y8 (fun hq => ?_) (fun hq => ?_) | skip) <;> (refine HK _ _ ?_; clear HK K)) | refine ao0 rfl rfl ?_)
      | (with_reducible refine Vn ?_; first | (refine aq1 rfl rfl fun K HK => ?_; (first | refine Y6 rfl ?_ | skip); simp only [go_sem, ↓reduceIte, Z1, Z4, Z2, Z5, Z6, Z7, Z8, Z9, e0, e1, e2, e7, Zf, Zj, Z0]; (first | refine Y8 (fun hq => ?_) (fun hq => ?_) | skip) <;> (refine HK _ _ rfl ?_; clear HK K)) | refine aq0 rfl rfl ?_ | refine Yv ?_)
      | (exfalso; omega)
     exact ⟨.inr rfl, _, rfl, 0, bM_0, rfl⟩
   · obtain ⟨y, hy, hyc⟩ := head_of hB
     have ho2 : W0 ch a b = acc ++ Uq y.process (ch 0 y.n) (W0 ch [] (B.drop 1)) := by rw [ho, show W0 ch [] B = _ by conv => lhs; rw [hyc, walk_nc]]
     generalize hkk : ch 0 y.n = kk at ho2
     by_cases hk : 0 < kk
     · rw [Uq, if_pos hk] at ho2
       repeat' first
        | (with_reducible first | refine sA rfl ?_ | refine sI rfl rfl ?_ | refine sT rfl ?_ | refine sB rfl ?_)
        | (with_reducible refine W2 ?_; first | refine Yf mixd (by kernel_rfl) ?_)
        | (with_reducible refine Y9 ?_; first | (refine ao2 rfl rfl rfl he (hf _ _ _) ?_; rintro _ _ ⟨rfl, rfl⟩) | (refine Wx rfl rfl rfl rfl bM_0 (by simp) (by simp only [go_sem]; rfl) bM_l (by simp) (by simp [Xd, D.one, Value.oneCell']) (by simp; omega) ?_) | refine Y5 ?_ | (refine ao1 rfl rfl fun K HK => ?_; (first | refine Y6 rfl ?_ | skip); simp only [go_sem, ↓reduceIte, Z1, Z4, Z2, Z5, Z6, Z7, Z8, Z9, e0, e1, e2, e7, Zf, Zj, hkk, Z3, X0, Zd, bM_0, Uc, W6, W7, bM_l, Ub, Za, Zb, Zc, Z0]; (first | refine Y8 (fun hq => ?_) (fun hq => ?_) | (refine W5 (by simp only [go_sem]) rfl rfl (by first | omega | simp) (by first | omega | simp) (by simp only [go_sem]; omega) ?_) | (refine ⟨by omega, ?_⟩; refine Ya (by assumption) ?_) | skip) <;> (refine HK _ _ ?_; clear HK K)) | refine ao0 rfl rfl ?_)
        | (with_reducible refine Vn ?_; first | (refine aq1 rfl rfl fun K HK => ?_; (first | refine Y6 rfl ?_ | skip); simp only [go_sem, ↓reduceIte, Z1, Z4, Z2, Z5, Z6, Z7, Z8, Z9, e0, e1, e2, e7, Zf, Zj, hkk, Z3, X0, Zd, bM_0, Uc, W6, W7, bM_l, Ub, Za, Zb, Zc, Z0]; (first | refine Y8 (fun hq => ?_) (fun hq => ?_) | (refine W5 (by simp only [go_sem]) rfl rfl (by first | omega | simp) (by first | omega | simp) (by simp only [go_sem]; omega) ?_) | (refine ⟨by omega, ?_⟩; refine Ya (by assumption) ?_) | skip) <;> (refine HK _ _ rfl ?_; clear HK K)) | refine aq0 rfl rfl ?_ | refine Yv ?_)
        | (exfalso; omega)
       all_goals try (exfalso; omega)
       exact ⟨rfl, (B.drop 1).length, by simp only [Ze]; omega, [], (B.drop 1), acc ++ [⟨y.process, kk⟩], _, by simp, by rw [ho2, Za]; rfl, by simp only [Ze, Zh, Zm, Zf]; omega, by rw [Zp]; rfl, e0, by first | exact Zr7 B | exact Zv5 B, e2, by rw [Zh]; rfl⟩
     · rw [Uq, if_neg hk] at ho2
       repeat' first
        | (with_reducible first | refine sA rfl ?_ | refine sI rfl rfl ?_ | refine sT rfl ?_ | refine sB rfl ?_)
        | (with_reducible refine W2 ?_; first | refine Yf mixd (by kernel_rfl) ?_)
        | (with_reducible refine Y9 ?_; first | (refine ao2 rfl rfl rfl he (hf _ _ _) ?_; rintro _ _ ⟨rfl, rfl⟩) | refine Y5 ?_ | (refine ao1 rfl rfl fun K HK => ?_; (first | refine Y6 rfl ?_ | skip); simp only [go_sem, ↓reduceIte, Z1, Z4, Z2, Z5, Z6, Z7, Z8, Z9, e0, e1, e2, e7, Zf, Zj, hkk, Z3, X0, Zd, bM_0, Uc, W6, W7, bM_l, Ub, Za, Zb, Zc, Z0]; (first | refine Y8 (fun hq => ?_) (fun hq => ?_) | (refine W5 (by simp only [go_sem]) rfl rfl (by first | omega | simp) (by first | omega | simp) (by simp only [go_sem]; omega) ?_) | (refine ⟨by omega, ?_⟩; refine Ya (by assumption) ?_) | skip) <;> (refine HK _ _ ?_; clear HK K)) | refine ao0 rfl rfl ?_ | refine Wx rfl rfl rfl rfl (by (simp only [go_sem, ↓reduceIte, Z1, Z4, Z2, Z5, Z6, Z7, Z8, Z9, e0, e1, e2, e7, Zf, Zj, hkk, Z3, X0, Zd, bM_0, Uc, W6, W7, bM_l, Ub, Za, Zb, Zc, Z0]; rfl)) (by simp) (by simp only [go_sem]; rfl) (by (simp only [go_sem, ↓reduceIte, Z1, Z4, Z2, Z5, Z6, Z7, Z8, Z9, e0, e1, e2, e7, Zf, Zj, hkk, Z3, X0, Zd, bM_0, Uc, W6, W7, bM_l, Ub, Za, Zb, Zc, Z0]; rfl)) (by simp) (by (simp [Xd, D.one, Value.oneCell']; done)) (by omega) ?_)
        | (with_reducible refine Vn ?_; first | (refine aq1 rfl rfl fun K HK => ?_; (first | refine Y6 rfl ?_ | skip); simp only [go_sem, ↓reduceIte, Z1, Z4, Z2, Z5, Z6, Z7, Z8, Z9, e0, e1, e2, e7, Zf, Zj, hkk, Z3, X0, Zd, bM_0, Uc, W6, W7, bM_l, Ub, Za, Zb, Zc, Z0]; (first | refine Y8 (fun hq => ?_) (fun hq => ?_) | (refine W5 (by simp only [go_sem]) rfl rfl (by first | omega | simp) (by first | omega | simp) (by simp only [go_sem]; omega) ?_) | (refine ⟨by omega, ?_⟩; refine Ya (by assumption) ?_) | skip) <;> (refine HK _ _ rfl ?_; clear HK K)) | refine aq0 rfl rfl ?_ | refine Yv ?_)
        | (exfalso; omega)
       all_goals try (exfalso; omega)
       exact ⟨rfl, (B.drop 1).length, by simp only [Ze]; omega, [], (B.drop 1), acc, _, by simp, ho2, by simp only [Ze]; omega, rfl, e0, by first | exact Zr7 B | exact Zv5 B, e2, e7⟩
 · obtain ⟨x, hx, hxc⟩ := head_of hA
   by_cases hB : B.length = 0
   · obtain rfl : B = [] := Zk hB
     have ho2 : W0 ch a b = acc ++ Uq x.process (ch x.n 0) (W0 ch (A.drop 1) []) := by rw [ho, show W0 ch A [] = _ by conv => lhs; rw [hxc, walk_cn]]
     generalize hkk : ch x.n 0 = kk at ho2
     by_cases hk : 0 < kk
     · rw [Uq, if_pos hk] at ho2
       repeat' first
        | (with_reducible first | refine sA rfl ?_ | refine sI rfl rfl ?_ | refine sT rfl ?_ | refine sB rfl ?_)
        | (with_reducible refine W2 ?_; first | refine Yf mixd (by kernel_rfl) ?_)
        | (with_reducible refine Y9 ?_; first | (refine ao2 rfl rfl rfl he (hf _ _ _) ?_; rintro _ _ ⟨rfl, rfl⟩) | (refine Wx rfl rfl rfl rfl bM_0 (by simp) (by simp only [go_sem]; rfl) bM_l (by simp) (by simp [Xd, D.one, Value.oneCell']) (by simp; omega) ?_) | refine Y5 ?_ | (refine ao1 rfl rfl fun K HK => ?_; (first | refine Y6 rfl ?_ | skip); simp only [go_sem, ↓reduceIte, Z1, Z4, Z2, Z5, Z6, Z7, Z8, Z9, e0, e1, e2, e7, Zf, Zj, hkk, Z3, X0, Zd, bM_0, Uc, W6, W7, bM_l, Ub, Za, Zb, Zc, Z0]; (first | refine Y8 (fun hq => ?_) (fun hq => ?_) | (refine W5 (by simp only [go_sem]) rfl rfl (by first | omega | simp) (by first | omega | simp) (by simp only [go_sem]; omega) ?_) | (refine ⟨by omega, ?_⟩; refine Ya (by assumption) ?_) | skip) <;> (refine HK _ _ ?_; clear HK K)) | refine ao0 rfl rfl ?_)
        | (with_reducible refine Vn ?_; first | (refine aq1 rfl rfl fun K HK => ?_; (first | refine Y6 rfl ?_ | skip); simp only [go_sem, ↓reduceIte, Z1, Z4, Z2, Z5, Z6, Z7, Z8, Z9, e0, e1, e2, e7, Zf, Zj, hkk, Z3, X0, Zd, bM_0, Uc, W6, W7, bM_l, Ub, Za, Zb, Zc, Z0]; (first | refine Y8 (fun hq => ?_) (fun hq => ?_) | (refine W5 (by simp only [go_sem]) rfl rfl (by first | omega | simp) (by first | omega | simp) (by simp only [go_sem]; omega) ?_) | (refine ⟨by omega, ?_⟩; refine Ya (by assumption) ?_) | skip) <;> (refine HK _ _ rfl ?_; clear HK K)) | refine aq0 rfl rfl ?_ | refine Yv ?_)
        | (exfalso; omega)
       all_goals try (exfalso; omega)
       exact ⟨rfl, (A.drop 1).length, by simp only [Ze]; omega, (A.drop 1), [], acc ++ [⟨x.process, kk⟩], _, by simp, by rw [ho2, Za]; rfl, by simp only [Ze, Zh, Zm, Zf]; omega, by rw [Zp]; rfl, by first | exact Zr7 A | exact Zv5 A, e1, e2, by rw [Zh]; rfl⟩
     · rw [Uq, if_neg hk] at ho2
       repeat' first
        | (with_reducible first | refine sA rfl ?_ | refine sI rfl rfl ?_ | refine sT rfl ?_ | refine sB rfl ?_)
        | (with_reducible refine W2 ?_; first | refine Yf mixd (by kernel_rfl) ?_)
        | (with_reducible refine Y9 ?_; first | (refine ao2 rfl rfl rfl he (hf _ _ _) ?_; rintro _ _ ⟨rfl, rfl⟩) | refine Y5 ?_ | (refine ao1 rfl rfl fun K HK => ?_; (first | refine Y6 rfl ?_ | skip); simp only [go_sem, ↓reduceIte, Z1, Z4, Z2, Z5, Z6, Z7, Z8, Z9, e0, e1, e2, e7, Zf, Zj, hkk, Z3, X0, Zd, bM_0, Uc, W6, W7, bM_l, Ub, Za, Zb, Zc, Z0]; (first | refine Y8 (fun hq => ?_) (fun hq => ?_) | (refine W5 (by simp only [go_sem]) rfl rfl (by first | omega | simp) (by first | omega | simp) (by simp only [go_sem]; omega) ?_) | (refine ⟨by omega, ?_⟩; refine Ya (by assumption) ?_) | skip) <;> (refine HK _ _ ?_; clear HK K)) | refine ao0 rfl rfl ?_ | refine Wx rfl rfl rfl rfl (by (simp only [go_sem, ↓reduceIte, Z1, Z4, Z2, Z5, Z6, Z7, Z8, Z9, e0, e1, e2, e7, Zf, Zj, hkk, Z3, X0, Zd, bM_0, Uc, W6, W7, bM_l, Ub, Za, Zb, Zc, Z0]; rfl)) (by simp) (by simp only [go_sem]; rfl) (by (simp only [go_sem, ↓reduceIte, Z1, Z4, Z2, Z5, Z6, Z7, Z8, Z9, e0, e1, e2, e7, Zf, Zj, hkk, Z3, X0, Zd, bM_0, Uc, W6, W7, bM_l, Ub, Za, Zb, Zc, Z0]; rfl)) (by simp) (by (simp [Xd, D.one, Value.oneCell']; done)) (by omega) ?_)
        | (with_reducible refine Vn ?_; first | (refine aq1 rfl rfl fun K HK => ?_; (first | refine Y6 rfl ?_ | skip); simp only [go_sem, ↓reduceIte, Z1, Z4, Z2, Z5, Z6, Z7, Z8, Z9, e0, e1, e2, e7, Zf, Zj, hkk, Z3, X0, Zd, bM_0, Uc, W6, W7, bM_l, Ub, Za, Zb, Zc, Z0]; (first | refine Y8 (fun hq => ?_) (fun hq => ?_) | (refine W5 (by simp only [go_sem]) rfl rfl (by first | omega | simp) (by first | omega | simp) (by simp only [go_sem]; omega) ?_) | (refine ⟨by omega, ?_⟩; refine Ya (by assumption) ?_) | skip) <;> (refine HK _ _ rfl ?_; clear HK K)) | refine aq0 rfl rfl ?_ | refine Yv ?_)
        | (exfalso; omega)
       all_goals try (exfalso; omega)
       exact ⟨rfl, (A.drop 1).length, by simp only [Ze]; omega, (A.drop 1), [], acc, _, by simp, ho2, by simp only [Ze]; omega, rfl, by first | exact Zr7 A | exact Zv5 A, e1, e2, e7⟩
   · obtain ⟨y, hy, hyc⟩ := head_of hB
     by_cases hlt : x.process < y.process
     · have eq1 : W0 ch A B = Uq x.process (ch x.n 0) (W0 ch (A.drop 1) B) := by rw [hxc, hyc, walk_lt _ _ _ _ _ hlt]; rfl
       have ho2 : W0 ch a b = acc ++ Uq x.process (ch x.n 0) (W0 ch (A.drop 1) B) := by rw [ho, eq1]
       generalize hkk : ch x.n 0 = kk at ho2
       by_cases hk : 0 < kk
       · rw [Uq, if_pos hk] at ho2
         repeat' first
          | (with_reducible first | refine sA rfl ?_ | refine sI rfl rfl ?_ | refine sT rfl ?_ | refine sB rfl ?_)
          | (with_reducible refine W2 ?_; first | refine Yf mixd (by kernel_rfl) ?_)
          | (with_reducible refine Y9 ?_; first | (refine ao2 rfl rfl rfl he (hf _ _ _) ?_; rintro _ _ ⟨rfl, rfl⟩) | (refine Wx rfl rfl rfl rfl bM_0 (by simp) (by simp only [go_sem]; rfl) bM_l (by simp) (by simp [Xd, D.one, Value.oneCell']) (by simp; omega) ?_) | refine Y5 ?_ | (refine ao1 rfl rfl fun K HK => ?_; (first | refine Y6 rfl ?_ | skip); simp only [go_sem, ↓reduceIte, Z1, Z4, Z2, Z5, Z6, Z7, Z8, Z9, e0, e1, e2, e7, hlt, hkk, Z3, X0, Zd, bM_0, Uc, W6, W7, bM_l, Ub, Za, Zb, Zc, Z0]; (first | refine Y8 (fun hq => ?_) (fun hq => ?_) | (refine W5 (by simp only [go_sem]) rfl rfl (by first | omega | simp) (by first | omega | simp) (by simp only [go_sem]; omega) ?_) | (refine ⟨by omega, ?_⟩; refine Ya (by assumption) ?_) | skip) <;> (refine HK _ _ ?_; clear HK K)) | refine ao0 rfl rfl ?_)
          | (with_reducible refine Vn ?_; first | (refine aq1 rfl rfl fun K HK => ?_; (first | refine Y6 rfl ?_ | skip); simp only [go_sem, ↓reduceIte, Z1, Z4, Z2, Z5, Z6, Z7, Z8, Z9, e0, e1, e2, e7, hlt, hkk, Z3, X0, Zd, bM_0, Uc, W6, W7, bM_l, Ub, Za, Zb, Zc, Z0]; (first | refine Y8 (fun hq => ?_) (fun hq => ?_) | (refine W5 (by simp only [go_sem]) rfl rfl (by first | omega | simp) (by first | omega | simp) (by simp only [go_sem]; omega) ?_) | (refine ⟨by omega, ?_⟩; refine Ya (by assumption) ?_) | skip) <;> (refine HK _ _ rfl ?_; clear HK K)) | refine aq0 rfl rfl ?_ | refine Yv ?_)
          | (exfalso; omega)
         all_goals try (exfalso; omega)
         exact ⟨rfl, (A.drop 1).length + B.length, by simp only [Ze]; omega, (A.drop 1), B, acc ++ [⟨x.process, kk⟩], _, by simp, by rw [ho2, Za]; rfl, by simp only [Ze, Zh, Zm, Zf]; omega, by rw [Zp]; rfl, by first | exact Zr7 A | exact Zv5 A, e1, e2, by rw [Zh]; rfl⟩
       · rw [Uq, if_neg hk] at ho2
         repeat' first
          | (with_reducible first | refine sA rfl ?_ | refine sI rfl rfl ?_ | refine sT rfl ?_ | refine sB rfl ?_)
          | (with_reducible refine W2 ?_; first | refine Yf mixd (by kernel_rfl) ?_)
          | (with_reducible refine Y9 ?_; first | (refine ao2 rfl rfl rfl he (hf _ _ _) ?_; rintro _ _ ⟨rfl, rfl⟩) | refine Y5 ?_ | (refine ao1 rfl rfl fun K HK => ?_; (first | refine Y6 rfl ?_ | skip); simp only [go_sem, ↓reduceIte, Z1, Z4, Z2, Z5, Z6, Z7, Z8, Z9, e0, e1, e2, e7, hlt, hkk, Z3, X0, Zd, bM_0, Uc, W6, W7, bM_l, Ub, Za, Zb, Zc, Z0]; (first | refine Y8 (fun hq => ?_) (fun hq => ?_) | (refine W5 (by simp only [go_sem]) rfl rfl (by first | omega | simp) (by first | omega | simp) (by simp only [go_sem]; omega) ?_) | (refine ⟨by omega, ?_⟩; refine Ya (by assumption) ?_) | skip) <;> (refine HK _ _ ?_; clear HK K)) | refine ao0 rfl rfl ?_ | refine Wx rfl rfl rfl rfl (by (simp only [go_sem, ↓reduceIte, Z1, Z4, Z2, Z5, Z6, Z7, Z8, Z9, e0, e1, e2, e7, hlt, hkk, Z3, X0, Zd, bM_0, Uc, W6, W7, bM_l, Ub, Za, Zb, Zc, Z0]; rfl)) (by simp) (by simp only [go_sem]; rfl) (by (simp only [go_sem, ↓reduceIte, Z1, Z4, Z2, Z5, Z6, Z7, Z8, Z9, e0, e1, e2, e7, hlt, hkk, Z3, X0, Zd, bM_0, Uc, W6, W7, bM_l, Ub, Za, Zb, Zc, Z0]; rfl)) (by simp) (by (simp [Xd, D.one, Value.oneCell']; done)) (by omega) ?_)
          | (with_reducible refine Vn ?_; first | (refine aq1 rfl rfl fun K HK => ?_; (first | refine Y6 rfl ?_ | skip); simp only [go_sem, ↓reduceIte, Z1, Z4, Z2, Z5, Z6, Z7, Z8, Z9, e0, e1, e2, e7, hlt, hkk, Z3, X0, Zd, bM_0, Uc, W6, W7, bM_l, Ub, Za, Zb, Zc, Z0]; (first | refine Y8 (fun hq => ?_) (fun hq => ?_) | (refine W5 (by simp only [go_sem]) rfl rfl (by first | omega | simp) (by first | omega | simp) (by simp only [go_sem]; omega) ?_) | (refine ⟨by omega, ?_⟩; refine Ya (by assumption) ?_) | skip) <;> (refine HK _ _ rfl ?_; clear HK K)) | refine aq0 rfl rfl ?_ | refine Yv ?_)
          | (exfalso; omega)
         all_goals try (exfalso; omega)
         exact ⟨rfl, (A.drop 1).length + B.length, by simp only [Ze]; omega, (A.drop 1), B, acc, _, by simp, ho2, by simp only [Ze]; omega, rfl, by first | exact Zr7 A | exact Zv5 A, e1, e2, e7⟩
     by_cases hgt : y.process < x.process
     · have eq1 : W0 ch A B = Uq y.process (ch 0 y.n) (W0 ch A (B.drop 1)) := by rw [hxc, hyc, walk_gt _ _ _ _ _ hgt]; rfl
       have ho2 : W0 ch a b = acc ++ Uq y.process (ch 0 y.n) (W0 ch A (B.drop 1)) := by rw [ho, eq1]
       generalize hkk : ch 0 y.n = kk at ho2
       by_cases hk : 0 < kk
       · rw [Uq, if_pos hk] at ho2
         repeat' first
          | (with_reducible first | refine sA rfl ?_ | refine sI rfl rfl ?_ | refine sT rfl ?_ | refine sB rfl ?_)
          | (with_reducible refine W2 ?_; first | refine Yf mixd (by kernel_rfl) ?_)
          | (with_reducible refine Y9 ?_; first | (refine ao2 rfl rfl rfl he (hf _ _ _) ?_; rintro _ _ ⟨rfl, rfl⟩) | (refine Wx rfl rfl rfl rfl bM_0 (by simp) (by simp only [go_sem]; rfl) bM_l (by simp) (by simp [Xd, D.one, Value.oneCell']) (by simp; omega) ?_) | refine Y5 ?_ | (refine ao1 rfl rfl fun K HK => ?_; (first | refine Y6 rfl ?_ | skip); simp only [go_sem, ↓reduceIte, Z1, Z4, Z2, Z5, Z6, Z7, Z8, Z9, e0, e1, e2, e7, hlt, hgt, hkk, Z3, X0, Zd, bM_0, Uc, W6, W7, bM_l, Ub, Za, Zb, Zc, Z0]; (first | refine Y8 (fun hq => ?_) (fun hq => ?_) | (refine W5 (by simp only [go_sem]) rfl rfl (by first | omega | simp) (by first | omega | simp) (by simp only [go_sem]; omega) ?_) | (refine ⟨by omega, ?_⟩; refine Ya (by assumption) ?_) | skip) <;> (refine HK _ _ ?_; clear HK K)) | refine ao0 rfl rfl ?_)
          | (with_reducible refine Vn ?_; first | (refine aq1 rfl rfl fun K HK => ?_; (first | refine Y6 rfl ?_ | skip); simp only [go_sem, ↓reduceIte, Z1, Z4, Z2, Z5, Z6, Z7, Z8, Z9, e0, e1, e2, e7, hlt, hgt, hkk, Z3, X0, Zd, bM_0, Uc, W6, W7, bM_l, Ub, Za, Zb, Zc, Z0]; (first | refine Y8 (fun hq => ?_) (fun hq => ?_) | (refine W5 (by simp only [go_sem]) rfl rfl (by first | omega | simp) (by first | omega | simp) (by simp only [go_sem]; omega) ?_) | (refine ⟨by omega, ?_⟩; refine Ya (by assumption) ?_) | skip) <;> (refine HK _ _ rfl ?_; clear HK K)) | refine aq0 rfl rfl ?_ | refine Yv ?_)
          | (exfalso; omega)
         all_goals try (exfalso; omega)
         exact ⟨rfl, A.length + (B.drop 1).length, by simp only [Ze]; omega, A, (B.drop 1), acc ++ [⟨y.process, kk⟩], _, by simp, by rw [ho2, Za]; rfl, by simp only [Ze, Zh, Zm, Zf]; omega, by rw [Zp]; rfl, e0, by first | exact Zr7 B | exact Zv5 B, e2, by rw [Zh]; rfl⟩
       · rw [Uq, if_neg hk] at ho2
         repeat' first
          | (with_reducible first | refine sA rfl ?_ | refine sI rfl rfl ?_ | refine sT rfl ?_ | refine sB rfl ?_)
          | (with_reducible refine W2 ?_; first | refine Yf mixd (by kernel_rfl) ?_)
          | (with_reducible refine Y9 ?_; first | (refine ao2 rfl rfl rfl he (hf _ _ _) ?_; rintro _ _ ⟨rfl, rfl⟩) | refine Y5 ?_ | (refine ao1 rfl rfl fun K HK => ?_; (first | refine Y6 rfl ?_ | skip); simp only [go_sem, ↓reduceIte, Z1, Z4, Z2, Z5, Z6, Z7, Z8, Z9, e0, e1, e2, e7, hlt, hgt, hkk, Z3, X0, Zd, bM_0, Uc, W6, W7, bM_l, Ub, Za, Zb, Zc, Z0]; (first | refine Y8 (fun hq => ?_) (fun hq => ?_) | (refine W5 (by simp only [go_sem]) rfl rfl (by first | omega | simp) (by first | omega | simp) (by simp only [go_sem]; omega) ?_) | (refine ⟨by omega, ?_⟩; refine Ya (by assumption) ?_) | skip) <;> (refine HK _ _ ?_; clear HK K)) | refine ao0 rfl rfl ?_ | refine Wx rfl rfl rfl rfl (by (simp only [go_sem, ↓reduceIte, Z1, Z4, Z2, Z5, Z6, Z7, Z8, Z9, e0, e1, e2, e7, hlt, hgt, hkk, Z3, X0, Zd, bM_0, Uc, W6, W7, bM_l, Ub, Za, Zb, Zc, Z0]; rfl)) (by simp) (by simp only [go_sem]; rfl) (by (simp only [go_sem, ↓reduceIte, Z1, Z4, Z2, Z5, Z6, Z7, Z8, Z9, e0, e1, e2, e7, hlt, hgt, hkk, Z3, X0, Zd, bM_0, Uc, W6, W7, bM_l, Ub, Za, Zb, Zc, Z0]; rfl)) (by simp) (by (simp [Xd, D.one, Value.oneCell']; done)) (by omega) ?_)
          | (with_reducible refine Vn ?_; first | (refine aq1 rfl rfl fun K HK => ?_; (first | refine Y6 rfl ?_ | skip); simp only [go_sem, ↓reduceIte, Z1, Z4, Z2, Z5, Z6, Z7, Z8, Z9, e0, e1, e2, e7, hlt, hgt, hkk, Z3, X0, Zd, bM_0, Uc, W6, W7, bM_l, Ub, Za, Zb, Zc, Z0]; (first | refine Y8 (fun hq => ?_) (fun hq => ?_) | (refine W5 (by simp only [go_sem]) rfl rfl (by first | omega | simp) (by first | omega | simp) (by simp only [go_sem]; omega) ?_) | (refine ⟨by omega, ?_⟩; refine Ya (by assumption) ?_) | skip) <;> (refine HK _ _ rfl ?_; clear HK K)) | refine aq0 rfl rfl ?_ | refine Yv ?_)
          | (exfalso; omega)
         all_goals try (exfalso; omega)
         exact ⟨rfl, A.length + (B.drop 1).length, by simp only [Ze]; omega, A, (B.drop 1), acc, _, by simp, ho2, by simp only [Ze]; omega, rfl, e0, by first | exact Zr7 B | exact Zv5 B, e2, e7⟩
     · have hpe : y.process = x.process := by omega
       have eq1 : W0 ch A B = Uq x.process (ch x.n y.n) (W0 ch (A.drop 1) (B.drop 1)) := by rw [hxc, hyc, walk_eq _ _ _ _ _ hpe]; rfl
       have ho2 : W0 ch a b = acc ++ Uq x.process (ch x.n y.n) (W0 ch (A.drop 1) (B.drop 1)) := by rw [ho, eq1]
       generalize hkk : ch x.n y.n = kk at ho2
       by_cases hk : 0 < kk
       · rw [Uq, if_pos hk] at ho2
         repeat' first
          | (with_reducible first | refine sA rfl ?_ | refine sI rfl rfl ?_ | refine sT rfl ?_ | refine sB rfl ?_)
          | (with_reducible refine W2 ?_; first | refine Yf mixd (by kernel_rfl) ?_)
          | (with_reducible refine Y9 ?_; first | (refine ao2 rfl rfl rfl he (hf _ _ _) ?_; rintro _ _ ⟨rfl, rfl⟩) | (refine Wx rfl rfl rfl rfl bM_0 (by simp) (by simp only [go_sem]; rfl) bM_l (by simp) (by simp [Xd, D.one, Value.oneCell']) (by simp; omega) ?_) | refine Y5 ?_ | (refine ao1 rfl rfl fun K HK => ?_; (first | refine Y6 rfl ?_ | skip); simp only [go_sem, ↓reduceIte, Z1, Z4, Z2, Z5, Z6, Z7, Z8, Z9, e0, e1, e2, e7, hlt, hgt, hkk, Z3, X0, Zd, bM_0, Uc, W6, W7, bM_l, Ub, Za, Zb, Zc, Z0]; (first | refine Y8 (fun hq => ?_) (fun hq => ?_) | (refine W5 (by simp only [go_sem]) rfl rfl (by first | omega | simp) (by first | omega | simp) (by simp only [go_sem]; omega) ?_) | (refine ⟨by omega, ?_⟩; refine Ya (by assumption) ?_) | skip) <;> (refine HK _ _ ?_; clear HK K)) | refine ao0 rfl rfl ?_)
          | (with_reducible refine Vn ?_; first | (refine aq1 rfl rfl fun K HK => ?_; (first | refine Y6 rfl ?_ | skip); simp only [go_sem, ↓reduceIte, Z1, Z4, Z2, Z5, Z6, Z7, Z8, Z9, e0, e1, e2, e7, hlt, hgt, hkk, Z3, X0, Zd, bM_0, Uc, W6, W7, bM_l, Ub, Za, Zb, Zc, Z0]; (first | refine Y8 (fun hq => ?_) (fun hq => ?_) | (refine W5 (by simp only [go_sem]) rfl rfl (by first | omega | simp) (by first | omega | simp) (by simp only [go_sem]; omega) ?_) | (refine ⟨by omega, ?_⟩; refine Ya (by assumption) ?_) | skip) <;> (refine HK _ _ rfl ?_; clear HK K)) | refine aq0 rfl rfl ?_ | refine Yv ?_)
          | (exfalso; omega)
         all_goals try (exfalso; omega)
         exact ⟨rfl, (A.drop 1).length + (B.drop 1).length, by simp only [Ze]; omega, (A.drop 1), (B.drop 1), acc ++ [⟨x.process, kk⟩], _, by simp, by rw [ho2, Za]; rfl, by simp only [Ze, Zh, Zm, Zf]; omega, by rw [Zp]; rfl, by first | exact Zr7 A | exact Zv5 A, by first | exact Zr7 B | exact Zv5 B, e2, by rw [Zh]; rfl⟩
       · rw [Uq, if_neg hk] at ho2
         repeat' first
          | (with_reducible first | refine sA rfl ?_ | refine sI rfl rfl ?_ | refine sT rfl ?_ | refine sB rfl ?_)
          | (with_reducible refine W2 ?_; first | refine Yf mixd (by kernel_rfl) ?_)
          | (with_reducible refine Y9 ?_; first | (refine ao2 rfl rfl rfl he (hf _ _ _) ?_; rintro _ _ ⟨rfl, rfl⟩) | refine Y5 ?_ | (refine ao1 rfl rfl fun K HK => ?_; (first | refine Y6 rfl ?_ | skip); simp only [go_sem, ↓reduceIte, Z1, Z4, Z2, Z5, Z6, Z7, Z8, Z9, e0, e1, e2, e7, hlt, hgt, hkk, Z3, X0, Zd, bM_0, Uc, W6, W7, bM_l, Ub, Za, Zb, Zc, Z0]; (first | refine Y8 (fun hq => ?_) (fun hq => ?_) | (refine W5 (by simp only [go_sem]) rfl rfl (by first | omega | simp) (by first | omega | simp) (by simp only [go_sem]; omega) ?_) | (refine ⟨by omega, ?_⟩; refine Ya (by assumption) ?_) | skip) <;> (refine HK _ _ ?_; clear HK K)) | refine ao0 rfl rfl ?_ | refine Wx rfl rfl rfl rfl (by (simp only [go_sem, ↓reduceIte, Z1, Z4, Z2, Z5, Z6, Z7, Z8, Z9, e0, e1, e2, e7, hlt, hgt, hkk, Z3, X0, Zd, bM_0, Uc, W6, W7, bM_l, Ub, Za, Zb, Zc, Z0]; rfl)) (by simp) (by simp only [go_sem]; rfl) (by (simp only [go_sem, ↓reduceIte, Z1, Z4, Z2, Z5, Z6, Z7, Z8, Z9, e0, e1, e2, e7, hlt, hgt, hkk, Z3, X0, Zd, bM_0, Uc, W6, W7, bM_l, Ub, Za, Zb, Zc, Z0]; rfl)) (by simp) (by (simp [Xd, D.one, Value.oneCell']; done)) (by omega) ?_)
          | (with_reducible refine Vn ?_; first | (refine aq1 rfl rfl fun K HK => ?_; (first | refine Y6 rfl ?_ | skip); simp only [go_sem, ↓reduceIte, Z1, Z4, Z2, Z5, Z6, Z7, Z8, Z9, e0, e1, e2, e7, hlt, hgt, hkk, Z3, X0, Zd, bM_0, Uc, W6, W7, bM_l, Ub, Za, Zb, Zc, Z0]; (first | refine Y8 (fun hq => ?_) (fun hq => ?_) | (refine W5 (by simp only [go_sem]) rfl rfl (by first | omega | simp) (by first | omega | simp) (by simp only [go_sem]; omega) ?_) | (refine ⟨by omega, ?_⟩; refine Ya (by assumption) ?_) | skip) <;> (refine HK _ _ rfl ?_; clear HK K)) | refine aq0 rfl rfl ?_ | refine Yv ?_)
          | (exfalso; omega)
         all_goals try (exfalso; omega)
         exact ⟨rfl, (A.drop 1).length + (B.drop 1).length, by simp only [Ze]; omega, (A.drop 1), (B.drop 1), acc, _, by simp, ho2, by simp only [Ze]; omega, rfl, by first | exact Zr7 A | exact Zv5 A, by first | exact Zr7 B | exact Zv5 B, e2, e7⟩
theorem minus_d (a b : List Tk) (va : Zc8 a = true) (vb : Zc8 b = true) (h : List Ob) : Does Zl G 178 h [.sl 2 (a.map tkX), .sl 2 (b.map tkX)] (fun h' r => h' = h ∧ r = .sl 2 ((Zu4 a b).map tkX)) := by
 refine Yh G hG (by simp only [lowL]; exact ⟨Zb0 _ a, Zb0 _ b, trivial⟩) (Zb0 _ _) ?_ h
 clear h
 have hw := Does.gave0 hG (Zb0 _ _) (by simp only [lowL]; exact ⟨Zb0 _ a, Zb0 _ b, by simp [low, lowL], trivial⟩) (Z3 _) (walk0 G hG 188 Yn2 ent_188 (fun m n h => minusCh_d G hG m n h) a b va vb)
 unfold Zu4
 refine Y7 Tryz.func178 rfl (Zi rfl) hG fun hl0 _ => ?_
 simp only [Tryz.ntmps178]
 repeat' first
  | (with_reducible first | refine sA rfl ?_ | refine sT rfl ?_)
  | (with_reducible refine Y9 ?_; first | refine Y5 ?_ | (refine ao1 rfl rfl fun K HK => ?_; simp only [go_sem, ↓reduceIte, Z1, Z4, Z2, Z5, Z6, Z7, Z8, Z9] <;> (refine HK _ _ ?_; clear HK K)) | (refine ao2 rfl rfl rfl ent_187 (hw _) ?_; rintro _ _ ⟨rfl, rfl⟩))
 exact ⟨.inr rfl, endD (r := .sl 2 _) hl0 rfl (by simp) (by simp) rfl (Zb0 _ _) ⟨rfl, rfl⟩⟩
theorem Yi8 (a b : List Tk) (la : a.length ≤ 9223372036854775807) (lb : b.length ≤ 9223372036854775807) (h : List Ob) : Does Zl G 156 h [.sl 2 (a.map tkX), .sl 2 (b.map tkX)] (fun h' r => h' = h ∧ r = .v (.int .i64 (Zh4 a b))) := by
 refine Yh G hG (by simp only [lowL]; exact ⟨Zb0 _ a, Zb0 _ b, trivial⟩) (by rw [low]; trivial) ?_ h
 clear h
 have ha := J8 G hG a la
 have hb := J8 G hG b lb
 have hm := minus_d G hG a b
 have hn := minus_d G hG b a
 unfold Zh4
 generalize Zc8 a = ca at *
 generalize Zc8 b = cb at *
 refine Y7 Tryz.func156 rfl (Zi rfl) hG fun hl0 _ => ?_
 simp only [Tryz.ntmps156]
 cases ca
 · skip
   repeat' first
    | (with_reducible first | refine sA rfl ?_ | refine sI rfl rfl ?_ | refine sT rfl ?_)
    | (with_reducible refine Y9 ?_; first | refine Y5 ?_ | (refine ao1 rfl rfl fun K HK => ?_; (first | refine Y6 rfl ?_ | skip); simp only [go_sem, ↓reduceIte, Z1, Z4, Z2, Z5, Z6, Z7, Z8, Z9, Z0] <;> (refine HK _ _ ?_; clear HK K)) | refine ao0 rfl rfl ?_ | (refine ao2 rfl rfl rfl Jl (ha _) ?_; rintro _ _ ⟨rfl, rfl⟩))
   exact ⟨.inr rfl, endV hl0 rfl rfl ⟨rfl, rfl⟩⟩
 cases cb
 · skip
   repeat' first
    | (with_reducible first | refine sA rfl ?_ | refine sI rfl rfl ?_ | refine sT rfl ?_)
    | (with_reducible refine Y9 ?_; first | refine Y5 ?_ | (refine ao1 rfl rfl fun K HK => ?_; (first | refine Y6 rfl ?_ | skip); simp only [go_sem, ↓reduceIte, Z1, Z4, Z2, Z5, Z6, Z7, Z8, Z9, Z0] <;> (refine HK _ _ ?_; clear HK K)) | (refine ao2 rfl rfl rfl Jl (ha _) ?_; rintro _ _ ⟨rfl, rfl⟩) | (refine ao2 rfl rfl rfl Jl (hb _) ?_; rintro _ _ ⟨rfl, rfl⟩))
   exact ⟨.inr rfl, endV hl0 rfl rfl ⟨rfl, rfl⟩⟩
 have hm := hm rfl rfl
 have hn := hn rfl rfl
 generalize Zu4 a b = x at *
 generalize Zu4 b a = y at *
 repeat' first
  | (with_reducible first | refine sA rfl ?_ | refine sI rfl rfl ?_ | refine sT rfl ?_ | refine sB rfl ?_)
  | (with_reducible refine Y9 ?_; first | refine Y5 ?_ | (refine ao1 rfl rfl fun K HK => ?_; (first | refine Y6 rfl ?_ | skip); simp only [go_sem, ↓reduceIte, Z1, Z4, Z2, Z5, Z6, Z7, Z8, Z9, Z3, Z0]; (first | refine Y8 (fun hq => ?_) (fun hq => ?_) | skip) <;> (refine HK _ _ ?_; clear HK K)) | refine ao0 rfl rfl ?_ | (refine ao2 rfl rfl rfl Jl (ha _) ?_; rintro _ _ ⟨rfl, rfl⟩) | (refine ao2 rfl rfl rfl Jl (hb _) ?_; rintro _ _ ⟨rfl, rfl⟩) | (refine ao2 rfl rfl rfl ent_178 (hm _) ?_; rintro _ _ ⟨rfl, rfl⟩) | (refine ao2 rfl rfl rfl ent_178 (hn _) ?_; rintro _ _ ⟨rfl, rfl⟩))
 all_goals first | (exfalso; omega) | refine ⟨.inr rfl, endV hl0 rfl rfl ⟨rfl, congrArg (fun b => D.v (.int .i64 b)) ?_⟩⟩
 all_goals
  clear hl0
  by_cases hxl : x.length = 0 <;> by_cases hyl : y.length = 0 <;> simp [hxl, hyl] <;> omega
end
end Go.Proofs.YtgkjcmglcnhpaaaGreatDoor
