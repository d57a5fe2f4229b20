/-
  What the statements of the chapter share, part 25: LA4, LA5, SS0, JT1, JT2, JT3.
-/
import Derived.Test.YtbhkcbidcfofiaaGreatY14
import Derived.Test.YtbhkcbidcfofiaaGreatY15
import Derived.Test.YtbhkcbidcfofiaaGreatY16
import Derived.Test.YtbhkcbidcfofiaaGreatY24
set_option linter.unusedVariables false
set_option linter.unusedSimpArgs false
set_option maxRecDepth 100000
set_option maxHeartbeats 8000000
namespace Go.Proofs.YtbhkcbidcfofiaaGreat
open _root_.Bool renaming not_eq_true' → Z2, and_eq_true → Z3, not_eq_true → Z4, false_eq_true → Za, or_eq_true → Zh
open _root_.List renaming pairwise_cons → Z0, mem_cons → Z1, getElem?_eq_getElem → Z5, length_cons → Z6, all_eq_true → Z7, mem_append → Z9, drop_eq_nil_of_le → Zb, getElem_mem → Zc, mem_filter → Zd, filter_cons → Ze, length_map → Zg
open _root_.Nat renaming le_of_ble_eq_true → Z8, zero_le → Zi, le_refl → Zj
open _root_.Go.Proofs.Tryz renaming prog → Zf
open Go.RowKit
attribute [local irreducible] on aOp
attribute [local simp] byD_len
attribute [local go_sem] decide_true decide_false Bool.not_true Bool.not_false
attribute [local go_sem ↓] reduceIte
section
variable (G : Nat → D) (hG : ∀ g, low 0 (G g))
include hG
attribute [local go_sem] Za Int.reduceEq Int.reduceLE Int.reduceLT Int.toNat_natCast Zg Nat.reduceAdd Nat.reduceBEq Nat.reduceEqDiff Nat.reduceLeDiff Nat.reduceMul gM_0 gM_app gM_l gM_len gM_sl Zi3 Wi
theorem rNamed_d (l : Lat) (hsm : Sm l) (h : List Ob) : Does Zf G 197 h [.agg (latX l)] (fun h' r => h' = h ∧ r = .v (.bool (Zg2 l.kind l.names l.rules))) := by
 refine Y9 G hG (Wu _ l) (by rw [low]; trivial) ?_ h
 clear h
 have hpl := hsm.parts
 have hnl := hsm.names
 have hrl := hsm.rules
 have htx := hsm.texts
 have hcd := hsm.conds
 have hri := rRising_d G hG l.names hnl htx
 refine Y6 Tryz.func197 rfl (Z8 rfl) hG fun hl0 _ => ?_
 simp only [Tryz.ntmps197]
 by_cases h6 : l.kind = 6
 · have e0 : Zg2 l.kind l.names l.rules = nmGo true l.names 0 l.names := by unfold Zg2; rw [if_pos h6]
   rw [e0]
   have F : _ ∧ _ := ⟨Y4, h6⟩
   repeat' first
    | refine g0 ?_
    | fail
   refine Yh (fun m e h' => ∃ k : Nat, k ≤ l.names.length ∧ m = l.names.length - k ∧ nmGo true l.names 0 l.names = nmGo true l.names k (l.names.drop k) ∧ h' = [.cells (latX l)] ∧ e 1 = .ptr 0 0 ∧ e 3 = .v (.int .i64 k)) l.names.length ⟨0, Zi _, rfl, rfl, (by rw [Y4, h6]), rfl, rfl⟩ ?_
   rintro m e h' ⟨k, hk, rfl, ho, rfl, e1, e3⟩
   by_cases hlt : k < l.names.length
   · have hx : l.names[k]? = some l.names[k] := Z5 hlt
     have wk : IntKind.i64.wrap ((k : Int) + 1) = (k : Int) + 1 := IntWalk.i64_in _ (by omega)
     rw [nmGo_step true l.names k hlt] at ho
     have hn := rName_d G hG l.names[k] (htx _ (Zc hlt))
     generalize l.names[k] = x at hx hn ho
     have hin := rIn_d G hG (l.names.take k) x (by rw [List.length_take]; omega)
     have hin2 : ∀ (b : Bool), hasS (l.names.take k) x = b → ∀ h, Does Zf G 236 h [.sl 1 (List.drop (Int.toNat 0) (List.take (Int.toNat (k : Int)) (l.names.map strX))), .v (.string x)] (fun h' r => h' = h ∧ r = .v (.bool b)) := fun b hb h => by
      have := hin h
      rw [hb, List.map_take] at this
      exact this
     clear hin
     cases hnb : Wm x <;> rw [hnb] at hn ho
     · skip
       have F : _ ∧ _ ∧ _ ∧ _ := ⟨Y4 l, e1, e3, wk⟩
       repeat' first
        | (with_reducible refine Yc ?_; refine Y8 mixd (by kernel_rfl) ?_)
        | refine gg ?_
        | refine Two.mk (fun hq => ?_) fun hq => ?_
        | (with_reducible refine X6 ?_; refine aq2 rfl rfl rfl Zg9 (hn _) ?_)
        | (exfalso; omega)
       exact ⟨.inr rfl, endD (r := .v (.bool false)) hl0 rfl (by simp) (by simp) rfl (by rw [low]; trivial) ⟨rfl, by rw [ho]; rfl⟩⟩
     · cases hib : hasS (l.names.take k) x <;> rw [hib] at ho
       · skip
         have F : _ ∧ _ ∧ _ ∧ _ := ⟨Y4 l, e1, e3, wk⟩
         repeat' first
          | (with_reducible refine Yc ?_; refine Y8 mixd (by kernel_rfl) ?_)
          | refine gg ?_
          | refine Two.mk (fun hq => ?_) fun hq => ?_
          | (with_reducible refine X6 ?_; first | refine aq2 rfl rfl rfl Zg9 (hn _) ?_ | refine aq2 rfl rfl rfl Zt1 (hin2 _ hib _) ?_)
          | (exfalso; omega)
         exact ⟨rfl, l.names.length - (k + 1), by omega, k + 1, hlt, rfl, by rw [ho]; rfl, by rw [Y4], e1, rfl⟩
       · skip
         have F : _ ∧ _ ∧ _ ∧ _ := ⟨Y4 l, e1, e3, wk⟩
         repeat' first
          | (with_reducible refine Yc ?_; refine Y8 mixd (by kernel_rfl) ?_)
          | refine gg ?_
          | refine Two.mk (fun hq => ?_) fun hq => ?_
          | (with_reducible refine X6 ?_; first | refine aq2 rfl rfl rfl Zg9 (hn _) ?_ | refine aq2 rfl rfl rfl Zt1 (hin2 _ hib _) ?_)
          | (exfalso; omega)
         exact ⟨.inr rfl, endD (r := .v (.bool false)) hl0 rfl (by simp) (by simp) rfl (by rw [low]; trivial) ⟨rfl, by rw [ho]; rfl⟩⟩
   · skip
     have F : _ ∧ _ ∧ _ := ⟨Y4 l, e1, e3⟩
     repeat' first
      | (with_reducible refine Yc ?_; refine Y8 mixd (by kernel_rfl) ?_)
      | refine gg ?_
      | refine Two.mk (fun hq => ?_) fun hq => ?_
      | refine Evry.mk fun x hx => ?_
      | (exfalso; omega)
     exact ⟨.inr rfl, endD (r := .v (.bool true)) hl0 rfl (by simp) (by simp) rfl (by rw [low]; trivial) ⟨rfl, by rw [ho, Zb (by omega)]; rfl⟩⟩
 have en : Zg2 l.kind l.names l.rules = (Zb8 l.names && l.rules.all (Ze2 l.names)) := by unfold Zg2; rw [if_neg h6]
 rw [en]
 cases hrb : Zb8 l.names <;> rw [hrb] at hri
 · skip
   have F : _ ∧ _ := ⟨Y4 l, h6⟩
   repeat' first
    | refine g0 ?_
    | (with_reducible refine Y7 ?_; refine gc rfl rfl rfl Yc9 (hri _) ?_)
   exact ⟨.inr rfl, endD (r := .v (.bool false)) hl0 rfl (by simp) (by simp) rfl (by rw [low]; trivial) ⟨rfl, rfl⟩⟩
 rw [Bool.true_and]
 have F : _ ∧ _ := ⟨Y4 l, h6⟩
 repeat' first
  | refine g0 ?_
  | (with_reducible refine Y7 ?_; refine gc rfl rfl rfl Yc9 (hri _) ?_)
 refine Yh (fun m e h' => ∃ (k : Nat) (T : List Ob), k ≤ l.rules.length ∧ m = l.rules.length - k ∧ l.rules.all (Ze2 l.names) = (l.rules.drop k).all (Ze2 l.names) ∧ h' = gM (.cells (latX l)) T ∧ e 1 = .ptr 0 0 ∧ e 4 = .v (.int .i64 k)) l.rules.length ⟨0, [], Zi _, rfl, rfl, (by rw [Y4]; rfl), rfl, rfl⟩ ?_
 rintro m e h' ⟨k, T, hk, rfl, ho, rfl, e1, e4⟩
 by_cases hlt : k < l.rules.length
 rotate_left
 · skip
   have F : _ ∧ _ ∧ _ := ⟨Y4 l, e1, e4⟩
   repeat' first
    | refine gg ?_
    | refine Two.mk (fun hq => ?_) fun hq => ?_
    | refine Evry.mk fun x hx => ?_
    | (exfalso; omega)
   exact ⟨.inr rfl, endD (r := .v (.bool true)) hl0 rfl (by simp) (by simp) rfl (by rw [low]; trivial) ⟨rfl, by rw [ho, Zb (by omega)]; rfl⟩⟩
 have hx : l.rules[k]? = some l.rules[k] := Z5 hlt
 have wk : IntKind.i64.wrap ((k : Int) + 1) = (k : Int) + 1 := IntWalk.i64_in _ (by omega)
 rw [rules_step _ _ k hlt] at ho
 obtain ⟨hcl, hcs⟩ := hcd _ (Zc hlt)
 generalize l.rules[k] = x at hx ho hcl hcs
 have hrx := rRising_d G hG x.cond hcl hcs
 have hin := rIn_d G hG l.names x.concl hnl
 by_cases hz : x.cond.length = 0
 · have er : Ze2 l.names x = false := by unfold Ze2; rw [decide_eq_false (by omega)]; rfl
   have F : _ ∧ _ ∧ _ ∧ _ ∧ _ := ⟨Y4 l, e1, e4, wk, hz⟩
   repeat' first
    | refine gg ?_
    | refine Two.mk (fun hq => ?_) fun hq => ?_
    | (exfalso; omega)
   all_goals first | (exfalso; omega) | exact ⟨.inr rfl, endD (r := .v (.bool false)) hl0 rfl (by simp) (by simp) rfl (by rw [low]; trivial) ⟨rfl, by rw [ho, er]; rfl⟩⟩
 cases hxb : Zb8 x.cond <;> rw [hxb] at hrx
 · have er : Ze2 l.names x = false := by unfold Ze2; rw [hxb]; simp
   have F : _ ∧ _ ∧ _ ∧ _ := ⟨Y4 l, e1, e4, wk⟩
   repeat' first
    | refine gg ?_
    | refine Two.mk (fun hq => ?_) fun hq => ?_
    | (with_reducible refine Y7 ?_; refine gc rfl rfl rfl Yc9 (hrx _) ?_)
    | (exfalso; omega)
   all_goals first | (exfalso; omega) | exact ⟨.inr rfl, endD (r := .v (.bool false)) hl0 rfl (by simp) (by simp) rfl (by rw [low]; trivial) ⟨rfl, by rw [ho, er]; rfl⟩⟩
 cases hib : hasS l.names x.concl <;> rw [hib] at hin
 · have er : Ze2 l.names x = false := by unfold Ze2; rw [hib]; simp
   have F : _ ∧ _ ∧ _ ∧ _ := ⟨Y4 l, e1, e4, wk⟩
   repeat' first
    | refine gg ?_
    | refine Two.mk (fun hq => ?_) fun hq => ?_
    | (with_reducible refine Y7 ?_; first | refine gc rfl rfl rfl Yc9 (hrx _) ?_ | refine gc rfl rfl rfl Zt1 (hin _) ?_)
    | (exfalso; omega)
   all_goals first | (exfalso; omega) | exact ⟨.inr rfl, endD (r := .v (.bool false)) hl0 rfl (by simp) (by simp) rfl (by rw [low]; trivial) ⟨rfl, by rw [ho, er]; rfl⟩⟩
 have er : Ze2 l.names x = x.cond.all (hasS l.names) := by unfold Ze2; rw [hxb, hib, decide_eq_true hz]; simp
 rw [er] at ho
 have F : _ ∧ _ ∧ _ ∧ _ := ⟨Y4 l, e1, e4, wk⟩
 repeat' first
  | refine gg ?_
  | refine Two.mk (fun hq => ?_) fun hq => ?_
  | (with_reducible refine Y7 ?_; first | refine gc rfl rfl rfl Yc9 (hrx _) ?_ | refine gc rfl rfl rfl Zt1 (hin _) ?_)
  | (exfalso; omega)
 all_goals try (exfalso; omega)
 refine Yh (fun m e h' => ∃ j : Nat, j ≤ x.cond.length ∧ m = x.cond.length - j ∧ x.cond.all (hasS l.names) = (x.cond.drop j).all (hasS l.names) ∧ h' = gM (.cells (latX l)) (T ++ [.cells (Zo3 x)]) ∧ e 1 = .ptr 0 0 ∧ e 4 = .v (.int .i64 k) ∧ e 5 = .ptr (T.length + 1) 0 ∧ e 6 = .v (.int .i64 j)) x.cond.length ⟨0, Zi _, rfl, rfl, (by rw [Y4, Zi3]), e1, e4, rfl, rfl⟩ ?_
 clear e1 e4
 rintro m e h' ⟨j, hj, rfl, hoj, rfl, e1, e4, e5, e6⟩
 by_cases hjl : j < x.cond.length
 rotate_left
 · skip
   have F : _ ∧ _ ∧ _ ∧ _ ∧ _ ∧ _ := ⟨Y4 l, e1, e4, e5, e6, wk⟩
   repeat' first
    | (with_reducible refine Yc ?_; refine Y8 mixd (by kernel_rfl) ?_)
    | refine gg ?_
    | refine Two.mk (fun hq => ?_) fun hq => ?_
    | refine Evry.mk fun x hx => ?_
    | (exfalso; omega)
   exact ⟨rfl, l.rules.length - (k + 1), by omega, k + 1, _, hlt, rfl, by rw [ho, hoj, Zb (by omega)]; rfl, by rw [Y4], e1, rfl⟩
 have hy : x.cond[j]? = some x.cond[j] := Z5 hjl
 have wj : IntKind.i64.wrap ((j : Int) + 1) = (j : Int) + 1 := IntWalk.i64_in _ (by omega)
 rw [conds_step _ _ j hjl] at hoj
 generalize x.cond[j] = y at hy hoj
 have hiy := rIn_d G hG l.names y hnl
 cases hyb : hasS l.names y <;> rw [hyb] at hiy hoj
 · skip
   have F : _ ∧ _ ∧ _ ∧ _ ∧ _ ∧ _ := ⟨Y4 l, e1, e4, e5, e6, wj⟩
   repeat' first
    | (with_reducible refine Yc ?_; refine Y8 mixd (by kernel_rfl) ?_)
    | refine gg ?_
    | refine Two.mk (fun hq => ?_) fun hq => ?_
    | (with_reducible refine X6 ?_; refine aq2 rfl rfl rfl Zt1 (hiy _) ?_)
    | (exfalso; omega)
   exact ⟨.inr rfl, endD (r := .v (.bool false)) hl0 rfl (by simp) (by simp) rfl (by rw [low]; trivial) ⟨rfl, by rw [ho, hoj]; rfl⟩⟩
 · skip
   have F : _ ∧ _ ∧ _ ∧ _ ∧ _ ∧ _ := ⟨Y4 l, e1, e4, e5, e6, wj⟩
   repeat' first
    | (with_reducible refine Yc ?_; refine Y8 mixd (by kernel_rfl) ?_)
    | refine gg ?_
    | refine Two.mk (fun hq => ?_) fun hq => ?_
    | (with_reducible refine X6 ?_; refine aq2 rfl rfl rfl Zt1 (hiy _) ?_)
    | (exfalso; omega)
   exact ⟨rfl, x.cond.length - (j + 1), by omega, j + 1, hjl, rfl, by rw [hoj]; rfl, by rw [Y4, Zi3], e1, e4, e5, rfl⟩
end
section
def walkG (g : Lat → Nat → Nat × Int) : List Lat → Nat → Nat × Int
 | [], n => (n, 0)
 | p :: t, n => if (g p n).2 ≠ 0 then (n, (g p n).2) else walkG g t (g p n).1
def Zl0 : Nat → Lat → Nat → Nat × Int
 | 0, l, n => (n, Zl9 l 7 n)
 | f + 1, l, n => if Zl9 l (6 - f) n ≠ 0 then (n, Zl9 l (6 - f) n) else walkG (Zl0 f) l.parts (n + 1)
theorem walkG_go {g : Lat → Nat → Nat × Int} {v : Lat → Nat → Int × Nat} : ∀ (ps : List Lat) (n : Nat), (∀ p ∈ ps, ∀ n, (g p n).2 = (v p n).1 ∧ ((v p n).1 = 0 → (g p n).1 = (v p n).2)) → (walkG g ps n).2 = (goL v ps n).1 ∧ ((goL v ps n).1 = 0 → (walkG g ps n).1 = (goL v ps n).2)
 | [], n, _ => ⟨rfl, fun _ => rfl⟩
 | p :: t, n, h => by
  obtain ⟨h1, h2⟩ := h p (by simp) n
  rw [walkG, goL, h1]
  by_cases h0 : (v p n).1 = 0
  · rw [if_neg (fun q => q h0), if_neg (fun q => q h0), h2 h0]
    exact walkG_go t _ fun q hq => h q (by simp [hq])
  · rw [if_pos h0, if_pos h0]
    exact ⟨rfl, fun q => absurd q h0⟩
theorem Zk9 : ∀ (f : Nat) (l : Lat) (n : Nat), f ≤ 6 → (Zl0 f l n).2 = (X5 f l n).1 ∧ ((X5 f l n).1 = 0 → (Zl0 f l n).1 = (X5 f l n).2)
 | 0, l, n, _ => by
  rcases Yg8 0 l n 7 (by omega) (by omega) with ⟨h1, h2⟩ | ⟨_, g, hg, _⟩
  · exact ⟨h2.symm, fun q => absurd (h2 ▸ q) h1⟩
  · omega
 | f + 1, l, n, hf => by
  rw [Zl0]
  rcases Yg8 (f + 1) l n (6 - f) (by omega) hf with ⟨h1, h2⟩ | ⟨h1, g, hg, h2⟩
  · rw [if_pos h1]; exact ⟨h2.symm, fun q => absurd (h2 ▸ q) h1⟩
  · obtain rfl : f = g := by omega
    rw [if_neg (fun q => q h1), h2]
    exact walkG_go l.parts (n + 1) fun p _ m => Zk9 f p m (by omega)
theorem walkF_le {f : Nat} {l : Lat} {n : Nat} (hf : f ≤ 6) (hn : n ≤ 64) (h : (Zl0 f l n).2 = 0) : (Zl0 f l n).1 ≤ 64 := by
 obtain ⟨h1, h2⟩ := Zk9 f l n hf
 rw [h2 (h1 ▸ h)]
 exact visit_le f l n hn
theorem walkF_chk (l : Lat) : (Zl0 6 l 0).2 = chkE l := (Zk9 6 l 0 (Zj _)).1
theorem nodeR_lt {l : Lat} {d : Int} {n : Nat} (h : Zl9 l d n = 0) : n < 64 := by
 unfold Zl9 at h
 by_cases h1 : 6 < d ∨ 64 ≤ n
 · rw [if_pos h1] at h; exact absurd h (by decide)
 · omega
variable (G : Nat → D) (hG : ∀ g, low 0 (G g))
include hG
attribute [local go_sem] Za Int.reduceEq Int.reduceLE Int.reduceLT Int.toNat_natCast Zg Nat.reduceAdd Nat.reduceBEq Nat.reduceEqDiff Nat.reduceLeDiff Nat.reduceMul Zq0 Yb3
theorem rNode_d (l : Lat) (hsm : Sm l) (d : Int) (n : Nat) (hd : 0 ≤ d ∧ d ≤ 7) (hn : n ≤ 64) (h : List Ob) : Does Zf G 134 h [.agg (latX l), .v (.int .i64 d), .v (.int .i64 n)] (fun h' r => h' = h ∧ r = .v (.int .i64 (Zl9 l d n))) := by
 refine Y9 G hG (by rw [lowL, lowL, lowL, lowL, low]; exact ⟨Yp _ l, by simp [low], by simp [low], trivial⟩) (by rw [low]; trivial) ?_ h
 clear h
 have hpl := hsm.parts
 have hnl := hsm.names
 have hrl := hsm.rules
 have hsh := rShape_d G hG l hsm
 have hnm := rNamed_d G hG l hsm
 have hp0 : l.kind = 7 → Wx l = false → ∃ p, l.parts[0]? = some p ∧ l.parts.length = 2 ∧ Vd l = !Wc p ∧ ∀ (b : Bool), Wc p = b → ∀ (h : List Ob), Does Zf G 198 h [.agg (latX p)] (fun h' r => h' = h ∧ r = .v (.bool b)) := fun h7 hs => by
  have h2 := Yf9 l hs h7
  match hm : l.parts, h2 with
  | [a, b], _ => exact ⟨a, rfl, rfl, by unfold Vd; rw [h7, hm]; rfl, fun c hc h => hc ▸ rChain_d G hG _ a (Zj _) (hsm.part a (by rw [hm]; simp)) h⟩
 have hnc : l.kind ≠ 7 → Vd l = false := fun h7 => by unfold Vd; rw [decide_eq_false h7, Bool.false_and]
 simp only [Y4 l] at hsh hnm
 unfold Zl9 Za2
 generalize hsb : Wx l = sb at *
 generalize hnb : Zg2 l.kind l.names l.rules = nb at *
 generalize hcb : Vd l = cb at *
 generalize hkk : l.kind = k at *
 generalize hlo : l.lo = lo at *
 generalize hhi : l.hi = hi at *
 generalize hnn : l.names.length = nn at *
 generalize hnr : l.rules.length = nr at *
 refine Y6 Tryz.func134 rfl (Z8 rfl) hG fun hl0 _ => ?_
 simp only [Tryz.ntmps134]
 by_cases h7 : k = 7
 · subst h7
   cases sb
   · obtain ⟨p, hp, hp2, hpc, hpd⟩ := hp0 rfl rfl
     cases hcp : Wc p <;> rw [hcp] at hpc
     all_goals
      cases nb
     all_goals
      skip
      repeat' first
       | (with_reducible first | refine sA rfl ?_ | refine sI rfl rfl ?_ | refine sT rfl ?_ | refine sB rfl ?_)
       | (with_reducible refine Y7 ?_; first | refine Yn ?_ | (refine ao1 rfl rfl fun K HK => ?_; (first | refine Yi rfl ?_ | skip); simp only [go_sem, Y4 l, hkk, hlo, hhi, hnn, hnr, hp2, Int.toNat_zero]; (first | refine Ym (fun hq => ?_) (fun hq => ?_) | (refine ⟨by omega, ?_⟩; refine Yo (by assumption) ?_) | skip) <;> (refine HK _ _ ?_; clear HK K)) | refine ao0 rfl rfl ?_ | (refine ao2 rfl rfl rfl Yp2 (hsh _) ?_; rintro _ _ ⟨rfl, rfl⟩) | (refine ao2 rfl rfl rfl ent_197 (hnm _) ?_; rintro _ _ ⟨rfl, rfl⟩) | (refine ao2 rfl rfl rfl Yp1 (hpd _ hcp _) ?_; rintro _ _ ⟨rfl, rfl⟩))
      all_goals first | (exfalso; omega) | refine ⟨.inr rfl, endV hl0 rfl rfl ⟨rfl, congrArg (fun b => D.v (.int .i64 b)) ?_⟩⟩
      all_goals (clear hl0; simp [Ya5]; repeat' split) <;> first | rfl | omega | (simp_all; done) | (simp_all; omega) | (simp_all; intros; omega)
   · skip
     have F : _ ∧ _ ∧ _ ∧ _ ∧ _ ∧ _ := ⟨Y4 l, hkk, hlo, hhi, hnn, hnr⟩
     repeat' first
      | refine gg ?_
      | refine Two.mk (fun hq => ?_) fun hq => ?_
      | (with_reducible refine Y7 ?_; refine gc rfl rfl rfl Yp2 (hsh _) ?_)
     all_goals first | (exfalso; omega) | refine ⟨.inr rfl, endV hl0 rfl rfl ⟨rfl, congrArg (fun b => D.v (.int .i64 b)) ?_⟩⟩
     all_goals (clear hl0; simp [Ya5]; repeat' split) <;> first | rfl | omega | (simp_all; done) | (simp_all; omega) | (simp_all; intros; omega)
 · obtain rfl := hnc h7
   cases sb
   · cases nb
     all_goals
      skip
      have F : _ ∧ _ ∧ _ ∧ _ ∧ _ ∧ _ ∧ _ := ⟨Y4 l, hkk, hlo, hhi, hnn, hnr, h7⟩
      repeat' first
       | refine gg ?_
       | refine Two.mk (fun hq => ?_) fun hq => ?_
       | (with_reducible refine Y7 ?_; first | refine gc rfl rfl rfl Yp2 (hsh _) ?_ | refine gc rfl rfl rfl ent_197 (hnm _) ?_)
       | (exfalso; omega)
      all_goals first | (exfalso; omega) | refine ⟨.inr rfl, endV hl0 rfl rfl ⟨rfl, congrArg (fun b => D.v (.int .i64 b)) ?_⟩⟩
      all_goals (clear hl0; simp [Ya5]; repeat' split) <;> first | rfl | omega | (simp_all; done) | (simp_all; omega) | (simp_all; intros; omega)
   · skip
     have F : _ ∧ _ ∧ _ ∧ _ ∧ _ ∧ _ ∧ _ := ⟨Y4 l, hkk, hlo, hhi, hnn, hnr, h7⟩
     repeat' first
      | refine gg ?_
      | refine Two.mk (fun hq => ?_) fun hq => ?_
      | (with_reducible refine Y7 ?_; refine gc rfl rfl rfl Yp2 (hsh _) ?_)
      | (exfalso; omega)
     all_goals first | (exfalso; omega) | refine ⟨.inr rfl, endV hl0 rfl rfl ⟨rfl, congrArg (fun b => D.v (.int .i64 b)) ?_⟩⟩
     all_goals (clear hl0; simp [Ya5]; repeat' split) <;> first | rfl | omega | (simp_all; done) | (simp_all; omega) | (simp_all; intros; omega)
theorem rWalk_d : ∀ (f : Nat) (l : Lat) (n : Nat) (d : Int), f ≤ 6 → d = 7 - f → Sm l → n ≤ 64 → ∀ (h : List Ob), Does Zf G 77 h [.agg (latX l), .v (.int .i64 d), .v (.int .i64 n)] (fun h' r => h' = h ∧ r = .tup [.v (.int .i64 (Zl0 f l n).1), .v (.int .i64 (Zl0 f l n).2)]) := by
 intro f
 induction f with
 | zero =>
   intro l n d hf hd hsm hn h
   refine Y9 G hG (by rw [lowL, lowL, lowL, lowL, low]; exact ⟨Yp _ l, by simp [low], by simp [low], trivial⟩) (by simp [low, lowL]) ?_ h
   clear h
   obtain rfl : d = 7 := by omega
   have hnd := rNode_d G hG l hsm 7 n (by omega) hn
   simp only [Y4 l] at hnd
   have hne : Zl9 l 7 n ≠ 0 := by unfold Zl9; rw [if_pos (.inl (by omega))]; decide
   rw [Zl0]
   generalize Zl9 l 7 n = e at *
   refine Y6 Tryz.func77 rfl (Z8 rfl) hG fun hl0 _ => ?_
   simp only [Tryz.ntmps77]
   have F : _ ∧ _ := ⟨Y4 l, hne⟩
   repeat' first
    | refine g0 ?_
    | (with_reducible refine Y7 ?_; refine gc rfl rfl rfl ent_134 (hnd _) ?_)
   exact ⟨.inr rfl, endD (r := .tup [.v _, .v _]) hl0 rfl (by simp) (by simp) rfl (by simp [low, lowL]) ⟨rfl, rfl⟩⟩
 | succ f ih =>
   intro l n d hf hd hsm hn h
   refine Y9 G hG (by rw [lowL, lowL, lowL, lowL, low]; exact ⟨Yp _ l, by simp [low], by simp [low], trivial⟩) (by simp [low, lowL]) ?_ h
   clear h
   obtain rfl : d = 6 - f := by omega
   have hnd := rNode_d G hG l hsm (6 - f) n (by omega) hn
   simp only [Y4 l] at hnd
   have hpl := hsm.parts
   rw [Zl0]
   have hlt64 := nodeR_lt (l := l) (d := 6 - f) (n := n)
   generalize Zl9 l (6 - f) n = e at *
   refine Y6 Tryz.func77 rfl (Z8 rfl) hG fun hl0 _ => ?_
   simp only [Tryz.ntmps77]
   by_cases he : e = 0
   rotate_left
   · rw [if_pos he]
     have F : _ ∧ _ := ⟨Y4 l, he⟩
     repeat' first
      | refine g0 ?_
      | (with_reducible refine Y7 ?_; refine gc rfl rfl rfl ent_134 (hnd _) ?_)
     exact ⟨.inr rfl, endD (r := .tup [.v _, .v _]) hl0 rfl (by simp) (by simp) rfl (by simp [low, lowL]) ⟨rfl, rfl⟩⟩
   rw [if_neg (fun q => q he)]
   have hn64 := hlt64 he
   subst he
   have wn : IntKind.i64.wrap ((n : Int) + 1) = ((n + 1 : Nat) : Int) := IntWalk.i64_in _ (by omega)
   have wd : IntKind.i64.wrap (6 - (f : Int) + 1) = 6 - (f : Int) + 1 := IntWalk.i64_in _ (by omega)
   have F : _ ∧ _ := ⟨Y4 l, wn⟩
   repeat' first
    | refine g0 ?_
    | (with_reducible refine Y7 ?_; refine gc rfl rfl rfl ent_134 (hnd _) ?_)
   refine Yh (fun m e h' => ∃ k c : Nat, k ≤ l.parts.length ∧ m = l.parts.length - k ∧ c ≤ 64 ∧ walkG (Zl0 f) l.parts (n + 1) = walkG (Zl0 f) (l.parts.drop k) c ∧ h' = [.cells (latX l)] ∧ e 1 = .v (.int .i64 (6 - f)) ∧ e 3 = .ptr 0 0 ∧ e 9 = .v (.int .i64 c) ∧ e 10 = .v (.int .i64 k)) l.parts.length ⟨0, n + 1, Zi _, rfl, by omega, rfl, (by rw [Y4]), rfl, rfl, rfl, rfl⟩ ?_
   clear hnd
   rintro m e h' ⟨k, c, hk, rfl, hc, ho, rfl, e1, e3, e9, e10⟩
   by_cases hlt : k < l.parts.length
   rotate_left
   · skip
     have F : _ ∧ _ ∧ _ ∧ _ ∧ _ := ⟨Y4 l, e1, e3, e9, e10⟩
     repeat' first
      | refine gg ?_
      | refine Two.mk (fun hq => ?_) fun hq => ?_
      | refine Evry.mk fun x hx => ?_
      | (exfalso; omega)
     exact ⟨.inr rfl, endD (r := .tup [.v _, .v _]) hl0 rfl (by simp) (by simp) rfl (by simp [low, lowL]) ⟨rfl, by rw [ho, Zb (by omega)]; rfl⟩⟩
   have hx : l.parts[k]? = some l.parts[k] := Z5 hlt
   have wk : IntKind.i64.wrap ((k : Int) + 1) = (k : Int) + 1 := IntWalk.i64_in _ (by omega)
   rw [List.drop_eq_getElem_cons hlt, walkG] at ho
   have hr := ih l.parts[k] c (6 - (f : Int) + 1) (by omega) (by omega) (hsm.part _ (Zc hlt)) hc
   have hle := walkF_le (f := f) (l := l.parts[k]) (by omega) hc
   generalize l.parts[k] = x at hx ho hr hle
   generalize Zl0 f x c = y at *
   obtain ⟨y1, y2⟩ := y
   simp only at ho hr hle
   by_cases hy : y2 = 0
   · rw [if_neg (fun q => q hy)] at ho
     have hle := hle hy
     have F : _ ∧ _ ∧ _ ∧ _ ∧ _ ∧ _ ∧ _ ∧ _ := ⟨Y4 l, e1, e3, e9, e10, wk, wd, hy⟩
     repeat' first
      | refine gg ?_
      | refine Two.mk (fun hq => ?_) fun hq => ?_
      | (with_reducible refine Y7 ?_; refine gc rfl rfl rfl ent_77 (hr _) ?_)
      | (exfalso; omega)
     exact ⟨rfl, l.parts.length - (k + 1), by omega, k + 1, y1, hlt, rfl, hle, ho, by rw [Y4 l], e1, e3, rfl, rfl⟩
   · rw [if_pos hy] at ho
     have F : _ ∧ _ ∧ _ ∧ _ ∧ _ ∧ _ ∧ _ ∧ _ := ⟨Y4 l, e1, e3, e9, e10, wk, wd, hy⟩
     repeat' first
      | refine gg ?_
      | refine Two.mk (fun hq => ?_) fun hq => ?_
      | (with_reducible refine Y7 ?_; refine gc rfl rfl rfl ent_77 (hr _) ?_)
      | (exfalso; omega)
     exact ⟨.inr rfl, endD (r := .tup [.v _, .v _]) hl0 rfl (by simp) (by simp) rfl (by simp [low, lowL]) ⟨rfl, by rw [ho]⟩⟩
theorem rCheck_d (l : Lat) (hsm : Sm l) (h : List Ob) : Does Zf G 38 h [.agg (latX l)] (fun h' r => h' = h ∧ r = .v (.int .i64 (chkE l))) := by
 refine Y9 G hG (Wu _ l) (by rw [low]; trivial) ?_ h
 clear h
 have hr := rWalk_d G hG 6 l 0 1 (by omega) (by omega) hsm (by omega)
 simp only [Y4 l] at hr
 rw [← walkF_chk]
 generalize Zl0 6 l 0 = y at *
 obtain ⟨y1, y2⟩ := y
 refine Y6 Tryz.func38 rfl (Z8 rfl) hG fun hl0 _ => ?_
 simp only [Tryz.ntmps38]
 have F := Y4 l
 repeat' first
  | refine g0 ?_
  | (with_reducible refine Y7 ?_; refine gc rfl rfl rfl ent_77 (hr _) ?_)
 exact ⟨.inr rfl, endV hl0 rfl rfl ⟨rfl, rfl⟩⟩
end
section
/-! Texts in the order of their bytes. -/
def ltS (a b : ByteArray) : Prop := a.data.toList < b.data.toList
instance : DecidableRel ltS := fun a b => inferInstanceAs (Decidable (a.data.toList < b.data.toList))
theorem Xq (a : ByteArray) : ¬ ltS a a := List.lt_irrefl _
theorem Jh {a b c : ByteArray} (h : ltS a b) (k : ltS b c) : ltS a c := List.lt_trans h k
theorem ba_ext {a b : ByteArray} (h : a.data.toList = b.data.toList) : a = b := ByteArray.ext (Array.ext' h)
theorem Yn3 (a b : ByteArray) : ltS a b ∨ a = b ∨ ltS b a := by
 by_cases h : ltS a b
 · exact .inl h
 by_cases k : a = b
 · exact .inr (.inl k)
 · have h1 : b.data.toList ≤ a.data.toList := List.not_lt.1 h
   rcases List.le_iff_lt_or_eq.1 h1 with h2 | h2
   · exact .inr (.inr h2)
   · exact absurd (ba_ext h2).symm k
theorem bl_ltS (a b : ByteArray) : Op.bytesLess a.toList b.toList = decide (ltS a b) := by rw [Zr5, Zr5, bl_eq]; rfl
def insS (c : ByteArray) : List ByteArray → List ByteArray
 | [] => [c]
 | y :: t => if ltS c y then c :: y :: t else if c = y then y :: t else y :: insS c t
def ofS (l : List ByteArray) : List ByteArray := l.foldr insS []
theorem Yo3 : ∀ (c : ByteArray) (l : List ByteArray) (d : ByteArray), d ∈ insS c l ↔ d = c ∨ d ∈ l
 | c, [], d => by simp [insS]
 | c, y :: t, d => by
  rw [insS]
  split
  · simp
  split
  · rename_i h; subst h; simp
  · rw [Z1, Yo3 c t d, Z1]
    constructor
    · rintro (h | h | h) <;> simp [h]
    · rintro (h | h | h) <;> simp [h]
theorem Yb9 : ∀ (c : ByteArray) (l : List ByteArray), l.Pairwise ltS → (insS c l).Pairwise ltS
 | c, [], _ => by simp [insS]
 | c, y :: t, h => by
  obtain ⟨h1, h2⟩ := Z0.1 h
  rw [insS]
  split
  · rename_i hlt
    refine Z0.2 ⟨fun d hd => ?_, h⟩
    rcases Z1.1 hd with rfl | hd
    · exact hlt
    · exact Jh hlt (h1 d hd)
  split
  · exact h
  · rename_i hlt hz
    have hy : ltS y c := (Yn3 c y).elim (fun a => absurd a hlt) (fun a => a.elim (fun a => absurd a hz) id)
    refine Z0.2 ⟨fun d hd => ?_, Yb9 c t h2⟩
    rcases (Yo3 c t d).1 hd with rfl | hd
    · exact hy
    · exact h1 d hd
theorem Yg7 : ∀ l : List ByteArray, (ofS l).Pairwise ltS
 | [] => .nil
 | c :: t => Yb9 c _ (Yg7 t)
theorem mem_ofS : ∀ {l : List ByteArray} {c : ByteArray}, c ∈ ofS l ↔ c ∈ l
 | [], _ => Iff.rfl
 | x :: t, c => by
  show c ∈ insS x (ofS t) ↔ _
  rw [Yo3, mem_ofS, Z1]
theorem insS_len (c : ByteArray) : ∀ s : List ByteArray, (insS c s).length ≤ s.length + 1
 | [] => by simp [insS]
 | y :: u => by
  rw [insS]
  split
  · simp
  split
  · simp
  · have := insS_len c u; simp only [Z6]; omega
theorem ofS_len : ∀ l : List ByteArray, (ofS l).length ≤ l.length
 | [] => Zj _
 | x :: t => by
  have h1 := insS_len x (ofS t)
  have h2 := ofS_len t
  show (insS x (ofS t)).length ≤ _
  simp only [Z6]; omega
theorem Uc : ∀ {a b : List ByteArray}, a.Pairwise ltS → b.Pairwise ltS → (∀ c, c ∈ a ↔ c ∈ b) → a = b
 | [], [], _, _, _ => rfl
 | [], y :: t, _, _, h => by simpa using (h y).2 (by simp)
 | x :: s, [], _, _, h => by simpa using (h x).1 (by simp)
 | x :: s, y :: t, ha, hb, h => by
  obtain ⟨a1, a2⟩ := Z0.1 ha
  obtain ⟨b1, b2⟩ := Z0.1 hb
  have hxy : x = y := by
   rcases Z1.1 ((h x).1 (by simp)) with e | hx
   · exact e
   rcases Z1.1 ((h y).2 (by simp)) with e | hy
   · exact e.symm
   exact absurd (Jh (a1 y hy) (b1 x hx)) (Xq x)
  subst hxy
  rw [Uc a2 b2 fun c => ⟨fun hc => ?_, fun hc => ?_⟩]
  · rcases Z1.1 ((h c).1 (by simp [hc])) with rfl | q
    · exact absurd (a1 c hc) (Xq c)
    · exact q
  · rcases Z1.1 ((h c).2 (by simp [hc])) with rfl | q
    · exact absurd (b1 c hc) (Xq c)
    · exact q
/-! Leaving out equal neighbours. -/
def cptS : ByteArray → List ByteArray → List ByteArray
 | _, [] => []
 | p, y :: t => if y = p then cptS y t else y :: cptS y t
def compactS : List ByteArray → List ByteArray
 | [] => []
 | x :: t => x :: cptS x t
def sX (s : ByteArray) : List D := [.v (.string s)]
end
section
theorem strLt_ltS (a b : ByteArray) : J2 a b = decide (ltS a b) := bl_ltS a b
theorem Zk1 : ∀ (p : ByteArray) (l : List ByteArray), Xj p l = true ↔ (p :: l).Pairwise ltS
 | p, [] => by simp [Xj]
 | p, x :: t => by
   rw [Xj, Z3, Zk1 x t, strLt_ltS, decide_eq_true_eq]
   constructor
   · rintro ⟨h, hp⟩
     refine Z0.2 ⟨fun y hy => ?_, hp⟩
     rcases Z1.1 hy with rfl | hy
     · exact h
     · exact Jh h ((Z0.1 hp).1 y hy)
   · intro h
     exact ⟨(Z0.1 h).1 x (by simp), (Z0.1 h).2⟩
theorem Zy6 : ∀ l : List ByteArray, Wa l = true ↔ l.Pairwise ltS
 | [] => by simp [Wa]
 | x :: t => Zk1 x t
theorem Yk {a b : List ByteArray} : Xm a b = true ↔ ∀ x ∈ a, x ∈ b := by
 unfold Xm
 rw [Z7]
 exact ⟨fun h x hx => (Xn _ _).1 (h x hx), fun h x hx => (Xn _ _).2 (h x hx)⟩
theorem Yv {only s : List ByteArray} : Yf only s = true ↔ s.Pairwise ltS ∧ ∀ x ∈ s, Wm x = true ∧ (only = [] ∨ x ∈ only) := by
 unfold Yf memB
 rw [Z3, Zy6, Z7]
 simp only [Z3, Zh, decide_eq_true_eq, Xn, List.length_eq_zero_iff]
theorem Zb3 {rs : List Rl} {s : List ByteArray} : V4 rs s = true ↔ ∀ r ∈ rs, (∀ x ∈ r.cond, x ∈ s) → r.concl ∈ s := by
 unfold V4
 rw [Z7]
 refine forall_congr' fun r => forall_congr' fun _ => ?_
 rw [Zh, Xn, Z2, ← Z4, Yk]
 exact ⟨fun h a => h.elim (fun h => absurd a h) id, fun h => Classical.byContradiction fun hn => hn (.inr (h (Classical.byContradiction fun h' => hn (.inl h'))))⟩
def Xo (a b : List ByteArray) : List ByteArray := ofS (a ++ b)
theorem W1 {a b : List ByteArray} {x : ByteArray} : x ∈ Xo a b ↔ x ∈ a ∨ x ∈ b := by unfold Xo; rw [mem_ofS, Z9]
theorem Ze4 (a b : List ByteArray) : (Xo a b).Pairwise ltS := Yg7 _
theorem Zd3 {only a b : List ByteArray} (ha : Yf only a = true) (hb : Yf only b = true) : Yf only (Xo a b) = true := by
 rw [Yv] at *
 exact ⟨Ze4 a b, fun x hx => (W1.1 hx).elim (ha.2 x) (hb.2 x)⟩
theorem Yf3 {only a : List ByteArray} (f : ByteArray → Bool) (ha : Yf only a = true) : Yf only (a.filter f) = true := by
 rw [Yv] at *
 exact ⟨ha.1.filter f, fun x hx => ha.2 x (Zd.1 hx).1⟩
def minS (a b : List ByteArray) : List ByteArray := a.filter fun s => !hasS b s
def interS (a b : List ByteArray) : List ByteArray := a.filter fun s => hasS b s
theorem Zp1 {a b : List ByteArray} {x : ByteArray} : x ∈ minS a b ↔ x ∈ a ∧ x ∉ b := by unfold minS; rw [Zd, Z2, ← Z4, Xn]
/-! Closure. -/
def fireS (rs : List Rl) (s : List ByteArray) : Option Rl := rs.find? fun r => Xm r.cond s && !hasS s r.concl
def Zh6 : Nat → List Rl → List ByteArray → List ByteArray
 | 0, _, s => s
 | f + 1, rs, s => match fireS rs s with
   | none => s
   | some r => Zh6 f rs (s ++ [r.concl])
def Ua (ns : List ByteArray) (rs : List Rl) (s : List ByteArray) : List ByteArray := ns.filter (hasS (Zh6 ns.length rs s))
theorem Yc4 {rs : List Rl} {s : List ByteArray} {r : Rl} (h : fireS rs s = some r) : r ∈ rs ∧ (∀ x ∈ r.cond, x ∈ s) ∧ r.concl ∉ s := by
 have h1 := List.find?_some h
 rw [Z3, Yk, Z2, ← Z4, Xn] at h1
 exact ⟨List.mem_of_find?_eq_some h, h1.1, h1.2⟩
theorem fire_none {rs : List Rl} {s : List ByteArray} : fireS rs s = none ↔ V4 rs s = true := by
 unfold fireS
 rw [List.find?_eq_none, Zb3]
 refine forall_congr' fun r => forall_congr' fun _ => ?_
 rw [Z3, Yk, Z2, ← Z4, Xn]
 exact ⟨fun h a => Classical.byContradiction fun hn => h ⟨a, hn⟩, fun h a => a.2 (h a.1)⟩
theorem chain_sub : ∀ (f : Nat) (rs : List Rl) (s : List ByteArray), ∀ x ∈ s, x ∈ Zh6 f rs s
 | 0, _, _, _, hx => hx
 | f + 1, rs, s, x, hx => by
  rw [Zh6]
  split
  · exact hx
  · exact chain_sub f rs _ x (Z9.2 (.inl hx))
theorem Ye0 : ∀ (f : Nat) (rs : List Rl) (s t : List ByteArray), V4 rs t = true → (∀ x ∈ s, x ∈ t) → ∀ x ∈ Zh6 f rs s, x ∈ t
 | 0, _, _, _, _, h, x, hx => h x hx
 | f + 1, rs, s, t, ht, h, x, hx => by
  rw [Zh6] at hx
  split at hx
  · exact h x hx
  · rename_i r hr
    obtain ⟨h1, h2, h3⟩ := Yc4 hr
    refine Ye0 f rs _ t ht (fun y hy => ?_) x hx
    rcases Z9.1 hy with hy | hy
    · exact h y hy
    · rw [List.mem_singleton.1 hy]
      exact Zb3.1 ht r h1 fun z hz => h z (h2 z hz)
theorem chain_in : ∀ (f : Nat) (rs : List Rl) (ns s : List ByteArray), (∀ r ∈ rs, r.concl ∈ ns) → (∀ x ∈ s, x ∈ ns) → ∀ x ∈ Zh6 f rs s, x ∈ ns
 | 0, _, _, _, _, h, x, hx => h x hx
 | f + 1, rs, ns, s, hr, h, x, hx => by
  rw [Zh6] at hx
  split at hx
  · exact h x hx
  · rename_i r hr'
    refine chain_in f rs ns _ hr (fun y hy => ?_) x hx
    rcases Z9.1 hy with hy | hy
    · exact h y hy
    · rw [List.mem_singleton.1 hy]
      exact hr r (Yc4 hr').1
theorem filter_lt {α : Type} {p q : α → Bool} : ∀ {l : List α}, (∀ x, p x = true → q x = true) → (∃ x ∈ l, q x = true ∧ p x = false) → (l.filter p).length < (l.filter q).length
 | [], _, h => by obtain ⟨x, hx, _⟩ := h; cases hx
 | y :: t, hpq, h => by
  have hle : (t.filter p).length ≤ (t.filter q).length := by
   clear h
   induction t with
   | nil => exact Zj _
   | cons z t ih =>
    rw [Ze, Ze]
    cases hp : p z
    · cases hq : q z
      · exact ih
      · simp only [Za, ↓reduceIte, Z6]; omega
    · rw [hpq z hp]
      simp only [↓reduceIte, Z6]; omega
  rw [Ze, Ze]
  obtain ⟨x, hx, h1, h2⟩ := h
  rcases Z1.1 hx with rfl | hx
  · rw [h1, h2]
    simp only [Za, ↓reduceIte, Z6]; omega
  · have ih := filter_lt hpq ⟨x, hx, h1, h2⟩
    cases hp : p y
    · cases hq : q y
      · exact ih
      · simp only [Za, ↓reduceIte, Z6]; omega
    · rw [hpq y hp]
      simp only [↓reduceIte, Z6]; omega
theorem Zv0 : ∀ (f : Nat) (rs : List Rl) (ns s : List ByteArray), (∀ r ∈ rs, r.concl ∈ ns) → (ns.filter fun x => !hasS s x).length ≤ f → V4 rs (Zh6 f rs s) = true
 | 0, rs, ns, s, hr, hf => by
  have h0 := List.filter_eq_nil_iff.1 (List.length_eq_zero_iff.1 (Nat.le_zero.1 hf))
  refine Zb3.2 fun r h _ => ?_
  have := h0 r.concl (hr r h)
  rw [Z2, Bool.not_eq_false, Xn] at this
  exact this
 | f + 1, rs, ns, s, hr, hf => by
  rw [Zh6]
  split
  · rename_i hn; exact fire_none.1 hn
  · rename_i r hr'
    obtain ⟨h1, h2, h3⟩ := Yc4 hr'
    refine Zv0 f rs ns _ hr ?_
    have := filter_lt (p := fun x => !hasS (s ++ [r.concl]) x) (q := fun x => !hasS s x) (l := ns) (fun x hx => by
      rw [Z2, ← Z4, Xn, Z9] at hx
      rw [Z2, ← Z4, Xn]
      exact fun h => hx (.inl h)) ⟨r.concl, hr r h1, by rw [Z2, ← Z4, Xn]; exact h3, by rw [Bool.not_eq_false', Xn]; simp⟩
    omega
section
variable {ns s : List ByteArray} {rs : List Rl} (hr : ∀ r ∈ rs, r.concl ∈ ns) (hs : ∀ x ∈ s, x ∈ ns)
include hr hs
theorem Zp2 {x : ByteArray} : x ∈ Ua ns rs s ↔ x ∈ Zh6 ns.length rs s := by
 unfold Ua
 rw [Zd, Xn]
 exact ⟨fun h => h.2, fun h => ⟨chain_in _ _ _ _ hr hs x h, h⟩⟩
theorem close_sub : ∀ x ∈ s, x ∈ Ua ns rs s := fun x hx => (Zp2 hr hs).2 (chain_sub _ _ _ x hx)
theorem close_closed : V4 rs (Ua ns rs s) = true := by
 have h := Zv0 ns.length rs ns s hr (List.length_filter_le _ _)
 rw [Zb3] at h ⊢
 intro r hr' hc
 exact (Zp2 hr hs).2 (h r hr' fun x hx => (Zp2 hr hs).1 (hc x hx))
theorem close_least {t : List ByteArray} (ht : V4 rs t = true) (h : ∀ x ∈ s, x ∈ t) : ∀ x ∈ Ua ns rs s, x ∈ t := fun x hx => Ye0 _ _ _ t ht h x ((Zp2 hr hs).1 hx)
end
theorem close_sorted {ns s : List ByteArray} {rs : List Rl} (h : ns.Pairwise ltS) : (Ua ns rs s).Pairwise ltS := h.filter _
theorem close_in {ns s : List ByteArray} {rs : List Rl} : ∀ x ∈ Ua ns rs s, x ∈ ns := fun _ hx => (Zd.1 hx).1
end
section
structure Jl {α : Type} (E : α → Prop) (le : α → α → Bool) (jn : α → α → α) (bot : α) : Prop where
 refl : ∀ a, E a → le a a = true
 trans : ∀ a b c, E a → E b → E c → le a b = true → le b c = true → le a c = true
 anti : ∀ a b, E a → E b → le a b = true → le b a = true → a = b
 mem : ∀ a b, E a → E b → E (jn a b)
 left : ∀ a b, E a → E b → le a (jn a b) = true
 right : ∀ a b, E a → E b → le b (jn a b) = true
 lub : ∀ a b c, E a → E b → E c → le a c = true → le b c = true → le (jn a b) c = true
 bmem : E bot
 bot : ∀ a, E a → le bot a = true
section
variable {α : Type} {E : α → Prop} {le : α → α → Bool} {jn : α → α → α} {bot : α}
theorem Jl.of_le (J : Jl E le jn bot) {a b : α} (ha : E a) (hb : E b) (h : le a b = true) : jn a b = b :=
 J.anti _ _ (J.mem a b ha hb) hb (J.lub a b b ha hb hb h (J.refl b hb)) (J.right a b ha hb)
theorem Jl.comm (J : Jl E le jn bot) {a b : α} (ha : E a) (hb : E b) : jn a b = jn b a :=
 J.anti _ _ (J.mem a b ha hb) (J.mem b a hb ha) (J.lub a b _ ha hb (J.mem b a hb ha) (J.right b a hb ha) (J.left b a hb ha)) (J.lub b a _ hb ha (J.mem a b ha hb) (J.right a b ha hb) (J.left a b ha hb))
theorem Jl.of_ge (J : Jl E le jn bot) {a b : α} (ha : E a) (hb : E b) (h : le b a = true) : jn a b = a := (J.comm ha hb).trans (J.of_le hb ha h)
theorem Jl.bot_left (J : Jl E le jn bot) {a : α} (ha : E a) : jn bot a = a := J.of_le J.bmem ha (J.bot a ha)
theorem Jl.is_bot (J : Jl E le jn bot) {a : α} (ha : E a) : le a bot = true ↔ a = bot :=
 ⟨fun h => J.anti _ _ ha J.bmem h (J.bot a ha), fun h => by rw [h]; exact J.refl _ J.bmem⟩
theorem Jl.join_bot (J : Jl E le jn bot) {a b : α} (ha : E a) (hb : E b) (h : jn a b = bot) : a = bot := (J.is_bot ha).1 (by rw [← h]; exact J.left a b ha hb)
theorem Jl.fold_mem (J : Jl E le jn bot) : ∀ (l : List α) (a : α), E a → (∀ x ∈ l, E x) → E (l.foldl jn a)
 | [], _, ha, _ => ha
 | x :: t, a, ha, h => J.fold_mem t _ (J.mem a x ha (h x (by simp))) fun y hy => h y (by simp [hy])
theorem jl_total (hr : ∀ a, E a → le a a = true) (ht : ∀ a b c, E a → E b → E c → le a b = true → le b c = true → le a c = true) (ha : ∀ a b, E a → E b → le a b = true → le b a = true → a = b)
  (tot : ∀ a b, E a → E b → le a b = true ∨ le b a = true) (hj : ∀ a b, E a → E b → jn a b = if le a b = true then b else a) (hbm : E bot) (hb : ∀ a, E a → le bot a = true) : Jl E le jn bot where
 refl := hr
 trans := ht
 anti := ha
 mem a b h1 h2 := by rw [hj a b h1 h2]; split <;> assumption
 left a b h1 h2 := by
  rw [hj a b h1 h2]; split
  · assumption
  · exact hr a h1
 right a b h1 h2 := by
  rw [hj a b h1 h2]; split
  · exact hr b h2
  · rename_i h; exact (tot a b h1 h2).resolve_left h
 lub a b c h1 h2 _ h3 h4 := by rw [hj a b h1 h2]; split <;> assumption
 bmem := hbm
 bot := hb
theorem Jl.map {β : Type} {F : β → Prop} {le' : β → β → Bool} {jn' : β → β → β} {bot' : β} (J : Jl F le' jn' bot') (π : α → β) (ι : β → α) (h1 : ∀ a, E a ↔ F (π a) ∧ ι (π a) = a) (h2 : ∀ x, F x → π (ι x) = x)
  (h3 : ∀ a b, E a → E b → le a b = le' (π a) (π b)) (h4 : ∀ a b, E a → E b → jn a b = ι (jn' (π a) (π b))) (h5 : bot = ι bot') : Jl E le jn bot := by
 have hF : ∀ {a}, E a → F (π a) := fun h => ((h1 _).1 h).1
 have hE : ∀ {x}, F x → E (ι x) := fun {x} h => (h1 _).2 ⟨by rw [h2 x h]; exact h, by rw [h2 x h]⟩
 have hb : E bot := by rw [h5]; exact hE J.bmem
 have hpb : π bot = bot' := by rw [h5]; exact h2 _ J.bmem
 have hm : ∀ a b, E a → E b → E (jn a b) := fun a b ha hb => by rw [h4 a b ha hb]; exact hE (J.mem _ _ (hF ha) (hF hb))
 have hpj : ∀ a b, E a → E b → π (jn a b) = jn' (π a) (π b) := fun a b ha hb => by rw [h4 a b ha hb]; exact h2 _ (J.mem _ _ (hF ha) (hF hb))
 exact {
  refl := fun a ha => by rw [h3 a a ha ha]; exact J.refl _ (hF ha)
  trans := fun a b c ha hb hc x y => by rw [h3 a b ha hb] at x; rw [h3 b c hb hc] at y; rw [h3 a c ha hc]; exact J.trans _ _ _ (hF ha) (hF hb) (hF hc) x y
  anti := fun a b ha hb x y => by
   rw [h3 a b ha hb] at x; rw [h3 b a hb ha] at y
   have := J.anti _ _ (hF ha) (hF hb) x y
   rw [← ((h1 a).1 ha).2, ← ((h1 b).1 hb).2, this]
  mem := hm
  left := fun a b ha hb => by rw [h3 a _ ha (hm a b ha hb), hpj a b ha hb]; exact J.left _ _ (hF ha) (hF hb)
  right := fun a b ha hb => by rw [h3 b _ hb (hm a b ha hb), hpj a b ha hb]; exact J.right _ _ (hF ha) (hF hb)
  lub := fun a b c ha hb hc x y => by rw [h3 a c ha hc] at x; rw [h3 b c hb hc] at y; rw [h3 _ c (hm a b ha hb) hc, hpj a b ha hb]; exact J.lub _ _ _ (hF ha) (hF hb) (hF hc) x y
  bmem := hb
  bot := fun a ha => by rw [h3 _ a hb ha, hpb]; exact J.bot _ (hF ha) }
end
instance : DecidableEq Val := fun a b => decidable_of_iff (valC a b = 0) (Xd a b)
/-! Maps. -/
def getL : List ByteArray → List Val → ByteArray → Option Val
 | n :: ns, p :: ps, s => if n = s then some p else getL ns ps s
 | [], _, _ => none
 | _ :: _, [], _ => none
def getM (v : Val) (s : ByteArray) : Option Val := getL v.names v.parts s
theorem Zw8 : ∀ {ns : List ByteArray} {ps : List Val} {s : ByteArray} {v : Val}, getL ns ps s = some v → (s, v) ∈ ns.zip ps
 | n :: ns, p :: ps, s, v, h => by
  rw [getL] at h
  split at h
  · rename_i e; cases h; subst e; simp
  · simp [Zw8 h]
 | [], _, _, _, h => by simp [getL] at h
 | _ :: _, [], _, _, h => by simp [getL] at h
theorem Zc5 : ∀ {ns : List ByteArray} {ps : List Val} {s : ByteArray} {v : Val}, ns.Pairwise ltS → (s, v) ∈ ns.zip ps → getL ns ps s = some v
 | n :: ns, p :: ps, s, v, hs, h => by
  rw [List.zip_cons_cons, Z1] at h
  rw [getL]
  obtain ⟨h1, h2⟩ := Z0.1 hs
  rcases h with h | h
  · cases h; rw [if_pos rfl]
  · rw [if_neg (fun e => by subst e; exact Xq _ (h1 _ (List.of_mem_zip h).1))]
    exact Zc5 h2 h
 | [], _, _, _, _, h => by simp at h
 | _ :: _, [], _, _, _, h => by simp at h
theorem Jm : ∀ {ns : List ByteArray} {ps : List Val} {s : ByteArray}, ns.length = ps.length → (getL ns ps s = none ↔ s ∉ ns)
 | n :: ns, p :: ps, s, h => by
  rw [getL]
  split
  · rename_i e; subst e; simp
  · rename_i e
    rw [Jm (by simpa using h), Z1]
    exact ⟨fun h1 h2 => h2.elim (fun h => e h.symm) h1, fun h1 h2 => h1 (.inr h2)⟩
 | [], _, _, _ => by simp [getL]
 | _ :: _, [], _, h => by simp at h
theorem Zb2 {ns : List ByteArray} {ps : List Val} {s : ByteArray} (h : ns.length = ps.length) : (∃ v, getL ns ps s = some v) ↔ s ∈ ns := by
 have := Jm (s := s) h
 cases hg : getL ns ps s with
 | none => exact ⟨fun ⟨_, h⟩ => (by cases h), fun h => absurd h (this.1 hg)⟩
 | some v => exact ⟨fun _ => Classical.byContradiction fun hn => (by have := this.2 hn; rw [hg] at this; cases this), fun _ => ⟨v, rfl⟩⟩
theorem getL_map (f : ByteArray → Val) : ∀ (ns : List ByteArray) (s : ByteArray), getL ns (ns.map f) s = if hasS ns s = true then some (f s) else none
 | [], s => rfl
 | n :: t, s => by
  rw [List.map_cons, getL, getL_map f t s]
  rw [hasS]
  by_cases h : n = s
  · rw [if_pos h, decide_eq_true h, h]; rfl
  · rw [if_neg h, decide_eq_false h, Bool.false_or]
theorem getL_ext : ∀ {ns ns' : List ByteArray} {ps ps' : List Val}, ns.Pairwise ltS → ns'.Pairwise ltS → ns.length = ps.length → ns'.length = ps'.length → (∀ s, getL ns ps s = getL ns' ps' s) → ns = ns' ∧ ps = ps' := by
 intro ns ns' ps ps' h1 h2 h3 h4 h
 have hn : ns = ns' := Uc h1 h2 fun c => by rw [← Zb2 h3, ← Zb2 h4]; simp only [h]
 subst hn
 refine ⟨rfl, ?_⟩
 refine List.ext_getElem (by omega) fun i hi hi' => ?_
 have e1 : getL ns ps (ns[i]'(by omega)) = some ps[i] := Zc5 h1 (by rw [List.mem_iff_getElem]; exact ⟨i, by rw [List.length_zip]; omega, by rw [List.getElem_zip]⟩)
 have e2 : getL ns ps' (ns[i]'(by omega)) = some ps'[i] := Zc5 h1 (by rw [List.mem_iff_getElem]; exact ⟨i, by rw [List.length_zip]; omega, by rw [List.getElem_zip]⟩)
 rw [h, e2] at e1
 exact (Option.some.inj e1).symm
def MapE (only : List ByteArray) (E : Val → Prop) (bot : Val) (v : Val) : Prop := (v.n = 0 ∧ v.entries = []) ∧ v.names.length = v.parts.length ∧ Yf only v.names = true ∧ ∀ p ∈ v.parts, E p ∧ p ≠ bot
def Zm6 (le : Val → Val → Bool) (a b : Val) : Bool := (a.names.zip a.parts).all fun x => match getM b x.1 with
 | some w => le x.2 w
 | none => false
def cmbM (jn : Val → Val → Val) : Option Val → Option Val → Option Val
 | some v, some w => some (jn v w)
 | some v, none => some v
 | none, o => o
def J4 (jn : Val → Val → Val) (a b : Val) : Val := .mk 0 (Xo a.names b.names) ((Xo a.names b.names).map fun s => (cmbM jn (getM a s) (getM b s)).getD Ub) []
theorem Xr {le : Val → Val → Bool} {a b : Val} (h : a.names.Pairwise ltS) : Zm6 le a b = true ↔ ∀ s v, getM a s = some v → ∃ w, getM b s = some w ∧ le v w = true := by
 unfold Zm6
 rw [Z7]
 constructor
 · intro h1 s v hv
   have := h1 _ (Zw8 hv)
   revert this
   cases getM b s with
   | none => intro h; cases h
   | some w => intro h; exact ⟨w, rfl, h⟩
 · rintro h1 ⟨s, v⟩ hx
   obtain ⟨w, hw, hl⟩ := h1 s v (Zc5 h hx)
   rw [hw]; exact hl
theorem MapE.get {only : List ByteArray} {E : Val → Prop} {bot v : Val} (h : MapE only E bot v) {s : ByteArray} {w : Val} (hw : getM v s = some w) : E w ∧ w ≠ bot := h.2.2.2 w (List.of_mem_zip (Zw8 hw)).2
theorem MapE.sorted {only : List ByteArray} {E : Val → Prop} {bot v : Val} (h : MapE only E bot v) : v.names.Pairwise ltS := (Yv.1 h.2.2.1).1
theorem MapE.ext {only : List ByteArray} {E : Val → Prop} {bot v w : Val} (h : MapE only E bot v) (h' : MapE only E bot w) (he : ∀ s, getM v s = getM w s) : v = w := by
 obtain ⟨h1, h2⟩ := getL_ext h.sorted h'.sorted h.2.1 h'.2.1 he
 obtain ⟨n, ns, ps, es⟩ := v
 obtain ⟨n', ns', ps', es'⟩ := w
 have e1 : n = 0 := h.1.1
 have e2 : n' = 0 := h'.1.1
 have e3 : es = [] := h.1.2
 have e4 : es' = [] := h'.1.2
 have e5 : ns = ns' := h1
 have e6 : ps = ps' := h2
 rw [e1, e2, e3, e4, e5, e6]
theorem Zg7 {only : List ByteArray} {E : Val → Prop} {bot a b : Val} (jn : Val → Val → Val) (ha : MapE only E bot a) (hb : MapE only E bot b) (s : ByteArray) : getM (J4 jn a b) s = cmbM jn (getM a s) (getM b s) := by
 have e : getM (J4 jn a b) s = getL (Xo a.names b.names) ((Xo a.names b.names).map fun s => (cmbM jn (getM a s) (getM b s)).getD Ub) s := rfl
 rw [e, getL_map]
 have h1 := Zb2 (s := s) ha.2.1
 have h2 := Zb2 (s := s) hb.2.1
 by_cases h : s ∈ Xo a.names b.names
 · rw [if_pos ((Xn _ _).2 h)]
   cases hga : getM a s with
   | some v => cases hgb : getM b s <;> rfl
   | none =>
    cases hgb : getM b s with
    | some w => rfl
    | none =>
     rcases W1.1 h with h | h
     · obtain ⟨v, hv⟩ := h1.2 h; rw [show getM a s = some v from hv] at hga; cases hga
     · obtain ⟨v, hv⟩ := h2.2 h; rw [show getM b s = some v from hv] at hgb; cases hgb
 · rw [if_neg (fun q => h ((Xn _ _).1 q))]
   have n1 : getM a s = none := (Jm ha.2.1).2 fun q => h (W1.2 (.inl q))
   have n2 : getM b s = none := (Jm hb.2.1).2 fun q => h (W1.2 (.inr q))
   rw [n1, n2]; rfl
theorem jl_maps {only : List ByteArray} {E : Val → Prop} {le : Val → Val → Bool} {jn : Val → Val → Val} {bot : Val} (J : Jl E le jn bot) : Jl (MapE only E bot) (Zm6 le) (J4 jn) Ub := by
 have hmem : ∀ a b, MapE only E bot a → MapE only E bot b → MapE only E bot (J4 jn a b) := fun a b ha hb => by
  refine ⟨⟨rfl, rfl⟩, ?_, Zd3 ha.2.2.1 hb.2.2.1, fun p hp => ?_⟩
  · show (Xo a.names b.names).length = (List.map _ _).length
    rw [Zg]
  · obtain ⟨s, hs, rfl⟩ := List.mem_map.1 hp
    cases hga : getM a s with
    | some v =>
     obtain ⟨v1, v2⟩ := ha.get hga
     cases hgb : getM b s with
     | some w =>
      obtain ⟨w1, w2⟩ := hb.get hgb
      exact ⟨J.mem v w v1 w1, fun h => v2 (J.join_bot v1 w1 h)⟩
     | none => exact ⟨v1, v2⟩
    | none =>
     cases hgb : getM b s with
     | some w => exact hb.get hgb
     | none =>
      exfalso
      rcases W1.1 hs with h | h
      · obtain ⟨v, hv⟩ := (Zb2 ha.2.1).2 h; rw [show getM a s = some v from hv] at hga; cases hga
      · obtain ⟨v, hv⟩ := (Zb2 hb.2.1).2 h; rw [show getM b s = some v from hv] at hgb; cases hgb
 exact {
  refl := fun a ha => (Xr ha.sorted).2 fun s v hv => ⟨v, hv, J.refl v (ha.get hv).1⟩
  trans := fun a b c ha hb hc x y => (Xr ha.sorted).2 fun s v hv => by
   obtain ⟨w, hw, h1⟩ := (Xr ha.sorted).1 x s v hv
   obtain ⟨u, hu, h2⟩ := (Xr hb.sorted).1 y s w hw
   exact ⟨u, hu, J.trans _ _ _ (ha.get hv).1 (hb.get hw).1 (hc.get hu).1 h1 h2⟩
  anti := fun a b ha hb x y => ha.ext hb fun s => by
   rw [Xr ha.sorted] at x
   rw [Xr hb.sorted] at y
   cases hv : getM a s with
   | some v =>
    obtain ⟨w, hw, h1⟩ := x s v hv
    obtain ⟨u, hu, h2⟩ := y s w hw
    rw [hv] at hu; cases hu
    rw [hw, J.anti v w (ha.get hv).1 (hb.get hw).1 h1 h2]
   | none =>
    cases hw : getM b s with
    | none => rfl
    | some w =>
     obtain ⟨u, hu, _⟩ := y s w hw
     rw [hv] at hu; cases hu
  mem := hmem
  left := fun a b ha hb => (Xr ha.sorted).2 fun s v hv => by
   rw [Zg7 jn ha hb, hv]
   cases hw : getM b s with
   | none => exact ⟨v, rfl, J.refl v (ha.get hv).1⟩
   | some w => exact ⟨_, rfl, J.left v w (ha.get hv).1 (hb.get hw).1⟩
  right := fun a b ha hb => (Xr hb.sorted).2 fun s w hw => by
   rw [Zg7 jn ha hb, hw]
   cases hv : getM a s with
   | none => exact ⟨w, rfl, J.refl w (hb.get hw).1⟩
   | some v => exact ⟨_, rfl, J.right v w (ha.get hv).1 (hb.get hw).1⟩
  lub := fun a b c ha hb hc x y => (Xr (show (J4 jn a b).names.Pairwise ltS from Ze4 _ _)).2 fun s u hu => by
   rw [Zg7 jn ha hb] at hu
   rw [Xr ha.sorted] at x
   rw [Xr hb.sorted] at y
   cases hv : getM a s with
   | none =>
    rw [hv] at hu
    exact y s u hu
   | some v =>
    rw [hv] at hu
    cases hw : getM b s with
    | none => rw [hw] at hu; rw [← show v = u from Option.some.inj hu]; exact x s v hv
    | some w =>
     rw [hw] at hu; cases hu
     obtain ⟨p, hp, h1⟩ := x s v hv
     obtain ⟨q, hq, h2⟩ := y s w hw
     rw [hp] at hq; cases hq
     exact ⟨p, hp, J.lub v w p (ha.get hv).1 (hb.get hw).1 (hc.get hp).1 h1 h2⟩
  bmem := ⟨⟨rfl, rfl⟩, rfl, rfl, fun p hp => by cases hp⟩
  bot := fun a ha => rfl }
/-! Pairs with the first part first. -/
theorem jl_lex {E F : Val → Prop} {le le' : Val → Val → Bool} {jn jn' : Val → Val → Val} {b0 b1 : Val} (J : Jl E le jn b0) (J' : Jl F le' jn' b1) (tot : ∀ a b, E a → E b → le a b = true ∨ le b a = true)
  {lx : Val × Val → Val × Val → Bool} (hlx : ∀ x y, E x.1 → E y.1 → lx x y = if x.1 = y.1 then le' x.2 y.2 else le x.1 y.1) {jx : Val × Val → Val × Val → Val × Val} (hjx : ∀ x y, E x.1 → E y.1 → jx x y = if x.1 = y.1 then (x.1, jn' x.2 y.2) else if lx x y = true then y else x) :
  Jl (fun x : Val × Val => E x.1 ∧ F x.2) lx jx (b0, b1) := by
 have hmem : ∀ x y : Val × Val, E x.1 ∧ F x.2 → E y.1 ∧ F y.2 → E (jx x y).1 ∧ F (jx x y).2 := fun x y hx hy => by
  rw [hjx x y hx.1 hy.1]
  split
  · exact ⟨hx.1, J'.mem _ _ hx.2 hy.2⟩
  · split
    · exact hy
    · exact hx
 have hrefl : ∀ x : Val × Val, E x.1 ∧ F x.2 → lx x x = true := fun x hx => by rw [hlx x x hx.1 hx.1, if_pos rfl]; exact J'.refl _ hx.2
 exact {
  refl := hrefl
  trans := fun x y z hx hy hz h1 h2 => by
   rw [hlx x y hx.1 hy.1] at h1
   rw [hlx y z hy.1 hz.1] at h2
   rw [hlx x z hx.1 hz.1]
   by_cases e1 : x.1 = y.1
   · rw [if_pos e1] at h1
     by_cases e2 : y.1 = z.1
     · rw [if_pos e2] at h2
       rw [if_pos (e1.trans e2)]
       exact J'.trans _ _ _ hx.2 hy.2 hz.2 h1 h2
     · rw [if_neg e2] at h2
       rw [if_neg (by rw [e1]; exact e2), e1]
       exact h2
   · rw [if_neg e1] at h1
     by_cases e2 : y.1 = z.1
     · rw [if_neg (by rw [← e2]; exact e1), ← e2]
       exact h1
     · rw [if_neg e2] at h2
       rw [if_neg (fun e => e1 (J.anti _ _ hx.1 hy.1 h1 (by rw [e]; exact h2)))]
       exact J.trans _ _ _ hx.1 hy.1 hz.1 h1 h2
  anti := fun x y hx hy h1 h2 => by
   rw [hlx x y hx.1 hy.1] at h1
   rw [hlx y x hy.1 hx.1] at h2
   by_cases e1 : x.1 = y.1
   · rw [if_pos e1] at h1
     rw [if_pos e1.symm] at h2
     exact Prod.ext e1 (J'.anti _ _ hx.2 hy.2 h1 h2)
   · rw [if_neg e1] at h1
     rw [if_neg (fun e => e1 e.symm)] at h2
     exact absurd (J.anti _ _ hx.1 hy.1 h1 h2) e1
  mem := hmem
  left := fun x y hx hy => by
   rw [hlx x _ hx.1 (hmem x y hx hy).1, hjx x y hx.1 hy.1]
   by_cases e1 : x.1 = y.1
   · rw [if_pos e1, if_pos rfl]; exact J'.left _ _ hx.2 hy.2
   · rw [if_neg e1]
     by_cases h : lx x y = true
     · rw [if_pos h, ← hlx x y hx.1 hy.1]; exact h
     · rw [if_neg h, if_pos rfl]; exact J'.refl _ hx.2
  right := fun x y hx hy => by
   rw [hlx y _ hy.1 (hmem x y hx hy).1, hjx x y hx.1 hy.1]
   by_cases e1 : x.1 = y.1
   · rw [if_pos e1, if_pos e1.symm]; exact J'.right _ _ hx.2 hy.2
   · rw [if_neg e1]
     by_cases h : lx x y = true
     · rw [if_pos h, if_pos rfl]; exact J'.refl _ hy.2
     · rw [if_neg h, if_neg (fun e => e1 e.symm)]
       rw [hlx x y hx.1 hy.1, if_neg e1] at h
       exact (tot _ _ hx.1 hy.1).resolve_left h
  lub := fun x y z hx hy hz h1 h2 => by
   rw [hjx x y hx.1 hy.1]
   by_cases e1 : x.1 = y.1
   · rw [if_pos e1]
     rw [hlx x z hx.1 hz.1] at h1
     rw [hlx y z hy.1 hz.1] at h2
     rw [hlx (x.1, jn' x.2 y.2) z hx.1 hz.1]
     by_cases e2 : x.1 = z.1
     · rw [if_pos e2] at h1 ⊢
       rw [if_pos (e1.symm.trans e2)] at h2
       exact J'.lub _ _ _ hx.2 hy.2 hz.2 h1 h2
     · rw [if_neg e2] at h1 ⊢
       exact h1
   · rw [if_neg e1]; split <;> assumption
  bmem := ⟨J.bmem, J'.bmem⟩
  bot := fun x hx => by
   rw [hlx _ x J.bmem hx.1]
   split
   · exact J'.bot _ hx.2
   · exact J.bot _ hx.1 }
end
section
theorem Yn5 {a b : List Tk} : leqT a b = true ↔ ∀ p : Nat, p < 64 → Zj8 a p ≤ Zj8 b p := by
 unfold leqT
 rw [Z7]
 exact ⟨fun h p hp => of_decide_eq_true (h p (List.mem_range.2 hp)), fun h p hp => decide_eq_true (h p (List.mem_range.1 hp))⟩
theorem Yh3 {a b c : List Tk} (h : leqT a b = true) (k : leqT b c = true) : leqT a c = true := by
 rw [Yn5] at *
 exact fun p hp => Int.le_trans (h p hp) (k p hp)
theorem below_iff {a b : List Tk} : V6 a b = true ↔ X2 a = true ∧ X2 b = true ∧ leqT a b = true ∧ leqT b a = false := by
 unfold V6
 simp only [Z3, Z2]
theorem Zn2 {a b c : List Tk} (h : V6 a b = true) (k : V6 b c = true) : V6 a c = true := by
 rw [below_iff] at *
 refine ⟨h.1, k.2.1, Yh3 h.2.2.1 k.2.2.1, ?_⟩
 cases hca : leqT c a
 · rfl
 · have := Yh3 hca h.2.2.1
   rw [k.2.2.2] at this; cases this
def belE (p q : En) : Bool := V6 p.clock q.clock
def undE (p q : En) : Bool := decide (entC p q = 0) || belE p q
theorem J1 {p q : En} : undE p q = true ↔ p = q ∨ belE p q = true := by unfold undE; rw [Zh, decide_eq_true_eq, Vn]
theorem Yf5 {p q r : En} (h : undE p q = true) (k : undE q r = true) : undE p r = true := by
 rw [J1] at *
 rcases h with rfl | h
 · exact k
 · rcases k with rfl | k
   · exact .inr h
   · exact .inr (Zn2 h k)
def leqE (a b : List En) : Bool := a.all fun p => b.any fun q => undE p q
theorem Wp {a b : List En} : leqE a b = true ↔ ∀ p ∈ a, ∃ q ∈ b, undE p q = true := by
 unfold leqE
 rw [Z7]
 exact forall_congr' fun p => forall_congr' fun _ => List.any_eq_true
/-! Sorted lists of entries. -/
def ltE (x y : En) : Prop := entC x y < 0
instance : DecidableRel ltE := fun x y => inferInstanceAs (Decidable (entC x y < 0))
theorem Ya6 {x y z : En} (h : ltE x y) (k : ltE y z) : ltE x z := by
 have := entC_tri x y z
 unfold Tri at this
 unfold ltE at *
 omega
theorem Zs9 (x : En) : ¬ ltE x x := by unfold ltE; rw [(Vn x x).2 rfl]; omega
theorem ltE_tri (x y : En) : ltE x y ∨ x = y ∨ ltE y x := by
 unfold ltE
 rw [Yd4 x y, ← Vn x y]
 omega
def insE (c : En) : List En → List En
 | [] => [c]
 | y :: t => if entC c y < 0 then c :: y :: t else if entC c y = 0 then y :: t else y :: insE c t
def ofE (l : List En) : List En := l.foldr insE []
theorem Yn2 : ∀ {c : En} {l : List En} {d : En}, d ∈ insE c l ↔ d = c ∨ d ∈ l
 | c, [], d => by simp [insE]
 | c, y :: t, d => by
  rw [insE]
  split
  · simp
  split
  · rename_i h; rw [Vn] at h; subst h; simp
  · rw [Z1, Yn2, Z1]
    constructor
    · rintro (h | h | h) <;> simp [h]
    · rintro (h | h | h) <;> simp [h]
theorem Yc0 : ∀ (c : En) (l : List En), l.Pairwise ltE → (insE c l).Pairwise ltE
 | c, [], _ => by simp [insE]
 | c, y :: t, h => by
  obtain ⟨h1, h2⟩ := Z0.1 h
  rw [insE]
  split
  · rename_i hlt
    refine Z0.2 ⟨fun d hd => ?_, h⟩
    rcases Z1.1 hd with rfl | hd
    · exact hlt
    · exact Ya6 hlt (h1 d hd)
  split
  · exact h
  · rename_i hlt hz
    have hy : ltE y c := (ltE_tri c y).elim (fun a => absurd a hlt) (fun a => a.elim (fun a => absurd ((Vn c y).2 a) hz) id)
    refine Z0.2 ⟨fun d hd => ?_, Yc0 c t h2⟩
    rcases Yn2.1 hd with rfl | hd
    · exact hy
    · exact h1 d hd
theorem Zs8 : ∀ l : List En, (ofE l).Pairwise ltE
 | [] => .nil
 | c :: t => Yc0 c _ (Zs8 t)
theorem mem_ofE : ∀ {l : List En} {c : En}, c ∈ ofE l ↔ c ∈ l
 | [], _ => Iff.rfl
 | x :: t, c => by
  show c ∈ insE x (ofE t) ↔ _
  rw [Yn2, mem_ofE, Z1]
theorem Zl2 : ∀ {a b : List En}, a.Pairwise ltE → b.Pairwise ltE → (∀ c, c ∈ a ↔ c ∈ b) → a = b
 | [], [], _, _, _ => rfl
 | [], y :: t, _, _, h => by simpa using (h y).2 (by simp)
 | x :: s, [], _, _, h => by simpa using (h x).1 (by simp)
 | x :: s, y :: t, ha, hb, h => by
  obtain ⟨a1, a2⟩ := Z0.1 ha
  obtain ⟨b1, b2⟩ := Z0.1 hb
  have hxy : x = y := by
   rcases Z1.1 ((h x).1 (by simp)) with e | hx
   · exact e
   rcases Z1.1 ((h y).2 (by simp)) with e | hy
   · exact e.symm
   exact absurd (Ya6 (a1 y hy) (b1 x hx)) (Zs9 x)
  subst hxy
  rw [Zl2 a2 b2 fun c => ⟨fun hc => ?_, fun hc => ?_⟩]
  · rcases Z1.1 ((h c).1 (by simp [hc])) with rfl | q
    · exact absurd (a1 c hc) (Zs9 c)
    · exact q
  · rcases Z1.1 ((h c).2 (by simp [hc])) with rfl | q
    · exact absurd (b1 c hc) (Zs9 c)
    · exact q
def okE (e : En) : Prop := e.clock.length ≠ 0 ∧ X2 e.clock = true ∧ Wm e.name = true
theorem Zm0 : ∀ {l : List En}, l.Pairwise ltE ↔ ∀ i (h : i + 1 < l.length), ltE (l[i]'(by omega)) l[i + 1]
 | [] => by simp
 | [x] => by simp
 | x :: y :: t => by
  rw [Z0, Zm0 (l := y :: t)]
  constructor
  · rintro ⟨h1, h2⟩ i hi
    cases i with
    | zero => exact h1 y (by simp)
    | succ i => exact h2 i (by simpa using hi)
  · intro h
    have h2 : ∀ i (h : i + 1 < (y :: t).length), ltE ((y :: t)[i]'(by omega)) (y :: t)[i + 1] := fun i hi => h (i + 1) (by simpa using hi)
    refine ⟨fun z hz => ?_, h2⟩
    have h3 := (Zm0 (l := y :: t)).2 h2
    have h0 : ltE x y := h 0 (by simp)
    rcases Z1.1 hz with rfl | hz
    · exact h0
    · exact Ya6 h0 ((Z0.1 h3).1 z hz)
theorem Wo {l : List En} : regB l = true ↔ (∀ e ∈ l, okE e) ∧ l.Pairwise ltE ∧ ∀ e ∈ l, ∀ f ∈ l, belE e f = false := by
 rw [← rents_reg]
 unfold rentsB
 rw [Zs1, Zm0]
 simp only [Nat.zero_add]
 have key : ∀ i (h : i < l.length), Za1 l i l[i] = true ↔ okE l[i] ∧ (∀ j (hj : i = j + 1), ltE (l[j]'(by omega)) l[i]) ∧ ∀ f ∈ l, belE l[i] f = false := fun i hi => by
  unfold Za1 okE
  rw [Z3, Z3, Z3, Z3, decide_eq_true_eq, Z7]
  have e1 : (∀ f ∈ l, (!V6 l[i].clock f.clock) = true) ↔ ∀ f ∈ l, belE l[i] f = false := forall_congr' fun f => forall_congr' fun _ => by rw [Z2]; rfl
  rw [e1]
  cases i with
  | zero => simp
  | succ j =>
   simp only [Z5 (show j < l.length by omega)]
   constructor
   · rintro ⟨a, b, c⟩
     exact ⟨a, fun k hk => by cases hk; exact of_decide_eq_true b, c⟩
   · rintro ⟨a, b, c⟩
     exact ⟨a, decide_eq_true (b j rfl), c⟩
 constructor
 · intro h
   refine ⟨fun e he => ?_, fun i hi => ((key (i + 1) hi).1 (h (i + 1) hi)).2.1 i rfl, fun e he => ?_⟩
   · obtain ⟨i, hi, rfl⟩ := List.getElem_of_mem he
     exact ((key i hi).1 (h i hi)).1
   · obtain ⟨i, hi, rfl⟩ := List.getElem_of_mem he
     exact ((key i hi).1 (h i hi)).2.2
 · rintro ⟨h1, h2, h3⟩ i hi
   exact (key i hi).2 ⟨h1 _ (Zc hi), fun j hj => by subst hj; exact h2 j hi, h3 _ (Zc hi)⟩
def Uw (a b : List En) : List En := ofE ((a ++ b).filter fun p => !(a ++ b).any fun q => belE p q)
theorem U5 {a b : List En} {e : En} : e ∈ Uw a b ↔ (e ∈ a ∨ e ∈ b) ∧ ∀ f, f ∈ a ∨ f ∈ b → belE e f = false := by
 unfold Uw
 rw [mem_ofE, Zd, Z9, Z2, List.any_eq_false]
 refine and_congr Iff.rfl (forall_congr' fun f => ?_)
 rw [Z9, Z4]
theorem Zw6 {a b : List En} (ha : regB a = true) (hb : regB b = true) {p : En} (hp : p ∈ a ∨ p ∈ b) : ∃ q ∈ Uw a b, undE p q = true := by
 have a3 := (Wo.1 ha).2.2
 have b3 := (Wo.1 hb).2.2
 by_cases h : ∀ f, f ∈ a ∨ f ∈ b → belE p f = false
 · exact ⟨p, U5.2 ⟨hp, h⟩, J1.2 (.inl rfl)⟩
 · simp only [Classical.not_forall, Bool.not_eq_false] at h
   obtain ⟨f, hf, hpf⟩ := h
   refine ⟨f, U5.2 ⟨hf, fun g hg => ?_⟩, J1.2 (.inr hpf)⟩
   cases hfg : belE f g
   · rfl
   · exfalso
     have hpg : belE p g = true := Zn2 hpf hfg
     rcases hp with hp | hp
     · rcases hf with hf | hf
       · rw [a3 p hp f hf] at hpf; cases hpf
       · rcases hg with hg | hg
         · rw [a3 p hp g hg] at hpg; cases hpg
         · rw [b3 f hf g hg] at hfg; cases hfg
     · rcases hf with hf | hf
       · rcases hg with hg | hg
         · rw [a3 f hf g hg] at hfg; cases hfg
         · rw [b3 p hp g hg] at hpg; cases hpg
       · rw [b3 p hp f hf] at hpf; cases hpf
theorem jl_reg : Jl (fun l => regB l = true) leqE Uw [] where
 refl a _ := Wp.2 fun p hp => ⟨p, hp, J1.2 (.inl rfl)⟩
 trans a b c _ _ _ x y := Wp.2 fun p hp => by
  obtain ⟨q, hq, h1⟩ := Wp.1 x p hp
  obtain ⟨r, hr, h2⟩ := Wp.1 y q hq
  exact ⟨r, hr, Yf5 h1 h2⟩
 anti a b ha hb x y := by
  have key : ∀ a b : List En, regB a = true → leqE a b = true → leqE b a = true → ∀ p ∈ a, p ∈ b := fun a b ha x y p hp => by
   obtain ⟨q, hq, h1⟩ := Wp.1 x p hp
   rcases J1.1 h1 with rfl | h1
   · exact hq
   · obtain ⟨r, hr, h2⟩ := Wp.1 y q hq
     have h3 : belE p r = true := by
      rcases J1.1 h2 with rfl | h2
      · exact h1
      · exact Zn2 h1 h2
     rw [(Wo.1 ha).2.2 p hp r hr] at h3; cases h3
  exact Zl2 (Wo.1 ha).2.1 (Wo.1 hb).2.1 fun c => ⟨key a b ha x y c, key b a hb y x c⟩
 mem a b ha hb := Wo.2 ⟨fun e he => (U5.1 he).1.elim ((Wo.1 ha).1 e) ((Wo.1 hb).1 e), Zs8 _, fun e he f hf => (U5.1 he).2 f (U5.1 hf).1⟩
 left a b ha hb := Wp.2 fun p hp => Zw6 ha hb (.inl hp)
 right a b ha hb := Wp.2 fun p hp => Zw6 ha hb (.inr hp)
 lub a b c _ _ _ x y := Wp.2 fun p hp => (U5.1 hp).1.elim (Wp.1 x p) (Wp.1 y p)
 bmem := rfl
 bot a _ := rfl
end
end Go.Proofs.YtbhkcbidcfofiaaGreat
