/-
  What the statements of the chapter share, part 18: CM7, CM8E, CV, CM8, CM9, CM10, RB3P, SO, CS.
-/
import Derived.Test.YtgkjcmglcnhpaaaGreatDoorR11
import Derived.Test.YtgkjcmglcnhpaaaGreatDoorR13
import Derived.Test.YtgkjcmglcnhpaaaGreatDoorR15
import Derived.Test.YtgkjcmglcnhpaaaGreatDoorR17
set_option linter.unusedVariables false
set_option linter.unusedSimpArgs false
set_option maxRecDepth 100000
set_option maxHeartbeats 8000000
namespace Go.Proofs.YtgkjcmglcnhpaaaGreatDoor
open _root_.Bool renaming false_eq_true → Za, not_false → Ze, not_true → Zh
open _root_.Int renaming reduceEq → Z6, reduceLT → Z7, reduceLE → Z8
open _root_.List renaming length_map → Zc, getElem?_mapIdx → Zd, drop_eq_getElem_cons → Zf, getElem?_eq_getElem → Zi
open _root_.Nat renaming reduceEqDiff → Z0, reduceLeDiff → Z1, reduceAdd → Z2, reduceBEq → Z3, reduceMul → Z4, le_refl → Z9, le_of_ble_eq_true → Zb, zero_le → Zg, le_of_eq → Zj, not_lt_zero → Zl
open _root_.Option renaming map_some → Zk
open _root_.Go.Proofs.Tryz renaming prog → Z5
open Go.RowKit
section
attribute [local irreducible] on aOp
attribute [local go_sem] decide_true decide_false Zh Ze
attribute [local simp] byD_len
def idxI (a : Int) : List Int → Nat → Int
 | [], _ => -1
 | x :: t, k => if a = x then k else idxI a t (k + 1)
theorem idxI_ge (a : Int) : ∀ (l : List Int) (k : Nat), decide (0 ≤ idxI a l k) = decide (a ∈ l)
 | [], k => by simp [idxI]
 | x :: t, k => by
  have ih := idxI_ge a t (k + 1)
  by_cases h : a = x
  · simp [idxI, h]
  · rw [idxI, if_neg h, ih]; simp [h]
def Ux (oo z : Int) (cb ct vb : Bool) : Int := if oo ≠ 0 then oo else if z ≠ 0 then z else if ((cb && !ct) || !vb) = true then 10 else 0
def Uw (g : Gen) (master : List UInt8) (c : Cmd) (z : Int) : Int := Ux (orI [numE g c, Jl c]) z (Yc3 c) (decide (c.client ∈ g.admins)) (decide (c.tag = Xm master (16 + c.client) 0 (V5 c)))
def rdX (cl n : Int) (tag : List UInt8) : List D := [.v (.int .i64 cl), .v (.int .i64 n), .sl 1 (byD tag)]
theorem Zq0 (cl n : Int) (tag : List UInt8) : rdX cl n tag = [.v (.int .i64 cl), .v (.int .i64 n), .sl 1 (byD tag)] := rfl
def Vi (g : Gen) (master : List UInt8) (cl n : Int) (tag : List UInt8) : Int := if cl < 0 ∨ g.clients ≤ cl ∨ n < 1 ∨ 2147483648 < n then 5 else if decide (tag = Xm master (16 + cl) 0 (Yd cl n)) = true then 0 else 10
variable (G : Nat → D) (hG : ∀ g, low 0 (G g)) (hK : G 1 = .rp (shaK.map zD))
include hG
theorem orE_b (l : List Int) (hl : l.length ≤ 1000) (h : List Ob) (i : Nat) (hi : h[i]? = some (.buf 34 1 (l.map intX))) : Does Z5 G 59 h [.buf i l.length] (fun h' r => h' = h ∧ r = .v (.int .i64 (orI l))) := by
 refine Y5 Tryz.func59 rfl (Zb rfl) hG fun hl0 _ => ?_
 simp only [Tryz.ntmps59]
 repeat' first
  | refine sA rfl ?_
  | refine Y4 ?_
  | (refine ao1 rfl rfl fun K HK => ?_; simp only [go_sem, ↓reduceIte, Z0, Z2, Z1, Z3, Z4, Z6, Z7, Z8, hi] <;> (refine HK _ _ ?_; clear HK K))
 refine Yr (fun m e h' => ∃ k : Nat, k ≤ l.length ∧ m = l.length - k ∧ orI l = orI (l.drop k) ∧ h' = h ∧ e 3 = .v (.int .i64 0) ∧ e 6 = .buf i l.length ∧ e 7 = .v (.int .i64 l.length) ∧ e 8 = .v (.int .i64 k)) l.length ⟨0, Zg _, rfl, rfl, rfl, rfl, rfl, rfl, rfl⟩ ?_
 rintro m e h' ⟨k, hk, rfl, ho, rfl, e3, e6, e7, e8⟩
 by_cases hlt : k < l.length
 · have hx : l[k]? = some l[k] := Zi hlt
   have hd : l.drop k = l[k] :: l.drop (k + 1) := Zf hlt
   generalize l[k] = x at hx hd
   have wk : IntKind.i64.wrap ((k : Int) + 1) = (k : Int) + 1 := IntWalk.i64_in _ (by omega)
   rw [hd, orI] at ho
   have hrow : (l.map intX)[k]? = some [.v (.int .i64 x)] := by rw [List.getElem?_map, hx]; rfl
   repeat' first
    | (refine ao1 rfl rfl fun K HK => ?_; simp only [go_sem, e6, e8]; refine ⟨_, _, _, hi, by simp, by simp only [go_sem], by omega, by omega, ?_⟩; refine HK _ _ ?_; clear HK K)
    | refine sA rfl ?_ | refine sI rfl rfl ?_ | refine sT rfl ?_ | refine sB rfl ?_
    | refine Y4 ?_
    | (refine ao1 rfl rfl fun K HK => ?_; simp only [go_sem, ↓reduceIte, Z0, Z2, Z1, Z3, Z4, Z6, Z7, Z8, hi, e3, e6, e7, e8, Ze0, wk, loadD_bp hi (Zc _) hrow, Zc, Int.toNat_natCast]; (first | refine Y6 (fun hq => ?_) (fun hq => ?_) | refine W7 (fun hq => ?_) (fun hq => ?_) | skip) <;> (refine HK _ _ ?_; clear HK K))
    | (exfalso; omega)
   · exact ⟨rfl, l.length - (k + 1), by omega, k + 1, hlt, rfl, by rw [ho, if_pos hq], rfl, e3, e6, e7, rfl⟩
   · exact ⟨by simp, endV hl0 rfl rfl ⟨rfl, by rw [ho, if_neg hq]⟩⟩
 · skip
   repeat' first
    | refine sA rfl ?_ | refine sI rfl rfl ?_
    | refine Y4 ?_
    | (refine ao1 rfl rfl fun K HK => ?_; simp only [go_sem, ↓reduceIte, Z0, Z2, Z1, Z3, Z4, Z6, Z7, Z8, hi, e3, e6, e7, e8, Zc]; (first | refine Y6 (fun hq => ?_) (fun hq => ?_) | skip) <;> (refine HK _ _ ?_; clear HK K))
    | (exfalso; omega)
   exact ⟨by simp, endV hl0 rfl rfl ⟨rfl, by rw [ho, List.drop_eq_nil_of_le (by omega)]; rfl⟩⟩
theorem orE_s (l : List Int) (hl : l.length ≤ 1000) (h : List Ob) (i : Nat) (hi : h[i]? = some (.buf 34 1 (l.map intX))) : Does Z5 G 59 h [.buf i l.length] (fun h' r => h' = h.set i (.buf 34 1 (l.map intX)) ∧ r = .v (.int .i64 (orI l))) := by
 rw [J9 hi]; exact orE_b G hG l hl h i hi
theorem idx_d (l : List Int) (a : Int) (hl : l.length ≤ 1000000) (h : List Ob) : Does Z5 G 93 h [.sl 1 (l.map intX), .v (.int .i64 a)] (fun h' r => h' = h ∧ r = .v (.int .i64 (idxI a l 0))) := by
 refine Y5 Tryz.func93 rfl (Zb rfl) hG fun hl0 _ => ?_
 simp only [Tryz.ntmps93]
 repeat' first
  | refine sA rfl ?_
  | refine Y4 ?_
  | (refine ao1 rfl rfl fun K HK => ?_; simp only [go_sem, ↓reduceIte, Z0, Z2, Z1, Z3, Z4, Z6, Z7, Z8, Zc] <;> (refine HK _ _ ?_; clear HK K))
 refine Yr (fun m e h' => ∃ k : Nat, k ≤ l.length ∧ m = l.length - k ∧ idxI a l 0 = idxI a (l.drop k) k ∧ h' = h ∧ e 0 = .sl 1 (l.map intX) ∧ e 1 = .v (.int .i64 a) ∧ e 7 = .v (.int .i64 l.length) ∧ e 8 = .v (.int .i64 k)) l.length ⟨0, Zg _, rfl, rfl, rfl, rfl, rfl, rfl, rfl⟩ ?_
 rintro m e h' ⟨k, hk, rfl, ho, rfl, e0, e1, e7, e8⟩
 by_cases hlt : k < l.length
 · have hx : l[k]? = some l[k] := Zi hlt
   have hd : l.drop k = l[k] :: l.drop (k + 1) := Zf hlt
   generalize l[k] = x at hx hd
   have wk : IntKind.i64.wrap ((k : Int) + 1) = (k : Int) + 1 := IntWalk.i64_in _ (by omega)
   rw [hd, idxI] at ho
   repeat' first
    | refine sA rfl ?_ | refine sI rfl rfl ?_ | refine sT rfl ?_ | refine sB rfl ?_
    | refine Y4 ?_
    | (refine ao1 rfl rfl fun K HK => ?_; simp only [go_sem, ↓reduceIte, Z0, Z2, Z1, Z3, Z4, Z6, Z7, Z8, e0, e1, e7, e8, Ze0, wk, Zc, Int.toNat_natCast]; (first | refine Y6 (fun hq => ?_) (fun hq => ?_) | (refine ⟨by omega, by omega, ?_⟩; refine Yg (by assumption) ?_) | skip) <;> (refine HK _ _ ?_; clear HK K))
    | (exfalso; omega)
   · exact ⟨.inr rfl, endV hl0 rfl rfl ⟨rfl, by rw [ho, if_pos hq]⟩⟩
   · exact ⟨rfl, l.length - (k + 1), by omega, k + 1, hlt, rfl, by rw [ho, if_neg hq], rfl, e0, e1, e7, rfl⟩
 · skip
   repeat' first
    | refine sA rfl ?_ | refine sI rfl rfl ?_
    | refine Y4 ?_
    | (refine ao1 rfl rfl fun K HK => ?_; simp only [go_sem, ↓reduceIte, Z0, Z2, Z1, Z3, Z4, Z6, Z7, Z8, e0, e1, e7, e8]; (first | refine Y6 (fun hq => ?_) (fun hq => ?_) | (refine ⟨by omega, by omega, ?_⟩; intro row hrow; obtain ⟨x, hx, rfl⟩ := Yn hrow; clear hrow) | skip) <;> (refine HK _ _ ?_; clear HK K))
    | (exfalso; omega)
   exact ⟨by simp, endV hl0 rfl rfl ⟨rfl, by rw [ho, List.drop_eq_nil_of_le (by omega)]; rfl⟩⟩
theorem cont_d (l : List Int) (a : Int) (hl : l.length ≤ 1000000) (h : List Ob) : Does Z5 G 64 h [.sl 1 (l.map intX), .v (.int .i64 a)] (fun h' r => h' = h ∧ r = .v (.bool (decide (a ∈ l)))) := by
 rw [← idxI_ge a l 0]
 refine Y5 Tryz.func64 rfl (Zb rfl) hG fun hl0 _ => ?_
 simp only [Tryz.ntmps64]
 repeat' first
  | refine sA rfl ?_
  | refine Y4 ?_
  | (refine ao1 rfl rfl fun K HK => ?_; simp only [go_sem, ↓reduceIte, Z0, Z2, Z1, Z3, Z4, Z6, Z7, Z8]; (first | refine Y6 (fun hq => ?_) (fun hq => ?_) | skip) <;> (refine HK _ _ ?_; clear HK K))
  | (refine ao2 rfl rfl rfl ent_93 (idx_d G hG l a hl _) ?_; rintro _ _ ⟨rfl, rfl⟩)
 all_goals exact ⟨.inr rfl, endV hl0 rfl rfl ⟨rfl, by first | rw [decide_eq_true hq] | rw [decide_eq_false hq]⟩⟩
include hK
theorem check0 (g : Gen) (hg : g.Ok) (had : g.admins.length ≤ 1000000) (master : List UInt8) (p0 ht0 : Int) (hm : master.length ≤ 1000000) (c : Cmd) (hc : c.Ok) (hcl : I64 (16 + c.client)) (z : Int)
 (hw : Does Z5 G 62 [] [.agg (genX g), .agg (cmdX c)] (fun h' r => h' = [] ∧ r = .v (.int .i64 z))) :
 Does Z5 G 25 [X4 master p0 ht0] [.agg (genX g), .ptr 0 0, .agg (cmdX c)] (fun h' r => h' = [X4 master p0 ht0] ∧ r = .v (.int .i64 (Uw g master c z))) := by
 have hl := Zt3 c hc
 have hwa : ∀ h, Does Z5 G 62 h [.agg (genX g), .agg (cmdX c)] (fun h' r => h' = h ∧ r = .v (.int .i64 z)) := fun h => Yf G hG (by rw [lowL, lowL, lowL, low]; exact ⟨Vz hg 0, W0 _ _, trivial⟩) (by rw [low]; trivial) hw h
 clear hw
 have wcl : IntKind.i64.wrap (16 + c.client) = 16 + c.client := IntWalk.i64_in _ hcl
 have hnum := numbers_d G hG g hg c hc
 have hfor := form_d G hG c hc
 have hcon := Zl4 G hG c hc
 have hadm := cont_d G hG g.admins c.client had
 have hver := mVerify_d G hG hK 0 master p0 ht0 (16 + c.client) 0 (V5 c) c.tag hcl (by unfold I64; omega) hm (by omega) (bodyZ_ne c)
 have hbod := body_d G hG c hc
 unfold Uw
 generalize numE g c = ne at *
 generalize Jl c = fe at *
 generalize hoo : orI [ne, fe] = oo
 have hor : ∀ (h : List Ob) (i : Nat) (hi : h[i]? = some (.buf 34 1 ([ne, fe].map intX))), Does Z5 G 59 h [.buf i [ne, fe].length] (fun h' r => h' = h.set i (.buf 34 1 ([ne, fe].map intX)) ∧ r = .v (.int .i64 oo)) := fun h i hi => hoo ▸ orE_s G hG [ne, fe] (by simp) h i hi
 clear hoo
 generalize Yc3 c = cb at *
 generalize decide (c.client ∈ g.admins) = ct at *
 generalize decide (c.tag = Xm master (16 + c.client) 0 (V5 c)) = vb at *
 refine Y5 Tryz.func25 rfl (Zb rfl) hG fun hl0 _ => ?_
 simp only [Tryz.ntmps25]
 repeat' first
  | (refine Vj rfl rfl rfl (by (simp only [go_sem, ↓reduceIte, Z0, Z2, Z1, Z3, Z4, Z6, Z7, Z8, Yi, W1]; rfl)) (by rw [getD_agg' aggT_25, szT_25]; rfl) ?_)
  | (refine Vj rfl rfl rfl (by (simp only [go_sem, ↓reduceIte, Z0, Z2, Z1, Z3, Z4, Z6, Z7, Z8, Yi, W1]; rfl)) (by rw [getD_agg' aggT_40, szT_40]; rfl) ?_)
  | refine sA rfl ?_ | refine sI rfl rfl ?_ | refine sT rfl ?_
  | refine Y4 ?_
  | ((first | refine ao1 rfl rfl fun K HK => ?_ | refine aS1 rfl rfl fun K HK => ?_); simp only [go_sem, ↓reduceIte, Z0, Z2, Z1, Z3, Z4, Z6, Z7, Z8, Yi, W1]; (first | refine W7 (fun hq => ?_) (fun hq => ?_) | skip) <;> ((first | refine HK _ _ ?_ | refine HK _ _ rfl ?_); clear HK K))
  | (refine Wq mixd (by kernel_rfl) ?_)
  | refine aS_lit rfl rfl (by simp only [litD, Um, go_sem, List.length_cons, List.length_nil, Zk, Option.bind_some, and_self, ↓reduceIte, Z0, Z2, Z1, Z3, Z4, Z6, Z7, Z8, Yi, W1]; rfl) ?_
  | refine Jw (by simp only [List.reverse_cons, List.reverse_nil, List.nil_append, List.cons_append, Vh, chk1]; repeat' (first | exact trivial | refine And.intro ?_ ?_ | exact .inr Xr | exact .inr Wn | exact .inr U1 | exact .inr (Zh3 (by omega)) | (refine .inr ?_; simp [compat, Za2, J1, Jf, nop] <;> omega) | exact .inl (by kernel_rfl))) ?_
  | refine Vt rfl rfl rfl ent_60 (fun h2 => hnum _) ?_
  | refine Vt rfl rfl rfl ent_61 (fun h2 => hfor _) ?_
  | refine aS_call1 rfl rfl rfl ent_59 (by (simp only [go_sem, ↓reduceIte, Z0, Z2, Z1, Z3, Z4, Z6, Z7, Z8, Yi, W1]; rfl)) (fun h2 k2 => hor h2 3 k2) ?_
 · by_cases hz : z = 0
   · subst hz
     cases cb
     · cases vb
       · skip
         repeat' first
          | refine sA rfl ?_ | refine sI rfl rfl ?_ | refine sT rfl ?_
          | refine Y4 ?_
          | ((first | refine ao1 rfl rfl fun K HK => ?_ | refine aq1 rfl rfl fun K HK => ?_); (first | refine Y7 rfl ?_ | skip); simp only [go_sem, ↓reduceIte, Z0, Z2, Z1, Z3, Z4, Z6, Z7, Z8, Yi, W1, wcl, Za] <;> ((first | refine HK _ _ ?_ | refine HK _ _ rfl ?_); clear HK K))
          | refine aq0 rfl rfl ?_
          | refine X2 ?_
          | (refine Ya mixd (by kernel_rfl) ?_)
          | (refine ao2 rfl rfl rfl Zw9 (hwa _) ?_; rintro _ _ ⟨rfl, rfl⟩)
          | refine aq2 rfl rfl rfl Zh0 (hcon _) ?_
          | refine aq2 rfl rfl rfl ent_21 (hbod _) ?_
          | refine aq2 rfl rfl rfl Zw8 (hver _ rfl) ?_
         first
         | exact (show (Exit.ret = Exit.normal ∨ Exit.ret = Exit.ret) ∧ _ from ⟨.inr rfl, endX [.v (.int .i64 0)] [X4 master p0 ht0] _ (.v (.int .i64 0)) rfl rfl (Z9 _) (Wv _ _ _ _) (by rw [low]; trivial) rfl ⟨rfl, by simp [Ux, *]⟩⟩)
         | exact (show (Exit.ret = Exit.normal ∨ Exit.ret = Exit.ret) ∧ _ from ⟨.inr rfl, endX [.v (.int .i64 10)] [X4 master p0 ht0] _ (.v (.int .i64 10)) rfl rfl (Z9 _) (Wv _ _ _ _) (by rw [low]; trivial) rfl ⟨rfl, by simp [Ux, *]⟩⟩)
       · skip
         repeat' first
          | refine sA rfl ?_ | refine sI rfl rfl ?_
          | refine Y4 ?_
          | ((first | refine ao1 rfl rfl fun K HK => ?_ | refine aq1 rfl rfl fun K HK => ?_); (first | refine Y7 rfl ?_ | skip); simp only [go_sem, ↓reduceIte, Z0, Z2, Z1, Z3, Z4, Z6, Z7, Z8, Yi, W1, wcl, Za] <;> ((first | refine HK _ _ ?_ | refine HK _ _ rfl ?_); clear HK K))
          | refine aq0 rfl rfl ?_
          | refine X2 ?_
          | (refine Ya mixd (by kernel_rfl) ?_)
          | (refine ao2 rfl rfl rfl Zw9 (hwa _) ?_; rintro _ _ ⟨rfl, rfl⟩)
          | refine aq2 rfl rfl rfl Zh0 (hcon _) ?_
          | refine aq2 rfl rfl rfl ent_21 (hbod _) ?_
          | refine aq2 rfl rfl rfl Zw8 (hver _ rfl) ?_
         first
         | exact (show (Exit.ret = Exit.normal ∨ Exit.ret = Exit.ret) ∧ _ from ⟨.inr rfl, endX [.v (.int .i64 0)] [X4 master p0 ht0] _ (.v (.int .i64 0)) rfl rfl (Z9 _) (Wv _ _ _ _) (by rw [low]; trivial) rfl ⟨rfl, by simp [Ux, *]⟩⟩)
         | exact (show (Exit.ret = Exit.normal ∨ Exit.ret = Exit.ret) ∧ _ from ⟨.inr rfl, endX [.v (.int .i64 10)] [X4 master p0 ht0] _ (.v (.int .i64 10)) rfl rfl (Z9 _) (Wv _ _ _ _) (by rw [low]; trivial) rfl ⟨rfl, by simp [Ux, *]⟩⟩)
     · cases ct
       · skip
         repeat' first
          | refine sA rfl ?_ | refine sI rfl rfl ?_ | refine sT rfl ?_
          | refine Y4 ?_
          | ((first | refine ao1 rfl rfl fun K HK => ?_ | refine aq1 rfl rfl fun K HK => ?_); (first | refine Y7 rfl ?_ | skip); simp only [go_sem, ↓reduceIte, Z0, Z2, Z1, Z3, Z4, Z6, Z7, Z8, Yi, W1, wcl, Za] <;> ((first | refine HK _ _ ?_ | refine HK _ _ rfl ?_); clear HK K))
          | refine aq0 rfl rfl ?_
          | refine X2 ?_
          | (refine Ya mixd (by kernel_rfl) ?_)
          | (refine ao2 rfl rfl rfl Zw9 (hwa _) ?_; rintro _ _ ⟨rfl, rfl⟩)
          | refine aq2 rfl rfl rfl Zh0 (hcon _) ?_
          | refine aq2 rfl rfl rfl ent_64 (hadm _) ?_
         first
         | exact (show (Exit.ret = Exit.normal ∨ Exit.ret = Exit.ret) ∧ _ from ⟨.inr rfl, endX [.v (.int .i64 0)] [X4 master p0 ht0] _ (.v (.int .i64 0)) rfl rfl (Z9 _) (Wv _ _ _ _) (by rw [low]; trivial) rfl ⟨rfl, by simp [Ux, *]⟩⟩)
         | exact (show (Exit.ret = Exit.normal ∨ Exit.ret = Exit.ret) ∧ _ from ⟨.inr rfl, endX [.v (.int .i64 10)] [X4 master p0 ht0] _ (.v (.int .i64 10)) rfl rfl (Z9 _) (Wv _ _ _ _) (by rw [low]; trivial) rfl ⟨rfl, by simp [Ux, *]⟩⟩)
       · cases vb
         · skip
           repeat' first
            | refine sA rfl ?_ | refine sI rfl rfl ?_ | refine sT rfl ?_
            | refine Y4 ?_
            | ((first | refine ao1 rfl rfl fun K HK => ?_ | refine aq1 rfl rfl fun K HK => ?_); (first | refine Y7 rfl ?_ | skip); simp only [go_sem, ↓reduceIte, Z0, Z2, Z1, Z3, Z4, Z6, Z7, Z8, Yi, W1, wcl, Za] <;> ((first | refine HK _ _ ?_ | refine HK _ _ rfl ?_); clear HK K))
            | refine X2 ?_
            | (refine Ya mixd (by kernel_rfl) ?_)
            | (refine ao2 rfl rfl rfl Zw9 (hwa _) ?_; rintro _ _ ⟨rfl, rfl⟩)
            | refine aq2 rfl rfl rfl Zh0 (hcon _) ?_
            | refine aq2 rfl rfl rfl ent_64 (hadm _) ?_
            | refine aq2 rfl rfl rfl ent_21 (hbod _) ?_
            | refine aq2 rfl rfl rfl Zw8 (hver _ rfl) ?_
           first
           | exact (show (Exit.ret = Exit.normal ∨ Exit.ret = Exit.ret) ∧ _ from ⟨.inr rfl, endX [.v (.int .i64 0)] [X4 master p0 ht0] _ (.v (.int .i64 0)) rfl rfl (Z9 _) (Wv _ _ _ _) (by rw [low]; trivial) rfl ⟨rfl, by simp [Ux, *]⟩⟩)
           | exact (show (Exit.ret = Exit.normal ∨ Exit.ret = Exit.ret) ∧ _ from ⟨.inr rfl, endX [.v (.int .i64 10)] [X4 master p0 ht0] _ (.v (.int .i64 10)) rfl rfl (Z9 _) (Wv _ _ _ _) (by rw [low]; trivial) rfl ⟨rfl, by simp [Ux, *]⟩⟩)
         · skip
           repeat' first
            | refine sA rfl ?_ | refine sI rfl rfl ?_
            | refine Y4 ?_
            | ((first | refine ao1 rfl rfl fun K HK => ?_ | refine aq1 rfl rfl fun K HK => ?_); (first | refine Y7 rfl ?_ | skip); simp only [go_sem, ↓reduceIte, Z0, Z2, Z1, Z3, Z4, Z6, Z7, Z8, Yi, W1, wcl, Za] <;> ((first | refine HK _ _ ?_ | refine HK _ _ rfl ?_); clear HK K))
            | refine X2 ?_
            | (refine Ya mixd (by kernel_rfl) ?_)
            | (refine ao2 rfl rfl rfl Zw9 (hwa _) ?_; rintro _ _ ⟨rfl, rfl⟩)
            | refine aq2 rfl rfl rfl Zh0 (hcon _) ?_
            | refine aq2 rfl rfl rfl ent_64 (hadm _) ?_
            | refine aq2 rfl rfl rfl ent_21 (hbod _) ?_
            | refine aq2 rfl rfl rfl Zw8 (hver _ rfl) ?_
           first
           | exact (show (Exit.ret = Exit.normal ∨ Exit.ret = Exit.ret) ∧ _ from ⟨.inr rfl, endX [.v (.int .i64 0)] [X4 master p0 ht0] _ (.v (.int .i64 0)) rfl rfl (Z9 _) (Wv _ _ _ _) (by rw [low]; trivial) rfl ⟨rfl, by simp [Ux, *]⟩⟩)
           | exact (show (Exit.ret = Exit.normal ∨ Exit.ret = Exit.ret) ∧ _ from ⟨.inr rfl, endX [.v (.int .i64 10)] [X4 master p0 ht0] _ (.v (.int .i64 10)) rfl rfl (Z9 _) (Wv _ _ _ _) (by rw [low]; trivial) rfl ⟨rfl, by simp [Ux, *]⟩⟩)
   · skip
     repeat' first
      | refine sA rfl ?_ | refine sI rfl rfl ?_ | refine sT rfl ?_
      | refine Y4 ?_
      | (refine ao1 rfl rfl fun K HK => ?_; simp only [go_sem, ↓reduceIte, Z0, Z2, Z1, Z3, Z4, Z6, Z7, Z8, Yi, W1, hz, Za] <;> (refine HK _ _ ?_; clear HK K))
      | (refine ao2 rfl rfl rfl Zw9 (hwa _) ?_; rintro _ _ ⟨rfl, rfl⟩)
     exact (show (Exit.ret = Exit.normal ∨ Exit.ret = Exit.ret) ∧ _ from ⟨.inr rfl, endX [.v (.int .i64 z)] [X4 master p0 ht0] _ (.v (.int .i64 z)) rfl rfl (Z9 _) (Wv _ _ _ _) (by rw [low]; trivial) rfl ⟨rfl, by simp [Ux, *]⟩⟩)
 · exact (show (Exit.ret = Exit.normal ∨ Exit.ret = Exit.ret) ∧ _ from ⟨.inr rfl, endX [.v (.int .i64 oo)] [X4 master p0 ht0] _ (.v (.int .i64 oo)) rfl rfl (Z9 _) (Wv _ _ _ _) (by rw [low]; trivial) rfl ⟨rfl, by simp [Ux, *]⟩⟩)
theorem checkRead0 (g : Gen) (hg : g.Ok) (master : List UInt8) (p0 ht0 : Int) (hm : master.length ≤ 1000000) (cl n : Int) (tag : List UInt8) (hcl : I64 cl) (hc2 : I64 (16 + cl)) (hn : I64 n) :
 Does Z5 G 30 [X4 master p0 ht0] [.agg (genX g), .ptr 0 0, .agg (rdX cl n tag)] (fun h' r => h' = [X4 master p0 ht0] ∧ r = .v (.int .i64 (Vi g master cl n tag))) := by
 have hl := Wz hcl hn
 have wcl : IntKind.i64.wrap (16 + cl) = 16 + cl := IntWalk.i64_in _ hc2
 have hver := mVerify_d G hG hK 0 master p0 ht0 (16 + cl) 0 (Yd cl n) tag hc2 (by unfold I64; omega) hm (by omega) (Zk7 _ _)
 have hbod := Zv5 G hG cl n hcl hn
 unfold Vi
 generalize decide (tag = Xm master (16 + cl) 0 (Yd cl n)) = vb at *
 refine Y5 Tryz.func30 rfl (Zb rfl) hG fun hl0 _ => ?_
 simp only [Tryz.ntmps30]
 cases vb
 · skip
   repeat' first
    | refine sA rfl ?_ | refine sI rfl rfl ?_ | refine sT rfl ?_
    | refine Y4 ?_
    | ((first | refine ao1 rfl rfl fun K HK => ?_ | refine aq1 rfl rfl fun K HK => ?_); (first | refine Y7 rfl ?_ | skip); simp only [go_sem, ↓reduceIte, Z0, Z2, Z1, Z3, Z4, Z6, Z7, Z8, W1, Zq0, wcl, Za]; (first | refine Y6 (fun hq => ?_) (fun hq => ?_) | skip) <;> ((first | refine HK _ _ ?_ | refine HK _ _ rfl ?_); clear HK K))
    | refine X2 ?_
    | (refine Ya mixd (by kernel_rfl) ?_)
    | refine ao0 rfl rfl ?_
    | refine aq2 rfl rfl rfl ent_73 (hbod _) ?_
    | refine aq2 rfl rfl rfl Zw8 (hver _ rfl) ?_
   all_goals first
   | exact (show (Exit.ret = Exit.normal ∨ Exit.ret = Exit.ret) ∧ _ from ⟨.inr rfl, endX [.v (.int .i64 5)] [X4 master p0 ht0] _ (.v (.int .i64 5)) rfl rfl (Z9 _) (Wv _ _ _ _) (by rw [low]; trivial) rfl ⟨rfl, by rw [if_pos (by omega)]⟩⟩)
   | exact (show (Exit.ret = Exit.normal ∨ Exit.ret = Exit.ret) ∧ _ from ⟨.inr rfl, endX [.v (.int .i64 0)] [X4 master p0 ht0] _ (.v (.int .i64 0)) rfl rfl (Z9 _) (Wv _ _ _ _) (by rw [low]; trivial) rfl ⟨rfl, by rw [if_neg (by omega)]; rfl⟩⟩)
   | exact (show (Exit.ret = Exit.normal ∨ Exit.ret = Exit.ret) ∧ _ from ⟨.inr rfl, endX [.v (.int .i64 10)] [X4 master p0 ht0] _ (.v (.int .i64 10)) rfl rfl (Z9 _) (Wv _ _ _ _) (by rw [low]; trivial) rfl ⟨rfl, by rw [if_neg (by omega)]; rfl⟩⟩)
 · skip
   repeat' first
    | refine sA rfl ?_ | refine sI rfl rfl ?_ | refine sT rfl ?_
    | refine Y4 ?_
    | ((first | refine ao1 rfl rfl fun K HK => ?_ | refine aq1 rfl rfl fun K HK => ?_); (first | refine Y7 rfl ?_ | skip); simp only [go_sem, ↓reduceIte, Z0, Z2, Z1, Z3, Z4, Z6, Z7, Z8, W1, Zq0, wcl, Za]; (first | refine Y6 (fun hq => ?_) (fun hq => ?_) | skip) <;> ((first | refine HK _ _ ?_ | refine HK _ _ rfl ?_); clear HK K))
    | refine X2 ?_
    | (refine Ya mixd (by kernel_rfl) ?_)
    | refine ao0 rfl rfl ?_
    | refine aq2 rfl rfl rfl ent_73 (hbod _) ?_
    | refine aq2 rfl rfl rfl Zw8 (hver _ rfl) ?_
   all_goals first
   | exact (show (Exit.ret = Exit.normal ∨ Exit.ret = Exit.ret) ∧ _ from ⟨.inr rfl, endX [.v (.int .i64 5)] [X4 master p0 ht0] _ (.v (.int .i64 5)) rfl rfl (Z9 _) (Wv _ _ _ _) (by rw [low]; trivial) rfl ⟨rfl, by rw [if_pos (by omega)]⟩⟩)
   | exact (show (Exit.ret = Exit.normal ∨ Exit.ret = Exit.ret) ∧ _ from ⟨.inr rfl, endX [.v (.int .i64 0)] [X4 master p0 ht0] _ (.v (.int .i64 0)) rfl rfl (Z9 _) (Wv _ _ _ _) (by rw [low]; trivial) rfl ⟨rfl, by rw [if_neg (by omega)]; rfl⟩⟩)
   | exact (show (Exit.ret = Exit.normal ∨ Exit.ret = Exit.ret) ∧ _ from ⟨.inr rfl, endX [.v (.int .i64 10)] [X4 master p0 ht0] _ (.v (.int .i64 10)) rfl rfl (Z9 _) (Wv _ _ _ _) (by rw [low]; trivial) rfl ⟨rfl, by rw [if_neg (by omega)]; rfl⟩⟩)
end
section
set_option maxRecDepth 1000000
def latA : List D := [.v (.int .i64 2), .v (.int .i64 0), .v (.int .i64 9), .sl 1 [], .sl 6 [], .sl 2 []]
def valA (n : Int) : List D := [.v (.int .i64 n), .v (.slice none 0 0), .v (.slice none 0 0), .v (.slice none 0 0)]
def nmA : ByteArray := ⟨#[97]⟩
def exG : Gen := ⟨1, 3, [0, 1], 2, [0], [(nmA, latA)]⟩
theorem mixdB : Z5.follows .mixedOrders = true := by kernel_rfl
variable (G : Nat → D)
theorem bot5 : callK Z5 G 121 100000 100 92 [.agg latA, .agg (valA 5)] [] = some ([], .v (.bool false)) := by kernel_rfl
theorem bot0 : callK Z5 G 121 100000 100 92 [.agg latA, .agg (valA 0)] [] = some ([], .v (.bool true)) := by kernel_rfl
theorem dec10 : callK Z5 G 121 100000 100 91 [.agg latA, .sl 1 [[.v (.int .u8 10)]]] [] = some ([], .tup [.agg (valA 5), .v (.int .i64 0)]) := by kernel_rfl
theorem dec00 : callK Z5 G 121 100000 100 91 [.agg latA, .sl 1 [[.v (.int .u8 0)]]] [] = some ([], .tup [.agg (valA 0), .v (.int .i64 0)]) := by kernel_rfl
theorem gen_run : callK Z5 G 121 100000 100 14 [.agg (genX exG)] [] = some ([], .v (.int .i64 0)) := by kernel_rfl
theorem obj_run : callK Z5 G 121 100000 100 12 [.agg (genX exG), .v (.string nmA)] [] = some ([], .tup [.agg latA, .v (.bool true)]) := by kernel_rfl
theorem Zb4 {G : Nat → D} (hG : ∀ g, low 0 (G g)) {f : FuncId} {args : List D} {r : D} (la : lowL 0 args) (lr : low 0 r) (he : entB Z5 f = true) (q : callK Z5 G 121 100000 100 f args [] = some ([], r)) (h : List Ob) : Does Z5 G f h args (fun h' r' => h' = h ∧ r' = r) := by
 rcases callK_ok hG mixdB cmpX 100000 100 f args [] [] r q with ⟨_, d⟩ | ⟨e, _⟩
 · exact Yf G hG la lr d h
 · rw [he] at e; cases e
end
section
section
variable {P : Program} {G : Nat → D} {w w' : World} {hd hd' : List Value} {h h' : List Ob} {p p' : Nat → Bool}
theorem Ok.killW (o : Ok G w hd h p) (S : Nat → Bool) (w' : World) (h1 : w'.os = w.os) (h2 : w'.tape = w.tape) (h3 : w'.output = w.output) (h4 : w'.heap.size = w.heap.size) (h0 : w.drawn ≤ w'.drawn) (h5 : ∀ b, (¬ ∃ i ob u, S i = true ∧ h[i]? = some ob ∧ ob.live = true ∧ hd[i]? = some u ∧ blk u = some b) → w'.heap[b]? = w.heap[b]?) (h6 : ∀ g ds, G g = .rp ds → ∀ cs t fr, w.heap[g]? = some (.cells cs t fr) → w'.heap[g]? = some (.cells cs t fr)) : ∃ p', Ok G w' hd (h.mapIdx fun i ob => if S i then .dead else ob) p' ∧ Evo w hd h p w' hd (h.mapIdx fun i ob => if S i then .dead else ob) p' ∧
  ∀ i ob u b, S i = true → h[i]? = some ob → ob.live = true → hd[i]? = some u → blk u = some b → p' b = true := by
 classical
 have gm : ∀ {i : Nat} {ob : Ob}, (h.mapIdx fun i ob => if S i then .dead else ob)[i]? = some ob → ob.live = true → S i = false ∧ h[i]? = some ob := fun {i ob} q hl => by
  rw [Zd] at q
  cases hh : h[i]? with
  | none => rw [hh] at q; cases q
  | some o' =>
   rw [hh] at q
   simp only [Zk, Option.some.injEq] at q
   cases hs : S i
   · simp [hs] at q; exact ⟨rfl, by rw [q]⟩
   · simp [hs] at q; subst q; cases hl
 let q' : Nat → Bool := fun b => p b || decide (∃ i ob u, S i = true ∧ h[i]? = some ob ∧ ob.live = true ∧ hd[i]? = some u ∧ blk u = some b)
 have e : Evo w hd h p w' hd (h.mapIdx fun i ob => if S i then .dead else ob) q' := by
  refine ⟨⟨h1, h0⟩, h2, h3, Zj h4.symm, fun b _ hn => h5 b fun ⟨i, ob, u, _, a2, a3, a4, a5⟩ => hn ⟨i, ob, u, a2, a3, a4, a5⟩, fun b _ hp => by simp [q', hp], fun b _ hp => ?_, fun b _ => ?_, ⟨by simp, fun _ _ q => q, fun _ _ q => q, fun j q => ?_, fun j E k xs hj q => ?_⟩⟩
  · simp only [q', Bool.or_eq_true, decide_eq_true_eq] at hp
    exact hp.imp id fun ⟨i, ob, u, _, h2, h3, h4, h5⟩ => ⟨i, ob, u, h2, h3, h4, h5⟩
  · rintro ⟨j, oj, uj, q1, q2, q3, q4⟩
    exact ⟨j, oj, uj, (gm q1 q2).2, q2, q3, q4⟩
  · obtain ⟨ob, q1, q2⟩ := q
    refine ⟨if S j then .dead else ob, by rw [Zd, q1]; rfl, ?_⟩
    split
    · rfl
    · exact q2
  · exact ⟨E, xs, (gm q rfl).2, Z9 _, fun _ => rfl⟩
 refine ⟨q', ⟨by simp [o.len], fun i ob u q r => ?_, ?_, Jj e o, Jm e o⟩, e, fun i ob u b hs hi hl hu hb => by simp only [q', Bool.or_eq_true, decide_eq_true_eq]; exact .inr ⟨i, ob, u, hs, hi, hl, hu, hb⟩⟩
 · cases hl : ob.live
   · cases ob <;> simp [Ob.live] at hl
     · exact o.ob i .hole u (by
        rw [Zd] at q
        cases hh : h[i]? with
        | none => rw [hh] at q; cases q
        | some o' =>
         rw [hh] at q
         simp only [Zk, Option.some.injEq] at q
         split at q
         · cases q
         · rw [q]) r
     · trivial
   · obtain ⟨hs, q1⟩ := gm q hl
     refine (o.ob i ob u q1 r).move e o (fun hl' b hb => h5 b fun ⟨j, oj, uj, sj, qj, lj, rj, bj⟩ => by
      have := o.inj i j ob oj u uj b q1 qj hl lj r rj hb bj
      subst this
      rw [hs] at sj; cases sj) fun _ b hb hp => ?_
     simp only [q', hp, Bool.false_or, decide_eq_false_iff_not]
     rintro ⟨j, oj, uj, sj, qj, lj, rj, bj⟩
     have := o.inj i j ob oj u uj b q1 qj hl lj r rj hb bj
     subst this
     rw [hs] at sj; cases sj
 · intro j k oj ok uj uk b q1 q2 l1 l2 r1 r2 b1 b2
   exact o.inj j k oj ok uj uk b (gm q1 l1).2 (gm q2 l2).2 l1 l2 r1 r2 b1 b2
end
theorem byD_flat' (l : List UInt8) : (byD l).flatten = l.map fun b => D.v (.int .u8 b.toNat) := by
 induction l with
 | nil => rfl
 | cons a t ih => simp only [byD, List.map_cons, List.flatten_cons] at ih ⊢; rw [ih]; rfl
section
variable {P : Program} {G : Nat → D} {e : Nat → D} {h : List Ob}
theorem tri_cvbuf {dst : Option Nat} {t el ty E : TypeId} {x : Operand} {pos : String} {aft : Array Edge} {gd : Option (Nat × Bool)} {j n : Nat} {l : List UInt8}
 (hx : ev G e x = .buf j n) (ht : P.underlying t = some (.slice el)) (he : P.underlying el = some (.int .u8)) (hj : h[j]? = some (.buf E 1 (byD l))) (hn : l.length = n) (h0 : 0 < n) :
 OpTri P G ⟨dst, .convert t t x, ty, pos, aft, gd⟩ ((opds (.convert t t x)).map (ev G e)) h (fun h' r => h' = h.set j .dead ∧ r = .sl 1 (byD l)) :=
 Xu fun a w hd p ok hh => by
 have hox : opds (.convert t t x) = [x] := by simp [opds, Op.operands]
 have q1 := hh x (by rw [hox]; simp)
 rw [hx, rd] at q1
 obtain ⟨_, _, q1⟩ := q1
 have hv := (q1 E 1 _ hj).2 (by rw [byD_len, hn])
 obtain ⟨cs, o1, o2, o3, o4⟩ := ok.ob j _ _ hj hv
 rw [byD_len, hn] at o1
 rcases id o1.2 with ⟨_, hz⟩ | ⟨g, cap, cur, h5, hb0, hg, hnc, hcm, hcs, htake⟩
 · omega
 have hlt := (Array.getElem?_eq_some_iff.1 hg).1
 let w' : World := w.freeze ⟨g, cur.size, none⟩ 1
 have hw'g : w'.heap[g]? = some (.cells cur E (cur.size, cur.size + 1)) := by
  simp only [w', World.freeze]
  rw [if_neg (by decide)]
  simp only [Array.getElem?_modify]
  simp [hg]
 have hw'b : ∀ b, b ≠ g → w'.heap[b]? = w.heap[b]? := fun b hb => by
  simp only [w', World.freeze]
  rw [if_neg (by decide)]
  simp only [Array.getElem?_modify]
  simp [Ne.symm hb]
 have hblk : blk (a.eval x) = some g := by rw [h5]; rfl
 obtain ⟨p', o', ev, hp'⟩ := ok.killW (fun i => i == j) w' rfl rfl rfl (by simp [w', World.freeze]) (Z9 _) (fun b hb => hw'b b fun hbg => hb ⟨j, _, _, by simp, hj, rfl, hv, by rw [hbg]; exact hblk⟩) (fun g' ds hG cs' t' fr' hg' => by
  rw [hw'b g' fun hgg => ?_]; exact hg'
  obtain ⟨_, _, _, _, _, hpg⟩ := ok.ex g' ds hG
  have := ok.own_hidden ⟨j, _, _, hj, rfl, hv, hblk⟩
  rw [← hgg, hpg] at this; cases this)
 have hpg := hp' j _ _ g (by simp) hj rfl hv hblk
 have hm : (h.mapIdx fun i ob => if (i == j) = true then Ob.dead else ob) = h.set j .dead := Zg6
 rw [hm] at o' ev
 refine ⟨a.eval x, w', .inl ?_, _, _, _, _, ⟨rfl, rfl⟩, o', ?_, ev⟩
 · have hrun : (convert t t (.slice (some ⟨g, 0, none⟩) n cap)).run P w = .ok (.slice (some ⟨g, 0, none⟩) n cap) w' := by
    simp [convert, run_underlying ht, run_underlying he, markStringish, World.shape?, hg]
    rfl
   have e3 : a.eval x = .slice (some ⟨g, 0, none⟩) n cap := h5
   simp [execOp, e3, hrun]
 · have e9 : n = (byD l).length := by rw [byD_len, hn]
   rw [h5, rd]
   refine ⟨some ⟨g, 0, none⟩, cap, by rw [e9], ⟨fun h => (by cases h), (by rw [byD_len, hn]; exact hnc)⟩, hcm, (Xx _ _ _ _).2 fun i row hr => ?_⟩
   obtain ⟨b, hb, rfl⟩ := Zk1.1 hr
   refine ⟨rfl, g, 0, rfl, (Wh _ _ _).2 fun m d hd' => ?_⟩
   have hm0 : m = 0 := by have := (List.getElem?_eq_some_iff.1 hd').1; simpa using this
   subst hm0
   cases hd'
   obtain ⟨_, k2⟩ := (Yk _ _).1 o2
   obtain ⟨u, hu, hru⟩ := k2 i (.v (.int .u8 b.toNat)) (by rw [byD_flat']; simp [hb])
   refine ⟨u, ?_, by rw [rd] at hru ⊢; exact hru⟩
   rw [Wa]
   have : p' g = true := hpg
   simp only [this, if_true]
   have hcell := Ur o1 h5 hu
   have e4 : 0 + (0 + i * 1) + 0 = i := by omega
   rw [e4]
   unfold World.cell? at hcell ⊢
   rw [hw'g]
   rw [hg] at hcell
   exact hcell
end
end
section
attribute [local irreducible] on aOp
attribute [local go_sem] decide_true decide_false Zh Ze
attribute [local simp] byD_len
section
variable {P : Program} {G : Nat → D} {n : Nat} {e : Nat → D} {h : List Ob}
theorem Sit_weak {B : Base} {a : Act} {w : World} (t : Nat) (d : D) (q : ∀ (hd : List Value) (hh : List Ob) (W : World) (u : Value), rd hd hh W (e t) u → rd hd hh W d u) (r : Sit G B ⟨n, e, h⟩ a w) : Sit G B ⟨n, upd e t d, h⟩ a w := by
 obtain ⟨hd, p, r⟩ := r
 refine ⟨hd, p, r.ok, r.evo, fun t' => ?_, r.size, r.defers⟩
 show rd _ _ _ (upd e t _ t') _
 unfold upd
 by_cases ht : t' = t
 · rw [if_pos ht, ht]; exact q _ _ _ _ (r.tmp t)
 · rw [if_neg ht]; exact r.tmp t'
theorem ao_weak {ops : Array Oper} {l : List Oper} {Q : S → Prop} (t : Nat) (d : D) (q : ∀ (hd : List Value) (hh : List Ob) (W : World) (u : Value), rd hd hh W (e t) u → rd hd hh W d u) (k : ao P G ops l Q ⟨n, upd e t d, h⟩) : ao P G ops l Q ⟨n, e, h⟩ := fun B a w r R hR => k B a w (Sit_weak t d q r) R hR
theorem Jr {ops : Array Oper} {l : List Oper} {Q : S → Prop} (j t : Nat) (d : D) (hd : cvD (fun i => i == j) h (e t) = d) (k : ao P G ops l Q ⟨n, upd e t d, h.set j .dead⟩) : ao P G ops l Q ⟨n, e, h⟩ := ao_give j t (hd ▸ k)
theorem Yd1 {l l' : List D} (q : ∀ (hd : List Value) (hh : List Ob) (W : World) (us : List Value), rdL hd hh W l us → rdL hd hh W l' us) : ∀ (hd : List Value) (hh : List Ob) (W : World) (u : Value), rd hd hh W (.agg l) u → rd hd hh W (.agg l') u := fun hd hh W u h => by
 rw [rd] at h ⊢
 obtain ⟨cs, h1, h2⟩ := h
 exact ⟨cs, h1, q _ _ _ _ h2⟩
theorem Zz1 (d : D) {l l' : List D} (q : ∀ (hd : List Value) (hh : List Ob) (W : World) (us : List Value), rdL hd hh W l us → rdL hd hh W l' us) : ∀ (hd : List Value) (hh : List Ob) (W : World) (us : List Value), rdL hd hh W (d :: l) us → rdL hd hh W (d :: l') us := fun hd hh W us h => by
 rw [rdL] at h ⊢
 obtain ⟨u, t, h1, h2, h3⟩ := h
 exact ⟨u, t, h1, h2, q _ _ _ _ h3⟩
theorem Zz2 {k : Nat} {l l' : List D} (q : ∀ (hd : List Value) (hh : List Ob) (W : World) (us : List Value), rdL hd hh W l us → rdL hd hh W l' us) : ∀ (hd : List Value) (hh : List Ob) (W : World) (us : List Value), rdL hd hh W (.v (.slice none 0 0) :: l) us → rdL hd hh W (.sl k [] :: l') us := fun hd hh W us h => by
 rw [rdL] at h ⊢
 obtain ⟨u, t, h1, h2, h3⟩ := h
 exact ⟨u, t, h1, Zk9 _ _ _ _ h2, q _ _ _ _ h3⟩
theorem rdL_end (hd : List Value) (hh : List Ob) (W : World) (us : List Value) (h : rdL hd hh W [] us) : rdL hd hh W [] us := h
end
def sS : List UInt8 := [115]
def exC : Cmd := ⟨1, 1, 1, [(nmA, [10])], 0, []⟩
def exA : Cmd := { exC with tag := Xm sS 17 0 (V5 exC) }
def exA2 : Cmd := { exA with writes := [(nmA, [0])] }
def exX : Cmd := ⟨0, 1, 2, [], 2, []⟩
def exX3 : Cmd := { exX with replica := 3 }
def exB : Cmd := { exX with tag := Xm sS 16 0 (V5 exX) }
theorem Za8 : exG.Ok := ⟨by decide, by decide, by decide, by simp [exG, latA, lowL, low, lowR], by decide, by decide⟩
variable (G : Nat → D) (hG : ∀ g, low 0 (G g)) (hK : G 1 = .rp (shaK.map zD))
include hG
theorem example0 : Does Z5 G 36 [] [] (fun h' r => h' = [] ∧ r = .agg (genX exG)) := by
 refine Y5 Tryz.func36 rfl (Zb rfl) hG fun hl0 _ => ?_
 simp only [Tryz.ntmps36]
 repeat' first
  | (refine ao1 (t := 1) rfl rfl fun K HK => ?_; simp only [go_sem, ↓reduceIte, Z0, Z2, Z1, Z3, Z4]; refine HK _ _ ?_; clear HK K; refine Jr 1 1 (.sl 1 ([0, 1].map intX)) rfl ?_)
  | (refine ao1 (t := 2) rfl rfl fun K HK => ?_; simp only [go_sem, ↓reduceIte, Z0, Z2, Z1, Z3, Z4]; refine HK _ _ ?_; clear HK K; refine Jr 2 2 (.sl 1 ([0].map intX)) rfl ?_)
  | (refine ao1 (t := 3) rfl rfl fun K HK => ?_; simp only [go_sem, ↓reduceIte, Z0, Z2, Z1, Z3, Z4]; refine HK _ _ ?_; clear HK K; refine ao_weak 3 (.agg latA) (Yd1 (by repeat' first | exact rdL_end | refine Zz2 ?_ | refine Zz1 _ ?_)) ?_)
  | (refine ao1 (t := 5) rfl rfl fun K HK => ?_; simp only [go_sem, ↓reduceIte, Z0, Z2, Z1, Z3, Z4]; refine HK _ _ ?_; clear HK K; refine Jr 3 5 (.sl 7 ([(nmA, latA)].map obX)) rfl ?_)
  | refine sA rfl ?_
  | refine Y4 ?_
  | (refine ao1 rfl rfl fun K HK => ?_; simp only [go_sem, ↓reduceIte, Z0, Z2, Z1, Z3, Z4, Z6, Z7, Z8, latA] <;> (refine HK _ _ ?_; clear HK K))
  | (refine ao1' rfl fun K HK => ?_; simp only [go_sem, ↓reduceIte, Z0, Z2, Z1, Z3, Z4, Z6, Z7, Z8, latA]; refine HK _ _ ?_; clear HK K)
 exact ⟨.inr rfl, endX [.agg (genX exG)] [] _ (.agg (genX exG)) rfl rfl (Zg _) (fun x hx => by cases hx) (Vz Za8 0) rfl ⟨rfl, rfl⟩⟩
theorem example_d (h : List Ob) : Does Z5 G 36 h [] (fun h' r => h' = h ∧ r = .agg (genX exG)) := Yf G hG (by rw [lowL]; trivial) (by rw [low]; exact Vz Za8 0) (example0 G hG) h
theorem new1 (master : List UInt8) (p : Int) (hm : master.length ≤ 1000000) : Does Z5 G 24 [] [.sl 1 (byD master), .v (.int .i64 p)] (fun h' r => h' = [X4 master p 0] ∧ r = .ptr 0 0) := by
 refine (new0 G hG master p hm).shrink hG ?_
 rintro _ _ ⟨rfl, rfl⟩
 refine ⟨[X4 master p 0], .ptr 0 0, ⟨[1], ?_, rfl, ?_, Zg _, fun k hk => by simp at hk⟩, rfl, rfl⟩
 · have e : rnR [1] (byD master) = some (byD master) := Zm0 _ _ (by have := Yb 0 master; rwa [low] at this)
   simp [rnH, X4, rnOb, rnL, rnO, e]
 · simp [rnO, pos]
theorem new_d (master : List UInt8) (p : Int) (hm : master.length ≤ 1000000) (h : List Ob) : Does Z5 G 24 h [.sl 1 (byD master), .v (.int .i64 p)] (fun h' r => h' = h ++ [X4 master p 0] ∧ r = .ptr h.length 0) := by
 have la : lowL 0 [D.sl 1 (byD master), .v (.int .i64 p)] := by rw [lowL, lowL, lowL]; exact ⟨Yb _ _, by rw [low]; trivial, trivial⟩
 refine Does.holes 1 ?_
 have L : Lies (fun _ => h.length) [] (h ++ holes 1) := ⟨fun i ob q => by simp at q, fun i j q => by simp at q, fun ob q => by simp at q⟩
 have F := Does.frame hG L (args := [.sl 1 (byD master), .v (.int .i64 p)]) la (K1 := fun h' r => h' = [X4 master p 0] ∧ r = .ptr 0 0) (by
  rintro _ _ ⟨rfl, _⟩
  refine ⟨fun i j hi hj _ => by simp at hi hj; omega, fun j _ hj => ?_⟩
  simp [holes]) (new1 G hG master p hm)
 rw [Yt _ _ la] at F
 refine F.mono ?_
 rintro _ _ ⟨_, _, ⟨rfl, rfl⟩, rfl, rfl⟩
 have e1 : Xv (fun _ => h.length) (X4 master p 0) = X4 master p 0 := Zp6 _ _ _ _
 simp [plc, ren, holes, e1]
end
section
theorem Jv : ∀ (p a b : List UInt8), Lib.compareBytes (p ++ a) (p ++ b) = Lib.compareBytes a b
 | [], _, _ => rfl
 | x :: p, a, b => by
  show (if x < x then (-1 : Int) else if x < x then 1 else Lib.compareBytes (p ++ a) (p ++ b)) = _
  have h : ¬ x < x := by
   show ¬ x.toNat < x.toNat
   omega
  rw [if_neg h, if_neg h, Jv p a b]
instance (n : Int) : Decidable (I64 n) := inferInstanceAs (Decidable (_ ∧ _))
theorem okC0 (c : Cmd) (h1 : I64 c.client) (h2 : I64 c.seq) (h3 : I64 c.kind) (h4 : I64 c.replica) (h5 : c.writes.length ≤ 1) (h6 : ∀ x ∈ c.writes, x.1 = nmA ∧ x.2.length = 1) (h7 : c.tag.length ≤ 32) : c.Ok :=
 ⟨h1, h2, h3, h4, by omega, fun x hx => ⟨by rw [(h6 x hx).1]; decide, by rw [(h6 x hx).2]; omega⟩, by omega⟩
theorem exC_ok : exC.Ok := okC0 _ (by decide) (by decide) (by decide) (by decide) (by decide) (fun x hx => by simp [exC] at hx; rw [hx]; exact ⟨rfl, rfl⟩) (by decide)
theorem Zw7 : exA.Ok := okC0 _ (by show I64 1; decide) (by show I64 1; decide) (by show I64 1; decide) (by show I64 0; decide) (by show 1 ≤ 1; decide) (fun x hx => by simp [exA, exC] at hx; rw [hx]; exact ⟨rfl, rfl⟩) (Zj (Jz _ _ _ _))
theorem exA2_ok : exA2.Ok := okC0 _ (by show I64 1; decide) (by show I64 1; decide) (by show I64 1; decide) (by show I64 0; decide) (by show 1 ≤ 1; decide) (fun x hx => by simp [exA2] at hx; rw [hx]; exact ⟨rfl, rfl⟩) (Zj (Jz _ _ _ _))
theorem exX_ok : exX.Ok := okC0 _ (by decide) (by decide) (by decide) (by decide) (by decide) (fun x hx => by cases hx) (by decide)
theorem exX3_ok : exX3.Ok := okC0 _ (by decide) (by decide) (by decide) (by decide) (by decide) (fun x hx => by cases hx) (by decide)
theorem exB_ok : exB.Ok := okC0 _ (by show I64 0; decide) (by show I64 1; decide) (by show I64 2; decide) (by show I64 2; decide) (by show 0 ≤ 1; decide) (fun x hx => by cases hx) (Zj (Jz _ _ _ _))
def dec0 (_ : List D) (b : List UInt8) : List D × Int := if b = [10] then (valA 5, 0) else (valA 0, 0)
def bot0' (_ v : List D) : Bool := match v with
 | .v (.int _ n) :: _ => decide (n = 0)
 | _ => false
theorem low_valA (n : Int) : lowL 0 (valA n) := by simp [valA, lowL, low]
theorem low_latA : lowL 0 latA := by simp [latA, lowL, low, lowR]
section
variable (G : Nat → D) (hG : ∀ g, low 0 (G g)) (hK : G 1 = .rp (shaK.map zD))
include hG
theorem Zn7 (c : Cmd) (hc : c.Ok) (z : Int) (hw : ∀ x ∈ c.writes, x.2 = [10] ∨ x.2 = [0])
 (hz3 : (∃ i, i < c.writes.length ∧ ¬ okAt exG c.writes i) → z = 3) (hz4 : (∀ i, i < c.writes.length → okAt exG c.writes i) → (∃ i, i < c.writes.length ∧ Yd0 exG dec0 bot0' c.writes i) → z = 4) (hz0 : (∀ i, i < c.writes.length → okAt exG c.writes i) → (∀ i, i < c.writes.length → ¬ Yd0 exG dec0 bot0' c.writes i) → z = 0) :
 Does Z5 G 62 [] [.agg (genX exG), .agg (cmdX c)] (fun h' r => h' = [] ∧ r = .v (.int .i64 z)) := by
 have lav : ∀ n, lowL 0 [D.agg latA, .agg (valA n)] := fun n => by rw [lowL, lowL, lowL, low, low]; exact ⟨low_latA, low_valA n, trivial⟩
 have lad : ∀ b, lowL 0 [D.agg latA, .sl 1 (byD b)] := fun b => by rw [lowL, lowL, lowL]; exact ⟨by rw [low]; exact low_latA, Yb _ _, trivial⟩
 have lr : ∀ n, low 0 (D.tup [.agg (valA n), .v (.int .i64 0)]) := fun n => by rw [low, lowL, lowL, lowL]; exact ⟨by rw [low]; exact low_valA n, by rw [low]; trivial, trivial⟩
 refine writes0 G hG exG Za8 c hc dec0 bot0' z ?_ ?_ ?_ hz3 hz4 hz0
 · intro o ho w hwm h
   simp [exG] at ho; subst ho
   rcases hw w hwm with h1 | h1
   · rw [h1]; exact Zb4 hG (lad _) (lr 5) (by kernel_rfl) (dec10 G) h
   · rw [h1]; exact Zb4 hG (lad _) (lr 0) (by kernel_rfl) (dec00 G) h
 · intro o ho w hwm _ h
   simp [exG] at ho; subst ho
   rcases hw w hwm with h1 | h1
   · rw [h1]; exact Zb4 hG (lav 5) (by rw [low]; trivial) (by kernel_rfl) (bot5 G) h
   · rw [h1]; exact Zb4 hG (lav 0) (by rw [low]; trivial) (by kernel_rfl) (bot0 G) h
 · intro o ho w hwm
   simp [exG] at ho; subst ho
   rcases hw w hwm with h1 | h1
   · rw [h1]; exact ⟨rfl, rfl⟩
   · rw [h1]; exact ⟨rfl, rfl⟩
omit hG
theorem okA (ws : List (ByteArray × List UInt8)) (b : List UInt8) (h : ws = [(nmA, b)]) (i : Nat) (hi : i < ws.length) : okAt exG ws i := by
 subst h
 have h0 : i = 0 := by simp at hi; omega
 subst h0
 exact ⟨fun h => absurd h (Zl 0), by simp [exG]⟩
theorem badA (ws : List (ByteArray × List UInt8)) (b : List UInt8) (h : ws = [(nmA, b)]) (i : Nat) (hi : i < ws.length) : Yd0 exG dec0 bot0' ws i ↔ ((dec0 latA b).2 ≠ 0 ∨ bot0' latA (dec0 latA b).1 = true) := by
 subst h
 have h0 : i = 0 := by simp at hi; omega
 subst h0
 constructor
 · rintro ⟨o, ho, _, h⟩
   simp only [exG, List.mem_singleton] at ho
   subst ho
   exact h
 · intro h
   exact ⟨(nmA, latA), by simp [exG], rfl, h⟩
include hG
theorem w_none (c : Cmd) (hc : c.Ok) (h : c.writes = []) : Does Z5 G 62 [] [.agg (genX exG), .agg (cmdX c)] (fun h' r => h' = [] ∧ r = .v (.int .i64 0)) :=
 Zn7 G hG c hc 0 (fun x hx => by rw [h] at hx; cases hx) (fun ⟨i, hi, _⟩ => by rw [h] at hi; exact absurd hi (Zl i)) (fun _ ⟨i, hi, _⟩ => by rw [h] at hi; exact absurd hi (Zl i)) fun _ _ => rfl
theorem w_ten (c : Cmd) (hc : c.Ok) (h : c.writes = [(nmA, [10])]) : Does Z5 G 62 [] [.agg (genX exG), .agg (cmdX c)] (fun h' r => h' = [] ∧ r = .v (.int .i64 0)) :=
 Zn7 G hG c hc 0 (fun x hx => by rw [h] at hx; simp at hx; exact .inl (by rw [hx])) (fun ⟨i, hi, hn⟩ => absurd (okA _ _ h i hi) hn) (fun _ ⟨i, hi, hb⟩ => by
  rcases (badA _ _ h i hi).1 hb with h1 | h1
  · exact absurd rfl h1
  · exact absurd h1 (by decide)) fun _ _ => rfl
theorem w_zero (c : Cmd) (hc : c.Ok) (h : c.writes = [(nmA, [0])]) : Does Z5 G 62 [] [.agg (genX exG), .agg (cmdX c)] (fun h' r => h' = [] ∧ r = .v (.int .i64 4)) :=
 Zn7 G hG c hc 4 (fun x hx => by rw [h] at hx; simp at hx; exact .inr (by rw [hx])) (fun ⟨i, hi, hn⟩ => absurd (okA _ _ h i hi) hn) (fun _ _ => rfl) fun _ hb => absurd ((badA _ _ h 0 (by rw [h]; decide)).2 (.inr rfl)) (hb 0 (by rw [h]; decide))
include hK
theorem Zh4 (g : Gen) (hg : g.Ok) (had : g.admins.length ≤ 1000000) (master : List UInt8) (p0 ht0 : Int) (hm : master.length ≤ 1000000) (c : Cmd) (hc : c.Ok) (hcl : I64 (16 + c.client)) (z : Int)
 (hw : Does Z5 G 62 [] [.agg (genX g), .agg (cmdX c)] (fun h' r => h' = [] ∧ r = .v (.int .i64 z))) {x : Int} (hx : Uw g master c z = x) (h : List Ob) (i : Nat) (hi : h[i]? = some (X4 master p0 ht0)) :
 Does Z5 G 25 h [.agg (genX g), .ptr i 0, .agg (cmdX c)] (fun h' r => h' = h ∧ r = .v (.int .i64 x)) :=
 Zn1 hG (args := [.agg (genX g), .ptr 0 0, .agg (cmdX c)]) (Zp6 · master p0 ht0) (Zr3 1 master p0 ht0) (by rw [lowL, lowL, lowL, lowL, low]; exact ⟨Vz hg 1, by rw [low]; omega, W0 _ _, trivial⟩) (by rw [low]; trivial) (hx ▸ check0 G hG hK g hg had master p0 ht0 hm c hc hcl z hw) hi (by
  have e1 := Yt (fun _ => i) [D.agg (genX g)] (by rw [lowL, lowL, low]; exact ⟨Vz hg 0, trivial⟩)
  have e2 := Yt (fun _ => i) [D.agg (cmdX c)] (by rw [lowL, lowL]; exact ⟨W0 _ _, trivial⟩)
  simp only [renL, ren] at e1 e2 ⊢
  rw [List.cons.injEq] at e1 e2
  rw [e1.1, e2.1])
theorem Zl5 (g : Gen) (hg : g.Ok) (master : List UInt8) (p0 ht0 : Int) (hm : master.length ≤ 1000000) (cl n : Int) (tag : List UInt8) (hcl : I64 cl) (hc2 : I64 (16 + cl)) (hn : I64 n) {x : Int} (hx : Vi g master cl n tag = x) (h : List Ob) (i : Nat) (hi : h[i]? = some (X4 master p0 ht0)) :
 Does Z5 G 30 h [.agg (genX g), .ptr i 0, .agg (rdX cl n tag)] (fun h' r => h' = h ∧ r = .v (.int .i64 x)) := by
 have lrd : ∀ m, lowL m (rdX cl n tag) := fun m => by rw [rdX, lowL, lowL, lowL, lowL]; exact ⟨by rw [low]; trivial, by rw [low]; trivial, Yb _ _, trivial⟩
 exact Zn1 hG (args := [.agg (genX g), .ptr 0 0, .agg (rdX cl n tag)]) (Zp6 · master p0 ht0) (Zr3 1 master p0 ht0) (by rw [lowL, lowL, lowL, lowL, low, low, low]; exact ⟨Vz hg 1, by omega, lrd 1, trivial⟩) (by rw [low]; trivial) (hx ▸ checkRead0 G hG hK g hg master p0 ht0 hm cl n tag hcl hc2 hn) hi (by
  have e1 := Yt (fun _ => i) [D.agg (genX g)] (by rw [lowL, lowL, low]; exact ⟨Vz hg 0, trivial⟩)
  have e2 := Yt (fun _ => i) [D.agg (rdX cl n tag)] (by rw [lowL, lowL, low]; exact ⟨lrd 0, trivial⟩)
  simp only [renL, ren] at e1 e2 ⊢
  rw [List.cons.injEq] at e1 e2
  rw [e1.1, e2.1])
theorem sign_at (master : List UInt8) (p ht : Int) (hp : I64 p) (hm : master.length ≤ 1000000) (hh : ht ≤ 0) (c : Cmd) (hc : c.Ok) (h : List Ob) (i : Nat) (hi : h[i]? = some (X4 master p ht)) :
 Does Z5 G 32 h [.ptr i 0, .agg (cmdX c)] (fun h' r => h' = h ∧ r = .tup [.agg (cmdX { c with tag := Xm master p 0 (V5 c) }), .v (.int .i64 0)]) :=
 Zn1 hG (args := [.ptr 0 0, .agg (cmdX c)]) (Zp6 · master p ht) (Zr3 1 master p ht) (by rw [lowL, lowL, lowL]; exact ⟨by simp [low], W0 _ _, trivial⟩) (by rw [low, lowL, lowL, lowL]; exact ⟨W0 _ _, by rw [low]; trivial, trivial⟩) (cSign0 G hG hK master p ht hp hm hh c hc) hi (by
  have e2 := Yt (fun _ => i) [D.agg (cmdX c)] (by rw [lowL, lowL]; exact ⟨W0 _ _, trivial⟩)
  simp only [renL, ren] at e2 ⊢
  rw [List.cons.injEq] at e2
  rw [e2.1])
theorem Zo3 (master : List UInt8) (p ht n : Int) (hp : I64 p) (hp2 : I64 (p - 16)) (hn : I64 n) (hm : master.length ≤ 1000000) (hh : ht ≤ 0) (h : List Ob) (i : Nat) (hi : h[i]? = some (X4 master p ht)) :
 Does Z5 G 28 h [.ptr i 0, .v (.int .i64 n)] (fun h' r => h' = h ∧ r = .tup [.agg (rdX (p - 16) n (Xm master p 0 (Yd (p - 16) n))), .v (.int .i64 0)]) := by
 have lrd : ∀ m cl tag, lowL m (rdX cl n tag) := fun m cl tag => by rw [rdX, lowL, lowL, lowL, lowL]; exact ⟨by rw [low]; trivial, by rw [low]; trivial, Yb _ _, trivial⟩
 exact Zn1 hG (args := [.ptr 0 0, .v (.int .i64 n)]) (Zp6 · master p ht) (Zr3 1 master p ht) (by rw [lowL, lowL, lowL]; exact ⟨by simp [low], by rw [low]; trivial, trivial⟩) (by rw [low, lowL, lowL, lowL]; exact ⟨by rw [low]; exact lrd _ _ _, by rw [low]; trivial, trivial⟩) (cSignRead0 G hG hK master p ht n hp hp2 hn hm hh) hi (by
  simp only [renL, ren])
end
theorem bodyA : V5 exA = V5 exC := rfl
theorem bodyB : V5 exB = V5 exX := rfl
theorem chk_a : Uw exG sS exA 0 = 0 := by
 have h : decide (exA.tag = Xm sS (16 + exA.client) 0 (V5 exA)) = true := decide_eq_true (by rw [bodyA]; rfl)
 rw [Uw, h]; rfl
theorem chk_c : Uw exG sS exC 0 = 10 := by
 have h : decide (exC.tag = Xm sS (16 + exC.client) 0 (V5 exC)) = false := decide_eq_false fun e => by
  have := congrArg List.length e
  rw [Jz] at this; cases this
 rw [Uw, h]; rfl
theorem chk_a2 : Uw exG sS exA2 4 = 4 := by
 rw [Uw]
 generalize decide (exA2.tag = Xm sS (16 + exA2.client) 0 (V5 exA2)) = b
 rfl
theorem chk_b : Uw exG sS exB 0 = 0 := by
 have h : decide (exB.tag = Xm sS (16 + exB.client) 0 (V5 exB)) = true := decide_eq_true (by rw [bodyB]; rfl)
 rw [Uw, h]; rfl
theorem chk_x3 : Uw exG sS exX3 0 = 5 := by
 rw [Uw]
 generalize decide (exX3.tag = Xm sS (16 + exX3.client) 0 (V5 exX3)) = b
 rfl
theorem chk_r : Vi exG sS 1 4 (Xm sS 17 0 (Yd 1 4)) = 0 := by
 have h : decide (Xm sS 17 0 (Yd 1 4) = Xm sS (16 + 1) 0 (Yd 1 4)) = true := decide_eq_true rfl
 rw [Vi, h]; rfl
theorem cmp_ca : cmpC exC exA = -1 := by
 have h : Lib.compareBytes (encC exC) (encC exA) = -1 := by
  have e1 : encC exC = Ww exC ++ [0] := by
   show Ww exC ++ (X3 0 ++ []) = _
   rw [X3, if_pos (by decide)]; rfl
  have e2 : encC exA = Ww exC ++ ([32] ++ exA.tag) := by
   show Ww exC ++ (X3 exA.tag.length ++ exA.tag) = _
   have h3 : exA.tag.length = 32 := Jz _ _ _ _
   rw [h3, X3, if_pos (by decide)]; rfl
  rw [e1, e2, Jv]; rfl
 rw [cmpC, h]; rfl
end
section
attribute [local irreducible] on aOp
attribute [local go_sem] decide_true decide_false Zh Ze
attribute [local simp] byD_len
theorem xC_eq : cmdX exC = [.v (.int .i64 1), .v (.int .i64 1), .v (.int .i64 1), .sl 2 ([(nmA, [10])].map wrX), .v (.int .i64 0), .sl 1 []] := rfl
theorem xA_eq : cmdX exA = [.v (.int .i64 1), .v (.int .i64 1), .v (.int .i64 1), .sl 2 ([(nmA, [10])].map wrX), .v (.int .i64 0), .sl 1 (byD exA.tag)] := rfl
theorem xX_eq : cmdX exX = [.v (.int .i64 0), .v (.int .i64 1), .v (.int .i64 2), .sl 2 [], .v (.int .i64 2), .sl 1 []] := rfl
theorem xB_eq : cmdX exB = [.v (.int .i64 0), .v (.int .i64 1), .v (.int .i64 2), .sl 2 [], .v (.int .i64 2), .sl 1 (byD exB.tag)] := rfl
theorem nilc50 : nilCmp Z5 .eql 50 = some (.v (.bool false)) := by kernel_rfl
theorem Zx2 (x y : Operand) (i o : Nat) : binD Z5 .eql 50 x y (.ptr i o) (.v (.pointer none)) = some (.v (.bool false)) := nilc50
variable (G : Nat → D) (hG : ∀ g, low 0 (G g)) (hK : G 1 = .rp (shaK.map zD))
include hG hK
theorem awake0 : Does Z5 G 11 [] [] (fun h' r => h' = [] ∧ r = .v (.bool true)) := by
 have hm : sS.length ≤ 1000000 := by decide
 have had : exG.admins.length ≤ 1000000 := by decide
 have hex := example_d G hG
 have hnew17 := new_d G hG sS 17 hm
 have hnew16 := new_d G hG sS 16 hm
 have hgen := Zb4 hG (by rw [lowL, lowL, low]; exact ⟨Vz Za8 0, trivial⟩) (by rw [low]; trivial) (by kernel_rfl) (gen_run G)
 have hobj := Zb4 hG (args := [.agg (genX exG), .v (.string nmA)]) (by rw [lowL, lowL, lowL, low]; exact ⟨Vz Za8 0, by simp [low], trivial⟩) (by simp [low, lowL, latA, lowR]) (by kernel_rfl) (obj_run G)
 have hsig1 : ∀ h i, h[i]? = some (X4 sS 17 0) → Does Z5 G 32 h [.ptr i 0, .agg (cmdX exC)] (fun h' r => h' = h ∧ r = .tup [.agg (cmdX exA), .v (.int .i64 0)]) := sign_at G hG hK sS 17 0 (by decide) hm (by omega) exC exC_ok
 have hsig2 : ∀ h i, h[i]? = some (X4 sS 16 0) → Does Z5 G 32 h [.ptr i 0, .agg (cmdX exX)] (fun h' r => h' = h ∧ r = .tup [.agg (cmdX exB), .v (.int .i64 0)]) := sign_at G hG hK sS 16 0 (by decide) hm (by omega) exX exX_ok
 have hc1 := Zh4 G hG hK exG Za8 had sS 16 0 hm exA Zw7 (by decide) 0 (w_ten G hG exA Zw7 rfl) chk_a
 have hc2 := Zh4 G hG hK exG Za8 had sS 16 0 hm exC exC_ok (by decide) 0 (w_ten G hG exC exC_ok rfl) chk_c
 have hc3 := Zh4 G hG hK exG Za8 had sS 17 0 hm exA2 exA2_ok (by decide) 4 (w_zero G hG exA2 exA2_ok rfl) chk_a2
 have hc4 := Zh4 G hG hK exG Za8 had sS 17 0 hm exB exB_ok (by decide) 0 (w_none G hG exB exB_ok rfl) chk_b
 have hc5 := Zh4 G hG hK exG Za8 had sS 17 0 hm exX3 exX3_ok (by decide) 0 (w_none G hG exX3 exX3_ok rfl) chk_x3
 have henc := Yc0 G hG exA Zw7
 have hdec : ∀ h, Does Z5 G 18 h [.sl 1 (byD (encC exA))] (fun h' r => h' = h ∧ r = .tup [.agg (cmdX exA), .v (.int .i64 0)]) := fun h => by
  have := decode_p G hG (encC exA) (by have := Zh2 exA Zw7; omega)
  rw [decC_enc Zw7] at this
  exact Yf G hG (by rw [lowL, lowL]; exact ⟨Yb _ _, trivial⟩) (by rw [low, lowL, lowL, lowL]; exact ⟨W0 _ _, by rw [low]; trivial, trivial⟩) this h
 have hcmp : ∀ h, Does Z5 G 27 h [.agg (cmdX exC), .agg (cmdX exA)] (fun h' r => h' = h ∧ r = .v (.int .i64 (-1))) := cmp_ca ▸ compare_d G hG exC exA exC_ok Zw7
 have hsr : ∀ h i, h[i]? = some (X4 sS 17 0) → Does Z5 G 28 h [.ptr i 0, .v (.int .i64 4)] (fun h' r => h' = h ∧ r = .tup [.agg (rdX 1 4 (Xm sS 17 0 (Yd 1 4))), .v (.int .i64 0)]) := Zo3 G hG hK sS 17 0 4 (by decide) (by decide) (by decide) hm (by omega)
 have hcr := Zl5 G hG hK exG Za8 sS 16 0 hm 1 4 (Xm sS 17 0 (Yd 1 4)) (by decide) (by decide) (by decide) chk_r
 generalize hgt : Xm sS 17 0 (Yd 1 4) = rtag at hsr hcr
 have hgx2 : genX exG = [.v (.int .i64 1), .v (.int .i64 3), .sl 1 ([0, 1].map intX), .v (.int .i64 2), .sl 1 ([0].map intX), .sl 7 ([(nmA, latA)].map obX)] := rfl
 refine Y5 Tryz.func11 rfl (Zb rfl) hG fun hl0 _ => ?_
 simp only [Tryz.ntmps11]
 repeat' first
  | (refine W2 (t := 18) rfl rfl (tri_cvbuf (j := 1) (n := 1) (l := sS) (t := 38) (el := 5) (by simp only [go_sem, ↓reduceIte]) (by kernel_rfl) (by kernel_rfl) rfl rfl (by decide)) ?_)
  | (refine W2 (t := 21) rfl rfl (tri_cvbuf (j := 3) (n := 1) (l := sS) (t := 38) (el := 5) (by simp only [go_sem, ↓reduceIte]) (by kernel_rfl) (by kernel_rfl) rfl rfl (by decide)) ?_)
  | (refine ao1 (t := 34) rfl rfl fun K HK => ?_; simp only [go_sem, ↓reduceIte, Z0, Z2, Z1, Z3, Z4]; refine HK _ _ ?_; clear HK K; refine Jr 5 34 (.sl 1 (byD [10])) rfl ?_)
  | (refine ao1 (t := 36) rfl rfl fun K HK => ?_; simp only [go_sem, ↓reduceIte, Z0, Z2, Z1, Z3, Z4]; refine HK _ _ ?_; clear HK K; refine Jr 6 36 (.sl 2 ([(nmA, [10])].map wrX)) rfl ?_)
  | (refine ao1 (t := 37) rfl rfl fun K HK => ?_; simp only [go_sem, ↓reduceIte, Z0, Z2, Z1, Z3, Z4]; refine HK _ _ ?_; clear HK K; refine ao_weak 37 (.agg (cmdX exC)) (Yd1 (by repeat' first | exact rdL_end | refine Zz2 ?_ | refine Zz1 _ ?_)) ?_)
  | (refine ao1 (t := 66) rfl rfl fun K HK => ?_; simp only [go_sem, ↓reduceIte, Z0, Z2, Z1, Z3, Z4]; refine HK _ _ ?_; clear HK K; refine Jr 10 66 (.sl 1 (byD [0])) rfl ?_)
  | (refine ao1 (t := 68) rfl rfl fun K HK => ?_; simp only [go_sem, ↓reduceIte, Z0, Z2, Z1, Z3, Z4]; refine HK _ _ ?_; clear HK K; refine Jr 11 68 (.sl 2 ([(nmA, [0])].map wrX)) rfl ?_)
  | (refine ao1 (t := 96) rfl rfl fun K HK => ?_; simp only [go_sem, ↓reduceIte, Z0, Z2, Z1, Z3, Z4]; refine HK _ _ ?_; clear HK K; refine ao_weak 96 (.agg (cmdX exX)) (Yd1 (by repeat' first | exact rdL_end | refine Zz2 ?_ | refine Zz1 _ ?_)) ?_)
  | refine sA rfl ?_ | refine sI rfl rfl ?_ | refine sT rfl ?_
  | refine Y4 ?_
  | (refine ao1 rfl rfl fun K HK => ?_; (first | refine Y7 rfl ?_ | skip); simp only [go_sem, ↓reduceIte, Z0, Z2, Z1, Z3, Z4, Z6, Z7, Z8, hgx2, Zx2, xC_eq, xA_eq, xX_eq, xB_eq, Zq0, latA, Za]; (first | refine W7 (fun hq => ?_) (fun hq => ?_) | skip) <;> (refine HK _ _ ?_; clear HK K))
  | refine ao0 rfl rfl ?_
  | (refine ao2 rfl rfl rfl ent_36 (hex _) ?_; rintro _ _ ⟨rfl, rfl⟩)
  | (refine ao2 rfl rfl rfl ent_24 (hnew17 _) ?_; rintro _ _ ⟨rfl, rfl⟩)
  | (refine ao2 rfl rfl rfl ent_24 (hnew16 _) ?_; rintro _ _ ⟨rfl, rfl⟩)
  | (refine ao2 rfl rfl rfl ent_14 (hgen _) ?_; rintro _ _ ⟨rfl, rfl⟩)
  | (refine ao2 rfl rfl rfl ent_12 (hobj _) ?_; rintro _ _ ⟨rfl, rfl⟩)
  | (refine ao2 rfl rfl rfl ent_32 (hsig1 _ _ rfl) ?_; rintro _ _ ⟨rfl, rfl⟩)
  | (refine ao2 rfl rfl rfl ent_32 (hsig2 _ _ rfl) ?_; rintro _ _ ⟨rfl, rfl⟩)
  | (refine ao2 rfl rfl rfl ent_25 (hc1 _ _ rfl) ?_; rintro _ _ ⟨rfl, rfl⟩)
  | (refine ao2 rfl rfl rfl ent_25 (hc2 _ _ rfl) ?_; rintro _ _ ⟨rfl, rfl⟩)
  | (refine ao2 rfl rfl rfl ent_25 (hc3 _ _ rfl) ?_; rintro _ _ ⟨rfl, rfl⟩)
  | (refine ao2 rfl rfl rfl ent_25 (hc4 _ _ rfl) ?_; rintro _ _ ⟨rfl, rfl⟩)
  | (refine ao2 rfl rfl rfl ent_25 (hc5 _ _ rfl) ?_; rintro _ _ ⟨rfl, rfl⟩)
  | (refine ao2 rfl rfl rfl ent_17 (henc _) ?_; rintro _ _ ⟨rfl, rfl⟩)
  | (refine ao2 rfl rfl rfl ent_18 (hdec _) ?_; rintro _ _ ⟨rfl, rfl⟩)
  | (refine ao2 rfl rfl rfl ent_27 (hcmp _) ?_; rintro _ _ ⟨rfl, rfl⟩)
  | (refine ao2 rfl rfl rfl ent_28 (hsr _ _ rfl) ?_; rintro _ _ ⟨rfl, rfl⟩)
  | (refine ao2 rfl rfl rfl ent_30 (hcr _ _ rfl) ?_; rintro _ _ ⟨rfl, rfl⟩)
  | (refine ao1' rfl fun K HK => ?_; simp only [go_sem, ↓reduceIte, Z0, Z2, Z1, Z3, Z4, Z6, Z7, Z8, hgx2, Zx2, xC_eq, xA_eq, xX_eq, xB_eq, Zq0, latA, Za]; refine HK _ _ ?_; clear HK K)
  | (exfalso; omega)
 exact ⟨.inr rfl, endX [.v (.bool true)] [] _ (.v (.bool true)) rfl rfl (Zg _) (fun x hx => by cases hx) (by rw [low]; trivial) rfl ⟨rfl, rfl⟩⟩
theorem awake_d (h : List Ob) : Does Z5 G 11 h [] (fun h' r => h' = h ∧ r = .v (.bool true)) := Yf G hG (by rw [lowL]; trivial) (by rw [low]; trivial) (awake0 G hG hK) h
end
section
attribute [local irreducible] on aOp
attribute [local simp] byD_len
end
section
theorem bl_eq : ∀ (x y : List UInt8), Op.bytesLess x y = decide (x < y)
 | [], [] => by simp [Op.bytesLess]
 | _ :: _, [] => by simp [Op.bytesLess]
 | [], _ :: _ => by simp [Op.bytesLess]
 | a :: x, b :: y => by
  rw [Op.bytesLess, bl_eq x y]
  by_cases h : a < b <;> by_cases h2 : a = b <;> simp [List.cons_lt_cons_iff, h, h2]
def LtC (a b : Cmd) : Prop := a.client < b.client ∨ (a.client = b.client ∧ (a.seq < b.seq ∨ (a.seq = b.seq ∧ encC a < encC b)))
def EqC (a b : Cmd) : Prop := a.client = b.client ∧ a.seq = b.seq ∧ encC a = encC b
theorem LtC.trans {a b c : Cmd} (h : LtC a b) (k : LtC b c) : LtC a c := by
 rcases h with h | ⟨h0, h | ⟨h1, h⟩⟩ <;> rcases k with k | ⟨k0, k | ⟨k1, k⟩⟩
 · exact .inl (by omega)
 · exact .inl (by omega)
 · exact .inl (by omega)
 · exact .inl (by omega)
 · exact .inr ⟨by omega, .inl (by omega)⟩
 · exact .inr ⟨by omega, .inl (by omega)⟩
 · exact .inl (by omega)
 · exact .inr ⟨by omega, .inl (by omega)⟩
 · exact .inr ⟨by omega, .inr ⟨by omega, List.lt_trans h k⟩⟩
theorem EqC.left {a b c : Cmd} (h : EqC a b) (k : LtC b c) : LtC a c := by
 obtain ⟨h1, h2, h3⟩ := h
 unfold LtC at k ⊢
 rw [h1, h2, h3]; exact k
theorem EqC.right {a b c : Cmd} (h : EqC b c) (k : LtC a b) : LtC a c := by
 obtain ⟨h1, h2, h3⟩ := h
 unfold LtC at k ⊢
 rw [← h1, ← h2, ← h3]; exact k
end
section
attribute [local irreducible] on aOp
attribute [local go_sem] decide_true decide_false Zh Ze
attribute [local simp] byD_len
@[go_sem] theorem b_beql {x y : Operand} {a c : Bool} : binV Z5 .eql 4 x y (.bool a) (.bool c) = some (.v (.bool (decide (a = c)))) := by cases a <;> cases c <;> kernel_rfl
@[go_sem] theorem b_bneq {x y : Operand} {a c : Bool} : binV Z5 .neq 4 x y (.bool a) (.bool c) = some (.v (.bool (!decide (a = c)))) := by cases a <;> cases c <;> kernel_rfl
def Nums (c : Cmd) : Prop := I64 c.client ∧ I64 c.seq ∧ I64 c.kind ∧ I64 c.replica
def smallY (x : ByteArray × List UInt8) : Prop := x.2.length ≤ 600 ∧ x.1.size ≤ 100
def smallK (c : Cmd) : Prop := c.writes.length ≤ 8 ∧ c.tag.length ≤ 600 ∧ -1000 ≤ c.client ∧ c.client ≤ 1000 ∧ ∀ x ∈ c.writes, smallY x
instance (x : ByteArray × List UInt8) : Decidable (smallY x) := inferInstanceAs (Decidable (_ ∧ _))
instance (c : Cmd) : Decidable (smallK c) := inferInstanceAs (Decidable (_ ∧ _))
theorem ba_eq {a b : List UInt8} : ((⟨a.toArray⟩ : ByteArray) = ⟨b.toArray⟩) ↔ a = b := by
 constructor
 · intro h; have := congrArg (fun x => x.data.toList) h; simpa using this
 · intro h; rw [h]
variable (G : Nat → D) (hG : ∀ g, low 0 (G g))
include hG
end
end Go.Proofs.YtgkjcmglcnhpaaaGreatDoor
