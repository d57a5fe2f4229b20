/-
  What the statements of the chapter share, part 24: RS4, LG3, TR1.
-/
import Derived.Test.YtgkjcmglcnhpaaaGreatDoorR18
import Derived.Test.YtgkjcmglcnhpaaaGreatDoorR23
set_option linter.unusedVariables false
set_option linter.unusedSimpArgs false
set_option maxRecDepth 100000
set_option maxHeartbeats 8000000
namespace Go.Proofs.YtgkjcmglcnhpaaaGreatDoor
open _root_.Bool renaming false_eq_true → Z2, not_false → Zf, not_true → Zg
open _root_.Int renaming reduceEq → Z6, reduceLT → Z7, reduceLE → Z8, toNat_natCast → Za
open _root_.List renaming length_map → Z9, getElem?_eq_getElem → Zc, length_append → Ze
open _root_.Nat renaming reduceEqDiff → Z0, reduceLeDiff → Z1, reduceAdd → Z3, reduceBEq → Z4, reduceMul → Z5, le_of_ble_eq_true → Zb
open _root_.Go.Proofs.Tryz renaming prog → Zd
open Go.RowKit
section
attribute [local irreducible] on aOp
attribute [local go_sem] decide_true decide_false Zg Zf
attribute [local simp] byD_len
variable (G : Nat → D) (hG : ∀ g, low 0 (G g))
include hG
theorem rderive_d (master : List UInt8) (p ht : Int) (hp : I64 p) (hh : I64 ht) (hm : master.length ≤ 1000000) (h : List Ob) : Does Zd G 102 h [.sl 1 (byD master), .v (.int .i64 p), .v (.int .i64 ht)] (fun h' r => h' = h ∧ r = .sl 1 (byD (Up master p ht))) := by
 refine Yf G hG (by simp only [lowL, low]; exact ⟨Yb _ _, trivial, trivial, trivial⟩) (Yb _ _) ?_ h
 have h1 := Xq hp
 have h2 := Xq hh
 have h3 : (Yv keyS).length = 4 := by unfold Yv; rw [Wg (show keyS.size < 128 by decide)]; rfl
 refine Y5 Tryz.func102 rfl (Zb rfl) hG fun hl0 _ => ?_
 simp only [Tryz.ntmps102]
 repeat' first
  | (with_reducible first | refine sA rfl ?_ | refine sT rfl ?_)
  | (with_reducible refine Y8 ?_; first | refine Y4 ?_ | (refine ao1 rfl rfl fun K HK => ?_; simp only [go_sem, ↓reduceIte, Z0, Z3, Z1, Z4, Z5, Z6, Z7, Z8] <;> (refine HK _ _ ?_; clear HK K)) | (refine ao2 rfl rfl rfl ent_56 (Does.arg0 (sText G hG [] (s := keyS) (by decide) (by simp) _) Zk9) ?_; rintro _ _ ⟨rfl, rfl⟩) | (refine ao2 rfl rfl rfl ent_86 (sInt G hG (Yv keyS) hp (by omega) _) ?_; rintro _ _ ⟨rfl, rfl⟩) | (refine ao2 rfl rfl rfl ent_86 (sInt G hG (Yv keyS ++ intE p) hh (by rw [Ze]; omega) _) ?_; rintro _ _ ⟨rfl, rfl⟩) | (refine ao2 rfl rfl rfl ent_101 (rtag_d G hG master (Yv keyS ++ intE p ++ intE ht) hm (by simp only [Ze]; omega) _) ?_; rintro _ _ ⟨rfl, rfl⟩))
 exact ⟨.inr rfl, endD (r := .sl 1 (byD (Up master p ht))) hl0 rfl (by simp) (by simp) (by unfold Up; rw [← List.append_assoc]; rfl) (Yb _ _) ⟨rfl, rfl⟩⟩
theorem rsign_d (master : List UInt8) (p ht : Int) (m : List UInt8) (hp : I64 p) (hh : I64 ht) (hm : master.length ≤ 1000000) (hml : m.length ≤ 80000000) (h : List Ob) : Does Zd G 74 h [.sl 1 (byD master), .v (.int .i64 p), .v (.int .i64 ht), .sl 1 (byD m)] (fun h' r => h' = h ∧ r = .sl 1 (byD (Xm master p ht m))) := by
 refine Yf G hG (by simp only [lowL, low]; exact ⟨Yb _ _, trivial, trivial, Yb _ _, trivial⟩) (Yb _ _) ?_ h
 have hd := Ze2 master p ht
 refine Y5 Tryz.func74 rfl (Zb rfl) hG fun hl0 _ => ?_
 simp only [Tryz.ntmps74]
 repeat' first
  | (with_reducible first | refine sA rfl ?_ | refine sT rfl ?_)
  | (with_reducible refine Y8 ?_; first | refine Y4 ?_ | (refine ao1 rfl rfl fun K HK => ?_; simp only [go_sem, ↓reduceIte, Z0, Z3, Z1, Z4, Z5, Z6, Z7, Z8] <;> (refine HK _ _ ?_; clear HK K)) | (refine ao2 rfl rfl rfl ent_102 (rderive_d G hG master p ht hp hh hm _) ?_; rintro _ _ ⟨rfl, rfl⟩) | (refine ao2 rfl rfl rfl ent_101 (rtag_d G hG (Up master p ht) m (by omega) (by omega) _) ?_; rintro _ _ ⟨rfl, rfl⟩))
 exact ⟨.inr rfl, endD (r := .sl 1 (byD (Xm master p ht m))) hl0 rfl (by simp) (by simp) rfl (Yb _ _) ⟨rfl, rfl⟩⟩
theorem rverify_d (master : List UInt8) (p ht : Int) (m tag : List UInt8) (hp : I64 p) (hh : I64 ht) (hm : master.length ≤ 1000000) (hml : m.length ≤ 80000000) {b : Bool} (hb : decide (tag = Xm master p ht m) = b) (h : List Ob) : Does Zd G 67 h [.sl 1 (byD master), .v (.int .i64 p), .v (.int .i64 ht), .sl 1 (byD m), .sl 1 (byD tag)] (fun h' r => h' = h ∧ r = .v (.bool b)) := by
 refine Yf G hG (by simp only [lowL, low]; exact ⟨Yb _ _, trivial, trivial, Yb _ _, Yb _ _, trivial⟩) (by rw [low]; trivial) ?_ h
 have hs := rsign_d G hG master p ht m hp hh hm hml
 generalize Xm master p ht m = S at hs hb
 have hq : ((⟨S.toArray⟩ : ByteArray) = ⟨tag.toArray⟩) = (b = true) := by
  rw [← hb, decide_eq_true_eq]
  exact propext ⟨fun h => (ba_eq.1 h).symm, fun h => ba_eq.2 h.symm⟩
 clear hb
 refine Y5 Tryz.func67 rfl (Zb rfl) hG fun hl0 _ => ?_
 simp only [Tryz.ntmps67]
 cases b
 all_goals
  repeat' first
   | (with_reducible first | refine sA rfl ?_ | refine sT rfl ?_)
   | (with_reducible refine Xe ?_; first | refine Ya mixd (by kernel_rfl) ?_)
   | (with_reducible refine Y8 ?_; first | refine Y4 ?_ | (refine ao1 rfl rfl fun K HK => ?_; simp only [go_sem, ↓reduceIte, Z0, Z3, Z1, Z4, Z5, Z6, Z7, Z8, hq, Z2] <;> (refine HK _ _ ?_; clear HK K)))
   | (with_reducible refine Ws ?_; first | (refine aq1 rfl rfl fun K HK => ?_; simp only [go_sem, ↓reduceIte, Z0, Z3, Z1, Z4, Z5, Z6, Z7, Z8, hq, Z2]; refine bst_by (n := 1) byT_38 strT_9 ?_; refine HK _ _ rfl ?_; clear HK K) | (refine aq1 rfl rfl fun K HK => ?_; simp only [go_sem, ↓reduceIte, Z0, Z3, Z1, Z4, Z5, Z6, Z7, Z8, hq, Z2] <;> (refine HK _ _ rfl ?_; clear HK K)) | refine X2 ?_ | refine aq2 rfl rfl rfl ent_74 (hs _) ?_)
  exact ⟨.inr rfl, endV hl0 rfl rfl ⟨rfl, rfl⟩⟩
theorem Zp3 (a b : Int) (ha : I64 a) (hb : I64 b) (h : List Ob) : Does Zd G 75 h [.v (.int .i64 a), .v (.int .i64 b)] (fun h' r => h' = h ∧ r = .sl 1 (byD (Yd a b))) := by
 refine Yf G hG (by simp [lowL, low]) (Yb _ _) ?_ h
 have h1 := Xq ha
 have h3 := Zf1
 refine Y5 Tryz.func75 rfl (Zb rfl) hG fun hl0 _ => ?_
 simp only [Tryz.ntmps75]
 repeat' first
  | (with_reducible first | refine sA rfl ?_ | refine sT rfl ?_)
  | (with_reducible refine Y8 ?_; first | refine Y4 ?_ | (refine ao1 rfl rfl fun K HK => ?_; simp only [go_sem, ↓reduceIte, Z0, Z3, Z1, Z4, Z5, Z6, Z7, Z8] <;> (refine HK _ _ ?_; clear HK K)) | (refine ao2 rfl rfl rfl ent_56 (Does.arg0 (sText G hG [] (s := Zu1) (by decide) (by simp) _) Zk9) ?_; rintro _ _ ⟨rfl, rfl⟩) | (refine ao2 rfl rfl rfl ent_86 (sInt G hG (Yv Zu1) ha (by omega) _) ?_; rintro _ _ ⟨rfl, rfl⟩) | (refine ao2 rfl rfl rfl ent_86 (sInt G hG (Yv Zu1 ++ intE a) hb (by rw [Ze]; omega) _) ?_; rintro _ _ ⟨rfl, rfl⟩))
 exact ⟨.inr rfl, endD (r := .sl 1 (byD (Yd a b))) hl0 rfl (by simp) (by simp) (by unfold Yd; rw [← List.append_assoc]; rfl) (Yb _ _) ⟨rfl, rfl⟩⟩
theorem rsignRead_d (master : List UInt8) (cl n : Int) (hcl : I64 cl) (hc2 : I64 (16 + cl)) (hn : I64 n) (hm : master.length ≤ 1000000) (h : List Ob) : Does Zd G 29 h [.sl 1 (byD master), .v (.int .i64 cl), .v (.int .i64 n)] (fun h' r => h' = h ∧ r = .agg (rdX cl n (Xm master (16 + cl) 0 (Yd cl n)))) := by
 have lrd : lowL 0 (rdX cl n (Xm master (16 + cl) 0 (Yd cl n))) := by rw [rdX, lowL, lowL, lowL, lowL]; exact ⟨by rw [low]; trivial, by rw [low]; trivial, Yb _ _, trivial⟩
 refine Yf G hG (by simp only [lowL, low]; exact ⟨Yb _ _, trivial, trivial, trivial⟩) (by rw [low]; exact lrd) ?_ h
 have hl := Wz hcl hn
 have wcl : IntKind.i64.wrap (16 + cl) = 16 + cl := IntWalk.i64_in _ hc2
 have hs := rsign_d G hG master (16 + cl) 0 (Yd cl n) hc2 (by unfold I64; omega) hm (by omega)
 refine Y5 Tryz.func29 rfl (Zb rfl) hG fun hl0 _ => ?_
 simp only [Tryz.ntmps29]
 repeat' first
  | (with_reducible first | refine sA rfl ?_ | refine sT rfl ?_)
  | (with_reducible refine Y8 ?_; first | refine Y4 ?_ | (refine ao1 rfl rfl fun K HK => ?_; simp only [go_sem, ↓reduceIte, Z0, Z3, Z1, Z4, Z5, Z6, Z7, Z8, wcl] <;> (refine HK _ _ ?_; clear HK K)) | (refine ao2 rfl rfl rfl ent_75 (Zp3 G hG cl n hcl hn _) ?_; rintro _ _ ⟨rfl, rfl⟩) | (refine ao2 rfl rfl rfl ent_74 (hs _) ?_; rintro _ _ ⟨rfl, rfl⟩) | (refine ao1' rfl fun K HK => ?_; simp only [go_sem, ↓reduceIte, Z0, Z3, Z1, Z4, Z5, Z6, Z7, Z8, wcl]; refine HK _ _ ?_; clear HK K))
 exact ⟨.inr rfl, endD (r := .agg (rdX cl n (Xm master (16 + cl) 0 (Yd cl n)))) hl0 rfl (by simp) (by simp) rfl (by rw [low]; exact lrd) ⟨rfl, rfl⟩⟩
theorem rcheckRead_d (g : Gen) (hg : g.Ok) (master : List UInt8) (hm : master.length ≤ 1000000) (cl n : Int) (tag : List UInt8) (hcl : I64 cl) (hc2 : I64 (16 + cl)) (hn : I64 n) {x : Int} (hx : Vi g master cl n tag = x) (h : List Ob) :
 Does Zd G 31 h [.agg (genX g), .sl 1 (byD master), .agg (rdX cl n tag)] (fun h' r => h' = h ∧ r = .v (.int .i64 x)) := by
 have lrd : lowL 0 (rdX cl n tag) := by rw [rdX, lowL, lowL, lowL, lowL]; exact ⟨by rw [low]; trivial, by rw [low]; trivial, Yb _ _, trivial⟩
 refine Yf G hG (by rw [lowL, lowL, lowL, lowL, low, low]; exact ⟨Vz hg 0, Yb _ _, lrd, trivial⟩) (by rw [low]; trivial) ?_ h
 subst hx
 have hl := Wz hcl hn
 have wcl : IntKind.i64.wrap (16 + cl) = 16 + cl := IntWalk.i64_in _ hc2
 have hver := fun b hb => rverify_d G hG master (16 + cl) 0 (Yd cl n) tag hc2 (by unfold I64; omega) hm (by omega) (b := b) hb
 have hbod := Zp3 G hG cl n hcl hn
 unfold Vi
 generalize decide (tag = Xm master (16 + cl) 0 (Yd cl n)) = vb at *
 replace hver := hver vb rfl
 refine Y5 Tryz.func31 rfl (Zb rfl) hG fun hl0 _ => ?_
 simp only [Tryz.ntmps31]
 cases vb
 all_goals
  repeat' first
   | (with_reducible first | refine sA rfl ?_ | refine sI rfl rfl ?_ | refine sT rfl ?_)
   | (with_reducible refine Xe ?_; first | refine Ya mixd (by kernel_rfl) ?_)
   | (with_reducible refine Y8 ?_; first | refine Y4 ?_ | (refine ao1 rfl rfl fun K HK => ?_; (first | refine Y7 rfl ?_ | skip); simp only [go_sem, ↓reduceIte, Z0, Z3, Z1, Z4, Z5, Z6, Z7, Z8, W1, Zq0, Z2, wcl]; (first | refine Y6 (fun hq => ?_) (fun hq => ?_) | skip) <;> (refine HK _ _ ?_; clear HK K)) | refine ao0 rfl rfl ?_)
   | (with_reducible refine Ws ?_; first | (refine aq1 rfl rfl fun K HK => ?_; (first | refine Y7 rfl ?_ | skip); simp only [go_sem, ↓reduceIte, Z0, Z3, Z1, Z4, Z5, Z6, Z7, Z8, W1, Zq0, Z2, wcl]; (first | refine Y6 (fun hq => ?_) (fun hq => ?_) | skip) <;> (refine HK _ _ rfl ?_; clear HK K)) | refine X2 ?_ | refine aq2 rfl rfl rfl ent_75 (hbod _) ?_ | refine aq2 rfl rfl rfl ent_67 (hver _) ?_)
  all_goals first
  | (exfalso; omega)
  | exact ⟨.inr rfl, endD (r := .v (.int .i64 5)) hl0 rfl (by simp) (by simp) rfl (by rw [low]; trivial) ⟨rfl, by rw [if_pos (by omega)]⟩⟩
  | exact ⟨.inr rfl, endD (r := .v (.int .i64 0)) hl0 rfl (by simp) (by simp) rfl (by rw [low]; trivial) ⟨rfl, by rw [if_neg (by omega)]; rfl⟩⟩
  | exact ⟨.inr rfl, endD (r := .v (.int .i64 10)) hl0 rfl (by simp) (by simp) rfl (by rw [low]; trivial) ⟨rfl, by rw [if_neg (by omega)]; rfl⟩⟩
end
section
attribute [local irreducible] on aOp
attribute [local go_sem] decide_true decide_false Zg Zf
attribute [local simp] byD_len
variable (G : Nat → D) (hG : ∀ g, low 0 (G g))
include hG
theorem rgenesis_d (g : GenL) (hg : GSm g) (h : List Ob) : Does Zd G 15 h [.agg (gnX g)] (fun h' r => h' = h ∧ r = .v (.int .i64 (genE g))) := by
 refine Yf G hG (by rw [lowL, lowL, low]; exact ⟨low_gn _ g, trivial⟩) (by rw [low]; trivial) ?_ h
 clear h
 have hfo := rrising_d G hG g.founders g.replicas hg.fo
 have had := rrising_d G hG g.admins g.clients hg.ad
 have hfl := hg.fo
 have hal := hg.ad
 have hol := hg.ob
 have bad1 : Zr8 g → genE g = 1 := fun q => by unfold genE; rw [if_pos q]
 have good1 : ¬ Zr8 g → genE g = if 64 < g.objects.length then 6 else if Xy (g.objects.map (·.1)) = false then 3 else Zu3 g.objects := fun q => by unfold genE; rw [if_neg q]
 unfold Zr8 at bad1 good1
 generalize risP g.replicas (-1) g.founders = rf at *
 generalize risP g.clients (-1) g.admins = ra at *
 generalize genE g = ge at *
 refine Y5 Tryz.func15 rfl (Zb rfl) hG fun hl0 _ => ?_
 simp only [Tryz.ntmps15]
 by_cases hb : (g.mode ≠ 1 ∧ g.mode ≠ 2) ∨ g.replicas < 1 ∨ 12 < g.replicas ∨ g.clients < 1 ∨ 6 < g.clients ∨ g.founders.length = 0 ∨ rf = false ∨ ra = false
 · obtain rfl := bad1 hb
   clear bad1 good1
   cases rf
   · skip
     repeat' first
      | (with_reducible refine Xe ?_; first
       | refine We ?_
       | refine Yx ?_
       | refine Vn rfl ?_
       | refine Uz ?_)
      | (with_reducible refine Y8 ?_; first
       | refine Y4 ?_
       | (refine ao1 rfl rfl fun K HK => ?_; (first | refine Y7 rfl ?_ | skip); simp only [go_sem, ↓reduceIte, Z0, Z3, Z1, Z4, Z5, Z6, Z7, Z8, Xd g, Z9, Z2]; (first | refine Y6 (fun hq => ?_) (fun hq => ?_) | refine W7 (fun hq => ?_) (fun hq => ?_) | skip) <;> (refine HK _ _ ?_; clear HK K))
       | refine ao0 rfl rfl ?_
       | (refine ao2 rfl rfl rfl Zh1 (hfo _) ?_; rintro _ _ ⟨rfl, rfl⟩))
      | (with_reducible refine Zg8 ?_; first
       | refine Wy ?_
       | refine J5 ?_)
     all_goals first
     | (exfalso; omega)
     | exact ⟨.inr rfl, endD (r := .v _) hl0 rfl (by simp) (by simp) rfl (by rw [low]; trivial) ⟨rfl, rfl⟩⟩
   · cases ra
     · skip
       repeat' first
        | (with_reducible refine Xe ?_; first
         | refine We ?_
         | refine Yx ?_
         | refine Vn rfl ?_
         | refine Uz ?_)
        | (with_reducible refine Y8 ?_; first
         | refine Y4 ?_
         | (refine ao1 rfl rfl fun K HK => ?_; (first | refine Y7 rfl ?_ | skip); simp only [go_sem, ↓reduceIte, Z0, Z3, Z1, Z4, Z5, Z6, Z7, Z8, Xd g, Z9, Z2]; (first | refine Y6 (fun hq => ?_) (fun hq => ?_) | refine W7 (fun hq => ?_) (fun hq => ?_) | skip) <;> (refine HK _ _ ?_; clear HK K))
         | refine ao0 rfl rfl ?_
         | (refine ao2 rfl rfl rfl Zh1 (hfo _) ?_; rintro _ _ ⟨rfl, rfl⟩)
         | (refine ao2 rfl rfl rfl Zh1 (had _) ?_; rintro _ _ ⟨rfl, rfl⟩))
        | (with_reducible refine Zg8 ?_; first
         | refine Wy ?_
         | refine J5 ?_)
       all_goals first
       | (exfalso; omega)
       | exact ⟨.inr rfl, endD (r := .v _) hl0 rfl (by simp) (by simp) rfl (by rw [low]; trivial) ⟨rfl, rfl⟩⟩
     · have hb : (g.mode ≠ 1 ∧ g.mode ≠ 2) ∨ g.replicas < 1 ∨ 12 < g.replicas ∨ g.clients < 1 ∨ 6 < g.clients ∨ g.founders.length = 0 := by
        rcases hb with h | h | h | h | h | h | h | h
        all_goals first | omega | cases h
       repeat' first
        | (with_reducible refine Xe ?_; first
         | refine We ?_
         | refine Yx ?_
         | refine W6 ?_
         | refine Vn rfl ?_
         | refine Ui rfl ?_
         | refine V1 ?_
         | refine Uz ?_)
        | (with_reducible refine Y8 ?_; first
         | refine Y4 ?_
         | (refine ao1 rfl rfl fun K HK => ?_; (first | refine Y7 rfl ?_ | skip); simp only [go_sem, ↓reduceIte, Z0, Z3, Z1, Z4, Z5, Z6, Z7, Z8, Xd g, Z9, Z2]; (first | refine Y6 (fun hq => ?_) (fun hq => ?_) | refine W7 (fun hq => ?_) (fun hq => ?_) | skip) <;> (refine HK _ _ ?_; clear HK K))
         | refine ao0 rfl rfl ?_
         | (refine ao2 rfl rfl rfl Zh1 (hfo _) ?_; rintro _ _ ⟨rfl, rfl⟩)
         | (refine ao2 rfl rfl rfl Zh1 (had _) ?_; rintro _ _ ⟨rfl, rfl⟩))
        | (with_reducible refine Zg8 ?_; first
         | refine Wy ?_
         | refine J5 ?_)
        | (exfalso; omega)
       all_goals first
       | (exfalso; omega)
       | exact ⟨.inr rfl, endD (r := .v _) hl0 rfl (by simp) (by simp) rfl (by rw [low]; trivial) ⟨rfl, rfl⟩⟩
 have hge := good1 hb
 clear bad1 good1
 obtain rfl : rf = true := by cases rf <;> simp_all
 obtain rfl : ra = true := by cases ra <;> simp_all
 have hb1 : (g.mode = 1 ∨ g.mode = 2) ∧ 1 ≤ g.replicas ∧ g.replicas ≤ 12 ∧ 1 ≤ g.clients ∧ g.clients ≤ 6 ∧ g.founders.length ≠ 0 := by
  refine ⟨?_, ?_, ?_, ?_, ?_, ?_⟩ <;> (by_cases hz : g.mode = 1 <;> by_cases hy : g.mode = 2 <;> simp_all <;> omega)
 clear hb
 by_cases h64 : 64 < g.objects.length
 · rw [if_pos h64] at hge
   repeat' first
    | (with_reducible refine Xe ?_; first
     | refine We ?_
     | refine Yx ?_
     | refine W6 ?_
     | refine Vn rfl ?_
     | refine Ui rfl ?_
     | refine V1 ?_
     | refine Uz ?_)
    | (with_reducible refine Y8 ?_; first
     | refine Y4 ?_
     | (refine ao1 rfl rfl fun K HK => ?_; (first | refine Y7 rfl ?_ | skip); simp only [go_sem, ↓reduceIte, Z0, Z3, Z1, Z4, Z5, Z6, Z7, Z8, Xd g, Z9, Z2]; (first | refine Y6 (fun hq => ?_) (fun hq => ?_) | refine W7 (fun hq => ?_) (fun hq => ?_) | skip) <;> (refine HK _ _ ?_; clear HK K))
     | refine ao0 rfl rfl ?_
     | (refine ao2 rfl rfl rfl Zh1 (hfo _) ?_; rintro _ _ ⟨rfl, rfl⟩)
     | (refine ao2 rfl rfl rfl Zh1 (had _) ?_; rintro _ _ ⟨rfl, rfl⟩))
    | (with_reducible refine Zg8 ?_; first
     | refine Wy ?_
     | refine J5 ?_)
    | (exfalso; omega)
   all_goals first
   | (exfalso; omega)
   | exact ⟨.inr rfl, endD (r := .v (.int .i64 6)) hl0 rfl (by simp) (by simp) rfl (by rw [low]; trivial) ⟨rfl, by rw [hge]⟩⟩
 rw [if_neg h64] at hge
 have m1 : ¬ (g.mode ≠ 1 ∧ g.mode ≠ 2) := by omega
 have step : ∀ (P : Prop), P → P := fun _ h => h
 repeat' first
  | (with_reducible refine Xe ?_; first
   | refine We ?_
   | refine Yx ?_
   | refine W6 ?_
   | refine Vn rfl ?_
   | refine Ui rfl ?_
   | refine V1 ?_
   | refine Uz ?_)
  | (with_reducible refine Y8 ?_; first
   | refine Y4 ?_
   | (refine ao1 rfl rfl fun K HK => ?_; (first | refine Y7 rfl ?_ | skip); simp only [go_sem, ↓reduceIte, Z0, Z3, Z1, Z4, Z5, Z6, Z7, Z8, Xd g, Z9, Z2]; (first | refine Y6 (fun hq => ?_) (fun hq => ?_) | refine W7 (fun hq => ?_) (fun hq => ?_) | skip) <;> (refine HK _ _ ?_; clear HK K))
   | refine ao0 rfl rfl ?_
   | (refine ao2 rfl rfl rfl Zh1 (hfo _) ?_; rintro _ _ ⟨rfl, rfl⟩)
   | (refine ao2 rfl rfl rfl Zh1 (had _) ?_; rintro _ _ ⟨rfl, rfl⟩))
  | (with_reducible refine Zg8 ?_; first
   | refine Wy ?_
   | refine J5 ?_)
  | (exfalso; omega)
 all_goals try (exfalso; omega)
 all_goals
  refine Yr (fun m e h' => ∃ k : Nat, k ≤ g.objects.length ∧ m = g.objects.length - k ∧ Ys (g.objects.map (·.1)) 0 = Ys (g.objects.map (·.1)) k ∧ h' = [.cells (gnX g)] ∧ e 1 = .ptr 0 0 ∧ e 3 = .v (.int .i64 k)) g.objects.length ⟨0, Nat.zero_le _, rfl, rfl, rfl, rfl, rfl⟩ ?_
  rintro m e h' ⟨k, hk, rfl, ho, rfl, e1, e3⟩
  by_cases hlt : k < g.objects.length
  · have hx : g.objects[k]? = some g.objects[k] := Zc hlt
    have hxn := names_at hx
    have wk : IntKind.i64.wrap ((k : Int) + 1) = ((k + 1 : Nat) : Int) := IntWalk.i64_in _ (by omega)
    have hn := rName_d G hG g.objects[k].1 (hg.na _ (List.getElem_mem hlt))
    generalize g.objects[k] = x at hx hn hxn
    rcases Nat.eq_zero_or_pos k with h0 | h0
    · subst h0
      have ho2 := ris_0 hxn
      cases hnb : Vc x.1 <;> rw [hnb] at hn ho2
      · have e0 : Xy (g.objects.map (·.1)) = false := by rw [← Vx, ho2]; rfl
        rw [if_pos e0] at hge
        repeat' first
         | (with_reducible refine Xe ?_; first
          | refine We ?_
          | refine Yx ?_
          | refine W6 ?_
          | refine Vn rfl ?_
          | refine Ui rfl ?_
          | refine V1 ?_
          | refine U2 ?_
          | refine Uz ?_
          | refine Ya mixd (by kernel_rfl) ?_)
         | (with_reducible refine Y8 ?_; first
          | refine Y4 ?_
          | (refine ao1 rfl rfl fun K HK => ?_; (first | refine Y7 rfl ?_ | skip); simp only [go_sem, ↓reduceIte, Z0, Z3, Z1, Z4, Z5, Z6, Z7, Z8, Xd g, Wd x, e1, e3, Z9, Za, wk, Z2]; (first | refine Y6 (fun hq => ?_) (fun hq => ?_) | (refine ⟨by omega, by omega, ?_⟩; refine Yg (by assumption) ?_) | skip) <;> (refine HK _ _ ?_; clear HK K)))
         | (with_reducible refine Ws ?_; first
          | (refine aq1 rfl rfl fun K HK => ?_; (first | refine Y7 rfl ?_ | skip); simp only [go_sem, ↓reduceIte, Z0, Z3, Z1, Z4, Z5, Z6, Z7, Z8, Xd g, Wd x, e1, e3, Z9, Za, wk, Z2]; (first | refine Y6 (fun hq => ?_) (fun hq => ?_) | (refine ⟨by omega, by omega, ?_⟩; refine Yg (by assumption) ?_) | skip) <;> (refine HK _ _ rfl ?_; clear HK K))
          | refine aq0 rfl rfl ?_
          | refine X2 ?_
          | refine aq2 rfl rfl rfl Uu (hn _) ?_)
         | (with_reducible refine Zg8 ?_; first
          | refine Wy ?_
          | refine J4 ?_
          | refine J5 ?_)
         | (with_reducible refine Yb5 ?_; first
          | refine inB_r ?_
          | refine Zu4 ?_)
         | (exfalso; omega)
        exact ⟨.inr rfl, endD (r := .v (.int .i64 3)) hl0 rfl (by simp) (by simp) rfl (by rw [low]; trivial) ⟨rfl, by rw [hge]⟩⟩
      · skip
        repeat' first
         | (with_reducible refine Xe ?_; first
          | refine We ?_
          | refine Yx ?_
          | refine W6 ?_
          | refine Vn rfl ?_
          | refine Ui rfl ?_
          | refine V1 ?_
          | refine U2 ?_
          | refine Ya mixd (by kernel_rfl) ?_)
         | (with_reducible refine Y8 ?_; first
          | refine Y4 ?_
          | (refine ao1 rfl rfl fun K HK => ?_; (first | refine Y7 rfl ?_ | skip); simp only [go_sem, ↓reduceIte, Z0, Z3, Z1, Z4, Z5, Z6, Z7, Z8, Xd g, Wd x, e1, e3, Z9, Za, wk, Z2]; (first | refine Y6 (fun hq => ?_) (fun hq => ?_) | (refine ⟨by omega, by omega, ?_⟩; refine Yg (by assumption) ?_) | (refine ⟨by omega, by omega, ?_⟩; intro row hrow; obtain ⟨x, hx, rfl⟩ := Yn hrow; clear hrow) | skip) <;> (refine HK _ _ ?_; clear HK K)))
         | (with_reducible refine Ws ?_; first
          | (refine aq1 rfl rfl fun K HK => ?_; (first | refine Y7 rfl ?_ | skip); simp only [go_sem, ↓reduceIte, Z0, Z3, Z1, Z4, Z5, Z6, Z7, Z8, Xd g, Wd x, e1, e3, Z9, Za, wk, Z2]; (first | refine Y6 (fun hq => ?_) (fun hq => ?_) | (refine ⟨by omega, by omega, ?_⟩; refine Yg (by assumption) ?_) | (refine ⟨by omega, by omega, ?_⟩; intro row hrow; obtain ⟨x, hx, rfl⟩ := Yn hrow; clear hrow) | skip) <;> (refine HK _ _ rfl ?_; clear HK K))
          | refine aq0 rfl rfl ?_
          | refine X2 ?_
          | refine aq2 rfl rfl rfl Uu (hn _) ?_)
         | (with_reducible refine Zg8 ?_; first
          | refine Wy ?_
          | refine J4 ?_)
         | (with_reducible refine Yb5 ?_; first
          | refine inB_n ?_
          | refine Zu4 ?_)
         | (exfalso; omega)
        exact ⟨rfl, g.objects.length - 1, by omega, 1, hlt, rfl, ho2, rfl, e1, rfl⟩
    · obtain ⟨j, rfl⟩ : ∃ j, k = j + 1 := ⟨k - 1, by omega⟩
      have hy : g.objects[j]? = some g.objects[j] := Zc (by omega)
      have hyn := names_at hy
      rw [ris_s hyn hxn] at ho
      generalize g.objects[j] = y at hy hyn ho
      have wm : IntKind.i64.wrap (((j + 1 : Nat) : Int) - 1) = (j : Int) := by rw [show ((j + 1 : Nat) : Int) - 1 = (j : Int) by omega]; exact IntWalk.i64_in _ (by omega)
      have gp : decide ((0 : Int) < ((j + 1 : Nat) : Int)) = true := decide_eq_true (by omega)
      unfold strLt at ho
      cases hnb : Vc x.1 <;> rw [hnb] at hn ho
      · have e0 : Xy (g.objects.map (·.1)) = false := by rw [← Vx, ho]; rfl
        rw [if_pos e0] at hge
        repeat' first
         | (with_reducible refine Xe ?_; first
          | refine We ?_
          | refine Yx ?_
          | refine W6 ?_
          | refine Vn rfl ?_
          | refine Ui rfl ?_
          | refine V1 ?_
          | refine U2 ?_
          | refine Uz ?_
          | refine Ya mixd (by kernel_rfl) ?_)
         | (with_reducible refine Y8 ?_; first
          | refine Y4 ?_
          | (refine ao1 rfl rfl fun K HK => ?_; (first | refine Y7 rfl ?_ | skip); simp only [go_sem, ↓reduceIte, Z0, Z3, Z1, Z4, Z5, Z6, Z7, Z8, Xd g, Wd x, e1, e3, Z9, Za, wk, Z2]; (first | refine Y6 (fun hq => ?_) (fun hq => ?_) | (refine ⟨by omega, by omega, ?_⟩; refine Yg (by assumption) ?_) | skip) <;> (refine HK _ _ ?_; clear HK K)))
         | (with_reducible refine Ws ?_; first
          | (refine aq1 rfl rfl fun K HK => ?_; (first | refine Y7 rfl ?_ | skip); simp only [go_sem, ↓reduceIte, Z0, Z3, Z1, Z4, Z5, Z6, Z7, Z8, Xd g, Wd x, e1, e3, Z9, Za, wk, Z2]; (first | refine Y6 (fun hq => ?_) (fun hq => ?_) | (refine ⟨by omega, by omega, ?_⟩; refine Yg (by assumption) ?_) | skip) <;> (refine HK _ _ rfl ?_; clear HK K))
          | refine aq0 rfl rfl ?_
          | refine X2 ?_
          | refine aq2 rfl rfl rfl Uu (hn _) ?_)
         | (with_reducible refine Zg8 ?_; first
          | refine Wy ?_
          | refine J4 ?_
          | refine J5 ?_)
         | (with_reducible refine Yb5 ?_; first
          | refine inB_r ?_
          | refine Zu4 ?_)
         | (exfalso; omega)
        exact ⟨.inr rfl, endD (r := .v (.int .i64 3)) hl0 rfl (by simp) (by simp) rfl (by rw [low]; trivial) ⟨rfl, by rw [hge]⟩⟩
      · cases hlt2 : Op.bytesLess y.1.toList x.1.toList
        · have e0 : Xy (g.objects.map (·.1)) = false := by rw [← Vx, ho, hlt2]; rfl
          rw [if_pos e0] at hge
          repeat' first
           | (with_reducible refine Xe ?_; first
            | refine We ?_
            | refine Yx ?_
            | refine W6 ?_
            | refine Vn rfl ?_
            | refine Ui rfl ?_
            | refine V1 ?_
            | refine U2 ?_
            | refine Uz ?_
            | refine Ya mixd (by kernel_rfl) ?_)
           | (with_reducible refine Y8 ?_; first
            | refine Y4 ?_
            | (refine ao1 rfl rfl fun K HK => ?_; (first | refine Y7 rfl ?_ | skip); simp only [go_sem, ↓reduceIte, Z0, Z3, Z1, Z4, Z5, Z6, Z7, Z8, Xd g, Wd x, Wd y, e1, e3, Z9, Za, wk, wm, gp, hlt2, Z2]; (first | refine Y6 (fun hq => ?_) (fun hq => ?_) | (refine ⟨by omega, by omega, ?_⟩; refine Yg (by assumption) ?_) | skip) <;> (refine HK _ _ ?_; clear HK K)))
           | (with_reducible refine Ws ?_; first
            | (refine aq1 rfl rfl fun K HK => ?_; (first | refine Y7 rfl ?_ | skip); simp only [go_sem, ↓reduceIte, Z0, Z3, Z1, Z4, Z5, Z6, Z7, Z8, Xd g, Wd x, Wd y, e1, e3, Z9, Za, wk, wm, gp, hlt2, Z2]; (first | refine Y6 (fun hq => ?_) (fun hq => ?_) | (refine ⟨by omega, by omega, ?_⟩; refine Yg (by assumption) ?_) | skip) <;> (refine HK _ _ rfl ?_; clear HK K))
            | refine X2 ?_
            | refine aq2 rfl rfl rfl Uu (hn _) ?_)
           | (with_reducible refine Zg8 ?_; first
            | refine Wy ?_
            | refine J4 ?_
            | refine J5 ?_)
           | (with_reducible refine Yb5 ?_; first
            | refine inB_r ?_
            | refine Zu4 ?_)
           | (exfalso; omega)
          exact ⟨.inr rfl, endD (r := .v (.int .i64 3)) hl0 rfl (by simp) (by simp) rfl (by rw [low]; trivial) ⟨rfl, by rw [hge]⟩⟩
        · skip
          repeat' first
           | (with_reducible refine Xe ?_; first
            | refine We ?_
            | refine Yx ?_
            | refine W6 ?_
            | refine Vn rfl ?_
            | refine Ui rfl ?_
            | refine V1 ?_
            | refine U2 ?_
            | refine Ya mixd (by kernel_rfl) ?_)
           | (with_reducible refine Y8 ?_; first
            | refine Y4 ?_
            | (refine ao1 rfl rfl fun K HK => ?_; (first | refine Y7 rfl ?_ | skip); simp only [go_sem, ↓reduceIte, Z0, Z3, Z1, Z4, Z5, Z6, Z7, Z8, Xd g, Wd x, Wd y, e1, e3, Z9, Za, wk, wm, gp, hlt2, Z2]; (first | refine Y6 (fun hq => ?_) (fun hq => ?_) | (refine ⟨by omega, by omega, ?_⟩; refine Yg (by assumption) ?_) | skip) <;> (refine HK _ _ ?_; clear HK K)))
           | (with_reducible refine Ws ?_; first
            | (refine aq1 rfl rfl fun K HK => ?_; (first | refine Y7 rfl ?_ | skip); simp only [go_sem, ↓reduceIte, Z0, Z3, Z1, Z4, Z5, Z6, Z7, Z8, Xd g, Wd x, Wd y, e1, e3, Z9, Za, wk, wm, gp, hlt2, Z2]; (first | refine Y6 (fun hq => ?_) (fun hq => ?_) | (refine ⟨by omega, by omega, ?_⟩; refine Yg (by assumption) ?_) | skip) <;> (refine HK _ _ rfl ?_; clear HK K))
            | refine X2 ?_
            | refine aq2 rfl rfl rfl Uu (hn _) ?_)
           | (with_reducible refine Zg8 ?_; first
            | refine Wy ?_
            | refine J4 ?_)
           | (with_reducible refine Yb5 ?_; first
            | refine inB_n ?_
            | refine Zu4 ?_)
           | (exfalso; omega)
          exact ⟨rfl, g.objects.length - (j + 2), by omega, j + 2, by omega, rfl, by rw [ho, hlt2]; rfl, rfl, e1, rfl⟩
  have e0 : Xy (g.objects.map (·.1)) = true := by rw [← Vx, ho, Zv1 _ _ (by rw [Z9]; omega)]
  rw [if_neg (by rw [e0]; decide)] at hge
  repeat' first
   | (with_reducible refine Xe ?_; first
    | refine We ?_
    | refine Yx ?_
    | refine W6 ?_
    | refine Vn rfl ?_
    | refine Ui rfl ?_
    | refine V1 ?_
    | refine U2 ?_
    | refine Ya mixd (by kernel_rfl) ?_)
   | (with_reducible refine Y8 ?_; first
    | refine Y4 ?_
    | (refine ao1 rfl rfl fun K HK => ?_; simp only [go_sem, ↓reduceIte, Z0, Z3, Z1, Z4, Z5, Z6, Z7, Z8, Xd g, e1, e3, Z9, Z2]; (first | refine Y6 (fun hq => ?_) (fun hq => ?_) | (refine ⟨by omega, by omega, ?_⟩; intro row hrow; obtain ⟨x, hx, rfl⟩ := Yn hrow; clear hrow) | skip) <;> (refine HK _ _ ?_; clear HK K)))
   | (with_reducible refine Ws ?_; first
    | (refine aq1 rfl rfl fun K HK => ?_; simp only [go_sem, ↓reduceIte, Z0, Z3, Z1, Z4, Z5, Z6, Z7, Z8, Xd g, e1, e3, Z9, Z2]; (first | refine Y6 (fun hq => ?_) (fun hq => ?_) | (refine ⟨by omega, by omega, ?_⟩; intro row hrow; obtain ⟨x, hx, rfl⟩ := Yn hrow; clear hrow) | skip) <;> (refine HK _ _ rfl ?_; clear HK K)))
   | (with_reducible refine Zg8 ?_; first
    | refine Wy ?_
    | refine J4 ?_)
   | (with_reducible refine Yb5 ?_; first
    | refine Zu4 ?_)
   | (exfalso; omega)
  refine Yr (fun m e h' => ∃ k : Nat, k ≤ g.objects.length ∧ m = g.objects.length - k ∧ Zu3 g.objects = Zu3 (g.objects.drop k) ∧ h' = [.cells (gnX g)] ∧ e 1 = .ptr 0 0 ∧ e 4 = .v (.int .i64 k)) g.objects.length ⟨0, Nat.zero_le _, rfl, rfl, rfl, e1, rfl⟩ ?_
  clear e1 e3 ho hlt
  rintro m e h' ⟨k, hk, rfl, ho, rfl, e1, e4⟩
  by_cases hlt : k < g.objects.length
  · have hx : g.objects[k]? = some g.objects[k] := Zc hlt
    have wk : IntKind.i64.wrap ((k : Int) + 1) = ((k + 1 : Nat) : Int) := IntWalk.i64_in _ (by omega)
    have hc := rCheck_d G hG g.objects[k].2 (hg.la _ (List.getElem_mem hlt))
    rw [latsE_go (List.drop_eq_getElem_cons hlt)] at ho
    generalize g.objects[k] = x at hx hc ho
    simp only [Y9] at hc
    generalize chkE x.2 = ce at hc ho
    by_cases hz : ce = 0
    · rw [if_neg (fun q => q hz)] at ho
      repeat' first
       | (with_reducible refine Xe ?_; first
        | refine We ?_
        | refine Yx ?_
        | refine W6 ?_
        | refine Vn rfl ?_
        | refine Ui rfl ?_
        | refine V1 ?_
        | refine U2 ?_
        | refine Uz ?_)
       | (with_reducible refine Y8 ?_; first
        | refine Y4 ?_
        | (refine ao1 rfl rfl fun K HK => ?_; simp only [go_sem, ↓reduceIte, Z0, Z3, Z1, Z4, Z5, Z6, Z7, Z8, Xd g, Wd x, e1, e4, hz, Z9, Za, wk, Z2]; (first | refine Y6 (fun hq => ?_) (fun hq => ?_) | (refine ⟨by omega, by omega, ?_⟩; refine Yg (by assumption) ?_) | skip) <;> (refine HK _ _ ?_; clear HK K))
        | (refine ao2 rfl rfl rfl ent_42 (hc _) ?_; rintro _ _ ⟨rfl, rfl⟩))
       | (with_reducible refine Zg8 ?_; first
        | refine Wy ?_
        | refine J4 ?_)
       | (with_reducible refine Yb5 ?_; first
        | refine inB_n ?_
        | refine Zu4 ?_)
       | (exfalso; omega)
      exact ⟨rfl, g.objects.length - (k + 1), by omega, k + 1, hlt, rfl, ho, rfl, e1, rfl⟩
    · rw [if_pos hz] at ho
      repeat' first
       | (with_reducible refine Xe ?_; first
        | refine We ?_
        | refine Yx ?_
        | refine W6 ?_
        | refine Vn rfl ?_
        | refine Ui rfl ?_
        | refine V1 ?_
        | refine U2 ?_
        | refine Uz ?_)
       | (with_reducible refine Y8 ?_; first
        | refine Y4 ?_
        | (refine ao1 rfl rfl fun K HK => ?_; simp only [go_sem, ↓reduceIte, Z0, Z3, Z1, Z4, Z5, Z6, Z7, Z8, Xd g, Wd x, e1, e4, hz, Z9, Za, wk, Z2]; (first | refine Y6 (fun hq => ?_) (fun hq => ?_) | (refine ⟨by omega, by omega, ?_⟩; refine Yg (by assumption) ?_) | skip) <;> (refine HK _ _ ?_; clear HK K))
        | (refine ao2 rfl rfl rfl ent_42 (hc _) ?_; rintro _ _ ⟨rfl, rfl⟩))
       | (with_reducible refine Zg8 ?_; first
        | refine Wy ?_
        | refine J4 ?_
        | refine J5 ?_)
       | (with_reducible refine Yb5 ?_; first
        | refine inB_r ?_
        | refine Zu4 ?_)
       | (exfalso; omega)
      exact ⟨.inr rfl, endD (r := .v (.int .i64 ce)) hl0 rfl (by simp) (by simp) rfl (by rw [low]; trivial) ⟨rfl, by rw [hge, ho]⟩⟩
  · have e2 : Zu3 g.objects = 0 := by rw [ho, List.drop_eq_nil_of_le (by omega)]; rfl
    rw [e2] at hge
    repeat' first
     | (with_reducible refine Xe ?_; first
      | refine We ?_
      | refine Yx ?_
      | refine W6 ?_
      | refine Vn rfl ?_
      | refine Ui rfl ?_
      | refine V1 ?_
      | refine U2 ?_
      | refine Uz ?_)
     | (with_reducible refine Y8 ?_; first
      | refine Y4 ?_
      | (refine ao1 rfl rfl fun K HK => ?_; simp only [go_sem, ↓reduceIte, Z0, Z3, Z1, Z4, Z5, Z6, Z7, Z8, Xd g, e1, e4, Z9, Z2]; (first | refine Y6 (fun hq => ?_) (fun hq => ?_) | (refine ⟨by omega, by omega, ?_⟩; intro row hrow; obtain ⟨x, hx, rfl⟩ := Yn hrow; clear hrow) | skip) <;> (refine HK _ _ ?_; clear HK K)))
     | (with_reducible refine Zg8 ?_; first
      | refine Wy ?_
      | refine J4 ?_)
     | (with_reducible refine Yb5 ?_; first
      | refine Zu4 ?_)
     | (exfalso; omega)
    exact ⟨.inr rfl, endD (r := .v (.int .i64 0)) hl0 rfl (by simp) (by simp) rfl (by rw [low]; trivial) ⟨rfl, by rw [hge]⟩⟩
end
section
attribute [local irreducible] on aOp
attribute [local go_sem] decide_true decide_false Zg Zf
attribute [local simp] byD_len
variable (G : Nat → D) (hG : ∀ g, low 0 (G g)) (hK : G 1 = .rp (shaK.map zD))
include hG hK
theorem reads_w (g : GenL) (hg : GSm g) (m : List UInt8) (p n : Int) (hn : I64 n) (tag : List UInt8) : Does Zd G 8 [] [.agg (gnX g), .sl 1 (byD m), .v (.int .i64 p), .v (.int .i64 n), .sl 1 (byD tag)] (fun h' r => h' = [] ∧ r = .v (.bool true)) := by
 refine Y5 Tryz.func8 rfl (Zb rfl) hG fun hl0 _ => ?_
 simp only [Tryz.ntmps8]
 have haw := awake_d G hG hK
 have hge := rgenesis_d G hG g hg
 simp only [Xd] at hge
 by_cases he : genE g = 0
 rotate_left
 · skip
   repeat' first
    | (with_reducible first | refine sA rfl ?_ | refine sI rfl rfl ?_ | refine sT rfl ?_)
    | (with_reducible refine Y8 ?_; first | refine Y4 ?_ | (refine ao1 rfl rfl fun K HK => ?_; (first | refine Y7 rfl ?_ | skip); simp only [go_sem, ↓reduceIte, Z0, Z3, Z1, Z4, Z5, Z6, Z7, Z8, Xd g, he, Z2] <;> (refine HK _ _ ?_; clear HK K)) | refine ao0 rfl rfl ?_ | (refine ao2 rfl rfl rfl ent_11 (haw _) ?_; rintro _ _ ⟨rfl, rfl⟩) | (refine ao2 rfl rfl rfl ent_15 (hge _) ?_; rintro _ _ ⟨rfl, rfl⟩))
   all_goals exact ⟨.inr rfl, endV hl0 rfl rfl ⟨rfl, rfl⟩⟩
 rw [he] at hge
 by_cases hp1 : p < 0
 · skip
   repeat' first
    | (with_reducible first | refine sA rfl ?_ | refine sI rfl rfl ?_ | refine sT rfl ?_)
    | (with_reducible refine Y8 ?_; first | refine Y4 ?_ | (refine ao1 rfl rfl fun K HK => ?_; (first | refine Y7 rfl ?_ | skip); simp only [go_sem, ↓reduceIte, Z0, Z3, Z1, Z4, Z5, Z6, Z7, Z8, Xd g, hp1, Z2] <;> (refine HK _ _ ?_; clear HK K)) | refine ao0 rfl rfl ?_ | (refine ao2 rfl rfl rfl ent_11 (haw _) ?_; rintro _ _ ⟨rfl, rfl⟩) | (refine ao2 rfl rfl rfl ent_15 (hge _) ?_; rintro _ _ ⟨rfl, rfl⟩))
   all_goals exact ⟨.inr rfl, endV hl0 rfl rfl ⟨rfl, rfl⟩⟩
 by_cases hp2 : 100 < p
 · skip
   repeat' first
    | (with_reducible first | refine sA rfl ?_ | refine sI rfl rfl ?_ | refine sT rfl ?_)
    | (with_reducible refine Y8 ?_; first | refine Y4 ?_ | (refine ao1 rfl rfl fun K HK => ?_; (first | refine Y7 rfl ?_ | skip); simp only [go_sem, ↓reduceIte, Z0, Z3, Z1, Z4, Z5, Z6, Z7, Z8, Xd g, hp1, hp2, Z2] <;> (refine HK _ _ ?_; clear HK K)) | refine ao0 rfl rfl ?_ | (refine ao2 rfl rfl rfl ent_11 (haw _) ?_; rintro _ _ ⟨rfl, rfl⟩) | (refine ao2 rfl rfl rfl ent_15 (hge _) ?_; rintro _ _ ⟨rfl, rfl⟩))
   all_goals exact ⟨.inr rfl, endV hl0 rfl rfl ⟨rfl, rfl⟩⟩
 by_cases hm : 2000 < (m.length : Int)
 · skip
   repeat' first
    | (with_reducible first | refine sA rfl ?_ | refine sI rfl rfl ?_ | refine sT rfl ?_)
    | (with_reducible refine Y8 ?_; first | refine Y4 ?_ | (refine ao1 rfl rfl fun K HK => ?_; (first | refine Y7 rfl ?_ | skip); simp only [go_sem, ↓reduceIte, Z0, Z3, Z1, Z4, Z5, Z6, Z7, Z8, Xd g, hp1, hp2, hm, byD_len, Z2] <;> (refine HK _ _ ?_; clear HK K)) | (refine ao2 rfl rfl rfl ent_11 (haw _) ?_; rintro _ _ ⟨rfl, rfl⟩) | (refine ao2 rfl rfl rfl ent_15 (hge _) ?_; rintro _ _ ⟨rfl, rfl⟩))
   all_goals exact ⟨.inr rfl, endV hl0 rfl rfl ⟨rfl, rfl⟩⟩
 have hml : m.length ≤ 1000000 := by omega
 have hp : I64 p := by unfold I64; omega
 have hpc : I64 (p - 16) := by unfold I64; omega
 have e16 : 16 + (p - 16) = p := by omega
 have wp : IntKind.i64.wrap (p - 16) = p - 16 := IntWalk.i64_in _ (by unfold I64 at hpc; omega)
 have hnw := new_d G hG m p hml
 have hn5 := new_d G hG m 5 hml
 have hsr := Zo3 G hG hK m p 0 n hp hpc hn hml (by omega)
 have hrs := rsignRead_d G hG m (p - 16) n hpc (by rw [e16]; exact hp) hn hml
 have hck := fun (b : List UInt8) (x : Int) (hx : Vi (gOf g) m (p - 16) n b = x) => Zl5 G hG hK (gOf g) (gOf_ok he) m 5 0 hml (p - 16) n b hpc (by rw [e16]; exact hp) hn hx
 have hrk := fun (b : List UInt8) (x : Int) (hx : Vi (gOf g) m (p - 16) n b = x) => rcheckRead_d G hG (gOf g) (gOf_ok he) m hml (p - 16) n b hpc (by rw [e16]; exact hp) hn hx
 rw [e16] at hrs
 have hS1 : Vi (gOf g) m (p - 16) n (Xm m p 0 (Yd (p - 16) n)) = if p - 16 < 0 ∨ g.clients ≤ p - 16 ∨ n < 1 ∨ 2147483648 < n then 5 else 0 := by
  unfold Vi
  rw [e16, decide_eq_true rfl]
  rfl
 simp only [gOf_x, Xd, Zq0] at hck hrk hsr hrs
 have hck0 := hck _ _ hS1
 have hrk0 := hrk _ _ hS1
 have hck1 := hck tag _ rfl
 have hrk1 := hrk tag _ rfl
 clear hck hrk hS1
 generalize Vi (gOf g) m (p - 16) n tag = x2 at hck1 hrk1
 generalize Xm m p 0 (Yd (p - 16) n) = S at hsr hrs hck0 hrk0
 have hxx : (x2 = x2) = True := eq_self x2
 have hSS : ((⟨S.toArray⟩ : ByteArray) = ⟨S.toArray⟩) = True := eq_self _
 have hpp : (p - 16 = p - 16) = True := eq_self _
 have hnn : (n = n) = True := eq_self _
 by_cases hr : p - 16 < 0 ∨ g.clients ≤ p - 16 ∨ n < 1 ∨ 2147483648 < n
 all_goals
  first | rw [if_pos hr] at hck0 hrk0 | rw [if_neg hr] at hck0 hrk0
  repeat' first
   | (with_reducible first | refine sA rfl ?_ | refine sI rfl rfl ?_ | refine sT rfl ?_)
   | (with_reducible refine Xe ?_; first | refine Ya mixd (by kernel_rfl) ?_)
   | (with_reducible refine Y8 ?_; first | (refine ao1 rfl rfl fun K HK => ?_; simp only [go_sem, ↓reduceIte, Z0, Z3, Z1, Z4, Z5, Z6, Z7, Z8, Xd g, hp1, hp2, hm, wp, hxx, hSS, hpp, hnn, byD_len, Zx2, Z2]; refine bst_by (n := 1) byT_38 strT_9 ?_; refine HK _ _ ?_; clear HK K) | refine Y4 ?_ | (refine ao1 rfl rfl fun K HK => ?_; (first | refine Y7 rfl ?_ | skip); simp only [go_sem, ↓reduceIte, Z0, Z3, Z1, Z4, Z5, Z6, Z7, Z8, Xd g, hp1, hp2, hm, wp, hxx, hSS, hpp, hnn, byD_len, Zx2, Z2]; (first | refine Y6 (fun hq => ?_) (fun hq => ?_) | refine W7 (fun hq => ?_) (fun hq => ?_) | skip) <;> (refine HK _ _ ?_; clear HK K)) | refine ao0 rfl rfl ?_ | (refine ao2 rfl rfl rfl ent_11 (haw _) ?_; rintro _ _ ⟨rfl, rfl⟩) | (refine ao2 rfl rfl rfl ent_15 (hge _) ?_; rintro _ _ ⟨rfl, rfl⟩) | (refine ao2 rfl rfl rfl ent_24 (hnw _) ?_; rintro _ _ ⟨rfl, rfl⟩) | (refine ao2 rfl rfl rfl ent_24 (hn5 _) ?_; rintro _ _ ⟨rfl, rfl⟩) | (refine ao2 rfl rfl rfl ent_28 (hsr _ _ rfl) ?_; rintro _ _ ⟨rfl, rfl⟩) | (refine ao2 rfl rfl rfl ent_29 (hrs _) ?_; rintro _ _ ⟨rfl, rfl⟩) | (refine ao2 rfl rfl rfl ent_30 (hck0 _ _ rfl) ?_; rintro _ _ ⟨rfl, rfl⟩) | (refine ao2 rfl rfl rfl ent_31 (hrk0 _) ?_; rintro _ _ ⟨rfl, rfl⟩) | (refine ao1' rfl fun K HK => ?_; simp only [go_sem, ↓reduceIte, Z0, Z3, Z1, Z4, Z5, Z6, Z7, Z8, Xd g, hp1, hp2, hm, wp, hxx, hSS, hpp, hnn, byD_len, Zx2, Z2]; refine HK _ _ ?_; clear HK K))
   | (with_reducible refine Ws ?_; first | (refine aq1 rfl rfl fun K HK => ?_; (first | refine Y7 rfl ?_ | skip); simp only [go_sem, ↓reduceIte, Z0, Z3, Z1, Z4, Z5, Z6, Z7, Z8, Xd g, hp1, hp2, hm, wp, hxx, hSS, hpp, hnn, byD_len, Zx2, Z2]; (first | refine Y6 (fun hq => ?_) (fun hq => ?_) | refine W7 (fun hq => ?_) (fun hq => ?_) | skip) <;> (refine HK _ _ rfl ?_; clear HK K)) | refine X2 ?_ | refine aq2 rfl rfl rfl ent_30 (hck1 _ _ rfl) ?_ | refine aq2 rfl rfl rfl ent_31 (hrk1 _) ?_)
   | (exfalso; omega)
  all_goals first | (exfalso; omega) | exact ⟨.inr rfl, endV hl0 rfl rfl ⟨rfl, rfl⟩⟩
end
end Go.Proofs.YtgkjcmglcnhpaaaGreatDoor
