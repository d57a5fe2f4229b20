/-
  What the statements of the chapter share, part 28: TG2.
-/
import Derived.Test.YtgkjcmglcnhpaaaGreatDoorT23
import Derived.Test.YtgkjcmglcnhpaaaGreatDoorT27
set_option linter.unusedVariables false
set_option linter.unusedSimpArgs false
set_option maxRecDepth 100000
set_option maxHeartbeats 8000000
namespace Go.Proofs.YtgkjcmglcnhpaaaGreatDoor
open _root_.Bool renaming false_eq_true → Z0, and_eq_true → Z9
open _root_.Int renaming reduceEq → Z6, reduceLT → Z7, reduceLE → Z8
open _root_.Nat renaming reduceEqDiff → Z1, reduceLeDiff → Z2, reduceAdd → Z3, reduceBEq → Z4, reduceMul → Z5
open Go.RowKit
section
attribute [local irreducible] on aOp
attribute [local go_sem] decide_true decide_false Bool.not_true Bool.not_false
attribute [local simp] byD_len
theorem Ze9 : ∀ (l : List ByteArray) (p : ByteArray), Xz p l = true → ∀ x ∈ l, p.toList < x.toList
 | [], _, _, x, hx => by simp at hx
 | y :: t, p, h, x, hx => by
  rw [Xz, Z9] at h
  have h1 : p.toList < y.toList := by have := h.1; rw [Yf7, bl_eq] at this; exact of_decide_eq_true this
  rcases List.mem_cons.1 hx with rfl | hx
  · exact h1
  · exact List.lt_trans h1 (Ze9 t y h.2 x hx)
theorem Zn6 : ∀ (l : List ByteArray) (p : ByteArray), Xz p l = true → l.Nodup
 | [], _, _ => List.nodup_nil
 | y :: t, p, h => by
  rw [Xz, Z9] at h
  refine List.nodup_cons.2 ⟨fun hy => ?_, Zn6 t y h.2⟩
  exact List.lt_irrefl _ (Ze9 t y h.2 y hy)
theorem Yk2 : ∀ (l : List ByteArray), Vi l = true → l.Nodup
 | [], _ => List.nodup_nil
 | y :: t, h => List.nodup_cons.2 ⟨fun hy => List.lt_irrefl _ (Ze9 t y h y hy), Zn6 t y h⟩
theorem risP_len {b : Int} : ∀ (l : List Int) (p : Int), risP b p l = true → l = [] ∨ p + l.length < b
 | [], _, _ => .inl rfl
 | x :: t, p, h => by
  rw [risP, Z9] at h
  have h1 := of_decide_eq_true h.1
  rcases risP_len t x h.2 with rfl | h2
  · right; simp; omega
  · right; simp; omega
def gOf (g : GenL) : Gen := ⟨g.mode, g.replicas, g.founders, g.clients, g.admins, g.objects.map fun o => (o.1, latX o.2)⟩
theorem gOf_x (g : GenL) : genX (gOf g) = gnX g := by
 simp only [genX, gnX, gOf, List.map_map]; rfl
theorem gOf_ok {g : GenL} (h : genE g = 0) : (gOf g).Ok := by
 obtain ⟨_, h2, h3, _⟩ := genE_ok h
 rw [Jc, Z9] at h3
 have mem : ∀ o ∈ (gOf g).objects, ∃ q ∈ g.objects, o = (q.1, latX q.2) := fun o ho => by
  obtain ⟨q, hq, rfl⟩ := List.mem_map.1 ho; exact ⟨q, hq, rfl⟩
 refine ⟨by simp only [gOf, List.length_map]; omega, fun o ho => ?_, fun o ho => ?_, fun o ho => ?_, fun o ho => ?_, ?_⟩
 · obtain ⟨q, hq, rfl⟩ := mem o ho
   have hn := List.all_eq_true.1 h3.1 q.1 (List.mem_map.2 ⟨q, hq, rfl⟩)
   rw [Js, Z9] at hn
   have := of_decide_eq_true hn.1
   show q.1.size ≤ 1000000
   omega
 · obtain ⟨q, hq, rfl⟩ := mem o ho; exact Zk7 _
 · obtain ⟨q, hq, rfl⟩ := mem o ho; exact Zm4 0 _
 · obtain ⟨q, hq, rfl⟩ := mem o ho
   show (latX q.2).all D.one = true
   rw [Y4]; rfl
 · simp only [gOf, List.map_map]
   exact Yk2 _ h3.2
theorem gOf_ad {g : GenL} (h : genE g = 0) : (gOf g).admins.length ≤ 1000000 := by
 obtain ⟨h1, _⟩ := genE_ok h
 unfold Zu6 at h1
 simp only [not_or] at h1
 obtain ⟨_, _, _, _, h6, _, _, ha⟩ := h1
 have ha : risP g.clients (-1) g.admins = true := by cases e : risP g.clients (-1) g.admins; exact absurd e ha; rfl
 show g.admins.length ≤ 1000000
 rcases risP_len _ _ ha with e | e
 · rw [e]; simp
 · omega
open Classical in
noncomputable def latOf (d : List D) : Lat := if h : ∃ l, latX l = d ∧ Sm l then h.choose else ⟨0, 0, 0, [], [], []⟩
open Classical in
noncomputable def valOf (d : List D) : Val := if h : ∃ v, vaX v = d ∧ VSm v then h.choose else zeroV
theorem latOf_spec {d : List D} (h : ∃ l, latX l = d ∧ Sm l) : latX (latOf d) = d ∧ Sm (latOf d) := by
 unfold latOf; rw [dif_pos h]; exact h.choose_spec
theorem valOf_spec {d : List D} (h : ∃ v, vaX v = d ∧ VSm v) : vaX (valOf d) = d ∧ VSm (valOf d) := by
 unfold valOf; rw [dif_pos h]; exact h.choose_spec
theorem decodeV_sm {l : Lat} (b : List UInt8) (hb : b.length ≤ 1000000) : VSm (Zd3 l b).1 := by
 unfold Zd3
 by_cases h : chkE l ≠ 0
 · rw [if_pos h]; exact Zn1 0
 rw [if_neg h]
 have hc : chkE l = 0 := Decidable.not_not.1 h
 split
 · exact Zn1 0
 · exact read_smV _ l (Nat.le_refl _) (chkE_wf hc) ⟨b, 0, 0, 0⟩ (new_ok b) hb
noncomputable def decX (d : List D) (b : List UInt8) : List D × Int := (vaX (Zd3 (latOf d) b).1, (Zd3 (latOf d) b).2)
noncomputable def botX (d x : List D) : Bool := isBotB (latOf d) (valOf x)
open Classical in
noncomputable def wrZ (g : Gen) (ws : List (ByteArray × List UInt8)) : Int :=
 if ∃ i, i < ws.length ∧ ¬ okAt g ws i then 3 else if ∃ i, i < ws.length ∧ Yp4 g decX botX ws i then 4 else 0
variable (G : Nat → D) (hG : ∀ g, low 0 (G g)) (hK : G 1 = .rp (shaK.map zD))
include hG
theorem writes_v (g : GenL) (hg : GSm g) (he : genE g = 0) (c : Cmd) (hc : c.Ok) : Does Tryz.prog G 62 [] [.agg (genX (gOf g)), .agg (cmdX c)] (fun h' r => h' = [] ∧ r = .v (.int .i64 (wrZ (gOf g) c.writes))) := by
 have hl : ∀ o ∈ (gOf g).objects, latX (latOf o.2) = o.2 ∧ Sm (latOf o.2) := fun o ho => by
  obtain ⟨q, hq, rfl⟩ := List.mem_map.1 ho
  exact latOf_spec ⟨q.2, rfl, hg.la q hq⟩
 have hv : ∀ (d : List D), ∀ w ∈ c.writes, vaX (valOf (decX d w.2).1) = (decX d w.2).1 ∧ VSm (valOf (decX d w.2).1) := fun d w hw =>
  valOf_spec ⟨_, rfl, decodeV_sm w.2 (by have := (hc.each w hw).2; omega)⟩
 refine writes0 G hG (gOf g) (gOf_ok he) c hc decX botX _ (fun o ho w hw h => ?_) (fun o ho w hw _ h => ?_) (fun o ho w hw => ?_) (fun h => ?_) (fun h k => ?_) (fun h k => ?_)
 · have := decode_v G hG (latOf o.2) (hl o ho).2 w.2 (by have := (hc.each w hw).2; omega) h
   rw [(hl o ho).1] at this; exact this
 · have := isBottom_v G hG (latOf o.2) (hl o ho).2 (valOf (decX o.2 w.2).1) (hv o.2 w hw).2 h
   rw [(hl o ho).1, (hv o.2 w hw).1] at this; exact this
 · show (vaX _).length = 4 ∧ (vaX _).all D.one = true
   rw [Yg]; exact ⟨rfl, rfl⟩
 · unfold wrZ; rw [if_pos h]
 · unfold wrZ; rw [if_neg (fun ⟨i, h1, h2⟩ => h2 (h i h1)), if_pos k]
 · unfold wrZ; rw [if_neg (fun ⟨i, h1, h2⟩ => h2 (h i h1)), if_neg (fun ⟨i, h1, h2⟩ => k i h1 h2)]
include hK
theorem tag_w (g : GenL) (hg : GSm g) (m : List UInt8) (hm : m.length ≤ 140737488351232) (c : Cmd) (hn : Nums c) (b : List UInt8) : Does Tryz.prog G 7 [] [.agg (gnX g), .sl 1 (byD m), .agg (cmdX c), .sl 1 (byD b)] (fun h' r => h' = [] ∧ r = .v (.bool true)) := by
 refine Y7 Tryz.func7 rfl (Nat.le_of_ble_eq_true rfl) hG fun hl0 _ => ?_
 simp only [Tryz.ntmps7]
 have haw := awake_d G hG hK
 have hnew := newB_d G hG m 0 hm
 have hge := genesis_d G hG g hg
 have hsm := small_s G hG c m
 simp only [Xq] at hge
 by_cases he : genE g = 0
 rotate_left
 · skip
   repeat' first
    | (with_reducible first | refine sA rfl ?_ | refine sI rfl rfl ?_ | refine sT rfl ?_)
    | (with_reducible refine Y9 ?_; first | refine Y5 ?_ | (refine ao1 rfl rfl fun K HK => ?_; (first | refine Y6 rfl ?_ | skip); simp only [go_sem, ↓reduceIte, Z1, Z3, Z2, Z4, Z5, Z6, Z7, Z8, Xq g, Yd, Ze2, he, Z0] <;> (refine HK _ _ ?_; clear HK K)) | refine ao0 rfl rfl ?_ | (refine ao2 rfl rfl rfl Yi7 (haw _) ?_; rintro _ _ ⟨rfl, rfl⟩) | (refine ao2 rfl rfl rfl Zv0 (hnew _) ?_; rintro _ _ ⟨rfl, rfl⟩) | (refine ao2 rfl rfl rfl Yd4 (hge _) ?_; rintro _ _ ⟨rfl, rfl⟩))
   all_goals exact ⟨.inr rfl, endV hl0 rfl rfl ⟨rfl, rfl⟩⟩
 rw [he] at hge
 by_cases hs : Zh5 c ∧ m.length ≤ 2000
 rotate_left
 · have hsf : (decide (Zh5 c) && decide (m.length ≤ 2000)) = false := by
    rw [Bool.and_eq_false_iff]
    rcases Decidable.not_and_iff_or_not.1 hs with h | h
    · exact .inl (decide_eq_false h)
    · exact .inr (decide_eq_false h)
   rw [hsf] at hsm
   repeat' first
    | (with_reducible first | refine sA rfl ?_ | refine sI rfl rfl ?_ | refine sT rfl ?_)
    | (with_reducible refine Y9 ?_; first | refine Y5 ?_ | (refine ao1 rfl rfl fun K HK => ?_; (first | refine Y6 rfl ?_ | skip); simp only [go_sem, ↓reduceIte, Z1, Z3, Z2, Z4, Z5, Z6, Z7, Z8, Xq g, Yd, Ze2, Z0] <;> (refine HK _ _ ?_; clear HK K)) | refine ao0 rfl rfl ?_ | (refine ao2 rfl rfl rfl Yi7 (haw _) ?_; rintro _ _ ⟨rfl, rfl⟩) | (refine ao2 rfl rfl rfl Zv0 (hnew _) ?_; rintro _ _ ⟨rfl, rfl⟩) | (refine ao2 rfl rfl rfl Yd4 (hge _) ?_; rintro _ _ ⟨rfl, rfl⟩) | (refine ao2 rfl rfl rfl ent_16 (hsm _) ?_; rintro _ _ ⟨rfl, rfl⟩))
   all_goals exact ⟨.inr rfl, endV hl0 rfl rfl ⟨rfl, rfl⟩⟩
 rw [decide_eq_true hs.1, decide_eq_true hs.2, Bool.and_self] at hsm
 have hc := ok_of_small hn hs.1
 have hcl : I64 (16 + c.client) := by have := hs.1; unfold Zh5 at this; unfold I64; omega
 have hck := fun (b : List UInt8) (hb : b.length ≤ 10000) (x : Int) (hx : U8 (gOf g) m { c with tag := b } (wrZ (gOf g) c.writes) = x) => Zk8 G hG hK (gOf g) (gOf_ok he) (gOf_ad he) m 0 0 (by omega) { c with tag := b } ⟨hc.client, hc.seq, hc.kind, hc.replica, hc.many, hc.each, hb⟩ hcl (wrZ (gOf g) c.writes) (writes_v G hG g hg he { c with tag := b } ⟨hc.client, hc.seq, hc.kind, hc.replica, hc.many, hc.each, hb⟩) hx
 simp only [gOf_x, Xq, Yd] at hck
 have hc0 := hck c.tag hc.tag _ rfl
 by_cases hx : U8 (gOf g) m c (wrZ (gOf g) c.writes) = 0
 rotate_left
 · have hc0 : ∀ (h : List Ob) (i : Nat), h[i]? = some (Xa m 0 0) → Does Tryz.prog G 25 h [.agg [.v (.int .i64 g.mode), .v (.int .i64 g.replicas), .sl 1 (g.founders.map intX), .v (.int .i64 g.clients), .sl 1 (g.admins.map intX), .sl 7 (g.objects.map gobX)], .ptr i 0, .agg [.v (.int .i64 c.client), .v (.int .i64 c.seq), .v (.int .i64 c.kind), .sl 2 (c.writes.map wrX), .v (.int .i64 c.replica), .sl 1 (byD c.tag)]] (fun h' r => h' = h ∧ r = .v (.int .i64 (U8 (gOf g) m c (wrZ (gOf g) c.writes)))) := hc0
   generalize U8 (gOf g) m c (wrZ (gOf g) c.writes) = x at hc0 hx
   repeat' first
    | (with_reducible first | refine sA rfl ?_ | refine sI rfl rfl ?_ | refine sT rfl ?_)
    | (with_reducible refine Y9 ?_; first | refine Y5 ?_ | (refine ao1 rfl rfl fun K HK => ?_; (first | refine Y6 rfl ?_ | skip); simp only [go_sem, ↓reduceIte, Z1, Z3, Z2, Z4, Z5, Z6, Z7, Z8, Xq g, Yd, Ze2, hx, Z0] <;> (refine HK _ _ ?_; clear HK K)) | (refine ao2 rfl rfl rfl Yi7 (haw _) ?_; rintro _ _ ⟨rfl, rfl⟩) | (refine ao2 rfl rfl rfl Zv0 (hnew _) ?_; rintro _ _ ⟨rfl, rfl⟩) | (refine ao2 rfl rfl rfl Yd4 (hge _) ?_; rintro _ _ ⟨rfl, rfl⟩) | (refine ao2 rfl rfl rfl ent_16 (hsm _) ?_; rintro _ _ ⟨rfl, rfl⟩) | (refine ao2 rfl rfl rfl Zj1 (hc0 _ _ rfl) ?_; rintro _ _ ⟨rfl, rfl⟩))
   all_goals exact ⟨.inr rfl, endV hl0 rfl rfl ⟨rfl, rfl⟩⟩
 replace hc0 := hck c.tag hc.tag 0 hx
 by_cases hbl : 600 < b.length
 · have hbi : 600 < (b.length : Int) := by omega
   repeat' first
    | (with_reducible first | refine sA rfl ?_ | refine sI rfl rfl ?_ | refine sT rfl ?_)
    | (with_reducible refine Y9 ?_; first | refine Y5 ?_ | (refine ao1 rfl rfl fun K HK => ?_; (first | refine Y6 rfl ?_ | skip); simp only [go_sem, ↓reduceIte, Z1, Z3, Z2, Z4, Z5, Z6, Z7, Z8, Xq g, Yd, Ze2, hbi, byD_len, Z0] <;> (refine HK _ _ ?_; clear HK K)) | (refine ao2 rfl rfl rfl Yi7 (haw _) ?_; rintro _ _ ⟨rfl, rfl⟩) | (refine ao2 rfl rfl rfl Zv0 (hnew _) ?_; rintro _ _ ⟨rfl, rfl⟩) | (refine ao2 rfl rfl rfl Yd4 (hge _) ?_; rintro _ _ ⟨rfl, rfl⟩) | (refine ao2 rfl rfl rfl ent_16 (hsm _) ?_; rintro _ _ ⟨rfl, rfl⟩) | (refine ao2 rfl rfl rfl Zj1 (hc0 _ _ rfl) ?_; rintro _ _ ⟨rfl, rfl⟩) | (refine ao1' rfl fun K HK => ?_; simp only [go_sem, ↓reduceIte, Z1, Z3, Z2, Z4, Z5, Z6, Z7, Z8, Xq g, Yd, Ze2, hbi, byD_len, Z0]; refine HK _ _ ?_; clear HK K))
   all_goals exact ⟨.inr rfl, endV hl0 rfl rfl ⟨rfl, rfl⟩⟩
 have hbi : ¬ 600 < (b.length : Int) := by omega
 have hb1 := hck b (by omega) _ (checkE_tag hx b)
 have hcd : Cmd.Ok { c with tag := b } := ⟨hc.client, hc.seq, hc.kind, hc.replica, hc.many, hc.each, by show b.length ≤ _; omega⟩
 have hcm := compare_d G hG c { c with tag := b } hc hcd
 simp only [Yd] at hcm
 by_cases hbt : b = c.tag
 · have hq : ((⟨b.toArray⟩ : ByteArray) = ⟨c.tag.toArray⟩) = True := by rw [hbt]; simp
   have hz : cmpC c { c with tag := b } = 0 := by rw [hbt]; exact cmpC_zero.2 ⟨rfl, rfl, rfl⟩
   rw [hz] at hcm
   rw [if_pos hbt] at hb1
   repeat' first
    | (with_reducible first | refine sA rfl ?_ | refine sI rfl rfl ?_ | refine sT rfl ?_)
    | (with_reducible refine Y9 ?_; first | (refine ao1 rfl rfl fun K HK => ?_; simp only [go_sem, ↓reduceIte, Z1, Z3, Z2, Z4, Z5, Z6, Z7, Z8, Xq g, Yd, Ze2, hbi, hq, byD_len, Z0]; refine bst_by (n := 1) byT_38 strT_9 ?_; refine HK _ _ ?_; clear HK K) | refine Y5 ?_ | (refine ao1 rfl rfl fun K HK => ?_; (first | refine Y6 rfl ?_ | skip); simp only [go_sem, ↓reduceIte, Z1, Z3, Z2, Z4, Z5, Z6, Z7, Z8, Xq g, Yd, Ze2, hbi, hq, byD_len, Z0] <;> (refine HK _ _ ?_; clear HK K)) | (refine ao2 rfl rfl rfl Yi7 (haw _) ?_; rintro _ _ ⟨rfl, rfl⟩) | (refine ao2 rfl rfl rfl Zv0 (hnew _) ?_; rintro _ _ ⟨rfl, rfl⟩) | (refine ao2 rfl rfl rfl Yd4 (hge _) ?_; rintro _ _ ⟨rfl, rfl⟩) | (refine ao2 rfl rfl rfl ent_16 (hsm _) ?_; rintro _ _ ⟨rfl, rfl⟩) | (refine ao2 rfl rfl rfl Zj1 (hc0 _ _ rfl) ?_; rintro _ _ ⟨rfl, rfl⟩) | (refine ao2 rfl rfl rfl Zj1 (hb1 _ _ rfl) ?_; rintro _ _ ⟨rfl, rfl⟩) | (refine ao2 rfl rfl rfl ent_27 (hcm _) ?_; rintro _ _ ⟨rfl, rfl⟩) | (refine ao1' rfl fun K HK => ?_; simp only [go_sem, ↓reduceIte, Z1, Z3, Z2, Z4, Z5, Z6, Z7, Z8, Xq g, Yd, Ze2, hbi, hq, byD_len, Z0]; refine HK _ _ ?_; clear HK K))
   all_goals exact ⟨.inr rfl, endV hl0 rfl rfl ⟨rfl, rfl⟩⟩
 · have hq : ((⟨b.toArray⟩ : ByteArray) = ⟨c.tag.toArray⟩) = False := eq_false fun h => hbt (ba_eq.1 h)
   have hz : ¬ cmpC c { c with tag := b } = 0 := fun h => hbt (by
    have h1 := (cmpC_zero.1 h).2.2
    have h2 := congrArg decC h1
    rw [Yo9 hc, Yo9 hcd] at h2
    have h3 := congrArg (fun x => x.1.tag) h2
    exact h3.symm)
   generalize cmpC c { c with tag := b } = y at hcm hz
   rw [if_neg hbt] at hb1
   repeat' first
    | (with_reducible first | refine sA rfl ?_ | refine sI rfl rfl ?_ | refine sT rfl ?_)
    | (with_reducible refine Y9 ?_; first | (refine ao1 rfl rfl fun K HK => ?_; simp only [go_sem, ↓reduceIte, Z1, Z3, Z2, Z4, Z5, Z6, Z7, Z8, Xq g, Yd, Ze2, hbi, hq, hz, byD_len, Z0]; refine bst_by (n := 1) byT_38 strT_9 ?_; refine HK _ _ ?_; clear HK K) | refine Y5 ?_ | (refine ao1 rfl rfl fun K HK => ?_; (first | refine Y6 rfl ?_ | skip); simp only [go_sem, ↓reduceIte, Z1, Z3, Z2, Z4, Z5, Z6, Z7, Z8, Xq g, Yd, Ze2, hbi, hq, hz, byD_len, Z0] <;> (refine HK _ _ ?_; clear HK K)) | (refine ao2 rfl rfl rfl Yi7 (haw _) ?_; rintro _ _ ⟨rfl, rfl⟩) | (refine ao2 rfl rfl rfl Zv0 (hnew _) ?_; rintro _ _ ⟨rfl, rfl⟩) | (refine ao2 rfl rfl rfl Yd4 (hge _) ?_; rintro _ _ ⟨rfl, rfl⟩) | (refine ao2 rfl rfl rfl ent_16 (hsm _) ?_; rintro _ _ ⟨rfl, rfl⟩) | (refine ao2 rfl rfl rfl Zj1 (hc0 _ _ rfl) ?_; rintro _ _ ⟨rfl, rfl⟩) | (refine ao2 rfl rfl rfl Zj1 (hb1 _ _ rfl) ?_; rintro _ _ ⟨rfl, rfl⟩) | (refine ao2 rfl rfl rfl ent_27 (hcm _) ?_; rintro _ _ ⟨rfl, rfl⟩) | (refine ao1' rfl fun K HK => ?_; simp only [go_sem, ↓reduceIte, Z1, Z3, Z2, Z4, Z5, Z6, Z7, Z8, Xq g, Yd, Ze2, hbi, hq, hz, byD_len, Z0]; refine HK _ _ ?_; clear HK K))
   all_goals exact ⟨.inr rfl, endV hl0 rfl rfl ⟨rfl, rfl⟩⟩
end
end Go.Proofs.YtgkjcmglcnhpaaaGreatDoor
