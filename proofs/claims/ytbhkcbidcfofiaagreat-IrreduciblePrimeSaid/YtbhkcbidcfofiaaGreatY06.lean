/-
  What the statements of the chapter share, part 06: D9, D10, DTab, D11.
-/
import Derived.Test.YtbhkcbidcfofiaaGreatY05
set_option linter.unusedVariables false
set_option linter.unusedSimpArgs false
set_option maxRecDepth 100000
set_option maxHeartbeats 8000000
namespace Go.Proofs.YtbhkcbidcfofiaaGreat
open _root_.Array renaming getD_eq_getD_getElem? → Z2, getElem?_eq_none → Z6, getElem?_setIfInBounds → Zb, getElem?_eq_getElem → Zd, setIfInBounds_comm → Zg
open _root_.Bool renaming and_eq_true → Z8
open _root_.ByteArray renaming toList → Z7
open _root_.List renaming map_congr_left → Z1, getElem?_eq_some_iff → Z3, getElem?_append_left → Z4, length_set → Z5, set_append_left → Z9, getElem?_append_right → Zc, append_assoc → Ze, length_cons → Zh, mem_toArray → Zi
open _root_.Option renaming map_some → Za, isSome_iff_exists → Zf
open _root_.Go.Proofs.Tryz renaming prog → Z0
open Go.RowKit
section
variable {P : Program} {G : Nat → D} {n : Nat} {e : Nat → D} {h : List Ob}
section
variable {x y : Code} {Q : Exit → S → Prop} {s : S} {c : Operand}
theorem Yq (k : aw P G x (Zr8 (aw P G y Q) Q) s) : aw P G (.seq x y) Q s := aw_seq fun _ q => aw_mono k fun e s r => by cases e <;> first | exact q _ r | exact r
theorem Yd {id : Nat} {l : List Oper} (k : ao P G l.toArray l (Q .normal) s) : aw P G (.region id l.toArray false) Q s := aw_region fun _ q => fun B a w r R hR => k B a w r R fun s' a' w' t => hR s' a' w' (q _ t)
theorem We (k : ev G s.env c = .v (.bool true)) (h1 : aw P G x Q s) : aw P G (.cond c x y) Q s := aw_cond true k (fun _ => h1) fun h => by cases h
theorem Wh (k : ev G s.env c = .v (.bool false)) (h1 : aw P G y Q s) : aw P G (.cond c x y) Q s := aw_cond false k (fun h => by cases h) fun _ => h1
end
section
variable {ops : Array Oper} {rest : List Oper} {Q : S → Prop} {t : Nat} {op : Op} {ty : TypeId} {pos : String} {aft : Array Edge} {gd : Option (Nat × Bool)}
theorem ao1 (hw : Yg ops gd e = some true) (ht : decide (t < n) = true) (H : ∀ K : List Ob → D → Prop, (∀ h' d, ao P G ops rest Q ⟨n, upd e t d, h'⟩ → K h' d) → aOp P G e h K op) : ao P G ops (⟨some t, op, ty, pos, aft, gd⟩ :: rest) Q ⟨n, e, h⟩ :=
 ao_cons hw fun K k => H K fun h' d q => k h' d (by unfold S.put; simp only [if_pos (of_decide_eq_true ht)]; exact q)
theorem ao1' (hw : Yg ops gd e = some true) (H : ∀ K : List Ob → D → Prop, (∀ h' d, ao P G ops rest Q ⟨n, e, h'⟩ → K h' d) → aOp P G e h K op) : ao P G ops (⟨none, op, ty, pos, aft, gd⟩ :: rest) Q ⟨n, e, h⟩ := ao_cons hw H
theorem ao0 (hw : Yg ops gd e = some false) (ht : decide (t < n) = true) (H : ao P G ops rest Q ⟨n, upd e t (.v undef), h⟩) : ao P G ops (⟨some t, op, ty, pos, aft, gd⟩ :: rest) Q ⟨n, e, h⟩ :=
 ao_skip hw (by unfold S.put; simp only [if_pos (of_decide_eq_true ht)]; exact H)
theorem ao0' (hw : Yg ops gd e = some false) (H : ao P G ops rest Q ⟨n, e, h⟩) : ao P G ops (⟨none, op, ty, pos, aft, gd⟩ :: rest) Q ⟨n, e, h⟩ := ao_skip hw H
theorem ao2 {x : Operand} {args : Array Operand} {tys : Array TypeId} {f : FuncId} {cap : List D} {R : List Ob → D → Prop} (hw : Yg ops gd e = some true) (ht : decide (t < n) = true) (hx : ev G e x = .fn f cap) (he : entB P f = true)
 (hc : Does P G f h (args.toList.map (ev G e) ++ cap) R) (H : ∀ h' r, R h' r → ao P G ops rest Q ⟨n, upd e t r, h'⟩) : ao P G ops (⟨some t, .call ⟨.value x, args, tys⟩, ty, pos, aft, gd⟩ :: rest) Q ⟨n, e, h⟩ :=
 ao_call hw hx he hc fun h' r q => by unfold S.put; simp only [if_pos (of_decide_eq_true ht)]; exact H h' r q
end
@[go_sem] theorem upd_app (t : Nat) (d : D) (x : Nat) : upd e t d x = if x = t then d else e x := rfl
@[go_sem] theorem ev_tmp (t : Nat) : ev G e (.tmp t) = e t := rfl
@[go_sem] theorem ev_const (v : Value) : ev G e (.const v) = .v v := rfl
@[go_sem] theorem ev_func (f : FuncId) : ev G e (.func f) = .fn f [] := rfl
@[go_sem] theorem ev_global (g : Nat) : ev G e (.global g) = G g := rfl
section
variable {K : List Ob → D → Prop} {x y z : Operand} {t u : TypeId}
@[go_sem] theorem aOp_move : aOp P G e h K (.move x) = K h (ev G e x) := rfl
@[go_sem] theorem aOp_assign : aOp P G e h K (.assign x) = K h (ev G e x) := rfl
theorem Yi {b : Bool} (k : ev G e x = .v (.bool b)) (q : K h (if b then ev G e y else ev G e z)) : aOp P G e h K (.pick x y z) := ⟨b, k, q⟩
@[go_sem] theorem aOp_bin {op : BinOp} : aOp P G e h K (.binOp op t x y u) = on (binD P op t x y (ev G e x) (ev G e y)) (K h) := rfl
@[go_sem] theorem aOp_un {op : UnOp} : aOp P G e h K (.unOp op t x) = on (unD P op (ev G e x)) (K h) := rfl
@[go_sem] theorem aOp_conv : aOp P G e h K (.convert t u x) = cvA P h t u (ev G e x) K := rfl
@[go_sem] theorem aOp_build {parts : Array (Nat × Operand)} : aOp P G e h K (.build t parts) = on (Zv1 P t (parts.toList.map fun q => (q.1, ev G e q.2))) fun ds => K h (.agg ds) := rfl
@[go_sem] theorem aOp_lit {parts : Array (Nat × Operand)} {len : Nat} : aOp P G e h K (.buildSlice t len parts) = on (litD P t len (parts.toList.map fun q => (q.1, ev G e q.2))) fun r => K (h ++ [.buf r.1 r.2.1 r.2.2]) (.buf h.length len) := rfl
@[go_sem] theorem aOp_slice {lo hi : Option Operand} : aOp P G e h K (.slice t x lo hi none) = slcA P t (ev G e x) (lo.map (ev G e)) (hi.map (ev G e)) (K h) := rfl
@[go_sem] theorem aOp_index : aOp P G e h K (.index t x y) = indA P t (ev G e x) (ev G e y) (K h) := rfl
@[go_sem] theorem aOp_extract {i : Nat} : aOp P G e h K (.extract x i) = on (extrD i (ev G e x)) (K h) := rfl
@[go_sem] theorem aOp_field {f : Nat} : aOp P G e h K (.field t x f) = on (fieldD P t f (ev G e x)) (K h) := rfl
@[go_sem] theorem aOp_load : aOp P G e h K (.load t x) = on (Zb1 P h t (ev G e x)) (K h) := rfl
@[go_sem] theorem aOp_store : aOp P G e h K (.store t x y) = on (Zd8 P h t (ev G e x) (ev G e y)) fun h' => K h' (.v undef) := rfl
@[go_sem] theorem aOp_faddr {f : Nat} : aOp P G e h K (.fieldAddr t x f) = on (Yi1 P t f (ev G e x)) (K h) := rfl
@[go_sem] theorem aOp_iaddr : aOp P G e h K (.indexAddr t x y) = idxA P h t (ev G e x) (ev G e y) (K h) := rfl
@[go_sem] theorem aOp_nil : aOp P G e h K (.nilCheck x) = (isPtr (ev G e x) = true ∧ K h (ev G e x)) := rfl
@[go_sem] theorem aOp_box : aOp P G e h K (.box t x) = on (ev G e x).cells fun ds => K (h ++ [.cells ds]) (.ptr h.length 0) := rfl
@[go_sem] theorem aOp_alloc : aOp P G e h K (.alloc t) = on (Uj P t) fun ds => K (h ++ [.cells ds]) (.ptr h.length 0) := rfl
end
@[go_sem] theorem on_some' {α : Type} {a : α} {K : α → Prop} : on (some a) K = K a := rfl
section
variable {t : TypeId} {x y : Operand} {k : IntKind} {a b : Int}
@[go_sem] theorem binD_v {op : BinOp} {X Y : Value} : binD P op t x y (.v X) (.v Y) = binV P op t x y X Y := rfl
@[go_sem] theorem b_eql : binV P .eql t x y (.int k a) (.int k b) = some (.v (.bool (decide (a = b)))) := by cases k <;> rfl
@[go_sem] theorem b_neq : binV P .neq t x y (.int k a) (.int k b) = some (.v (.bool (!decide (a = b)))) := by cases k <;> rfl
@[go_sem] theorem b_lss : binV P .lss t x y (.int k a) (.int k b) = some (.v (.bool (decide (a < b)))) := by cases k <;> rfl
@[go_sem] theorem b_leq : binV P .leq t x y (.int k a) (.int k b) = some (.v (.bool (decide (a ≤ b)))) := by cases k <;> rfl
@[go_sem] theorem b_gtr : binV P .gtr t x y (.int k a) (.int k b) = some (.v (.bool (decide (b < a)))) := by cases k <;> rfl
@[go_sem] theorem b_geq : binV P .geq t x y (.int k a) (.int k b) = some (.v (.bool (decide (b ≤ a)))) := by cases k <;> rfl
@[go_sem] theorem b_add : binV P .add t x y (.int k a) (.int k b) = some (.v (.int k (k.wrap (a + b)))) := by cases k <;> rfl
@[go_sem] theorem b_sub : binV P .sub t x y (.int k a) (.int k b) = some (.v (.int k (k.wrap (a - b)))) := by cases k <;> rfl
@[go_sem] theorem b_mul : binV P .mul t x y (.int k a) (.int k b) = some (.v (.int k (k.wrap (a * b)))) := by cases k <;> rfl
@[go_sem] theorem u_neg {op : IntKind} : unD P .neg (.v (.int k a)) = some (.v (.int k (k.wrap (0 - a)))) := rfl
@[go_sem] theorem u_not {c : Bool} : unD P .not (.v (.bool c)) = some (.v (.bool (!c))) := rfl
end
@[go_sem] theorem extrD_tup {i : Nat} {ds : List D} : extrD i (.tup ds) = ds[i]? := rfl
section
variable {K : List Ob → D → Prop} {t u : TypeId}
@[go_sem] theorem aOp_bi {b : Builtin} {args : Array Operand} {tys : Array TypeId} : aOp P G e h K (.call ⟨.builtin b, args, tys⟩) = biA P h b tys.toList (args.toList.map (ev G e)) K := rfl
@[go_sem] theorem biA_len {x : D} : biA P h .len [t] [x] K = on (lenD P t x) (K h) := rfl
@[go_sem] theorem biA_append {x y : D} : biA P h .append [t, u] [x, y] K = apA P h t u x y K := rfl
@[go_sem] theorem lenD_sl {k : Nat} {xs : List (List D)} (q : slT P t = true) : lenD P t (.sl k xs) = some (.v (.int .i64 xs.length)) := by simp only [lenD, q, if_true]
@[go_sem] theorem lenD_buf {i n : Nat} (q : slT P t = true) : lenD P t (.buf i n) = some (.v (.int .i64 n)) := by simp only [lenD, q, if_true]
@[go_sem] theorem lenD_nil (q : slT P t = true) : lenD P t (.v (.slice none 0 0)) = some (.v (.int .i64 0)) := by
 unfold slT at q
 split at q
 · rename_i e he
   unfold lenD Builtin.len_ Go.underlying
   simp [Vc, bind, Sem.bind, program, he, pure, goInt]
 · cases q
@[go_sem] theorem lenD_str {s : ByteArray} (q : strT P t = true) : lenD P t (.v (.string s)) = some (.v (.int .i64 s.size)) := by
 unfold strT at q
 split at q
 · rename_i he
   unfold lenD Builtin.len_ Go.underlying
   simp [Vc, bind, Sem.bind, program, he, pure, goInt]
 · cases q
@[go_sem] theorem idxA_sl {k : Nat} {xs : List (List D)} {κ : IntKind} {m : Int} {K : D → Prop} : idxA P h t (.sl k xs) (.v (.int κ m)) K = (((elT P t).bind (szT P)) = some k ∧ 0 ≤ m ∧ m < (xs.length : Int) ∧ ∀ row, xs[m.toNat]? = some row → K (.rp row)) := rfl
@[go_sem] theorem idxA_buf {i n : Nat} {κ : IntKind} {m : Int} {K : D → Prop} : idxA P h t (.buf i n) (.v (.int κ m)) K = (∃ e k xs, h[i]? = some (.buf e k xs) ∧ xs.length = n ∧ ((elT P t).bind (szT P)) = some k ∧ 0 ≤ m ∧ m < (n : Int) ∧ K (.bp i n m.toNat 0)) := rfl
@[go_sem] theorem idxA_win {i n a b : Nat} {κ : IntKind} {m : Int} {K : D → Prop} : idxA P h t (.win i n a b) (.v (.int κ m)) K = (∃ e k xs, h[i]? = some (.buf e k xs) ∧ xs.length = n ∧ ((elT P t).bind (szT P)) = some k ∧ 0 ≤ m ∧ m < ((b - a : Nat) : Int) ∧ K (.bp i n (a + m.toNat) 0)) := rfl
@[go_sem] theorem getD_one {ds : List D} {o : Nat} (q : aggT P t = some false) : getD P t ds o = ds[o]? := by simp only [getD, q]
theorem getD_agg {ds : List D} {o m : Nat} (q : aggT P t = some true) (r : szT P t = some m) (l : o + m ≤ ds.length) : getD P t ds o = some (.agg ((ds.drop o).take m)) := by simp only [getD, q, r, if_pos l]
@[go_sem] theorem loadD_rp {ds : List D} : Zb1 P h t (.rp ds) = getD P t ds 0 := rfl
@[go_sem] theorem faddr_eq {f : Nat} {x : D} : Yi1 P t f x = (fldT P t f).bind fun q => if nzT P q.2 = true then addD q.1 x else none := rfl
@[go_sem] theorem addD_ptr {i o q : Nat} : addD o (.ptr i q) = some (.ptr i (q + o)) := rfl
@[go_sem] theorem addD_rp {o : Nat} {ds : List D} : addD o (.rp ds) = some (.rp (ds.drop o)) := rfl
@[go_sem] theorem addD_bp {i o n r j : Nat} : addD o (.bp i n r j) = some (.bp i n r (j + o)) := rfl
@[go_sem] theorem getD_agg' {ds : List D} {o : Nat} (q : aggT P t = some true) : getD P t ds o = match szT P t with
 | some n => if o + n ≤ ds.length then some (.agg ((ds.drop o).take n)) else none
 | none => none := by unfold getD; rw [q]; cases szT P t <;> rfl
end
theorem Yo {α : Type} {f : α → List D} {l : List α} {i : Nat} {a : α} {K : List D → Prop} (q : l[i]? = some a) (k : K (f a)) : ∀ row, (l.map f)[i]? = some row → K row := fun row hr => by
 rw [List.getElem?_map, q] at hr; cases hr; exact k
theorem Vr {α : Type} {f : α → List D} {l : List α} {i : Nat} {row : List D} (q : (l.map f)[i]? = some row) : ∃ a, l[i]? = some a ∧ f a = row := by
 rw [List.getElem?_map, Option.map_eq_some_iff] at q; exact q
section
variable {K : S → Prop} {Q : Exit → S → Prop} {s : S} {i j : Nat}
theorem Yt (q : K s) : Zr8 K Q .normal s := q
theorem Wf (q : Q (.exit i) s) : Zr8 K Q (.exit i) s := q
theorem Va (q : Q .ret s) : Zr8 K Q .ret s := q
theorem Yo4 (q : Q .normal s) : J5 i Q .normal s := q
theorem Yc1 (q : Q .ret s) : J5 i Q .ret s := q
theorem Jk (q : Q .normal s) : J5 i Q (.exit i) s := by
 show if i = i then _ else _
 rw [if_pos rfl]; exact q
theorem inB_y (hne : (j == i) = false) (q : Q (.exit j) s) : J5 i Q (.exit j) s := by
 show if j = i then _ else _
 rw [if_neg (by simpa using hne)]; exact q
end
theorem Ym {K : List Ob → D → Prop} {q : Prop} [Decidable q] (h1 : q → K h (.v (.bool true))) (h0 : ¬ q → K h (.v (.bool false))) : K h (.v (.bool (decide q))) := by
 by_cases hq : q
 · rw [decide_eq_true hq]; exact h1 hq
 · rw [decide_eq_false hq]; exact h0 hq
theorem Ze5 {K : List Ob → D → Prop} {q : Prop} [Decidable q] (h1 : q → K h (.v (.bool false))) (h0 : ¬ q → K h (.v (.bool true))) : K h (.v (.bool (!decide q))) := by
 by_cases hq : q
 · rw [decide_eq_true hq]; exact h1 hq
 · rw [decide_eq_false hq]; exact h0 hq
theorem Yh {c : Code} {Q : Exit → S → Prop} (I : Nat → (Nat → D) → List Ob → Prop) (m : Nat) (h0 : I m e h) (round : ∀ m e h, I m e h → aw P G c (Zr8 (fun s' => s'.n = n ∧ ∃ m', m' < m ∧ I m' s'.env s'.h) Q) ⟨n, e, h⟩) : aw P G (.loop c) Q ⟨n, e, h⟩ :=
 aw_loop (fun m s => s.n = n ∧ I m s.env s.h) m ⟨rfl, h0⟩ fun m ⟨n', e', h'⟩ ⟨hn, hI⟩ => by
  have hn : n' = n := hn
  subst hn
  exact aw_mono (round m e' h' hI) fun ex s q => by
   cases ex <;> first | (obtain ⟨q1, m', q2, q3⟩ := q; exact ⟨m', q2, q1, q3⟩) | exact q
section
variable {K : List Ob → D → Prop} {t u : TypeId} {k κ : IntKind} {m : Int} {x : D} {b : List UInt8}
@[go_sem] theorem cv_int (q : (intT P t).isSome = true) (r : (intT P u).isSome = true) : cvA P h t u (.v (.int κ m)) K = on ((intT P u).map fun k => D.v (.int k (k.wrap m))) (K h) := by
 obtain ⟨κ', q⟩ := Zf.1 q
 obtain ⟨k, r⟩ := Zf.1 r
 have h1 := intT_spec q
 have h2 := intT_spec r
 have e : Vc P (convert t u (.int κ m)) = some (.int k (k.wrap m)) := by
  unfold convert Go.underlying
  simp [bind, Sem.bind, program, Vc, h1, h2, pure, Conv.intToInt]
 unfold cvA convD
 simp only [e, Za, on, r]
@[go_sem] theorem cv_sl {n : Nat} {xs : List (List D)} : cvA P h t u (.sl n xs) K = bstD P t u h (.sl n xs) (K h) := rfl
@[go_sem] theorem cv_buf {i n : Nat} : cvA P h t u (.buf i n) K = bstD P t u h (.buf i n) (K h) := rfl
theorem cv_by {s : ByteArray} (hb : byT P u = true) (ht : (P.underlying t).isSome = true) (hs : s.size ≤ 140737488355328) (q : K h (.sl 1 (byD s.data.toList))) : cvA P h t u (.v (.string s)) K := .inl ⟨hb, ht, hs, q⟩
theorem bst_by {K : D → Prop} {n : Nat} (h1 : byT P t = true) (h2 : strT P u = true) (q : K (.v (.string ⟨b.toArray⟩))) : bstD P t u h (.sl n (byD b)) K := ⟨h1, h2, b, rfl, q⟩
theorem Vt {K : D → Prop} {n : Nat} {xs : List (List D)} {lo hi : Option D} {l r : Int} (h1 : (elT P t).bind (szT P) = some n) (hl : bndD 0 lo = some l) (hr : bndD xs.length hi = some r) (h2 : 0 ≤ l) (h3 : l ≤ r) (h4 : r ≤ xs.length) (q : K (.sl n ((xs.take r.toNat).drop l.toNat))) : slcA P t (.sl n xs) lo hi K := ⟨l, r, h1, hl, hr, h2, h3, h4, q⟩
theorem ind_str {K : D → Prop} {s : ByteArray} (h1 : strT P t = true) (h2 : 0 ≤ m) (h3 : m < (s.size : Int)) (q : ∀ b, s.data[m.toNat]? = some b → K (.v (.int .u8 b.toNat))) : indA P t (.v (.string s)) (.v (.int κ m)) K := ⟨h1, h2, h3, q⟩
@[go_sem] theorem b_quo {x y : Operand} {a c : Int} (q : (c == 0) = false) : binV P .quo t x y (.int k a) (.int k c) = some (.v (.int k (k.wrap (a.tdiv c)))) := by
 have q : c ≠ 0 := by simpa using q
 cases k <;> simp [binV, binOp, Op.intDiv, eqGuard, q, bind, Sem.bind, pure, Vc]
@[go_sem] theorem b_rem {x y : Operand} {a c : Int} (q : (c == 0) = false) : binV P .rem t x y (.int k a) (.int k c) = some (.v (.int k (a.tmod c))) := by
 have q : c ≠ 0 := by simpa using q
 cases k <;> simp [binV, binOp, Op.intDiv, eqGuard, q, bind, Sem.bind, pure, Vc]
@[go_sem] theorem b_shl {x y : Operand} {a c : Int} (q : decide (0 ≤ c) = true) : binV P .shl t x y (.int k a) (.int κ c) = some (.v (.int k (k.wrap (a * 2 ^ min c.toNat k.bits)))) := by
 have q : ¬ c < 0 := by have := of_decide_eq_true q; omega
 simp [binV, binOp, Op.shift, eqGuard, q, bind, Sem.bind, pure, Vc]
@[go_sem] theorem b_shr {x y : Operand} {a c : Int} (q : decide (0 ≤ c) = true) : binV P .shr t x y (.int k a) (.int κ c) = some (.v (.int k (a.fdiv (2 ^ min c.toNat k.bits)))) := by
 have q : ¬ c < 0 := by have := of_decide_eq_true q; omega
 simp [binV, binOp, Op.shift, eqGuard, q, bind, Sem.bind, pure, Vc]
@[go_sem] theorem b_xor {x y : Operand} {a c : Int} : binV P .xor t x y (.int k a) (.int k c) = some (.v (.int k (k.wrap (BitVec.ofInt k.bits a ^^^ BitVec.ofInt k.bits c).toNat))) := by cases k <;> rfl
@[go_sem] theorem b_and {x y : Operand} {a c : Int} : binV P .and t x y (.int k a) (.int k c) = some (.v (.int k (k.wrap (BitVec.ofInt k.bits a &&& BitVec.ofInt k.bits c).toNat))) := by cases k <;> rfl
@[go_sem] theorem b_or {x y : Operand} {a c : Int} : binV P .or t x y (.int k a) (.int k c) = some (.v (.int k (k.wrap (BitVec.ofInt k.bits a ||| BitVec.ofInt k.bits c).toNat))) := by cases k <;> rfl
theorem ba_loop (s : ByteArray) : ∀ (k i : Nat) (r : List UInt8), s.size - i = k → Z7.loop s i r = r.reverse ++ s.data.toList.drop i
 | 0, i, r, hk => by
  rw [Z7.loop, if_neg (by omega), List.drop_eq_nil_of_le (by show s.data.toList.length ≤ i; rw [Array.length_toList]; exact (show s.size ≤ i by omega)), List.append_nil]
 | k + 1, i, r, hk => by
  have hi : i < s.size := by omega
  have hi' : i < s.data.toList.length := by rw [Array.length_toList]; exact hi
  rw [Z7.loop, if_pos hi, ba_loop s k (i + 1) _ (by omega), List.drop_eq_getElem_cons hi']
  have : s.get! i = s.data.toList[i] := by
   unfold ByteArray.get!
   rw [Array.getElem_toList]
   exact getElem!_pos s.data i hi
  rw [this]; simp
theorem Zr5 (s : ByteArray) : s.toList = s.data.toList := by
 unfold Z7
 rw [ba_loop s _ 0 [] rfl]; simp
theorem Zi1 (a b : ByteArray) : (a.toList == b.toList) = decide (a = b) := by
 rw [Bool.eq_iff_iff, decide_eq_true_eq, beq_iff_eq]
 exact ⟨fun q => ByteArray.ext (Array.ext' (by rw [← Zr5, ← Zr5]; exact q)), fun q => by rw [q]⟩
@[go_sem] theorem b_seql {x y : Operand} {a c : ByteArray} : binV P .eql t x y (.string a) (.string c) = some (.v (.bool (decide (a = c)))) := by
 rw [← Zi1]; rfl
@[go_sem] theorem b_sneq {x y : Operand} {a c : ByteArray} : binV P .neq t x y (.string a) (.string c) = some (.v (.bool (!decide (a = c)))) := by
 rw [← Zi1]; rfl
@[go_sem] theorem b_slss {x y : Operand} {a c : ByteArray} : binV P .lss t x y (.string a) (.string c) = some (.v (.bool (Op.bytesLess a.toList c.toList))) := rfl
@[go_sem] theorem b_sgeq {x y : Operand} {a c : ByteArray} : binV P .geq t x y (.string a) (.string c) = some (.v (.bool (!Op.bytesLess a.toList c.toList))) := rfl
@[go_sem] theorem b_sgtr {x y : Operand} {a c : ByteArray} : binV P .gtr t x y (.string a) (.string c) = some (.v (.bool (!(Op.bytesLess a.toList c.toList || decide (a = c))))) := by
 rw [← Zi1]; rfl
@[go_sem] theorem b_sleq {x y : Operand} {a c : ByteArray} : binV P .leq t x y (.string a) (.string c) = some (.v (.bool (Op.bytesLess a.toList c.toList || decide (a = c)))) := by
 rw [← Zi1]; rfl
end
section
variable {h : List Ob} {t : TypeId} {i o k : Nat} {y : D} {a : Ob} {l : List Ob}
@[go_sem] theorem loadD_ptr : Zb1 P h t (.ptr i o) = match h[i]? with
 | some (.cells ds) => getD P t ds o
 | _ => none := rfl
@[go_sem] theorem storeD_ptr : Zd8 P h t (.ptr i o) y = match y.cells with
 | none => none
 | some es => if es.all D.one && szT P t == some es.length then match h[i]? with
  | some (.cells ds) => if o + es.length ≤ ds.length then some (h.set i (.cells (putL ds o es))) else none
  | _ => none
  else none := by unfold Zd8; rfl
theorem hp_get0 : (h ++ l)[h.length]? = l[0]? := by rw [Zc (Nat.le_refl _), Nat.sub_self]
theorem hp_getk : (h ++ l)[h.length + k]? = l[k]? := by rw [Zc (by omega)]; congr 1; omega
theorem hp_set0 {x : Ob} : (h ++ l).set h.length x = h ++ l.set 0 x := by rw [List.set_append_right _ _ (Nat.le_refl _), Nat.sub_self]
theorem hp_setk {x : Ob} : (h ++ l).set (h.length + k) x = h ++ l.set k x := by rw [List.set_append_right _ _ (by omega)]; congr 2; omega
theorem hps_get0 {x : Ob} : (h.set i x ++ l)[h.length]? = l[0]? := by have := hp_get0 (h := h.set i x) (l := l); rwa [Z5] at this
theorem hps_getk {x : Ob} : (h.set i x ++ l)[h.length + k]? = l[k]? := by have := hp_getk (h := h.set i x) (l := l) (k := k); rwa [Z5] at this
theorem hps_set0 {x y : Ob} : (h.set i x ++ l).set h.length y = h.set i x ++ l.set 0 y := by have := hp_set0 (h := h.set i x) (l := l) (x := y); rwa [Z5] at this
theorem hps_setk {x y : Ob} : (h.set i x ++ l).set (h.length + k) y = h.set i x ++ l.set k y := by have := hp_setk (h := h.set i x) (l := l) (k := k) (x := y); rwa [Z5] at this
theorem own_get {ob : Ob} (hi : h[i]? = some ob) : (∀ x : Ob, (h.set i x)[i]? = some x) ∧ (∀ (x : Ob) (l : List Ob), (h.set i x ++ l)[i]? = some x) ∧ (∀ l : List Ob, (h ++ l)[i]? = some ob) ∧ (∀ (x : Ob) (l : List Ob), (h ++ l).set i x = h.set i x ++ l) ∧ (∀ (x y : Ob) (l : List Ob), (h.set i x ++ l).set i y = h.set i y ++ l) := by
 have hil := (Z3.1 hi).1
 refine ⟨fun x => List.getElem?_set_self hil, fun x l => ?_, fun l => ?_, fun x l => ?_, fun x y l => ?_⟩
 · rw [Z4 (by simpa using hil)]; exact List.getElem?_set_self hil
 · rw [Z4 hil]; exact hi
 · rw [Z9 _ _ hil]
 · rw [Z9 _ _ (by simpa using hil), List.set_set]
end
@[go_sem] theorem argEnv_zero {a : D} {l : List D} : Yj2 (a :: l) 0 = a := rfl
@[go_sem] theorem argEnv_succ {a : D} {l : List D} {k : Nat} : Yj2 (a :: l) (k + 1) = Yj2 l k := by simp [Yj2]
@[go_sem] theorem cells_int {k : IntKind} {m : Int} : (D.v (.int k m)).cells = some [.v (.int k m)] := rfl
@[go_sem] theorem cells_bool {b : Bool} : (D.v (.bool b)).cells = some [.v (.bool b)] := rfl
@[go_sem] theorem cells_str {s : ByteArray} : (D.v (.string s)).cells = some [.v (.string s)] := rfl
@[go_sem] theorem cells_nsl : (D.v (.slice none 0 0)).cells = some [.v (.slice none 0 0)] := rfl
@[go_sem] theorem cells_sl {k : Nat} {xs : List (List D)} : (D.sl k xs).cells = some [.sl k xs] := rfl
@[go_sem] theorem cells_buf {i m : Nat} : (D.buf i m).cells = some [.buf i m] := rfl
@[go_sem] theorem cells_ptr {i m : Nat} : (D.ptr i m).cells = some [.ptr i m] := rfl
@[go_sem] theorem cells_agg {ds : List D} : (D.agg ds).cells = some ds := rfl
@[go_sem] theorem one_int {k : IntKind} {m : Int} : (D.v (.int k m)).one = true := rfl
@[go_sem] theorem one_bool {b : Bool} : (D.v (.bool b)).one = true := rfl
@[go_sem] theorem one_str {s : ByteArray} : (D.v (.string s)).one = true := rfl
@[go_sem] theorem one_nsl : (D.v (.slice none 0 0)).one = true := rfl
@[go_sem] theorem one_sl {k : Nat} {xs : List (List D)} : (D.sl k xs).one = true := rfl
@[go_sem] theorem one_buf {i m : Nat} : (D.buf i m).one = true := rfl
@[go_sem] theorem one_ptr {i m : Nat} : (D.ptr i m).one = true := rfl
@[go_sem] theorem putL_zero {α : Type} {a b : α} {l : List α} : putL (a :: l) 0 [b] = b :: l := rfl
@[go_sem] theorem putL_succ {α : Type} {a b : α} {l : List α} {o : Nat} : putL (a :: l) (o + 1) [b] = a :: putL l o [b] := by simp [putL, Nat.add_right_comm]
@[go_sem] theorem isPtr_ptr {i m : Nat} : isPtr (.ptr i m) = true := rfl
@[go_sem] theorem isPtr_rp {ds : List D} : isPtr (.rp ds) = true := rfl
attribute [go_sem] Option.isSome_some Za List.take_succ_cons List.take_zero List.all_cons List.all_nil Bool.and_true Bool.true_and Ze List.cons_append List.nil_append List.length_append Z5 List.set_set Nat.add_zero Nat.zero_add hp_get0 hp_getk hp_set0 hp_setk hps_get0 hps_getk hps_set0 hps_setk List.set_cons_zero List.set_cons_succ beq_self_eq_true List.map_cons List.map_nil List.length_map Zh List.length_nil Option.bind_some true_and and_true List.drop_zero List.getElem?_cons_zero List.getElem?_cons_succ List.drop_succ_cons Bool.not_true Bool.not_false
theorem endD {res : Array ResultVar} {h0 : List Ob} {K : List Ob → D → Prop} {s : S} {ds : List D} {r : D} (hl : lowH h0.length h0) (h1 : resD P s res.toList = some ds) (h2 : s.h.take h0.length = h0) (h4 : h0.length ≤ s.h.length)
 (h3 : cvD (fun i => decide (h0.length ≤ i)) s.h (outD ds) = r) (h5 : low h0.length r) (hK : K h0 r) : EndD P res h0.length K s := ⟨ds, h0.length, h1, Nat.le_refl _, h4, by rw [h2]; exact hl, by rw [h3]; exact h5, by rw [h2, h3]; exact hK⟩
end
section
variable {P : Program} {G : Nat → D} {n : Nat} {e : Nat → D} {h : List Ob} {ops : Array Oper} {md : Region.Mode}
def putE (n : Nat) (e : Nat → D) (dst : Option Nat) (d : D) : Nat → D := match dst with
 | some t => if t < n then upd e t d else e
 | none => e
theorem Zc1 {dst : Option Nat} {d : D} : S.put ⟨n, e, h⟩ dst d = ⟨n, putE n e dst d, h⟩ := by
 unfold S.put putE
 cases dst with
 | none => rfl
 | some t => simp only; split <;> rfl
def Yl (P : Program) (G : Nat → D) (op : Op) (e : Nat → D) (h : List Ob) (d : D) : Prop := aOp P G e h (fun h' d' => h' = h ∧ d' = d) op ∨
 ∃ x args tys f cap, op = .call ⟨.value x, args, tys⟩ ∧ ev G e x = .fn f cap ∧ entB P f = true ∧ Does P G f h (args.toList.map (ev G e) ++ cap) (fun h' r => h' = h ∧ r = d)
theorem Zr7 {e' : Nat → D} {K : List Ob → D → Prop} {op : Op} (q : ∀ x ∈ op.operands, ev G e' x = ev G e x) (k : aOp P G e h K op) : aOp P G e' h K op := by
 cases op <;> try exact k
 case call c =>
  obtain ⟨cal, args, tys⟩ := c
  cases cal with
  | builtin b =>
   have : args.toList.map (ev G e') = args.toList.map (ev G e) := Z1 fun x hx => q x (by simp only [Op.operands, Call.operands]; simpa using hx)
   show biA P h b tys.toList (args.toList.map (ev G e')) K
   rw [this]; exact k
  | _ => exact k
 case build t parts =>
  have : (parts.toList.map fun q => (q.1, ev G e' q.2)) = parts.toList.map fun q => (q.1, ev G e q.2) := Z1 fun x hx => by rw [q x.2 (by simp only [Op.operands, Zi]; exact List.mem_map.2 ⟨x, hx, rfl⟩)]
  show on (Zv1 P t (parts.toList.map fun q => (q.1, ev G e' q.2))) _
  rw [this]; exact k
 case buildSlice t len parts =>
  have : (parts.toList.map fun q => (q.1, ev G e' q.2)) = parts.toList.map fun q => (q.1, ev G e q.2) := Z1 fun x hx => by rw [q x.2 (by simp only [Op.operands, Zi]; exact List.mem_map.2 ⟨x, hx, rfl⟩)]
  show on (litD P t len (parts.toList.map fun q => (q.1, ev G e' q.2))) _
  rw [this]; exact k
 case slice t x lo hi mx =>
  cases mx with
  | some m => exact k
  | none =>
   have hx := q x (by simp [Op.operands])
   have hlo : lo.map (ev G e') = lo.map (ev G e) := by
    cases lo with
    | none => rfl
    | some y => simp only [Za]; rw [q y (by simp [Op.operands])]
   have hhi : hi.map (ev G e') = hi.map (ev G e) := by
    cases hi with
    | none => rfl
    | some y => simp only [Za]; rw [q y (by simp [Op.operands])]
   show slcA P t (ev G e' x) (lo.map (ev G e')) (hi.map (ev G e')) _
   rw [hx, hlo, hhi]; exact k
 all_goals
  simp only [Op.operands, Zi, Array.mem_def, List.mem_cons, List.not_mem_nil, or_false, forall_eq_or_imp, forall_eq] at q
  simp only [aOp] at k ⊢
  first | (simp only [q]; exact k) | (simp only [q.1, q.2]; exact k) | (simp only [q.1, q.2.1, q.2.2]; exact k)
theorem Yo9 {dst : Option Nat} {v : D} {x : Operand} (q : ∀ t, dst = some t → x ≠ .tmp t) : ev G (putE n e dst v) x = ev G e x := by
 cases dst with
 | none => rfl
 | some t =>
  unfold putE
  simp only
  split
  · cases x with
    | tmp u =>
     have : u ≠ t := fun h => q t rfl (by rw [h])
     show upd e t v u = e u
     unfold upd; rw [if_neg this]
    | _ => rfl
  · rfl
theorem Zj1 {o : Oper} {d : Nat} (q : d ∉ o.looksAt ops) : ∀ x ∈ o.op.operands, x ≠ .tmp d := fun x hx he => q (by
 subst he
 unfold Oper.looksAt
 exact List.mem_append_left _ (List.mem_filterMap.2 ⟨.tmp d, by simpa using hx, rfl⟩))
theorem Yl_put {o : Oper} {dst : Option Nat} {v d : D} (q : ∀ t, dst = some t → t ∉ o.looksAt ops) (k : Yl P G o.op e h d) : Yl P G o.op (putE n e dst v) h d := by
 have key : ∀ x ∈ o.op.operands, ev G (putE n e dst v) x = ev G e x := fun x hx => Yo9 fun t ht => Zj1 (q t ht) x hx
 rcases k with k | ⟨x, args, tys, f, cap, e1, e2, e3, e4⟩
 · exact .inl (Zr7 key k)
 · rw [e1] at key
   have h1 : ev G (putE n e dst v) x = ev G e x := key x (by simp [Op.operands, Call.operands])
   have h2 : args.toList.map (ev G (putE n e dst v)) = args.toList.map (ev G e) := Z1 fun y hy => key y (by simp [Op.operands, Call.operands]; exact .inr (by simpa using hy))
   exact .inr ⟨x, args, tys, f, cap, e1, h1.trans e2, e3, by rw [h2]; exact e4⟩
theorem Yl_put' {o : Oper} {dst : Option Nat} {v d : D} (q : ∀ t, dst = some t → t ∉ o.looksAt ops) (k : Yl P G o.op (putE n e dst v) h d) : Yl P G o.op e h d := by
 have key : ∀ x ∈ o.op.operands, ev G e x = ev G (putE n e dst v) x := fun x hx => (Yo9 fun t ht => Zj1 (q t ht) x hx).symm
 rcases k with k | ⟨x, args, tys, f, cap, e1, e2, e3, e4⟩
 · exact .inl (Zr7 key k)
 · rw [e1] at key
   have h1 := key x (by simp [Op.operands, Call.operands])
   have h2 : args.toList.map (ev G e) = args.toList.map (ev G (putE n e dst v)) := Z1 fun y hy => key y (by simp [Op.operands, Call.operands]; exact .inr (by simpa using hy))
   exact .inr ⟨x, args, tys, f, cap, e1, h1.trans e2, e3, by rw [h2]; exact e4⟩
theorem Zb4 {o : Oper} {dst : Option Nat} {v : D} (q : ∀ t, dst = some t → t ∉ o.looksAt ops) : Yg ops o.guard (putE n e dst v) = Yg ops o.guard e := by
 cases dst with
 | none => rfl
 | some d =>
  unfold Yg
  cases hg : o.guard with
  | none => rfl
  | some g =>
   obtain ⟨j, w⟩ := g
   simp only
   cases ht : (ops[j]?).bind (·.dst) with
   | none => rfl
   | some t =>
    have hne : t ≠ d := fun e => q d rfl (by subst e; simp [Oper.looksAt, hg, ht])
    have : putE n e (some d) v t = e t := by
     unfold putE
     simp only
     split
     · unfold upd; rw [if_neg hne]
     · rfl
    simp only [this]
theorem Zz6 {x y : Option Nat} {v u : D} (q : ∀ d, x = some d → y ≠ some d) : putE n (putE n e x v) y u = putE n (putE n e y u) x v := by
 cases x with
 | none => rfl
 | some a =>
  cases y with
  | none => rfl
  | some b =>
   have hab : a ≠ b := fun h => q a rfl (by rw [h])
   unfold putE
   simp only
   split <;> split <;> first | rfl | skip
   funext t
   unfold upd
   by_cases h1 : t = b
   · rw [if_pos h1, if_neg (by rw [h1]; exact Ne.symm hab), if_pos h1]
   · rw [if_neg h1, if_neg h1]
def aqOp (P : Program) (G : Nat → D) (n : Nat) (ops : Array Oper) (h : List Ob) (i : Nat) (K : (Nat → D) → Prop) (e : Nat → D) : Prop := match ops[i]? with
 | none => K e
 | some o => match Yg ops o.guard e with
  | some true => ∃ d, Yl P G o.op e h d ∧ K (putE n e o.dst d)
  | some false => K (putE n e o.dst (.v undef))
  | none => False
theorem aqOp_mono {i : Nat} {K K' : (Nat → D) → Prop} (k : ∀ e, K e → K' e) (q : aqOp P G n ops h i K e) : aqOp P G n ops h i K' e := by
 unfold aqOp at *
 split
 · rename_i ho; rw [ho] at q; exact k _ q
 · rename_i o ho
   rw [ho] at q
   simp only at q
   split
   · rename_i hw; rw [hw] at q; obtain ⟨d, h1, h2⟩ := q; exact ⟨d, h1, k _ h2⟩
   · rename_i hw; rw [hw] at q; exact k _ q
   · rename_i hw; rw [hw] at q; exact q
def aqAny (P : Program) (G : Nat → D) (n : Nat) (md : Region.Mode) (ops : Array Oper) (h : List Ob) (Q : (Nat → D) → Prop) : Nat → Array Bool → (Nat → D) → Prop
 | 0, listed, e => Region.ready md ops listed = [] ∧ Q e
 | fuel + 1, listed, e => (Region.ready md ops listed = [] → Q e) ∧ ∀ i ∈ Region.ready md ops listed, aqOp P G n ops h i (aqAny P G n md ops h Q fuel (listed.setIfInBounds i true)) e
def YD (P : Program) (G : Nat → D) (ops : Array Oper) (h : List Ob) (o : Oper) (d : D) (e : Nat → D) : Prop := (Yg ops o.guard e = some true ∧ Yl P G o.op e h d) ∨ (Yg ops o.guard e = some false ∧ d = .v undef)
theorem YD.aqOp {i : Nat} {o : Oper} {d : D} (hi : ops[i]? = some o) (hy : YD P G ops h o d e) {K : (Nat → D) → Prop} (k : K (putE n e o.dst d)) : aqOp P G n ops h i K e := by
 unfold Go.Proofs.YtbhkcbidcfofiaaGreat.aqOp
 simp only [hi]
 rcases hy with ⟨hw, hv⟩ | ⟨hw, rfl⟩
 · simp only [hw]; exact ⟨d, hv, k⟩
 · simp only [hw]; exact k
theorem YD.put {o : Oper} {dst : Option Nat} {d v : D} (hy : YD P G ops h o d e) (q : ∀ t, dst = some t → t ∉ o.looksAt ops) : YD P G ops h o d (putE n e dst v) := by
 unfold YD
 rw [Zb4 q]
 exact hy.imp (fun ⟨a, b⟩ => ⟨a, Yl_put q b⟩) id
theorem YD_of {i : Nat} {o : Oper} {K : (Nat → D) → Prop} (hi : ops[i]? = some o) (q : Go.Proofs.YtbhkcbidcfofiaaGreat.aqOp P G n ops h i K e) : ∃ d, YD P G ops h o d e ∧ K (putE n e o.dst d) := by
 unfold Go.Proofs.YtbhkcbidcfofiaaGreat.aqOp at q
 simp only [hi] at q
 split at q
 · rename_i hw; obtain ⟨d, h1, h2⟩ := q; exact ⟨d, .inl ⟨hw, h1⟩, h2⟩
 · rename_i hw; exact ⟨_, .inr ⟨hw, rfl⟩, q⟩
 · exact q.elim
theorem aqOp_put {j : Nat} {oi oj : Oper} {v : D} (hj : ops[j]? = some oj) (hap : oi.apart ops oj = true) {K : (Nat → D) → Prop} (hy : YD P G ops h oi v e) (q : Go.Proofs.YtbhkcbidcfofiaaGreat.aqOp P G n ops h j K (putE n e oi.dst v)) :
 Go.Proofs.YtbhkcbidcfofiaaGreat.aqOp P G n ops h j (fun e' => YD P G ops h oi v e' ∧ K (putE n e' oi.dst v)) e := by
 obtain ⟨h1, h2, h3⟩ := Oper.apart_spec hap
 obtain ⟨d, hd, hk⟩ := YD_of hj q
 have hd' : YD P G ops h oj d e := by
  unfold YD at hd ⊢
  rw [Zb4 h1] at hd
  exact hd.imp (fun ⟨a, b⟩ => ⟨a, Yl_put' h1 b⟩) id
 exact hd'.aqOp hj ⟨hy.put h3, by rw [← Zz6 h2]; exact hk⟩
theorem aqAny_first {Q : (Nat → D) → Prop} {i : Nat} {oi : Oper} {v : D} (hi : ops[i]? = some oi) : ∀ (fuel : Nat) (listed : Array Bool) (e : Nat → D),
 (∀ j oj, ops[j]? = some oj → j ≠ i → listed.getD j true = false → (∀ e ∈ oj.after, Region.binds md e = true → e.on ≠ i) → oi.apart ops oj = true) →
 i ∈ Region.ready md ops listed → YD P G ops h oi v e → aqAny P G n md ops h Q fuel (listed.setIfInBounds i true) (putE n e oi.dst v) → aqAny P G n md ops h Q (fuel + 1) listed e := by
  intro fuel
  induction fuel with
  | zero =>
    intro listed a _ hr hy H
    refine ⟨fun h => (by rw [h] at hr; cases hr), fun j hj => ?_⟩
    by_cases hji : j = i
    · subst hji; exact hy.aqOp hi H
    · have := ready_mono hj hji
      rw [H.1] at this
      cases this
  | succ fuel ih =>
    intro listed a hfree hr hy H
    refine ⟨fun h => (by rw [h] at hr; cases hr), fun j hj => ?_⟩
    by_cases hji : j = i
    · subst hji; exact hy.aqOp hi H
    · have h1 := H.2 j (ready_mono hj hji)
      obtain ⟨hjun, oj, hoj, hall⟩ := mem_ready.1 hj
      have hnot : ∀ e ∈ oj.after, Region.binds md e = true → e.on ≠ i := fun e he hb heq => by
        have h1 := hall e he hb
        have h0 := (mem_ready.1 hr).1
        rw [heq] at h1
        rcases Nat.lt_or_ge i listed.size with h' | h'
        · simp [h'] at h0 h1; rw [h0] at h1; cases h1
        · simp [Z6 h'] at h1
      have h2 := aqOp_put hoj (hfree j oj hoj hji hjun hnot) hy h1
      have hfree' : ∀ k ok, ops[k]? = some ok → k ≠ i → (listed.setIfInBounds j true).getD k true = false →
          (∀ e ∈ ok.after, Region.binds md e = true → e.on ≠ i) → oi.apart ops ok = true := fun k ok hk hki hun hno => by
        refine hfree k ok hk hki ?_ hno
        by_cases hjk : j = k
        · subst hjk; exact hjun
        · rw [getD_set_ne true hjk] at hun; exact hun
      refine aqOp_mono (fun a' h3 => ih (listed.setIfInBounds j true) a' hfree' (ready_mono hr (Ne.symm hji)) h3.1 ?_) h2
      rw [Zg _ _ hji]
      exact h3.2
def aq (P : Program) (G : Nat → D) (n : Nat) (ops : Array Oper) (h : List Ob) (Q : (Nat → D) → Prop) : List Oper → (Nat → D) → Prop
 | [], e => Q e
 | o :: rest, e => ∃ d, YD P G ops h o d e ∧ aq P G n ops h Q rest (putE n e o.dst d)
theorem aqAny_lex {Q : (Nat → D) → Prop} : ∀ (l : List Oper) (k : Nat) (listed : Array Bool) (e : Nat → D), (∀ j, l[j]? = ops[k + j]?) → Region.lexFrom md ops l.length k listed = true → aq P G n ops h Q l e → aqAny P G n md ops h Q l.length listed e
 | [], _, _, _, _, hB, q => ⟨by simpa [Region.lexFrom] using hB, q⟩
 | o :: l, k, listed, e, hl, hB, q => by
    have h0 : ops[k]? = some o := by simpa using (hl 0).symm
    simp only [Zh, Region.lexFrom, Z8] at hB
    obtain ⟨⟨hr, hf⟩, hB'⟩ := hB
    obtain ⟨v, hy, hK⟩ := q
    exact aqAny_first h0 l.length listed e (Region.free_spec h0 hf) (by simpa using hr) hy
      (aqAny_lex l (k + 1) _ _ (fun j => by have := hl (j + 1); simpa [Nat.add_assoc, Nat.add_comm 1 j] using this) hB' hK)
variable {B : Base} {a : Act} {w : World}
theorem Yl_sound {o : Oper} {d : D} {K : Act → World → Prop} {R : Exit → Act → World → Prop} (q : Yl P G o.op e h d) (r : Sit G B ⟨n, e, h⟩ a w) (k : ∀ a' w', Sit G B ⟨n, putE n e o.dst d, h⟩ a' w' → K a' w') : o.wp P a w K R := by
 obtain ⟨hd, p, r⟩ := r
 obtain ⟨dst, op, ty, pos, aft, gd⟩ := o
 have fin : ∀ (s' : S), s' = S.put ⟨n, e, h⟩ dst d → s' = ⟨n, putE n e dst d, h⟩ := fun s' hs => by rw [hs, Zc1]
 rcases q with q | ⟨x, args, tys, f, cap, rfl, e2, e3, e4⟩
 · obtain ⟨v, w', hd', h', p', d', hr, ⟨rfl, rfl⟩, o', q', ev'⟩ := Zr6 (dst := dst) (ty := ty) (pos := pos) (aft := aft) (gd := gd) r q
   unfold Oper.wp
   have := r.put o' ev' q' dst
   rw [fin _ rfl] at this
   rcases hr with hr | ⟨hr, rfl⟩
   · rw [hr]; exact k _ _ ⟨hd', p', this⟩
   · rw [hr]; exact k _ _ ⟨hd', p', this⟩
 · have q0 := r.ev x
   rw [e2, rd] at q0
   obtain ⟨cs, e1, q0⟩ := q0
   have hrun : (execOp a.eval ⟨dst, .call ⟨.value x, args, tys⟩, ty, pos, aft, gd⟩).run P w = .ok (.enter f (args.map a.eval ++ cs)) w := by
    simp [execOp, resolve, e1, Deferred.ofValue, invoke, Zo2 e3]
   unfold Oper.wp
   rw [hrun, Oper.upon_enter]
   have hargs : rdL hd h (only p w) (args.toList.map (ev G e) ++ cap) (args.toList.map a.eval ++ cs.toList) := Wr (Zs2 r _) q0
   have := e4 w hd p _ r.ok hargs
   rw [show (args.toList.map a.eval ++ cs.toList).toArray = args.map a.eval ++ cs by apply Array.ext'; simp] at this
   refine this.mono ?_
   rintro e' w' ⟨v, hd', h', d', p', rfl, ⟨rfl, rfl⟩, o, q2, ev'⟩
   have := r.put o ev' q2 dst
   rw [fin _ rfl] at this
   exact k _ _ ⟨hd', p', this⟩
theorem Zd2 {Q : (Nat → D) → Prop} {R : Exit → Act → World → Prop} (k : ∀ e a w, Q e → Sit G B ⟨n, e, h⟩ a w → R .normal a w) : ∀ (fuel : Nat) (listed : Array Bool) (e : Nat → D) (a : Act) (w : World), Sit G B ⟨n, e, h⟩ a w → aqAny P G n md ops h Q fuel listed e → wpAny P md ops R fuel listed a w
 | 0, _, _, _, _, r, q => ⟨q.1, k _ _ _ q.2 r⟩
 | fuel + 1, listed, e, a, w, r, q => ⟨fun h0 => k _ _ _ (q.1 h0) r, fun i hi => by
   have q2 := q.2 i hi
   unfold aqOp at q2
   unfold wpOp
   split
   · rename_i ho; rw [ho] at q2; exact Zd2 k fuel _ _ _ _ r q2
   · rename_i o ho
     rw [ho] at q2
     simp only at q2
     split at q2
     · rename_i hw
       obtain ⟨hd, p, r'⟩ := id r
       have hw' := Xf (o := o) r' hw
       rw [if_pos hw']
       obtain ⟨d, h1, h2⟩ := q2
       exact .inl (Yl_sound h1 r fun a' w' r2 => Zd2 k fuel _ _ _ _ r2 h2)
     · rename_i hw
       obtain ⟨hd, p, r'⟩ := id r
       have hw' := Xf (o := o) r' hw
       rw [if_neg (by rw [hw']; decide)]
       have r3 := r'.put0 (d := .v undef) (v := undef) (by rw [rd]) o.dst
       rw [Zc1] at r3
       exact Zd2 k fuel _ _ _ _ ⟨hd, p, r3⟩ q2
     · exact q2.elim⟩
theorem Y8 {id : Nat} {l : List Oper} {Q : Exit → S → Prop} (hm : P.follows .mixedOrders = true) (hB : Region.lexB .any l.toArray = true) (H : aq P G n l.toArray h (fun e => Q .normal ⟨n, e, h⟩) l e) : aw P G (.region id l.toArray true) Q ⟨n, e, h⟩ := fun B a w r => by
 obtain ⟨hd, p, r⟩ := r
 have hdr := r.ok.drew
 have r' : Sit G B ⟨n, e, h⟩ a { w with drawn := w.drawn + 1 } := ⟨hd, p, hdr.1, r.evo.trans hdr.2, fun t => hdr.2.rd r.ok (r.tmp t), r.size, r.defers⟩
 simp only [Region.lexB, Z8] at hB
 refine wp_region_any hm (Zd2 (Q := fun e => Q .normal ⟨n, e, h⟩) (fun e a w q r => ⟨_, q, r⟩) _ _ _ _ _ r' ?_)
 have := aqAny_lex (P := P) (G := G) (n := n) (h := h) (md := .any) (ops := l.toArray) (Q := fun e => Q .normal ⟨n, e, h⟩) l 0 (Array.replicate l.toArray.size false) e (by simp) (by simpa using hB.2) H
 simpa using this
section
variable {rest : List Oper} {Q : (Nat → D) → Prop} {t : Nat} {op : Op} {ty : TypeId} {pos : String} {aft : Array Edge} {gd : Option (Nat × Bool)}
theorem Ye3 (q : Q e) : aq P G n ops h Q [] e := q
theorem Yr0 {K : List Ob → D → Prop} (q : aOp P G e h K op) (k : ∀ h' d, K h' d → h' = h) : ∃ d, aOp P G e h (fun h' d' => h' = h ∧ d' = d) op ∧ K h d := by
 have one : ∀ {x : Option D}, on x (K h) → ∃ d, on x (fun d' => h = h ∧ d' = d) ∧ K h d := fun {x} q => by
  obtain ⟨d, h1, h2⟩ := W6.1 q
  exact ⟨d, W6.2 ⟨d, h1, rfl, rfl⟩, h2⟩
 cases op <;> try exact q.elim
 case move x => exact ⟨_, ⟨rfl, rfl⟩, q⟩
 case assign x => exact ⟨_, ⟨rfl, rfl⟩, q⟩
 case pick c x y => obtain ⟨t, h1, h2⟩ := q; exact ⟨_, ⟨t, h1, rfl, rfl⟩, h2⟩
 case binOp => exact one q
 case unOp => exact one q
 case convert t u x =>
  have q : cvA P h t u (ev G e x) K := q
  suffices ∃ d, cvA P h t u (ev G e x) (fun h' d' => h' = h ∧ d' = d) ∧ K h d from this
  unfold cvA at q ⊢
  split at q
  · exact one q
  · rcases q with ⟨q1, q2, q3, q4⟩ | ⟨q1, q2, q4⟩
    · exact ⟨_, .inl ⟨q1, q2, q3, rfl, rfl⟩, q4⟩
    · exact ⟨_, .inr ⟨q1, q2, rfl, rfl⟩, q4⟩
  · obtain ⟨q1, q2, q3⟩ := q
    unfold bstD
    split at q3
    · obtain ⟨bs, q4, q5⟩ := q3; exact ⟨_, ⟨q1, q2, bs, q4, rfl, rfl⟩, q5⟩
    · obtain ⟨a, b, c, q4, q5, q6, q7⟩ := q3; exact ⟨_, ⟨q1, q2, a, b, c, q4, q5, q6, rfl, rfl⟩, q7⟩
    · exact ⟨_, ⟨q1, q2, rfl, rfl⟩, q3⟩
    · exact q3.elim
 case build t parts =>
  obtain ⟨ds, h1, h2⟩ := W6.1 q
  exact ⟨_, W6.2 ⟨ds, h1, rfl, rfl⟩, h2⟩
 case buildSlice t len parts =>
  obtain ⟨ds, h1, h2⟩ := W6.1 q
  exact absurd (congrArg List.length (k _ _ h2)) (by simp)
 case slice t x lo hi mx =>
  cases mx with
  | some m => exact q.elim
  | none =>
   have q : slcA P t (ev G e x) (lo.map (ev G e)) (hi.map (ev G e)) (K h) := q
   suffices ∃ d, slcA P t (ev G e x) (lo.map (ev G e)) (hi.map (ev G e)) (fun d' => h = h ∧ d' = d) ∧ K h d from this
   unfold slcA at q ⊢
   split at q
   · obtain ⟨l, r, a, b, c, d, e, f, g⟩ := q; exact ⟨_, ⟨l, r, a, b, c, d, e, f, rfl, rfl⟩, g⟩
   · obtain ⟨l, r, a, b, c, d, e, f, g⟩ := q; exact ⟨_, ⟨l, r, a, b, c, d, e, f, rfl, rfl⟩, g⟩
   · exact q.elim
 case index t x i =>
  have q : indA P t (ev G e x) (ev G e i) (K h) := q
  suffices ∃ d, indA P t (ev G e x) (ev G e i) (fun d' => h = h ∧ d' = d) ∧ K h d from this
  unfold indA at q ⊢
  split at q
  · rename_i s κ n _ _
    obtain ⟨a, b, c, d⟩ := q
    have hlt : n.toNat < s.data.size := by have : s.data.size = s.size := rfl; omega
    exact ⟨_, ⟨a, b, c, fun b hb => ⟨rfl, by rw [Zd hlt] at hb; cases hb; rfl⟩⟩, d _ (Zd hlt)⟩
  · obtain ⟨l, e, z, d, h1, h2, h3, h4, h5, h6⟩ := q; exact ⟨_, ⟨l, e, z, d, h1, h2, h3, h4, h5, rfl, rfl⟩, h6⟩
  · exact q.elim
 case extract => exact one q
 case field => exact one q
 case load => exact one q
 case fieldAddr => exact one q
 case store t x y =>
  obtain ⟨h', h1, h2⟩ := W6.1 q
  have := k _ _ h2
  subst this
  exact ⟨_, W6.2 ⟨_, h1, rfl, rfl⟩, h2⟩
 case nilCheck x => exact ⟨_, ⟨q.1, rfl, rfl⟩, q.2⟩
 case box t x =>
  obtain ⟨ds, h1, h2⟩ := W6.1 q
  exact absurd (congrArg List.length (k _ _ h2)) (by simp)
 case alloc t =>
  obtain ⟨ds, h1, h2⟩ := W6.1 q
  exact absurd (congrArg List.length (k _ _ h2)) (by simp)
 case indexAddr t x i =>
  have q : idxA P h t (ev G e x) (ev G e i) (K h) := q
  suffices ∃ d, idxA P h t (ev G e x) (ev G e i) (fun d' => h = h ∧ d' = d) ∧ K h d from this
  unfold idxA at q ⊢
  generalize ev G e x = X at q ⊢
  generalize ev G e i = I at q ⊢
  cases I <;> try exact q.elim
  case v I =>
  cases I <;> try exact q.elim
  case int κ m =>
  cases X <;> try exact q.elim
  case sl kk xs =>
   obtain ⟨h1, h2, h3, h4⟩ := q
   have hr : xs[m.toNat]? = some (xs[m.toNat]'(by omega)) := List.getElem?_eq_getElem (by omega)
   exact ⟨_, ⟨h1, h2, h3, fun row hrow => ⟨rfl, by rw [hr] at hrow; cases hrow; rfl⟩⟩, h4 _ hr⟩
  case buf i' n' => obtain ⟨a, b, c, h1, h2, h3, h4, h5, h6⟩ := q; exact ⟨_, ⟨a, b, c, h1, h2, h3, h4, h5, rfl, rfl⟩, h6⟩
  case win i' n' a' b' => obtain ⟨a, b, c, h1, h2, h3, h4, h5, h6⟩ := q; exact ⟨_, ⟨a, b, c, h1, h2, h3, h4, h5, rfl, rfl⟩, h6⟩
  case ptr i' n' => obtain ⟨a, b, c, h1, h2, h3, h4, h5⟩ := q; exact ⟨_, ⟨a, b, c, h1, h2, h3, h4, rfl, rfl⟩, h5⟩
  case rp ds => obtain ⟨a, b, c, h1, h2, h3, h4, h5⟩ := q; exact ⟨_, ⟨a, b, c, h1, h2, h3, h4, rfl, rfl⟩, h5⟩
 case call c =>
  obtain ⟨cal, args, tys⟩ := c
  cases cal with
  | builtin b =>
   have q : biA P h b tys.toList (args.toList.map (ev G e)) K := q
   suffices ∃ d, biA P h b tys.toList (args.toList.map (ev G e)) (fun h' d' => h' = h ∧ d' = d) ∧ K h d from this
   unfold biA at q ⊢
   split at q
   · exact one q
   · obtain ⟨a, b, c, ys, h1, h2, h3, h4⟩ := q
     split at h4
     · rename_i i' n' _
       obtain ⟨xs, g1, g2, g3, g4⟩ := h4
       exact ⟨_, ⟨a, b, c, ys, h1, h2, h3, xs, g1, g2, g3, k _ _ g4, rfl⟩, by rw [← k _ _ g4]; exact (k _ _ g4).symm ▸ g4⟩
     · exact absurd (congrArg List.length (k _ _ h4.2)) (by simp)
     · exact h4.elim
   · exact q.elim
  | _ => exact q.elim
theorem aq1 (hw : Yg ops gd e = some true) (ht : decide (t < n) = true) (H : ∀ K : List Ob → D → Prop, (∀ h' d, h' = h → aq P G n ops h Q rest (upd e t d) → K h' d) → aOp P G e h K op) : aq P G n ops h Q (⟨some t, op, ty, pos, aft, gd⟩ :: rest) e := by
 obtain ⟨d, h1, _, h2⟩ := Yr0 (H (fun h' d => h' = h ∧ aq P G n ops h Q rest (upd e t d)) fun h' d q1 q2 => ⟨q1, q2⟩) fun h' d q => q.1
 exact ⟨d, .inl ⟨hw, .inl h1⟩, by unfold putE; simp only [if_pos (of_decide_eq_true ht)]; exact h2⟩
theorem aq0 (hw : Yg ops gd e = some false) (ht : decide (t < n) = true) (k : aq P G n ops h Q rest (upd e t (.v undef))) : aq P G n ops h Q (⟨some t, op, ty, pos, aft, gd⟩ :: rest) e :=
 ⟨.v undef, .inr ⟨hw, rfl⟩, by unfold putE; simp only [if_pos (of_decide_eq_true ht)]; exact k⟩
theorem aq2 {x : Operand} {args : Array Operand} {tys : Array TypeId} {f : FuncId} {cap : List D} {d : D} (hw : Yg ops gd e = some true) (ht : decide (t < n) = true) (hx : ev G e x = .fn f cap) (he : entB P f = true)
 (hc : Does P G f h (args.toList.map (ev G e) ++ cap) (fun h' r => h' = h ∧ r = d)) (k : aq P G n ops h Q rest (upd e t d)) : aq P G n ops h Q (⟨some t, .call ⟨.value x, args, tys⟩, ty, pos, aft, gd⟩ :: rest) e :=
 ⟨d, .inl ⟨hw, .inr ⟨x, args, tys, f, cap, rfl, hx, he, hc⟩⟩, by unfold putE; simp only [if_pos (of_decide_eq_true ht)]; exact k⟩
end
end
section
@[go_sem] theorem aggT_9 : aggT Z0 9 = some false := by kernel_rfl
@[go_sem] theorem aggT_26 : aggT Z0 26 = some true := by kernel_rfl
@[go_sem] theorem aggT_30 : aggT Z0 30 = some true := by kernel_rfl
@[go_sem] theorem tt1 : aggT Z0 2 = some false ∧ aggT Z0 3 = some false ∧ aggT Z0 4 = some false ∧ aggT Z0 5 = some false ∧ aggT Z0 22 = some false ∧ aggT Z0 23 = some false ∧ aggT Z0 24 = some false ∧ aggT Z0 27 = some false ∧ aggT Z0 28 = some false ∧ aggT Z0 33 = some false ∧ aggT Z0 60 = some false ∧ aggT Z0 67 = some false ∧ aggT Z0 69 = some true ∧ aggT Z0 84 = some true ∧ aggT Z0 117 = some false ∧ aggT Z0 165 = some true ∧ aggT Z0 192 = some false ∧ aggT Z0 217 = some true ∧ aggT Z0 219 = some true ∧ Zv3 Z0 26 = true ∧ Zv3 Z0 30 = true ∧ Zv3 Z0 69 = true ∧ Zv3 Z0 84 = true ∧ Zv3 Z0 131 = true ∧ Zv3 Z0 157 = true ∧ Zv3 Z0 194 = true ∧ Zv3 Z0 217 = true ∧ Zv3 Z0 219 = true ∧ apT Z0 22 = some (9, 1, 16) ∧ apT Z0 27 = some (30, 4, 80) ∧ apT Z0 28 = some (69, 2, 40) ∧ apT Z0 60 = some (5, 1, 1) ∧ apT Z0 67 = some (84, 2, 16) ∧ apT Z0 117 = some (3, 1, 8) ∧ apT Z0 122 = some (27, 1, 24) ∧ apT Z0 172 = some (4, 1, 1) ∧ apT Z0 192 = some (217, 2, 32) ∧ apT Z0 197 = some (219, 2, 16) ∧ apT Z0 205 = some (33, 1, 8) ∧ apT Z0 209 = some (2, 1, 8) := by and_intros <;> kernel_rfl
@[go_sem] theorem arrT_51 : arrT Z0 51 = some (3, 30) := by kernel_rfl
@[go_sem] theorem elT_22 : elT Z0 22 = some 9 := by kernel_rfl
@[go_sem] theorem elT_27 : elT Z0 27 = some 30 := by kernel_rfl
@[go_sem] theorem tt2 : byT Z0 60 = true ∧ elT Z0 23 = some 26 ∧ elT Z0 24 = some 165 ∧ elT Z0 28 = some 69 ∧ elT Z0 60 = some 5 ∧ elT Z0 67 = some 84 ∧ elT Z0 117 = some 3 ∧ elT Z0 122 = some 27 ∧ elT Z0 172 = some 4 ∧ elT Z0 192 = some 217 ∧ elT Z0 205 = some 33 ∧ elT Z0 209 = some 2 ∧ fldT Z0 26 0 = some (0, 3) ∧ fldT Z0 26 1 = some (1, 2) ∧ fldT Z0 26 2 = some (2, 2) ∧ fldT Z0 26 3 = some (3, 22) ∧ fldT Z0 26 4 = some (4, 23) ∧ fldT Z0 26 5 = some (5, 24) ∧ fldT Z0 30 0 = some (0, 2) ∧ fldT Z0 30 1 = some (1, 22) ∧ fldT Z0 30 2 = some (2, 27) ∧ fldT Z0 30 3 = some (3, 28) ∧ fldT Z0 69 0 = some (0, 67) ∧ fldT Z0 69 1 = some (1, 9) ∧ fldT Z0 84 0 = some (0, 3) ∧ fldT Z0 84 1 = some (1, 2) ∧ fldT Z0 98 0 = some (0, 60) ∧ fldT Z0 131 0 = some (0, 3) ∧ fldT Z0 157 0 = some (0, 60) ∧ fldT Z0 157 1 = some (1, 3) ∧ fldT Z0 157 2 = some (2, 3) ∧ fldT Z0 157 3 = some (3, 33) ∧ fldT Z0 165 0 = some (0, 22) ∧ fldT Z0 165 1 = some (1, 9) ∧ fldT Z0 194 0 = some (0, 22) ∧ fldT Z0 194 1 = some (1, 192) ∧ fldT Z0 217 0 = some (0, 117) ∧ fldT Z0 217 1 = some (1, 3) ∧ fldT Z0 219 1 = some (1, 3) ∧ intT Z0 2 = some IntKind.i64 := by and_intros <;> kernel_rfl
@[go_sem] theorem tt3 : intT Z0 3 = some IntKind.i64 ∧ intT Z0 5 = some IntKind.u8 ∧ intT Z0 87 = some IntKind.u64 ∧ intT Z0 144 = some IntKind.u64 ∧ intT Z0 182 = some IntKind.u64 ∧ nzT Z0 2 = true ∧ nzT Z0 3 = true ∧ nzT Z0 9 = true ∧ nzT Z0 22 = true ∧ nzT Z0 23 = true ∧ nzT Z0 24 = true ∧ nzT Z0 27 = true ∧ nzT Z0 28 = true ∧ nzT Z0 33 = true ∧ nzT Z0 60 = true ∧ nzT Z0 67 = true ∧ nzT Z0 117 = true ∧ nzT Z0 192 = true ∧ plT Z0 26 0 = some (0, 1) ∧ plT Z0 30 0 = some (0, 1) ∧ plT Z0 30 1 = some (1, 1) ∧ plT Z0 30 2 = some (2, 1) ∧ plT Z0 30 3 = some (3, 1) ∧ plT Z0 69 0 = some (0, 1) ∧ plT Z0 69 1 = some (1, 1) ∧ plT Z0 84 0 = some (0, 1) ∧ plT Z0 84 1 = some (1, 1) ∧ plT Z0 157 0 = some (0, 1) ∧ plT Z0 194 0 = some (0, 1) ∧ plT Z0 217 1 = some (1, 1) ∧ plT Z0 219 0 = some (0, 1) ∧ plT Z0 219 1 = some (1, 1) ∧ slT Z0 22 = true ∧ slT Z0 23 = true ∧ slT Z0 24 = true ∧ slT Z0 27 = true ∧ slT Z0 28 = true ∧ slT Z0 60 = true ∧ slT Z0 67 = true ∧ slT Z0 117 = true := by and_intros <;> kernel_rfl
@[go_sem] theorem szT_9 : szT Z0 9 = some 1 := by kernel_rfl
@[go_sem] theorem szT_26 : szT Z0 26 = some 6 := by kernel_rfl
@[go_sem] theorem szT_30 : szT Z0 30 = some 4 := by kernel_rfl
@[go_sem] theorem tt4 : slT Z0 122 = true ∧ slT Z0 172 = true ∧ slT Z0 192 = true ∧ slT Z0 197 = true ∧ slT Z0 205 = true ∧ slT Z0 209 = true ∧ strT Z0 9 = true ∧ szT Z0 2 = some 1 ∧ szT Z0 3 = some 1 ∧ szT Z0 4 = some 1 ∧ szT Z0 5 = some 1 ∧ szT Z0 22 = some 1 ∧ szT Z0 23 = some 1 ∧ szT Z0 24 = some 1 ∧ szT Z0 27 = some 1 ∧ szT Z0 28 = some 1 ∧ szT Z0 33 = some 1 ∧ szT Z0 60 = some 1 ∧ szT Z0 67 = some 1 ∧ szT Z0 69 = some 2 ∧ szT Z0 84 = some 2 ∧ szT Z0 117 = some 1 ∧ szT Z0 131 = some 1 ∧ szT Z0 165 = some 2 ∧ szT Z0 182 = some 1 ∧ szT Z0 192 = some 1 ∧ szT Z0 217 = some 2 ∧ szT Z0 219 = some 2 ∧ Uj Z0 2 = some [.v (.int .i64 0)] ∧ Uj Z0 3 = some [.v (.int .i64 0)] ∧ Uj Z0 26 = some [.v (.int .i64 0), .v (.int .i64 0), .v (.int .i64 0), .v (.slice none 0 0), .v (.slice none 0 0), .v (.slice none 0 0)] ∧ Uj Z0 30 = some [.v (.int .i64 0), .v (.slice none 0 0), .v (.slice none 0 0), .v (.slice none 0 0)] ∧ Uj Z0 69 = some [.v (.slice none 0 0), .v (.string ⟨⟨[]⟩⟩)] ∧ Uj Z0 84 = some [.v (.int .i64 0), .v (.int .i64 0)] ∧ Uj Z0 98 = some [.v (.slice none 0 0)] ∧ Uj Z0 131 = some [.v (.int .i64 0)] ∧ Uj Z0 157 = some [.v (.slice none 0 0), .v (.int .i64 0), .v (.int .i64 0), .v (.int .i64 0)] ∧ Uj Z0 165 = some [.v (.slice none 0 0), .v (.string ⟨⟨[]⟩⟩)] ∧ Uj Z0 182 = some [.v (.int .u64 0)] ∧ Uj Z0 194 = some [.v (.slice none 0 0), .v (.slice none 0 0)] := by and_intros <;> kernel_rfl
@[go_sem] theorem tt5 : Uj Z0 217 = some [.v (.slice none 0 0), .v (.int .i64 0)] ∧ Uj Z0 219 = some [.v (.int .i64 0), .v (.int .i64 0)] := by and_intros <;> kernel_rfl
theorem ent_3 : entB Z0 3 = true := by kernel_rfl
theorem ent_15 : entB Z0 15 = true := by kernel_rfl
theorem ent_16 : entB Z0 16 = true := by kernel_rfl
theorem ent_17 : entB Z0 17 = true := by kernel_rfl
theorem ent_18 : entB Z0 18 = true := by kernel_rfl
theorem ent_19 : entB Z0 19 = true := by kernel_rfl
theorem ent_22 : entB Z0 22 = true := by kernel_rfl
theorem ent_23 : entB Z0 23 = true := by kernel_rfl
theorem ent_27 : entB Z0 27 = true := by kernel_rfl
theorem ent_28 : entB Z0 28 = true := by kernel_rfl
theorem ent_30 : entB Z0 30 = true := by kernel_rfl
theorem ent_31 : entB Z0 31 = true := by kernel_rfl
theorem ent_36 : entB Z0 36 = true := by kernel_rfl
theorem ent_37 : entB Z0 37 = true := by kernel_rfl
theorem ent_38 : entB Z0 38 = true := by kernel_rfl
theorem ent_39 : entB Z0 39 = true := by kernel_rfl
theorem Yc7 : entB Z0 40 = true := by kernel_rfl
theorem ent_41 : entB Z0 41 = true := by kernel_rfl
theorem ent_42 : entB Z0 42 = true := by kernel_rfl
theorem ent_43 : entB Z0 43 = true := by kernel_rfl
theorem ent_44 : entB Z0 44 = true := by kernel_rfl
theorem ent_46 : entB Z0 46 = true := by kernel_rfl
theorem ent_47 : entB Z0 47 = true := by kernel_rfl
theorem ent_48 : entB Z0 48 = true := by kernel_rfl
theorem ent_49 : entB Z0 49 = true := by kernel_rfl
theorem ent_52 : entB Z0 52 = true := by kernel_rfl
theorem ent_60 : entB Z0 60 = true := by kernel_rfl
theorem ent_61 : entB Z0 61 = true := by kernel_rfl
theorem ent_62 : entB Z0 62 = true := by kernel_rfl
theorem ent_66 : entB Z0 66 = true := by kernel_rfl
theorem Uz : entB Z0 67 = true := by kernel_rfl
theorem ent_68 : entB Z0 68 = true := by kernel_rfl
theorem ent_72 : entB Z0 72 = true := by kernel_rfl
theorem ent_74 : entB Z0 74 = true := by kernel_rfl
theorem ent_75 : entB Z0 75 = true := by kernel_rfl
theorem ent_76 : entB Z0 76 = true := by kernel_rfl
theorem ent_77 : entB Z0 77 = true := by kernel_rfl
theorem Yi4 : entB Z0 78 = true := by kernel_rfl
theorem Uy : entB Z0 79 = true := by kernel_rfl
theorem Yi3 : entB Z0 80 = true := by kernel_rfl
theorem ent_81 : entB Z0 81 = true := by kernel_rfl
theorem ent_82 : entB Z0 82 = true := by kernel_rfl
theorem Yc6 : entB Z0 84 = true := by kernel_rfl
theorem ent_85 : entB Z0 85 = true := by kernel_rfl
theorem ent_88 : entB Z0 88 = true := by kernel_rfl
theorem ent_89 : entB Z0 89 = true := by kernel_rfl
theorem ent_90 : entB Z0 90 = true := by kernel_rfl
theorem ent_91 : entB Z0 91 = true := by kernel_rfl
theorem ent_92 : entB Z0 92 = true := by kernel_rfl
theorem ent_93 : entB Z0 93 = true := by kernel_rfl
theorem Yi2 : entB Z0 95 = true := by kernel_rfl
theorem ent_96 : entB Z0 96 = true := by kernel_rfl
theorem ent_97 : entB Z0 97 = true := by kernel_rfl
theorem Zq9 : entB Z0 98 = true := by kernel_rfl
theorem ent_99 : entB Z0 99 = true := by kernel_rfl
theorem ent_100 : entB Z0 100 = true := by kernel_rfl
theorem Yd3 : entB Z0 101 = true := by kernel_rfl
theorem Zc7 : entB Z0 104 = true := by kernel_rfl
theorem ent_105 : entB Z0 105 = true := by kernel_rfl
theorem ent_106 : entB Z0 106 = true := by kernel_rfl
theorem ent_107 : entB Z0 107 = true := by kernel_rfl
theorem ent_108 : entB Z0 108 = true := by kernel_rfl
theorem Zn0 : entB Z0 110 = true := by kernel_rfl
theorem ent_111 : entB Z0 111 = true := by kernel_rfl
theorem ent_116 : entB Z0 116 = true := by kernel_rfl
theorem ent_117 : entB Z0 117 = true := by kernel_rfl
theorem ent_119 : entB Z0 119 = true := by kernel_rfl
theorem ent_122 : entB Z0 122 = true := by kernel_rfl
theorem Zh3 : entB Z0 123 = true := by kernel_rfl
theorem Za3 : entB Z0 124 = true := by kernel_rfl
theorem Yp5 : entB Z0 125 = true := by kernel_rfl
theorem ent_128 : entB Z0 128 = true := by kernel_rfl
theorem ent_130 : entB Z0 130 = true := by kernel_rfl
theorem ent_131 : entB Z0 131 = true := by kernel_rfl
theorem ent_132 : entB Z0 132 = true := by kernel_rfl
theorem ent_133 : entB Z0 133 = true := by kernel_rfl
theorem ent_134 : entB Z0 134 = true := by kernel_rfl
theorem Zm9 : entB Z0 135 = true := by kernel_rfl
theorem ent_136 : entB Z0 136 = true := by kernel_rfl
theorem ent_137 : entB Z0 137 = true := by kernel_rfl
theorem ent_138 : entB Z0 138 = true := by kernel_rfl
theorem ent_139 : entB Z0 139 = true := by kernel_rfl
theorem Yd2 : entB Z0 140 = true := by kernel_rfl
theorem ent_151 : entB Z0 151 = true := by kernel_rfl
theorem ent_152 : entB Z0 152 = true := by kernel_rfl
theorem ent_153 : entB Z0 153 = true := by kernel_rfl
theorem ent_154 : entB Z0 154 = true := by kernel_rfl
theorem ent_155 : entB Z0 155 = true := by kernel_rfl
theorem ent_156 : entB Z0 156 = true := by kernel_rfl
theorem Us : entB Z0 157 = true := by kernel_rfl
theorem Yd1 : entB Z0 158 = true := by kernel_rfl
theorem ent_159 : entB Z0 159 = true := by kernel_rfl
theorem ent_160 : entB Z0 160 = true := by kernel_rfl
theorem ent_163 : entB Z0 163 = true := by kernel_rfl
theorem ent_164 : entB Z0 164 = true := by kernel_rfl
theorem ent_169 : entB Z0 169 = true := by kernel_rfl
theorem ent_170 : entB Z0 170 = true := by kernel_rfl
theorem ent_171 : entB Z0 171 = true := by kernel_rfl
theorem ent_173 : entB Z0 173 = true := by kernel_rfl
theorem Yp4 : entB Z0 174 = true := by kernel_rfl
theorem Zh2 : entB Z0 183 = true := by kernel_rfl
theorem ent_184 : entB Z0 184 = true := by kernel_rfl
theorem ent_185 : entB Z0 185 = true := by kernel_rfl
theorem ent_186 : entB Z0 186 = true := by kernel_rfl
theorem ent_187 : entB Z0 187 = true := by kernel_rfl
theorem ent_192 : entB Z0 192 = true := by kernel_rfl
theorem Yp3 : entB Z0 193 = true := by kernel_rfl
theorem Yp2 : entB Z0 196 = true := by kernel_rfl
theorem ent_197 : entB Z0 197 = true := by kernel_rfl
theorem Yp1 : entB Z0 198 = true := by kernel_rfl
theorem Zh1 : entB Z0 199 = true := by kernel_rfl
theorem ent_200 : entB Z0 200 = true := by kernel_rfl
theorem Zc6 : entB Z0 201 = true := by kernel_rfl
theorem ent_202 : entB Z0 202 = true := by kernel_rfl
theorem ent_203 : entB Z0 203 = true := by kernel_rfl
theorem ent_204 : entB Z0 204 = true := by kernel_rfl
theorem ent_205 : entB Z0 205 = true := by kernel_rfl
theorem ent_206 : entB Z0 206 = true := by kernel_rfl
theorem ent_207 : entB Z0 207 = true := by kernel_rfl
theorem ent_213 : entB Z0 213 = true := by kernel_rfl
theorem ent_214 : entB Z0 214 = true := by kernel_rfl
theorem ent_215 : entB Z0 215 = true := by kernel_rfl
theorem Zh0 : entB Z0 216 = true := by kernel_rfl
theorem Ur : entB Z0 217 = true := by kernel_rfl
theorem Uq : entB Z0 218 = true := by kernel_rfl
theorem Zm8 : entB Z0 219 = true := by kernel_rfl
theorem Yd0 : entB Z0 221 = true := by kernel_rfl
theorem ent_222 : entB Z0 222 = true := by kernel_rfl
theorem ent_224 : entB Z0 224 = true := by kernel_rfl
theorem ent_227 : entB Z0 227 = true := by kernel_rfl
theorem ent_228 : entB Z0 228 = true := by kernel_rfl
theorem ent_233 : entB Z0 233 = true := by kernel_rfl
theorem Zg9 : entB Z0 235 = true := by kernel_rfl
theorem Zt1 : entB Z0 236 = true := by kernel_rfl
theorem Yc9 : entB Z0 237 = true := by kernel_rfl
theorem ent_238 : entB Z0 238 = true := by kernel_rfl
theorem Yc8 : entB Z0 239 = true := by kernel_rfl
theorem Yp0 : entB Z0 240 = true := by kernel_rfl
theorem ent_243 : entB Z0 243 = true := by kernel_rfl
theorem ent_244 : entB Z0 244 = true := by kernel_rfl
theorem ent_245 : entB Z0 245 = true := by kernel_rfl
theorem ent_256 : entB Z0 256 = true := by kernel_rfl
theorem ent_257 : entB Z0 257 = true := by kernel_rfl
theorem ent_266 : entB Z0 266 = true := by kernel_rfl
theorem mixd : Z0.follows .mixedOrders = true := by kernel_rfl
end
section
variable {P : Program} {G : Nat → D} {n : Nat} {e : Nat → D} {h : List Ob} {ops : Array Oper} {md : Region.Mode}
structure Eff where
 R : List (Nat × Ob)
 W : List (Nat × Ob)
 N : List Ob
 d : Nat → D
def Xt (h : List Ob) : List (Nat × Ob) → List Ob
 | [] => h
 | x :: t => Xt (h.set x.1 x.2) t
theorem J8 : ∀ (W : List (Nat × Ob)) (h : List Ob), (Xt h W).length = h.length
 | [], _ => rfl
 | x :: t, h => by rw [Xt, J8 t]; simp
theorem Zi2 {i : Nat} : ∀ (W : List (Nat × Ob)) (h : List Ob), (∀ x ∈ W, x.1 ≠ i) → (Xt h W)[i]? = h[i]?
 | [], _, _ => rfl
 | x :: t, h, q => by rw [Xt, Zi2 t _ fun y hy => q y (by simp [hy]), List.getElem?_set_ne (q x (by simp))]
theorem Zs0 : ∀ (W : List (Nat × Ob)) (h N : List Ob), (∀ x ∈ W, x.1 < h.length) → Xt (h ++ N) W = Xt h W ++ N
 | [], _, _, _ => rfl
 | x :: t, h, N, q => by
  rw [Xt, Xt, Z9 _ _ (q x (by simp))]
  exact Zs0 t _ N fun y hy => by rw [Z5]; exact q y (by simp [hy])
theorem Yg0 : ∀ (W : List (Nat × Ob)) (h : List Ob) (i : Nat) (ob : Ob), (∀ x ∈ W, x.1 ≠ i) → Xt (h.set i ob) W = (Xt h W).set i ob
 | [], _, _, _, _ => rfl
 | x :: t, h, i, ob, q => by
  rw [Xt, Xt, List.set_comm _ _ (Ne.symm (q x (by simp)))]
  exact Yg0 t _ i ob fun y hy => q y (by simp [hy])
theorem Zl3 : ∀ (V W : List (Nat × Ob)) (h : List Ob), (∀ x ∈ V, ∀ y ∈ W, x.1 ≠ y.1) → Xt (Xt h V) W = Xt (Xt h W) V
 | [], _, _, _ => rfl
 | x :: t, W, h, q => by
  rw [Xt, Xt, Zl3 t W _ fun y hy => q y (by simp [hy]), Yg0 W h x.1 x.2 fun y hy => Ne.symm (q x (by simp) y hy)]
def Eff.ok (E : Eff) (h : List Ob) : Prop := ∀ x ∈ E.R, h[x.1]? = some x.2
def Eff.heap (E : Eff) (h : List Ob) : List Ob := Xt h E.W ++ E.N
def Eff.fit (E : Eff) : Prop := (∀ x ∈ E.W, ∃ y ∈ E.R, y.1 = x.1) ∧ (E.N = [] → ∀ m m', E.d m = E.d m')
def nop : Eff := ⟨[], [], [], fun _ => .v undef⟩
def Stp (P : Program) (G : Nat → D) (op : Op) (e : Nat → D) (h h' : List Ob) (d : D) : Prop := aOp P G e h (fun h1 d1 => h1 = h' ∧ d1 = d) op ∨
 ∃ x args tys f cap, op = .call ⟨.value x, args, tys⟩ ∧ ev G e x = .fn f cap ∧ entB P f = true ∧ Does P G f h (args.toList.map (ev G e) ++ cap) (fun h1 r => h1 = h' ∧ r = d)
theorem Stp_congr {op : Op} {e' : Nat → D} {h' : List Ob} {d : D} (key : ∀ x ∈ op.operands, ev G e' x = ev G e x) (k : Stp P G op e h h' d) : Stp P G op e' h h' d := by
 rcases k with k | ⟨x, args, tys, f, cap, e1, e2, e3, e4⟩
 · exact .inl (Zr7 key k)
 · rw [e1] at key
   have h1 := key x (by simp [Op.operands, Call.operands])
   have h2 : args.toList.map (ev G e') = args.toList.map (ev G e) := Z1 fun y hy => key y (by simp [Op.operands, Call.operands]; exact .inr (by simpa using hy))
   exact .inr ⟨x, args, tys, f, cap, e1, h1.trans e2, e3, by rw [h2]; exact e4⟩
def YE (P : Program) (G : Nat → D) (op : Op) (e : Nat → D) (E : Eff) : Prop := E.fit ∧ ∀ h, E.ok h → Stp P G op e h (E.heap h) (E.d h.length)
def YDE (P : Program) (G : Nat → D) (ops : Array Oper) (o : Oper) (E : Eff) (e : Nat → D) : Prop := (Yg ops o.guard e = some true ∧ YE P G o.op e E) ∨ (Yg ops o.guard e = some false ∧ E = nop)
theorem YDE.fit {o : Oper} {E : Eff} (q : YDE P G ops o E e) : E.fit := by
 rcases q with ⟨_, q⟩ | ⟨_, rfl⟩
 · exact q.1
 · exact ⟨by simp [nop], fun _ _ _ => rfl⟩
theorem YDE.congr {o : Oper} {E : Eff} {dst : Option Nat} {v : D} (q : ∀ t, dst = some t → t ∉ o.looksAt ops) : YDE P G ops o E (putE n e dst v) ↔ YDE P G ops o E e := by
 have key : ∀ x ∈ o.op.operands, ev G (putE n e dst v) x = ev G e x := fun x hx => Yo9 fun t ht => Zj1 (q t ht) x hx
 unfold YDE
 rw [Zb4 q]
 exact or_congr (and_congr Iff.rfl ⟨fun ⟨a, b⟩ => ⟨a, fun h k => Stp_congr (fun x hx => (key x hx).symm) (b h k)⟩, fun ⟨a, b⟩ => ⟨a, fun h k => Stp_congr key (b h k)⟩⟩) Iff.rfl
def compat (m0 : Nat) (E F : Eff) : Prop := (∀ x ∈ E.W, ∀ y ∈ F.R, x.1 ≠ y.1) ∧ (∀ x ∈ F.W, ∀ y ∈ E.R, x.1 ≠ y.1) ∧ (E.N = [] ∨ (F.N = [] ∧ ∀ y ∈ F.R, y.1 < m0)) ∧ (F.N = [] ∨ (E.N = [] ∧ ∀ y ∈ E.R, y.1 < m0))
theorem compat.symm {m0 : Nat} {E F : Eff} (q : compat m0 E F) : compat m0 F E := ⟨q.2.1, q.1, q.2.2.2, q.2.2.1⟩
theorem Eff.heap_len (E : Eff) (h : List Ob) : (E.heap h).length = h.length + E.N.length := by unfold Eff.heap; rw [List.length_append, J8]
theorem Eff.wlt {E : Eff} (f : E.fit) {h : List Ob} (k : E.ok h) : ∀ x ∈ E.W, x.1 < h.length := fun x hx => by
 obtain ⟨y, hy, he⟩ := f.1 x hx
 rw [← he]; exact (Z3.1 (k y hy)).1
theorem Eff.ok_after {m0 : Nat} {E F : Eff} (c : compat m0 E F) (fE : E.fit) (kE : E.ok h) (kF : F.ok h) : F.ok (E.heap h) := fun y hy => by
 have hlt := (Z3.1 (kF y hy)).1
 unfold Eff.heap
 rw [Z4 (by rw [J8]; exact hlt), Zi2 _ _ fun x hx => c.1 x hx y hy]
 exact kF y hy
theorem Eff.ok_before {m0 : Nat} {E F : Eff} (c : compat m0 E F) (hm : m0 ≤ h.length) (kF : F.ok (E.heap h)) : F.ok h := fun y hy => by
 have q := kF y hy
 have hlt : y.1 < h.length := by
  rcases c.2.2.1 with hn | ⟨_, hn⟩
  · have := (Z3.1 q).1
    rw [Eff.heap_len, hn] at this; simpa using this
  · exact Nat.lt_of_lt_of_le (hn y hy) hm
 unfold Eff.heap at q
 rwa [Z4 (by rw [J8]; exact hlt), Zi2 _ _ fun x hx => c.1 x hx y hy] at q
theorem Eff.heap_comm {m0 : Nat} {E F : Eff} (c : compat m0 E F) (fE : E.fit) (fF : F.fit) (kE : E.ok h) (kF : F.ok h) : F.heap (E.heap h) = E.heap (F.heap h) := by
 have dis : ∀ x ∈ E.W, ∀ y ∈ F.W, x.1 ≠ y.1 := fun x hx y hy => by
  obtain ⟨z, hz, he⟩ := fF.1 y hy
  rw [← he]; exact c.1 x hx z hz
 unfold Eff.heap
 rw [Zs0 F.W _ _ fun x hx => by rw [J8]; exact Eff.wlt fF kF x hx, Zs0 E.W _ _ fun x hx => by rw [J8]; exact Eff.wlt fE kE x hx, Zl3 E.W F.W h dis, Ze, Ze]
 rcases c.2.2.1 with hn | ⟨hn, _⟩ <;> simp [hn]
theorem Eff.d_after {m0 : Nat} {E F : Eff} (c : compat m0 E F) (fF : F.fit) : F.d (E.heap h).length = F.d h.length := by
 rcases c.2.2.1 with hn | ⟨hn, _⟩
 · rw [Eff.heap_len, hn]; rfl
 · exact fF.2 hn _ _
def aeOp (P : Program) (G : Nat → D) (n : Nat) (ops : Array Oper) (ef : Nat → Eff) (i : Nat) (K : (Nat → D) → List Ob → Prop) (e : Nat → D) (h : List Ob) : Prop := match ops[i]? with
 | none => K e h
 | some o => YDE P G ops o (ef i) e ∧ (ef i).ok h ∧ K (putE n e o.dst ((ef i).d h.length)) ((ef i).heap h)
def aeAny (P : Program) (G : Nat → D) (n : Nat) (md : Region.Mode) (ops : Array Oper) (ef : Nat → Eff) (Q : (Nat → D) → List Ob → Prop) : Nat → Array Bool → (Nat → D) → List Ob → Prop
 | 0, listed, e, h => Region.ready md ops listed = [] ∧ Q e h
 | fuel + 1, listed, e, h => (Region.ready md ops listed = [] → Q e h) ∧ ∀ i ∈ Region.ready md ops listed, aeOp P G n ops ef i (aeAny P G n md ops ef Q fuel (listed.setIfInBounds i true)) e h
def Closed (md : Region.Mode) (ops : Array Oper) (listed : Array Bool) : Prop := ∀ j oj, ops[j]? = some oj → listed.getD j true = true → ∀ e ∈ oj.after, Region.binds md e = true → listed.getD e.on false = true
theorem getD_setT {l : Array Bool} {i j : Nat} {d : Bool} (q : l.getD j d = true) : (l.setIfInBounds i true).getD j d = true := by
 rw [Z2] at q ⊢
 rw [Zb]
 split
 · rename_i hij
   split
   · rfl
   · rename_i hlt
     rw [Z6 (by subst hij; omega)] at q; exact q
 · exact q
theorem Closed.set {listed : Array Bool} {i : Nat} (q : Closed md ops listed) (r : i ∈ Region.ready md ops listed) : Closed md ops (listed.setIfInBounds i true) := fun j oj hj hl e he hb => by
 obtain ⟨hiun, oi, hoi, hall⟩ := mem_ready.1 r
 by_cases hij : i = j
 · subst hij
   rw [hj] at hoi; cases hoi
   exact getD_setT (hall e he hb)
 · rw [getD_set_ne true hij] at hl
   exact getD_setT (q j oj hj hl e he hb)
def twB (md : Region.Mode) (ops : Array Oper) : Nat → Nat → Nat → Bool
 | 0, _, _ => false
 | k + 1, j, i => match ops[j]? with
  | some o => o.after.any fun e => Region.binds md e && (Nat.beq e.on i || (Nat.blt i e.on && twB md ops k e.on i))
  | none => false
theorem Yk1 {listed : Array Bool} {i : Nat} (q : Closed md ops listed) (hi : i < ops.size) : ∀ (k j : Nat) (oj : Oper), ops[j]? = some oj → (∀ e ∈ oj.after, Region.binds md e = true → listed.getD e.on false = true) → twB md ops k j i = true → listed.getD i false = true
 | 0, _, _, _, _, h => by rw [twB] at h; cases h
 | k + 1, j, oj, hj, hd, h => by
  rw [twB, hj] at h
  simp only [Array.any_eq_true'] at h
  obtain ⟨e, he, h⟩ := h
  simp only [Z8, Bool.or_eq_true] at h
  obtain ⟨hb, h⟩ := h
  have hon := hd e he hb
  rcases h with h | ⟨_, h⟩
  · rw [← Nat.eq_of_beq_eq_true h]; exact hon
  · cases hk : ops[e.on]? with
    | none =>
     cases k with
     | zero => rw [twB] at h; cases h
     | succ k => rw [twB, hk] at h; cases h
    | some ok =>
     refine Yk1 q hi k e.on ok hk (q e.on ok hk ?_) h
     rw [Z2] at hon ⊢
     cases hl : listed[e.on]? with
     | none => rfl
     | some b => rw [hl] at hon; exact hon
theorem aeAny_first {ef : Nat → Eff} {m0 : Nat} {Q : (Nat → D) → List Ob → Prop} {i : Nat} {oi : Oper} (hi : ops[i]? = some oi) : ∀ (fuel : Nat) (listed : Array Bool) (e : Nat → D) (h : List Ob), m0 ≤ h.length → Closed md ops listed →
 (∀ j oj, ops[j]? = some oj → j ≠ i → listed.getD j true = false → (∀ e ∈ oj.after, Region.binds md e = true → e.on ≠ i) → (∀ k, twB md ops k j i = false) → oi.apart ops oj = true ∧ compat m0 (ef i) (ef j)) →
 i ∈ Region.ready md ops listed → YDE P G ops oi (ef i) e → (ef i).ok h → aeAny P G n md ops ef Q fuel (listed.setIfInBounds i true) (putE n e oi.dst ((ef i).d h.length)) ((ef i).heap h) → aeAny P G n md ops ef Q (fuel + 1) listed e h := by
  intro fuel
  induction fuel with
  | zero =>
    intro listed a h hm _ _ hr hy hk H
    refine ⟨fun h => (by rw [h] at hr; cases hr), fun j hj => ?_⟩
    by_cases hji : j = i
    · subst hji; unfold aeOp; simp only [hi]; exact ⟨hy, hk, H⟩
    · have := ready_mono hj hji
      rw [H.1] at this
      cases this
  | succ fuel ih =>
    intro listed a h hm hcl hfree hr hy hk H
    refine ⟨fun h => (by rw [h] at hr; cases hr), fun j hj => ?_⟩
    by_cases hji : j = i
    · subst hji; unfold aeOp; simp only [hi]; exact ⟨hy, hk, H⟩
    · have h1 := H.2 j (ready_mono hj hji)
      obtain ⟨hjun, oj, hoj, hall⟩ := mem_ready.1 hj
      have hnot : ∀ e ∈ oj.after, Region.binds md e = true → e.on ≠ i := fun e he hb heq => by
        have h1 := hall e he hb
        have h0 := (mem_ready.1 hr).1
        rw [heq] at h1
        rcases Nat.lt_or_ge i listed.size with h' | h'
        · simp [h'] at h0 h1; rw [h0] at h1; cases h1
        · simp [Z6 h'] at h1
      have hnt : ∀ k, twB md ops k j i = false := fun k => by
       cases ht : twB md ops k j i with
       | false => rfl
       | true =>
        have h1 := Yk1 hcl (Array.getElem?_eq_some_iff.1 hi).1 k j oj hoj hall ht
        have h0 := (mem_ready.1 hr).1
        rw [Z2] at h0 h1
        cases hl : listed[i]? with
        | none => rw [hl] at h0; cases h0
        | some b => rw [hl] at h0 h1; simp at h0 h1; rw [h0] at h1; cases h1
      obtain ⟨hap, hc⟩ := hfree j oj hoj hji hjun hnot hnt
      obtain ⟨a1, a2, a3⟩ := Oper.apart_spec hap
      unfold aeOp at h1 ⊢
      simp only [hoj] at h1 ⊢
      obtain ⟨y1, y2, y3⟩ := h1
      have yj : YDE P G ops oj (ef j) a := (YDE.congr a1).1 y1
      have kj : (ef j).ok h := Eff.ok_before hc hm y2
      have ki : (ef i).ok ((ef j).heap h) := Eff.ok_after hc.symm yj.fit kj hk
      have hfree' : ∀ k ok, ops[k]? = some ok → k ≠ i → (listed.setIfInBounds j true).getD k true = false →
          (∀ e ∈ ok.after, Region.binds md e = true → e.on ≠ i) → (∀ f, twB md ops f k i = false) → oi.apart ops ok = true ∧ compat m0 (ef i) (ef k) := fun k ok hk hki hun hno hnt => by
        refine hfree k ok hk hki ?_ hno hnt
        by_cases hjk : j = k
        · subst hjk; exact hjun
        · rw [getD_set_ne true hjk] at hun; exact hun
      refine ⟨yj, kj, ih (listed.setIfInBounds j true) _ _ (by rw [Eff.heap_len]; omega) (hcl.set hj) hfree' (ready_mono hr (Ne.symm hji)) ((YDE.congr a3).2 hy) ki ?_⟩
      rw [Zg _ _ hji]
      rw [Eff.d_after hc yj.fit] at y3
      rw [Eff.d_after hc.symm hy.fit, ← Eff.heap_comm hc hy.fit yj.fit hk kj, ← Zz6 a2]
      exact y3
def effOk (md : Region.Mode) (m0 : Nat) (ops : Array Oper) (ef : Nat → Eff) : Prop := ∀ i j oj, i < j → ops[j]? = some oj → (∀ e ∈ oj.after, Region.binds md e = true → e.on ≠ i) → (∀ k, twB md ops k j i = false) → compat m0 (ef i) (ef j)
def ae (P : Program) (G : Nat → D) (n : Nat) (ops : Array Oper) (ef : Nat → Eff) (Q : (Nat → D) → List Ob → Prop) : Nat → List Oper → (Nat → D) → List Ob → Prop
 | _, [], e, h => Q e h
 | k, o :: rest, e, h => YDE P G ops o (ef k) e ∧ (ef k).ok h ∧ ae P G n ops ef Q (k + 1) rest (putE n e o.dst ((ef k).d h.length)) ((ef k).heap h)
theorem aeAny_lex {ef : Nat → Eff} {m0 : Nat} {Q : (Nat → D) → List Ob → Prop} (hE : effOk md m0 ops ef) : ∀ (l : List Oper) (k : Nat) (listed : Array Bool) (e : Nat → D) (h : List Ob), m0 ≤ h.length → Closed md ops listed → (∀ j, j < k → listed.getD j true = true) → (∀ j, l[j]? = ops[k + j]?) → Region.lexFrom md ops l.length k listed = true → ae P G n ops ef Q k l e h → aeAny P G n md ops ef Q l.length listed e h
 | [], _, _, _, _, _, _, _, _, hB, q => ⟨by simpa [Region.lexFrom] using hB, q⟩
 | o :: l, k, listed, e, h, hm, hcl, hdone, hl, hB, q => by
    have h0 : ops[k]? = some o := by simpa using (hl 0).symm
    simp only [Zh, Region.lexFrom, Z8] at hB
    obtain ⟨⟨hr, hf⟩, hB'⟩ := hB
    obtain ⟨hy, hk, hK⟩ := q
    have hfr := Region.free_spec h0 hf
    refine aeAny_first h0 l.length listed e h hm hcl (fun j oj hj hjk hun hno hnt => ⟨hfr j oj hj hjk hun hno, ?_⟩) (by simpa using hr) hy hk
      (aeAny_lex hE l (k + 1) _ _ _ (by rw [Eff.heap_len]; omega) (hcl.set (by simpa using hr)) (fun j hj => ?_) (fun j => by have := hl (j + 1); simpa [Nat.add_assoc, Nat.add_comm 1 j] using this) hB' hK)
    · have hlt : k < j := by
       rcases Nat.lt_or_ge j k with h' | h'
       · rw [hdone j h'] at hun; cases hun
       · omega
      exact hE k j oj hlt hj hno hnt
    · by_cases hjk : k = j
      · subst hjk
        rw [Z2, Zb]
        simp only [if_true]
        split <;> rfl
      · rw [getD_set_ne true hjk]; exact hdone j (by omega)
end
end Go.Proofs.YtbhkcbidcfofiaaGreat
