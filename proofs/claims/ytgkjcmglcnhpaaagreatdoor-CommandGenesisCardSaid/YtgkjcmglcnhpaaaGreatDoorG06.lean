/-
  What the statements of the chapter share, part 06: D9, D10, DTab.
-/
import Derived.Test.YtgkjcmglcnhpaaaGreatDoorG05
set_option linter.unusedVariables false
set_option linter.unusedSimpArgs false
set_option maxRecDepth 100000
set_option maxHeartbeats 8000000
namespace Go.Proofs.YtgkjcmglcnhpaaaGreatDoor
open Go.RowKit
section
variable {P : Program} {G : Nat → D} {n : Nat} {e : Nat → D} {h : List Ob}
section
variable {x y : Code} {Q : Exit → S → Prop} {s : S} {c : Operand}
theorem aw_seq' (k : aw P G x (thenS (aw P G y Q) Q) s) : aw P G (.seq x y) Q s := aw_seq fun _ q => aw_mono k fun e s r => by cases e <;> first | exact q _ r | exact r
theorem aw_region' {id : Nat} {l : List Oper} (k : ao P G l.toArray l (Q .normal) s) : aw P G (.region id l.toArray false) Q s := aw_region fun _ q => fun B a w r R hR => k B a w r R fun s' a' w' t => hR s' a' w' (q _ t)
theorem aw_if1 (k : ev G s.env c = .v (.bool true)) (h1 : aw P G x Q s) : aw P G (.cond c x y) Q s := aw_cond true k (fun _ => h1) fun h => by cases h
theorem aw_if0 (k : ev G s.env c = .v (.bool false)) (h1 : aw P G y Q s) : aw P G (.cond c x y) Q s := aw_cond false k (fun h => by cases h) fun _ => h1
end
section
variable {ops : Array Oper} {rest : List Oper} {Q : S → Prop} {t : Nat} {op : Op} {ty : TypeId} {pos : String} {aft : Array Edge} {gd : Option (Nat × Bool)}
theorem ao1 (hw : wantedD ops gd e = some true) (ht : decide (t < n) = true) (H : ∀ K : List Ob → D → Prop, (∀ h' d, ao P G ops rest Q ⟨n, upd e t d, h'⟩ → K h' d) → aOp P G e h K op) : ao P G ops (⟨some t, op, ty, pos, aft, gd⟩ :: rest) Q ⟨n, e, h⟩ :=
 ao_cons hw fun K k => H K fun h' d q => k h' d (by unfold S.put; simp only [if_pos (of_decide_eq_true ht)]; exact q)
theorem ao1' (hw : wantedD ops gd e = some true) (H : ∀ K : List Ob → D → Prop, (∀ h' d, ao P G ops rest Q ⟨n, e, h'⟩ → K h' d) → aOp P G e h K op) : ao P G ops (⟨none, op, ty, pos, aft, gd⟩ :: rest) Q ⟨n, e, h⟩ := ao_cons hw H
theorem ao0 (hw : wantedD ops gd e = some false) (ht : decide (t < n) = true) (H : ao P G ops rest Q ⟨n, upd e t (.v undef), h⟩) : ao P G ops (⟨some t, op, ty, pos, aft, gd⟩ :: rest) Q ⟨n, e, h⟩ :=
 ao_skip hw (by unfold S.put; simp only [if_pos (of_decide_eq_true ht)]; exact H)
theorem ao0' (hw : wantedD ops gd e = some false) (H : ao P G ops rest Q ⟨n, e, h⟩) : ao P G ops (⟨none, op, ty, pos, aft, gd⟩ :: rest) Q ⟨n, e, h⟩ := ao_skip hw H
theorem ao2 {x : Operand} {args : Array Operand} {tys : Array TypeId} {f : FuncId} {cap : List D} {R : List Ob → D → Prop} (hw : wantedD ops gd e = some true) (ht : decide (t < n) = true) (hx : ev G e x = .fn f cap) (he : entB P f = true)
 (hc : Does P G f h (args.toList.map (ev G e) ++ cap) R) (H : ∀ h' r, R h' r → ao P G ops rest Q ⟨n, upd e t r, h'⟩) : ao P G ops (⟨some t, .call ⟨.value x, args, tys⟩, ty, pos, aft, gd⟩ :: rest) Q ⟨n, e, h⟩ :=
 ao_call hw hx he hc fun h' r q => by unfold S.put; simp only [if_pos (of_decide_eq_true ht)]; exact H h' r q
end
@[go_sem] theorem upd_app (t : Nat) (d : D) (x : Nat) : upd e t d x = if x = t then d else e x := rfl
@[go_sem] theorem ev_tmp (t : Nat) : ev G e (.tmp t) = e t := rfl
@[go_sem] theorem ev_const (v : Value) : ev G e (.const v) = .v v := rfl
@[go_sem] theorem ev_func (f : FuncId) : ev G e (.func f) = .fn f [] := rfl
@[go_sem] theorem ev_global (g : Nat) : ev G e (.global g) = G g := rfl
section
variable {K : List Ob → D → Prop} {x y z : Operand} {t u : TypeId}
@[go_sem] theorem aOp_move : aOp P G e h K (.move x) = K h (ev G e x) := rfl
@[go_sem] theorem aOp_assign : aOp P G e h K (.assign x) = K h (ev G e x) := rfl
theorem aOp_pick {b : Bool} (k : ev G e x = .v (.bool b)) (q : K h (if b then ev G e y else ev G e z)) : aOp P G e h K (.pick x y z) := ⟨b, k, q⟩
@[go_sem] theorem aOp_bin {op : BinOp} : aOp P G e h K (.binOp op t x y u) = on (binD P op t x y (ev G e x) (ev G e y)) (K h) := rfl
@[go_sem] theorem aOp_un {op : UnOp} : aOp P G e h K (.unOp op t x) = on (unD P op (ev G e x)) (K h) := rfl
@[go_sem] theorem aOp_conv : aOp P G e h K (.convert t u x) = cvA P h t u (ev G e x) K := rfl
@[go_sem] theorem aOp_build {parts : Array (Nat × Operand)} : aOp P G e h K (.build t parts) = on (buildD P t (parts.toList.map fun q => (q.1, ev G e q.2))) fun ds => K h (.agg ds) := rfl
@[go_sem] theorem aOp_lit {parts : Array (Nat × Operand)} {len : Nat} : aOp P G e h K (.buildSlice t len parts) = on (litD P t len (parts.toList.map fun q => (q.1, ev G e q.2))) fun r => K (h ++ [.buf r.1 r.2.1 r.2.2]) (.buf h.length len) := rfl
@[go_sem] theorem aOp_slice {lo hi : Option Operand} : aOp P G e h K (.slice t x lo hi none) = slcA P t (ev G e x) (lo.map (ev G e)) (hi.map (ev G e)) (K h) := rfl
@[go_sem] theorem aOp_index : aOp P G e h K (.index t x y) = indA P t (ev G e x) (ev G e y) (K h) := rfl
@[go_sem] theorem aOp_extract {i : Nat} : aOp P G e h K (.extract x i) = on (extrD i (ev G e x)) (K h) := rfl
@[go_sem] theorem aOp_field {f : Nat} : aOp P G e h K (.field t x f) = on (fieldD P t f (ev G e x)) (K h) := rfl
@[go_sem] theorem aOp_load : aOp P G e h K (.load t x) = on (loadD P h t (ev G e x)) (K h) := rfl
@[go_sem] theorem aOp_store : aOp P G e h K (.store t x y) = on (storeD P h t (ev G e x) (ev G e y)) fun h' => K h' (.v undef) := rfl
@[go_sem] theorem aOp_faddr {f : Nat} : aOp P G e h K (.fieldAddr t x f) = on (faddrD P t f (ev G e x)) (K h) := rfl
@[go_sem] theorem aOp_iaddr : aOp P G e h K (.indexAddr t x y) = idxA P h t (ev G e x) (ev G e y) (K h) := rfl
@[go_sem] theorem aOp_nil : aOp P G e h K (.nilCheck x) = (isPtr (ev G e x) = true ∧ K h (ev G e x)) := rfl
@[go_sem] theorem aOp_box : aOp P G e h K (.box t x) = on (ev G e x).cells fun ds => K (h ++ [.cells ds]) (.ptr h.length 0) := rfl
@[go_sem] theorem aOp_alloc : aOp P G e h K (.alloc t) = on (zeroD P t) fun ds => K (h ++ [.cells ds]) (.ptr h.length 0) := rfl
end
@[go_sem] theorem on_some' {α : Type} {a : α} {K : α → Prop} : on (some a) K = K a := rfl
section
variable {t : TypeId} {x y : Operand} {k : IntKind} {a b : Int}
@[go_sem] theorem binD_v {op : BinOp} {X Y : Value} : binD P op t x y (.v X) (.v Y) = binV P op t x y X Y := rfl
@[go_sem] theorem b_eql : binV P .eql t x y (.int k a) (.int k b) = some (.v (.bool (decide (a = b)))) := by cases k <;> rfl
@[go_sem] theorem b_neq : binV P .neq t x y (.int k a) (.int k b) = some (.v (.bool (!decide (a = b)))) := by cases k <;> rfl
@[go_sem] theorem b_lss : binV P .lss t x y (.int k a) (.int k b) = some (.v (.bool (decide (a < b)))) := by cases k <;> rfl
@[go_sem] theorem b_leq : binV P .leq t x y (.int k a) (.int k b) = some (.v (.bool (decide (a ≤ b)))) := by cases k <;> rfl
@[go_sem] theorem b_gtr : binV P .gtr t x y (.int k a) (.int k b) = some (.v (.bool (decide (b < a)))) := by cases k <;> rfl
@[go_sem] theorem b_geq : binV P .geq t x y (.int k a) (.int k b) = some (.v (.bool (decide (b ≤ a)))) := by cases k <;> rfl
@[go_sem] theorem b_add : binV P .add t x y (.int k a) (.int k b) = some (.v (.int k (k.wrap (a + b)))) := by cases k <;> rfl
@[go_sem] theorem b_sub : binV P .sub t x y (.int k a) (.int k b) = some (.v (.int k (k.wrap (a - b)))) := by cases k <;> rfl
@[go_sem] theorem b_mul : binV P .mul t x y (.int k a) (.int k b) = some (.v (.int k (k.wrap (a * b)))) := by cases k <;> rfl
@[go_sem] theorem u_neg {op : IntKind} : unD P .neg (.v (.int k a)) = some (.v (.int k (k.wrap (0 - a)))) := rfl
@[go_sem] theorem u_not {c : Bool} : unD P .not (.v (.bool c)) = some (.v (.bool (!c))) := rfl
end
@[go_sem] theorem extrD_tup {i : Nat} {ds : List D} : extrD i (.tup ds) = ds[i]? := rfl
section
variable {K : List Ob → D → Prop} {t u : TypeId}
@[go_sem] theorem aOp_bi {b : Builtin} {args : Array Operand} {tys : Array TypeId} : aOp P G e h K (.call ⟨.builtin b, args, tys⟩) = biA P h b tys.toList (args.toList.map (ev G e)) K := rfl
@[go_sem] theorem biA_len {x : D} : biA P h .len [t] [x] K = on (lenD P t x) (K h) := rfl
@[go_sem] theorem biA_append {x y : D} : biA P h .append [t, u] [x, y] K = apA P h t u x y K := rfl
@[go_sem] theorem lenD_sl {k : Nat} {xs : List (List D)} (q : slT P t = true) : lenD P t (.sl k xs) = some (.v (.int .i64 xs.length)) := by simp only [lenD, q, if_true]
@[go_sem] theorem lenD_buf {i n : Nat} (q : slT P t = true) : lenD P t (.buf i n) = some (.v (.int .i64 n)) := by simp only [lenD, q, if_true]
@[go_sem] theorem lenD_nil (q : slT P t = true) : lenD P t (.v (.slice none 0 0)) = some (.v (.int .i64 0)) := by
 unfold slT at q
 split at q
 · rename_i e he
   unfold lenD Builtin.len_ Go.underlying
   simp [pureRun, bind, Sem.bind, program, he, pure, goInt]
 · cases q
@[go_sem] theorem lenD_str {s : ByteArray} (q : strT P t = true) : lenD P t (.v (.string s)) = some (.v (.int .i64 s.size)) := by
 unfold strT at q
 split at q
 · rename_i he
   unfold lenD Builtin.len_ Go.underlying
   simp [pureRun, bind, Sem.bind, program, he, pure, goInt]
 · cases q
@[go_sem] theorem idxA_sl {k : Nat} {xs : List (List D)} {κ : IntKind} {m : Int} {K : D → Prop} : idxA P h t (.sl k xs) (.v (.int κ m)) K = (((elT P t).bind (szT P)) = some k ∧ 0 ≤ m ∧ m < (xs.length : Int) ∧ ∀ row, xs[m.toNat]? = some row → K (.rp row)) := rfl
@[go_sem] theorem idxA_buf {i n : Nat} {κ : IntKind} {m : Int} {K : D → Prop} : idxA P h t (.buf i n) (.v (.int κ m)) K = (∃ e k xs, h[i]? = some (.buf e k xs) ∧ xs.length = n ∧ ((elT P t).bind (szT P)) = some k ∧ 0 ≤ m ∧ m < (n : Int) ∧ K (.bp i n m.toNat 0)) := rfl
@[go_sem] theorem idxA_win {i n a b : Nat} {κ : IntKind} {m : Int} {K : D → Prop} : idxA P h t (.win i n a b) (.v (.int κ m)) K = (∃ e k xs, h[i]? = some (.buf e k xs) ∧ xs.length = n ∧ ((elT P t).bind (szT P)) = some k ∧ 0 ≤ m ∧ m < ((b - a : Nat) : Int) ∧ K (.bp i n (a + m.toNat) 0)) := rfl
@[go_sem] theorem getD_one {ds : List D} {o : Nat} (q : aggT P t = some false) : getD P t ds o = ds[o]? := by simp only [getD, q]
theorem getD_agg {ds : List D} {o m : Nat} (q : aggT P t = some true) (r : szT P t = some m) (l : o + m ≤ ds.length) : getD P t ds o = some (.agg ((ds.drop o).take m)) := by simp only [getD, q, r, if_pos l]
@[go_sem] theorem loadD_rp {ds : List D} : loadD P h t (.rp ds) = getD P t ds 0 := rfl
@[go_sem] theorem faddr_eq {f : Nat} {x : D} : faddrD P t f x = (fldT P t f).bind fun q => if nzT P q.2 = true then addD q.1 x else none := rfl
@[go_sem] theorem addD_ptr {i o q : Nat} : addD o (.ptr i q) = some (.ptr i (q + o)) := rfl
@[go_sem] theorem addD_rp {o : Nat} {ds : List D} : addD o (.rp ds) = some (.rp (ds.drop o)) := rfl
@[go_sem] theorem addD_bp {i o n r j : Nat} : addD o (.bp i n r j) = some (.bp i n r (j + o)) := rfl
@[go_sem] theorem getD_agg' {ds : List D} {o : Nat} (q : aggT P t = some true) : getD P t ds o = match szT P t with
 | some n => if o + n ≤ ds.length then some (.agg ((ds.drop o).take n)) else none
 | none => none := by unfold getD; rw [q]; cases szT P t <;> rfl
end
theorem row_at {α : Type} {f : α → List D} {l : List α} {i : Nat} {a : α} {K : List D → Prop} (q : l[i]? = some a) (k : K (f a)) : ∀ row, (l.map f)[i]? = some row → K row := fun row hr => by
 rw [List.getElem?_map, q] at hr; cases hr; exact k
theorem row_inv {α : Type} {f : α → List D} {l : List α} {i : Nat} {row : List D} (q : (l.map f)[i]? = some row) : ∃ a, l[i]? = some a ∧ f a = row := by
 rw [List.getElem?_map, Option.map_eq_some_iff] at q; exact q
section
variable {K : S → Prop} {Q : Exit → S → Prop} {s : S} {i j : Nat}
theorem thenS_n (q : K s) : thenS K Q .normal s := q
theorem thenS_x (q : Q (.exit i) s) : thenS K Q (.exit i) s := q
theorem thenS_r (q : Q .ret s) : thenS K Q .ret s := q
theorem inB_n (q : Q .normal s) : inBlockS i Q .normal s := q
theorem inB_r (q : Q .ret s) : inBlockS i Q .ret s := q
theorem inB_x (q : Q .normal s) : inBlockS i Q (.exit i) s := by
 show if i = i then _ else _
 rw [if_pos rfl]; exact q
theorem inB_y (hne : (j == i) = false) (q : Q (.exit j) s) : inBlockS i Q (.exit j) s := by
 show if j = i then _ else _
 rw [if_neg (by simpa using hne)]; exact q
end
theorem splitB {K : List Ob → D → Prop} {q : Prop} [Decidable q] (h1 : q → K h (.v (.bool true))) (h0 : ¬ q → K h (.v (.bool false))) : K h (.v (.bool (decide q))) := by
 by_cases hq : q
 · rw [decide_eq_true hq]; exact h1 hq
 · rw [decide_eq_false hq]; exact h0 hq
theorem splitN {K : List Ob → D → Prop} {q : Prop} [Decidable q] (h1 : q → K h (.v (.bool false))) (h0 : ¬ q → K h (.v (.bool true))) : K h (.v (.bool (!decide q))) := by
 by_cases hq : q
 · rw [decide_eq_true hq]; exact h1 hq
 · rw [decide_eq_false hq]; exact h0 hq
theorem aw_for {c : Code} {Q : Exit → S → Prop} (I : Nat → (Nat → D) → List Ob → Prop) (m : Nat) (h0 : I m e h) (round : ∀ m e h, I m e h → aw P G c (thenS (fun s' => s'.n = n ∧ ∃ m', m' < m ∧ I m' s'.env s'.h) Q) ⟨n, e, h⟩) : aw P G (.loop c) Q ⟨n, e, h⟩ :=
 aw_loop (fun m s => s.n = n ∧ I m s.env s.h) m ⟨rfl, h0⟩ fun m ⟨n', e', h'⟩ ⟨hn, hI⟩ => by
  have hn : n' = n := hn
  subst hn
  exact aw_mono (round m e' h' hI) fun ex s q => by
   cases ex <;> first | (obtain ⟨q1, m', q2, q3⟩ := q; exact ⟨m', q2, q1, q3⟩) | exact q
section
variable {K : List Ob → D → Prop} {t u : TypeId} {k κ : IntKind} {m : Int} {x : D} {b : List UInt8}
@[go_sem] theorem cv_int (q : (intT P t).isSome = true) (r : (intT P u).isSome = true) : cvA P h t u (.v (.int κ m)) K = on ((intT P u).map fun k => D.v (.int k (k.wrap m))) (K h) := by
 obtain ⟨κ', q⟩ := Option.isSome_iff_exists.1 q
 obtain ⟨k, r⟩ := Option.isSome_iff_exists.1 r
 have h1 := intT_spec q
 have h2 := intT_spec r
 have e : pureRun P (convert t u (.int κ m)) = some (.int k (k.wrap m)) := by
  unfold convert Go.underlying
  simp [bind, Sem.bind, program, pureRun, h1, h2, pure, Conv.intToInt]
 unfold cvA convD
 simp only [e, Option.map_some, on, r]
@[go_sem] theorem cv_sl {n : Nat} {xs : List (List D)} : cvA P h t u (.sl n xs) K = bstD P t u h (.sl n xs) (K h) := rfl
@[go_sem] theorem cv_buf {i n : Nat} : cvA P h t u (.buf i n) K = bstD P t u h (.buf i n) (K h) := rfl
theorem cv_by {s : ByteArray} (hb : byT P u = true) (ht : (P.underlying t).isSome = true) (hs : s.size ≤ 140737488355328) (q : K h (.sl 1 (byD s.data.toList))) : cvA P h t u (.v (.string s)) K := .inl ⟨hb, ht, hs, q⟩
theorem bst_by {K : D → Prop} {n : Nat} (h1 : byT P t = true) (h2 : strT P u = true) (q : K (.v (.string ⟨b.toArray⟩))) : bstD P t u h (.sl n (byD b)) K := ⟨h1, h2, b, rfl, q⟩
theorem slc_sl {K : D → Prop} {n : Nat} {xs : List (List D)} {lo hi : Option D} {l r : Int} (h1 : (elT P t).bind (szT P) = some n) (hl : bndD 0 lo = some l) (hr : bndD xs.length hi = some r) (h2 : 0 ≤ l) (h3 : l ≤ r) (h4 : r ≤ xs.length) (q : K (.sl n ((xs.take r.toNat).drop l.toNat))) : slcA P t (.sl n xs) lo hi K := ⟨l, r, h1, hl, hr, h2, h3, h4, q⟩
theorem ind_str {K : D → Prop} {s : ByteArray} (h1 : strT P t = true) (h2 : 0 ≤ m) (h3 : m < (s.size : Int)) (q : ∀ b, s.data[m.toNat]? = some b → K (.v (.int .u8 b.toNat))) : indA P t (.v (.string s)) (.v (.int κ m)) K := ⟨h1, h2, h3, q⟩
@[go_sem] theorem b_quo {x y : Operand} {a c : Int} (q : (c == 0) = false) : binV P .quo t x y (.int k a) (.int k c) = some (.v (.int k (k.wrap (a.tdiv c)))) := by
 have q : c ≠ 0 := by simpa using q
 cases k <;> simp [binV, binOp, Op.intDiv, eqGuard, q, bind, Sem.bind, pure, pureRun]
@[go_sem] theorem b_rem {x y : Operand} {a c : Int} (q : (c == 0) = false) : binV P .rem t x y (.int k a) (.int k c) = some (.v (.int k (a.tmod c))) := by
 have q : c ≠ 0 := by simpa using q
 cases k <;> simp [binV, binOp, Op.intDiv, eqGuard, q, bind, Sem.bind, pure, pureRun]
@[go_sem] theorem b_shl {x y : Operand} {a c : Int} (q : decide (0 ≤ c) = true) : binV P .shl t x y (.int k a) (.int κ c) = some (.v (.int k (k.wrap (a * 2 ^ min c.toNat k.bits)))) := by
 have q : ¬ c < 0 := by have := of_decide_eq_true q; omega
 simp [binV, binOp, Op.shift, eqGuard, q, bind, Sem.bind, pure, pureRun]
@[go_sem] theorem b_shr {x y : Operand} {a c : Int} (q : decide (0 ≤ c) = true) : binV P .shr t x y (.int k a) (.int κ c) = some (.v (.int k (a.fdiv (2 ^ min c.toNat k.bits)))) := by
 have q : ¬ c < 0 := by have := of_decide_eq_true q; omega
 simp [binV, binOp, Op.shift, eqGuard, q, bind, Sem.bind, pure, pureRun]
@[go_sem] theorem b_xor {x y : Operand} {a c : Int} : binV P .xor t x y (.int k a) (.int k c) = some (.v (.int k (k.wrap (BitVec.ofInt k.bits a ^^^ BitVec.ofInt k.bits c).toNat))) := by cases k <;> rfl
@[go_sem] theorem b_and {x y : Operand} {a c : Int} : binV P .and t x y (.int k a) (.int k c) = some (.v (.int k (k.wrap (BitVec.ofInt k.bits a &&& BitVec.ofInt k.bits c).toNat))) := by cases k <;> rfl
@[go_sem] theorem b_or {x y : Operand} {a c : Int} : binV P .or t x y (.int k a) (.int k c) = some (.v (.int k (k.wrap (BitVec.ofInt k.bits a ||| BitVec.ofInt k.bits c).toNat))) := by cases k <;> rfl
theorem ba_loop (s : ByteArray) : ∀ (k i : Nat) (r : List UInt8), s.size - i = k → ByteArray.toList.loop s i r = r.reverse ++ s.data.toList.drop i
 | 0, i, r, hk => by
  rw [ByteArray.toList.loop, if_neg (by omega), List.drop_eq_nil_of_le (by show s.data.toList.length ≤ i; rw [Array.length_toList]; exact (show s.size ≤ i by omega)), List.append_nil]
 | k + 1, i, r, hk => by
  have hi : i < s.size := by omega
  have hi' : i < s.data.toList.length := by rw [Array.length_toList]; exact hi
  rw [ByteArray.toList.loop, if_pos hi, ba_loop s k (i + 1) _ (by omega), List.drop_eq_getElem_cons hi']
  have : s.get! i = s.data.toList[i] := by
   unfold ByteArray.get!
   rw [Array.getElem_toList]
   exact getElem!_pos s.data i hi
  rw [this]; simp
theorem ba_toList (s : ByteArray) : s.toList = s.data.toList := by
 unfold ByteArray.toList
 rw [ba_loop s _ 0 [] rfl]; simp
theorem str_eq_iff (a b : ByteArray) : (a.toList == b.toList) = decide (a = b) := by
 rw [Bool.eq_iff_iff, decide_eq_true_eq, beq_iff_eq]
 exact ⟨fun q => ByteArray.ext (Array.ext' (by rw [← ba_toList, ← ba_toList]; exact q)), fun q => by rw [q]⟩
@[go_sem] theorem b_seql {x y : Operand} {a c : ByteArray} : binV P .eql t x y (.string a) (.string c) = some (.v (.bool (decide (a = c)))) := by
 rw [← str_eq_iff]; rfl
@[go_sem] theorem b_sneq {x y : Operand} {a c : ByteArray} : binV P .neq t x y (.string a) (.string c) = some (.v (.bool (!decide (a = c)))) := by
 rw [← str_eq_iff]; rfl
@[go_sem] theorem b_slss {x y : Operand} {a c : ByteArray} : binV P .lss t x y (.string a) (.string c) = some (.v (.bool (Op.bytesLess a.toList c.toList))) := rfl
@[go_sem] theorem b_sgeq {x y : Operand} {a c : ByteArray} : binV P .geq t x y (.string a) (.string c) = some (.v (.bool (!Op.bytesLess a.toList c.toList))) := rfl
@[go_sem] theorem b_sgtr {x y : Operand} {a c : ByteArray} : binV P .gtr t x y (.string a) (.string c) = some (.v (.bool (!(Op.bytesLess a.toList c.toList || decide (a = c))))) := by
 rw [← str_eq_iff]; rfl
@[go_sem] theorem b_sleq {x y : Operand} {a c : ByteArray} : binV P .leq t x y (.string a) (.string c) = some (.v (.bool (Op.bytesLess a.toList c.toList || decide (a = c)))) := by
 rw [← str_eq_iff]; rfl
end
section
variable {h : List Ob} {t : TypeId} {i o k : Nat} {y : D} {a : Ob} {l : List Ob}
@[go_sem] theorem loadD_ptr : loadD P h t (.ptr i o) = match h[i]? with
 | some (.cells ds) => getD P t ds o
 | _ => none := rfl
@[go_sem] theorem storeD_ptr : storeD P h t (.ptr i o) y = match y.cells with
 | none => none
 | some es => if es.all D.one && szT P t == some es.length then match h[i]? with
  | some (.cells ds) => if o + es.length ≤ ds.length then some (h.set i (.cells (putL ds o es))) else none
  | _ => none
  else none := by unfold storeD; rfl
theorem hp_get0 : (h ++ l)[h.length]? = l[0]? := by rw [List.getElem?_append_right (Nat.le_refl _), Nat.sub_self]
theorem hp_getk : (h ++ l)[h.length + k]? = l[k]? := by rw [List.getElem?_append_right (by omega)]; congr 1; omega
theorem hp_set0 {x : Ob} : (h ++ l).set h.length x = h ++ l.set 0 x := by rw [List.set_append_right _ _ (Nat.le_refl _), Nat.sub_self]
theorem hp_setk {x : Ob} : (h ++ l).set (h.length + k) x = h ++ l.set k x := by rw [List.set_append_right _ _ (by omega)]; congr 2; omega
theorem hps_get0 {x : Ob} : (h.set i x ++ l)[h.length]? = l[0]? := by have := hp_get0 (h := h.set i x) (l := l); rwa [List.length_set] at this
theorem hps_getk {x : Ob} : (h.set i x ++ l)[h.length + k]? = l[k]? := by have := hp_getk (h := h.set i x) (l := l) (k := k); rwa [List.length_set] at this
theorem hps_set0 {x y : Ob} : (h.set i x ++ l).set h.length y = h.set i x ++ l.set 0 y := by have := hp_set0 (h := h.set i x) (l := l) (x := y); rwa [List.length_set] at this
theorem hps_setk {x y : Ob} : (h.set i x ++ l).set (h.length + k) y = h.set i x ++ l.set k y := by have := hp_setk (h := h.set i x) (l := l) (k := k) (x := y); rwa [List.length_set] at this
theorem own_get {ob : Ob} (hi : h[i]? = some ob) : (∀ x : Ob, (h.set i x)[i]? = some x) ∧ (∀ (x : Ob) (l : List Ob), (h.set i x ++ l)[i]? = some x) ∧ (∀ l : List Ob, (h ++ l)[i]? = some ob) ∧ (∀ (x : Ob) (l : List Ob), (h ++ l).set i x = h.set i x ++ l) ∧ (∀ (x y : Ob) (l : List Ob), (h.set i x ++ l).set i y = h.set i y ++ l) := by
 have hil := (List.getElem?_eq_some_iff.1 hi).1
 refine ⟨fun x => List.getElem?_set_self hil, fun x l => ?_, fun l => ?_, fun x l => ?_, fun x y l => ?_⟩
 · rw [List.getElem?_append_left (by simpa using hil)]; exact List.getElem?_set_self hil
 · rw [List.getElem?_append_left hil]; exact hi
 · rw [List.set_append_left _ _ hil]
 · rw [List.set_append_left _ _ (by simpa using hil), List.set_set]
end
@[go_sem] theorem argEnv_zero {a : D} {l : List D} : argEnv (a :: l) 0 = a := rfl
@[go_sem] theorem argEnv_succ {a : D} {l : List D} {k : Nat} : argEnv (a :: l) (k + 1) = argEnv l k := by simp [argEnv]
@[go_sem] theorem cells_int {k : IntKind} {m : Int} : (D.v (.int k m)).cells = some [.v (.int k m)] := rfl
@[go_sem] theorem cells_bool {b : Bool} : (D.v (.bool b)).cells = some [.v (.bool b)] := rfl
@[go_sem] theorem cells_str {s : ByteArray} : (D.v (.string s)).cells = some [.v (.string s)] := rfl
@[go_sem] theorem cells_nsl : (D.v (.slice none 0 0)).cells = some [.v (.slice none 0 0)] := rfl
@[go_sem] theorem cells_sl {k : Nat} {xs : List (List D)} : (D.sl k xs).cells = some [.sl k xs] := rfl
@[go_sem] theorem cells_buf {i m : Nat} : (D.buf i m).cells = some [.buf i m] := rfl
@[go_sem] theorem cells_ptr {i m : Nat} : (D.ptr i m).cells = some [.ptr i m] := rfl
@[go_sem] theorem cells_agg {ds : List D} : (D.agg ds).cells = some ds := rfl
@[go_sem] theorem one_int {k : IntKind} {m : Int} : (D.v (.int k m)).one = true := rfl
@[go_sem] theorem one_bool {b : Bool} : (D.v (.bool b)).one = true := rfl
@[go_sem] theorem one_str {s : ByteArray} : (D.v (.string s)).one = true := rfl
@[go_sem] theorem one_nsl : (D.v (.slice none 0 0)).one = true := rfl
@[go_sem] theorem one_sl {k : Nat} {xs : List (List D)} : (D.sl k xs).one = true := rfl
@[go_sem] theorem one_buf {i m : Nat} : (D.buf i m).one = true := rfl
@[go_sem] theorem one_ptr {i m : Nat} : (D.ptr i m).one = true := rfl
@[go_sem] theorem putL_zero {α : Type} {a b : α} {l : List α} : putL (a :: l) 0 [b] = b :: l := rfl
@[go_sem] theorem putL_succ {α : Type} {a b : α} {l : List α} {o : Nat} : putL (a :: l) (o + 1) [b] = a :: putL l o [b] := by simp [putL, Nat.add_right_comm]
@[go_sem] theorem isPtr_ptr {i m : Nat} : isPtr (.ptr i m) = true := rfl
@[go_sem] theorem isPtr_rp {ds : List D} : isPtr (.rp ds) = true := rfl
attribute [go_sem] Option.isSome_some Option.map_some List.take_succ_cons List.take_zero List.all_cons List.all_nil Bool.and_true Bool.true_and List.append_assoc List.cons_append List.nil_append List.length_append List.length_set List.set_set Nat.add_zero Nat.zero_add hp_get0 hp_getk hp_set0 hp_setk hps_get0 hps_getk hps_set0 hps_setk List.set_cons_zero List.set_cons_succ beq_self_eq_true List.map_cons List.map_nil List.length_map List.length_cons List.length_nil Option.bind_some true_and and_true List.drop_zero List.getElem?_cons_zero List.getElem?_cons_succ List.drop_succ_cons Bool.not_true Bool.not_false
theorem endD {res : Array ResultVar} {h0 : List Ob} {K : List Ob → D → Prop} {s : S} {ds : List D} {r : D} (hl : lowH h0.length h0) (h1 : resD P s res.toList = some ds) (h2 : s.h.take h0.length = h0) (h4 : h0.length ≤ s.h.length)
 (h3 : cvD (fun i => decide (h0.length ≤ i)) s.h (outD ds) = r) (h5 : low h0.length r) (hK : K h0 r) : EndD P res h0.length K s := ⟨ds, h0.length, h1, Nat.le_refl _, h4, by rw [h2]; exact hl, by rw [h3]; exact h5, by rw [h2, h3]; exact hK⟩
end
section
variable {P : Program} {G : Nat → D} {n : Nat} {e : Nat → D} {h : List Ob} {ops : Array Oper} {md : Region.Mode}
def putE (n : Nat) (e : Nat → D) (dst : Option Nat) (d : D) : Nat → D := match dst with
 | some t => if t < n then upd e t d else e
 | none => e
theorem put_putE {dst : Option Nat} {d : D} : S.put ⟨n, e, h⟩ dst d = ⟨n, putE n e dst d, h⟩ := by
 unfold S.put putE
 cases dst with
 | none => rfl
 | some t => simp only; split <;> rfl
def Yl (P : Program) (G : Nat → D) (op : Op) (e : Nat → D) (h : List Ob) (d : D) : Prop := aOp P G e h (fun h' d' => h' = h ∧ d' = d) op ∨
 ∃ x args tys f cap, op = .call ⟨.value x, args, tys⟩ ∧ ev G e x = .fn f cap ∧ entB P f = true ∧ Does P G f h (args.toList.map (ev G e) ++ cap) (fun h' r => h' = h ∧ r = d)
theorem aOp_congr {e' : Nat → D} {K : List Ob → D → Prop} {op : Op} (q : ∀ x ∈ op.operands, ev G e' x = ev G e x) (k : aOp P G e h K op) : aOp P G e' h K op := by
 cases op <;> try exact k
 case call c =>
  obtain ⟨cal, args, tys⟩ := c
  cases cal with
  | builtin b =>
   have : args.toList.map (ev G e') = args.toList.map (ev G e) := List.map_congr_left fun x hx => q x (by simp only [Op.operands, Call.operands]; simpa using hx)
   show biA P h b tys.toList (args.toList.map (ev G e')) K
   rw [this]; exact k
  | _ => exact k
 case build t parts =>
  have : (parts.toList.map fun q => (q.1, ev G e' q.2)) = parts.toList.map fun q => (q.1, ev G e q.2) := List.map_congr_left fun x hx => by rw [q x.2 (by simp only [Op.operands, List.mem_toArray]; exact List.mem_map.2 ⟨x, hx, rfl⟩)]
  show on (buildD P t (parts.toList.map fun q => (q.1, ev G e' q.2))) _
  rw [this]; exact k
 case buildSlice t len parts =>
  have : (parts.toList.map fun q => (q.1, ev G e' q.2)) = parts.toList.map fun q => (q.1, ev G e q.2) := List.map_congr_left fun x hx => by rw [q x.2 (by simp only [Op.operands, List.mem_toArray]; exact List.mem_map.2 ⟨x, hx, rfl⟩)]
  show on (litD P t len (parts.toList.map fun q => (q.1, ev G e' q.2))) _
  rw [this]; exact k
 case slice t x lo hi mx =>
  cases mx with
  | some m => exact k
  | none =>
   have hx := q x (by simp [Op.operands])
   have hlo : lo.map (ev G e') = lo.map (ev G e) := by
    cases lo with
    | none => rfl
    | some y => simp only [Option.map_some]; rw [q y (by simp [Op.operands])]
   have hhi : hi.map (ev G e') = hi.map (ev G e) := by
    cases hi with
    | none => rfl
    | some y => simp only [Option.map_some]; rw [q y (by simp [Op.operands])]
   show slcA P t (ev G e' x) (lo.map (ev G e')) (hi.map (ev G e')) _
   rw [hx, hlo, hhi]; exact k
 all_goals
  simp only [Op.operands, List.mem_toArray, Array.mem_def, List.mem_cons, List.not_mem_nil, or_false, forall_eq_or_imp, forall_eq] at q
  simp only [aOp] at k ⊢
  first | (simp only [q]; exact k) | (simp only [q.1, q.2]; exact k) | (simp only [q.1, q.2.1, q.2.2]; exact k)
theorem ev_putE {dst : Option Nat} {v : D} {x : Operand} (q : ∀ t, dst = some t → x ≠ .tmp t) : ev G (putE n e dst v) x = ev G e x := by
 cases dst with
 | none => rfl
 | some t =>
  unfold putE
  simp only
  split
  · cases x with
    | tmp u =>
     have : u ≠ t := fun h => q t rfl (by rw [h])
     show upd e t v u = e u
     unfold upd; rw [if_neg this]
    | _ => rfl
  · rfl
theorem looks_opnd {o : Oper} {d : Nat} (q : d ∉ o.looksAt ops) : ∀ x ∈ o.op.operands, x ≠ .tmp d := fun x hx he => q (by
 subst he
 unfold Oper.looksAt
 exact List.mem_append_left _ (List.mem_filterMap.2 ⟨.tmp d, by simpa using hx, rfl⟩))
theorem Yl_put {o : Oper} {dst : Option Nat} {v d : D} (q : ∀ t, dst = some t → t ∉ o.looksAt ops) (k : Yl P G o.op e h d) : Yl P G o.op (putE n e dst v) h d := by
 have key : ∀ x ∈ o.op.operands, ev G (putE n e dst v) x = ev G e x := fun x hx => ev_putE fun t ht => looks_opnd (q t ht) x hx
 rcases k with k | ⟨x, args, tys, f, cap, e1, e2, e3, e4⟩
 · exact .inl (aOp_congr key k)
 · rw [e1] at key
   have h1 : ev G (putE n e dst v) x = ev G e x := key x (by simp [Op.operands, Call.operands])
   have h2 : args.toList.map (ev G (putE n e dst v)) = args.toList.map (ev G e) := List.map_congr_left fun y hy => key y (by simp [Op.operands, Call.operands]; exact .inr (by simpa using hy))
   exact .inr ⟨x, args, tys, f, cap, e1, h1.trans e2, e3, by rw [h2]; exact e4⟩
theorem Yl_put' {o : Oper} {dst : Option Nat} {v d : D} (q : ∀ t, dst = some t → t ∉ o.looksAt ops) (k : Yl P G o.op (putE n e dst v) h d) : Yl P G o.op e h d := by
 have key : ∀ x ∈ o.op.operands, ev G e x = ev G (putE n e dst v) x := fun x hx => (ev_putE fun t ht => looks_opnd (q t ht) x hx).symm
 rcases k with k | ⟨x, args, tys, f, cap, e1, e2, e3, e4⟩
 · exact .inl (aOp_congr key k)
 · rw [e1] at key
   have h1 := key x (by simp [Op.operands, Call.operands])
   have h2 : args.toList.map (ev G e) = args.toList.map (ev G (putE n e dst v)) := List.map_congr_left fun y hy => key y (by simp [Op.operands, Call.operands]; exact .inr (by simpa using hy))
   exact .inr ⟨x, args, tys, f, cap, e1, h1.trans e2, e3, by rw [h2]; exact e4⟩
theorem wantedD_put {o : Oper} {dst : Option Nat} {v : D} (q : ∀ t, dst = some t → t ∉ o.looksAt ops) : wantedD ops o.guard (putE n e dst v) = wantedD ops o.guard e := by
 cases dst with
 | none => rfl
 | some d =>
  unfold wantedD
  cases hg : o.guard with
  | none => rfl
  | some g =>
   obtain ⟨j, w⟩ := g
   simp only
   cases ht : (ops[j]?).bind (·.dst) with
   | none => rfl
   | some t =>
    have hne : t ≠ d := fun e => q d rfl (by subst e; simp [Oper.looksAt, hg, ht])
    have : putE n e (some d) v t = e t := by
     unfold putE
     simp only
     split
     · unfold upd; rw [if_neg hne]
     · rfl
    simp only [this]
theorem putE_comm {x y : Option Nat} {v u : D} (q : ∀ d, x = some d → y ≠ some d) : putE n (putE n e x v) y u = putE n (putE n e y u) x v := by
 cases x with
 | none => rfl
 | some a =>
  cases y with
  | none => rfl
  | some b =>
   have hab : a ≠ b := fun h => q a rfl (by rw [h])
   unfold putE
   simp only
   split <;> split <;> first | rfl | skip
   funext t
   unfold upd
   by_cases h1 : t = b
   · rw [if_pos h1, if_neg (by rw [h1]; exact Ne.symm hab), if_pos h1]
   · rw [if_neg h1, if_neg h1]
def aqOp (P : Program) (G : Nat → D) (n : Nat) (ops : Array Oper) (h : List Ob) (i : Nat) (K : (Nat → D) → Prop) (e : Nat → D) : Prop := match ops[i]? with
 | none => K e
 | some o => match wantedD ops o.guard e with
  | some true => ∃ d, Yl P G o.op e h d ∧ K (putE n e o.dst d)
  | some false => K (putE n e o.dst (.v undef))
  | none => False
theorem aqOp_mono {i : Nat} {K K' : (Nat → D) → Prop} (k : ∀ e, K e → K' e) (q : aqOp P G n ops h i K e) : aqOp P G n ops h i K' e := by
 unfold aqOp at *
 split
 · rename_i ho; rw [ho] at q; exact k _ q
 · rename_i o ho
   rw [ho] at q
   simp only at q
   split
   · rename_i hw; rw [hw] at q; obtain ⟨d, h1, h2⟩ := q; exact ⟨d, h1, k _ h2⟩
   · rename_i hw; rw [hw] at q; exact k _ q
   · rename_i hw; rw [hw] at q; exact q
def aqAny (P : Program) (G : Nat → D) (n : Nat) (md : Region.Mode) (ops : Array Oper) (h : List Ob) (Q : (Nat → D) → Prop) : Nat → Array Bool → (Nat → D) → Prop
 | 0, listed, e => Region.ready md ops listed = [] ∧ Q e
 | fuel + 1, listed, e => (Region.ready md ops listed = [] → Q e) ∧ ∀ i ∈ Region.ready md ops listed, aqOp P G n ops h i (aqAny P G n md ops h Q fuel (listed.setIfInBounds i true)) e
def YD (P : Program) (G : Nat → D) (ops : Array Oper) (h : List Ob) (o : Oper) (d : D) (e : Nat → D) : Prop := (wantedD ops o.guard e = some true ∧ Yl P G o.op e h d) ∨ (wantedD ops o.guard e = some false ∧ d = .v undef)
theorem YD.aqOp {i : Nat} {o : Oper} {d : D} (hi : ops[i]? = some o) (hy : YD P G ops h o d e) {K : (Nat → D) → Prop} (k : K (putE n e o.dst d)) : aqOp P G n ops h i K e := by
 unfold Go.Proofs.YtgkjcmglcnhpaaaGreatDoor.aqOp
 simp only [hi]
 rcases hy with ⟨hw, hv⟩ | ⟨hw, rfl⟩
 · simp only [hw]; exact ⟨d, hv, k⟩
 · simp only [hw]; exact k
theorem YD.put {o : Oper} {dst : Option Nat} {d v : D} (hy : YD P G ops h o d e) (q : ∀ t, dst = some t → t ∉ o.looksAt ops) : YD P G ops h o d (putE n e dst v) := by
 unfold YD
 rw [wantedD_put q]
 exact hy.imp (fun ⟨a, b⟩ => ⟨a, Yl_put q b⟩) id
theorem YD_of {i : Nat} {o : Oper} {K : (Nat → D) → Prop} (hi : ops[i]? = some o) (q : Go.Proofs.YtgkjcmglcnhpaaaGreatDoor.aqOp P G n ops h i K e) : ∃ d, YD P G ops h o d e ∧ K (putE n e o.dst d) := by
 unfold Go.Proofs.YtgkjcmglcnhpaaaGreatDoor.aqOp at q
 simp only [hi] at q
 split at q
 · rename_i hw; obtain ⟨d, h1, h2⟩ := q; exact ⟨d, .inl ⟨hw, h1⟩, h2⟩
 · rename_i hw; exact ⟨_, .inr ⟨hw, rfl⟩, q⟩
 · exact q.elim
theorem aqOp_put {j : Nat} {oi oj : Oper} {v : D} (hj : ops[j]? = some oj) (hap : oi.apart ops oj = true) {K : (Nat → D) → Prop} (hy : YD P G ops h oi v e) (q : Go.Proofs.YtgkjcmglcnhpaaaGreatDoor.aqOp P G n ops h j K (putE n e oi.dst v)) :
 Go.Proofs.YtgkjcmglcnhpaaaGreatDoor.aqOp P G n ops h j (fun e' => YD P G ops h oi v e' ∧ K (putE n e' oi.dst v)) e := by
 obtain ⟨h1, h2, h3⟩ := Oper.apart_spec hap
 obtain ⟨d, hd, hk⟩ := YD_of hj q
 have hd' : YD P G ops h oj d e := by
  unfold YD at hd ⊢
  rw [wantedD_put h1] at hd
  exact hd.imp (fun ⟨a, b⟩ => ⟨a, Yl_put' h1 b⟩) id
 exact hd'.aqOp hj ⟨hy.put h3, by rw [← putE_comm h2]; exact hk⟩
theorem aqAny_first {Q : (Nat → D) → Prop} {i : Nat} {oi : Oper} {v : D} (hi : ops[i]? = some oi) : ∀ (fuel : Nat) (listed : Array Bool) (e : Nat → D),
 (∀ j oj, ops[j]? = some oj → j ≠ i → listed.getD j true = false → (∀ e ∈ oj.after, Region.binds md e = true → e.on ≠ i) → oi.apart ops oj = true) →
 i ∈ Region.ready md ops listed → YD P G ops h oi v e → aqAny P G n md ops h Q fuel (listed.setIfInBounds i true) (putE n e oi.dst v) → aqAny P G n md ops h Q (fuel + 1) listed e := by
  intro fuel
  induction fuel with
  | zero =>
    intro listed a _ hr hy H
    refine ⟨fun h => (by rw [h] at hr; cases hr), fun j hj => ?_⟩
    by_cases hji : j = i
    · subst hji; exact hy.aqOp hi H
    · have := ready_mono hj hji
      rw [H.1] at this
      cases this
  | succ fuel ih =>
    intro listed a hfree hr hy H
    refine ⟨fun h => (by rw [h] at hr; cases hr), fun j hj => ?_⟩
    by_cases hji : j = i
    · subst hji; exact hy.aqOp hi H
    · have h1 := H.2 j (ready_mono hj hji)
      obtain ⟨hjun, oj, hoj, hall⟩ := mem_ready.1 hj
      have hnot : ∀ e ∈ oj.after, Region.binds md e = true → e.on ≠ i := fun e he hb heq => by
        have h1 := hall e he hb
        have h0 := (mem_ready.1 hr).1
        rw [heq] at h1
        rcases Nat.lt_or_ge i listed.size with h' | h'
        · simp [h'] at h0 h1; rw [h0] at h1; cases h1
        · simp [Array.getElem?_eq_none h'] at h1
      have h2 := aqOp_put hoj (hfree j oj hoj hji hjun hnot) hy h1
      have hfree' : ∀ k ok, ops[k]? = some ok → k ≠ i → (listed.setIfInBounds j true).getD k true = false →
          (∀ e ∈ ok.after, Region.binds md e = true → e.on ≠ i) → oi.apart ops ok = true := fun k ok hk hki hun hno => by
        refine hfree k ok hk hki ?_ hno
        by_cases hjk : j = k
        · subst hjk; exact hjun
        · rw [getD_set_ne true hjk] at hun; exact hun
      refine aqOp_mono (fun a' h3 => ih (listed.setIfInBounds j true) a' hfree' (ready_mono hr (Ne.symm hji)) h3.1 ?_) h2
      rw [Array.setIfInBounds_comm _ _ hji]
      exact h3.2
def aq (P : Program) (G : Nat → D) (n : Nat) (ops : Array Oper) (h : List Ob) (Q : (Nat → D) → Prop) : List Oper → (Nat → D) → Prop
 | [], e => Q e
 | o :: rest, e => ∃ d, YD P G ops h o d e ∧ aq P G n ops h Q rest (putE n e o.dst d)
theorem aqAny_lex {Q : (Nat → D) → Prop} : ∀ (l : List Oper) (k : Nat) (listed : Array Bool) (e : Nat → D), (∀ j, l[j]? = ops[k + j]?) → Region.lexFrom md ops l.length k listed = true → aq P G n ops h Q l e → aqAny P G n md ops h Q l.length listed e
 | [], _, _, _, _, hB, q => ⟨by simpa [Region.lexFrom] using hB, q⟩
 | o :: l, k, listed, e, hl, hB, q => by
    have h0 : ops[k]? = some o := by simpa using (hl 0).symm
    simp only [List.length_cons, Region.lexFrom, Bool.and_eq_true] at hB
    obtain ⟨⟨hr, hf⟩, hB'⟩ := hB
    obtain ⟨v, hy, hK⟩ := q
    exact aqAny_first h0 l.length listed e (Region.free_spec h0 hf) (by simpa using hr) hy
      (aqAny_lex l (k + 1) _ _ (fun j => by have := hl (j + 1); simpa [Nat.add_assoc, Nat.add_comm 1 j] using this) hB' hK)
variable {B : Base} {a : Act} {w : World}
theorem Yl_sound {o : Oper} {d : D} {K : Act → World → Prop} {R : Exit → Act → World → Prop} (q : Yl P G o.op e h d) (r : Sit G B ⟨n, e, h⟩ a w) (k : ∀ a' w', Sit G B ⟨n, putE n e o.dst d, h⟩ a' w' → K a' w') : o.wp P a w K R := by
 obtain ⟨hd, p, r⟩ := r
 obtain ⟨dst, op, ty, pos, aft, gd⟩ := o
 have fin : ∀ (s' : S), s' = S.put ⟨n, e, h⟩ dst d → s' = ⟨n, putE n e dst d, h⟩ := fun s' hs => by rw [hs, put_putE]
 rcases q with q | ⟨x, args, tys, f, cap, rfl, e2, e3, e4⟩
 · obtain ⟨v, w', hd', h', p', d', hr, ⟨rfl, rfl⟩, o', q', ev'⟩ := aOp_sound (dst := dst) (ty := ty) (pos := pos) (aft := aft) (gd := gd) r q
   unfold Oper.wp
   have := r.put o' ev' q' dst
   rw [fin _ rfl] at this
   rcases hr with hr | ⟨hr, rfl⟩
   · rw [hr]; exact k _ _ ⟨hd', p', this⟩
   · rw [hr]; exact k _ _ ⟨hd', p', this⟩
 · have q0 := r.ev x
   rw [e2, rd] at q0
   obtain ⟨cs, e1, q0⟩ := q0
   have hrun : (execOp a.eval ⟨dst, .call ⟨.value x, args, tys⟩, ty, pos, aft, gd⟩).run P w = .ok (.enter f (args.map a.eval ++ cs)) w := by
    simp [execOp, resolve, e1, Deferred.ofValue, invoke, run_enter e3]
   unfold Oper.wp
   rw [hrun, Oper.upon_enter]
   have hargs : rdL hd h (only p w) (args.toList.map (ev G e) ++ cap) (args.toList.map a.eval ++ cs.toList) := rdL_append (rdL_map r _) q0
   have := e4 w hd p _ r.ok hargs
   rw [show (args.toList.map a.eval ++ cs.toList).toArray = args.map a.eval ++ cs by apply Array.ext'; simp] at this
   refine this.mono ?_
   rintro e' w' ⟨v, hd', h', d', p', rfl, ⟨rfl, rfl⟩, o, q2, ev'⟩
   have := r.put o ev' q2 dst
   rw [fin _ rfl] at this
   exact k _ _ ⟨hd', p', this⟩
theorem aqAny_sound {Q : (Nat → D) → Prop} {R : Exit → Act → World → Prop} (k : ∀ e a w, Q e → Sit G B ⟨n, e, h⟩ a w → R .normal a w) : ∀ (fuel : Nat) (listed : Array Bool) (e : Nat → D) (a : Act) (w : World), Sit G B ⟨n, e, h⟩ a w → aqAny P G n md ops h Q fuel listed e → wpAny P md ops R fuel listed a w
 | 0, _, _, _, _, r, q => ⟨q.1, k _ _ _ q.2 r⟩
 | fuel + 1, listed, e, a, w, r, q => ⟨fun h0 => k _ _ _ (q.1 h0) r, fun i hi => by
   have q2 := q.2 i hi
   unfold aqOp at q2
   unfold wpOp
   split
   · rename_i ho; rw [ho] at q2; exact aqAny_sound k fuel _ _ _ _ r q2
   · rename_i o ho
     rw [ho] at q2
     simp only at q2
     split at q2
     · rename_i hw
       obtain ⟨hd, p, r'⟩ := id r
       have hw' := wantedD_sound (o := o) r' hw
       rw [if_pos hw']
       obtain ⟨d, h1, h2⟩ := q2
       exact .inl (Yl_sound h1 r fun a' w' r2 => aqAny_sound k fuel _ _ _ _ r2 h2)
     · rename_i hw
       obtain ⟨hd, p, r'⟩ := id r
       have hw' := wantedD_sound (o := o) r' hw
       rw [if_neg (by rw [hw']; decide)]
       have r3 := r'.put0 (d := .v undef) (v := undef) (by rw [rd]) o.dst
       rw [put_putE] at r3
       exact aqAny_sound k fuel _ _ _ _ ⟨hd, p, r3⟩ q2
     · exact q2.elim⟩
theorem aw_draw {id : Nat} {l : List Oper} {Q : Exit → S → Prop} (hm : P.follows .mixedOrders = true) (hB : Region.lexB .any l.toArray = true) (H : aq P G n l.toArray h (fun e => Q .normal ⟨n, e, h⟩) l e) : aw P G (.region id l.toArray true) Q ⟨n, e, h⟩ := fun B a w r => by
 obtain ⟨hd, p, r⟩ := r
 have hdr := r.ok.drew
 have r' : Sit G B ⟨n, e, h⟩ a { w with drawn := w.drawn + 1 } := ⟨hd, p, hdr.1, r.evo.trans hdr.2, fun t => hdr.2.rd r.ok (r.tmp t), r.size, r.defers⟩
 simp only [Region.lexB, Bool.and_eq_true] at hB
 refine wp_region_any hm (aqAny_sound (Q := fun e => Q .normal ⟨n, e, h⟩) (fun e a w q r => ⟨_, q, r⟩) _ _ _ _ _ r' ?_)
 have := aqAny_lex (P := P) (G := G) (n := n) (h := h) (md := .any) (ops := l.toArray) (Q := fun e => Q .normal ⟨n, e, h⟩) l 0 (Array.replicate l.toArray.size false) e (by simp) (by simpa using hB.2) H
 simpa using this
section
variable {rest : List Oper} {Q : (Nat → D) → Prop} {t : Nat} {op : Op} {ty : TypeId} {pos : String} {aft : Array Edge} {gd : Option (Nat × Bool)}
theorem aq_nil (q : Q e) : aq P G n ops h Q [] e := q
theorem aOp_det {K : List Ob → D → Prop} (q : aOp P G e h K op) (k : ∀ h' d, K h' d → h' = h) : ∃ d, aOp P G e h (fun h' d' => h' = h ∧ d' = d) op ∧ K h d := by
 have one : ∀ {x : Option D}, on x (K h) → ∃ d, on x (fun d' => h = h ∧ d' = d) ∧ K h d := fun {x} q => by
  obtain ⟨d, h1, h2⟩ := on_iff.1 q
  exact ⟨d, on_iff.2 ⟨d, h1, rfl, rfl⟩, h2⟩
 cases op <;> try exact q.elim
 case move x => exact ⟨_, ⟨rfl, rfl⟩, q⟩
 case assign x => exact ⟨_, ⟨rfl, rfl⟩, q⟩
 case pick c x y => obtain ⟨t, h1, h2⟩ := q; exact ⟨_, ⟨t, h1, rfl, rfl⟩, h2⟩
 case binOp => exact one q
 case unOp => exact one q
 case convert t u x =>
  have q : cvA P h t u (ev G e x) K := q
  suffices ∃ d, cvA P h t u (ev G e x) (fun h' d' => h' = h ∧ d' = d) ∧ K h d from this
  unfold cvA at q ⊢
  split at q
  · exact one q
  · rcases q with ⟨q1, q2, q3, q4⟩ | ⟨q1, q2, q4⟩
    · exact ⟨_, .inl ⟨q1, q2, q3, rfl, rfl⟩, q4⟩
    · exact ⟨_, .inr ⟨q1, q2, rfl, rfl⟩, q4⟩
  · obtain ⟨q1, q2, q3⟩ := q
    unfold bstD
    split at q3
    · obtain ⟨bs, q4, q5⟩ := q3; exact ⟨_, ⟨q1, q2, bs, q4, rfl, rfl⟩, q5⟩
    · obtain ⟨a, b, c, q4, q5, q6, q7⟩ := q3; exact ⟨_, ⟨q1, q2, a, b, c, q4, q5, q6, rfl, rfl⟩, q7⟩
    · exact ⟨_, ⟨q1, q2, rfl, rfl⟩, q3⟩
    · exact q3.elim
 case build t parts =>
  obtain ⟨ds, h1, h2⟩ := on_iff.1 q
  exact ⟨_, on_iff.2 ⟨ds, h1, rfl, rfl⟩, h2⟩
 case buildSlice t len parts =>
  obtain ⟨ds, h1, h2⟩ := on_iff.1 q
  exact absurd (congrArg List.length (k _ _ h2)) (by simp)
 case slice t x lo hi mx =>
  cases mx with
  | some m => exact q.elim
  | none =>
   have q : slcA P t (ev G e x) (lo.map (ev G e)) (hi.map (ev G e)) (K h) := q
   suffices ∃ d, slcA P t (ev G e x) (lo.map (ev G e)) (hi.map (ev G e)) (fun d' => h = h ∧ d' = d) ∧ K h d from this
   unfold slcA at q ⊢
   split at q
   · obtain ⟨l, r, a, b, c, d, e, f, g⟩ := q; exact ⟨_, ⟨l, r, a, b, c, d, e, f, rfl, rfl⟩, g⟩
   · obtain ⟨l, r, a, b, c, d, e, f, g⟩ := q; exact ⟨_, ⟨l, r, a, b, c, d, e, f, rfl, rfl⟩, g⟩
   · exact q.elim
 case index t x i =>
  have q : indA P t (ev G e x) (ev G e i) (K h) := q
  suffices ∃ d, indA P t (ev G e x) (ev G e i) (fun d' => h = h ∧ d' = d) ∧ K h d from this
  unfold indA at q ⊢
  split at q
  · rename_i s κ n _ _
    obtain ⟨a, b, c, d⟩ := q
    have hlt : n.toNat < s.data.size := by have : s.data.size = s.size := rfl; omega
    exact ⟨_, ⟨a, b, c, fun b hb => ⟨rfl, by rw [Array.getElem?_eq_getElem hlt] at hb; cases hb; rfl⟩⟩, d _ (Array.getElem?_eq_getElem hlt)⟩
  · obtain ⟨l, e, z, d, h1, h2, h3, h4, h5, h6⟩ := q; exact ⟨_, ⟨l, e, z, d, h1, h2, h3, h4, h5, rfl, rfl⟩, h6⟩
  · exact q.elim
 case extract => exact one q
 case field => exact one q
 case load => exact one q
 case fieldAddr => exact one q
 case store t x y =>
  obtain ⟨h', h1, h2⟩ := on_iff.1 q
  have := k _ _ h2
  subst this
  exact ⟨_, on_iff.2 ⟨_, h1, rfl, rfl⟩, h2⟩
 case nilCheck x => exact ⟨_, ⟨q.1, rfl, rfl⟩, q.2⟩
 case box t x =>
  obtain ⟨ds, h1, h2⟩ := on_iff.1 q
  exact absurd (congrArg List.length (k _ _ h2)) (by simp)
 case alloc t =>
  obtain ⟨ds, h1, h2⟩ := on_iff.1 q
  exact absurd (congrArg List.length (k _ _ h2)) (by simp)
 case indexAddr t x i =>
  have q : idxA P h t (ev G e x) (ev G e i) (K h) := q
  suffices ∃ d, idxA P h t (ev G e x) (ev G e i) (fun d' => h = h ∧ d' = d) ∧ K h d from this
  unfold idxA at q ⊢
  generalize ev G e x = X at q ⊢
  generalize ev G e i = I at q ⊢
  cases I <;> try exact q.elim
  case v I =>
  cases I <;> try exact q.elim
  case int κ m =>
  cases X <;> try exact q.elim
  case sl kk xs =>
   obtain ⟨h1, h2, h3, h4⟩ := q
   have hr : xs[m.toNat]? = some (xs[m.toNat]'(by omega)) := List.getElem?_eq_getElem (by omega)
   exact ⟨_, ⟨h1, h2, h3, fun row hrow => ⟨rfl, by rw [hr] at hrow; cases hrow; rfl⟩⟩, h4 _ hr⟩
  case buf i' n' => obtain ⟨a, b, c, h1, h2, h3, h4, h5, h6⟩ := q; exact ⟨_, ⟨a, b, c, h1, h2, h3, h4, h5, rfl, rfl⟩, h6⟩
  case win i' n' a' b' => obtain ⟨a, b, c, h1, h2, h3, h4, h5, h6⟩ := q; exact ⟨_, ⟨a, b, c, h1, h2, h3, h4, h5, rfl, rfl⟩, h6⟩
  case ptr i' n' => obtain ⟨a, b, c, h1, h2, h3, h4, h5⟩ := q; exact ⟨_, ⟨a, b, c, h1, h2, h3, h4, rfl, rfl⟩, h5⟩
  case rp ds => obtain ⟨a, b, c, h1, h2, h3, h4, h5⟩ := q; exact ⟨_, ⟨a, b, c, h1, h2, h3, h4, rfl, rfl⟩, h5⟩
 case call c =>
  obtain ⟨cal, args, tys⟩ := c
  cases cal with
  | builtin b =>
   have q : biA P h b tys.toList (args.toList.map (ev G e)) K := q
   suffices ∃ d, biA P h b tys.toList (args.toList.map (ev G e)) (fun h' d' => h' = h ∧ d' = d) ∧ K h d from this
   unfold biA at q ⊢
   split at q
   · exact one q
   · obtain ⟨a, b, c, ys, h1, h2, h3, h4⟩ := q
     split at h4
     · rename_i i' n' _
       obtain ⟨xs, g1, g2, g3, g4⟩ := h4
       exact ⟨_, ⟨a, b, c, ys, h1, h2, h3, xs, g1, g2, g3, k _ _ g4, rfl⟩, by rw [← k _ _ g4]; exact (k _ _ g4).symm ▸ g4⟩
     · exact absurd (congrArg List.length (k _ _ h4.2)) (by simp)
     · exact h4.elim
   · exact q.elim
  | _ => exact q.elim
theorem aq1 (hw : wantedD ops gd e = some true) (ht : decide (t < n) = true) (H : ∀ K : List Ob → D → Prop, (∀ h' d, h' = h → aq P G n ops h Q rest (upd e t d) → K h' d) → aOp P G e h K op) : aq P G n ops h Q (⟨some t, op, ty, pos, aft, gd⟩ :: rest) e := by
 obtain ⟨d, h1, _, h2⟩ := aOp_det (H (fun h' d => h' = h ∧ aq P G n ops h Q rest (upd e t d)) fun h' d q1 q2 => ⟨q1, q2⟩) fun h' d q => q.1
 exact ⟨d, .inl ⟨hw, .inl h1⟩, by unfold putE; simp only [if_pos (of_decide_eq_true ht)]; exact h2⟩
theorem aq0 (hw : wantedD ops gd e = some false) (ht : decide (t < n) = true) (k : aq P G n ops h Q rest (upd e t (.v undef))) : aq P G n ops h Q (⟨some t, op, ty, pos, aft, gd⟩ :: rest) e :=
 ⟨.v undef, .inr ⟨hw, rfl⟩, by unfold putE; simp only [if_pos (of_decide_eq_true ht)]; exact k⟩
theorem aq2 {x : Operand} {args : Array Operand} {tys : Array TypeId} {f : FuncId} {cap : List D} {d : D} (hw : wantedD ops gd e = some true) (ht : decide (t < n) = true) (hx : ev G e x = .fn f cap) (he : entB P f = true)
 (hc : Does P G f h (args.toList.map (ev G e) ++ cap) (fun h' r => h' = h ∧ r = d)) (k : aq P G n ops h Q rest (upd e t d)) : aq P G n ops h Q (⟨some t, .call ⟨.value x, args, tys⟩, ty, pos, aft, gd⟩ :: rest) e :=
 ⟨d, .inl ⟨hw, .inr ⟨x, args, tys, f, cap, rfl, hx, he, hc⟩⟩, by unfold putE; simp only [if_pos (of_decide_eq_true ht)]; exact k⟩
end
end
section
@[go_sem] theorem aggT_2 : aggT Tryz.prog 2 = some false := by kernel_rfl
@[go_sem] theorem aggT_3 : aggT Tryz.prog 3 = some false := by kernel_rfl
@[go_sem] theorem aggT_4 : aggT Tryz.prog 4 = some false := by kernel_rfl
@[go_sem] theorem aggT_5 : aggT Tryz.prog 5 = some false := by kernel_rfl
@[go_sem] theorem aggT_9 : aggT Tryz.prog 9 = some false := by kernel_rfl
@[go_sem] theorem aggT_22 : aggT Tryz.prog 22 = some false := by kernel_rfl
@[go_sem] theorem aggT_23 : aggT Tryz.prog 23 = some false := by kernel_rfl
@[go_sem] theorem aggT_25 : aggT Tryz.prog 25 = some true := by kernel_rfl
@[go_sem] theorem aggT_27 : aggT Tryz.prog 27 = some false := by kernel_rfl
@[go_sem] theorem aggT_28 : aggT Tryz.prog 28 = some false := by kernel_rfl
@[go_sem] theorem aggT_29 : aggT Tryz.prog 29 = some false := by kernel_rfl
@[go_sem] theorem aggT_31 : aggT Tryz.prog 31 = some true := by kernel_rfl
@[go_sem] theorem aggT_34 : aggT Tryz.prog 34 = some false := by kernel_rfl
@[go_sem] theorem aggT_37 : aggT Tryz.prog 37 = some false := by kernel_rfl
@[go_sem] theorem aggT_38 : aggT Tryz.prog 38 = some false := by kernel_rfl
@[go_sem] theorem aggT_40 : aggT Tryz.prog 40 = some true := by kernel_rfl
@[go_sem] theorem aggT_58 : aggT Tryz.prog 58 = some true := by kernel_rfl
@[go_sem] theorem aggT_72 : aggT Tryz.prog 72 = some true := by kernel_rfl
@[go_sem] theorem aggT_74 : aggT Tryz.prog 74 = some true := by kernel_rfl
@[go_sem] theorem aggT_130 : aggT Tryz.prog 130 = some false := by kernel_rfl
@[go_sem] theorem aggT_131 : aggT Tryz.prog 131 = some false := by kernel_rfl
@[go_sem] theorem aggT_133 : aggT Tryz.prog 133 = some true := by kernel_rfl
@[go_sem] theorem aggT_147 : aggT Tryz.prog 147 = some true := by kernel_rfl
@[go_sem] theorem aggT_157 : aggT Tryz.prog 157 = some true := by kernel_rfl
@[go_sem] theorem aggT_161 : aggT Tryz.prog 161 = some false := by kernel_rfl
@[go_sem] theorem aggT_163 : aggT Tryz.prog 163 = some true := by kernel_rfl
@[go_sem] theorem aggT_165 : aggT Tryz.prog 165 = some true := by kernel_rfl
@[go_sem] theorem aggT_171 : aggT Tryz.prog 171 = some false := by kernel_rfl
@[go_sem] theorem aggT_172 : aggT Tryz.prog 172 = some true := by kernel_rfl
@[go_sem] theorem aggT_193 : aggT Tryz.prog 193 = some true := by kernel_rfl
@[go_sem] theorem allSz_25 : allSz Tryz.prog 25 = true := by kernel_rfl
@[go_sem] theorem allSz_31 : allSz Tryz.prog 31 = true := by kernel_rfl
@[go_sem] theorem allSz_40 : allSz Tryz.prog 40 = true := by kernel_rfl
@[go_sem] theorem allSz_58 : allSz Tryz.prog 58 = true := by kernel_rfl
@[go_sem] theorem allSz_72 : allSz Tryz.prog 72 = true := by kernel_rfl
@[go_sem] theorem allSz_74 : allSz Tryz.prog 74 = true := by kernel_rfl
@[go_sem] theorem allSz_95 : allSz Tryz.prog 95 = true := by kernel_rfl
@[go_sem] theorem allSz_98 : allSz Tryz.prog 98 = true := by kernel_rfl
@[go_sem] theorem allSz_113 : allSz Tryz.prog 113 = true := by kernel_rfl
@[go_sem] theorem allSz_121 : allSz Tryz.prog 121 = true := by kernel_rfl
@[go_sem] theorem allSz_133 : allSz Tryz.prog 133 = true := by kernel_rfl
@[go_sem] theorem allSz_163 : allSz Tryz.prog 163 = true := by kernel_rfl
@[go_sem] theorem allSz_165 : allSz Tryz.prog 165 = true := by kernel_rfl
@[go_sem] theorem allSz_172 : allSz Tryz.prog 172 = true := by kernel_rfl
@[go_sem] theorem allSz_186 : allSz Tryz.prog 186 = true := by kernel_rfl
@[go_sem] theorem allSz_193 : allSz Tryz.prog 193 = true := by kernel_rfl
@[go_sem] theorem allSz_196 : allSz Tryz.prog 196 = true := by kernel_rfl
@[go_sem] theorem apT_22 : apT Tryz.prog 22 = some (3, 1, 8) := by kernel_rfl
@[go_sem] theorem apT_23 : apT Tryz.prog 23 = some (74, 7, 112) := by kernel_rfl
@[go_sem] theorem apT_27 : apT Tryz.prog 27 = some (9, 1, 16) := by kernel_rfl
@[go_sem] theorem apT_37 : apT Tryz.prog 37 = some (72, 2, 40) := by kernel_rfl
@[go_sem] theorem apT_38 : apT Tryz.prog 38 = some (5, 1, 1) := by kernel_rfl
@[go_sem] theorem apT_128 : apT Tryz.prog 128 = some (34, 1, 8) := by kernel_rfl
@[go_sem] theorem apT_130 : apT Tryz.prog 130 = some (133, 4, 80) := by kernel_rfl
@[go_sem] theorem apT_131 : apT Tryz.prog 131 = some (163, 2, 40) := by kernel_rfl
@[go_sem] theorem apT_161 : apT Tryz.prog 161 = some (165, 2, 16) := by kernel_rfl
@[go_sem] theorem apT_201 : apT Tryz.prog 201 = some (2, 1, 8) := by kernel_rfl
@[go_sem] theorem arrT_147 : arrT Tryz.prog 147 = some (64, 5) := by kernel_rfl
@[go_sem] theorem arrT_172 : arrT Tryz.prog 172 = some (8, 171) := by kernel_rfl
@[go_sem] theorem arrT_186 : arrT Tryz.prog 186 = some (64, 171) := by kernel_rfl
@[go_sem] theorem arrT_193 : arrT Tryz.prog 193 = some (8, 171) := by kernel_rfl
@[go_sem] theorem byT_38 : byT Tryz.prog 38 = true := by kernel_rfl
@[go_sem] theorem elT_22 : elT Tryz.prog 22 = some 3 := by kernel_rfl
@[go_sem] theorem elT_23 : elT Tryz.prog 23 = some 74 := by kernel_rfl
@[go_sem] theorem elT_27 : elT Tryz.prog 27 = some 9 := by kernel_rfl
@[go_sem] theorem elT_28 : elT Tryz.prog 28 = some 31 := by kernel_rfl
@[go_sem] theorem elT_29 : elT Tryz.prog 29 = some 157 := by kernel_rfl
@[go_sem] theorem elT_37 : elT Tryz.prog 37 = some 72 := by kernel_rfl
@[go_sem] theorem elT_38 : elT Tryz.prog 38 = some 5 := by kernel_rfl
@[go_sem] theorem elT_128 : elT Tryz.prog 128 = some 34 := by kernel_rfl
@[go_sem] theorem elT_130 : elT Tryz.prog 130 = some 133 := by kernel_rfl
@[go_sem] theorem elT_131 : elT Tryz.prog 131 = some 163 := by kernel_rfl
@[go_sem] theorem elT_161 : elT Tryz.prog 161 = some 165 := by kernel_rfl
@[go_sem] theorem elT_201 : elT Tryz.prog 201 = some 2 := by kernel_rfl
@[go_sem] theorem fldT_25_0 : fldT Tryz.prog 25 0 = some (0, 3) := by kernel_rfl
@[go_sem] theorem fldT_25_1 : fldT Tryz.prog 25 1 = some (1, 3) := by kernel_rfl
@[go_sem] theorem fldT_25_2 : fldT Tryz.prog 25 2 = some (2, 22) := by kernel_rfl
@[go_sem] theorem fldT_25_3 : fldT Tryz.prog 25 3 = some (3, 3) := by kernel_rfl
@[go_sem] theorem fldT_25_4 : fldT Tryz.prog 25 4 = some (4, 22) := by kernel_rfl
@[go_sem] theorem fldT_25_5 : fldT Tryz.prog 25 5 = some (5, 23) := by kernel_rfl
@[go_sem] theorem fldT_31_0 : fldT Tryz.prog 31 0 = some (0, 3) := by kernel_rfl
@[go_sem] theorem fldT_31_1 : fldT Tryz.prog 31 1 = some (1, 2) := by kernel_rfl
@[go_sem] theorem fldT_31_2 : fldT Tryz.prog 31 2 = some (2, 2) := by kernel_rfl
@[go_sem] theorem fldT_31_3 : fldT Tryz.prog 31 3 = some (3, 27) := by kernel_rfl
@[go_sem] theorem fldT_31_4 : fldT Tryz.prog 31 4 = some (4, 28) := by kernel_rfl
@[go_sem] theorem fldT_31_5 : fldT Tryz.prog 31 5 = some (5, 29) := by kernel_rfl
@[go_sem] theorem fldT_40_0 : fldT Tryz.prog 40 0 = some (0, 3) := by kernel_rfl
@[go_sem] theorem fldT_40_1 : fldT Tryz.prog 40 1 = some (1, 3) := by kernel_rfl
@[go_sem] theorem fldT_40_2 : fldT Tryz.prog 40 2 = some (2, 3) := by kernel_rfl
@[go_sem] theorem fldT_40_3 : fldT Tryz.prog 40 3 = some (3, 37) := by kernel_rfl
@[go_sem] theorem fldT_40_4 : fldT Tryz.prog 40 4 = some (4, 3) := by kernel_rfl
@[go_sem] theorem fldT_40_5 : fldT Tryz.prog 40 5 = some (5, 38) := by kernel_rfl
@[go_sem] theorem fldT_58_0 : fldT Tryz.prog 58 0 = some (0, 3) := by kernel_rfl
@[go_sem] theorem fldT_58_1 : fldT Tryz.prog 58 1 = some (1, 3) := by kernel_rfl
@[go_sem] theorem fldT_58_2 : fldT Tryz.prog 58 2 = some (2, 38) := by kernel_rfl
@[go_sem] theorem fldT_72_0 : fldT Tryz.prog 72 0 = some (0, 9) := by kernel_rfl
@[go_sem] theorem fldT_72_1 : fldT Tryz.prog 72 1 = some (1, 38) := by kernel_rfl
@[go_sem] theorem fldT_74_0 : fldT Tryz.prog 74 0 = some (0, 9) := by kernel_rfl
@[go_sem] theorem fldT_74_1 : fldT Tryz.prog 74 1 = some (1, 31) := by kernel_rfl
@[go_sem] theorem fldT_78_0 : fldT Tryz.prog 78 0 = some (0, 38) := by kernel_rfl
@[go_sem] theorem fldT_95_0 : fldT Tryz.prog 95 0 = some (0, 38) := by kernel_rfl
@[go_sem] theorem fldT_95_1 : fldT Tryz.prog 95 1 = some (1, 3) := by kernel_rfl
@[go_sem] theorem fldT_95_2 : fldT Tryz.prog 95 2 = some (2, 3) := by kernel_rfl
@[go_sem] theorem fldT_95_3 : fldT Tryz.prog 95 3 = some (3, 4) := by kernel_rfl
@[go_sem] theorem fldT_98_0 : fldT Tryz.prog 98 0 = some (0, 38) := by kernel_rfl
@[go_sem] theorem fldT_98_1 : fldT Tryz.prog 98 1 = some (1, 3) := by kernel_rfl
@[go_sem] theorem fldT_98_2 : fldT Tryz.prog 98 2 = some (2, 3) := by kernel_rfl
@[go_sem] theorem fldT_113_0 : fldT Tryz.prog 113 0 = some (0, 3) := by kernel_rfl
@[go_sem] theorem fldT_121_0 : fldT Tryz.prog 121 0 = some (0, 38) := by kernel_rfl
@[go_sem] theorem fldT_121_1 : fldT Tryz.prog 121 1 = some (1, 3) := by kernel_rfl
@[go_sem] theorem fldT_121_2 : fldT Tryz.prog 121 2 = some (2, 3) := by kernel_rfl
@[go_sem] theorem fldT_121_3 : fldT Tryz.prog 121 3 = some (3, 34) := by kernel_rfl
@[go_sem] theorem fldT_133_0 : fldT Tryz.prog 133 0 = some (0, 2) := by kernel_rfl
@[go_sem] theorem fldT_133_1 : fldT Tryz.prog 133 1 = some (1, 27) := by kernel_rfl
@[go_sem] theorem fldT_133_2 : fldT Tryz.prog 133 2 = some (2, 130) := by kernel_rfl
@[go_sem] theorem fldT_133_3 : fldT Tryz.prog 133 3 = some (3, 131) := by kernel_rfl
@[go_sem] theorem fldT_157_0 : fldT Tryz.prog 157 0 = some (0, 27) := by kernel_rfl
@[go_sem] theorem fldT_157_1 : fldT Tryz.prog 157 1 = some (1, 9) := by kernel_rfl
@[go_sem] theorem fldT_163_0 : fldT Tryz.prog 163 0 = some (0, 161) := by kernel_rfl
@[go_sem] theorem fldT_163_1 : fldT Tryz.prog 163 1 = some (1, 9) := by kernel_rfl
@[go_sem] theorem fldT_165_0 : fldT Tryz.prog 165 0 = some (0, 3) := by kernel_rfl
@[go_sem] theorem fldT_165_1 : fldT Tryz.prog 165 1 = some (1, 2) := by kernel_rfl
@[go_sem] theorem fldT_196_0 : fldT Tryz.prog 196 0 = some (0, 193) := by kernel_rfl
@[go_sem] theorem fldT_196_1 : fldT Tryz.prog 196 1 = some (8, 38) := by kernel_rfl
@[go_sem] theorem fldT_196_2 : fldT Tryz.prog 196 2 = some (9, 3) := by kernel_rfl
@[go_sem] theorem intT_2 : intT Tryz.prog 2 = some IntKind.i64 := by kernel_rfl
@[go_sem] theorem intT_3 : intT Tryz.prog 3 = some IntKind.i64 := by kernel_rfl
@[go_sem] theorem intT_5 : intT Tryz.prog 5 = some IntKind.u8 := by kernel_rfl
@[go_sem] theorem intT_119 : intT Tryz.prog 119 = some IntKind.u64 := by kernel_rfl
@[go_sem] theorem intT_123 : intT Tryz.prog 123 = some IntKind.u64 := by kernel_rfl
@[go_sem] theorem intT_171 : intT Tryz.prog 171 = some IntKind.u32 := by kernel_rfl
@[go_sem] theorem nzT_2 : nzT Tryz.prog 2 = true := by kernel_rfl
@[go_sem] theorem nzT_3 : nzT Tryz.prog 3 = true := by kernel_rfl
@[go_sem] theorem nzT_4 : nzT Tryz.prog 4 = true := by kernel_rfl
@[go_sem] theorem nzT_9 : nzT Tryz.prog 9 = true := by kernel_rfl
@[go_sem] theorem nzT_22 : nzT Tryz.prog 22 = true := by kernel_rfl
@[go_sem] theorem nzT_23 : nzT Tryz.prog 23 = true := by kernel_rfl
@[go_sem] theorem nzT_27 : nzT Tryz.prog 27 = true := by kernel_rfl
@[go_sem] theorem nzT_28 : nzT Tryz.prog 28 = true := by kernel_rfl
@[go_sem] theorem nzT_29 : nzT Tryz.prog 29 = true := by kernel_rfl
@[go_sem] theorem nzT_31 : nzT Tryz.prog 31 = true := by kernel_rfl
@[go_sem] theorem nzT_34 : nzT Tryz.prog 34 = true := by kernel_rfl
@[go_sem] theorem nzT_37 : nzT Tryz.prog 37 = true := by kernel_rfl
@[go_sem] theorem nzT_38 : nzT Tryz.prog 38 = true := by kernel_rfl
@[go_sem] theorem nzT_130 : nzT Tryz.prog 130 = true := by kernel_rfl
@[go_sem] theorem nzT_131 : nzT Tryz.prog 131 = true := by kernel_rfl
@[go_sem] theorem nzT_161 : nzT Tryz.prog 161 = true := by kernel_rfl
@[go_sem] theorem nzT_193 : nzT Tryz.prog 193 = true := by kernel_rfl
@[go_sem] theorem plT_25_0 : plT Tryz.prog 25 0 = some (0, 1) := by kernel_rfl
@[go_sem] theorem plT_25_1 : plT Tryz.prog 25 1 = some (1, 1) := by kernel_rfl
@[go_sem] theorem plT_25_2 : plT Tryz.prog 25 2 = some (2, 1) := by kernel_rfl
@[go_sem] theorem plT_25_3 : plT Tryz.prog 25 3 = some (3, 1) := by kernel_rfl
@[go_sem] theorem plT_25_4 : plT Tryz.prog 25 4 = some (4, 1) := by kernel_rfl
@[go_sem] theorem plT_25_5 : plT Tryz.prog 25 5 = some (5, 1) := by kernel_rfl
@[go_sem] theorem plT_31_0 : plT Tryz.prog 31 0 = some (0, 1) := by kernel_rfl
@[go_sem] theorem plT_31_2 : plT Tryz.prog 31 2 = some (2, 1) := by kernel_rfl
@[go_sem] theorem plT_40_0 : plT Tryz.prog 40 0 = some (0, 1) := by kernel_rfl
@[go_sem] theorem plT_40_1 : plT Tryz.prog 40 1 = some (1, 1) := by kernel_rfl
@[go_sem] theorem plT_40_2 : plT Tryz.prog 40 2 = some (2, 1) := by kernel_rfl
@[go_sem] theorem plT_40_3 : plT Tryz.prog 40 3 = some (3, 1) := by kernel_rfl
@[go_sem] theorem plT_40_4 : plT Tryz.prog 40 4 = some (4, 1) := by kernel_rfl
@[go_sem] theorem plT_58_0 : plT Tryz.prog 58 0 = some (0, 1) := by kernel_rfl
@[go_sem] theorem plT_58_1 : plT Tryz.prog 58 1 = some (1, 1) := by kernel_rfl
@[go_sem] theorem plT_58_2 : plT Tryz.prog 58 2 = some (2, 1) := by kernel_rfl
@[go_sem] theorem plT_72_0 : plT Tryz.prog 72 0 = some (0, 1) := by kernel_rfl
@[go_sem] theorem plT_72_1 : plT Tryz.prog 72 1 = some (1, 1) := by kernel_rfl
@[go_sem] theorem plT_74_0 : plT Tryz.prog 74 0 = some (0, 1) := by kernel_rfl
@[go_sem] theorem plT_74_1 : plT Tryz.prog 74 1 = some (1, 6) := by kernel_rfl
@[go_sem] theorem plT_95_0 : plT Tryz.prog 95 0 = some (0, 1) := by kernel_rfl
@[go_sem] theorem plT_98_0 : plT Tryz.prog 98 0 = some (0, 1) := by kernel_rfl
@[go_sem] theorem plT_98_1 : plT Tryz.prog 98 1 = some (1, 1) := by kernel_rfl
@[go_sem] theorem plT_121_0 : plT Tryz.prog 121 0 = some (0, 1) := by kernel_rfl
@[go_sem] theorem plT_165_0 : plT Tryz.prog 165 0 = some (0, 1) := by kernel_rfl
@[go_sem] theorem plT_165_1 : plT Tryz.prog 165 1 = some (1, 1) := by kernel_rfl
@[go_sem] theorem plT_172_0 : plT Tryz.prog 172 0 = some (0, 1) := by kernel_rfl
@[go_sem] theorem plT_172_1 : plT Tryz.prog 172 1 = some (1, 1) := by kernel_rfl
@[go_sem] theorem plT_172_2 : plT Tryz.prog 172 2 = some (2, 1) := by kernel_rfl
@[go_sem] theorem plT_172_3 : plT Tryz.prog 172 3 = some (3, 1) := by kernel_rfl
@[go_sem] theorem plT_172_4 : plT Tryz.prog 172 4 = some (4, 1) := by kernel_rfl
@[go_sem] theorem plT_172_5 : plT Tryz.prog 172 5 = some (5, 1) := by kernel_rfl
@[go_sem] theorem plT_172_6 : plT Tryz.prog 172 6 = some (6, 1) := by kernel_rfl
@[go_sem] theorem plT_172_7 : plT Tryz.prog 172 7 = some (7, 1) := by kernel_rfl
@[go_sem] theorem plT_186_0 : plT Tryz.prog 186 0 = some (0, 1) := by kernel_rfl
@[go_sem] theorem plT_186_1 : plT Tryz.prog 186 1 = some (1, 1) := by kernel_rfl
@[go_sem] theorem plT_186_2 : plT Tryz.prog 186 2 = some (2, 1) := by kernel_rfl
@[go_sem] theorem plT_186_3 : plT Tryz.prog 186 3 = some (3, 1) := by kernel_rfl
@[go_sem] theorem plT_186_4 : plT Tryz.prog 186 4 = some (4, 1) := by kernel_rfl
@[go_sem] theorem plT_186_5 : plT Tryz.prog 186 5 = some (5, 1) := by kernel_rfl
@[go_sem] theorem plT_186_6 : plT Tryz.prog 186 6 = some (6, 1) := by kernel_rfl
@[go_sem] theorem plT_186_7 : plT Tryz.prog 186 7 = some (7, 1) := by kernel_rfl
@[go_sem] theorem plT_186_8 : plT Tryz.prog 186 8 = some (8, 1) := by kernel_rfl
@[go_sem] theorem plT_186_9 : plT Tryz.prog 186 9 = some (9, 1) := by kernel_rfl
@[go_sem] theorem plT_186_10 : plT Tryz.prog 186 10 = some (10, 1) := by kernel_rfl
@[go_sem] theorem plT_186_11 : plT Tryz.prog 186 11 = some (11, 1) := by kernel_rfl
@[go_sem] theorem plT_186_12 : plT Tryz.prog 186 12 = some (12, 1) := by kernel_rfl
@[go_sem] theorem plT_186_13 : plT Tryz.prog 186 13 = some (13, 1) := by kernel_rfl
@[go_sem] theorem plT_186_14 : plT Tryz.prog 186 14 = some (14, 1) := by kernel_rfl
@[go_sem] theorem plT_186_15 : plT Tryz.prog 186 15 = some (15, 1) := by kernel_rfl
@[go_sem] theorem plT_186_16 : plT Tryz.prog 186 16 = some (16, 1) := by kernel_rfl
@[go_sem] theorem plT_186_17 : plT Tryz.prog 186 17 = some (17, 1) := by kernel_rfl
@[go_sem] theorem plT_186_18 : plT Tryz.prog 186 18 = some (18, 1) := by kernel_rfl
@[go_sem] theorem plT_186_19 : plT Tryz.prog 186 19 = some (19, 1) := by kernel_rfl
@[go_sem] theorem plT_186_20 : plT Tryz.prog 186 20 = some (20, 1) := by kernel_rfl
@[go_sem] theorem plT_186_21 : plT Tryz.prog 186 21 = some (21, 1) := by kernel_rfl
@[go_sem] theorem plT_186_22 : plT Tryz.prog 186 22 = some (22, 1) := by kernel_rfl
@[go_sem] theorem plT_186_23 : plT Tryz.prog 186 23 = some (23, 1) := by kernel_rfl
@[go_sem] theorem plT_186_24 : plT Tryz.prog 186 24 = some (24, 1) := by kernel_rfl
@[go_sem] theorem plT_186_25 : plT Tryz.prog 186 25 = some (25, 1) := by kernel_rfl
@[go_sem] theorem plT_186_26 : plT Tryz.prog 186 26 = some (26, 1) := by kernel_rfl
@[go_sem] theorem plT_186_27 : plT Tryz.prog 186 27 = some (27, 1) := by kernel_rfl
@[go_sem] theorem plT_186_28 : plT Tryz.prog 186 28 = some (28, 1) := by kernel_rfl
@[go_sem] theorem plT_186_29 : plT Tryz.prog 186 29 = some (29, 1) := by kernel_rfl
@[go_sem] theorem plT_186_30 : plT Tryz.prog 186 30 = some (30, 1) := by kernel_rfl
@[go_sem] theorem plT_186_31 : plT Tryz.prog 186 31 = some (31, 1) := by kernel_rfl
@[go_sem] theorem plT_186_32 : plT Tryz.prog 186 32 = some (32, 1) := by kernel_rfl
@[go_sem] theorem plT_186_33 : plT Tryz.prog 186 33 = some (33, 1) := by kernel_rfl
@[go_sem] theorem plT_186_34 : plT Tryz.prog 186 34 = some (34, 1) := by kernel_rfl
@[go_sem] theorem plT_186_35 : plT Tryz.prog 186 35 = some (35, 1) := by kernel_rfl
@[go_sem] theorem plT_186_36 : plT Tryz.prog 186 36 = some (36, 1) := by kernel_rfl
@[go_sem] theorem plT_186_37 : plT Tryz.prog 186 37 = some (37, 1) := by kernel_rfl
@[go_sem] theorem plT_186_38 : plT Tryz.prog 186 38 = some (38, 1) := by kernel_rfl
@[go_sem] theorem plT_186_39 : plT Tryz.prog 186 39 = some (39, 1) := by kernel_rfl
@[go_sem] theorem plT_186_40 : plT Tryz.prog 186 40 = some (40, 1) := by kernel_rfl
@[go_sem] theorem plT_186_41 : plT Tryz.prog 186 41 = some (41, 1) := by kernel_rfl
@[go_sem] theorem plT_186_42 : plT Tryz.prog 186 42 = some (42, 1) := by kernel_rfl
@[go_sem] theorem plT_186_43 : plT Tryz.prog 186 43 = some (43, 1) := by kernel_rfl
@[go_sem] theorem plT_186_44 : plT Tryz.prog 186 44 = some (44, 1) := by kernel_rfl
@[go_sem] theorem plT_186_45 : plT Tryz.prog 186 45 = some (45, 1) := by kernel_rfl
@[go_sem] theorem plT_186_46 : plT Tryz.prog 186 46 = some (46, 1) := by kernel_rfl
@[go_sem] theorem plT_186_47 : plT Tryz.prog 186 47 = some (47, 1) := by kernel_rfl
@[go_sem] theorem plT_186_48 : plT Tryz.prog 186 48 = some (48, 1) := by kernel_rfl
@[go_sem] theorem plT_186_49 : plT Tryz.prog 186 49 = some (49, 1) := by kernel_rfl
@[go_sem] theorem plT_186_50 : plT Tryz.prog 186 50 = some (50, 1) := by kernel_rfl
@[go_sem] theorem plT_186_51 : plT Tryz.prog 186 51 = some (51, 1) := by kernel_rfl
@[go_sem] theorem plT_186_52 : plT Tryz.prog 186 52 = some (52, 1) := by kernel_rfl
@[go_sem] theorem plT_186_53 : plT Tryz.prog 186 53 = some (53, 1) := by kernel_rfl
@[go_sem] theorem plT_186_54 : plT Tryz.prog 186 54 = some (54, 1) := by kernel_rfl
@[go_sem] theorem plT_186_55 : plT Tryz.prog 186 55 = some (55, 1) := by kernel_rfl
@[go_sem] theorem plT_186_56 : plT Tryz.prog 186 56 = some (56, 1) := by kernel_rfl
@[go_sem] theorem plT_186_57 : plT Tryz.prog 186 57 = some (57, 1) := by kernel_rfl
@[go_sem] theorem plT_186_58 : plT Tryz.prog 186 58 = some (58, 1) := by kernel_rfl
@[go_sem] theorem plT_186_59 : plT Tryz.prog 186 59 = some (59, 1) := by kernel_rfl
@[go_sem] theorem plT_186_60 : plT Tryz.prog 186 60 = some (60, 1) := by kernel_rfl
@[go_sem] theorem plT_186_61 : plT Tryz.prog 186 61 = some (61, 1) := by kernel_rfl
@[go_sem] theorem plT_186_62 : plT Tryz.prog 186 62 = some (62, 1) := by kernel_rfl
@[go_sem] theorem plT_186_63 : plT Tryz.prog 186 63 = some (63, 1) := by kernel_rfl
@[go_sem] theorem plT_193_0 : plT Tryz.prog 193 0 = some (0, 1) := by kernel_rfl
@[go_sem] theorem plT_193_1 : plT Tryz.prog 193 1 = some (1, 1) := by kernel_rfl
@[go_sem] theorem plT_193_2 : plT Tryz.prog 193 2 = some (2, 1) := by kernel_rfl
@[go_sem] theorem plT_193_3 : plT Tryz.prog 193 3 = some (3, 1) := by kernel_rfl
@[go_sem] theorem plT_193_4 : plT Tryz.prog 193 4 = some (4, 1) := by kernel_rfl
@[go_sem] theorem plT_193_5 : plT Tryz.prog 193 5 = some (5, 1) := by kernel_rfl
@[go_sem] theorem plT_193_6 : plT Tryz.prog 193 6 = some (6, 1) := by kernel_rfl
@[go_sem] theorem plT_193_7 : plT Tryz.prog 193 7 = some (7, 1) := by kernel_rfl
@[go_sem] theorem plT_196_0 : plT Tryz.prog 196 0 = some (0, 8) := by kernel_rfl
@[go_sem] theorem slT_22 : slT Tryz.prog 22 = true := by kernel_rfl
@[go_sem] theorem slT_23 : slT Tryz.prog 23 = true := by kernel_rfl
@[go_sem] theorem slT_27 : slT Tryz.prog 27 = true := by kernel_rfl
@[go_sem] theorem slT_28 : slT Tryz.prog 28 = true := by kernel_rfl
@[go_sem] theorem slT_29 : slT Tryz.prog 29 = true := by kernel_rfl
@[go_sem] theorem slT_37 : slT Tryz.prog 37 = true := by kernel_rfl
@[go_sem] theorem slT_38 : slT Tryz.prog 38 = true := by kernel_rfl
@[go_sem] theorem slT_128 : slT Tryz.prog 128 = true := by kernel_rfl
@[go_sem] theorem slT_130 : slT Tryz.prog 130 = true := by kernel_rfl
@[go_sem] theorem slT_131 : slT Tryz.prog 131 = true := by kernel_rfl
@[go_sem] theorem slT_161 : slT Tryz.prog 161 = true := by kernel_rfl
@[go_sem] theorem slT_201 : slT Tryz.prog 201 = true := by kernel_rfl
@[go_sem] theorem strT_9 : strT Tryz.prog 9 = true := by kernel_rfl
@[go_sem] theorem szT_2 : szT Tryz.prog 2 = some 1 := by kernel_rfl
@[go_sem] theorem szT_3 : szT Tryz.prog 3 = some 1 := by kernel_rfl
@[go_sem] theorem szT_4 : szT Tryz.prog 4 = some 1 := by kernel_rfl
@[go_sem] theorem szT_5 : szT Tryz.prog 5 = some 1 := by kernel_rfl
@[go_sem] theorem szT_9 : szT Tryz.prog 9 = some 1 := by kernel_rfl
@[go_sem] theorem szT_22 : szT Tryz.prog 22 = some 1 := by kernel_rfl
@[go_sem] theorem szT_23 : szT Tryz.prog 23 = some 1 := by kernel_rfl
@[go_sem] theorem szT_25 : szT Tryz.prog 25 = some 6 := by kernel_rfl
@[go_sem] theorem szT_27 : szT Tryz.prog 27 = some 1 := by kernel_rfl
@[go_sem] theorem szT_28 : szT Tryz.prog 28 = some 1 := by kernel_rfl
@[go_sem] theorem szT_29 : szT Tryz.prog 29 = some 1 := by kernel_rfl
@[go_sem] theorem szT_31 : szT Tryz.prog 31 = some 6 := by kernel_rfl
@[go_sem] theorem szT_34 : szT Tryz.prog 34 = some 1 := by kernel_rfl
@[go_sem] theorem szT_37 : szT Tryz.prog 37 = some 1 := by kernel_rfl
@[go_sem] theorem szT_38 : szT Tryz.prog 38 = some 1 := by kernel_rfl
@[go_sem] theorem szT_40 : szT Tryz.prog 40 = some 6 := by kernel_rfl
@[go_sem] theorem szT_58 : szT Tryz.prog 58 = some 3 := by kernel_rfl
@[go_sem] theorem szT_72 : szT Tryz.prog 72 = some 2 := by kernel_rfl
@[go_sem] theorem szT_74 : szT Tryz.prog 74 = some 7 := by kernel_rfl
@[go_sem] theorem szT_113 : szT Tryz.prog 113 = some 1 := by kernel_rfl
@[go_sem] theorem szT_130 : szT Tryz.prog 130 = some 1 := by kernel_rfl
@[go_sem] theorem szT_131 : szT Tryz.prog 131 = some 1 := by kernel_rfl
@[go_sem] theorem szT_133 : szT Tryz.prog 133 = some 4 := by kernel_rfl
@[go_sem] theorem szT_147 : szT Tryz.prog 147 = some 64 := by kernel_rfl
@[go_sem] theorem szT_157 : szT Tryz.prog 157 = some 2 := by kernel_rfl
@[go_sem] theorem szT_161 : szT Tryz.prog 161 = some 1 := by kernel_rfl
@[go_sem] theorem szT_163 : szT Tryz.prog 163 = some 2 := by kernel_rfl
@[go_sem] theorem szT_165 : szT Tryz.prog 165 = some 2 := by kernel_rfl
@[go_sem] theorem szT_171 : szT Tryz.prog 171 = some 1 := by kernel_rfl
@[go_sem] theorem szT_172 : szT Tryz.prog 172 = some 8 := by kernel_rfl
@[go_sem] theorem szT_186 : szT Tryz.prog 186 = some 64 := by kernel_rfl
@[go_sem] theorem szT_193 : szT Tryz.prog 193 = some 8 := by kernel_rfl
@[go_sem] theorem zeroD_25 : zeroD Tryz.prog 25 = some [D.v (Value.int IntKind.i64 (0)), D.v (Value.int IntKind.i64 (0)), D.v (Value.slice none 0 0), D.v (Value.int IntKind.i64 (0)), D.v (Value.slice none 0 0), D.v (Value.slice none 0 0)] := by kernel_rfl
@[go_sem] theorem zeroD_31 : zeroD Tryz.prog 31 = some [D.v (Value.int IntKind.i64 (0)), D.v (Value.int IntKind.i64 (0)), D.v (Value.int IntKind.i64 (0)), D.v (Value.slice none 0 0), D.v (Value.slice none 0 0), D.v (Value.slice none 0 0)] := by kernel_rfl
@[go_sem] theorem zeroD_40 : zeroD Tryz.prog 40 = some [D.v (Value.int IntKind.i64 (0)), D.v (Value.int IntKind.i64 (0)), D.v (Value.int IntKind.i64 (0)), D.v (Value.slice none 0 0), D.v (Value.int IntKind.i64 (0)), D.v (Value.slice none 0 0)] := by kernel_rfl
@[go_sem] theorem zeroD_58 : zeroD Tryz.prog 58 = some [D.v (Value.int IntKind.i64 (0)), D.v (Value.int IntKind.i64 (0)), D.v (Value.slice none 0 0)] := by kernel_rfl
@[go_sem] theorem zeroD_72 : zeroD Tryz.prog 72 = some [D.v (Value.string { data := { toList := [] } }), D.v (Value.slice none 0 0)] := by kernel_rfl
@[go_sem] theorem zeroD_74 : zeroD Tryz.prog 74 = some [D.v (Value.string { data := { toList := [] } }), D.v (Value.int IntKind.i64 (0)), D.v (Value.int IntKind.i64 (0)), D.v (Value.int IntKind.i64 (0)), D.v (Value.slice none 0 0), D.v (Value.slice none 0 0), D.v (Value.slice none 0 0)] := by kernel_rfl
@[go_sem] theorem zeroD_78 : zeroD Tryz.prog 78 = some [D.v (Value.slice none 0 0)] := by kernel_rfl
@[go_sem] theorem zeroD_95 : zeroD Tryz.prog 95 = some [D.v (Value.slice none 0 0), D.v (Value.int IntKind.i64 (0)), D.v (Value.int IntKind.i64 (0)), D.v (Value.bool false)] := by kernel_rfl
@[go_sem] theorem zeroD_98 : zeroD Tryz.prog 98 = some [D.v (Value.slice none 0 0), D.v (Value.int IntKind.i64 (0)), D.v (Value.int IntKind.i64 (0))] := by kernel_rfl
@[go_sem] theorem zeroD_113 : zeroD Tryz.prog 113 = some [D.v (Value.int IntKind.i64 (0))] := by kernel_rfl
@[go_sem] theorem zeroD_121 : zeroD Tryz.prog 121 = some [D.v (Value.slice none 0 0), D.v (Value.int IntKind.i64 (0)), D.v (Value.int IntKind.i64 (0)), D.v (Value.int IntKind.i64 (0))] := by kernel_rfl
@[go_sem] theorem zeroD_133 : zeroD Tryz.prog 133 = some [D.v (Value.int IntKind.i64 (0)), D.v (Value.slice none 0 0), D.v (Value.slice none 0 0), D.v (Value.slice none 0 0)] := by kernel_rfl
@[go_sem] theorem zeroD_147 : zeroD Tryz.prog 147 = some [D.v (Value.int IntKind.u8 (0)), D.v (Value.int IntKind.u8 (0)), D.v (Value.int IntKind.u8 (0)), D.v (Value.int IntKind.u8 (0)), D.v (Value.int IntKind.u8 (0)), D.v (Value.int IntKind.u8 (0)), D.v (Value.int IntKind.u8 (0)), D.v (Value.int IntKind.u8 (0)), D.v (Value.int IntKind.u8 (0)), D.v (Value.int IntKind.u8 (0)), D.v (Value.int IntKind.u8 (0)), D.v (Value.int IntKind.u8 (0)), D.v (Value.int IntKind.u8 (0)), D.v (Value.int IntKind.u8 (0)), D.v (Value.int IntKind.u8 (0)), D.v (Value.int IntKind.u8 (0)), D.v (Value.int IntKind.u8 (0)), D.v (Value.int IntKind.u8 (0)), D.v (Value.int IntKind.u8 (0)), D.v (Value.int IntKind.u8 (0)), D.v (Value.int IntKind.u8 (0)), D.v (Value.int IntKind.u8 (0)), D.v (Value.int IntKind.u8 (0)), D.v (Value.int IntKind.u8 (0)), D.v (Value.int IntKind.u8 (0)), D.v (Value.int IntKind.u8 (0)), D.v (Value.int IntKind.u8 (0)), D.v (Value.int IntKind.u8 (0)), D.v (Value.int IntKind.u8 (0)), D.v (Value.int IntKind.u8 (0)), D.v (Value.int IntKind.u8 (0)), D.v (Value.int IntKind.u8 (0)), D.v (Value.int IntKind.u8 (0)), D.v (Value.int IntKind.u8 (0)), D.v (Value.int IntKind.u8 (0)), D.v (Value.int IntKind.u8 (0)), D.v (Value.int IntKind.u8 (0)), D.v (Value.int IntKind.u8 (0)), D.v (Value.int IntKind.u8 (0)), D.v (Value.int IntKind.u8 (0)), D.v (Value.int IntKind.u8 (0)), D.v (Value.int IntKind.u8 (0)), D.v (Value.int IntKind.u8 (0)), D.v (Value.int IntKind.u8 (0)), D.v (Value.int IntKind.u8 (0)), D.v (Value.int IntKind.u8 (0)), D.v (Value.int IntKind.u8 (0)), D.v (Value.int IntKind.u8 (0)), D.v (Value.int IntKind.u8 (0)), D.v (Value.int IntKind.u8 (0)), D.v (Value.int IntKind.u8 (0)), D.v (Value.int IntKind.u8 (0)), D.v (Value.int IntKind.u8 (0)), D.v (Value.int IntKind.u8 (0)), D.v (Value.int IntKind.u8 (0)), D.v (Value.int IntKind.u8 (0)), D.v (Value.int IntKind.u8 (0)), D.v (Value.int IntKind.u8 (0)), D.v (Value.int IntKind.u8 (0)), D.v (Value.int IntKind.u8 (0)), D.v (Value.int IntKind.u8 (0)), D.v (Value.int IntKind.u8 (0)), D.v (Value.int IntKind.u8 (0)), D.v (Value.int IntKind.u8 (0))] := by kernel_rfl
@[go_sem] theorem zeroD_157 : zeroD Tryz.prog 157 = some [D.v (Value.slice none 0 0), D.v (Value.string { data := { toList := [] } })] := by kernel_rfl
@[go_sem] theorem zeroD_163 : zeroD Tryz.prog 163 = some [D.v (Value.slice none 0 0), D.v (Value.string { data := { toList := [] } })] := by kernel_rfl
@[go_sem] theorem zeroD_165 : zeroD Tryz.prog 165 = some [D.v (Value.int IntKind.i64 (0)), D.v (Value.int IntKind.i64 (0))] := by kernel_rfl
@[go_sem] theorem zeroD_172 : zeroD Tryz.prog 172 = some [D.v (Value.int IntKind.u32 (0)), D.v (Value.int IntKind.u32 (0)), D.v (Value.int IntKind.u32 (0)), D.v (Value.int IntKind.u32 (0)), D.v (Value.int IntKind.u32 (0)), D.v (Value.int IntKind.u32 (0)), D.v (Value.int IntKind.u32 (0)), D.v (Value.int IntKind.u32 (0))] := by kernel_rfl
@[go_sem] theorem zeroD_186 : zeroD Tryz.prog 186 = some [D.v (Value.int IntKind.u32 (0)), D.v (Value.int IntKind.u32 (0)), D.v (Value.int IntKind.u32 (0)), D.v (Value.int IntKind.u32 (0)), D.v (Value.int IntKind.u32 (0)), D.v (Value.int IntKind.u32 (0)), D.v (Value.int IntKind.u32 (0)), D.v (Value.int IntKind.u32 (0)), D.v (Value.int IntKind.u32 (0)), D.v (Value.int IntKind.u32 (0)), D.v (Value.int IntKind.u32 (0)), D.v (Value.int IntKind.u32 (0)), D.v (Value.int IntKind.u32 (0)), D.v (Value.int IntKind.u32 (0)), D.v (Value.int IntKind.u32 (0)), D.v (Value.int IntKind.u32 (0)), D.v (Value.int IntKind.u32 (0)), D.v (Value.int IntKind.u32 (0)), D.v (Value.int IntKind.u32 (0)), D.v (Value.int IntKind.u32 (0)), D.v (Value.int IntKind.u32 (0)), D.v (Value.int IntKind.u32 (0)), D.v (Value.int IntKind.u32 (0)), D.v (Value.int IntKind.u32 (0)), D.v (Value.int IntKind.u32 (0)), D.v (Value.int IntKind.u32 (0)), D.v (Value.int IntKind.u32 (0)), D.v (Value.int IntKind.u32 (0)), D.v (Value.int IntKind.u32 (0)), D.v (Value.int IntKind.u32 (0)), D.v (Value.int IntKind.u32 (0)), D.v (Value.int IntKind.u32 (0)), D.v (Value.int IntKind.u32 (0)), D.v (Value.int IntKind.u32 (0)), D.v (Value.int IntKind.u32 (0)), D.v (Value.int IntKind.u32 (0)), D.v (Value.int IntKind.u32 (0)), D.v (Value.int IntKind.u32 (0)), D.v (Value.int IntKind.u32 (0)), D.v (Value.int IntKind.u32 (0)), D.v (Value.int IntKind.u32 (0)), D.v (Value.int IntKind.u32 (0)), D.v (Value.int IntKind.u32 (0)), D.v (Value.int IntKind.u32 (0)), D.v (Value.int IntKind.u32 (0)), D.v (Value.int IntKind.u32 (0)), D.v (Value.int IntKind.u32 (0)), D.v (Value.int IntKind.u32 (0)), D.v (Value.int IntKind.u32 (0)), D.v (Value.int IntKind.u32 (0)), D.v (Value.int IntKind.u32 (0)), D.v (Value.int IntKind.u32 (0)), D.v (Value.int IntKind.u32 (0)), D.v (Value.int IntKind.u32 (0)), D.v (Value.int IntKind.u32 (0)), D.v (Value.int IntKind.u32 (0)), D.v (Value.int IntKind.u32 (0)), D.v (Value.int IntKind.u32 (0)), D.v (Value.int IntKind.u32 (0)), D.v (Value.int IntKind.u32 (0)), D.v (Value.int IntKind.u32 (0)), D.v (Value.int IntKind.u32 (0)), D.v (Value.int IntKind.u32 (0)), D.v (Value.int IntKind.u32 (0))] := by kernel_rfl
@[go_sem] theorem zeroD_193 : zeroD Tryz.prog 193 = some [D.v (Value.int IntKind.u32 (0)), D.v (Value.int IntKind.u32 (0)), D.v (Value.int IntKind.u32 (0)), D.v (Value.int IntKind.u32 (0)), D.v (Value.int IntKind.u32 (0)), D.v (Value.int IntKind.u32 (0)), D.v (Value.int IntKind.u32 (0)), D.v (Value.int IntKind.u32 (0))] := by kernel_rfl
@[go_sem] theorem zeroD_196 : zeroD Tryz.prog 196 = some [D.v (Value.int IntKind.u32 (0)), D.v (Value.int IntKind.u32 (0)), D.v (Value.int IntKind.u32 (0)), D.v (Value.int IntKind.u32 (0)), D.v (Value.int IntKind.u32 (0)), D.v (Value.int IntKind.u32 (0)), D.v (Value.int IntKind.u32 (0)), D.v (Value.int IntKind.u32 (0)), D.v (Value.slice none 0 0), D.v (Value.int IntKind.i64 (0))] := by kernel_rfl
theorem ent_3 : entB Tryz.prog 3 = true := by kernel_rfl
theorem ent_11 : entB Tryz.prog 11 = true := by kernel_rfl
theorem ent_12 : entB Tryz.prog 12 = true := by kernel_rfl
theorem ent_13 : entB Tryz.prog 13 = true := by kernel_rfl
theorem ent_14 : entB Tryz.prog 14 = true := by kernel_rfl
theorem ent_15 : entB Tryz.prog 15 = true := by kernel_rfl
theorem ent_17 : entB Tryz.prog 17 = true := by kernel_rfl
theorem ent_18 : entB Tryz.prog 18 = true := by kernel_rfl
theorem ent_21 : entB Tryz.prog 21 = true := by kernel_rfl
theorem ent_24 : entB Tryz.prog 24 = true := by kernel_rfl
theorem ent_25 : entB Tryz.prog 25 = true := by kernel_rfl
theorem ent_27 : entB Tryz.prog 27 = true := by kernel_rfl
theorem ent_28 : entB Tryz.prog 28 = true := by kernel_rfl
theorem ent_30 : entB Tryz.prog 30 = true := by kernel_rfl
theorem ent_32 : entB Tryz.prog 32 = true := by kernel_rfl
theorem ent_36 : entB Tryz.prog 36 = true := by kernel_rfl
theorem ent_37 : entB Tryz.prog 37 = true := by kernel_rfl
theorem ent_38 : entB Tryz.prog 38 = true := by kernel_rfl
theorem ent_39 : entB Tryz.prog 39 = true := by kernel_rfl
theorem ent_40 : entB Tryz.prog 40 = true := by kernel_rfl
theorem ent_41 : entB Tryz.prog 41 = true := by kernel_rfl
theorem ent_42 : entB Tryz.prog 42 = true := by kernel_rfl
theorem ent_44 : entB Tryz.prog 44 = true := by kernel_rfl
theorem ent_45 : entB Tryz.prog 45 = true := by kernel_rfl
theorem ent_46 : entB Tryz.prog 46 = true := by kernel_rfl
theorem ent_47 : entB Tryz.prog 47 = true := by kernel_rfl
theorem ent_48 : entB Tryz.prog 48 = true := by kernel_rfl
theorem ent_49 : entB Tryz.prog 49 = true := by kernel_rfl
theorem ent_50 : entB Tryz.prog 50 = true := by kernel_rfl
theorem ent_51 : entB Tryz.prog 51 = true := by kernel_rfl
theorem ent_52 : entB Tryz.prog 52 = true := by kernel_rfl
theorem ent_55 : entB Tryz.prog 55 = true := by kernel_rfl
theorem ent_59 : entB Tryz.prog 59 = true := by kernel_rfl
theorem ent_60 : entB Tryz.prog 60 = true := by kernel_rfl
theorem ent_61 : entB Tryz.prog 61 = true := by kernel_rfl
theorem ent_62 : entB Tryz.prog 62 = true := by kernel_rfl
theorem ent_63 : entB Tryz.prog 63 = true := by kernel_rfl
theorem ent_64 : entB Tryz.prog 64 = true := by kernel_rfl
theorem ent_65 : entB Tryz.prog 65 = true := by kernel_rfl
theorem ent_68 : entB Tryz.prog 68 = true := by kernel_rfl
theorem ent_69 : entB Tryz.prog 69 = true := by kernel_rfl
theorem ent_70 : entB Tryz.prog 70 = true := by kernel_rfl
theorem ent_71 : entB Tryz.prog 71 = true := by kernel_rfl
theorem ent_72 : entB Tryz.prog 72 = true := by kernel_rfl
theorem ent_73 : entB Tryz.prog 73 = true := by kernel_rfl
theorem ent_76 : entB Tryz.prog 76 = true := by kernel_rfl
theorem ent_77 : entB Tryz.prog 77 = true := by kernel_rfl
theorem ent_78 : entB Tryz.prog 78 = true := by kernel_rfl
theorem ent_79 : entB Tryz.prog 79 = true := by kernel_rfl
theorem ent_80 : entB Tryz.prog 80 = true := by kernel_rfl
theorem ent_81 : entB Tryz.prog 81 = true := by kernel_rfl
theorem ent_82 : entB Tryz.prog 82 = true := by kernel_rfl
theorem ent_83 : entB Tryz.prog 83 = true := by kernel_rfl
theorem ent_84 : entB Tryz.prog 84 = true := by kernel_rfl
theorem ent_91 : entB Tryz.prog 91 = true := by kernel_rfl
theorem ent_92 : entB Tryz.prog 92 = true := by kernel_rfl
theorem ent_93 : entB Tryz.prog 93 = true := by kernel_rfl
theorem ent_94 : entB Tryz.prog 94 = true := by kernel_rfl
theorem ent_95 : entB Tryz.prog 95 = true := by kernel_rfl
theorem ent_96 : entB Tryz.prog 96 = true := by kernel_rfl
theorem ent_99 : entB Tryz.prog 99 = true := by kernel_rfl
theorem ent_100 : entB Tryz.prog 100 = true := by kernel_rfl
theorem ent_103 : entB Tryz.prog 103 = true := by kernel_rfl
theorem ent_104 : entB Tryz.prog 104 = true := by kernel_rfl
theorem ent_105 : entB Tryz.prog 105 = true := by kernel_rfl
theorem ent_106 : entB Tryz.prog 106 = true := by kernel_rfl
theorem ent_107 : entB Tryz.prog 107 = true := by kernel_rfl
theorem ent_108 : entB Tryz.prog 108 = true := by kernel_rfl
theorem ent_115 : entB Tryz.prog 115 = true := by kernel_rfl
theorem ent_116 : entB Tryz.prog 116 = true := by kernel_rfl
theorem ent_124 : entB Tryz.prog 124 = true := by kernel_rfl
theorem ent_125 : entB Tryz.prog 125 = true := by kernel_rfl
theorem ent_126 : entB Tryz.prog 126 = true := by kernel_rfl
theorem ent_127 : entB Tryz.prog 127 = true := by kernel_rfl
theorem ent_128 : entB Tryz.prog 128 = true := by kernel_rfl
theorem ent_129 : entB Tryz.prog 129 = true := by kernel_rfl
theorem ent_130 : entB Tryz.prog 130 = true := by kernel_rfl
theorem ent_131 : entB Tryz.prog 131 = true := by kernel_rfl
theorem ent_132 : entB Tryz.prog 132 = true := by kernel_rfl
theorem ent_141 : entB Tryz.prog 141 = true := by kernel_rfl
theorem ent_150 : entB Tryz.prog 150 = true := by kernel_rfl
theorem ent_151 : entB Tryz.prog 151 = true := by kernel_rfl
theorem ent_152 : entB Tryz.prog 152 = true := by kernel_rfl
theorem ent_161 : entB Tryz.prog 161 = true := by kernel_rfl
theorem ent_162 : entB Tryz.prog 162 = true := by kernel_rfl
theorem ent_163 : entB Tryz.prog 163 = true := by kernel_rfl
theorem ent_181 : entB Tryz.prog 181 = true := by kernel_rfl
theorem ent_182 : entB Tryz.prog 182 = true := by kernel_rfl
theorem ent_190 : entB Tryz.prog 190 = true := by kernel_rfl
theorem mixd : Tryz.prog.follows .mixedOrders = true := by kernel_rfl
end
end Go.Proofs.YtgkjcmglcnhpaaaGreatDoor
