/-
  What the statements of the chapter share, part 22: RWT.
-/
import Derived.Test.YtgkjcmglcnhpaaaGreatDoorT21
import Derived.SizedLaws
set_option linter.unusedVariables false
set_option linter.unusedSimpArgs false
set_option maxRecDepth 100000
set_option maxHeartbeats 8000000
namespace Go.Proofs.YtgkjcmglcnhpaaaGreatDoor
open Go.RowKit
section
theorem arg_bytesN {H : Type} {enc : TypeId × Value → H} {W : World} {v : Value} {d : DataW H} {p : List MemPlace} (h : DataW.Trod enc Tryz.prog W 0 (fun _ => true) true 38 v d p) (hv : ∃ a n c, v = .slice a n c) : ∃ l : List UInt8, rd [] [] W (.sl 1 (byD l)) v ∧ (l = [] ∨ ∃ es rest, d = .slice es rest ∧ l.length = es.length) := by
 obtain ⟨l, hl⟩ := arg_bytes h hv
 refine ⟨l, hl, ?_⟩
 obtain ⟨a, n, c, rfl⟩ := hv
 obtain ⟨fuel, hf⟩ := h
 rw [rd] at hl
 obtain ⟨a', c', e, _⟩ := hl
 injection e with _ e _
 rw [byD_len] at e
 rcases DataW.trod_slice Tryz.underlying38 hf with ⟨h1, _⟩ | ⟨b, len, cap, elems, rest, m, _, h1, h2, _, _, _, h3, _⟩
 · left
   have h1 : Value.slice a n c = .slice none 0 0 := by simpa [Value.cells] using h1
   injection h1 with _ h1 _
   exact List.length_eq_zero_iff.1 (by omega)
 · right
   have h1 : Value.slice a n c = .slice (some b) len cap := by simpa [Value.cells] using h1
   injection h1 with _ h1 _
   refine ⟨_, _, congrArg Prod.fst h2, ?_⟩
   rw [List.length_map]; omega
theorem bytes_u8 : Tryz.prog.bytesOf 5 = 1 := by kernel_rfl
end
end Go.Proofs.YtgkjcmglcnhpaaaGreatDoor
