/-
  What the statements of the chapter share, part 26: TB.
-/
import Derived.Test.YtgkjcmglcnhpaaaGreatDoorCards
import Derived.Test.YtgkjcmglcnhpaaaGreatDoorG25
import Derived.Lib.LaidTab
set_option linter.unusedVariables false
set_option linter.unusedSimpArgs false
set_option maxRecDepth 100000
set_option maxHeartbeats 8000000
namespace Go.Proofs.YtgkjcmglcnhpaaaGreatDoor
open Go.RowKit
section
def tabG (g : Nat) : D := if g = 1 then .rp (shaK.map zD) else .any
theorem tabG_low : ∀ g, low 0 (tabG g) := fun g => by
 unfold tabG
 split
 · rw [low, lowL_iff]
   intro d hd
   obtain ⟨z, _, rfl⟩ := List.mem_map.1 hd
   rw [zD, low]; trivial
 · rw [low]; trivial
theorem tabG_K : tabG 1 = .rp (shaK.map zD) := by unfold tabG; rw [if_pos rfl]
theorem sha_named : Program.globalNamed Tryz.prog "plexus/sha256.constants" = some 1 := by kernel_rfl
def TabC (w : World) : Prop := Lib.TabIs Tryz.prog w "plexus/sha256.constants" .u32 shaK
theorem ok_of_tab {w : World} (ht : TabC w) : Ok tabG w [] [] (fun k => decide (k < w.heap.size)) := by
 unfold TabC Lib.TabIs World.var? at ht
 rw [sha_named] at ht
 simp only [Option.bind_some] at ht
 split at ht
 rotate_left
 · cases ht
 rename_i cs t fr h1
 cases ht
 have hlt : 1 < w.heap.size := by
  rcases Nat.lt_or_ge 1 w.heap.size with h' | h'
  · exact h'
  · rw [Array.getElem?_eq_none h'] at h1; cases h1
 refine ⟨rfl, fun i ob u q => by simp at q, fun i j oi oj ui uj b q => by simp at q, fun g => ?_, fun g ds q => ?_⟩
 · unfold tabG
   split
   · rename_i e; subst e
     rw [rd]
     refine ⟨_, _, rfl, (rdAt_iff _ _ _).2 fun j d hd => ?_⟩
     rw [List.getElem?_map, Option.map_eq_some_iff] at hd
     obtain ⟨z, hz, rfl⟩ := hd
     refine ⟨_, ?_, rd_v.2 rfl⟩
     rw [only_cell, if_pos (by simpa using hlt)]
     simp [World.cell?, h1, hz]
   · rw [rd]; trivial
 · unfold tabG at q
   split at q
   · rename_i e; subst e; cases q
     exact ⟨_, _, _, h1, by simp, by simpa using hlt⟩
   · cases q
theorem tab_of {W : World} (h : laidMetH Tryz.prog [("plexus/sha256.constants", Rows.laid_plexus_sha256_constants)] W) : TabC W := by
 have h3 : laidMet Tryz.prog [("plexus/sha256.constants", Rows.laid_plexus_sha256_constants)] W := by
  have e3 : (Rows.laid_plexus_sha256_constants (H := Unit)).handleName? = none := rfl
  unfold laidMetH at h
  simpa [List.filter, e3] using h
 exact Lib.tabIs_of_head (rest := []) (g := 1) sha_named (by kernel_rfl) Tryz.underlying186 Tryz.underlying171 (by kernel_rfl) (by kernel_rfl) h3
end
end Go.Proofs.YtgkjcmglcnhpaaaGreatDoor
