/- Worlds that only grew: draws and new blocks. -/
import Derived.Test.YtaeleagkpgbmaaaGreatDoorMem
import Derived.Shelf.SlSortCmp.Kit1
namespace Go.Proofs.YtaeleagkpgbmaaaGreatDoor
open Go.RowKit Go.Sort
set_option linter.unusedSimpArgs false
set_option linter.unusedVariables false

/-- draws and new blocks, nothing else -/
def Grw (w w' : World) : Prop := ∃ q os, w' = grow (w.drewN q) os
theorem Grw.refl (w : World) : Grw w w := ⟨0, #[], by rw [grow_empty]; rfl⟩
theorem Grw.drewN (w : World) (q : Nat) : Grw w (w.drewN q) := ⟨q, #[], by rw [grow_empty]⟩
theorem Grw.alloc (w : World) (o : Obj) : Grw w (w.alloc o) := ⟨0, #[o], by simp [grow, World.drewN]⟩
theorem Grw.trans {a b c : World} (h : Grw a b) (k : Grw b c) : Grw a c := by
  obtain ⟨q, os, rfl⟩ := h
  obtain ⟨q', os', rfl⟩ := k
  refine ⟨q + q', os ++ os', ?_⟩
  have e : (grow (a.drewN q) os).drewN q' = grow (a.drewN (q + q')) os := by simp [grow, World.drewN, Nat.add_assoc]
  rw [e, grow_grow]
theorem Grw.ext {w w' : World} (h : Grw w w') : Ext w w' := by
  obtain ⟨q, os, rfl⟩ := h
  refine ⟨rfl, rfl, rfl, ?_, fun k hk => ?_⟩
  · simp [grow, World.drewN]
  · simp [grow, World.drewN, Array.getElem?_append, hk]
end Go.Proofs.YtaeleagkpgbmaaaGreatDoor
