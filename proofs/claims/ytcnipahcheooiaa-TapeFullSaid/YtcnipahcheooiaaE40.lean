/-
  What a call leaves as it was.
-/
import Derived.Test.YtcnipahcheooiaaE30
import Derived.ProofKit
namespace Go.Ev
open Go
set_option linter.unusedSectionVars false
set_option linter.unusedSimpArgs false
set_option linter.unusedVariables false

theorem Grow.grown {w w' : World} {X : Nat → Prop} (h : Grow w X w') (hX : ∀ k, k < w.heap.size → ¬ X k) : RowKit.Grown w w' := by
  refine ⟨⟨h.os, h.output, fun i hi => ?_⟩, h.froz, h.size⟩
  rw [h.same i hi (hX i hi)]
  cases hw : w.heap[i]? with
  | none => rfl
  | some o => cases o <;> first | exact ⟨rfl, rfl, rfl, fun _ _ => rfl⟩ | exact .inr ⟨rfl, rfl⟩ | rfl

end Go.Ev
