/- The document's encoder, and the program's: the same bytes. -/
import Derived.Test.YtkaoiblgfpphoaaZGainTakesCod
import Derived.Test.YtkaoiblgfpphoaaZGainTakesM3
namespace Go.Proofs.Ytkaoiblgfpphoaa.Cod
open Go.RowKit Go.Proofs.YtkaoiblgfpphoaaW.PrintWords Go.Proofs.Ytkaoiblgfpphoaa.Prt Go.Proofs.Ytkaoiblgfpphoaa.Val
set_option linter.unusedVariables false

theorem mOf_least {r : Int} (h : 256 ≤ r) : ∀ j, j < mOf r → r * pw j < 16777216 := by
  have e1 : pw 1 = 256 := rfl
  have e0 : pw 0 = 1 := rfl
  unfold mOf
  intro j hj
  split at hj
  · rcases (show j = 0 ∨ j = 1 by omega) with rfl | rfl
    · rw [e0]; omega
    · rw [e1]; omega
  · split at hj
    · obtain rfl : j = 0 := by omega
      rw [e0]; omega
    · omega
end Go.Proofs.Ytkaoiblgfpphoaa.Cod
