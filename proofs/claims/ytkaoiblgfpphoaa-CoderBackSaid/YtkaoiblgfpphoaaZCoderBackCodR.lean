/- The document's encoder, and the program's: the same bytes. -/
import Derived.Test.YtkaoiblgfpphoaaZCoderBackCod
import Derived.Test.YtkaoiblgfpphoaaZCoderBackM1
import Derived.Test.YtkaoiblgfpphoaaZCoderBackM2
namespace Go.Proofs.Ytkaoiblgfpphoaa.Cod
open Go.RowKit Go.Proofs.YtkaoiblgfpphoaaW.PrintWords Go.Proofs.Ytkaoiblgfpphoaa.Prt Go.Proofs.Ytkaoiblgfpphoaa.Val
set_option linter.unusedVariables false

theorem mOf_least {r : Int} (h : 256 ≤ r) : ∀ j, j < mOf r → r * pw j < 16777216 := by
  have e1 : pw 1 = 256 := rfl
  have e0 : pw 0 = 1 := rfl
  unfold mOf
  intro j hj
  split at hj
  · rcases (show j = 0 ∨ j = 1 by omega) with rfl | rfl
    · rw [e0]; omega
    · rw [e1]; omega
  · split at hj
    · obtain rfl : j = 0 := by omega
      rw [e0]; omega
    · omega
theorem num_val (lo : Int) (out : List Int) (h0 : 0 ≤ lo) (h1 : lo ≤ 4294967295) : val (out ++ four lo) = num lo out := by
  rw [val_append, four_val h0 (by omega), four_length]
  rfl
theorem finish_ok {lo rg : Int} {out : List Int} (h : EOk lo rg out) : coder_Finish.f lo rg out = some (out ++ four lo) := by
  unfold coder_Finish.f
  rw [own_ok h]
  simp only [Option.bind_some]
  rw [if_pos (by have := h.2.2.2.2.2; simp; omega)]
  rfl
theorem knows_k : ∀ k, 100 ≤ k → psalterylaw05_knows.f k = some true := fun k hk => at_rounds psalterylaw05_knows.mono hk (by decide +kernel)
end Go.Proofs.Ytkaoiblgfpphoaa.Cod
