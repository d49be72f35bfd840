/- The document's logarithm. -/
import Derived.Test.YtkaoiblgfpphoaaZCoderShortVal
import Derived.Test.YtkaoiblgfpphoaaZCoderShortM2
namespace Go.Proofs.Ytkaoiblgfpphoaa.Cod
open Go.RowKit Go.Proofs.YtkaoiblgfpphoaaW.PrintWords Go.Proofs.Ytkaoiblgfpphoaa.Prt Go.Proofs.Ytkaoiblgfpphoaa.Val
set_option linter.unusedVariables false
theorem log2_f : ∀ (d : Nat) (x : Int) (k : Nat), 0 ≤ x → x < 2 ^ d → d ≤ 64 → d < k → ∃ t : Nat, psalteryref03_Log2.f k x = some ((t : Int) - 1) ∧ t ≤ d ∧ x < 2 ^ t ∧ (0 < t → 2 ^ (t - 1) ≤ x)
  | 0, x, k, h0, h1, hd, hk => by
    obtain ⟨k, rfl⟩ : ∃ m, k = m + 1 := ⟨k - 1, by omega⟩
    obtain rfl : x = 0 := by simp at h1; omega
    refine ⟨0, ?_, by omega, by decide, by omega⟩
    simp only [psalteryref03_Log2.f]
    rw [if_pos trivial]; rfl
  | d + 1, x, k, h0, h1, hd, hk => by
    obtain ⟨k, rfl⟩ : ∃ m, k = m + 1 := ⟨k - 1, by omega⟩
    by_cases hx : x = 0
    · subst hx
      refine ⟨0, ?_, by omega, by decide, by omega⟩
      simp only [psalteryref03_Log2.f]
      rw [if_pos trivial]; rfl
    · have hp : (2 : Int) ^ d ≤ 2 ^ 63 := by
        have : (2 : Nat) ^ d ≤ 2 ^ 63 := Nat.pow_le_pow_right (by decide) (by omega)
        exact_mod_cast this
      rw [Int.pow_succ] at h1
      obtain ⟨t, g1, g2, g3, g4⟩ := log2_f d (x / 2) k (by omega) (by omega) (by omega) (by omega)
      refine ⟨t + 1, ?_, by omega, by rw [Int.pow_succ]; omega, fun _ => ?_⟩
      · simp only [psalteryref03_Log2.f]
        rw [if_neg hx, tdiv_nn h0, u64w (by omega) (by omega), g1, Option.bind_some, i64w (by omega) (by omega)]
        congr 1; omega
      · rw [Nat.add_sub_cancel]
        by_cases ht : t = 0
        · subst ht; simp; omega
        · have := g4 (by omega)
          obtain ⟨s, rfl⟩ : ∃ s, t = s + 1 := ⟨t - 1, by omega⟩
          rw [Nat.add_sub_cancel] at this
          rw [Int.pow_succ]; omega
end Go.Proofs.Ytkaoiblgfpphoaa.Cod
