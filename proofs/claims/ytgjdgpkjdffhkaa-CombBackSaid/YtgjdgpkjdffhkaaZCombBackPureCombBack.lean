/- CombBack, over numbers: the number of the vector of a number is that number, and it has as many places and pulses as were asked for. -/
import Derived.Test.YtgjdgpkjdffhkaaZCombBackComK
import Derived.Test.YtgjdgpkjdffhkaaZCombBackPuCombBack
namespace Go.Proofs.Ytgjdgpkjdffhkaa.combBack
open Go Go.RowKit Go.Proofs.YtgjdgpkjdffhkaaW.PrintWords Go.Proofs.Ytgjdgpkjdffhkaa.Prt Go.Proofs.Ytgjdgpkjdffhkaa.Com
theorem pure : Pu := by
  intro a b i ha hb hi
  obtain ⟨V, C⟩ := exCnt
  refine ⟨6000, ?_⟩
  unfold psalterylaw06_CombBack.f
  by_cases h : 1 ≤ a ∧ a ≤ 16 ∧ 0 ≤ b ∧ b ≤ 12
  · obtain ⟨n, rfl⟩ : ∃ n : Nat, a = n := ⟨a.toNat, by omega⟩
    obtain ⟨k, rfl⟩ : ∃ n : Nat, b = n := ⟨b.toNat, by omega⟩
    have h0 := wf_u64 hi
    by_cases hc : i ≥ V n k
    · rw [vector_far C (by omega) (by omega) (by omega) hc, Option.bind_some]
      dsimp only
      rw [if_neg (by decide), if_pos (by simp), knows_k _ (by omega)]
      rfl
    · obtain ⟨y, hy, hf⟩ := vector_ok C (n := n) (k := k) (i := i) (by omega) (by omega) (by omega) h0 (by omega)
      have hl := hy.len
      rw [hf 6000 (by omega), Option.bind_some]
      dsimp only
      rw [if_pos rfl, index_f C (by omega) (by omega) (by omega) hy (by omega), Option.bind_some]
      dsimp only
      rw [if_pos rfl, if_pos rfl, if_pos (by omega), refPulses_f (by omega) (by omega), Unr.szs (by omega) hy, Option.bind_some, if_pos rfl, knows_k _ (by omega)]
      rfl
  · rw [vector_bad h, Option.bind_some]
    dsimp only
    rw [if_neg (by decide), if_pos (by simp), knows_k _ (by omega)]
    rfl
end Go.Proofs.Ytgjdgpkjdffhkaa.combBack
