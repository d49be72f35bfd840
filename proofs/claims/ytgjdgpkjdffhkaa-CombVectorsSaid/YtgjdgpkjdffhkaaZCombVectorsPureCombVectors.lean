/- CombVectors, over numbers: a number has the vector that the document says, or the error is told. -/
import Derived.Test.YtgjdgpkjdffhkaaZCombVectorsComK
import Derived.Test.YtgjdgpkjdffhkaaZCombVectorsPuCombVectors
namespace Go.Proofs.Ytgjdgpkjdffhkaa.combVectors
open Go Go.RowKit Go.Proofs.YtgjdgpkjdffhkaaW.PrintWords Go.Proofs.Ytgjdgpkjdffhkaa.Prt Go.Proofs.Ytgjdgpkjdffhkaa.Com
theorem pure : Pu := by
  intro a b i ha hb hi
  obtain ⟨V, C⟩ := exCnt
  refine ⟨6000, ?_⟩
  unfold psalterylaw06_CombVectors.f
  by_cases h : 1 ≤ a ∧ a ≤ 16 ∧ 0 ≤ b ∧ b ≤ 12
  · obtain ⟨n, rfl⟩ : ∃ n : Nat, a = n := ⟨a.toNat, by omega⟩
    obtain ⟨k, rfl⟩ : ∃ n : Nat, b = n := ⟨b.toNat, by omega⟩
    have h0 := wf_u64 hi
    by_cases hc : i ≥ V n k
    · rw [vector_far C (by omega) (by omega) (by omega) hc, Option.bind_some, (fair_ok (by omega) (by omega) (by omega)).2, Option.bind_some, if_pos rfl, refCount_ok C (by omega) (by omega) (by omega), Option.bind_some, if_pos hc]
      dsimp only
      rw [if_pos (by simp), if_pos rfl, knows_k _ (by omega)]
      rfl
    · obtain ⟨y, hy, hf⟩ := vector_ok C (n := n) (k := k) (i := i) (by omega) (by omega) (by omega) h0 (by omega)
      obtain ⟨y', hy', hf'⟩ := refVector_ok C (n := n) (k := k) (i := i) (by omega) (by omega) h0 (by omega) (q := 6000) (by omega)
      obtain rfl := Unr.fn C (by omega) (by omega) hy hy'
      have hl := hy.len
      rw [hf 6000 (by omega), Option.bind_some, (fair_ok (by omega) (by omega) (by omega)).2, Option.bind_some, if_pos rfl, refCount_ok C (by omega) (by omega) (by omega), Option.bind_some, if_neg hc, hf', Option.bind_some]
      dsimp only
      rw [same_f (by omega) (by omega), Option.bind_some, if_pos rfl, if_pos rfl, knows_k _ (by omega)]
      rfl
  · rw [vector_bad h, Option.bind_some, (fair_bad h).2, Option.bind_some, if_neg (by decide)]
    dsimp only
    rw [if_pos (by simp), if_pos rfl, knows_k _ (by omega)]
    rfl
end Go.Proofs.Ytgjdgpkjdffhkaa.combVectors
