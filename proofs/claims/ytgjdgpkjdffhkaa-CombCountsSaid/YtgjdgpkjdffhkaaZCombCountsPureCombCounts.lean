/- CombCounts, over numbers: there are as many pulse vectors as the document says, and their numbers take as many bits. -/
import Derived.Test.YtgjdgpkjdffhkaaZCombCountsComK
import Derived.Test.YtgjdgpkjdffhkaaZCombCountsPuCombCounts
namespace Go.Proofs.Ytgjdgpkjdffhkaa.combCounts
open Go Go.RowKit Go.Proofs.YtgjdgpkjdffhkaaW.PrintWords Go.Proofs.Ytgjdgpkjdffhkaa.Prt Go.Proofs.Ytgjdgpkjdffhkaa.Com
theorem pure : Pu := by
  intro a b ha hb
  obtain ⟨V, C⟩ := exCnt
  refine ⟨4000, ?_⟩
  unfold psalterylaw06_CombCounts.f
  by_cases h : 1 ≤ a ∧ a ≤ 16 ∧ 0 ≤ b ∧ b ≤ 12
  · obtain ⟨n, rfl⟩ : ∃ n : Nat, a = n := ⟨a.toNat, by omega⟩
    obtain ⟨k, rfl⟩ : ∃ n : Nat, b = n := ⟨b.toNat, by omega⟩
    obtain ⟨c, h1, h2⟩ := cost_ok C (n := n) (k := k) (by omega) (by omega) (by omega) (q := 4000) (by omega)
    rw [count_ok C (by omega) (by omega) (by omega), Option.bind_some, h1, Option.bind_some, (fair_ok (by omega) (by omega) (by omega)).2, Option.bind_some, if_pos rfl, refCount_ok C (by omega) (by omega) (by omega), Option.bind_some, h2]
    dsimp only
    rw [if_pos rfl, if_pos rfl, Option.bind_some, if_pos rfl, if_pos rfl, knows_k _ (by omega)]
    rfl
  · have hc : comb_Cost.f 4000 a b = some (0, 1) := by
      unfold comb_Cost.f
      rw [count_bad h, Option.bind_some]
      rfl
    rw [count_bad h, Option.bind_some, hc, Option.bind_some, (fair_bad h).2, Option.bind_some, if_neg (by decide)]
    dsimp only
    rw [if_pos rfl, if_pos rfl, if_pos rfl, if_pos rfl, knows_k _ (by omega)]
    rfl
end Go.Proofs.Ytgjdgpkjdffhkaa.combCounts
