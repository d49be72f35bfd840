/- CombSums, over numbers: each count is the sum of three others. -/
import Derived.Test.YtgjdgpkjdffhkaaZCombSumsComK
import Derived.Test.YtgjdgpkjdffhkaaZCombSumsPuCombSums
namespace Go.Proofs.Ytgjdgpkjdffhkaa.combSums
open Go Go.RowKit Go.Proofs.YtgjdgpkjdffhkaaW.PrintWords Go.Proofs.Ytgjdgpkjdffhkaa.Prt Go.Proofs.Ytgjdgpkjdffhkaa.Com
theorem pure : Pu := by
  intro a b ha hb
  obtain ⟨V, C⟩ := exCnt
  refine ⟨4001, ?_⟩
  have hj : psalterylaw06_CombSums.j0 4001 a b true = some true := by
    rw [psalterylaw06_CombSums.j0, if_pos rfl, knows_k _ (by omega)]
    rfl
  unfold psalterylaw06_CombSums.f
  by_cases c1 : a < 2
  · rw [if_pos c1, hj]
  · rw [if_neg c1]
    by_cases c2 : a > 16
    · rw [if_pos c2, hj]
    · rw [if_neg c2]
      by_cases c3 : b < 1
      · rw [if_pos c3, hj]
      · rw [if_neg c3]
        by_cases c4 : b > 12
        · rw [decide_eq_true c4, hj]
        · rw [decide_eq_false c4, psalterylaw06_CombSums.j0, if_neg (by decide)]
          obtain ⟨n, rfl⟩ : ∃ n : Nat, a = ((n + 1 : Nat) : Int) := ⟨(a - 1).toNat, by omega⟩
          obtain ⟨k, rfl⟩ : ∃ n : Nat, b = ((n + 1 : Nat) : Int) := ⟨(b - 1).toNat, by omega⟩
          have h1 := VV C (n := n) (k := k + 1) (by omega) (by omega)
          have h2 := VV C (n := n + 1) (k := k) (by omega) (by omega)
          have h3 := VV C (n := n) (k := k) (by omega) (by omega)
          have hp := C.pos (n := n + 1) (k := k + 1) (by omega) (by omega) (by omega)
          rw [wpred (by omega), wpred (by omega), count_ok C (by omega) (by omega) (by omega), Option.bind_some, count_ok C (by omega) (by omega) (by omega), Option.bind_some, count_ok C (by omega) (by omega) (by omega), Option.bind_some, count_ok C (by omega) (by omega) (by omega), Option.bind_some]
          dsimp only
          rw [u64 (x := V n (k + 1) + V (n + 1) k) (by omega) (by omega), u64 (by omega) (by omega), if_pos (C.sum (by omega) (by omega)), if_pos (by omega), knows_k _ (by omega)]
          rfl
end Go.Proofs.Ytgjdgpkjdffhkaa.combSums
