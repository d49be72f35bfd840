/- CombIndexes, over lists: a vector has the number that the document says, or the error is told. -/
import Derived.Test.YtgjdgpkjdffhkaaZCombIndexesComK
import Derived.Test.YtgjdgpkjdffhkaaZCombIndexesPuCombIndexes
namespace Go.Proofs.Ytgjdgpkjdffhkaa.combIndexes
open Go Go.RowKit Go.Proofs.YtgjdgpkjdffhkaaW.PrintWords Go.Proofs.Ytgjdgpkjdffhkaa.Prt Go.Proofs.Ytgjdgpkjdffhkaa.Com
theorem pure : Pu := by
  intro l hl
  obtain ⟨V, C⟩ := exCnt
  refine ⟨6000, ?_⟩
  unfold psalterylaw06_CombIndexes.f
  by_cases hg : (l.length : Int) > 100
  · rw [if_pos hg, knows_k _ (by omega)]
    rfl
  · rw [if_neg hg]
    have hj : psalterylaw06_CombIndexes.j0 6000 l 0 1 true = some true := by
      rw [psalterylaw06_CombIndexes.j0, if_pos rfl, if_pos rfl, if_pos rfl, knows_k _ (by omega)]
      rfl
    by_cases h : l.length < 1 ∨ l.length > 16 ∨ szs l > 12
    · rw [index_bad (by omega) h (by omega), Option.bind_some]
      dsimp only
      by_cases h1 : (l.length : Int) < 1
      · rw [if_pos h1, hj]
      · rw [if_neg h1]
        by_cases h2 : (l.length : Int) > 16
        · rw [if_pos h2, hj]
        · rw [if_neg h2, refPulses_f (by omega) (by omega), Option.bind_some, decide_eq_true (by omega), hj]
    · have hs := szs_in l
      obtain ⟨i, i0, i1, hu⟩ := Unr.ex C l (szs l).toNat (by omega) (by omega) (by omega)
      rw [index_f C (by omega) (by omega) (by omega) hu (by omega), Option.bind_some]
      dsimp only
      rw [if_neg (by omega), if_neg (by omega), refPulses_f (by omega) (by omega), Option.bind_some, decide_eq_false (by omega), psalterylaw06_CombIndexes.j0, if_neg (by decide), refIndex_f C (by omega) (by omega) hu (by omega), Option.bind_some, if_pos rfl, if_pos rfl, knows_k _ (by omega)]
      rfl
end Go.Proofs.Ytgjdgpkjdffhkaa.combIndexes
