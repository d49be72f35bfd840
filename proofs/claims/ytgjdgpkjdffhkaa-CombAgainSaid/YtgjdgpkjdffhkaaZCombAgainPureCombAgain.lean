/- CombAgain, over lists: the vector of the number of a vector is that vector. -/
import Derived.Test.YtgjdgpkjdffhkaaZCombAgainComK
import Derived.Test.YtgjdgpkjdffhkaaZCombAgainPuCombAgain
namespace Go.Proofs.Ytgjdgpkjdffhkaa.combAgain
open Go Go.RowKit Go.Proofs.YtgjdgpkjdffhkaaW.PrintWords Go.Proofs.Ytgjdgpkjdffhkaa.Prt Go.Proofs.Ytgjdgpkjdffhkaa.Com
theorem pure : Pu := by
  intro l hl
  obtain ⟨V, C⟩ := exCnt
  refine ⟨6000, ?_⟩
  unfold psalterylaw06_CombAgain.f
  by_cases hg : (l.length : Int) > 100
  · rw [if_pos hg, knows_k _ (by omega)]
    rfl
  · rw [if_neg hg]
    by_cases h : l.length < 1 ∨ l.length > 16 ∨ szs l > 12
    · rw [index_bad (by omega) h (by omega), Option.bind_some]
      dsimp only
      rw [if_neg (by decide), if_pos rfl, knows_k _ (by omega)]
      rfl
    · have hs := szs_in l
      obtain ⟨k, hk⟩ : ∃ k : Nat, szs l = k := ⟨(szs l).toNat, by omega⟩
      obtain ⟨i, i0, i1, hu⟩ := Unr.ex C l k (by omega) hk (by omega)
      obtain ⟨y, hy, hf⟩ := vector_ok C (n := l.length) (k := k) (i := i) (by omega) (by omega) (by omega) i0 i1
      obtain rfl := Unr.fn C (by omega) (by omega) hu hy
      rw [index_f C (by omega) (by omega) (by omega) hu (by omega), Option.bind_some]
      dsimp only
      rw [if_pos rfl, refPulses_f (by omega) (by omega), hk, Option.bind_some, hf 6000 (by omega), Option.bind_some]
      dsimp only
      rw [same_f (by omega) (by omega), Option.bind_some, if_pos rfl, if_pos rfl, knows_k _ (by omega)]
      rfl
end Go.Proofs.Ytgjdgpkjdffhkaa.combAgain
