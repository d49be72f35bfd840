/- GainAny, over numbers and lists: any bytes are taken as gains that may be. -/
import Derived.Test.YtkaoiblgfpphoaaZGainAnyGanK
import Derived.Test.YtkaoiblgfpphoaaZGainAnyPuGainAny
namespace Go.Proofs.Ytkaoiblgfpphoaa.gainAny
open Go.RowKit Go.Proofs.YtkaoiblgfpphoaaW.PrintWords Go.Proofs.Ytkaoiblgfpphoaa.Prt Go.Proofs.Ytkaoiblgfpphoaa.Val Go.Proofs.Ytkaoiblgfpphoaa.Cod Go.Proofs.Ytkaoiblgfpphoaa.Gan
set_option linter.unusedVariables false
theorem rt_of {l : List Int} (h : l.length = 5) (ha : ∀ x ∈ l, 0 ≤ x ∧ x ≤ 44) : rt l = true := by
  simp only [rt, Bool.and_eq_true, List.all_eq_true, decide_eq_true_eq]
  exact ⟨by simp; omega, ha⟩
theorem pure : Pu := by
  intro code rg l at_ a intra h1 h2 h3 h4 h5
  obtain ⟨k, hk⟩ : ∃ k, k = 10000 := ⟨_, rfl⟩
  refine ⟨k + 1, ?_⟩
  unfold psalterylaw11_GainAny.f
  rw [great_f, Option.bind_some]
  have key : psalterylaw11_GainAny.j0 (k + 1) a intra true code rg l at_ = some true := by
    simp only [psalterylaw11_GainAny.j0, ↓reduceIte]
    rw [knows11_k k (by omega)]
    rfl
  by_cases hg : 5000 < (([] : List Int).length : Int) ∨ 5000 < (l.length : Int) ∨ 100 < (([] : List Int).length : Int) ∨ 100 < (a.length : Int)
  · rw [if_pos (decide_eq_true hg)]
    exact key
  · have hb : Bytes l := fun x hx => wf_u8 (h3.2 x hx)
    have w1 := wf_u64 h1
    have w2 := wf_u32 h2
    have w4 := wf_i64 h4
    obtain ⟨code', rg', l', at', g1, g2, g3, g4, g5⟩ := dec_any (rg := rg) (l := l) w1.1 w2.2 w4.2 hb (by omega)
    rw [if_neg (by simpa using hg), refRight_ok a (by omega) (k + 1) (by omega), Option.bind_some]
    cases hr : rt a with
    | false => exact key
    | true =>
      have go := gts_ok (a := a) (intra := intra) g3 g4 5 0 code' rg' at' [] g2 (by simp)
      have hl5 : (gts l' a intra 5 0 code' rg' at' []).2.2.2.length = 5 := by have := go.2.1; simpa using this
      simp only [psalterylaw11_GainAny.j0]
      rw [if_neg (by simp), takes_ok (a := a) (intra := intra) (by omega) g1 g2 g3 g4 k (by omega), if_pos (.inr hr), Option.bind_some]
      dsimp only
      rw [if_pos rfl, refRight_ok _ (by omega) k (by omega), Option.bind_some, rt_of hl5 go.2.2, if_pos rfl, rightDec_f, Option.bind_some, if_pos (by simp; exact ⟨go.1.2.1, go.1.2.2.1, go.1.2.2.2.2.1⟩), knows11_k k (by omega)]
      rfl
end Go.Proofs.Ytkaoiblgfpphoaa.gainAny
