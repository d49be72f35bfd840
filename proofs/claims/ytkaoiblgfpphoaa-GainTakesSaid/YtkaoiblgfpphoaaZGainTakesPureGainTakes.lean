/- GainTakes, over numbers and lists: gains are taken as the document says. -/
import Derived.Test.YtkaoiblgfpphoaaZGainTakesGanK
import Derived.Test.YtkaoiblgfpphoaaZGainTakesPuGainTakes
namespace Go.Proofs.Ytkaoiblgfpphoaa.gainTakes
open Go.RowKit Go.Proofs.YtkaoiblgfpphoaaW.PrintWords Go.Proofs.Ytkaoiblgfpphoaa.Prt Go.Proofs.Ytkaoiblgfpphoaa.Val Go.Proofs.Ytkaoiblgfpphoaa.Cod Go.Proofs.Ytkaoiblgfpphoaa.Gan
set_option linter.unusedVariables false
theorem pure : Pu := by
  intro code rg l at_ a intra h1 h2 h3 h4 h5
  obtain ⟨k, hk⟩ : ∃ k, k = 10000 := ⟨_, rfl⟩
  refine ⟨k + 1, ?_⟩
  unfold psalterylaw11_GainTakes.f
  rw [great_f, Option.bind_some]
  by_cases hg : 5000 < (([] : List Int).length : Int) ∨ 5000 < (l.length : Int) ∨ 100 < (([] : List Int).length : Int) ∨ 100 < (a.length : Int)
  · rw [if_pos (decide_eq_true hg), knows11_k (k + 1) (by omega)]
    rfl
  · have hb : Bytes l := fun x hx => wf_u8 (h3.2 x hx)
    have w1 := wf_u64 h1
    have w2 := wf_u32 h2
    have w4 := wf_i64 h4
    obtain ⟨code', rg', l', at', g1, g2, g3, g4, g5⟩ := dec_any (rg := rg) (l := l) w1.1 w2.2 w4.2 hb (by omega)
    rw [if_neg (by simpa using hg), takes_ok (a := a) (intra := intra) (by omega) g1 g2 g3 g4 (k + 1) (by omega)]
    have go := gts_ok (a := a) (intra := intra) g3 g4 5 0 code' rg' at' [] g2 (by simp)
    have key : intra = true ∨ rt a = true → psalterylaw11_GainTakes.j0 (k + 1) a intra (gts l' a intra 5 0 code' rg' at' []).2.2.2 0 false code rg l at_ (gts l' a intra 5 0 code' rg' at' []).1 (gts l' a intra 5 0 code' rg' at' []).2.1 l' (gts l' a intra 5 0 code' rg' at' []).2.2.1 = some true := fun ha => by
      simp only [psalterylaw11_GainTakes.j0]
      rw [if_neg (by simp), g5 k (by omega), Option.bind_some]
      dsimp only
      rw [refTakes_ok ha g2 g3 g4 k (by omega), Option.bind_some]
      dsimp only
      rw [sameDec_f _ _ _ _ (by have := go.1.2.2.1; omega) go.1.2.2.2.1, Option.bind_some, if_pos rfl, same_ok _ (by have := go.2.1; simp at this; omega) k (by have := go.2.1; simp at this; omega), Option.bind_some, if_pos rfl, if_pos trivial, knows11_k k (by omega)]
      rfl
    cases intra with
    | true =>
      rw [if_pos (.inl rfl), Option.bind_some, if_pos rfl]
      exact key (.inl rfl)
    | false =>
      cases hr : rt a with
      | true =>
        rw [if_pos (.inr rfl), Option.bind_some, if_neg (by simp), refRight_ok a (by omega) (k + 1) (by omega), Option.bind_some, hr]
        exact key (.inr hr)
      | false =>
        rw [if_neg (by simp), Option.bind_some, if_neg (by simp), refRight_ok a (by omega) (k + 1) (by omega), Option.bind_some, hr]
        dsimp only
        simp only [psalterylaw11_GainTakes.j0, Bool.not_false, ↓reduceIte]
        rw [if_pos (by simp), knows11_k k (by omega)]
        rfl
end Go.Proofs.Ytkaoiblgfpphoaa.gainTakes
