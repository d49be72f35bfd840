/- CoderOpens, over numbers and lists: any bytes are opened as the document says. -/
import Derived.Test.YtkaoiblgfpphoaaZCoderOpensCodD
import Derived.Test.YtkaoiblgfpphoaaZCoderOpensPuCoderOpens
namespace Go.Proofs.Ytkaoiblgfpphoaa.coderOpens
open Go.RowKit Go.Proofs.YtkaoiblgfpphoaaW.PrintWords Go.Proofs.Ytkaoiblgfpphoaa.Prt Go.Proofs.Ytkaoiblgfpphoaa.Val Go.Proofs.Ytkaoiblgfpphoaa.Cod
set_option linter.unusedVariables false
theorem pure : Pu := by
  intro l hl
  refine ⟨200, ?_⟩
  unfold psalterylaw05_CoderOpens.f
  by_cases hg : (l.length : Int) > 5000
  · rw [if_pos hg, knows_k 200 (by omega)]
    rfl
  · have hb : Bytes l := fun x hx => wf_u8 (hl.2 x hx)
    have ho := open_ok hb
    rw [if_neg hg, open_f hb, Option.bind_some, refOpen_f hb (by omega) 200 (by omega), Option.bind_some]
    dsimp only
    rw [sameDec_f _ _ _ _ (by decide) (by decide), Option.bind_some, if_pos rfl, Option.bind_some]
    dsimp only
    rw [rightDec_f, Option.bind_some, if_pos (by simp; exact ho.2.1), knows_k 200 (by omega)]
    rfl
end Go.Proofs.Ytkaoiblgfpphoaa.coderOpens
