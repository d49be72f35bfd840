/- What the document's examples of gains answer, and which inputs are too great. -/
import Derived.Test.YtkaoiblgfpphoaaZGainPutsGanT
import Derived.Test.YtkaoiblgfpphoaaZGainPutsM3
import Derived.Test.YtkaoiblgfpphoaaZGainPutsM4
namespace Go.Proofs.Ytkaoiblgfpphoaa.Gan
open Go.RowKit Go.Proofs.YtkaoiblgfpphoaaW.PrintWords Go.Proofs.YtkaoiblgfpphoaaW.PrintMore Go.Proofs.Ytkaoiblgfpphoaa.Prt Go.Proofs.Ytkaoiblgfpphoaa.Val Go.Proofs.Ytkaoiblgfpphoaa.Cod
set_option linter.unusedVariables false
theorem knows11_k : ∀ k,6000≤k→psalterylaw11_knows.f k=some true:=fun k hk=>at_rounds psalterylaw11_knows.mono (Nat.le_trans (by decide : 100≤6000) hk) (by decide +kernel)
theorem great_f (lo rg code r t : Int) (out l g a : List Int) : psalterylaw11_great.f lo rg out code r l t g a=some (decide (5000 < (out.length : Int)∨5000 < (l.length : Int)∨100 < (g.length : Int)∨100 < (a.length : Int))):=by
  unfold psalterylaw11_great.f
  split
  · rw [decide_eq_true (by omega)]
  · split
    · rw [decide_eq_true (by omega)]
    · split
      · rw [decide_eq_true (by omega)]
      · congr 1;exact decide_eq_decide.2 ⟨fun h=>by omega,fun h=>by omega⟩
end Go.Proofs.Ytkaoiblgfpphoaa.Gan
