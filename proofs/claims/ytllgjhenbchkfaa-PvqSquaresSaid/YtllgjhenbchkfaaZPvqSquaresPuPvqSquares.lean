/- The law PvqSquares over numbers and lists alone: what is left to prove. Written by a program of this session (wip/tools/lawrow.py). -/
import Derived.Test.YtllgjhenbchkfaaZPvqSquaresM2
namespace Go.Proofs.Ytllgjhenbchkfaa.pvqSquares
open Go.RowKit Go.Proofs.YtllgjhenbchkfaaW.PrintWords Go.Proofs.Ytllgjhenbchkfaa.Prt
/-- The law, over numbers and lists alone. -/
def Pu : Prop := ∀ (l0 : List Int), (l0.length ≤ maxLen ∧ ∀ e0 ∈ l0, (Lit.int .i64 e0).wf = true) → ∃ k, psalterylaw07_PvqSquares.f k l0 = some true
end Go.Proofs.Ytllgjhenbchkfaa.pvqSquares
