/- The law CoderBack over numbers and lists alone: what is left to prove. Written by a program of this session (wip/tools/lawrow.py). -/
import Derived.Test.YtkaoiblgfpphoaaZCoderBackM3
namespace Go.Proofs.Ytkaoiblgfpphoaa.coderBack
open Go.RowKit Go.Proofs.YtkaoiblgfpphoaaW.PrintWords Go.Proofs.Ytkaoiblgfpphoaa.Prt
/-- The law, over numbers and lists alone. -/
def Pu : Prop := ∀ (l0 : List (S53)), (l0.length ≤ maxLen ∧ ∀ e0 ∈ l0, (Lit.int .i64 e0.f0).wf = true ∧ (Lit.int .i64 e0.f1).wf = true ∧ (Lit.int .i64 e0.f2).wf = true) → ∃ k, psalterylaw05_CoderBack.f k l0 = some true
end Go.Proofs.Ytkaoiblgfpphoaa.coderBack
