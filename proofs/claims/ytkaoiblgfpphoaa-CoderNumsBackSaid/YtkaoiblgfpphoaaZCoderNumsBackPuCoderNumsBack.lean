/- The law CoderNumsBack over numbers and lists alone: what is left to prove. Written by a program of this session (wip/tools/lawrow.py). -/
import Derived.Test.YtkaoiblgfpphoaaZCoderNumsBackM3
namespace Go.Proofs.Ytkaoiblgfpphoaa.coderNumsBack
open Go.RowKit Go.Proofs.YtkaoiblgfpphoaaW.PrintWords Go.Proofs.Ytkaoiblgfpphoaa.Prt
/-- The law, over numbers and lists alone. -/
def Pu : Prop := ∀ (l0 : List (S76)), (l0.length ≤ maxLen ∧ ∀ e0 ∈ l0, (Lit.int .u64 e0.f0).wf = true ∧ (Lit.int .u64 e0.f1).wf = true) → ∃ k, psalterylaw05_CoderNumsBack.f k l0 = some true
end Go.Proofs.Ytkaoiblgfpphoaa.coderNumsBack
