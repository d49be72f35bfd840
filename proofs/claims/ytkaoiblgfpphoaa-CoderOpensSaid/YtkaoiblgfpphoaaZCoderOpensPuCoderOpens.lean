/- The law CoderOpens over numbers and lists alone: what is left to prove. Written by a program of this session (wip/tools/lawrow.py). -/
import Derived.Test.YtkaoiblgfpphoaaZCoderOpensM2
namespace Go.Proofs.Ytkaoiblgfpphoaa.coderOpens
open Go.RowKit Go.Proofs.YtkaoiblgfpphoaaW.PrintWords Go.Proofs.Ytkaoiblgfpphoaa.Prt
/-- The law, over numbers and lists alone. -/
def Pu : Prop := ∀ (l0 : List Int), (l0.length ≤ maxLen ∧ ∀ e0 ∈ l0, (Lit.int .u8 e0).wf = true) → ∃ k, psalterylaw05_CoderOpens.f k l0 = some true
end Go.Proofs.Ytkaoiblgfpphoaa.coderOpens
