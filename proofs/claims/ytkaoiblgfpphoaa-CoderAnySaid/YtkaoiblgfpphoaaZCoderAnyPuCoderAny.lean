/- The law CoderAny over numbers and lists alone: what is left to prove. Written by a program of this session (wip/tools/lawrow.py). -/
import Derived.Test.YtkaoiblgfpphoaaZCoderAnyM3
namespace Go.Proofs.Ytkaoiblgfpphoaa.coderAny
open Go.RowKit Go.Proofs.YtkaoiblgfpphoaaW.PrintWords Go.Proofs.Ytkaoiblgfpphoaa.Prt
/-- The law, over numbers and lists alone. -/
def Pu : Prop := ∀ (l0 : List Int) (l1 : List Int), (l0.length ≤ maxLen ∧ ∀ e0 ∈ l0, (Lit.int .u8 e0).wf = true) → (l1.length ≤ maxLen ∧ ∀ e0 ∈ l1, (Lit.int .i64 e0).wf = true) → ∃ k, psalterylaw05_CoderAny.f k l0 l1 = some true
end Go.Proofs.Ytkaoiblgfpphoaa.coderAny
