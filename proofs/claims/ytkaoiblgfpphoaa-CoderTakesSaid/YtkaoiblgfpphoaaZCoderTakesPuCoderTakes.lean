/- The law CoderTakes over numbers and lists alone: what is left to prove. Written by a program of this session (wip/tools/lawrow.py). -/
import Derived.Test.YtkaoiblgfpphoaaZCoderTakesM4
namespace Go.Proofs.Ytkaoiblgfpphoaa.coderTakes
open Go.RowKit Go.Proofs.YtkaoiblgfpphoaaW.PrintWords Go.Proofs.Ytkaoiblgfpphoaa.Prt
/-- The law, over numbers and lists alone. -/
def Pu : Prop := ∀ (a0_0 : Int) (a0_1 : Int) (l0_2 : List Int) (a0_3 : Int) (a1 : Int) (a2 : Int) (a3 : Int), ((Lit.int .u64 a0_0).wf = true) → ((Lit.int .u32 a0_1).wf = true) → (l0_2.length ≤ maxLen ∧ ∀ e0 ∈ l0_2, (Lit.int .u8 e0).wf = true) → ((Lit.int .i64 a0_3).wf = true) → ((Lit.int .i64 a1).wf = true) → ((Lit.int .i64 a2).wf = true) → ((Lit.int .i64 a3).wf = true) → ∃ k, psalterylaw05_CoderTakes.f k a0_0 a0_1 l0_2 a0_3 a1 a2 a3 = some true
end Go.Proofs.Ytkaoiblgfpphoaa.coderTakes
