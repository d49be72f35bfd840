/- The law GainTakes over numbers and lists alone: what is left to prove. Written by a program of this session (wip/tools/lawrow.py). -/
import Derived.Test.YtkaoiblgfpphoaaZGainTakesM5
namespace Go.Proofs.Ytkaoiblgfpphoaa.gainTakes
open Go.RowKit Go.Proofs.YtkaoiblgfpphoaaW.PrintWords Go.Proofs.Ytkaoiblgfpphoaa.Prt
/-- The law, over numbers and lists alone. -/
def Pu : Prop := ∀ (a0_0 : Int) (a0_1 : Int) (l0_2 : List Int) (a0_3 : Int) (l1 : List Int) (a2 : Bool), ((Lit.int .u64 a0_0).wf = true) → ((Lit.int .u32 a0_1).wf = true) → (l0_2.length ≤ maxLen ∧ ∀ e0 ∈ l0_2, (Lit.int .u8 e0).wf = true) → ((Lit.int .i64 a0_3).wf = true) → (l1.length ≤ maxLen ∧ ∀ e0 ∈ l1, (Lit.int .i64 e0).wf = true) → ∃ k, psalterylaw11_GainTakes.f k a0_0 a0_1 l0_2 a0_3 l1 a2 = some true
end Go.Proofs.Ytkaoiblgfpphoaa.gainTakes
