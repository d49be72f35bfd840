/- The law GainPuts over numbers and lists alone: what is left to prove. Written by a program of this session (wip/tools/lawrow.py). -/
import Derived.Test.YtkaoiblgfpphoaaZGainPutsM5
namespace Go.Proofs.Ytkaoiblgfpphoaa.gainPuts
open Go.RowKit Go.Proofs.YtkaoiblgfpphoaaW.PrintWords Go.Proofs.Ytkaoiblgfpphoaa.Prt
/-- The law, over numbers and lists alone. -/
def Pu : Prop := ∀ (a0_0 : Int) (a0_1 : Int) (l0_2 : List Int) (l1 : List Int) (l2 : List Int) (a3 : Bool), ((Lit.int .u64 a0_0).wf = true) → ((Lit.int .u32 a0_1).wf = true) → (l0_2.length ≤ maxLen ∧ ∀ e0 ∈ l0_2, (Lit.int .u8 e0).wf = true) → (l1.length ≤ maxLen ∧ ∀ e0 ∈ l1, (Lit.int .i64 e0).wf = true) → (l2.length ≤ maxLen ∧ ∀ e0 ∈ l2, (Lit.int .i64 e0).wf = true) → ∃ k, psalterylaw11_GainPuts.f k a0_0 a0_1 l0_2 l1 l2 a3 = some true
end Go.Proofs.Ytkaoiblgfpphoaa.gainPuts
