/- The law GainAlone over numbers and lists alone: what is left to prove. Written by a program of this session (wip/tools/lawrow.py). -/
import Derived.Test.YtkaoiblgfpphoaaZGainAloneM5
namespace Go.Proofs.Ytkaoiblgfpphoaa.gainAlone
open Go.RowKit Go.Proofs.YtkaoiblgfpphoaaW.PrintWords Go.Proofs.Ytkaoiblgfpphoaa.Prt
/-- The law, over numbers and lists alone. -/
def Pu : Prop := ∀ (a0_0 : Int) (a0_1 : Int) (l0_2 : List Int) (a1_0 : Int) (a1_1 : Int) (l1_2 : List Int) (a1_3 : Int) (l2 : List Int) (l3 : List Int) (l4 : List Int), ((Lit.int .u64 a0_0).wf = true) → ((Lit.int .u32 a0_1).wf = true) → (l0_2.length ≤ maxLen ∧ ∀ e0 ∈ l0_2, (Lit.int .u8 e0).wf = true) → ((Lit.int .u64 a1_0).wf = true) → ((Lit.int .u32 a1_1).wf = true) → (l1_2.length ≤ maxLen ∧ ∀ e0 ∈ l1_2, (Lit.int .u8 e0).wf = true) → ((Lit.int .i64 a1_3).wf = true) → (l2.length ≤ maxLen ∧ ∀ e0 ∈ l2, (Lit.int .i64 e0).wf = true) → (l3.length ≤ maxLen ∧ ∀ e0 ∈ l3, (Lit.int .i64 e0).wf = true) → (l4.length ≤ maxLen ∧ ∀ e0 ∈ l4, (Lit.int .i64 e0).wf = true) → ∃ k, psalterylaw11_GainAlone.f k a0_0 a0_1 l0_2 a1_0 a1_1 l1_2 a1_3 l2 l3 l4 = some true
end Go.Proofs.Ytkaoiblgfpphoaa.gainAlone
