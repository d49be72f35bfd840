/- The law GainBack over numbers and lists alone: what is left to prove. Written by a program of this session (wip/tools/lawrow.py). -/
import Derived.Test.YtkaoiblgfpphoaaZGainBackM2
namespace Go.Proofs.Ytkaoiblgfpphoaa.gainBack
open Go.RowKit Go.Proofs.YtkaoiblgfpphoaaW.PrintWords Go.Proofs.Ytkaoiblgfpphoaa.Prt
/-- The law, over numbers and lists alone. -/
def Pu : Prop := ∀ (l0 : List (S91)), (l0.length ≤ maxLen ∧ ∀ e0 ∈ l0, (e0.f0.length ≤ maxLen ∧ ∀ e1 ∈ e0.f0, (Lit.int .i64 e1).wf = true)) → ∃ k, psalterylaw11_GainBack.f k l0 = some true
end Go.Proofs.Ytkaoiblgfpphoaa.gainBack
