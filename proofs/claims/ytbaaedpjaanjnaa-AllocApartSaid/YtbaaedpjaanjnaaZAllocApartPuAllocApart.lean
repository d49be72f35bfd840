/- The law AllocApart over numbers and lists alone: what is left to prove. Written by a program of this session (wip/tools/lawrow.py). -/
import Derived.Test.YtbaaedpjaanjnaaZAllocApartM2
namespace Go.Proofs.Ytbaaedpjaanjnaa.allocApart
open Go.RowKit Go.Proofs.YtbaaedpjaanjnaaW.PrintWords Go.Proofs.Ytbaaedpjaanjnaa.Prt
/-- The law, over numbers and lists alone. -/
def Pu : Prop := ∀ (a0 : Int) (l1 : List Int) (l2 : List Int) (l3 : List Int), ((Lit.int .i64 a0).wf = true) → (l1.length ≤ maxLen ∧ ∀ e0 ∈ l1, (Lit.int .i64 e0).wf = true) → (l2.length ≤ maxLen ∧ ∀ e0 ∈ l2, (Lit.int .i64 e0).wf = true) → (l3.length ≤ maxLen ∧ ∀ e0 ∈ l3, (Lit.int .i64 e0).wf = true) → ∃ k, psalterylaw12_AllocApart.f k a0 l1 l2 l3 = some true
end Go.Proofs.Ytbaaedpjaanjnaa.allocApart
