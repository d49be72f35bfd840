/- The law AllocSpends over numbers and lists alone: what is left to prove. Written by a program of this session (wip/tools/lawrow.py). -/
import Derived.Test.YtbaaedpjaanjnaaZAllocSpendsM3
namespace Go.Proofs.Ytbaaedpjaanjnaa.allocSpends
open Go.RowKit Go.Proofs.YtbaaedpjaanjnaaW.PrintWords Go.Proofs.Ytbaaedpjaanjnaa.Prt
/-- The law, over numbers and lists alone. -/
def Pu : Prop := ∀ (a0 : Int) (a1 : Int) (l2 : List (List Int)), ((Lit.int .i64 a0).wf = true) → ((Lit.int .i64 a1).wf = true) → (l2.length ≤ maxLen ∧ ∀ e0 ∈ l2, e0.length ≤ maxLen ∧ ∀ e1 ∈ e0, (Lit.int .i64 e1).wf = true) → ∃ k, psalterylaw12_AllocSpends.f k a0 a1 l2 = some true
end Go.Proofs.Ytbaaedpjaanjnaa.allocSpends
