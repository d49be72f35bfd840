/- The law AllocSilent over numbers and lists alone: what is left to prove. Written by a program of this session (wip/tools/lawrow.py). -/
import Derived.Test.YtbaaedpjaanjnaaZAllocSilentM2
namespace Go.Proofs.Ytbaaedpjaanjnaa.allocSilent
open Go.RowKit Go.Proofs.YtbaaedpjaanjnaaW.PrintWords Go.Proofs.Ytbaaedpjaanjnaa.Prt
/-- The law, over numbers and lists alone. -/
def Pu : Prop := ∀ (a0 : Int) (a1 : Int), ((Lit.int .i64 a0).wf = true) → ((Lit.int .i64 a1).wf = true) → ∃ k, psalterylaw12_AllocSilent.f k a0 a1 = some true
end Go.Proofs.Ytbaaedpjaanjnaa.allocSilent
