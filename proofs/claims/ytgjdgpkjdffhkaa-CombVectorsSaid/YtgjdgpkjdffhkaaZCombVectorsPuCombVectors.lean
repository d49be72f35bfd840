/- The law CombVectors over numbers and lists alone: what is left to prove. Written by a program of this session (wip/tools/lawrow.py). -/
import Derived.Test.YtgjdgpkjdffhkaaZCombVectorsM1
namespace Go.Proofs.Ytgjdgpkjdffhkaa.combVectors
open Go.RowKit Go.Proofs.YtgjdgpkjdffhkaaW.PrintWords Go.Proofs.Ytgjdgpkjdffhkaa.Prt
/-- The law, over numbers and lists alone. -/
def Pu : Prop := ∀ (a0 : Int) (a1 : Int) (a2 : Int), ((Lit.int .i64 a0).wf = true) → ((Lit.int .i64 a1).wf = true) → ((Lit.int .u64 a2).wf = true) → ∃ k, psalterylaw06_CombVectors.f k a0 a1 a2 = some true
end Go.Proofs.Ytgjdgpkjdffhkaa.combVectors
