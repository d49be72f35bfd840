/- The law CombSums over numbers and lists alone: what is left to prove. Written by a program of this session (wip/tools/lawrow.py). -/
import Derived.Test.YtgjdgpkjdffhkaaZCombSumsM1
namespace Go.Proofs.Ytgjdgpkjdffhkaa.combSums
open Go.RowKit Go.Proofs.YtgjdgpkjdffhkaaW.PrintWords Go.Proofs.Ytgjdgpkjdffhkaa.Prt
/-- The law, over numbers and lists alone. -/
def Pu : Prop := ∀ (a0 : Int) (a1 : Int), ((Lit.int .i64 a0).wf = true) → ((Lit.int .i64 a1).wf = true) → ∃ k, psalterylaw06_CombSums.f k a0 a1 = some true
end Go.Proofs.Ytgjdgpkjdffhkaa.combSums
