/- The law CombOrders over numbers and lists alone: what is left to prove. Written by a program of this session (wip/tools/lawrow.py). -/
import Derived.Test.YtgjdgpkjdffhkaaZCombOrdersM1
namespace Go.Proofs.Ytgjdgpkjdffhkaa.combOrders
open Go.RowKit Go.Proofs.YtgjdgpkjdffhkaaW.PrintWords Go.Proofs.Ytgjdgpkjdffhkaa.Prt
/-- The law, over numbers and lists alone. -/
def Pu : Prop := ∀ (a0 : Int) (a1 : Int) (a2 : Int) (a3 : Int), ((Lit.int .i64 a0).wf = true) → ((Lit.int .i64 a1).wf = true) → ((Lit.int .u64 a2).wf = true) → ((Lit.int .u64 a3).wf = true) → ∃ k, psalterylaw06_CombOrders.f k a0 a1 a2 a3 = some true
end Go.Proofs.Ytgjdgpkjdffhkaa.combOrders
