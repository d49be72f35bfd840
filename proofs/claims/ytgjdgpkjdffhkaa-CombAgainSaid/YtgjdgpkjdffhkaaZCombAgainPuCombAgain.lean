/- The law CombAgain over numbers and lists alone: what is left to prove. Written by a program of this session (wip/tools/lawrow.py). -/
import Derived.Test.YtgjdgpkjdffhkaaZCombAgainM1
namespace Go.Proofs.Ytgjdgpkjdffhkaa.combAgain
open Go.RowKit Go.Proofs.YtgjdgpkjdffhkaaW.PrintWords Go.Proofs.Ytgjdgpkjdffhkaa.Prt
/-- The law, over numbers and lists alone. -/
def Pu : Prop := ∀ (l0 : List Int), (l0.length ≤ maxLen ∧ ∀ e0 ∈ l0, (Lit.int .i64 e0).wf = true) → ∃ k, psalterylaw06_CombAgain.f k l0 = some true
end Go.Proofs.Ytgjdgpkjdffhkaa.combAgain
