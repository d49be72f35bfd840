/- The law PvqAlone over numbers and lists alone: what is left to prove. Written by a program of this session (wip/tools/lawrow.py). -/
import Derived.Test.YtllgjhenbchkfaaZPvqAloneM2
namespace Go.Proofs.Ytllgjhenbchkfaa.pvqAlone
open Go.RowKit Go.Proofs.YtllgjhenbchkfaaW.PrintWords Go.Proofs.Ytllgjhenbchkfaa.Prt
/-- The law, over numbers and lists alone. -/
def Pu : Prop := ∀ (a0 : Int) (a1 : Int) (a2 : Int) (a3 : Int), ((Lit.int .i64 a0).wf = true) → ((Lit.int .i64 a1).wf = true) → ((Lit.int .i64 a2).wf = true) → ((Lit.int .i64 a3).wf = true) → ∃ k, psalterylaw07_PvqAlone.f k a0 a1 a2 a3 = some true
end Go.Proofs.Ytllgjhenbchkfaa.pvqAlone
