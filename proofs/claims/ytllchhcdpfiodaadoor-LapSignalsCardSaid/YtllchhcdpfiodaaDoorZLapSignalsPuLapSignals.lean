/- The law LapSignals over numbers and lists alone: what is left to prove. Written by a program of this session (wip/tools/lawrow.py). -/
import Derived.Test.YtllchhcdpfiodaaDoorZLapSignalsM2
namespace Go.Proofs.YtllchhcdpfiodaaDoor.lapSignals
open Go.RowKit Go.Proofs.YtllchhcdpfiodaaDoorW.PrintWords Go.Proofs.YtllchhcdpfiodaaDoor.Prt
/-- The law, over numbers and lists alone. -/
def Pu : Prop := ∀ (l0 : List (List Int)) (a1 : Int), (l0.length ≤ maxLen ∧ ∀ e0 ∈ l0, e0.length ≤ maxLen ∧ ∀ e1 ∈ e0, (Lit.int .i64 e1).wf = true) → ((Lit.int .i64 a1).wf = true) → ∃ k, psalterylaw09_LapSignals.f k l0 a1 = some true
end Go.Proofs.YtllchhcdpfiodaaDoor.lapSignals
