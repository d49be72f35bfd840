/- The law LapNear over numbers and lists alone: what is left to prove. Written by a program of this session (wip/tools/lawrow.py). -/
import Derived.Test.YtllchhcdpfiodaaDoorZLapNearM2
namespace Go.Proofs.YtllchhcdpfiodaaDoor.lapNear
open Go.RowKit Go.Proofs.YtllchhcdpfiodaaDoorW.PrintWords Go.Proofs.YtllchhcdpfiodaaDoor.Prt
/-- The law, over numbers and lists alone. -/
def Pu : Prop := ∀ (l0 : List Int) (a1 : Int) (a2 : Int) (a3 : Int), (l0.length ≤ maxLen ∧ ∀ e0 ∈ l0, (Lit.int .i64 e0).wf = true) → ((Lit.int .i64 a1).wf = true) → ((Lit.int .i64 a2).wf = true) → ((Lit.int .u8 a3).wf = true) → ∃ k, psalterylaw09_LapNear.f k l0 a1 a2 a3 = some true
end Go.Proofs.YtllchhcdpfiodaaDoor.lapNear
