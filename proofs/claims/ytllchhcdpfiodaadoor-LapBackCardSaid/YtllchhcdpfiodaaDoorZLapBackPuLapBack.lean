/- The law LapBack over numbers and lists alone: what is left to prove. Written by a program of this session (wip/tools/lawrow.py). -/
import Derived.Test.YtllchhcdpfiodaaDoorZLapBackM2
namespace Go.Proofs.YtllchhcdpfiodaaDoor.lapBack
open Go.RowKit Go.Proofs.YtllchhcdpfiodaaDoorW.PrintWords Go.Proofs.YtllchhcdpfiodaaDoor.Prt
/-- The law, over numbers and lists alone. -/
def Pu : Prop := ∀ (l0 : List Int) (a1 : Int), (l0.length ≤ maxLen ∧ ∀ e0 ∈ l0, (Lit.int .i64 e0).wf = true) → ((Lit.int .u8 a1).wf = true) → ∃ k, psalterylaw09_LapBack.f k l0 a1 = some true
end Go.Proofs.YtllchhcdpfiodaaDoor.lapBack
