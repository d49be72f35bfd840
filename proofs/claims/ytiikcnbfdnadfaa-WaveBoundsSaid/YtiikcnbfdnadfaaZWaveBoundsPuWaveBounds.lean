/- The law WaveBounds over numbers and lists alone: what is left to prove. Written by a program of this session (wip/tools/lawrow.py). -/
import Derived.Test.YtiikcnbfdnadfaaZWaveBoundsM1
namespace Go.Proofs.Ytiikcnbfdnadfaa.waveBounds
open Go.RowKit Go.Proofs.YtiikcnbfdnadfaaW.PrintWords Go.Proofs.Ytiikcnbfdnadfaa.Prt
/-- The law, over numbers and lists alone. -/
def Pu : Prop := ∀ (l0 : List Int), (l0.length ≤ maxLen ∧ ∀ e0 ∈ l0, (Lit.int .i64 e0).wf = true) → ∃ k, psalterylaw08_WaveBounds.f k l0 = some true
end Go.Proofs.Ytiikcnbfdnadfaa.waveBounds
