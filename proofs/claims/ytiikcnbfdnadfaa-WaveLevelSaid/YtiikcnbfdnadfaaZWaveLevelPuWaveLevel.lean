/- The law WaveLevel over numbers and lists alone: what is left to prove. Written by a program of this session (wip/tools/lawrow.py). -/
import Derived.Test.YtiikcnbfdnadfaaZWaveLevelM1
namespace Go.Proofs.Ytiikcnbfdnadfaa.waveLevel
open Go.RowKit Go.Proofs.YtiikcnbfdnadfaaW.PrintWords Go.Proofs.Ytiikcnbfdnadfaa.Prt
/-- The law, over numbers and lists alone. -/
def Pu : Prop := ∀ (a0 : Int) (a1 : Int), ((Lit.int .i64 a0).wf = true) → ((Lit.int .i64 a1).wf = true) → ∃ k, psalterylaw08_WaveLevel.f k a0 a1 = some true
end Go.Proofs.Ytiikcnbfdnadfaa.waveLevel
