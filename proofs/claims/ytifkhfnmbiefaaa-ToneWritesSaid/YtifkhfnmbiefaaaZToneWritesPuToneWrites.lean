/- The law ToneWrites over numbers and lists alone: what is left to prove. Written by a program of this session (wip/tools/lawrow.py). -/
import Derived.Test.YtifkhfnmbiefaaaZToneWritesM4
namespace Go.Proofs.Ytifkhfnmbiefaaa.toneWrites
open Go.RowKit Go.Proofs.YtifkhfnmbiefaaaW.PrintWords Go.Proofs.Ytifkhfnmbiefaaa.Prt
/-- The law, over numbers and lists alone. -/
def Pu : Prop := ∀ (a0 : Int) (a1 : Int) (l2_0 : List (List Int)) (a3 : Bool) (l4 : List (List Int)), ((Lit.int .i64 a0).wf = true) → ((Lit.int .i64 a1).wf = true) → (l2_0.length ≤ maxLen ∧ ∀ e0 ∈ l2_0, e0.length ≤ maxLen ∧ ∀ e1 ∈ e0, (Lit.int .i64 e1).wf = true) → (l4.length ≤ maxLen ∧ ∀ e0 ∈ l4, e0.length ≤ maxLen ∧ ∀ e1 ∈ e0, (Lit.int .i64 e1).wf = true) → ∃ k, w23_ToneWrites.f k a0 a1 l2_0 a3 l4 = some true
end Go.Proofs.Ytifkhfnmbiefaaa.toneWrites
