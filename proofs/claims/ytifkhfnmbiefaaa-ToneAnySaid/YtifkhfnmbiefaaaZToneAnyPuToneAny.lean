/- The law ToneAny over numbers and lists alone: what is left to prove. Written by a program of this session (wip/tools/lawrow.py). -/
import Derived.Test.YtifkhfnmbiefaaaZToneAnyM3
namespace Go.Proofs.Ytifkhfnmbiefaaa.toneAny
open Go.RowKit Go.Proofs.YtifkhfnmbiefaaaW.PrintWords Go.Proofs.Ytifkhfnmbiefaaa.Prt
/-- The law, over numbers and lists alone. -/
def Pu : Prop := ∀ (a0 : Int) (a1 : Int) (a2_0 : Bool) (l2_1 : List (List Int)) (l2_2 : List (List (List Int))), ((Lit.int .i64 a0).wf = true) → ((Lit.int .i64 a1).wf = true) → (l2_1.length ≤ maxLen ∧ ∀ e0 ∈ l2_1, e0.length ≤ maxLen ∧ ∀ e1 ∈ e0, (Lit.int .i64 e1).wf = true) → (l2_2.length ≤ maxLen ∧ ∀ e0 ∈ l2_2, e0.length ≤ maxLen ∧ ∀ e1 ∈ e0, e1.length ≤ maxLen ∧ ∀ e2 ∈ e1, (Lit.int .i64 e2).wf = true) → ∃ k, psalterylaw23_ToneAny.f k a0 a1 a2_0 l2_1 l2_2 = some true
end Go.Proofs.Ytifkhfnmbiefaaa.toneAny
