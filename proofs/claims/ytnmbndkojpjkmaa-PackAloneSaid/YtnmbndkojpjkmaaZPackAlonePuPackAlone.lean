/- The law PackAlone over numbers and lists alone: what is left to prove. Written by a program of this session (wip/tools/lawrow.py). -/
import Derived.Test.YtnmbndkojpjkmaaZPackAloneM3
namespace Go.Proofs.Ytnmbndkojpjkmaa.packAlone
open Go.RowKit Go.Proofs.YtnmbndkojpjkmaaW.PrintWords Go.Proofs.Ytnmbndkojpjkmaa.Prt
/-- The law, over numbers and lists alone. -/
def Pu : Prop := ∀ (a0 : Int) (a1 : Int) (a2_0 : Bool) (l2_1 : List (List Int)) (l2_2 : List (List (List Int))) (l3 : List (List Int)) (l4 : List (List Int)), ((Lit.int .i64 a0).wf = true) → ((Lit.int .i64 a1).wf = true) → (l2_1.length ≤ maxLen ∧ ∀ e0 ∈ l2_1, e0.length ≤ maxLen ∧ ∀ e1 ∈ e0, (Lit.int .i64 e1).wf = true) → (l2_2.length ≤ maxLen ∧ ∀ e0 ∈ l2_2, e0.length ≤ maxLen ∧ ∀ e1 ∈ e0, e1.length ≤ maxLen ∧ ∀ e2 ∈ e1, (Lit.int .i64 e2).wf = true) → (l3.length ≤ maxLen ∧ ∀ e0 ∈ l3, e0.length ≤ maxLen ∧ ∀ e1 ∈ e0, (Lit.int .i64 e1).wf = true) → (l4.length ≤ maxLen ∧ ∀ e0 ∈ l4, e0.length ≤ maxLen ∧ ∀ e1 ∈ e0, (Lit.int .i64 e1).wf = true) → ∃ k, w13_PackAlone.f k a0 a1 a2_0 l2_1 l2_2 l3 l4 = some true
end Go.Proofs.Ytnmbndkojpjkmaa.packAlone
