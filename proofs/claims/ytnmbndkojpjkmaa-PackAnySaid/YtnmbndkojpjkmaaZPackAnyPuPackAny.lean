/- The law PackAny over numbers and lists alone: what is left to prove. Written by a program of this session (wip/tools/lawrow.py). -/
import Derived.Test.YtnmbndkojpjkmaaZPackAnyM3
namespace Go.Proofs.Ytnmbndkojpjkmaa.packAny
open Go.RowKit Go.Proofs.YtnmbndkojpjkmaaW.PrintWords Go.Proofs.Ytnmbndkojpjkmaa.Prt
/-- The law, over numbers and lists alone. -/
def Pu : Prop := ∀ (a0 : Int) (a1 : Int) (l2 : List Int) (l3 : List (List Int)), ((Lit.int .i64 a0).wf = true) → ((Lit.int .i64 a1).wf = true) → (l2.length ≤ maxLen ∧ ∀ e0 ∈ l2, (Lit.int .u8 e0).wf = true) → (l3.length ≤ maxLen ∧ ∀ e0 ∈ l3, e0.length ≤ maxLen ∧ ∀ e1 ∈ e0, (Lit.int .i64 e1).wf = true) → ∃ k, w13_PackAny.f k a0 a1 l2 l3 = some true
end Go.Proofs.Ytnmbndkojpjkmaa.packAny
