/- What a number of a pulse vector costs, by the program and by the document: the same. -/
import Derived.Test.YtnmbndkojpjkmaaZPackRightsComR
import Derived.Test.YtnmbndkojpjkmaaZPackRightsM1
import Derived.Test.YtnmbndkojpjkmaaZPackRightsM5
namespace Go.Proofs.Ytnmbndkojpjkmaa.Com
open Go Go.RowKit Go.Proofs.YtnmbndkojpjkmaaW.PrintWords Go.Proofs.Ytnmbndkojpjkmaa.Prt
set_option linter.unusedVariables false
set_option linter.unusedSimpArgs false
variable {V : Nat→Nat→Int}
structure Cst (K : Nat→Nat→Int) : Prop where
  cost : ∀ {n k : Nat},1≤n→n≤16→k < 13→0≤K n k∧K n k≤60∧(k=0→K n k=0)∧∀ q,3000≤q→comb_Cost.f q (n : Int) (k : Int)=some (K n k,0)∧psalteryref06_Cost.f q (n : Int) (k : Int)=some (K n k)
end Go.Proofs.Ytnmbndkojpjkmaa.Com
