/- The document's rows. -/
import Derived.Test.YtnmbndkojpjkmaaZPackRightsPakR
import Derived.Test.YtnmbndkojpjkmaaZPackRightsM3
namespace Go.Proofs.Ytnmbndkojpjkmaa.Pak
open Go.RowKit Go.Proofs.YtnmbndkojpjkmaaW.PrintWords Go.Proofs.Ytnmbndkojpjkmaa.Prt
theorem knows_k : ∀ k,300≤k→psalterylaw13_knows.f k=some true:=fun k hk=>at_rounds psalterylaw13_knows.mono hk (by decide +kernel)
end Go.Proofs.Ytnmbndkojpjkmaa.Pak
