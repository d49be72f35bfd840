/- The pulse vectors: the document's numbers, and the vectors of numbers, by the program and by the document. -/
import Derived.Test.YtnmbndkojpjkmaaZPackRightsComM
import Derived.Test.YtnmbndkojpjkmaaZPackRightsM2
import Derived.Test.YtnmbndkojpjkmaaZPackRightsM1
import Derived.Test.YtnmbndkojpjkmaaZPackRightsM5
import Derived.Test.YtnmbndkojpjkmaaZPackRightsM4
namespace Go.Proofs.Ytnmbndkojpjkmaa.Com
open Go Go.RowKit Go.Proofs.YtnmbndkojpjkmaaW.PrintWords Go.Proofs.Ytnmbndkojpjkmaa.Prt
set_option linter.unusedVariables false
set_option linter.unusedSimpArgs false
variable {V : Nat→Nat→Int}

theorem Unr.none (C : Cnt V) {kk : Nat} {i : Int} (hkk : kk < 13) (h0 : 0≤i) (h1 : i < V 0 kk) : Unr V 0 kk i []:=by
  rcases Nat.eq_zero_or_pos kk with rfl|h
  · rw [C.zero (by decide)] at h1
    exact ⟨rfl,by omega,rfl⟩
  · rw [C.none hkk h] at h1
    omega
end Go.Proofs.Ytnmbndkojpjkmaa.Com
