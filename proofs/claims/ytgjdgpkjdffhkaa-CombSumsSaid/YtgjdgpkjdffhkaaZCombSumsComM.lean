/- The pulse vectors and their numbers: what the program's functions and the document's come to, on numbers and lists. -/
import Derived.Test.YtgjdgpkjdffhkaaZCombSumsComV
import Derived.Test.YtgjdgpkjdffhkaaZCombSumsM1
namespace Go.Proofs.Ytgjdgpkjdffhkaa.Com
open Go Go.RowKit Go.Proofs.YtgjdgpkjdffhkaaW.PrintWords Go.Proofs.Ytgjdgpkjdffhkaa.Prt
set_option linter.unusedVariables false
set_option linter.unusedSimpArgs false

theorem w64 {x : Int} (h0 : -9223372036854775808 ≤ x) (h1 : x ≤ 9223372036854775807) : wrap64 x = x := by unfold wrap64; omega
theorem u64 {x : Int} (h0 : 0 ≤ x) (h1 : x ≤ 18446744073709551615) : IntKind.u64.wrap x = x := by
  have h : IntKind.u64.wrap x = x % 18446744073709551616 := by simp [IntKind.wrap, IntKind.bits, IntKind.signed]
  rw [h]
  omega
variable {V : Nat → Nat → Int}
theorem VV (C : Cnt V) {n k : Nat} (hn : n < 17) (hk : k < 13) : 0 ≤ V n k ∧ V n k ≤ 1000000000000 := C.all hn hk
def Unr (V : Nat → Nat → Int) : Nat → Nat → Int → List Int → Prop
  | 0, k, i, y => k = 0 ∧ i = 0 ∧ y = []
  | n + 1, k, i, y => ∃ p ys, y = pval p :: ys ∧ psz p ≤ k ∧ P V n k p ≤ i ∧ i < P V n k (p + 1) ∧ Unr V n (k - psz p) (i - P V n k p) ys
def sz (v : Int) : Int := if -12 ≤ v ∧ v ≤ 12 then (if v < 0 then -v else v) else 13
end Go.Proofs.Ytgjdgpkjdffhkaa.Com
