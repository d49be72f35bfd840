/- The pulse vectors: the document's numbers, and the vectors of numbers, by the program and by the document. -/
import Derived.Test.YtgjdgpkjdffhkaaZCombSumsComM
import Derived.Test.YtgjdgpkjdffhkaaZCombSumsM1
namespace Go.Proofs.Ytgjdgpkjdffhkaa.Com
open Go Go.RowKit Go.Proofs.YtgjdgpkjdffhkaaW.PrintWords Go.Proofs.Ytgjdgpkjdffhkaa.Prt
set_option linter.unusedVariables false
set_option linter.unusedSimpArgs false
variable {V : Nat → Nat → Int}

theorem wpred {a : Nat} (ha : a ≤ 1000) : wrap64 (((a + 1 : Nat) : Int) - 1) = (a : Int) := by rw [w64 (by omega) (by omega)]; omega
theorem Unr.none (C : Cnt V) {kk : Nat} {i : Int} (hkk : kk < 13) (h0 : 0 ≤ i) (h1 : i < V 0 kk) : Unr V 0 kk i [] := by
  rcases Nat.eq_zero_or_pos kk with rfl | h
  · rw [C.zero (by decide)] at h1
    exact ⟨rfl, by omega, rfl⟩
  · rw [C.none hkk h] at h1
    omega
theorem fair_ok {n k : Nat} (hn : 1 ≤ n) (hn' : n ≤ 16) (hk : k < 13) : comb_fair.f (n : Int) (k : Int) = some true ∧ psalteryref06_Fair.f (n : Int) (k : Int) = some true := by
  unfold comb_fair.f psalteryref06_Fair.f
  rw [if_pos (by omega), if_pos (by omega), if_pos (by omega), decide_eq_true (by omega), if_pos (by omega)]
  exact ⟨rfl, rfl⟩
theorem count_ok (C : Cnt V) {n k : Nat} (hn : 1 ≤ n) (hn' : n ≤ 16) (hk : k < 13) : comb_Count.f (n : Int) (k : Int) = some (V n k, 0) := by
  unfold comb_Count.f
  rw [(fair_ok hn hn' hk).1, Option.bind_some, if_pos rfl, C.table (by omega) hk, Option.bind_some]
end Go.Proofs.Ytgjdgpkjdffhkaa.Com
