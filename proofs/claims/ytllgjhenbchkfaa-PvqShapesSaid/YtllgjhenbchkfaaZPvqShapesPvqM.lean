/- pvq: coefficients, norms and sizes: what the program's functions and the document's come to, on lists. -/
import Derived.Test.YtllgjhenbchkfaaZPvqShapesPvqC
import Derived.Test.YtllgjhenbchkfaaZPvqShapesPvqN
import Derived.Test.YtllgjhenbchkfaaZPvqShapesVal
import Derived.Test.YtllgjhenbchkfaaZPvqShapesM1
import Derived.Test.YtllgjhenbchkfaaZPvqShapesM2
namespace Go.Proofs.Ytllgjhenbchkfaa.Pvq
open Go Go.RowKit Go.Proofs.YtllgjhenbchkfaaW.PrintWords Go.Proofs.Ytllgjhenbchkfaa.Prt Go.Proofs.Ytllgjhenbchkfaa.Com Go.Proofs.Ytllgjhenbchkfaa.PvqN
set_option linter.unusedVariables false
set_option linter.unusedSimpArgs false
theorem w_succ {i n : Nat} (h : i < n) (hn : n ≤ 1000) : wrap64 ((i : Int) + 1) = ((i + 1 : Nat) : Int) := by rw [w64 (by omega) (by omega)]; omega
theorem drop_at {l : List Int} {i : Nat} (h : i < l.length) : l.drop i = l[i] :: l.drop (i + 1) := List.drop_eq_getElem_cons h
theorem drop_end {l : List Int} {i : Nat} (h : l.length ≤ i) : l.drop i = [] := List.drop_eq_nil_of_le h
def In (v : Int) : Prop := -1048576 ≤ v ∧ v ≤ 1048576
instance (v : Int) : Decidable (In v) := by unfold In; infer_instance
def Fr (l : List Int) : Prop := 1 ≤ l.length ∧ l.length ≤ 16 ∧ ∀ v ∈ l, In v
instance (l : List Int) : Decidable (Fr l) := by unfold Fr; infer_instance
theorem sq_in {v c : Int} (h0 : -c ≤ v) (h1 : v ≤ c) : 0 ≤ v * v ∧ v * v ≤ c * c := by
  refine ⟨sq_nonneg v, ?_⟩
  have : 0 ≤ (c - v) * (c + v) := Int.mul_nonneg (by omega) (by omega)
  grind
def mag (v : Int) : Int := if v < 0 then -v else v
theorem mag_sq (v : Int) : mag v * mag v = v * v := by unfold mag; split <;> grind
theorem S2_le {c : Int} (hc : 0 ≤ c) : ∀ {l : List Int}, (∀ v ∈ l, -c ≤ v ∧ v ≤ c) → S2 l ≤ c * c * (l.length : Int)
  | [], _ => by simp [S2]
  | v :: l, h => by
    have := S2_le hc (l := l) (fun u hu => h u (List.mem_cons_of_mem _ hu))
    have := sq_in (h v (List.mem_cons_self)).1 (h v (List.mem_cons_self)).2
    simp only [S2, List.length_cons, Int.natCast_add, Int.cast_ofNat_Int]
    grind
def All (c : Int) (l : List Int) : Prop := ∀ v ∈ l, mag v < c
instance (c : Int) (l : List Int) : Decidable (All c l) := by unfold All; infer_instance
end Go.Proofs.Ytllgjhenbchkfaa.Pvq
