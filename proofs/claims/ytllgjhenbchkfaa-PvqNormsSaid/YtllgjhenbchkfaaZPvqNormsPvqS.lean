/- pvq: the pulse vector that is found: by the program and by the document. -/
import Derived.Test.YtllgjhenbchkfaaZPvqNormsPvqM
import Derived.Test.YtllgjhenbchkfaaZPvqNormsM1
namespace Go.Proofs.Ytllgjhenbchkfaa.Pvq
open Go Go.RowKit Go.Proofs.YtllgjhenbchkfaaW.PrintWords Go.Proofs.Ytllgjhenbchkfaa.Prt Go.Proofs.Ytllgjhenbchkfaa.Com Go.Proofs.Ytllgjhenbchkfaa.PvqN
set_option linter.unusedVariables false
set_option linter.unusedSimpArgs false
def sm : List Int → Int
  | [] => 0
  | v :: l => v + sm l
def at0 (l : List Int) (i : Nat) : Int := l.getD i 0
theorem at_get {l : List Int} {i : Nat} (h : i < l.length) : at0 l i = l[i] := by unfold at0; simp [h]
def add1 (y : List Int) (j : Nat) : List Int := y.set j (at0 y j + 1)
theorem add1_len (y : List Int) (j : Nat) : (add1 y j).length = y.length := by simp [add1]
theorem sm_add : ∀ (y : List Int) (j : Nat), j < y.length → sm (add1 y j) = sm y + 1
  | v :: y, 0, _ => by simp [add1, at0, sm]; omega
  | v :: y, j + 1, h => by
    have := sm_add y j (by simpa using h)
    simp only [add1, at0, List.set_cons_succ, List.getD_cons_succ, sm] at this ⊢; omega
theorem nn_sm : ∀ {y : List Int}, (∀ v ∈ y, 0 ≤ v) → 0 ≤ sm y
  | [], _ => Int.le_refl _
  | v :: y, h => by
    have := nn_sm (y := y) (fun u hu => h u (List.mem_cons_of_mem _ hu)); have := h v List.mem_cons_self; simp only [sm]; omega
theorem le_sm : ∀ {y : List Int}, (∀ v ∈ y, 0 ≤ v) → ∀ v ∈ y, v ≤ sm y
  | v :: y, h, u, hu => by
    have h1 : ∀ u ∈ y, 0 ≤ u := fun u hu => h u (List.mem_cons_of_mem _ hu)
    have := nn_sm h1; have := h v List.mem_cons_self
    simp only [sm]
    rcases List.mem_cons.1 hu with rfl | hu
    · omega
    · have := le_sm h1 u hu; omega
structure Gd (a y : List Int) (n : Nat) : Prop where
  len : a.length = y.length
  one : 1 ≤ y.length
  few : y.length ≤ 16
  sz : ∀ v ∈ a, 0 ≤ v ∧ v < 262144
  nn : ∀ v ∈ y, 0 ≤ v
  sum : sm y = n
theorem at_mem {l : List Int} {i : Nat} (h : i < l.length) : at0 l i ∈ l := by rw [at_get h]; exact List.getElem_mem h
theorem Gd.add {a y : List Int} {n j : Nat} (g : Gd a y n) (hj : j < y.length) : Gd a (add1 y j) (n + 1) where
  len := by rw [add1_len]; exact g.len
  one := by rw [add1_len]; exact g.one
  few := by rw [add1_len]; exact g.few
  sz := g.sz
  nn := by
    intro v hv
    rcases List.mem_or_eq_of_mem_set hv with h | h
    · exact g.nn v h
    · have := g.nn _ (at_mem hj); omega
  sum := by rw [sm_add y j hj, g.sum]; omega
theorem Gd.at {a y : List Int} {n : Nat} (g : Gd a y n) (hn : n ≤ 13) {i : Nat} (hi : i < y.length) : 0 ≤ at0 a i ∧ at0 a i < 262144 ∧ 0 ≤ at0 y i ∧ at0 y i ≤ n := by
  have h1 := g.sz _ (at_mem (l := a) (by rw [g.len]; exact hi))
  have h2 := g.nn _ (at_mem hi); have h3 := le_sm g.nn _ (at_mem hi); rw [g.sum] at h3
  exact ⟨h1.1, h1.2, h2, h3⟩
end Go.Proofs.Ytllgjhenbchkfaa.Pvq
