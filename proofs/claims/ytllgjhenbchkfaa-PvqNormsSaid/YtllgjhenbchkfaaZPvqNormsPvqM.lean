/- pvq: coefficients, norms and sizes: what the program's functions and the document's come to, on lists. -/
import Derived.Test.YtllgjhenbchkfaaZPvqNormsPvqC
import Derived.Test.YtllgjhenbchkfaaZPvqNormsPvqN
import Derived.Test.YtllgjhenbchkfaaZPvqNormsVal
import Derived.Test.YtllgjhenbchkfaaZPvqNormsM1
import Derived.Test.YtllgjhenbchkfaaZPvqNormsM2
namespace Go.Proofs.Ytllgjhenbchkfaa.Pvq
open Go Go.RowKit Go.Proofs.YtllgjhenbchkfaaW.PrintWords Go.Proofs.Ytllgjhenbchkfaa.Prt Go.Proofs.Ytllgjhenbchkfaa.Com Go.Proofs.Ytllgjhenbchkfaa.PvqN
set_option linter.unusedVariables false
set_option linter.unusedSimpArgs false
theorem w_succ {i n : Nat} (h : i < n) (hn : n ≤ 1000) : wrap64 ((i : Int) + 1) = ((i + 1 : Nat) : Int) := by rw [w64 (by omega) (by omega)]; omega
theorem drop_at {l : List Int} {i : Nat} (h : i < l.length) : l.drop i = l[i] :: l.drop (i + 1) := List.drop_eq_getElem_cons h
theorem drop_end {l : List Int} {i : Nat} (h : l.length ≤ i) : l.drop i = [] := List.drop_eq_nil_of_le h
def In (v : Int) : Prop := -1048576 ≤ v ∧ v ≤ 1048576
instance (v : Int) : Decidable (In v) := by unfold In; infer_instance
def Fr (l : List Int) : Prop := 1 ≤ l.length ∧ l.length ≤ 16 ∧ ∀ v ∈ l, In v
instance (l : List Int) : Decidable (Fr l) := by unfold Fr; infer_instance
theorem clamp_in {v : Int} (h : In v) : num_Clamp.f v (-1048576) 1048576 = some v := by
  unfold In at h; unfold num_Clamp.f; rw [if_neg (by omega), if_neg (by omega)]
theorem clamp_out {v : Int} (h : ¬ In v) : ∃ u, num_Clamp.f v (-1048576) 1048576 = some u ∧ v ≠ u := by
  unfold In at h; unfold num_Clamp.f
  by_cases h1 : v < -1048576
  · exact ⟨_, by rw [if_pos h1], by omega⟩
  · exact ⟨_, by rw [if_neg h1, if_pos (by omega)], by omega⟩
theorem fair_l0 {l : List Int} (hl : l.length ≤ 100) : ∀ (d i : Nat), i + d = l.length → Ev (fun k => pvq_fair.l0 k l l (l.length : Int) (i : Int)) (decide (1 ≤ l.length ∧ l.length ≤ 16 ∧ ∀ v ∈ l.drop i, In v))
  | 0, i, h => by
    refine Ev.step (f := fun _ => some (decide (1 ≤ l.length ∧ l.length ≤ 16 ∧ ∀ v ∈ l.drop i, In v))) (fun k => ?_) (Ev.now _)
    rw [pvq_fair.l0, if_neg (by omega), drop_end (by omega)]
    by_cases h1 : 1 ≤ l.length
    · rw [if_pos (by omega)]; simp [h1]; omega
    · rw [if_neg (by omega)]; simp [h1]
  | d + 1, i, h => by
    have hi : i < l.length := by omega
    have ih := fair_l0 hl d (i + 1) (by omega)
    by_cases hv : In l[i]
    · refine Ev.step (f := fun k => pvq_fair.l0 k l l (l.length : Int) ((i + 1 : Nat) : Int)) (fun k => ?_) ?_
      · rw [pvq_fair.l0, if_pos (by omega), if_pos (by omega), if_pos (by omega), rd_at hi, clamp_in hv, Option.bind_some, if_pos rfl, w_succ hi (by omega)]
      · rw [drop_at hi]; simpa [hv, -List.getElem_cons_drop] using ih
    · obtain ⟨u, hu, hne⟩ := clamp_out hv
      refine Ev.step (f := fun _ => some _) (fun k => ?_) (Ev.now _)
      rw [pvq_fair.l0, if_pos (by omega), if_pos (by omega), if_pos (by omega), rd_at hi, hu, Option.bind_some, if_neg hne, drop_at hi]
      simp [hv, -List.getElem_cons_drop]
theorem fair_f {l : List Int} (hl : l.length ≤ 100) : Ev (fun k => pvq_fair.f k l) (decide (Fr l)) := fair_l0 hl l.length 0 (by omega)
theorem sq_in {v c : Int} (h0 : -c ≤ v) (h1 : v ≤ c) : 0 ≤ v * v ∧ v * v ≤ c * c := by
  refine ⟨sq_nonneg v, ?_⟩
  have : 0 ≤ (c - v) * (c + v) := Int.mul_nonneg (by omega) (by omega)
  grind
def mag (v : Int) : Int := if v < 0 then -v else v
theorem mag_sq (v : Int) : mag v * mag v = v * v := by unfold mag; split <;> grind
theorem S2_le {c : Int} (hc : 0 ≤ c) : ∀ {l : List Int}, (∀ v ∈ l, -c ≤ v ∧ v ≤ c) → S2 l ≤ c * c * (l.length : Int)
  | [], _ => by simp [S2]
  | v :: l, h => by
    have := S2_le hc (l := l) (fun u hu => h u (List.mem_cons_of_mem _ hu))
    have := sq_in (h v (List.mem_cons_self)).1 (h v (List.mem_cons_self)).2
    simp only [S2, List.length_cons, Int.natCast_add, Int.cast_ofNat_Int]
    grind
theorem square_l0 {l : List Int} (hf : Fr l) : ∀ (d i : Nat) (s : Int), i + d = l.length → 0 ≤ s → s ≤ 1099511627776 * i → Ev (fun k => pvq_Square.l0 k s l (l.length : Int) (i : Int)) (s + S2 (l.drop i), 0)
  | 0, i, s, h, _, _ => by
    refine Ev.step (f := fun _ => some _) (fun k => ?_) (Ev.now _)
    rw [pvq_Square.l0, if_neg (by omega), drop_end (by omega)]
    simp [S2]
  | d + 1, i, s, h, h0, h1 => by
    have hi : i < l.length := by omega
    have hv : In l[i] := hf.2.2 _ (List.getElem_mem hi)
    have hq := sq_in hv.1 hv.2
    have hn := hf.2.1
    refine Ev.step (f := fun k => pvq_Square.l0 k (s + l[i] * l[i]) l (l.length : Int) ((i + 1 : Nat) : Int)) (fun k => ?_) ?_
    · rw [pvq_Square.l0, if_pos (by omega), if_pos (by omega), if_pos (by omega), rd_at hi, w_succ hi (by omega), w64 (x := l[i] * l[i]) (by omega) (by omega), u64 (x := l[i] * l[i]) (by omega) (by omega), u64 (by omega) (by omega)]
    · have ih := square_l0 hf d (i + 1) (s + l[i] * l[i]) (by omega) (by omega) (by omega)
      rw [drop_at hi, S2, ← Int.add_assoc]; exact ih
theorem square_ok {l : List Int} (hf : Fr l) : Ev (fun k => pvq_Square.f k l) (S2 l, 0) := by
  have h := square_l0 hf l.length 0 0 (by omega) (by omega) (by omega)
  have hn := hf.2.1
  refine Ev.bind (fair_f (by omega)) ?_
  refine Ev.congr (f := fun k => pvq_Square.l0 k 0 l (l.length : Int) 0) (fun k => ?_) ?_
  · rw [if_pos (by simpa using hf)]
  · rw [Int.zero_add, List.drop_zero] at h; exact h
theorem square_bad {l : List Int} (hl : l.length ≤ 100) (hf : ¬ Fr l) : Ev (fun k => pvq_Square.f k l) (0, 1) := by
  refine Ev.bind (fair_f hl) ?_
  refine Ev.congr (f := fun _ => some (0, 1)) (fun k => ?_) (Ev.now _)
  rw [if_neg (by simpa using hf)]
def All (c : Int) (l : List Int) : Prop := ∀ v ∈ l, mag v < c
instance (c : Int) (l : List Int) : Decidable (All c l) := by unfold All; infer_instance
end Go.Proofs.Ytllgjhenbchkfaa.Pvq
