/- pvq: coefficients, norms and sizes: what the program's functions and the document's come to, on lists. -/
import Derived.Test.YtllgjhenbchkfaaZPvqSquaresPvqC
import Derived.Test.YtllgjhenbchkfaaZPvqSquaresPvqN
import Derived.Test.YtllgjhenbchkfaaZPvqSquaresVal
import Derived.Test.YtllgjhenbchkfaaZPvqSquaresM1
import Derived.Test.YtllgjhenbchkfaaZPvqSquaresM2
namespace Go.Proofs.Ytllgjhenbchkfaa.Pvq
open Go Go.RowKit Go.Proofs.YtllgjhenbchkfaaW.PrintWords Go.Proofs.Ytllgjhenbchkfaa.Prt Go.Proofs.Ytllgjhenbchkfaa.Com Go.Proofs.Ytllgjhenbchkfaa.PvqN
set_option linter.unusedVariables false
set_option linter.unusedSimpArgs false
theorem w_succ {i n : Nat} (h : i < n) (hn : n ≤ 1000) : wrap64 ((i : Int) + 1) = ((i + 1 : Nat) : Int) := by rw [w64 (by omega) (by omega)]; omega
theorem drop_at {l : List Int} {i : Nat} (h : i < l.length) : l.drop i = l[i] :: l.drop (i + 1) := List.drop_eq_getElem_cons h
theorem drop_end {l : List Int} {i : Nat} (h : l.length ≤ i) : l.drop i = [] := List.drop_eq_nil_of_le h
def In (v : Int) : Prop := -1048576 ≤ v ∧ v ≤ 1048576
instance (v : Int) : Decidable (In v) := by unfold In; infer_instance
def Fr (l : List Int) : Prop := 1 ≤ l.length ∧ l.length ≤ 16 ∧ ∀ v ∈ l, In v
instance (l : List Int) : Decidable (Fr l) := by unfold Fr; infer_instance
theorem clamp_in {v : Int} (h : In v) : num_Clamp.f v (-1048576) 1048576 = some v := by
  unfold In at h; unfold num_Clamp.f; rw [if_neg (by omega), if_neg (by omega)]
theorem clamp_out {v : Int} (h : ¬ In v) : ∃ u, num_Clamp.f v (-1048576) 1048576 = some u ∧ v ≠ u := by
  unfold In at h; unfold num_Clamp.f
  by_cases h1 : v < -1048576
  · exact ⟨_, by rw [if_pos h1], by omega⟩
  · exact ⟨_, by rw [if_neg h1, if_pos (by omega)], by omega⟩
theorem fair_l0 {l : List Int} (hl : l.length ≤ 100) : ∀ (d i : Nat), i + d = l.length → Ev (fun k => pvq_fair.l0 k l l (l.length : Int) (i : Int)) (decide (1 ≤ l.length ∧ l.length ≤ 16 ∧ ∀ v ∈ l.drop i, In v))
  | 0, i, h => by
    refine Ev.step (f := fun _ => some (decide (1 ≤ l.length ∧ l.length ≤ 16 ∧ ∀ v ∈ l.drop i, In v))) (fun k => ?_) (Ev.now _)
    rw [pvq_fair.l0, if_neg (by omega), drop_end (by omega)]
    by_cases h1 : 1 ≤ l.length
    · rw [if_pos (by omega)]; simp [h1]; omega
    · rw [if_neg (by omega)]; simp [h1]
  | d + 1, i, h => by
    have hi : i < l.length := by omega
    have ih := fair_l0 hl d (i + 1) (by omega)
    by_cases hv : In l[i]
    · refine Ev.step (f := fun k => pvq_fair.l0 k l l (l.length : Int) ((i + 1 : Nat) : Int)) (fun k => ?_) ?_
      · rw [pvq_fair.l0, if_pos (by omega), if_pos (by omega), if_pos (by omega), rd_at hi, clamp_in hv, Option.bind_some, if_pos rfl, w_succ hi (by omega)]
      · rw [drop_at hi]; simpa [hv, -List.getElem_cons_drop] using ih
    · obtain ⟨u, hu, hne⟩ := clamp_out hv
      refine Ev.step (f := fun _ => some _) (fun k => ?_) (Ev.now _)
      rw [pvq_fair.l0, if_pos (by omega), if_pos (by omega), if_pos (by omega), rd_at hi, hu, Option.bind_some, if_neg hne, drop_at hi]
      simp [hv, -List.getElem_cons_drop]
theorem fair_f {l : List Int} (hl : l.length ≤ 100) : Ev (fun k => pvq_fair.f k l) (decide (Fr l)) := fair_l0 hl l.length 0 (by omega)
theorem rfair_l0 {l : List Int} (hl : l.length ≤ 100) : ∀ (d i : Nat) (b : Bool), i + d = l.length → Ev (fun k => psalteryref07_Fair.l0 k l b (i : Int)) (b && decide (∀ v ∈ l.drop i, In v))
  | 0, i, b, h => by
    refine Ev.step (f := fun _ => some _) (fun k => ?_) (Ev.now _)
    rw [psalteryref07_Fair.l0, if_neg (by omega), drop_end (by omega)]
    simp
  | d + 1, i, b, h => by
    have hi : i < l.length := by omega
    cases b with
    | false =>
      refine Ev.step (f := fun k => psalteryref07_Fair.l0 k l false ((i + 1 : Nat) : Int)) (fun k => ?_) (by simpa using rfair_l0 hl d (i + 1) false (by omega))
      rw [psalteryref07_Fair.l0, if_pos (by omega), if_neg (by decide), w_succ hi (by omega)]
    | true =>
      refine Ev.step (f := fun k => psalteryref07_Fair.l0 k l (decide (In l[i])) ((i + 1 : Nat) : Int)) (fun k => ?_) ?_
      · rw [psalteryref07_Fair.l0, if_pos (by omega), if_pos rfl, if_pos (by omega), rd_at hi, w_succ hi (by omega)]
        by_cases h1 : l[i] ≥ -1048576
        · have e : decide (In l[i]) = decide (l[i] ≤ 1048576) := by rw [Bool.eq_iff_iff, decide_eq_true_iff, decide_eq_true_iff]; exact ⟨fun h => h.2, fun h => ⟨h1, h⟩⟩
          rw [if_pos h1, e]
        · have e : decide (In l[i]) = false := decide_eq_false (fun h => h1 h.1)
          rw [if_neg h1, e]
      · have ih := rfair_l0 hl d (i + 1) (decide (In l[i])) (by omega)
        rw [drop_at hi]; simpa [-List.getElem_cons_drop] using ih
theorem rfair_f {l : List Int} (hl : l.length ≤ 100) : Ev (fun k => psalteryref07_Fair.f k l) (decide (Fr l)) := by
  have hj : ∀ b : Bool, Ev (fun k => psalteryref07_Fair.j0 k l b) (b && decide (∀ v ∈ l, In v)) := fun b =>
    Ev.step (fun k => by rw [psalteryref07_Fair.j0]; rfl) (rfair_l0 hl l.length 0 b (by omega))
  by_cases h : 1 ≤ l.length
  · refine Ev.congr (f := fun k => psalteryref07_Fair.j0 k l (decide ((l.length : Int) ≤ 16))) (fun k => ?_) ?_
    · rw [psalteryref07_Fair.f, if_pos (by omega)]
    · have := hj (decide ((l.length : Int) ≤ 16))
      have e : decide (Fr l) = (decide ((l.length : Int) ≤ 16) && decide (∀ v ∈ l, In v)) := by
        rw [Bool.eq_iff_iff, Bool.and_eq_true, decide_eq_true_iff, decide_eq_true_iff, decide_eq_true_iff]; constructor
        · rintro ⟨_, b, c⟩; exact ⟨by omega, c⟩
        · rintro ⟨b, c⟩; exact ⟨h, by omega, c⟩
      rw [e]; exact this
  · refine Ev.congr (f := fun k => psalteryref07_Fair.j0 k l false) (fun k => ?_) ?_
    · rw [psalteryref07_Fair.f, if_neg (by omega)]
    · have := hj false
      have e : decide (Fr l) = false := decide_eq_false (fun x => h x.1)
      rw [e]; simpa using this
theorem sq_in {v c : Int} (h0 : -c ≤ v) (h1 : v ≤ c) : 0 ≤ v * v ∧ v * v ≤ c * c := by
  refine ⟨sq_nonneg v, ?_⟩
  have : 0 ≤ (c - v) * (c + v) := Int.mul_nonneg (by omega) (by omega)
  grind
def mag (v : Int) : Int := if v < 0 then -v else v
theorem mag_sq (v : Int) : mag v * mag v = v * v := by unfold mag; split <;> grind
theorem mag_nn (v : Int) : 0 ≤ mag v := by unfold mag; split <;> omega
theorem mag_in {v : Int} (h : In v) : mag v ≤ 1048576 := by unfold In at h; unfold mag; split <;> omega
theorem rsize_f {v : Int} (h : In v) : psalteryref07_size.f v = some (mag v) := by
  unfold In at h; unfold psalteryref07_size.f mag
  by_cases h1 : v < 0
  · rw [if_pos h1, if_pos h1, w64 (by omega) (by omega)]
  · rw [if_neg h1, if_neg h1]
theorem square_l0 {l : List Int} (hf : Fr l) : ∀ (d i : Nat) (s : Int), i + d = l.length → 0 ≤ s → s ≤ 1099511627776 * i → Ev (fun k => pvq_Square.l0 k s l (l.length : Int) (i : Int)) (s + S2 (l.drop i), 0)
  | 0, i, s, h, _, _ => by
    refine Ev.step (f := fun _ => some _) (fun k => ?_) (Ev.now _)
    rw [pvq_Square.l0, if_neg (by omega), drop_end (by omega)]
    simp [S2]
  | d + 1, i, s, h, h0, h1 => by
    have hi : i < l.length := by omega
    have hv : In l[i] := hf.2.2 _ (List.getElem_mem hi)
    have hq := sq_in hv.1 hv.2
    have hn := hf.2.1
    refine Ev.step (f := fun k => pvq_Square.l0 k (s + l[i] * l[i]) l (l.length : Int) ((i + 1 : Nat) : Int)) (fun k => ?_) ?_
    · rw [pvq_Square.l0, if_pos (by omega), if_pos (by omega), if_pos (by omega), rd_at hi, w_succ hi (by omega), w64 (x := l[i] * l[i]) (by omega) (by omega), u64 (x := l[i] * l[i]) (by omega) (by omega), u64 (by omega) (by omega)]
    · have ih := square_l0 hf d (i + 1) (s + l[i] * l[i]) (by omega) (by omega) (by omega)
      rw [drop_at hi, S2, ← Int.add_assoc]; exact ih
theorem square_ok {l : List Int} (hf : Fr l) : Ev (fun k => pvq_Square.f k l) (S2 l, 0) := by
  have h := square_l0 hf l.length 0 0 (by omega) (by omega) (by omega)
  have hn := hf.2.1
  refine Ev.bind (fair_f (by omega)) ?_
  refine Ev.congr (f := fun k => pvq_Square.l0 k 0 l (l.length : Int) 0) (fun k => ?_) ?_
  · rw [if_pos (by simpa using hf)]
  · rw [Int.zero_add, List.drop_zero] at h; exact h
theorem square_bad {l : List Int} (hl : l.length ≤ 100) (hf : ¬ Fr l) : Ev (fun k => pvq_Square.f k l) (0, 1) := by
  refine Ev.bind (fair_f hl) ?_
  refine Ev.congr (f := fun _ => some (0, 1)) (fun k => ?_) (Ev.now _)
  rw [if_neg (by simpa using hf)]
theorem rsquare_l0 {l : List Int} (hf : Fr l) : ∀ (d i : Nat) (s : Int), i + d = l.length → 0 ≤ s → s ≤ 1099511627776 * i → Ev (fun k => psalteryref07_Square.l0 k l s (i : Int)) (s + S2 (l.drop i))
  | 0, i, s, h, _, _ => by
    refine Ev.step (f := fun _ => some _) (fun k => ?_) (Ev.now _)
    rw [psalteryref07_Square.l0, if_neg (by omega), drop_end (by omega)]
    simp [S2]
  | d + 1, i, s, h, h0, h1 => by
    have hi : i < l.length := by omega
    have hv : In l[i] := hf.2.2 _ (List.getElem_mem hi)
    have hq := sq_in hv.1 hv.2
    have hm := mag_nn l[i]
    have hm1 := mag_in hv
    have hn := hf.2.1
    refine Ev.step (f := fun k => psalteryref07_Square.l0 k l (s + l[i] * l[i]) ((i + 1 : Nat) : Int)) (fun k => ?_) ?_
    · rw [psalteryref07_Square.l0, if_pos (by omega), if_pos (by omega), rd_at hi, rsize_f hv, Option.bind_some, w_succ hi (by omega), u64 (x := mag l[i]) (by omega) (by omega), mag_sq, u64 (x := l[i] * l[i]) (by omega) (by omega), u64 (by omega) (by omega)]
    · have ih := rsquare_l0 hf d (i + 1) (s + l[i] * l[i]) (by omega) (by omega) (by omega)
      rw [drop_at hi, S2, ← Int.add_assoc]; exact ih
theorem rsquare_f {l : List Int} (hf : Fr l) : Ev (fun k => psalteryref07_Square.f k l) (S2 l) := by
  have h := rsquare_l0 hf l.length 0 0 (by omega) (by omega) (by omega)
  rw [Int.zero_add, List.drop_zero] at h; exact h
def All (c : Int) (l : List Int) : Prop := ∀ v ∈ l, mag v < c
instance (c : Int) (l : List Int) : Decidable (All c l) := by unfold All; infer_instance
end Go.Proofs.Ytllgjhenbchkfaa.Pvq
