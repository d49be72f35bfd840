/- pvq: coefficients, norms and sizes: what the program's functions and the document's come to, on lists. -/
import Derived.Test.YtllgjhenbchkfaaZPvqAlonePvqC
import Derived.Test.YtllgjhenbchkfaaZPvqAlonePvqN
import Derived.Test.YtllgjhenbchkfaaZPvqAloneVal
import Derived.Test.YtllgjhenbchkfaaZPvqAloneM1
import Derived.Test.YtllgjhenbchkfaaZPvqAloneM2
namespace Go.Proofs.Ytllgjhenbchkfaa.Pvq
open Go Go.RowKit Go.Proofs.YtllgjhenbchkfaaW.PrintWords Go.Proofs.Ytllgjhenbchkfaa.Prt Go.Proofs.Ytllgjhenbchkfaa.Com Go.Proofs.Ytllgjhenbchkfaa.PvqN
set_option linter.unusedVariables false
set_option linter.unusedSimpArgs false
theorem w_succ {i n : Nat} (h : i < n) (hn : n ≤ 1000) : wrap64 ((i : Int) + 1) = ((i + 1 : Nat) : Int) := by rw [w64 (by omega) (by omega)]; omega
theorem drop_at {l : List Int} {i : Nat} (h : i < l.length) : l.drop i = l[i] :: l.drop (i + 1) := List.drop_eq_getElem_cons h
theorem drop_end {l : List Int} {i : Nat} (h : l.length ≤ i) : l.drop i = [] := List.drop_eq_nil_of_le h
def In (v : Int) : Prop := -1048576 ≤ v ∧ v ≤ 1048576
instance (v : Int) : Decidable (In v) := by unfold In; infer_instance
def Fr (l : List Int) : Prop := 1 ≤ l.length ∧ l.length ≤ 16 ∧ ∀ v ∈ l, In v
instance (l : List Int) : Decidable (Fr l) := by unfold Fr; infer_instance
theorem clamp_in {v : Int} (h : In v) : num_Clamp.f v (-1048576) 1048576 = some v := by
  unfold In at h; unfold num_Clamp.f; rw [if_neg (by omega), if_neg (by omega)]
theorem clamp_out {v : Int} (h : ¬ In v) : ∃ u, num_Clamp.f v (-1048576) 1048576 = some u ∧ v ≠ u := by
  unfold In at h; unfold num_Clamp.f
  by_cases h1 : v < -1048576
  · exact ⟨_, by rw [if_pos h1], by omega⟩
  · exact ⟨_, by rw [if_neg h1, if_pos (by omega)], by omega⟩
theorem fair_l0 {l : List Int} (hl : l.length ≤ 100) : ∀ (d i : Nat), i + d = l.length → Ev (fun k => pvq_fair.l0 k l l (l.length : Int) (i : Int)) (decide (1 ≤ l.length ∧ l.length ≤ 16 ∧ ∀ v ∈ l.drop i, In v))
  | 0, i, h => by
    refine Ev.step (f := fun _ => some (decide (1 ≤ l.length ∧ l.length ≤ 16 ∧ ∀ v ∈ l.drop i, In v))) (fun k => ?_) (Ev.now _)
    rw [pvq_fair.l0, if_neg (by omega), drop_end (by omega)]
    by_cases h1 : 1 ≤ l.length
    · rw [if_pos (by omega)]; simp [h1]; omega
    · rw [if_neg (by omega)]; simp [h1]
  | d + 1, i, h => by
    have hi : i < l.length := by omega
    have ih := fair_l0 hl d (i + 1) (by omega)
    by_cases hv : In l[i]
    · refine Ev.step (f := fun k => pvq_fair.l0 k l l (l.length : Int) ((i + 1 : Nat) : Int)) (fun k => ?_) ?_
      · rw [pvq_fair.l0, if_pos (by omega), if_pos (by omega), if_pos (by omega), rd_at hi, clamp_in hv, Option.bind_some, if_pos rfl, w_succ hi (by omega)]
      · rw [drop_at hi]; simpa [hv, -List.getElem_cons_drop] using ih
    · obtain ⟨u, hu, hne⟩ := clamp_out hv
      refine Ev.step (f := fun _ => some _) (fun k => ?_) (Ev.now _)
      rw [pvq_fair.l0, if_pos (by omega), if_pos (by omega), if_pos (by omega), rd_at hi, hu, Option.bind_some, if_neg hne, drop_at hi]
      simp [hv, -List.getElem_cons_drop]
theorem fair_f {l : List Int} (hl : l.length ≤ 100) : Ev (fun k => pvq_fair.f k l) (decide (Fr l)) := fair_l0 hl l.length 0 (by omega)
theorem sq_in {v c : Int} (h0 : -c ≤ v) (h1 : v ≤ c) : 0 ≤ v * v ∧ v * v ≤ c * c := by
  refine ⟨sq_nonneg v, ?_⟩
  have : 0 ≤ (c - v) * (c + v) := Int.mul_nonneg (by omega) (by omega)
  grind
def mag (v : Int) : Int := if v < 0 then -v else v
theorem mag_sq (v : Int) : mag v * mag v = v * v := by unfold mag; split <;> grind
theorem mag_nn (v : Int) : 0 ≤ mag v := by unfold mag; split <;> omega
theorem mag_in {v : Int} (h : In v) : mag v ≤ 1048576 := by unfold In at h; unfold mag; split <;> omega
theorem S2_le {c : Int} (hc : 0 ≤ c) : ∀ {l : List Int}, (∀ v ∈ l, -c ≤ v ∧ v ≤ c) → S2 l ≤ c * c * (l.length : Int)
  | [], _ => by simp [S2]
  | v :: l, h => by
    have := S2_le hc (l := l) (fun u hu => h u (List.mem_cons_of_mem _ hu))
    have := sq_in (h v (List.mem_cons_self)).1 (h v (List.mem_cons_self)).2
    simp only [S2, List.length_cons, Int.natCast_add, Int.cast_ofNat_Int]
    grind
def All (c : Int) (l : List Int) : Prop := ∀ v ∈ l, mag v < c
instance (c : Int) (l : List Int) : Decidable (All c l) := by unfold All; infer_instance
def hal (l : List Int) : Nat := if All 262144 l then 0 else if All 524288 l then 1 else if All 1048576 l then 2 else 3
def As (l : List Int) : List Int := l.map fun v => mag v / 2 ^ hal l
theorem As_len (l : List Int) : (As l).length = l.length := by simp [As]
theorem As_in {l : List Int} (hf : ∀ v ∈ l, In v) : ∀ a ∈ As l, 0 ≤ a ∧ a < 262144 := by
  intro a ha
  obtain ⟨v, hv, rfl⟩ := List.mem_map.1 ha
  have h0 := mag_nn v
  have h1 := mag_in (hf v hv)
  unfold hal
  split
  · rename_i h; have := h v hv; simp; omega
  · split
    · rename_i h; have := h v hv; simp only [Nat.pow_one, Int.pow_succ, Int.pow_zero]; omega
    · split
      · rename_i h; have := h v hv; simp only [Int.pow_succ, Int.pow_zero]; omega
      · simp only [Int.pow_succ, Int.pow_zero]; omega
theorem shr_nat (x : Int) (n : Nat) (h : n ≤ 64) : shr .i64 x (n : Int) = x / 2 ^ n := by
  unfold shr; rw [Int.toNat_natCast, Nat.min_eq_left (by simpa [IntKind.bits] using h)]
theorem mx_mag {v : Int} (h : In v) : mx v (wrap64 (-v)) = mag v := by
  unfold In at h; rw [w64 (by omega) (by omega)]; unfold mx mag; split <;> split <;> omega
def tops (x : Int) : List Int → Int
  | [] => x
  | v :: l => tops (mx (mx x v) (wrap64 (-v))) l
theorem tops_lt {c : Int} : ∀ {l : List Int} {x : Int}, (∀ v ∈ l, In v) → (tops x l < c ↔ x < c ∧ All c l)
  | [], x, _ => by simp [tops, All]
  | v :: l, x, h => by
    have hv := h v List.mem_cons_self
    have ih := tops_lt (c := c) (l := l) (x := mx (mx x v) (wrap64 (-v))) (fun u hu => h u (List.mem_cons_of_mem _ hu))
    have e : mx (mx x v) (wrap64 (-v)) < c ↔ x < c ∧ mag v < c := by
      unfold In at hv; rw [w64 (by omega) (by omega)]; unfold mx mag; split <;> split <;> split <;> omega
    simp only [tops]
    rw [ih, e]
    unfold All
    simp only [List.mem_cons, forall_eq_or_imp]
    constructor
    · rintro ⟨⟨a, b⟩, d⟩; exact ⟨a, b, d⟩
    · rintro ⟨a, b, d⟩; exact ⟨⟨a, b⟩, d⟩
theorem tops_nn : ∀ {l : List Int} {x : Int}, 0 ≤ x → 0 ≤ tops x l
  | [], x, h => h
  | v :: l, x, h => by
    simp only [tops]
    exact tops_nn (by unfold mx; split <;> split <;> omega)
theorem sizes_l2 {l : List Int} (hf : Fr l) {n : Nat} (hn : n ≤ 3) : ∀ (d i : Nat) (y : List Int), i + d = l.length → y.length = l.length → Ev (fun k => pvq_sizes.l2 k (n : Int) y l (l.length : Int) (i : Int)) (y.take i ++ (l.drop i).map (fun v => mag v / 2 ^ n))
  | 0, i, y, h, hy => by
    refine Ev.step (f := fun _ => some _) (fun k => ?_) (Ev.now _)
    rw [pvq_sizes.l2, if_neg (by omega), drop_end (by omega), List.map_nil, List.append_nil, List.take_of_length_le (by omega)]
  | d + 1, i, y, h, hy => by
    have hi : i < l.length := by omega
    have hv : In l[i] := hf.2.2 _ (List.getElem_mem hi)
    have hl := hf.2.1
    refine Ev.step (f := fun k => pvq_sizes.l2 k (n : Int) (y.set i (mag l[i] / 2 ^ n)) l (l.length : Int) ((i + 1 : Nat) : Int)) (fun k => ?_) ?_
    · rw [pvq_sizes.l2, if_pos (by omega), if_pos (by omega), if_pos (by omega), rd_at hi, mx_mag hv, num_Shift.f, if_neg (by omega), if_neg (by omega), u64 (by omega) (by omega), if_pos (by omega), Option.bind_some, if_pos (by omega), w_succ hi (by omega), shr_nat _ _ (by omega), Int.toNat_natCast]
    · have ih := sizes_l2 hf hn d (i + 1) (y.set i (mag l[i] / 2 ^ n)) (by omega) (by simpa using hy)
      have e : (y.set i (mag l[i] / 2 ^ n)).take (i + 1) ++ (l.drop (i + 1)).map (fun v => mag v / 2 ^ n) = y.take i ++ (l.drop i).map (fun v => mag v / 2 ^ n) := by
        rw [drop_at hi, List.map_cons, List.take_succ_eq_append_getElem (by simp; omega), List.getElem_set_self, List.append_assoc, List.take_set_of_le (Nat.le_refl i)]
        rfl
      rw [e] at ih; exact ih
theorem sizes_go {l : List Int} (hf : Fr l) {n : Nat} (hn : n ≤ 3) {t : Int} (h : t / 2 ^ n < 262144) : Ev (fun k => pvq_sizes.l1 k l t (n : Int)) (l.map fun v => mag v / 2 ^ n) := by
  have hl := hf.2.1
  refine Ev.step (f := fun k => pvq_sizes.l2 k (n : Int) (List.replicate l.length 0) l (l.length : Int) 0) (fun k => ?_) ?_
  · rw [pvq_sizes.l1, if_pos (by omega), shr_nat _ _ (by omega), if_neg (by omega), if_pos (by omega), Int.toNat_natCast, if_pos (by omega)]
  · have := sizes_l2 hf hn l.length 0 (List.replicate l.length 0) (by omega) (by simp)
    simpa using this
theorem sizes_more {l : List Int} {n : Nat} (hn : n ≤ 3) {t : Int} {r : List Int} (h : 262144 ≤ t / 2 ^ n) (k : Ev (fun k => pvq_sizes.l1 k l t ((n + 1 : Nat) : Int)) r) : Ev (fun k => pvq_sizes.l1 k l t (n : Int)) r := by
  refine Ev.step (fun k => ?_) k
  rw [pvq_sizes.l1, if_pos (by omega), shr_nat _ _ (by omega), if_pos (by omega), w_succ (n := 10) (by omega) (by omega)]
theorem sizes_l1 {l : List Int} (hf : Fr l) : Ev (fun k => pvq_sizes.l1 k l (tops 0 l) ((0 : Nat) : Int)) (As l) := by
  have hlt := fun c => tops_lt (c := c) (x := 0) hf.2.2
  have h0 : 0 ≤ tops 0 l := tops_nn (Int.le_refl _)
  have hmax : tops 0 l < 1048577 := (hlt _).2 ⟨by omega, fun v hv => by have := mag_in (hf.2.2 v hv); omega⟩
  unfold As hal
  generalize tops 0 l = t at *
  by_cases a : All 262144 l
  · rw [if_pos a]; have := (hlt 262144).2 ⟨by omega, a⟩
    exact sizes_go hf (by omega) (by simpa using this)
  have ha : 262144 ≤ t := by apply Int.not_lt.1; intro h; exact a ((hlt _).1 h).2
  rw [if_neg a]
  refine sizes_more (by omega) (by simpa using ha) ?_
  by_cases b : All 524288 l
  · rw [if_pos b]; have := (hlt 524288).2 ⟨by omega, b⟩
    exact sizes_go hf (by omega) (by simp only [Nat.zero_add, Int.pow_succ, Int.pow_zero]; omega)
  have hb : 524288 ≤ t := by apply Int.not_lt.1; intro h; exact b ((hlt _).1 h).2
  rw [if_neg b]
  refine sizes_more (by omega) (by simp only [Nat.zero_add, Int.pow_succ, Int.pow_zero]; omega) ?_
  by_cases c : All 1048576 l
  · rw [if_pos c]; have := (hlt 1048576).2 ⟨by omega, c⟩
    exact sizes_go hf (by omega) (by simp only [Nat.zero_add, Int.pow_succ, Int.pow_zero]; omega)
  have hc : 1048576 ≤ t := by apply Int.not_lt.1; intro h; exact c ((hlt _).1 h).2
  rw [if_neg c]
  refine sizes_more (by omega) (by simp only [Nat.zero_add, Int.pow_succ, Int.pow_zero]; omega) ?_
  exact sizes_go hf (by omega) (by simp only [Nat.zero_add, Int.pow_succ, Int.pow_zero]; omega)
theorem sizes_l0 {l : List Int} (hf : Fr l) : ∀ (d i : Nat) (t : Int), i + d = l.length → (∀ r, Ev (fun k => pvq_sizes.l1 k l (tops t (l.drop i)) 0) r → Ev (fun k => pvq_sizes.l0 k l t l (l.length : Int) (i : Int)) r)
  | 0, i, t, h, r, hr => by
    rw [drop_end (by omega)] at hr
    refine Ev.step (fun k => ?_) hr
    rw [pvq_sizes.l0, if_neg (by omega), tops]
  | d + 1, i, t, h, r, hr => by
    have hi : i < l.length := by omega
    have hl := hf.2.1
    rw [drop_at hi, tops] at hr
    refine Ev.step (fun k => ?_) (sizes_l0 hf d (i + 1) _ (by omega) r hr)
    rw [pvq_sizes.l0, if_pos (by omega), if_pos (by omega), if_pos (by omega), rd_at hi, w_succ hi (by omega)]
theorem sizes_f {l : List Int} (hf : Fr l) : Ev (fun k => pvq_sizes.f k l) (As l) := sizes_l0 hf l.length 0 0 (by omega) _ (by rw [List.drop_zero]; exact sizes_l1 hf)
end Go.Proofs.Ytllgjhenbchkfaa.Pvq
