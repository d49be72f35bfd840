/- PvqNorms, over lists: a shape's norm differs from the radius by not more than its 255th part and 3. -/
import Derived.Test.YtllgjhenbchkfaaZPvqNormsPvqT
import Derived.Test.YtllgjhenbchkfaaZPvqNormsPuPvqNorms
namespace Go.Proofs.Ytllgjhenbchkfaa.pvqNorms
open Go Go.RowKit Go.Proofs.YtllgjhenbchkfaaW.PrintWords Go.Proofs.Ytllgjhenbchkfaa.Prt Go.Proofs.Ytllgjhenbchkfaa.Com Go.Proofs.Ytllgjhenbchkfaa.Pvq Go.Proofs.Ytllgjhenbchkfaa.PvqN
set_option linter.unusedVariables false
theorem rdn_near {a N : Int} (hN : 1 ≤ N) : -N ≤ 2 * (N * rdn a N - a) ∧ 2 * (N * rdn a N - a) ≤ N := by
  have r0 := Int.emod_nonneg a (show N ≠ 0 by omega)
  have r1 := Int.emod_lt_of_pos a (show 0 < N by omega)
  have e := Int.emod_add_mul_ediv a N
  unfold rdn
  generalize a % N = c at *
  generalize hq : a / N = q at *
  by_cases h : c ≥ N - c
  · rw [if_pos h]
    have e2 : N * (q + 1) = N * q + N := by grind
    omega
  · rw [if_neg h]; omega
theorem dv_near {a N : Int} (hN : 1 ≤ N) : -N ≤ 2 * (N * dv a N - a) ∧ 2 * (N * dv a N - a) ≤ N := by
  unfold dv
  by_cases h : a < 0
  · rw [if_pos h]
    have := rdn_near (a := -a) hN
    have e : N * -(rdn (-a) N) = -(N * rdn (-a) N) := by grind
    omega
  · rw [if_neg h]; exact rdn_near hN
theorem near {r N : Int} (hN : 1 ≤ N) : ∀ y : List Int, Near r N y (y.map (fun p => dv (p * r * 256) N))
  | [] => trivial
  | p :: y => by
    simp only [List.map_cons, Near]
    have := dv_near (a := p * r * 256) hN
    have e : p * r * 256 = 256 * r * p := by grind
    rw [e] at this
    rw [e]
    exact ⟨this, near hN y⟩
theorem el_root {y : List Int} {N : Int} (hN : 0 ≤ N) (h : 65536 * S2 y < (N + 1) * (N + 1)) : ∀ p ∈ y, -N ≤ 256 * p ∧ 256 * p ≤ N := by
  have hle : ∀ {y : List Int} {p : Int}, p ∈ y → p * p ≤ S2 y := by
    intro y
    induction y with
    | nil => intro p hp; cases hp
    | cons a y ih =>
      intro p hp
      have := S2_nonneg y; have := sq_nonneg a
      simp only [S2]
      rcases List.mem_cons.1 hp with rfl | hp
      · omega
      · have := ih hp; omega
  intro p hp
  have h1 := hle hp
  have key : ∀ q : Int, q * q ≤ S2 y → 256 * q ≤ N := by
    intro q hq
    apply Int.not_lt.1; intro hlt
    have := mul_mono (a := N + 1) (c := N + 1) (b := 256 * q) (d := 256 * q) (by omega) (by omega) (by omega) (by omega)
    have e : 256 * q * (256 * q) = 65536 * (q * q) := by grind
    omega
  have k1 := key p h1
  have k2 := key (-p) (by rw [Int.neg_mul_neg]; exact h1)
  omega
theorem dv_in {p r N : Int} (hN : 1 ≤ N) (hr : 0 ≤ r) (h : -N ≤ 256 * p ∧ 256 * p ≤ N) : -r ≤ dv (p * r * 256) N ∧ dv (p * r * 256) N ≤ r := by
  have d := dv_near (a := p * r * 256) hN
  have a1 : (256 * p) * r ≤ N * r := Int.mul_le_mul_of_nonneg_right h.2 hr
  have a2 : (-N) * r ≤ (256 * p) * r := Int.mul_le_mul_of_nonneg_right h.1 hr
  have e : p * r * 256 = 256 * p * r := by grind
  rw [e] at d
  rw [e]
  generalize dv (256 * p * r) N = x at d
  have m2 : -N * r = -(N * r) := by grind
  constructor
  · apply Int.not_lt.1; intro hlt
    have : N * x ≤ N * (-r - 1) := Int.mul_le_mul_of_nonneg_left (by omega) (by omega)
    have e3 : N * (-r - 1) = -(N * r) - N := by grind
    omega
  · apply Int.not_lt.1; intro hlt
    have : N * (r + 1) ≤ N * x := Int.mul_le_mul_of_nonneg_left (by omega) (by omega)
    have e3 : N * (r + 1) = N * r + N := by grind
    omega
theorem szs_zero : ∀ {y : List Int}, szs y ≤ 12 → S2 y = 0 → szs y = 0
  | [], _, _ => rfl
  | p :: y, h, h0 => by
    have h1 := szs_in y; have h2 := sz_in p; have h3 := S2_nonneg y; have h4 := sq_nonneg p
    simp only [szs] at h ⊢
    simp only [S2] at h0
    have ih := szs_zero (y := y) (by omega) (by omega)
    have hp : p * p = 0 := by omega
    have hp0 : p = 0 := by rcases Int.mul_eq_zero.1 hp with h | h <;> exact h
    subst hp0
    rw [ih]; rfl
theorem pure : Pu := by
  intro l r hl hr
  apply Ev.rounds
  have hj : Ev (fun k => psalterylaw07_PvqNorms.j0 k l r true) true := Ev.step (fun k => by rw [psalterylaw07_PvqNorms.j0, if_pos rfl]) knows_j
  by_cases hg : (l.length : Int) > 16
  · exact Ev.congr (fun k => by rw [psalterylaw07_PvqNorms.f, if_pos hg]) hj
  · have hp : Ev (fun k => psalteryref06_Pulses.f k l) (szs l) := ⟨200, fun k hk => refPulses_f (by omega) (by omega)⟩
    refine Ev.congr (fun k => by rw [psalterylaw07_PvqNorms.f, if_neg hg]) (Ev.bind hp ?_)
    by_cases hz : szs l = 0
    · rw [show (szs l == 0) = true by simp [hz]]; exact hj
    rw [show (szs l == 0) = false by simp [hz]]
    refine Ev.step (fun k => by rw [psalterylaw07_PvqNorms.j0, if_neg (by decide)]) ?_
    by_cases h : Pv l ∧ 0 ≤ r ∧ r ≤ 4194304
    · obtain ⟨hv, h0, h1⟩ := h
      have hs := S2_pv hv
      obtain ⟨N, hN, hN1, hP, hP1, a, _⟩ := shape_some hv h0 h1 (by
        have : S2 l ≠ 0 := fun e => hz (szs_zero hv.2.2 e)
        omega)
      refine Ev.bind a (Ev.congr (fun k => by rw [if_pos rfl]) ?_)
      have hel := el_root (by omega) hP1
      generalize hx : l.map (fun p => dv (p * r * 256) N) = x
      have hxl : x.length = l.length := by rw [← hx]; simp
      have hxr : ∀ v ∈ x, -r ≤ v ∧ v ≤ r := by
        intro v hv'
        rw [← hx] at hv'
        obtain ⟨p, hp, rfl⟩ := List.mem_map.1 hv'
        exact dv_in (by omega) h0 (hel p hp)
      by_cases hf : Fr x
      · have hq : S2 x ≤ 17592186044416 := by
          have := S2_le (c := 1048576) (by omega) hf.2.2; have := hf.2.1; omega
        obtain ⟨s, s0, s1, s2, s3, _, s4⟩ := root_ex (S2_nonneg x) (by omega)
        refine Ev.bind (square_ok hf) (Ev.congr (fun k => by rw [if_pos rfl]) (Ev.bind s4 ?_))
        have nm := norm (r := r) (N := N) (s := s) (y := l) (x := x) h0 hN (by have := hv.2.1; omega) (by rw [← hx]; exact near (by omega) l) hP hP1 s0 s2 s3
        have e1 : Int.tdiv r 255 = r / 255 := Int.tdiv_eq_ediv_of_nonneg h0
        rw [w64 (x := s) (by omega) (by omega), w64 (x := s - r) (by omega) (by omega), e1, w64 (x := r / 255) (by omega) (by omega), w64 (x := r / 255 + 3) (by omega) (by omega), w64 (x := -(s - r)) (by omega) (by omega)]
        by_cases c : s - r < 0
        · exact Ev.congr (fun k => by rw [if_pos c, if_pos (by omega)]) knows_j
        · exact Ev.congr (fun k => by rw [if_neg c, if_pos (by omega)]) knows_j
      · refine Ev.bind (square_bad (l := x) (by have := hv.2.1; omega) hf) ?_
        have hr5 : r > 1043576 := by
          apply Int.not_le.1; intro hle
          exact hf ⟨by have := hv.1; omega, by have := hv.2.1; omega, fun v hv' => by have := hxr v hv'; unfold In; omega⟩
        exact Ev.congr (fun k => by rw [if_neg (show ¬ ((0, 1) : Int × Int).2 = 0 by decide), if_pos hr5]) knows_j
    · refine Ev.bind (shape_bad (by omega) h) ?_
      exact Ev.congr (fun k => by rw [if_neg (show ¬ (([], 1) : List Int × Int).2 = 0 by decide), if_pos (show (([] : List Int).length : Int) = 0 from rfl)]) knows_j
end Go.Proofs.Ytllgjhenbchkfaa.pvqNorms
