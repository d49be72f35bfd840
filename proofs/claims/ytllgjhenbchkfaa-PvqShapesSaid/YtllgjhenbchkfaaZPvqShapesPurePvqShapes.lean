/- PvqShapes, over lists: a shape is the one that the document says, or the error is told. -/
import Derived.Test.YtllgjhenbchkfaaZPvqShapesPvqT
import Derived.Test.YtllgjhenbchkfaaZPvqShapesPuPvqShapes
namespace Go.Proofs.Ytllgjhenbchkfaa.pvqShapes
open Go Go.RowKit Go.Proofs.YtllgjhenbchkfaaW.PrintWords Go.Proofs.Ytllgjhenbchkfaa.Prt Go.Proofs.Ytllgjhenbchkfaa.Com Go.Proofs.Ytllgjhenbchkfaa.Pvq Go.Proofs.Ytllgjhenbchkfaa.PvqN
theorem pure : Pu := by
  intro l r hl hr
  apply Ev.rounds
  by_cases hg : (l.length : Int) > 100
  · exact Ev.congr (fun k => by rw [psalterylaw07_PvqShapes.f, if_pos hg]) knows_j
  · refine Ev.congr (fun k => by rw [psalterylaw07_PvqShapes.f, if_neg hg]) ?_
    have hp : Ev (fun k => psalteryref06_Pulses.f k l) (szs l) := ⟨200, fun k hk => refPulses_f (by omega) (by omega)⟩
    by_cases h : Pv l ∧ 0 ≤ r ∧ r ≤ 4194304
    · obtain ⟨hv, h0, h1⟩ := h
      have hn := hv.2.1
      have fin : ∀ z : List Int, z.length = l.length → Ev (fun k => pvq_Shape.f k l r) (z, 0) → Ev (fun k => psalteryref07_Shape.f k l r) z → Ev (fun k => (pvq_Shape.f k l r).bind fun bt281 => (if (l.length : Int) < 1 then (psalterylaw07_PvqShapes.j0 k l r bt281.1 bt281.2 true) else (if (l.length : Int) > 16 then (psalterylaw07_PvqShapes.j0 k l r bt281.1 bt281.2 true) else ((psalteryref06_Pulses.f k l).bind fun t285 => (if t285 > 12 then (psalterylaw07_PvqShapes.j0 k l r bt281.1 bt281.2 true) else (if r < 0 then (psalterylaw07_PvqShapes.j0 k l r bt281.1 bt281.2 true) else (psalterylaw07_PvqShapes.j0 k l r bt281.1 bt281.2 (decide (r > 4194304))))))))) true := by
        intro z hz a b
        refine Ev.bind a ?_
        refine Ev.congr (fun k => by rw [if_neg (by have := hv.1; omega), if_neg (by omega)]) (Ev.bind hp ?_)
        refine Ev.congr (f := fun k => psalterylaw07_PvqShapes.j0 k l r z 0 false) (fun k => by rw [if_neg (by have := hv.2.2; omega), if_neg (by omega), decide_eq_false (by omega)]) ?_
        refine Ev.step (fun k => by rw [psalterylaw07_PvqShapes.j0, if_neg (by decide)]) (Ev.bind b (Ev.bind (same7_f (l := z) (by omega)) ?_))
        exact Ev.congr (fun k => by rw [if_pos rfl, if_pos rfl]) knows_j
      have hs := S2_pv hv
      by_cases hz : S2 l = 0
      · have := shape_zero hv h0 h1 hz
        exact fin _ (by simp) this.1 this.2
      · obtain ⟨N, _, _, _, _, a, b⟩ := shape_some hv h0 h1 (by omega)
        exact fin _ (by simp) a b
    · refine Ev.bind (shape_bad (by omega) h) ?_
      have hj : Ev (fun k => psalterylaw07_PvqShapes.j0 k l r [] 1 true) true := Ev.step (fun k => by rw [psalterylaw07_PvqShapes.j0, if_pos rfl, if_pos (show (([] : List Int).length : Int) = 0 from rfl), if_pos rfl]) knows_j
      by_cases h1 : (l.length : Int) < 1
      · exact Ev.congr (fun k => by rw [if_pos h1]) hj
      by_cases h2 : (l.length : Int) > 16
      · exact Ev.congr (fun k => by rw [if_neg h1, if_pos h2]) hj
      refine Ev.congr (fun k => by rw [if_neg h1, if_neg h2]) (Ev.bind hp ?_)
      by_cases h3 : szs l > 12
      · exact Ev.congr (fun k => by rw [if_pos h3]) hj
      by_cases h4 : r < 0
      · exact Ev.congr (fun k => by rw [if_neg h3, if_pos h4]) hj
      have h5 : r > 4194304 := by
        apply Int.not_le.1; intro h5
        exact h ⟨⟨by omega, by omega, by omega⟩, by omega, h5⟩
      exact Ev.congr (fun k => by rw [if_neg h3, if_neg h4, decide_eq_true h5]) hj
end Go.Proofs.Ytllgjhenbchkfaa.pvqShapes
