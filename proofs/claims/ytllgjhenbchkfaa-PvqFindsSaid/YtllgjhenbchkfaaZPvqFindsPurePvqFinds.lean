/- PvqFinds, over lists: the pulse vector that is found is the one that the document says, or the error is told. -/
import Derived.Test.YtllgjhenbchkfaaZPvqFindsPvqK
import Derived.Test.YtllgjhenbchkfaaZPvqFindsPuPvqFinds
namespace Go.Proofs.Ytllgjhenbchkfaa.pvqFinds
open Go Go.RowKit Go.Proofs.YtllgjhenbchkfaaW.PrintWords Go.Proofs.Ytllgjhenbchkfaa.Prt Go.Proofs.Ytllgjhenbchkfaa.Pvq
theorem pure : Pu := by
  intro l K hl hK
  apply Ev.rounds
  by_cases hg : (l.length : Int) > 100
  · exact Ev.congr (fun k => by rw [psalterylaw07_PvqFinds.f, if_pos hg]) knows_j
  · refine Ev.congr (fun k => by rw [psalterylaw07_PvqFinds.f, if_neg hg]) ?_
    by_cases h : Fr l ∧ 0 ≤ K ∧ K ≤ 12
    · obtain ⟨hf, h0, h1⟩ := h
      obtain ⟨n, rfl⟩ : ∃ n : Nat, K = n := ⟨K.toNat, by omega⟩
      refine Ev.bind (search_ok hf (by omega)) (Ev.bind (rfair_f (by omega)) ?_)
      refine Ev.congr (f := fun k => psalterylaw07_PvqFinds.j0 k l n (sg l (Ps l n)) 0 false) (fun k => by rw [if_pos (by simpa using hf), if_neg (by omega), decide_eq_false (by omega)]) ?_
      refine Ev.step (fun k => by rw [psalterylaw07_PvqFinds.j0, if_neg (by decide)]) (Ev.bind (rsearch_f hf (by omega)) ?_)
      have e := sg_len (Ps_len hf n)
      refine Ev.bind (same6_f (by omega)) ?_
      exact Ev.congr (fun k => by rw [if_pos rfl, if_pos rfl]) knows_j
    · refine Ev.bind (search_bad (by omega) h) (Ev.bind (rfair_f (by omega)) ?_)
      have hj : Ev (fun k => psalterylaw07_PvqFinds.j0 k l K [] 1 true) true := Ev.step (fun k => by rw [psalterylaw07_PvqFinds.j0, if_pos rfl, if_pos (show (([] : List Int).length : Int) = 0 from rfl), if_pos rfl]) knows_j
      refine Ev.congr (fun k => ?_) hj
      by_cases hf : Fr l
      · rw [if_pos (by simpa using hf)]
        by_cases h0 : K < 0
        · rw [if_pos h0]
        · rw [if_neg h0, decide_eq_true (by apply Classical.byContradiction; intro e; exact h ⟨hf, by omega, by omega⟩)]
      · rw [if_neg (by simpa using hf)]
end Go.Proofs.Ytllgjhenbchkfaa.pvqFinds
