/- PvqSquares, over lists: the norm's square is the one that the document says, or the error is told. -/
import Derived.Test.YtllgjhenbchkfaaZPvqSquaresPvqK
import Derived.Test.YtllgjhenbchkfaaZPvqSquaresPuPvqSquares
namespace Go.Proofs.Ytllgjhenbchkfaa.pvqSquares
open Go Go.RowKit Go.Proofs.YtllgjhenbchkfaaW.PrintWords Go.Proofs.Ytllgjhenbchkfaa.Prt Go.Proofs.Ytllgjhenbchkfaa.Pvq
theorem pure : Pu := by
  intro l hl
  apply Ev.rounds
  by_cases hg : (l.length : Int) > 100
  · exact Ev.congr (fun k => by rw [psalterylaw07_PvqSquares.f, if_pos hg]) knows_j
  · refine Ev.congr (fun k => by rw [psalterylaw07_PvqSquares.f, if_neg hg]) ?_
    by_cases hf : Fr l
    · refine Ev.bind (square_ok hf) (Ev.bind (rfair_f (by omega)) ?_)
      refine Ev.congr (fun k => by rw [if_pos (by simpa using hf)]) (Ev.bind (rsquare_f hf) ?_)
      exact Ev.congr (fun k => by rw [if_pos rfl, if_pos rfl]) knows_j
    · refine Ev.bind (square_bad (by omega) hf) (Ev.bind (rfair_f (by omega)) ?_)
      exact Ev.congr (fun k => by rw [if_neg (by simpa using hf), if_pos rfl, if_pos rfl]) knows_j
end Go.Proofs.Ytllgjhenbchkfaa.pvqSquares
