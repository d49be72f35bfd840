/- LapTurns, over lists: a border is turned as the document says, or the error is told. -/
import Derived.Test.YtllchhcdpfiodaaDoorZLapTurnsLapM
import Derived.Test.YtllchhcdpfiodaaDoorZLapTurnsPuLapTurns
namespace Go.Proofs.YtllchhcdpfiodaaDoor.lapTurns
open Go Go.RowKit Go.Proofs.YtllchhcdpfiodaaDoorW.PrintWords Go.Proofs.YtllchhcdpfiodaaDoor.Prt Go.Proofs.YtllchhcdpfiodaaDoor.Lap
theorem pure : Pu := by
  intro l p hl hp
  apply Ev.rounds
  have hp' := wf_i hp
  refine Ev.congr (fun k => by rw [psalterylaw09_LapTurns.f, psalterylaw09_great.f, Option.bind_some]) ?_
  by_cases hg : (l.length : Int) > 200
  · exact Ev.congr (fun k => by rw [if_pos (decide_eq_true hg)]) knows_j
  · refine Ev.congr (fun k => by rw [if_neg (by simpa using hg)]) (Ev.bind (Turn_f (by omega) hp') (Ev.bind (rwithin_f (m := 262144) (l := l) (by decide) (by decide) (by omega)) (Ev.bind (right_f (l := l) (by omega)) ?_)))
    have hj : Ev (fun k => psalterylaw09_LapTurns.j0 k l p [] 1 true) true := Ev.step (fun k => by rw [psalterylaw09_LapTurns.j0, if_pos rfl, if_pos (show (([] : List Int).length : Int) = 0 from rfl), if_pos rfl]) knows_j
    refine Ev.congr (fun k => by rw [if_neg (by simp)]) ?_
    by_cases h : Wi 262144 l
    · refine Ev.congr (fun k => by rw [if_pos (by simpa using h), rborder_f (by omega) hp', Option.bind_some]) ?_
      by_cases b : Bo l p
      · have hb : 4 ≤ p ∧ p + 4 ≤ l.length := b
        rw [if_pos ⟨h, b⟩]
        refine Ev.congr (f := fun k => psalterylaw09_LapTurns.j0 k l p (TN l p.toNat) 0 false) (fun k => by rw [decide_eq_true hb]; rfl) ?_
        obtain ⟨n, rfl⟩ : ∃ n : Nat, p = n := ⟨p.toNat, by omega⟩
        rw [Int.toNat_natCast]
        refine Ev.step (fun k => by rw [psalterylaw09_LapTurns.j0, if_neg (by decide)]) (Ev.bind (rturn_f (x := l) (by omega) (by omega) (by omega) (by omega)) (Ev.bind (same_e (l := TN l n) (by rw [TN_len]; omega)) ?_))
        exact Ev.congr (fun k => by rw [if_pos rfl, if_pos rfl]) knows_j
      · rw [if_neg (fun x => b x.2)]
        exact Ev.congr (fun k => by rw [decide_eq_false (show ¬ (4 ≤ p ∧ p + 4 ≤ (l.length : Int)) from b)]; rfl) hj
    · rw [if_neg (fun x => h x.1)]
      exact Ev.congr (fun k => by rw [if_neg (by simpa using h)]) hj
end Go.Proofs.YtllchhcdpfiodaaDoor.lapTurns
