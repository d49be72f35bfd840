/- LapBacks, over lists: a border is turned back as the document says, or the error is told. -/
import Derived.Test.YtllchhcdpfiodaaDoorZLapBacksLapM
import Derived.Test.YtllchhcdpfiodaaDoorZLapBacksPuLapBacks
namespace Go.Proofs.YtllchhcdpfiodaaDoor.lapBacks
open Go Go.RowKit Go.Proofs.YtllchhcdpfiodaaDoorW.PrintWords Go.Proofs.YtllchhcdpfiodaaDoor.Prt Go.Proofs.YtllchhcdpfiodaaDoor.Lap
theorem pure : Pu := by
  intro l p hl hp
  apply Ev.rounds
  have hp' := wf_i hp
  refine Ev.congr (fun k => by rw [psalterylaw09_LapBacks.f, psalterylaw09_great.f, Option.bind_some]) ?_
  by_cases hg : (l.length : Int) > 200
  · exact Ev.congr (fun k => by rw [if_pos (decide_eq_true hg)]) knows_j
  · refine Ev.congr (fun k => by rw [if_neg (by simpa using hg)]) (Ev.bind (Back_f (by omega) hp') (Ev.bind (rwithin_f (m := 1048576) (l := l) (by decide) (by decide) (by omega)) ?_))
    have hj : Ev (fun k => psalterylaw09_LapBacks.j0 k l p [] 1 true) true := Ev.step (fun k => by rw [psalterylaw09_LapBacks.j0, if_pos rfl, if_pos (show (([] : List Int).length : Int) = 0 from rfl), if_pos rfl]) knows_j
    by_cases h : Wi 1048576 l
    · refine Ev.congr (fun k => by rw [if_pos (by simpa using h), rborder_f (by omega) hp', Option.bind_some]) ?_
      by_cases b : Bo l p
      · have hb : 4 ≤ p ∧ p + 4 ≤ l.length := b
        rw [if_pos ⟨h, b⟩]
        refine Ev.congr (f := fun k => psalterylaw09_LapBacks.j0 k l p (BK l p.toNat) 0 false) (fun k => by rw [decide_eq_true hb]; rfl) ?_
        obtain ⟨n, rfl⟩ : ∃ n : Nat, p = n := ⟨p.toNat, by omega⟩
        rw [Int.toNat_natCast]
        refine Ev.step (fun k => by rw [psalterylaw09_LapBacks.j0, if_neg (by decide)]) (Ev.bind (rback_f (x := l) (by omega) (by omega) (by omega) (by omega)) (Ev.bind (same_e (l := BK l n) (by rw [BK_len]; omega)) ?_))
        exact Ev.congr (fun k => by rw [if_pos rfl, if_pos rfl]) knows_j
      · rw [if_neg (fun x => b x.2)]
        exact Ev.congr (fun k => by rw [decide_eq_false (show ¬ (4 ≤ p ∧ p + 4 ≤ (l.length : Int)) from b)]; rfl) hj
    · rw [if_neg (fun x => h x.1)]
      exact Ev.congr (fun k => by rw [if_neg (by simpa using h)]) hj
end Go.Proofs.YtllchhcdpfiodaaDoor.lapBacks
