/- LapFrames, over lists: a signal's frames are those that the document says, or the error is told. -/
import Derived.Test.YtllchhcdpfiodaaDoorZLapFramesLapN
import Derived.Test.YtllchhcdpfiodaaDoorZLapFramesPuLapFrames
namespace Go.Proofs.YtllchhcdpfiodaaDoor.lapFrames
open Go Go.RowKit Go.Proofs.YtllchhcdpfiodaaDoorW.PrintWords Go.Proofs.YtllchhcdpfiodaaDoor.Prt Go.Proofs.YtllchhcdpfiodaaDoor.Lap
theorem pure : Pu := by
  intro l a hl ha
  apply Ev.rounds
  refine Ev.congr (fun k => by rw [psalterylaw09_LapFrames.f, psalterylaw09_great.f, Option.bind_some]) ?_
  by_cases hg : (l.length : Int) > 200
  · exact Ev.congr (fun k => by rw [if_pos (decide_eq_true hg)]) knows_j
  · refine Ev.congr (fun k => by rw [if_neg (by simpa using hg)]) ?_
    have hj : Ev (fun k => psalterylaw09_LapFrames.j0 k l a [] 1 true) true := Ev.step (fun k => by rw [psalterylaw09_LapFrames.j0, if_pos rfl, if_pos (show (([] : List (List Int)).length : Int) = 0 from rfl), if_pos rfl]) knows_j
    by_cases h : Wi 262144 l ∧ (a = 8 ∨ a = 16 ∨ a = 32)
    · obtain ⟨hw, ha'⟩ := h
      obtain ⟨s, rfl, hs⟩ := sz_int ha'
      obtain ⟨m, hm, hm1, hm2⟩ := fl_len hs l
      have hp := lg_pow hs
      obtain ⟨e1, e2⟩ := frames_ok hs (by omega) hw hm hm2
      refine Ev.bind e1 (Ev.bind (rwithin_f (m := 262144) (l := l) (by decide) (by decide) (by omega)) ?_)
      refine Ev.congr (f := fun k => psalterylaw09_LapFrames.j0 k l (s : Int) (frs l s m) 0 false) (fun k => by
        rw [if_pos (by simpa using hw)]
        rcases hs with rfl | rfl | rfl
        · rw [if_pos (by rfl)]
        · rw [if_neg (by decide), if_pos (by rfl)]
        · rw [if_neg (by decide), if_neg (by decide)]; rfl) ?_
      refine Ev.step (fun k => by rw [psalterylaw09_LapFrames.j0, if_neg (by decide)]) (Ev.bind e2 (Ev.bind (sf_f (l := frs l s m) ?_ ?_) ?_))
      · have : m ≤ m * s := Nat.le_mul_of_pos_right m (by omega)
        unfold frs; rw [fr_len]; omega
      · intro c hc
        have := fr_row hs (by rw [tl_len]; exact hm) c hc
        omega
      · exact Ev.congr (fun k => by rw [if_pos rfl, if_pos rfl]) knows_j
    · refine Ev.bind (frames_bad (by omega) h) (Ev.bind (rwithin_f (m := 262144) (l := l) (by decide) (by decide) (by omega)) ?_)
      by_cases hw : Wi 262144 l
      · have ha' : ¬ a = 8 ∧ ¬ a = 16 ∧ ¬ a = 32 := ⟨fun e => h ⟨hw, .inl e⟩, fun e => h ⟨hw, .inr (.inl e)⟩, fun e => h ⟨hw, .inr (.inr e)⟩⟩
        exact Ev.congr (fun k => by rw [if_pos (by simpa using hw), if_neg ha'.1, if_neg ha'.2.1, show (a != 32) = true from bne_iff_ne.2 ha'.2.2]) hj
      · exact Ev.congr (fun k => by rw [if_neg (by simpa using hw)]) hj
end Go.Proofs.YtllchhcdpfiodaaDoor.lapFrames
