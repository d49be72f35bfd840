/- LapSignals, over lists: the signal of frames is the one that the document says, or the error is told. -/
import Derived.Test.YtllchhcdpfiodaaDoorZLapSignalsLapO
import Derived.Test.YtllchhcdpfiodaaDoorZLapSignalsPuLapSignals
namespace Go.Proofs.YtllchhcdpfiodaaDoor.lapSignals
open Go Go.RowKit Go.Proofs.YtllchhcdpfiodaaDoorW.PrintWords Go.Proofs.YtllchhcdpfiodaaDoor.Prt Go.Proofs.YtllchhcdpfiodaaDoor.Lap
theorem pure : Pu := by
  intro l a hl ha
  apply Ev.rounds
  obtain ⟨b, hb, hb2⟩ := wide_f hl.1
  refine Ev.bind hb ?_
  cases b with
  | true => exact Ev.congr (fun k => by rw [if_pos rfl]) knows_j
  | false =>
    obtain ⟨h30, hr⟩ := hb2 rfl
    refine Ev.congr (fun k => by rw [if_neg (by decide)]) ?_
    have bad : Ev (fun k => (psalteryref07_Same.f k [] []).bind fun t420 => (if t420 = true then (if (((1 : Int) == 0) == false) = true then (if false = true then ((psalterylaw09_knows.f k).bind fun t421 => (some t421)) else (if (1 : Int) = 1 then ((psalterylaw09_knows.f k).bind fun t422 => (some t422)) else (none))) else (none)) else (none))) true :=
      Ev.bind (same_e (l := []) (by simp)) (Ev.congr (fun k => by rw [if_pos rfl, if_pos (by decide), if_neg (by decide), if_pos rfl]) knows_j)
    by_cases h : a = 8 ∨ a = 16 ∨ a = 32
    · obtain ⟨s, rfl, hs⟩ := sz_int h
      refine Ev.bind (signal_f h30 hr hs) (Ev.bind (rsignal_f h30 hr hs) ?_)
      by_cases hg : ∀ c ∈ l, Gr s c
      · rw [if_pos hg, if_pos hg]
        have hq := lg_pow hs
        have hn := sig_len hs hg
        have hms : l.length * s ≤ 1000 := by have := Nat.mul_le_mul h30 hq.2.2.2.2; omega
        refine Ev.bind (same_e (l := bl (sig s l) s (l.length - 1)) (by rw [bl_len]; omega)) ?_
        exact Ev.congr (fun k => by rw [if_pos rfl, if_pos (show (((0 : Int) == 0) == true) = true from by decide), if_pos rfl]) knows_j
      · rw [if_neg hg, if_neg hg]; exact bad
    · obtain ⟨e1, e2⟩ := signal_bad l h
      exact Ev.bind e1 (Ev.bind e2 bad)
end Go.Proofs.YtllchhcdpfiodaaDoor.lapSignals
