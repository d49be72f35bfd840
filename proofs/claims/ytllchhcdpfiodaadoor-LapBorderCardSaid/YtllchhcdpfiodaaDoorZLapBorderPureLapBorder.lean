/- LapBorder, over lists: a border that is turned, and turned back, is what it was; and no sample changes but the four on each side. -/
import Derived.Test.YtllchhcdpfiodaaDoorZLapBorderLapN
import Derived.Test.YtllchhcdpfiodaaDoorZLapBorderPuLapBorder
namespace Go.Proofs.YtllchhcdpfiodaaDoor.lapBorder
open Go Go.RowKit Go.Proofs.YtllchhcdpfiodaaDoorW.PrintWords Go.Proofs.YtllchhcdpfiodaaDoor.Prt Go.Proofs.YtllchhcdpfiodaaDoor.Lap Go.Proofs.YtllchhcdpfiodaaDoor.Wav
set_option linter.unusedVariables false
theorem TN_wi {x : List Int} {p : Nat} (hp : 4 ≤ p) (hx : p + 4 ≤ x.length) (h : Wi 262144 x) : Wi 1048576 (TN x p) := by
  intro v hv
  obtain ⟨i, hi, rfl⟩ := mem_at hv
  rw [TN_len] at hi
  by_cases c : i + 4 < p ∨ p + 4 ≤ i
  · unfold TN; rw [rts_off hp hx 4 (by omega) i c]; have := h _ (at_mem hi); omega
  · obtain ⟨k, hk, hik⟩ := pair_ex c hp
    have on := rts_on (f := U) (g := V) hp hx 4 (by omega) k hk
    have pb := pair_bd hk (h _ (at_mem (l := x) (i := p - 1 - k) (by omega))) (h _ (at_mem (l := x) (i := p + k) (by omega)))
    unfold TN
    rcases hik with e | e
    · rw [e, on.1]; omega
    · rw [e, on.2]; omega
theorem off_l0 {x : List Int} {p : Nat} (hp : 4 ≤ p) (hx : p + 4 ≤ x.length) (hl : x.length ≤ 1000) : ∀ (d i : Nat), i + d = x.length → Ev (fun k => psalterylaw09_LapBorder.l0 k x (p : Int) (TN x p) (i : Int)) true
  | 0, i, h => Ev.step (fun k => by rw [psalterylaw09_LapBorder.l0, if_neg (by omega)]) knows_j
  | d + 1, i, h => by
    have hi : i < x.length := by omega
    refine Ev.step (fun k => ?_) (off_l0 hp hx hl d (i + 1) (by omega))
    rw [psalterylaw09_LapBorder.l0, if_pos (by omega), w64 (x := (p : Int) - 4) (by omega) (by omega), w64 (x := (p : Int) + 4) (by omega) (by omega), w_nat (a := (i : Int) + 1) (n := i + 1) (by omega) (by omega), rd_nat, rd_nat, TN_len]
    by_cases c : (i : Int) < (p : Int) - 4
    · rw [if_pos c, if_pos (by omega), if_pos (by omega), if_pos]
      unfold TN; rw [rts_off hp hx 4 (by omega) i (by omega)]
    · rw [if_neg c]
      by_cases c2 : (i : Int) ≥ (p : Int) + 4
      · rw [if_pos c2, if_pos (by omega), if_pos (by omega), if_pos]
        unfold TN; rw [rts_off hp hx 4 (by omega) i (by omega)]
      · rw [if_neg c2]
theorem pure : Pu := by
  intro l p hl hp
  apply Ev.rounds
  have hp' := wf_i hp
  refine Ev.congr (fun k => by rw [psalterylaw09_LapBorder.f, psalterylaw09_great.f, Option.bind_some]) ?_
  by_cases hg : (l.length : Int) > 200
  · exact Ev.congr (fun k => by rw [if_pos (decide_eq_true hg)]) knows_j
  · refine Ev.congr (fun k => by rw [if_neg (by simpa using hg)]) (Ev.bind (Turn_f (by omega) hp') ?_)
    by_cases h : Wi 262144 l ∧ Bo l p
    · rw [if_pos h]
      obtain ⟨hw, hb⟩ := h
      have hb' : 4 ≤ p ∧ p + 4 ≤ l.length := hb
      obtain ⟨n, rfl⟩ : ∃ n : Nat, p = n := ⟨p.toNat, by omega⟩
      rw [Int.toNat_natCast]
      have hbk := Back_f (l := TN l n) (p := (n : Int)) (by rw [TN_len]; omega) hp'
      rw [if_pos ⟨TN_wi (by omega) (by omega) hw, by unfold Bo; rw [TN_len]; exact hb'⟩, Int.toNat_natCast, back_turn (by omega) (by omega) (fun v hv => by have := hw v hv; unfold inI; omega)] at hbk
      refine Ev.congr (fun k => by rw [if_pos rfl]) (Ev.bind hbk (Ev.congr (fun k => by rw [if_pos rfl]) (Ev.bind (same_e (l := l) (by omega)) ?_)))
      refine Ev.step (f := fun k => psalterylaw09_LapBorder.l0 k l (n : Int) (TN l n) ((0 : Nat) : Int)) (fun k => by rw [psalterylaw09_LapBorder.j0, if_neg (by decide)]; rfl) ?_
      exact off_l0 (by omega) (by omega) (by omega) l.length 0 (by omega)
    · rw [if_neg h]
      exact Ev.congr (fun k => by rw [if_neg (by decide), if_pos (show (([] : List Int).length : Int) = 0 from rfl)]) knows_j
end Go.Proofs.YtllchhcdpfiodaaDoor.lapBorder
