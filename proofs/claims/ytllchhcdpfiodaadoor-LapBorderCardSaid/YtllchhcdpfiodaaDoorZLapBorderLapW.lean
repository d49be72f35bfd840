/- What the wave's functions come to, on lists. -/
import Derived.Test.YtllchhcdpfiodaaDoorZLapBorderWavM
import Derived.Test.YtllchhcdpfiodaaDoorZLapBorderWMore
import Derived.Test.YtllchhcdpfiodaaDoorZLapBorderM1
import Derived.Test.YtllchhcdpfiodaaDoorZLapBorderM2
namespace Go.Proofs.YtllchhcdpfiodaaDoor.Wav
open Go Go.RowKit Go.Proofs.YtllchhcdpfiodaaDoorW.PrintWords Go.Proofs.YtllchhcdpfiodaaDoor.Prt
set_option linter.unusedVariables false
set_option linter.unusedSimpArgs false

theorem w64 {x : Int} (h0 : -9223372036854775808 ≤ x) (h1 : x ≤ 9223372036854775807) : wrap64 x = x := by unfold wrap64; omega
theorem rd_at {l : List Int} {i : Nat} (h : i < l.length) : rd l (i : Int) = l[i] := by
  unfold rd
  rw [Int.toNat_natCast, List.getD_eq_getElem?_getD, List.getElem?_eq_getElem h, Option.getD_some]
theorem same_l0 {l : List Int} (hl : l.length ≤ 1000) : ∀ (d i k : Nat), i + d = l.length → psalteryref07_Same.l0 (k + d + 1) l l (i : Int) = some true := by
  intro d
  induction d with
  | zero =>
    intro i k h
    rw [psalteryref07_Same.l0]
    rw [if_neg (by omega)]
  | succ d ih =>
    intro i k h
    rw [show k + (d + 1) + 1 = (k + d + 1) + 1 by omega]
    rw [psalteryref07_Same.l0]
    rw [if_pos (by omega), if_pos (by omega), if_pos (by omega), if_pos rfl, w64 (by omega) (by omega), show (i : Int) + 1 = ((i + 1 : Nat) : Int) by omega]
    exact ih (i + 1) k (by omega)
theorem same_f {l : List Int} (hl : l.length ≤ 1000) {k : Nat} (hk : l.length < k) : psalteryref07_Same.f k l l = some true := by
  unfold psalteryref07_Same.f
  rw [if_pos rfl]
  obtain ⟨j, rfl⟩ : ∃ j, k = j + l.length + 1 := ⟨k - l.length - 1, by omega⟩
  exact same_l0 hl l.length 0 j (by omega)

theorem clamp_f (v : Int) {m : Int} (hm : 0 ≤ m) (hm1 : m ≤ 1000000000000) : ∃ u, num_Clamp.f v (wrap64 (-m)) m = some u ∧ (v = u ↔ -m ≤ v ∧ v ≤ m) := by
  rw [w64 (by omega) (by omega)]
  unfold num_Clamp.f
  by_cases h : v < -m
  · exact ⟨-m, by rw [if_pos h], by omega⟩
  · by_cases h' : v > m
    · exact ⟨m, by rw [if_neg h, if_pos h'], by omega⟩
    · exact ⟨v, by rw [if_neg h, if_neg h'], by omega⟩
end Go.Proofs.YtllchhcdpfiodaaDoor.Wav
