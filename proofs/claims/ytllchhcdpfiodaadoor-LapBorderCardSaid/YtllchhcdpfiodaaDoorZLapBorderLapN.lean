/- lap: a signal's frames, and the signal of frames: by the program and by the document. -/
import Derived.Test.YtllchhcdpfiodaaDoorZLapBorderLapM
import Derived.Test.YtllchhcdpfiodaaDoorZLapBorderM2
import Derived.Test.YtllchhcdpfiodaaDoorZLapBorderM1
namespace Go.Proofs.YtllchhcdpfiodaaDoor.Lap
open Go Go.RowKit Go.Proofs.YtllchhcdpfiodaaDoorW.PrintWords Go.Proofs.YtllchhcdpfiodaaDoor.Prt Go.Proofs.YtllchhcdpfiodaaDoor.Wav
set_option linter.unusedVariables false
set_option linter.unusedSimpArgs false
def Sz (s : Nat) : Prop := s = 8 ∨ s = 16 ∨ s = 32
instance (s : Nat) : Decidable (Sz s) := by unfold Sz; infer_instance
theorem pair_bd {u v : Int} {k : Nat} (hk : k < 4) (hu : -262144 ≤ u ∧ u ≤ 262144) (hv : -262144 ≤ v ∧ v ≤ 262144) : (-524288 ≤ U u v k ∧ U u v k ≤ 524288) ∧ (-524288 ≤ V u v k ∧ V u v k ≤ 524288) := by
  have key : ∀ c : Int, -7 ≤ c → c ≤ 7 → 0 ≤ c → ∀ w : Int, -393216 ≤ w → w ≤ 393216 → -172033 ≤ wrap64 (w * c) / 16 ∧ wrap64 (w * c) / 16 ≤ 172033 := by
    intro c c0 c1 c2 w w0 w1
    have h1 : w * c ≤ 393216 * c := Int.mul_le_mul_of_nonneg_right w1 c2
    have h2 : -393216 * c ≤ w * c := Int.mul_le_mul_of_nonneg_right w0 c2
    rw [w64 (by omega) (by omega)]; omega
  have hc : (-7 : Int) ≤ 7 - 2 * (k : Int) ∧ 7 - 2 * (k : Int) ≤ 7 ∧ 0 ≤ 7 - 2 * (k : Int) := by omega
  have key2 : ∀ c : Int, c ≤ 7 → 0 ≤ c → ∀ w : Int, -262144 ≤ w → w ≤ 262144 → -114689 ≤ wrap64 (w * c) / 16 ∧ wrap64 (w * c) / 16 ≤ 114689 := by
    intro c c1 c2 w w0 w1
    have h1 : w * c ≤ 262144 * c := Int.mul_le_mul_of_nonneg_right w1 c2
    have h2 : -262144 * c ≤ w * c := Int.mul_le_mul_of_nonneg_right w0 c2
    rw [w64 (by omega) (by omega)]; omega
  have p1 := key2 _ hc.2.1 hc.2.2 u hu.1 hu.2
  have hV : -376833 ≤ V u v k ∧ V u v k ≤ 376833 := by
    unfold V pt; rw [w64 (x := v - _) (by omega) (by omega)]; omega
  have p2 := key _ hc.1 hc.2.1 hc.2.2 (V u v k) (by omega) (by omega)
  refine ⟨?_, by omega⟩
  unfold U pt; rw [w64 (x := u + _) (by omega) (by omega)]; omega
end Go.Proofs.YtllchhcdpfiodaaDoor.Lap
