/- lap: a signal's frames, and the signal of frames: by the program and by the document. -/
import Derived.Test.YtllchhcdpfiodaaDoorZLapSignalsLapM
import Derived.Test.YtllchhcdpfiodaaDoorZLapSignalsM2
import Derived.Test.YtllchhcdpfiodaaDoorZLapSignalsM1
namespace Go.Proofs.YtllchhcdpfiodaaDoor.Lap
open Go Go.RowKit Go.Proofs.YtllchhcdpfiodaaDoorW.PrintWords Go.Proofs.YtllchhcdpfiodaaDoor.Prt Go.Proofs.YtllchhcdpfiodaaDoor.Wav
set_option linter.unusedVariables false
set_option linter.unusedSimpArgs false
def Sz (s : Nat) : Prop := s = 8 ∨ s = 16 ∨ s = 32
instance (s : Nat) : Decidable (Sz s) := by unfold Sz; infer_instance
def lg (s : Nat) : Nat := if s = 8 then 3 else if s = 16 then 4 else 5
theorem lg_pow {s : Nat} (h : Sz s) : 2 ^ lg s = s ∧ lg s ≤ 5 ∧ 1 ≤ lg s ∧ 8 ≤ s ∧ s ≤ 32 := by rcases h with rfl | rfl | rfl <;> decide
theorem bord {s m n : Nat} (hs : 8 ≤ s) (h : n + 2 ≤ m) : 4 ≤ (n + 1) * s ∧ (n + 1) * s + 4 ≤ m * s ∧ (n + 1) * s + s ≤ m * s ∧ n * s + 8 ≤ (n + 1) * s := by
  have h1 : (n + 2) * s ≤ m * s := Nat.mul_le_mul_right s h
  have h2 : (n + 2) * s = (n + 1) * s + s := Nat.succ_mul _ _
  have h3 : (n + 1) * s = n * s + s := Nat.succ_mul _ _
  omega
def bl (b : List Int) (s : Nat) : Nat → List Int
  | 0 => b
  | j + 1 => bl (BK b ((j + 1) * s)) s j
theorem bl_len (s : Nat) : ∀ n (b : List Int), (bl b s n).length = b.length
  | 0, _ => rfl
  | n + 1, b => by rw [bl, bl_len s n, BK_len]
theorem bd_wi {c : Int} {l : List Int} : bd c l = true ↔ Wi c l := bd_of
theorem okn_sz {s : Nat} (h : Sz s) : okn s = true := by rcases h with rfl | rfl | rfl <;> rfl
theorem pow_one {n e : Nat} (h : 2 ^ n = 2 ^ e) : n = e := (Nat.pow_right_inj (by omega)).1 h
theorem sized_s (a : Int) : lap_sized.f a = some (decide (a = 8 ∨ a = 16 ∨ a = 32)) := by
  unfold lap_sized.f
  by_cases h1 : a = 8
  · rw [if_pos h1]; simp [h1]
  · rw [if_neg h1]
    by_cases h2 : a = 16
    · rw [if_pos h2]; simp [h2]
    · rw [if_neg h2]
      by_cases h3 : a = 32
      · subst h3; rfl
      · simp [h1, h2, h3]
theorem sz_int {a : Int} (h : a = 8 ∨ a = 16 ∨ a = 32) : ∃ s : Nat, a = s ∧ Sz s := by
  rcases h with rfl | rfl | rfl
  · exact ⟨8, rfl, .inl rfl⟩
  · exact ⟨16, rfl, .inr (.inl rfl)⟩
  · exact ⟨32, rfl, .inr (.inr rfl)⟩
theorem rdL_at {l : List (List Int)} {i : Nat} (h : i < l.length) : rd_L1 l (i : Int) = l[i] := by unfold rd_L1; rw [Int.toNat_natCast]; simp [h]
end Go.Proofs.YtllchhcdpfiodaaDoor.Lap
