/- Wave: the lists of a block, level by level, and back; plain arithmetic. -/
import Derived.RowKit
namespace Go.Proofs.YtllchhcdpfiodaaDoor.Wav
open Go Go.RowKit
def inI (v : Int) : Prop := -9223372036854775808 ≤ v ∧ v < 9223372036854775808
def we : List Int → List Int → List Int
  | m :: ms, d :: ds => wrap64 (m - d / 2) :: wrap64 (wrap64 (m - d / 2) + d) :: we ms ds
  | _, _ => []
def iv : Nat → List Int → List Int
  | 0, l => l
  | n + 1, c => we (iv n (c.take (2 ^ n))) (c.drop (2 ^ n))

theorem we_len : ∀ (m d : List Int), m.length = d.length → (we m d).length = 2 * d.length
  | [], [], _ => rfl
  | a :: m, b :: d, h => by simp [we, we_len m d (by simpa using h)]; omega
theorem iv_len : ∀ (n : Nat) (c : List Int), c.length = 2 ^ n → (iv n c).length = 2 ^ n
  | 0, c, h => by simpa [iv] using h
  | n + 1, c, h => by
    have h1 : (c.take (2 ^ n)).length = 2 ^ n := by rw [List.length_take, h, Nat.pow_succ]; omega
    have h2 : (c.drop (2 ^ n)).length = 2 ^ n := by rw [List.length_drop, h, Nat.pow_succ]; omega
    simp only [iv]; rw [we_len _ _ (by rw [iv_len n _ h1, h2]), h2, Nat.pow_succ]; omega

theorem wrap_in (v : Int) : inI (wrap64 v) := by unfold inI wrap64; omega
-- bounds
end Go.Proofs.YtllchhcdpfiodaaDoor.Wav
