/- Wave: the lists of a block, level by level, and back; plain arithmetic. -/
import Derived.RowKit
namespace Go.Proofs.YtllchhcdpfiodaaDoor.Wav
open Go Go.RowKit
def inI (v : Int) : Prop := -9223372036854775808 ≤ v ∧ v < 9223372036854775808
def wm : List Int → List Int
  | a :: b :: l => wrap64 (a + wrap64 (b - a) / 2) :: wm l
  | _ => []
def wd : List Int → List Int
  | a :: b :: l => wrap64 (b - a) :: wd l
  | _ => []
def fw : Nat → List Int → List Int
  | 0, l => l
  | n + 1, l => fw n (wm l) ++ wd l
theorem two_ind {P : List Int → Prop} (h0 : P []) (h1 : ∀ a, P [a]) (h2 : ∀ a b l, P l → P (a :: b :: l)) : ∀ l, P l
  | [] => h0
  | [a] => h1 a
  | a :: b :: l => h2 a b l (two_ind h0 h1 h2 l)
theorem wm_len (l : List Int) : (wm l).length = l.length / 2 := by
  induction l using two_ind with
  | h0 => rfl
  | h1 a => simp [wm]
  | h2 a b l ih => simp [wm, ih]; omega
theorem wd_len (l : List Int) : (wd l).length = l.length / 2 := by
  induction l using two_ind with
  | h0 => rfl
  | h1 a => simp [wd]
  | h2 a b l ih => simp [wd, ih]; omega
theorem fw_len : ∀ (n : Nat) (l : List Int), l.length = 2 ^ n → (fw n l).length = 2 ^ n
  | 0, l, h => by simpa [fw] using h
  | n + 1, l, h => by
    have h1 := wm_len l; have h2 := wd_len l
    rw [h, Nat.pow_succ] at h1 h2
    simp only [Nat.mul_div_cancel _ (show 0 < 2 by omega)] at h1 h2
    simp only [fw, List.length_append, fw_len n _ h1, h2, Nat.pow_succ]; omega
theorem wrap_in (v : Int) : inI (wrap64 v) := by unfold inI wrap64; omega
-- bounds
end Go.Proofs.YtllchhcdpfiodaaDoor.Wav
