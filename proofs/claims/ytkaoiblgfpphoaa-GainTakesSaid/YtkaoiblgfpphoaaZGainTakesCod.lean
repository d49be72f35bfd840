/- What the coder's functions (and the document's) come to, on numbers and lists. -/
import Derived.Test.YtkaoiblgfpphoaaZGainTakesVal
import Derived.Test.YtkaoiblgfpphoaaZGainTakesM2
import Derived.Test.YtkaoiblgfpphoaaZGainTakesM3
import Derived.Test.YtkaoiblgfpphoaaZGainTakesM1
import Derived.Test.YtkaoiblgfpphoaaZGainTakesM4
namespace Go.Proofs.Ytkaoiblgfpphoaa.Cod
open Go.RowKit Go.Proofs.YtkaoiblgfpphoaaW.PrintWords Go.Proofs.Ytkaoiblgfpphoaa.Prt Go.Proofs.Ytkaoiblgfpphoaa.Val
set_option linter.unusedVariables false

def Fair (lo hi tot : Int) : Prop := 0 ≤ lo ∧ lo < hi ∧ hi ≤ tot ∧ tot ≤ 65536
instance (lo hi tot : Int) : Decidable (Fair lo hi tot) := by unfold Fair; exact inferInstance
theorem fair_f (lo hi tot : Int) : coder_fair.f lo hi tot = some (decide (Fair lo hi tot)) := by
  unfold coder_fair.f Fair
  grind
def prt (rg lo hi tot : Int) : Int × Int := (if hi = tot then rg - rg / tot * lo else rg / tot * (hi - lo), rg / tot * lo)
theorem div_facts {rg lo hi tot : Int} (h0 : 16777216 ≤ rg) (h1 : rg ≤ 4294967295) (hf : Fair lo hi tot) :
    256 ≤ rg / tot ∧ rg / tot ≤ rg ∧ 0 ≤ rg / tot * lo ∧ rg / tot * lo + rg / tot * (hi - lo) = rg / tot * hi ∧ rg / tot * hi ≤ rg / tot * tot ∧ rg / tot * tot ≤ rg ∧ rg / tot ≤ rg / tot * (hi - lo) := by
  obtain ⟨f1, f2, f3, f4⟩ := hf
  have ht : 0 < tot := by omega
  have e1 : 256 ≤ rg / tot := by
    rw [Int.le_ediv_iff_mul_le ht]; omega
  have e2 : rg / tot * tot ≤ rg := Int.ediv_mul_le _ (by omega)
  generalize rg / tot = r at *
  have e3 : r ≤ r * tot := by
    have := Int.mul_le_mul_of_nonneg_left (show (1 : Int) ≤ tot by omega) (show (0 : Int) ≤ r by omega)
    omega
  have e4 : r * hi ≤ r * tot := Int.mul_le_mul_of_nonneg_left f3 (by omega)
  have e5 : 0 ≤ r * lo := Int.mul_nonneg (by omega) f1
  have e6 : r ≤ r * (hi - lo) := by
    have := Int.mul_le_mul_of_nonneg_left (show (1 : Int) ≤ hi - lo by omega) (show (0 : Int) ≤ r by omega)
    omega
  exact ⟨e1, by omega, e5, by rw [Int.mul_sub]; omega, e4, e2, e6⟩
theorem prt_facts {rg lo hi tot : Int} (h0 : 16777216 ≤ rg) (h1 : rg ≤ 4294967295) (hf : Fair lo hi tot) :
    256 ≤ (prt rg lo hi tot).1 ∧ 0 ≤ (prt rg lo hi tot).2 ∧ (prt rg lo hi tot).1 + (prt rg lo hi tot).2 ≤ rg := by
  obtain ⟨a, b, c, d, e, f, g⟩ := div_facts h0 h1 hf
  unfold prt
  dsimp only
  split <;> omega
theorem part_f {rg lo hi tot : Int} (h0 : 16777216 ≤ rg) (h1 : rg ≤ 4294967295) (hf : Fair lo hi tot) : coder_part.f rg lo hi tot = some (prt rg lo hi tot) := by
  obtain ⟨a, b, c, d, e, f, g⟩ := div_facts h0 h1 hf
  obtain ⟨f1, f2, f3, f4⟩ := hf
  have w1 : tot % 4294967296 = tot := by omega
  have w2 : IntKind.u64.wrap lo = lo := u64w (by omega) (by omega)
  have w3 : wrap64 (hi - lo) = hi - lo := i64w (by omega) (by omega)
  have w4 : (hi - lo) % 4294967296 = hi - lo := by omega
  unfold coder_part.f prt
  rw [w1, tdiv_nn (by omega : (0 : Int) ≤ rg), w2, w3, w4]
  generalize rg / tot = r at *
  have w5 : r % 4294967296 = r := by omega
  rw [w5, u64w c (by omega), if_neg (by omega)]
  by_cases h : hi = tot
  · rw [if_pos h, if_pos h]; congr 2; omega
  · rw [if_neg h, if_neg h]; congr 2; omega
theorem Part_f {rg lo hi tot : Int} (h0 : 16777216 ≤ rg) (h1 : rg ≤ 4294967295) (hf : Fair lo hi tot) : psalteryref05_part.f rg lo hi tot = some (prt rg lo hi tot) := by
  obtain ⟨a, b, c, d, e, f, g⟩ := div_facts h0 h1 hf
  obtain ⟨f1, f2, f3, f4⟩ := hf
  have w1 : IntKind.u64.wrap tot = tot := u64w (by omega) (by omega)
  have w2 : IntKind.u64.wrap lo = lo := u64w (by omega) (by omega)
  have w3 : wrap64 (hi - lo) = hi - lo := i64w (by omega) (by omega)
  have w4 : IntKind.u64.wrap (hi - lo) = hi - lo := u64w (by omega) (by omega)
  unfold psalteryref05_part.f prt
  rw [w1, tdiv_nn (by omega : (0 : Int) ≤ rg), w2, w3, w4]
  generalize rg / tot = r at *
  rw [u64w (x := r) (by omega) (by omega), u64w c (by omega), if_neg (by omega)]
  by_cases h : hi = tot
  · rw [if_pos h, if_pos h, u64w (by omega) (by omega)]
  · rw [if_neg h, if_neg h, u64w (by omega) (by omega)]

def EOk (lo rg : Int) (out : List Int) : Prop := 0 ≤ lo ∧ lo ≤ 4294967295 ∧ 16777216 ≤ rg ∧ rg ≤ 4294967295 ∧ Bytes out ∧ out.length ≤ 4000
def num (lo : Int) (out : List Int) : Int := val out * 4294967296 + lo
def mOf (r : Int) : Nat := if r < 65536 then 2 else if r < 16777216 then 1 else 0
theorem mOf_range {r : Int} (h : 256 ≤ r) (h1 : r ≤ 4294967295) : 16777216 ≤ r * pw (mOf r) ∧ r * pw (mOf r) ≤ 4294967295 ∧ mOf r ≤ 2 := by
  unfold mOf
  have e2 : pw 2 = 65536 := rfl
  have e1 : pw 1 = 256 := rfl
  have e0 : pw 0 = 1 := rfl
  split
  · rw [e2]; omega
  · split
    · rw [e1]; omega
    · rw [e0]; omega
end Go.Proofs.Ytkaoiblgfpphoaa.Cod
