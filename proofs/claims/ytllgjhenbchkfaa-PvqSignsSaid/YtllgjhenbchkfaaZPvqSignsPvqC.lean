/- Pulse vectors, their sizes and numbers (of ComV and ComM, what the law of pvq needs). -/
import Derived.Test.YtllgjhenbchkfaaZPvqSignsM1
import Derived.Test.YtllgjhenbchkfaaZPvqSignsM2
import Derived.Test.YtllgjhenbchkfaaZPvqSignsWMore
namespace Go.Proofs.Ytllgjhenbchkfaa.Com
open Go Go.RowKit Go.Proofs.YtllgjhenbchkfaaW.PrintWords Go.Proofs.Ytllgjhenbchkfaa.Prt
set_option linter.unusedVariables false
set_option linter.unusedSimpArgs false
def pval (p : Nat) : Int := if p % 2 = 1 then ((p + 1) / 2 : Nat) else -((p / 2 : Nat) : Int)
def psz (p : Nat) : Nat := (p + 1) / 2
def P (V : Nat → Nat → Int) (n k : Nat) : Nat → Int
  | 0 => 0
  | p + 1 => P V n k p + V n (k - psz p)
theorem w64 {x : Int} (h0 : -9223372036854775808 ≤ x) (h1 : x ≤ 9223372036854775807) : wrap64 x = x := by unfold wrap64; omega
theorem u64 {x : Int} (h0 : 0 ≤ x) (h1 : x ≤ 18446744073709551615) : IntKind.u64.wrap x = x := by
  have h : IntKind.u64.wrap x = x % 18446744073709551616 := by simp [IntKind.wrap, IntKind.bits, IntKind.signed]
  rw [h]
  omega
theorem rd_at {l : List Int} {i : Nat} (h : i < l.length) : rd l (i : Int) = l[i] := by
  unfold rd
  rw [Int.toNat_natCast, List.getD_eq_getElem?_getD, List.getElem?_eq_getElem h, Option.getD_some]
variable {V : Nat → Nat → Int}
def Unr (V : Nat → Nat → Int) : Nat → Nat → Int → List Int → Prop
  | 0, k, i, y => k = 0 ∧ i = 0 ∧ y = []
  | n + 1, k, i, y => ∃ p ys, y = pval p :: ys ∧ psz p ≤ k ∧ P V n k p ≤ i ∧ i < P V n k (p + 1) ∧ Unr V n (k - psz p) (i - P V n k p) ys
theorem Unr.len : ∀ {n k : Nat} {i : Int} {y : List Int}, Unr V n k i y → y.length = n
  | 0, _, _, _, h => by rw [h.2.2]; rfl
  | n + 1, k, i, y, ⟨p, ys, e, _, _, _, h4⟩ => by rw [e, List.length_cons, Unr.len h4]
theorem pval_sz (p : Nat) : (pval p = (psz p : Int) ∧ p % 2 = 1) ∨ (pval p = -(psz p : Int) ∧ p % 2 = 0) := by
  unfold pval psz
  split
  · left; exact ⟨rfl, by assumption⟩
  · right; exact ⟨by congr 2; omega, by omega⟩
def sz (v : Int) : Int := if -12 ≤ v ∧ v ≤ 12 then (if v < 0 then -v else v) else 13
def szs : List Int → Int
  | [] => 0
  | v :: l => sz v + szs l
theorem sz_in (v : Int) : 0 ≤ sz v ∧ sz v ≤ 13 := by
  unfold sz
  split
  · split <;> omega
  · omega
theorem sz_pval {p : Nat} (h : psz p ≤ 12) : sz (pval p) = psz p := by
  unfold sz
  rcases pval_sz p with ⟨e, _⟩ | ⟨e, _⟩
  · rw [e, if_pos (by omega), if_neg (by omega)]
  · rw [e, if_pos (by omega)]
    split <;> omega
theorem refSize_l0 (v : Int) : ∀ (d j k : Nat), j + d = 13 → (-(j : Int) < v → v < j → False) → psalteryref06_Size.l0 (k + d + 1) v (j : Int) = some (sz v) := by
  intro d
  induction d with
  | zero =>
    intro j k h hv
    rw [psalteryref06_Size.l0, if_neg (by omega)]
    unfold sz
    rw [if_neg (fun hh => hv (by omega) (by omega))]
  | succ d ih =>
    intro j k h hv
    rw [show k + (d + 1) + 1 = (k + d + 1) + 1 by omega, psalteryref06_Size.l0, if_pos (by omega), w64 (x := -(j : Int)) (by omega) (by omega), w64 (x := (j : Int) + 1) (by omega) (by omega)]
    by_cases h1 : v = j
    · rw [if_pos h1]
      unfold sz
      rw [if_pos (by omega)]
      congr 1
      split <;> omega
    · rw [if_neg h1]
      by_cases h2 : v = -j
      · rw [if_pos h2]
        unfold sz
        rw [if_pos (by omega)]
        congr 1
        split <;> omega
      · rw [if_neg h2, show (j : Int) + 1 = ((j + 1 : Nat) : Int) by omega]
        exact ih (j + 1) k (by omega) (fun a b => hv (by omega) (by omega))
theorem refSize_f (v : Int) {k : Nat} (hk : 20 ≤ k) : psalteryref06_Size.f k v = some (sz v) := by
  unfold psalteryref06_Size.f
  obtain ⟨q, rfl⟩ : ∃ q, k = q + 13 + 1 := ⟨k - 14, by omega⟩
  exact refSize_l0 v 13 0 q (by omega) (by omega)
theorem refPulses_l0 {y : List Int} (hy : y.length ≤ 1000) : ∀ (d i k : Nat) (a : Int), i + d = y.length → 20 ≤ k → 0 ≤ a → a ≤ 13 * i → psalteryref06_Pulses.l0 (k + d + 1) y a (i : Int) = some (a + szs (y.drop i)) := by
  intro d
  induction d with
  | zero =>
    intro i k a h hk h0 h1
    rw [psalteryref06_Pulses.l0, if_neg (by omega), List.drop_eq_nil_of_le (by omega)]
    simp [szs]
  | succ d ih =>
    intro i k a h hk h0 h1
    have hi : i < y.length := by omega
    have hs := sz_in y[i]
    rw [show k + (d + 1) + 1 = (k + d + 1) + 1 by omega, psalteryref06_Pulses.l0, if_pos (by omega), if_pos (by omega), rd_at hi, refSize_f _ (by omega), Option.bind_some, w64 (x := a + sz y[i]) (by omega) (by omega), w64 (x := (i : Int) + 1) (by omega) (by omega), show (i : Int) + 1 = ((i + 1 : Nat) : Int) by omega, ih (i + 1) k _ (by omega) hk (by omega) (by omega), List.drop_eq_getElem_cons hi]
    simp only [szs]
    rw [Int.add_assoc]
theorem refPulses_f {y : List Int} (hy : y.length ≤ 1000) {k : Nat} (hk : y.length + 21 ≤ k) : psalteryref06_Pulses.f k y = some (szs y) := by
  unfold psalteryref06_Pulses.f
  obtain ⟨q, rfl⟩ : ∃ q, k = q + y.length + 1 := ⟨k - y.length - 1, by omega⟩
  have := refPulses_l0 hy y.length 0 q 0 (by omega) (by omega) (by omega) (by omega)
  rw [List.drop_zero, Int.zero_add] at this
  exact this
theorem Unr.szs : ∀ {n k : Nat} {i : Int} {y : List Int}, k < 13 → Unr V n k i y → szs y = k
  | 0, _, _, _, _, h => by rw [h.2.2, h.1]; rfl
  | n + 1, k, i, y, hk, ⟨p, ys, e, h1, _, _, h4⟩ => by
    rw [e]
    show sz (pval p) + Com.szs ys = k
    rw [sz_pval (by omega), Unr.szs (by omega) h4]
    omega
end Go.Proofs.Ytllgjhenbchkfaa.Com
