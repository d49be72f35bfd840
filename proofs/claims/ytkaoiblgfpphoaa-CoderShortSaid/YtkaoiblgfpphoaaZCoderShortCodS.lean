/- How long a coder's bytes get: each choice costs its logarithm and a little more. -/
import Derived.Test.YtkaoiblgfpphoaaZCoderShortCodR
namespace Go.Proofs.Ytkaoiblgfpphoaa.Cod
open Go.RowKit Go.Proofs.YtkaoiblgfpphoaaW.PrintWords Go.Proofs.Ytkaoiblgfpphoaa.Prt Go.Proofs.Ytkaoiblgfpphoaa.Val
set_option linter.unusedVariables false
set_option linter.unusedSimpArgs false
def Cost (n S : Nat) (rg : Int) (len : Nat) : Prop := 256 ^ n * 4294967295 * pw len ≤ 257 ^ n * 2 ^ S * rg
theorem cost_new : Cost 0 0 4294967295 0 := by unfold Cost; decide
theorem cost_part {rg lo hi tot : Int} (c : 16777216 ≤ rg) (d : rg ≤ 4294967295) (hf : Fair lo hi tot) : 256 * rg ≤ 257 * tot * (prt rg lo hi tot).1 := by
  obtain ⟨e1, e2, e3, e4, e5, e6, e7⟩ := div_facts c d hf
  obtain ⟨f1, f2, f3, f4⟩ := hf
  have h1 : rg / tot ≤ (prt rg lo hi tot).1 := by
    unfold prt; dsimp only; split
    · have : rg / tot * hi = rg / tot * tot := by rw [‹hi = tot›]
      omega
    · omega
  have h2 : rg < (rg / tot + 1) * tot := Int.lt_ediv_add_one_mul_self rg (by omega)
  generalize rg / tot = r at *
  generalize (prt rg lo hi tot).1 = q at *
  have h3 : 256 * (r + 1) ≤ 257 * r := by omega
  have h4 : 256 * (r + 1) * tot ≤ 257 * r * tot := Int.mul_le_mul_of_nonneg_right h3 (by omega)
  have h5 : tot * r ≤ tot * q := Int.mul_le_mul_of_nonneg_left h1 (by omega)
  have h6 : 256 * (r + 1) * tot = 256 * ((r + 1) * tot) := Int.mul_assoc ..
  have h7 : 257 * r * tot = 257 * (tot * r) := by rw [Int.mul_assoc, Int.mul_comm r tot]
  have h8 : 257 * tot * q = 257 * (tot * q) := Int.mul_assoc ..
  omega
theorem cost_step {n S len b m : Nat} {rg r tot : Int} (h : Cost n S rg len) (hr : 256 * rg ≤ 257 * tot * r) (hb : tot ≤ 2 ^ b) (h0 : 0 ≤ r) : Cost (n + 1) (S + b) (r * pw m) (len + m) := by
  unfold Cost at *
  have p1 : (0 : Int) < 257 ^ n := Int.pow_pos (by decide)
  have p2 : (0 : Int) < 2 ^ S := Int.pow_pos (by decide)
  have p3 := pw_pos m
  have h1 : 257 * tot * r ≤ 257 * 2 ^ b * r := Int.mul_le_mul_of_nonneg_right (Int.mul_le_mul_of_nonneg_left hb (by decide)) h0
  have h2 : 256 * rg ≤ 257 * 2 ^ b * r := Int.le_trans hr h1
  have h3 : (257 ^ n * 2 ^ S) * (256 * rg) ≤ (257 ^ n * 2 ^ S) * (257 * 2 ^ b * r) := Int.mul_le_mul_of_nonneg_left h2 (Int.le_of_lt (Int.mul_pos p1 p2))
  have h4 : 256 * (256 ^ n * 4294967295 * pw len) ≤ 256 * (257 ^ n * 2 ^ S * rg) := Int.mul_le_mul_of_nonneg_left h (by decide)
  have e1 : (257 ^ n * 2 ^ S) * (256 * rg) = 256 * (257 ^ n * 2 ^ S * rg) := by rw [Int.mul_left_comm]
  have h5 : 256 * (256 ^ n * 4294967295 * pw len) * pw m ≤ (257 ^ n * 2 ^ S) * (257 * 2 ^ b * r) * pw m := Int.mul_le_mul_of_nonneg_right (by omega) (Int.le_of_lt p3)
  have e2 : (256 : Int) ^ (n + 1) * 4294967295 * pw (len + m) = 256 * (256 ^ n * 4294967295 * pw len) * pw m := by rw [Int.pow_succ, pw_add]; simp only [Int.mul_assoc, Int.mul_left_comm, Int.mul_comm]
  have e3 : (257 : Int) ^ (n + 1) * 2 ^ (S + b) * (r * pw m) = (257 ^ n * 2 ^ S) * (257 * 2 ^ b * r) * pw m := by rw [Int.pow_succ, Int.pow_add]; simp only [Int.mul_assoc, Int.mul_left_comm, Int.mul_comm]
  rw [e2, e3]; exact h5
theorem small_top : 257 ^ 300 < 4 * 256 ^ 300 := by decide +kernel
theorem small300 (n : Nat) (hn : n ≤ 300) : 257 ^ n < 4 * 256 ^ n := by
  apply Decidable.byContradiction
  intro hc
  have h1 : 256 ^ (300 - n) ≤ 257 ^ (300 - n) := Nat.pow_le_pow_left (by decide) _
  have h2 : 4 * 256 ^ n * 256 ^ (300 - n) ≤ 257 ^ n * 257 ^ (300 - n) := Nat.mul_le_mul (by omega) h1
  rw [Nat.mul_assoc, ← Nat.pow_add, ← Nat.pow_add, show n + (300 - n) = 300 by omega] at h2
  exact absurd small_top (Nat.not_lt.2 h2)
theorem cost_end {n S len : Nat} {rg : Int} (h : Cost n S rg len) (hr : rg ≤ 4294967295) (hn : n ≤ 300) : 8 * len ≤ S + 1 := by
  unfold Cost at h
  have p1 : (0 : Int) < 257 ^ n := Int.pow_pos (by decide)
  have p2 : (0 : Int) < 2 ^ S := Int.pow_pos (by decide)
  have h1 : 257 ^ n * 2 ^ S * rg ≤ 257 ^ n * 2 ^ S * 4294967295 := Int.mul_le_mul_of_nonneg_left hr (Int.le_of_lt (Int.mul_pos p1 p2))
  have h2 : 4294967295 * (256 ^ n * pw len) ≤ 4294967295 * (257 ^ n * 2 ^ S) := by
    generalize (256 : Int) ^ n = a at *
    generalize (257 : Int) ^ n * 2 ^ S = b at *
    have e1 : (4294967295 : Int) * (a * pw len) = a * 4294967295 * pw len := by rw [Int.mul_comm a 4294967295, Int.mul_assoc]
    rw [e1, Int.mul_comm 4294967295 b]
    exact Int.le_trans h h1
  have h3 : (256 : Int) ^ n * pw len ≤ 257 ^ n * 2 ^ S := Int.le_of_mul_le_mul_left h2 (by decide)
  have h4 : 256 ^ n * 256 ^ len ≤ 257 ^ n * 2 ^ S := by
    unfold pw at h3
    have c1 : ((256 ^ n * 256 ^ len : Nat) : Int) = (256 : Int) ^ n * 256 ^ len := by rw [Int.natCast_mul, Int.natCast_pow, Int.natCast_pow]; rfl
    have c2 : ((257 ^ n * 2 ^ S : Nat) : Int) = (257 : Int) ^ n * 2 ^ S := by rw [Int.natCast_mul, Int.natCast_pow, Int.natCast_pow]; rfl
    rw [← c1, ← c2] at h3
    exact Int.ofNat_le.1 h3
  have h5 := small300 n hn
  apply Decidable.byContradiction
  intro hc
  have h6 : 4 * 2 ^ S ≤ 256 ^ len := by
    have : (256 : Nat) ^ len = 2 ^ (8 * len) := by rw [Nat.pow_mul]
    rw [this, show 4 * 2 ^ S = 2 ^ (S + 2) by rw [Nat.pow_add]; omega]
    exact Nat.pow_le_pow_right (by decide) (by omega)
  have h7 : 256 ^ n * (4 * 2 ^ S) ≤ 257 ^ n * 2 ^ S := Nat.le_trans (Nat.mul_le_mul_left _ h6) h4
  have h8 : 257 ^ n * 2 ^ S < 4 * 256 ^ n * 2 ^ S := Nat.mul_lt_mul_of_pos_right h5 (Nat.pow_pos (by decide))
  have h9 : 256 ^ n * (4 * 2 ^ S) = 4 * 256 ^ n * 2 ^ S := by rw [← Nat.mul_assoc, Nat.mul_comm (256 ^ n) 4]
  omega
end Go.Proofs.Ytkaoiblgfpphoaa.Cod
