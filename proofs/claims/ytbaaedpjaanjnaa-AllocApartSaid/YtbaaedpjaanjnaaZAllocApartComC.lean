/- What a number of a pulse vector costs, by the program and by the document: the same. -/
import Derived.Test.YtbaaedpjaanjnaaZAllocApartComV
import Derived.Test.YtbaaedpjaanjnaaZAllocApartM1
import Derived.Test.YtbaaedpjaanjnaaZAllocApartM2
namespace Go.Proofs.Ytbaaedpjaanjnaa.Com
open Go Go.RowKit Go.Proofs.YtbaaedpjaanjnaaW.PrintWords Go.Proofs.Ytbaaedpjaanjnaa.Prt
set_option linter.unusedVariables false
set_option linter.unusedSimpArgs false
variable {V : Nat → Nat → Int}
theorem w64 {x : Int} (h0 : -9223372036854775808 ≤ x) (h1 : x ≤ 9223372036854775807) : wrap64 x = x := by unfold wrap64; omega
theorem u64 {x : Int} (h0 : 0 ≤ x) (h1 : x ≤ 18446744073709551615) : IntKind.u64.wrap x = x := by
  have h : IntKind.u64.wrap x = x % 18446744073709551616 := by simp [IntKind.wrap, IntKind.bits, IntKind.signed]
  rw [h]
  omega
theorem rd_at {l : List Int} {i : Nat} (h : i < l.length) : rd l (i : Int) = l[i] := by
  unfold rd
  rw [Int.toNat_natCast, List.getD_eq_getElem?_getD, List.getElem?_eq_getElem h, Option.getD_some]
theorem VV (C : Cnt V) {n k : Nat} (hn : n < 17) (hk : k < 13) : 0 ≤ V n k ∧ V n k ≤ 1000000000000 := C.all hn hk
theorem rowL_len (n : Nat) : (rowL V n).length = 13 := by rw [rowL, List.length_map, List.length_range]
theorem rd_row {n j : Nat} (h : j < 13) : rd (rowL V n) (j : Int) = V n j := by
  rw [rd_at (by rw [rowL_len]; exact h)]
  simp [rowL]
theorem fair_ok {n k : Nat} (hn : 1 ≤ n) (hn' : n ≤ 16) (hk : k < 13) : comb_fair.f (n : Int) (k : Int) = some true := by
  unfold comb_fair.f
  rw [if_pos (by omega), if_pos (by omega), if_pos (by omega), decide_eq_true (by omega)]
theorem count_ok (C : Cnt V) {n k : Nat} (hn : 1 ≤ n) (hn' : n ≤ 16) (hk : k < 13) : comb_Count.f (n : Int) (k : Int) = some (V n k, 0) := by
  unfold comb_Count.f
  rw [fair_ok hn hn' hk, Option.bind_some, if_pos rfl, C.table (by omega) hk, Option.bind_some]
theorem refCount_ok (C : Cnt V) {n k : Nat} (hn' : n ≤ 16) (hk : k < 13) {q : Nat} (hq : 3000 ≤ q) : psalteryref06_Count.f q (n : Int) (k : Int) = some (V n k) := by
  unfold psalteryref06_Count.f
  rw [C.rows (by omega) hq, Option.bind_some, if_pos (by omega), if_pos (by rw [rowL_len]; omega), rd_row hk]
theorem bits_ex : ∀ (j : Nat) (v : Int), 0 ≤ v → v < 2 ^ j → (j ≤ 60 ∧ v < 1152921504606846976) → ∃ b : Int, 0 ≤ b ∧ b ≤ j ∧ (∀ (k : Nat) (c : Int), 0 ≤ c → c + j ≤ 1000 → comb_width.l0 (k + j + 1) v c = some (c + b)) ∧ ∀ k : Nat, psalteryref03_Log2.f (k + j + 1) v = some (b - 1)
  | 0, v, h0, h1, _ => by
    obtain rfl : v = 0 := by
      rw [Int.pow_zero] at h1
      omega
    refine ⟨0, by omega, by omega, fun k c _ _ => ?_, fun k => ?_⟩
    · rw [comb_width.l0, if_neg (by omega), Int.add_zero]
    · rw [psalteryref03_Log2.f, if_pos rfl]
      rfl
  | j + 1, v, h0, h1, hj => by
    by_cases hv : v = 0
    · subst hv
      refine ⟨0, by omega, by omega, fun k c _ _ => ?_, fun k => ?_⟩
      · rw [comb_width.l0, if_neg (by omega), Int.add_zero]
      · rw [psalteryref03_Log2.f, if_pos rfl]
        rfl
    · have h2 : (2 : Int) ^ (j + 1) = 2 * 2 ^ j := by rw [Int.pow_succ, Int.mul_comm]
      obtain ⟨b, b0, b1, b2, b3⟩ := bits_ex j (v / 2) (by omega) (by omega) ⟨by omega, by omega⟩
      refine ⟨b + 1, by omega, by omega, fun k c c0 c1 => ?_, fun k => ?_⟩
      · rw [show k + (j + 1) + 1 = (k + j + 1) + 1 by omega, comb_width.l0, if_pos (by omega), w64 (by omega) (by omega), b2 k (c + 1) (by omega) (by omega)]
        congr 1
        omega
      · rw [show k + (j + 1) + 1 = (k + j + 1) + 1 by omega, psalteryref03_Log2.f, if_neg hv, Int.tdiv_eq_ediv_of_nonneg h0, u64 (by omega) (by omega), b3 k, Option.bind_some, w64 (by omega) (by omega)]
        congr 1
        omega
theorem cost_ok (C : Cnt V) {n k : Nat} (hn : 1 ≤ n) (hn' : n ≤ 16) (hk : k < 13) {q : Nat} (hq : 3000 ≤ q) : ∃ c, 0 ≤ c ∧ c ≤ 60 ∧ (k = 0 → c = 0) ∧ comb_Cost.f q (n : Int) (k : Int) = some (c, 0) ∧ psalteryref06_Cost.f q (n : Int) (k : Int) = some c := by
  have hV := VV C (show n < 17 by omega) hk
  have hp := C.pos (show n < 17 by omega) hk (by omega)
  unfold comb_Cost.f psalteryref06_Cost.f
  rw [count_ok C hn hn' hk, refCount_ok C hn' hk hq, Option.bind_some, Option.bind_some]
  dsimp only
  rw [if_pos rfl, u64 (x := V n k - 1) (by omega) (by omega)]
  have h40 : (2 : Int) ^ 40 = 1099511627776 := by decide
  obtain ⟨r, rfl⟩ : ∃ r, q = r + 40 + 1 := ⟨q - 41, by omega⟩
  by_cases hc : V n k - 1 < 65536
  · obtain ⟨b, b0, b1, b2, b3⟩ := bits_ex 40 (V n k - 1) (by omega) (by omega) ⟨by omega, by omega⟩
    have b2' := b2 r 0 (by omega) (by omega)
    rw [Int.zero_add] at b2'
    refine ⟨b, b0, by omega, fun hk0 => ?_, ?_, ?_⟩
    · subst hk0
      have hz := C.zero (show n < 17 by omega)
      rw [hz] at b2'
      have h0 : comb_width.l0 (r + 40 + 1) (1 - 1) 0 = some 0 := by rw [comb_width.l0, if_neg (by decide)]
      rw [h0] at b2'
      exact (Option.some.inj b2').symm
    · rw [if_pos hc]
      unfold comb_width.f
      rw [b2', Option.bind_some]
    · rw [if_pos hc, b3 r, Option.bind_some, w64 (by omega) (by omega)]
      congr 1
      omega
  · obtain ⟨b, b0, b1, b2, b3⟩ := bits_ex 40 ((V n k - 1) / 65536) (by omega) (by omega) ⟨by omega, by omega⟩
    have b2' := b2 r 0 (by omega) (by omega)
    rw [Int.zero_add] at b2'
    refine ⟨b + 16, by omega, by omega, fun hk0 => ?_, ?_, ?_⟩
    · subst hk0
      have hz := C.zero (show n < 17 by omega)
      omega
    · rw [if_neg hc]
      unfold comb_width.f
      rw [b2', Option.bind_some, w64 (by omega) (by omega)]
    · rw [if_neg hc, Int.tdiv_eq_ediv_of_nonneg (by omega), u64 (by omega) (by omega), b3 r, Option.bind_some, w64 (by omega) (by omega)]
      congr 1
      omega
structure Cst (K : Nat → Nat → Int) : Prop where
  cost : ∀ {n k : Nat}, 1 ≤ n → n ≤ 16 → k < 13 → 0 ≤ K n k ∧ K n k ≤ 60 ∧ (k = 0 → K n k = 0) ∧ ∀ q, 3000 ≤ q → comb_Cost.f q (n : Int) (k : Int) = some (K n k, 0) ∧ psalteryref06_Cost.f q (n : Int) (k : Int) = some (K n k)
theorem exCst : ∃ K, Cst K := by
  obtain ⟨V, C⟩ := exCnt
  refine ⟨fun n k => ((comb_Cost.f 3000 (n : Int) (k : Int)).getD (0, 0)).1, ⟨fun {n k} hn hn' hk => ?_⟩⟩
  obtain ⟨c, c0, c1, c2, h1, h2⟩ := cost_ok C hn hn' hk (Nat.le_refl 3000)
  have e : ((comb_Cost.f 3000 (n : Int) (k : Int)).getD (0, 0)).1 = c := by rw [h1]; rfl
  simp only [e]
  exact ⟨c0, c1, c2, fun q hq => ⟨at_rounds (comb_Cost.mono _ _) hq h1, at_rounds (psalteryref06_Cost.mono _ _) hq h2⟩⟩
end Go.Proofs.Ytbaaedpjaanjnaa.Com
