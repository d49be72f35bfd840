/- CoderShort, over numbers and lists: the bytes are not longer than the wholes' logarithms together say. -/
import Derived.Test.YtkaoiblgfpphoaaZCoderShortCodS
import Derived.Test.YtkaoiblgfpphoaaZCoderShortLog
import Derived.Test.YtkaoiblgfpphoaaZCoderShortPuCoderShort
namespace Go.Proofs.Ytkaoiblgfpphoaa.coderShort
open Go.RowKit Go.Proofs.YtkaoiblgfpphoaaW.PrintWords Go.Proofs.Ytkaoiblgfpphoaa.Prt Go.Proofs.Ytkaoiblgfpphoaa.Val Go.Proofs.Ytkaoiblgfpphoaa.Cod
set_option linter.unusedVariables false
theorem end_ok (xs : List S53) {n S : Nat} {i lo rg : Int} {out : List Int} (he : EOk lo rg out) (hc : Cod.Cost n S rg out.length) (hn : n ≤ 300) (hS : S ≤ 6000) (k : Nat) (hk : 200 ≤ k) :
    psalterylaw05_CoderShort.j1 (k + 1) xs (n : Int) (1 + (S : Int)) i false lo rg out = some true := by
  have h := cost_end hc he.2.2.2.1 hn
  have hl := he.2.2.2.2.2
  simp only [psalterylaw05_CoderShort.j1]
  rw [if_neg (by simp), tdiv_nn (by omega), i64w (x := 8 * (out.length : Int)) (by omega) (by omega), i64w (x := (n : Int) / 100) (by omega) (by omega), i64w (by omega) (by omega), if_pos (by omega), knows_k k (by omega)]
  rfl
theorem l0_ok (xs : List S53) (hm : xs.length ≤ 9223372036854775807) (K : Nat) (hK : 6000 ≤ K) (M : Int) (hM : M = 300) : ∀ (d n S : Nat) (i lo rg : Int) (out : List Int) (k : Nat), 0 ≤ i → i + d = M → (n : Int) ≤ i → (S : Int) ≤ 17 * i → EOk lo rg out → Cod.Cost n S rg out.length → K + 3 * d < k →
    psalterylaw05_CoderShort.l0 k xs (n : Int) (1 + (S : Int)) i lo rg out = some true := by
  intro d
  induction d with
  | zero =>
    intro n S i lo rg out k h0 hd hn hS he hc hk
    obtain ⟨k, rfl⟩ : ∃ m, k = m + 2 := ⟨k - 2, by omega⟩
    have key := end_ok xs (i := i) he hc (by omega) (by omega) k (by omega)
    simp only [psalterylaw05_CoderShort.l0]
    by_cases h1 : i < (xs.length : Int)
    · rw [if_pos h1, show decide (i < 300) = false by simp; omega]
      exact key
    · rw [if_neg h1]
      exact key
  | succ d ih =>
    intro n S i lo rg out k h0 hd hn hS he hc hk
    obtain ⟨k, rfl⟩ : ∃ m, k = m + 2 := ⟨k - 2, by omega⟩
    simp only [psalterylaw05_CoderShort.l0]
    by_cases h1 : i < (xs.length : Int)
    · rw [if_pos h1, show decide (i < 300) = true by simp; omega]
      simp only [psalterylaw05_CoderShort.j1]
      rw [if_pos trivial, if_pos h0, if_pos h1, i64w (x := i + 1) (by omega) (by omega)]
      generalize rd_T53 xs i = c
      by_cases hf : Cod.Fair c.f0 c.f1 c.f2
      · by_cases hl : out.length < 3996
        · obtain ⟨lo', out', a, b, g1, g2⟩ := put_ok (own_ok he) he hf hl
          have hf' := hf
          obtain ⟨f1, f2, f3, f4⟩ := hf'
          obtain ⟨t, t1, t2, t3, t4⟩ := log2_f 16 (c.f2 - 1) k (by omega) (by omega) (by omega) (by omega)
          rw [a k (by omega), Option.bind_some]
          dsimp only
          rw [if_pos rfl, u64w (x := c.f2) (by omega) (by omega), u64w (x := c.f2 - 1) (by omega) (by omega), t1, Option.bind_some, i64w (x := (n : Int) + 1) (by omega) (by omega), i64w (x := 1 + (S : Int) + 1) (by omega) (by omega), i64w (by omega) (by omega)]
          have e1 : (n : Int) + 1 = ((n + 1 : Nat) : Int) := by omega
          have e2 : 1 + (S : Int) + 1 + ((t : Int) - 1) = 1 + ((S + t : Nat) : Int) := by omega
          rw [e1, e2]
          have hp := prt_facts he.2.2.1 he.2.2.2.1 hf
          refine ih (n + 1) (S + t) (i + 1) _ _ _ k (by omega) (by omega) (by omega) (by omega) b ?_ (by omega)
          rw [g1]
          exact cost_step hc (cost_part he.2.2.1 he.2.2.2.1 hf) (by omega) (by omega)
        · rw [put_full k (own_ok he) hf (by omega), Option.bind_some]
          dsimp only
          rw [if_neg (by decide)]
          exact ih n S (i + 1) _ _ _ k (by omega) (by omega) (by omega) (by omega) he hc (by omega)
      · rw [put_bad k (own_ok he) hf, Option.bind_some]
        dsimp only
        rw [if_neg (by decide)]
        exact ih n S (i + 1) _ _ _ k (by omega) (by omega) (by omega) (by omega) he hc (by omega)
    · rw [if_neg h1]
      exact end_ok xs (i := i) he hc (by omega) (by omega) k (by omega)
theorem pure : Pu := by
  intro xs hx
  obtain ⟨k, hk⟩ : ∃ k : Nat, k = 10000 := ⟨_, rfl⟩
  refine ⟨k, ?_⟩
  unfold psalterylaw05_CoderShort.f coder_New.f
  simp only [Option.bind_some]
  have h := hx.1
  simp only [maxLen] at h
  exact l0_ok xs (by omega) 6000 (by omega) 300 rfl 300 0 0 0 _ _ _ k (by omega) (by omega) (by omega) (by omega) new_ok cost_new (by omega)
end Go.Proofs.Ytkaoiblgfpphoaa.coderShort
