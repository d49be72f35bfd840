/- GainShort, over numbers and lists: the bytes of up to 20 frames' gains take no more bits than is told. -/
import Derived.Test.YtkaoiblgfpphoaaZGainShortL1
import Derived.Test.YtkaoiblgfpphoaaZGainShortPuGainShort
namespace Go.Proofs.Ytkaoiblgfpphoaa.gainShort
open Go Go.RowKit Go.Proofs.YtkaoiblgfpphoaaW.PrintWords Go.Proofs.Ytkaoiblgfpphoaa.Prt Go.Proofs.Ytkaoiblgfpphoaa.Val Go.Proofs.Ytkaoiblgfpphoaa.Cod Go.Proofs.Ytkaoiblgfpphoaa.Gan
set_option linter.unusedVariables false
theorem hm0 : maxLen ≤ 9223372036854775807 := by decide
theorem right_l0 {M : Nat} (hm : M ≤ 9223372036854775807) (l : List Int) (hl : l.length ≤ M) : ∀ (d i k : Nat), i + d = l.length → d < k → gain_Right.l0 k l l (l.length : Int) (i : Int) = some (((l.length : Int) == 5) && (l.drop i).all (fun x => decide (0 ≤ x ∧ x ≤ 44)))
  | 0, i, k, hi, hk => by
    obtain ⟨k, rfl⟩ : ∃ m, k = m + 1 := ⟨k - 1, by omega⟩
    simp only [gain_Right.l0]
    rw [if_neg (by omega), List.drop_eq_nil_of_le (by omega)]
    simp
  | d + 1, i, k, hi, hk => by
    obtain ⟨k, rfl⟩ : ∃ m, k = m + 1 := ⟨k - 1, by omega⟩
    simp only [gain_Right.l0]
    rw [if_pos (by omega), if_pos (by omega), if_pos (by omega), drop_rd l i (by omega), List.all_cons]
    by_cases h0 : rd l (i : Int) < 0
    · rw [if_pos h0, show decide (0 ≤ rd l (i : Int) ∧ rd l (i : Int) ≤ 44) = false by simp; omega]
      simp
    · rw [if_neg h0]
      by_cases h1 : rd l (i : Int) > 44
      · rw [if_pos h1, show decide (0 ≤ rd l (i : Int) ∧ rd l (i : Int) ≤ 44) = false by simp; omega]
        simp
      · rw [if_neg h1, i64w (by omega) (by omega), show decide (0 ≤ rd l (i : Int) ∧ rd l (i : Int) ≤ 44) = true by simp; omega, Bool.true_and]
        exact right_l0 hm l hl d (i + 1) k (by omega) (by omega)
theorem right_any {M : Nat} (hm : M ≤ 9223372036854775807) (l : List Int) (hl : l.length ≤ M) (k : Nat) (hk : l.length < k) : gain_Right.f k l = some (rt l) := right_l0 hm l hl l.length 0 k (by omega) hk
/-- Gains that may not be are not put. -/
theorem put_no {M : Nat} (hm : M ≤ 9223372036854775807) {g a : List Int} {I : Bool} (hg : rt g = false) (hl : g.length ≤ M) {e : E3} (he : e.ok) (k : Nat) (hk : M + 100 ≤ k) : gain_Put.f k e.1 e.2.1 e.2.2 g a I = some (e.1, e.2.1, e.2.2, 1) := by
  obtain ⟨k, rfl⟩ : ∃ m, k = m + 1 := ⟨k - 1, by omega⟩
  unfold gain_Put.f
  rw [put_bad (k + 1) (own_ok he) (fun h => by have := h.2.2.1; omega), Option.bind_some, right_any hm g hl _ (by omega), Option.bind_some, hg, if_neg (by simp)]
  simp only [gain_Put.j0, ↓reduceIte]
/-- The frames, one after the other. -/
theorem go {M : Nat} (hm : M ≤ 9223372036854775807) {L : List S91} (hL : L.length ≤ M) (hG : ∀ q ∈ L, q.f0.length ≤ M) : ∀ (d i : Nat) (e : E3) (n S : Nat) (a : List Int) (k : Nat), i + d = 20 → Piece (0, 4294967295, []) e n S → n ≤ 15 * i → S ≤ 45 * i → rt a = true → 2 * M + 10000 + 2 * d ≤ k →
    psalterylaw11_GainShort.l0 k L a (S : Int) (i : Int) e.1 e.2.1 e.2.2 = some true := by
  intro d
  induction d with
  | zero =>
    intro i e n S a k hi hp hn hS ha hk
    obtain ⟨k, rfl⟩ : ∃ m, k = m + 2 := ⟨k - 2, by omega⟩
    have fin : psalterylaw11_GainShort.j1 (k + 1) L a (S : Int) (i : Int) false e.1 e.2.1 e.2.2 = some true := by
      simp only [psalterylaw11_GainShort.j1]
      have hc := cost_end (hp.cost 0 0 cost_new) (by have := hp.ok.2.2.2.1; omega) (by omega)
      have hl := hp.len
      unfold E3.len at hc hl
      rw [if_neg (by simp), i64w (x := 8 * (e.2.2.length : Int)) (by omega) (by simp only [List.length_nil] at hl; omega), i64w (x := (S : Int) + 3) (by omega) (by omega), if_pos (by omega), knows11_k k (by omega), Option.bind_some]
    simp only [psalterylaw11_GainShort.l0]
    rw [show decide ((i : Int) < 20) = false by simp; omega, fin, ite_self]
  | succ d ih =>
    intro i e n S a k hi hp hn hS ha hk
    obtain ⟨k, rfl⟩ : ∃ m, k = m + 2 := ⟨k - 2, by omega⟩
    have hl := hp.len
    simp only [E3.len, List.length_nil, Nat.zero_add] at hl
    have fin : psalterylaw11_GainShort.j1 (k + 1) L a (S : Int) (i : Int) false e.1 e.2.1 e.2.2 = some true := by
      simp only [psalterylaw11_GainShort.j1]
      have hc := cost_end (hp.cost 0 0 cost_new) (by have := hp.ok.2.2.2.1; omega) (by omega)
      unfold E3.len at hc
      rw [if_neg (by simp), i64w (x := 8 * (e.2.2.length : Int)) (by omega) (by omega), i64w (x := (S : Int) + 3) (by omega) (by omega), if_pos (by omega), knows11_k k (by omega), Option.bind_some]
    simp only [psalterylaw11_GainShort.l0]
    by_cases h : (i : Int) < (L.length : Int)
    · rw [if_pos h, show decide ((i : Int) < 20) = true by simp; omega]
      simp only [psalterylaw11_GainShort.j1]
      have hg : (rd_T91 L (i : Int)).f0.length ≤ M := by
        unfold rd_T91
        rw [List.getD_eq_getElem?_getD, Int.toNat_natCast, List.getElem?_eq_getElem (by omega)]
        exact hG _ (List.getElem_mem _)
      rw [if_pos trivial, if_pos (by omega), if_pos h]
      generalize rd_T91 L (i : Int) = q at hg ⊢
      cases hr : rt q.f0 with
      | false =>
        rw [put_no hm hr hg hp.ok k (by omega), Option.bind_some, if_neg (by simp), i64w (x := (i : Int) + 1) (by omega) (by omega)]
        exact ih (i + 1) e n S a k (by omega) hp (by omega) (by omega) ha (by omega)
      | true =>
        obtain ⟨e', p, _, hp', _⟩ := put_piece (I := q.f1) hr (.inr ha) (by have := rt_len ha; omega) hp.ok hp.nov (by unfold E3.len; omega)
        rw [p k (by omega), Option.bind_some, if_pos rfl]
        have ht : gain_Most.f q.f1 = some (((if q.f1 = true then 30 else 45 : Nat) : Int)) := by
          unfold gain_Most.f
          cases q.f1 <;> rfl
        rw [ht, Option.bind_some, i64w (x := (i : Int) + 1) (by omega) (by omega), i64w (x := (S : Int) + _) (by omega) (by split <;> omega), ← Int.natCast_add]
        exact ih (i + 1) e' (n + 15) (S + _) q.f0 k (by omega) (hp.trans hp') (by omega) (by split <;> omega) hr (by omega)
    · rw [if_neg h]
      exact fin
theorem pure : Pu := by
  intro L hL
  refine ⟨2 * maxLen + 20000, ?_⟩
  unfold psalterylaw11_GainShort.f
  rw [show coder_New.f = some (0, 4294967295, []) from rfl, Option.bind_some]
  exact go hm0 hL.1 (fun q hq => (hL.2 q hq).1) 20 0 (0, 4294967295, []) 0 0 [0, 0, 0, 0, 0] _ (by omega) (Piece.nil new_e new_nov) (by omega) (by omega) (by decide) (by omega)
end Go.Proofs.Ytkaoiblgfpphoaa.gainShort
