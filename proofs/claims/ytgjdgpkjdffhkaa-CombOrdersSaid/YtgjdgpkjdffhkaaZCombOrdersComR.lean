/- The pulse vectors: the document's numbers, and the vectors of numbers, by the program and by the document. -/
import Derived.Test.YtgjdgpkjdffhkaaZCombOrdersComM
import Derived.Test.YtgjdgpkjdffhkaaZCombOrdersM1
namespace Go.Proofs.Ytgjdgpkjdffhkaa.Com
open Go Go.RowKit Go.Proofs.YtgjdgpkjdffhkaaW.PrintWords Go.Proofs.Ytgjdgpkjdffhkaa.Prt
set_option linter.unusedVariables false
set_option linter.unusedSimpArgs false
variable {V : Nat → Nat → Int}

theorem rowL_len (n : Nat) : (rowL V n).length = 13 := by rw [rowL, List.length_map, List.length_range]
theorem rd_row {n j : Nat} (h : j < 13) : rd (rowL V n) (j : Int) = V n j := by
  rw [rd_at (by rw [rowL_len]; exact h)]
  simp [rowL]
theorem wsub {a b : Nat} (h : b ≤ a) (ha : a ≤ 1000) : wrap64 ((a : Int) - (b : Int)) = ((a - b : Nat) : Int) := by rw [w64 (by omega) (by omega)]; omega
theorem wpred {a : Nat} (ha : a ≤ 1000) : wrap64 (((a + 1 : Nat) : Int) - 1) = (a : Int) := by rw [w64 (by omega) (by omega)]; omega
theorem wone {a : Nat} (h : 1 ≤ a) (ha : a ≤ 1000) : wrap64 ((a : Int) - 1) = ((a - 1 : Nat) : Int) := by rw [w64 (by omega) (by omega)]; omega
theorem wsucc {a : Nat} (ha : a ≤ 1000) : wrap64 ((a : Int) + 1) = ((a + 1 : Nat) : Int) := by rw [w64 (by omega) (by omega)]; omega
theorem vec_l1 (C : Cnt V) {n kk : Nat} (hn : n < 16) (hkk : kk < 13) {i : Int} (hi : i < V (n + 1) kk) {out : List Int} (ho : out.length ≤ 100) : ∀ (e s k : Nat), s + 1 + e = kk → P V n kk (2 * s + 1) ≤ i →
    ∃ p k', k ≤ k' ∧ psz p ≤ kk ∧ P V n kk p ≤ i ∧ i < P V n kk (p + 1) ∧
      comb_Vector.l1 (k + e + 1) ((n + 1 : Nat) : Int) (kk : Int) (i - P V n kk (2 * s + 1)) out ((s + 1 : Nat) : Int) (V n (kk - (s + 1))) = comb_Vector.l0 k' (n : Int) ((kk - psz p : Nat) : Int) (i - P V n kk p) (out ++ [pval p]) := by
  intro e
  induction e with
  | zero =>
    intro s k h hP
    have hV := VV C (show n < 17 by omega) (show kk - (s + 1) < 13 by omega)
    have hW := VV C (show n + 1 < 17 by omega) hkk
    have hPn := P_nn C (n := n) (by omega) hkk (2 * s + 1)
    have hodd := P_odd V n kk s
    have htop := C.top hn hkk
    rw [show 2 * kk + 1 = 2 * (s + 1) + 1 by omega] at htop
    have e2 : P V n kk (2 * s + 1 + 1) = P V n kk (2 * s + 1) + V n (kk - (s + 1)) := by rw [P_succ, show psz (2 * s + 1) = s + 1 by unfold psz; omega]
    rw [show k + 0 + 1 = k + 1 from rfl, comb_Vector.l1, u64 (x := 2 * V n (kk - (s + 1))) (by omega) (by omega), if_neg (by omega), wpred (by omega), wsub (by omega) (by omega), C.table (by omega) (by omega), Option.bind_some]
    by_cases hc : i - P V n kk (2 * s + 1) ≥ V n (kk - (s + 1))
    · refine ⟨2 * (s + 1), k, Nat.le_refl _, by unfold psz; omega, by rw [show 2 * (s + 1) = 2 * s + 1 + 1 by omega, e2]; omega, by rw [hodd]; omega, ?_⟩
      rw [if_pos hc, if_pos (by omega), u64 (by omega) (by omega), show psz (2 * (s + 1)) = s + 1 by unfold psz; omega, show 2 * (s + 1) = 2 * s + 1 + 1 by omega, e2, w64 (x := -((s + 1 : Nat) : Int)) (by omega) (by omega), show pval (2 * s + 1 + 1) = -((s + 1 : Nat) : Int) by unfold pval; rw [if_neg (by omega)]; omega,
        show i - (P V n kk (2 * s + 1) + V n (kk - (s + 1))) = i - P V n kk (2 * s + 1) - V n (kk - (s + 1)) by omega]
    · refine ⟨2 * s + 1, k, Nat.le_refl _, by unfold psz; omega, hP, by rw [e2]; omega, ?_⟩
      rw [if_neg hc, if_pos (by omega), show psz (2 * s + 1) = s + 1 by unfold psz; omega, show pval (2 * s + 1) = ((s + 1 : Nat) : Int) by unfold pval; rw [if_pos (by omega)]; omega]
  | succ e ih =>
    intro s k h hP
    have hV := VV C (show n < 17 by omega) (show kk - (s + 1) < 13 by omega)
    have hW := VV C (show n + 1 < 17 by omega) hkk
    have hPn := P_nn C (n := n) (by omega) hkk (2 * s + 1)
    have hodd := P_odd V n kk s
    have e2 : P V n kk (2 * s + 1 + 1) = P V n kk (2 * s + 1) + V n (kk - (s + 1)) := by rw [P_succ, show psz (2 * s + 1) = s + 1 by unfold psz; omega]
    by_cases h2 : i - P V n kk (2 * s + 1) ≥ 2 * V n (kk - (s + 1))
    · obtain ⟨p, k', g1, g2, g3, g4, g5⟩ := ih (s + 1) k (by omega) (by rw [hodd]; omega)
      refine ⟨p, k', g1, g2, g3, g4, ?_⟩
      rw [hodd] at g5
      rw [show k + (e + 1) + 1 = (k + e + 1) + 1 by omega, comb_Vector.l1, u64 (x := 2 * V n (kk - (s + 1))) (by omega) (by omega), if_pos h2, wpred (by omega), wsucc (by omega), wsub (by omega) (by omega), C.table (by omega) (by omega), Option.bind_some, u64 (by omega) (by omega),
        show i - P V n kk (2 * s + 1) - 2 * V n (kk - (s + 1)) = i - (P V n kk (2 * s + 1) + 2 * V n (kk - (s + 1))) by omega]
      exact g5
    · have hn1 : wrap64 (((n + 1 : Nat) : Int) - 1) = (n : Int) := by rw [w64 (by omega) (by omega)]; omega
      rw [show k + (e + 1) + 1 = (k + (e + 1)) + 1 from rfl, comb_Vector.l1, u64 (x := 2 * V n (kk - (s + 1))) (by omega) (by omega), if_neg h2, wpred (by omega), wsub (by omega) (by omega), C.table (by omega) (by omega), Option.bind_some]
      by_cases hc : i - P V n kk (2 * s + 1) ≥ V n (kk - (s + 1))
      · refine ⟨2 * (s + 1), k + (e + 1), by omega, by unfold psz; omega, by rw [show 2 * (s + 1) = 2 * s + 1 + 1 by omega, e2]; omega, by rw [hodd]; omega, ?_⟩
        rw [if_pos hc, if_pos (by omega), u64 (by omega) (by omega), show psz (2 * (s + 1)) = s + 1 by unfold psz; omega, show 2 * (s + 1) = 2 * s + 1 + 1 by omega, e2, w64 (x := -((s + 1 : Nat) : Int)) (by omega) (by omega), show pval (2 * s + 1 + 1) = -((s + 1 : Nat) : Int) by unfold pval; rw [if_neg (by omega)]; omega,
          show i - (P V n kk (2 * s + 1) + V n (kk - (s + 1))) = i - P V n kk (2 * s + 1) - V n (kk - (s + 1)) by omega]
      · refine ⟨2 * s + 1, k + (e + 1), by omega, by unfold psz; omega, hP, by rw [e2]; omega, ?_⟩
        rw [if_neg hc, if_pos (by omega), show psz (2 * s + 1) = s + 1 by unfold psz; omega, show pval (2 * s + 1) = ((s + 1 : Nat) : Int) by unfold pval; rw [if_pos (by omega)]; omega]
theorem Unr.none (C : Cnt V) {kk : Nat} {i : Int} (hkk : kk < 13) (h0 : 0 ≤ i) (h1 : i < V 0 kk) : Unr V 0 kk i [] := by
  rcases Nat.eq_zero_or_pos kk with rfl | h
  · rw [C.zero (by decide)] at h1
    exact ⟨rfl, by omega, rfl⟩
  · rw [C.none hkk h] at h1
    omega
theorem vec_l0 (C : Cnt V) : ∀ (n kk k : Nat) (i : Int) (out : List Int), n ≤ 16 → kk < 13 → 0 ≤ i → i < V n kk → out.length + n ≤ 50 → 20 * n + 1 ≤ k →
    ∃ y, Unr V n kk i y ∧ comb_Vector.l0 k (n : Int) (kk : Int) i out = some (out ++ y, 0)
  | 0, kk, k, i, out, hn, hkk, h0, h1, ho, hk => by
    obtain ⟨q, rfl⟩ : ∃ q, k = q + 1 := ⟨k - 1, by omega⟩
    refine ⟨[], Unr.none C hkk h0 h1, ?_⟩
    rw [comb_Vector.l0, if_neg (by omega), List.append_nil]
  | n + 1, kk, k, i, out, hn, hkk, h0, h1, ho, hk => by
    have hV := VV C (show n < 17 by omega) hkk
    have hW := VV C (show n + 1 < 17 by omega) hkk
    by_cases hc : i ≥ V n kk
    · have hk0 : 0 < kk := by
        rcases Nat.eq_zero_or_pos kk with rfl | h
        · rw [C.zero (by omega)] at h1 hc
          omega
        · exact h
      obtain ⟨q, rfl⟩ : ∃ q, k = (q + (kk - 1) + 1) + 1 := ⟨k - kk - 1, by omega⟩
      obtain ⟨p, k', g1, g2, g3, g4, g5⟩ := vec_l1 C (n := n) (by omega) hkk h1 (out := out) (by omega) (kk - 1) 0 q (by omega) (by rw [show 2 * 0 + 1 = 1 from rfl, P_one]; exact hc)
      have hV2 := P_succ V n kk p
      obtain ⟨y, hy, hy2⟩ := vec_l0 C n (kk - psz p) k' (i - P V n kk p) (out ++ [pval p]) (by omega) (by omega) (by omega) (by omega) (by rw [List.length_append, List.length_singleton]; omega) (by omega)
      refine ⟨pval p :: y, ⟨p, y, rfl, g2, g3, g4, hy⟩, ?_⟩
      rw [comb_Vector.l0, if_pos (by omega), wpred (by omega), wone (by omega) (by omega), C.table (by omega) hkk, Option.bind_some, if_pos hc, C.table (by omega) (by omega), Option.bind_some, u64 (by omega) (by omega)]
      rw [show 2 * 0 + 1 = 1 from rfl, P_one] at g5
      rw [show ((0 + 1 : Nat) : Int) = 1 from rfl, show kk - (0 + 1) = kk - 1 from rfl] at g5
      rw [g5, hy2, List.append_assoc, List.singleton_append]
    · obtain ⟨q, rfl⟩ : ∃ q, k = q + 1 := ⟨k - 1, by omega⟩
      obtain ⟨y, hy, hy2⟩ := vec_l0 C n kk q i (out ++ [0]) (by omega) hkk h0 (by omega) (by rw [List.length_append, List.length_singleton]; omega) (by omega)
      refine ⟨pval 0 :: y, ⟨0, y, rfl, Nat.zero_le _, h0, by rw [show 0 + 1 = 1 from rfl, P_one]; omega, ?_⟩, ?_⟩
      · rw [show kk - psz 0 = kk from rfl, show P V n kk 0 = 0 from rfl, Int.sub_zero]
        exact hy
      · have hn1 : wrap64 (((n + 1 : Nat) : Int) - 1) = (n : Int) := by rw [w64 (by omega) (by omega)]; omega
        rw [comb_Vector.l0, if_pos (by omega), wpred (by omega), C.table (by omega) hkk, Option.bind_some, if_neg hc, if_pos (by omega), hy2, List.append_assoc]
        rfl
theorem fair_ok {n k : Nat} (hn : 1 ≤ n) (hn' : n ≤ 16) (hk : k < 13) : comb_fair.f (n : Int) (k : Int) = some true ∧ psalteryref06_Fair.f (n : Int) (k : Int) = some true := by
  unfold comb_fair.f psalteryref06_Fair.f
  rw [if_pos (by omega), if_pos (by omega), if_pos (by omega), decide_eq_true (by omega), if_pos (by omega)]
  exact ⟨rfl, rfl⟩
theorem fair_bad {a b : Int} (h : ¬ (1 ≤ a ∧ a ≤ 16 ∧ 0 ≤ b ∧ b ≤ 12)) : comb_fair.f a b = some false ∧ psalteryref06_Fair.f a b = some false := by
  unfold comb_fair.f psalteryref06_Fair.f
  by_cases h1 : a ≥ 1
  · rw [if_pos h1, if_pos (show a > 0 by omega)]
    by_cases h2 : a ≤ 16
    · rw [if_pos h2]
      by_cases h3 : b ≥ 0
      · rw [if_pos h3, decide_eq_false (by omega)]
        exact ⟨rfl, rfl⟩
      · rw [if_neg h3]
        exact ⟨rfl, rfl⟩
    · rw [if_neg h2]
      exact ⟨rfl, rfl⟩
  · rw [if_neg h1, if_neg (show ¬ a > 0 by omega)]
    exact ⟨rfl, rfl⟩
theorem vector_ok (C : Cnt V) {n k : Nat} {i : Int} (hn : 1 ≤ n) (hn' : n ≤ 16) (hk : k < 13) (h0 : 0 ≤ i) (h1 : i < V n k) : ∃ y, Unr V n k i y ∧ ∀ q, 400 ≤ q → comb_Vector.f q (n : Int) (k : Int) i = some (y, 0) := by
  obtain ⟨y, hy, hy2⟩ := vec_l0 C n k 400 i [] hn' hk h0 h1 (by simp; omega) (by omega)
  refine ⟨y, hy, fun q hq => ?_⟩
  obtain ⟨y', hy', hy2'⟩ := vec_l0 C n k q i [] hn' hk h0 h1 (by simp; omega) (by omega)
  obtain rfl := Unr.fn C (by omega) hk hy hy'
  unfold comb_Vector.f
  rw [(fair_ok hn hn' hk).1, Option.bind_some, if_pos rfl, C.table (by omega) hk, Option.bind_some, if_neg (by omega), hy2', List.nil_append]
theorem refCount_ok (C : Cnt V) {n k : Nat} (hn' : n ≤ 16) (hk : k < 13) {q : Nat} (hq : 3000 ≤ q) : psalteryref06_Count.f q (n : Int) (k : Int) = some (V n k) := by
  unfold psalteryref06_Count.f
  rw [C.rows (by omega) hq, Option.bind_some, if_pos (by omega), if_pos (by rw [rowL_len]; omega), rd_row hk]
theorem wf_u64 {v : Int} (h : (Lit.int .u64 v).wf = true) : 0 ≤ v := by
  simp only [Lit.wf, IntKind.min, IntKind.max, IntKind.signed, IntKind.bits, Bool.and_eq_true, decide_eq_true_eq] at h
  have := h.1
  simpa using this
end Go.Proofs.Ytgjdgpkjdffhkaa.Com
