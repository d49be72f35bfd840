/- The pulse vectors: the document's numbers, and the vectors of numbers, by the program and by the document. -/
import Derived.Test.YtgjdgpkjdffhkaaZCombIndexesComM
import Derived.Test.YtgjdgpkjdffhkaaZCombIndexesM1
namespace Go.Proofs.Ytgjdgpkjdffhkaa.Com
open Go Go.RowKit Go.Proofs.YtgjdgpkjdffhkaaW.PrintWords Go.Proofs.Ytgjdgpkjdffhkaa.Prt
set_option linter.unusedVariables false
set_option linter.unusedSimpArgs false
variable {V : Nat → Nat → Int}

def ordL (k : Nat) : List Int := (List.range (2 * k + 1)).map pval
theorem order_0 : ∀ k : Fin 13, psalteryref06_order.f 30 (k.1 : Int) = some (ordL k.1) := by decide +kernel
theorem order_f {k : Nat} (hk : k < 13) {q : Nat} (hq : 30 ≤ q) : psalteryref06_order.f q (k : Int) = some (ordL k) := at_rounds (psalteryref06_order.mono _) hq (order_0 ⟨k, hk⟩)
theorem ordL_len (k : Nat) : (ordL k).length = 2 * k + 1 := by rw [ordL, List.length_map, List.length_range]
theorem rd_ord {k m : Nat} (h : m < 2 * k + 1) : rd (ordL k) (m : Int) = pval m := by
  rw [rd_at (by rw [ordL_len]; exact h)]
  simp [ordL]
theorem rowL_len (n : Nat) : (rowL V n).length = 13 := by rw [rowL, List.length_map, List.length_range]
theorem rd_row {n j : Nat} (h : j < 13) : rd (rowL V n) (j : Int) = V n j := by
  rw [rd_at (by rw [rowL_len]; exact h)]
  simp [rowL]
theorem psz_mono {p q : Nat} (h : p ≤ q) : psz p ≤ psz q := by unfold psz; omega

theorem wsub {a b : Nat} (h : b ≤ a) (ha : a ≤ 1000) : wrap64 ((a : Int) - (b : Int)) = ((a - b : Nat) : Int) := by rw [w64 (by omega) (by omega)]; omega
theorem wsucc {a : Nat} (ha : a ≤ 1000) : wrap64 ((a : Int) + 1) = ((a + 1 : Nat) : Int) := by rw [w64 (by omega) (by omega)]; omega
theorem wrow {l a n : Nat} (h : a + (n + 1) = l) (hl : l ≤ 1000) : wrap64 (wrap64 ((l : Int) - (a : Int)) - 1) = (n : Int) := by rw [w64 (x := (l : Int) - a) (by omega) (by omega), w64 (by omega) (by omega)]; omega
theorem refIndex_l1 (C : Cnt V) {y : List Int} {n kk p at_ : Nat} (hn : n < 17) (hkk : kk < 13) (hp : psz p ≤ kk) (hy : y.length ≤ 1000) (hat : at_ < y.length) (hv : y[at_] = pval p) {a : Int} (ha : 0 ≤ a) (ha1 : a ≤ 10000000000000000) : ∀ (d m k : Nat), m + d = p → 3000 ≤ k →
    psalteryref06_Index.l1 (k + d + 1) y (kk : Int) (a + P V n kk m) (at_ : Int) (rowL V n) (ordL kk) (m : Int) = psalteryref06_Index.l0 k y (wrap64 ((kk : Int) - (psz p : Int))) (a + P V n kk p) (wrap64 ((at_ : Int) + 1)) := by
  have hp2 : p ≤ 2 * kk := by unfold psz at hp; omega
  intro d
  induction d with
  | zero =>
    intro m k h hk
    obtain rfl : m = p := by omega
    rw [psalteryref06_Index.l1, if_pos (by rw [ordL_len]; omega), if_pos (by omega), if_pos (by omega), if_pos (by omega), rd_ord (by omega), rd_at hat, hv, if_pos rfl, refSize_f _ (by omega), sz_pval (by omega), Option.bind_some]
  | succ d ih =>
    intro m k h hk
    have hm := psz_mono (show m ≤ p by omega)
    have hz1 : psz m ≤ kk := by omega
    have hV := VV C hn (show kk - psz m < 13 by omega)
    have hPn := P_nn C hn hkk m
    have hPl := P_le C hn hkk m
    have hne : ¬ pval m = pval p := fun e => by have := pval_inj e; omega
    rw [show k + (d + 1) + 1 = (k + d + 1) + 1 by omega, psalteryref06_Index.l1, if_pos (by rw [ordL_len]; omega), if_pos (by omega), if_pos (by omega), if_pos (by omega), rd_ord (by omega), rd_at hat, hv, if_neg hne, refSize_f _ (by omega), sz_pval (by omega), Option.bind_some, wsub hz1 (by omega), if_pos (by omega), if_pos (by rw [rowL_len]; omega), rd_row (by omega), u64 (by omega) (by omega), w64 (x := (m : Int) + 1) (by omega) (by omega), show (m : Int) + 1 = ((m + 1 : Nat) : Int) by omega, Int.add_assoc, ← P_succ]
    exact ih (m + 1) k (by omega) hk
theorem refIndex_l0 (C : Cnt V) {y : List Int} (hy : y.length ≤ 16) : ∀ (n kk at_ k : Nat) (i a : Int), at_ + n = y.length → kk < 13 → Unr V n kk i (y.drop at_) → 0 ≤ a → a ≤ 100000000000000 * at_ → 3000 + 40 * n + 2 ≤ k →
    psalteryref06_Index.l0 k y (kk : Int) a (at_ : Int) = some (a + i)
  | 0, kk, at_, k, i, a, h, hkk, hu, ha, ha1, hk => by
    obtain ⟨q, rfl⟩ : ∃ q, k = q + 1 := ⟨k - 1, by omega⟩
    rw [psalteryref06_Index.l0, if_neg (by omega), hu.2.1, Int.add_zero]
  | n + 1, kk, at_, k, i, a, h, hkk, ⟨p, ys, e, h1, h2, h3, h4⟩, ha, ha1, hk => by
    have hat : at_ < y.length := by omega
    have hd : y.drop (at_ + 1) = ys := by
      rw [List.drop_eq_getElem_cons hat] at e
      exact (List.cons.inj e).2
    have hv : y[at_] = pval p := by
      rw [List.drop_eq_getElem_cons hat] at e
      exact (List.cons.inj e).1
    have hpn := P_nn C (n := n) (by omega) hkk p
    have hpl := P_le C (n := n) (by omega) hkk p
    have hp24 : p ≤ 24 := by unfold psz at h1; omega
    obtain ⟨q, rfl⟩ : ∃ q, k = (q + p + 1) + 1 := ⟨k - p - 2, by omega⟩
    have ih := refIndex_l0 C hy n (kk - psz p) (at_ + 1) q (i - P V n kk p) (a + P V n kk p) (by omega) (by omega) (by rw [hd]; exact h4) (by omega) (by omega) (by omega)
    rw [show a + P V n kk p + (i - P V n kk p) = a + i by omega] at ih
    have h5 := refIndex_l1 C (y := y) (n := n) (kk := kk) (p := p) (at_ := at_) (by omega) hkk h1 (by omega) hat hv ha (by omega) p 0 q (by omega) (by omega)
    rw [show P V n kk 0 = 0 from rfl, Int.add_zero] at h5
    rw [wsub h1 (by omega), wsucc (by omega)] at h5
    have c1 : (at_ : Int) < (y.length : Int) := by
      omega
    have c2 : 3000 ≤ q + p + 1 := by
      omega
    have c3 : 30 ≤ q + p + 1 := Nat.le_trans (by decide) c2
    have c4 : n < 17 := by
      omega
    rw [psalteryref06_Index.l0, if_pos c1, wrow h (by omega), C.rows c4 c2, Option.bind_some, order_f hkk c3, Option.bind_some]
    exact h5.trans ih
theorem refIndex_f (C : Cnt V) {y : List Int} {n k : Nat} {i : Int} (hn' : n ≤ 16) (hk : k < 13) (hu : Unr V n k i y) {q : Nat} (hq : 4000 ≤ q) : psalteryref06_Index.f q y = some i := by
  have hl := hu.len
  unfold psalteryref06_Index.f
  rw [refPulses_f (by omega) (by omega), Unr.szs hk hu, Option.bind_some]
  have h1 := refIndex_l0 C (y := y) (by omega) n k 0 q i 0 (by omega) hk (by rw [List.drop_zero]; exact hu) (by omega) (by omega) (by omega)
  rw [Int.zero_add] at h1
  exact h1

theorem Unr.none (C : Cnt V) {kk : Nat} {i : Int} (hkk : kk < 13) (h0 : 0 ≤ i) (h1 : i < V 0 kk) : Unr V 0 kk i [] := by
  rcases Nat.eq_zero_or_pos kk with rfl | h
  · rw [C.zero (by decide)] at h1
    exact ⟨rfl, by omega, rfl⟩
  · rw [C.none hkk h] at h1
    omega
end Go.Proofs.Ytgjdgpkjdffhkaa.Com
