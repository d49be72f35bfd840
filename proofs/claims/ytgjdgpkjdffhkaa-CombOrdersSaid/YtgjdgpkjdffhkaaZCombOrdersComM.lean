/- The pulse vectors and their numbers: what the program's functions and the document's come to, on numbers and lists. -/
import Derived.Test.YtgjdgpkjdffhkaaZCombOrdersComV
import Derived.Test.YtgjdgpkjdffhkaaZCombOrdersM1
namespace Go.Proofs.Ytgjdgpkjdffhkaa.Com
open Go Go.RowKit Go.Proofs.YtgjdgpkjdffhkaaW.PrintWords Go.Proofs.Ytgjdgpkjdffhkaa.Prt
set_option linter.unusedVariables false
set_option linter.unusedSimpArgs false

theorem w64 {x : Int} (h0 : -9223372036854775808 ≤ x) (h1 : x ≤ 9223372036854775807) : wrap64 x = x := by unfold wrap64; omega
theorem u64 {x : Int} (h0 : 0 ≤ x) (h1 : x ≤ 18446744073709551615) : IntKind.u64.wrap x = x := by
  have h : IntKind.u64.wrap x = x % 18446744073709551616 := by simp [IntKind.wrap, IntKind.bits, IntKind.signed]
  rw [h]
  omega
theorem rd_at {l : List Int} {i : Nat} (h : i < l.length) : rd l (i : Int) = l[i] := by
  unfold rd
  rw [Int.toNat_natCast, List.getD_eq_getElem?_getD, List.getElem?_eq_getElem h, Option.getD_some]
variable {V : Nat → Nat → Int}
theorem VV (C : Cnt V) {n k : Nat} (hn : n < 17) (hk : k < 13) : 0 ≤ V n k ∧ V n k ≤ 1000000000000 := C.all hn hk
theorem P_succ (V : Nat → Nat → Int) (n k p : Nat) : P V n k (p + 1) = P V n k p + V n (k - psz p) := rfl
theorem P_mono (C : Cnt V) {n k : Nat} (hn : n < 17) (hk : k < 13) {p : Nat} : ∀ {q : Nat}, p ≤ q → P V n k p ≤ P V n k q := by
  intro q
  induction q with
  | zero =>
    intro h
    obtain rfl : p = 0 := by omega
    exact Int.le_refl _
  | succ q ih =>
    intro h
    rcases Nat.lt_or_ge q p with h1 | h1
    · obtain rfl : p = q + 1 := by omega
      exact Int.le_refl _
    · have := ih h1
      have := (VV C hn (show k - psz q < 13 by omega)).1
      rw [P_succ]
      omega
theorem P_nn (C : Cnt V) {n k : Nat} (hn : n < 17) (hk : k < 13) (p : Nat) : 0 ≤ P V n k p := P_mono C hn hk (Nat.zero_le p)
theorem P_odd (V : Nat → Nat → Int) (n k s : Nat) : P V n k (2 * (s + 1) + 1) = P V n k (2 * s + 1) + 2 * V n (k - (s + 1)) := by
  rw [show 2 * (s + 1) + 1 = (2 * s + 1) + 1 + 1 by omega, P_succ, P_succ, show psz (2 * s + 1) = s + 1 by unfold psz; omega, show psz (2 * s + 1 + 1) = s + 1 by unfold psz; omega]
  omega
theorem P_one (V : Nat → Nat → Int) (n k : Nat) : P V n k 1 = V n k := by
  rw [show (1 : Nat) = 0 + 1 from rfl, P_succ]
  show 0 + V n (k - 0) = V n k
  rw [Int.zero_add, Nat.sub_zero]

def Unr (V : Nat → Nat → Int) : Nat → Nat → Int → List Int → Prop
  | 0, k, i, y => k = 0 ∧ i = 0 ∧ y = []
  | n + 1, k, i, y => ∃ p ys, y = pval p :: ys ∧ psz p ≤ k ∧ P V n k p ≤ i ∧ i < P V n k (p + 1) ∧ Unr V n (k - psz p) (i - P V n k p) ys
theorem Unr.fn (C : Cnt V) : ∀ {n k : Nat} {i : Int} {y y' : List Int}, n < 17 → k < 13 → Unr V n k i y → Unr V n k i y' → y = y'
  | 0, _, _, _, _, _, _, h, h' => h.2.2.trans h'.2.2.symm
  | n + 1, k, i, y, y', hn, hk, ⟨p, ys, e, h1, h2, h3, h4⟩, ⟨p', ys', e', h1', h2', h3', h4'⟩ => by
    have hp : p = p' := by
      rcases Nat.lt_trichotomy p p' with h | h | h
      · have := P_mono C (n := n) (k := k) (by omega) hk (show p + 1 ≤ p' by omega)
        omega
      · exact h
      · have := P_mono C (n := n) (k := k) (by omega) hk (show p' + 1 ≤ p by omega)
        omega
    subst hp
    rw [e, e', Unr.fn C (by omega) (by omega) h4 h4']
theorem Unr.len : ∀ {n k : Nat} {i : Int} {y : List Int}, Unr V n k i y → y.length = n
  | 0, _, _, _, h => by rw [h.2.2]; rfl
  | n + 1, k, i, y, ⟨p, ys, e, _, _, _, h4⟩ => by rw [e, List.length_cons, Unr.len h4]
theorem pval_sz (p : Nat) : (pval p = (psz p : Int) ∧ p % 2 = 1) ∨ (pval p = -(psz p : Int) ∧ p % 2 = 0) := by
  unfold pval psz
  split
  · left; exact ⟨rfl, by assumption⟩
  · right; exact ⟨by congr 2; omega, by omega⟩
theorem pval_inj {p q : Nat} (h : pval p = pval q) : p = q := by
  unfold pval at h
  split at h <;> split at h <;> omega
def sz (v : Int) : Int := if -12 ≤ v ∧ v ≤ 12 then (if v < 0 then -v else v) else 13
end Go.Proofs.Ytgjdgpkjdffhkaa.Com
