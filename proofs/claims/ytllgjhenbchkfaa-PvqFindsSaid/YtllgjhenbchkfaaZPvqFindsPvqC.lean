/- Pulse vectors, their sizes and numbers (of ComV and ComM, what the law of pvq needs). -/
import Derived.Test.YtllgjhenbchkfaaZPvqFindsM1
import Derived.Test.YtllgjhenbchkfaaZPvqFindsWMore
namespace Go.Proofs.Ytllgjhenbchkfaa.Com
open Go Go.RowKit Go.Proofs.YtllgjhenbchkfaaW.PrintWords Go.Proofs.Ytllgjhenbchkfaa.Prt
set_option linter.unusedVariables false
set_option linter.unusedSimpArgs false
def pval (p : Nat) : Int := if p % 2 = 1 then ((p + 1) / 2 : Nat) else -((p / 2 : Nat) : Int)
def psz (p : Nat) : Nat := (p + 1) / 2
def P (V : Nat → Nat → Int) (n k : Nat) : Nat → Int
  | 0 => 0
  | p + 1 => P V n k p + V n (k - psz p)
theorem w64 {x : Int} (h0 : -9223372036854775808 ≤ x) (h1 : x ≤ 9223372036854775807) : wrap64 x = x := by unfold wrap64; omega
theorem u64 {x : Int} (h0 : 0 ≤ x) (h1 : x ≤ 18446744073709551615) : IntKind.u64.wrap x = x := by
  have h : IntKind.u64.wrap x = x % 18446744073709551616 := by simp [IntKind.wrap, IntKind.bits, IntKind.signed]
  rw [h]
  omega
theorem rd_at {l : List Int} {i : Nat} (h : i < l.length) : rd l (i : Int) = l[i] := by
  unfold rd
  rw [Int.toNat_natCast, List.getD_eq_getElem?_getD, List.getElem?_eq_getElem h, Option.getD_some]
variable {V : Nat → Nat → Int}
def Unr (V : Nat → Nat → Int) : Nat → Nat → Int → List Int → Prop
  | 0, k, i, y => k = 0 ∧ i = 0 ∧ y = []
  | n + 1, k, i, y => ∃ p ys, y = pval p :: ys ∧ psz p ≤ k ∧ P V n k p ≤ i ∧ i < P V n k (p + 1) ∧ Unr V n (k - psz p) (i - P V n k p) ys
theorem Unr.len : ∀ {n k : Nat} {i : Int} {y : List Int}, Unr V n k i y → y.length = n
  | 0, _, _, _, h => by rw [h.2.2]; rfl
  | n + 1, k, i, y, ⟨p, ys, e, _, _, _, h4⟩ => by rw [e, List.length_cons, Unr.len h4]
def sz (v : Int) : Int := if -12 ≤ v ∧ v ≤ 12 then (if v < 0 then -v else v) else 13
end Go.Proofs.Ytllgjhenbchkfaa.Com
