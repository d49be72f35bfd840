/- Lists of bytes as numbers: plain arithmetic, no program in sight. -/
import Derived.Test.YtkaoiblgfpphoaaZGainTakesWMore
import Derived.IntWalk
import Derived.Laws.BitsLemmas
namespace Go.Proofs.Ytkaoiblgfpphoaa.Val
open Go.RowKit Go.Proofs.YtkaoiblgfpphoaaW.PrintWords

theorem u64w {x : Int} (h0 : 0 ≤ x) (h1 : x ≤ 18446744073709551615) : IntKind.u64.wrap x = x := IntWalk.u64_in x ⟨h0, h1⟩
theorem i64w {x : Int} (h0 : -9223372036854775808 ≤ x) (h1 : x ≤ 9223372036854775807) : wrap64 x = x := by unfold wrap64; omega
theorem tdiv_nn {a b : Int} (h : 0 ≤ a) : Int.tdiv a b = a / b := Int.tdiv_eq_ediv_of_nonneg h
theorem tmod_nn {a b : Int} (h : 0 ≤ a) : Int.tmod a b = a % b := Int.tmod_eq_emod_of_nonneg h
theorem u64_fit (n : Int) (h₀ : 0 ≤ n) (h₁ : n < 2 ^ 64) : IntKind.u64.wrap n = n := u64w h₀ (by omega)
theorem and32 {x : Int} (h₀ : 0 ≤ x) (h₁ : x ≤ 18446744073709551615) : Go.bits .and .u64 x 4294967295 = x % 4294967296 := by
  have h := bits_mask .u64 64 (by decide) u64_fit 32 (by decide) x h₀ (by omega)
  exact h
theorem or8 {x y : Int} (hx : 0 ≤ x) (hx1 : x ≤ 18446744073709551615) (hm : x % 256 = 0) (hy : 0 ≤ y) (hy1 : y < 256) : Go.bits .or .u64 x y = x + y :=
  bits_join .u64 64 (by decide) u64_fit 8 x y hx (by simpa using hm) (by omega) hy (by omega) (by omega)
theorem or16 {x y : Int} (hx : 0 ≤ x) (hx1 : x ≤ 18446744073709551615) (hm : x % 65536 = 0) (hy : 0 ≤ y) (hy1 : y < 65536) : Go.bits .or .u64 x y = x + y :=
  bits_join .u64 64 (by decide) u64_fit 16 x y hx (by simpa using hm) (by omega) hy (by omega) (by omega)
theorem or24 {x y : Int} (hx : 0 ≤ x) (hx1 : x ≤ 18446744073709551615) (hm : x % 16777216 = 0) (hy : 0 ≤ y) (hy1 : y < 16777216) : Go.bits .or .u64 x y = x + y :=
  bits_join .u64 64 (by decide) u64_fit 24 x y hx (by simpa using hm) (by omega) hy (by omega) (by omega)

def Bytes (l : List Int) : Prop := ∀ x ∈ l, 0 ≤ x ∧ x < 256
theorem Bytes.nil : Bytes [] := fun _ h => by cases h
theorem Bytes.left {l m : List Int} (h : Bytes (l ++ m)) : Bytes l := fun x hx => h x (List.mem_append_left _ hx)
theorem Bytes.one {x : Int} (h : 0 ≤ x) (h' : x < 256) : Bytes [x] := fun y hy => by rw [List.mem_singleton.1 hy]; exact ⟨h, h'⟩
theorem Bytes.rd {l : List Int} (h : Bytes l) (i : Int) : 0 ≤ rd l i ∧ rd l i < 256 := by
  unfold Go.Proofs.YtkaoiblgfpphoaaW.PrintWords.rd
  rw [List.getD_eq_getElem?_getD]
  cases he : l[i.toNat]? with
  | none => exact ⟨by decide, by decide⟩
  | some y => exact h y (List.mem_of_getElem? he)
def val (l : List Int) : Int := l.foldl (fun a x => a * 256 + x) 0
def pw (n : Nat) : Int := 256 ^ n
theorem pw_zero : pw 0 = 1 := rfl
theorem pw_succ (n : Nat) : pw (n + 1) = 256 * pw n := by unfold pw; rw [Int.pow_succ, Int.mul_comm]
def four (n : Int) : List Int := [n / 16777216 % 256, n / 65536 % 256, n / 256 % 256, n % 256]
theorem wf_u64 {x : Int} (h : (Lit.int .u64 x).wf = true) : 0 ≤ x ∧ x ≤ 18446744073709551615 := by simp [Lit.wf, IntKind.min, IntKind.max, IntKind.bits, IntKind.signed] at h; omega
theorem wf_u32 {x : Int} (h : (Lit.int .u32 x).wf = true) : 0 ≤ x ∧ x ≤ 4294967295 := by simp [Lit.wf, IntKind.min, IntKind.max, IntKind.bits, IntKind.signed] at h; omega
theorem wf_u8 {x : Int} (h : (Lit.int .u8 x).wf = true) : 0 ≤ x ∧ x < 256 := by simp [Lit.wf, IntKind.min, IntKind.max, IntKind.bits, IntKind.signed] at h; omega
theorem wf_i64 {x : Int} (h : (Lit.int .i64 x).wf = true) : -9223372036854775808 ≤ x ∧ x ≤ 9223372036854775807 := by simp [Lit.wf, IntKind.min, IntKind.max, IntKind.bits, IntKind.signed] at h; omega
end Go.Proofs.Ytkaoiblgfpphoaa.Val
