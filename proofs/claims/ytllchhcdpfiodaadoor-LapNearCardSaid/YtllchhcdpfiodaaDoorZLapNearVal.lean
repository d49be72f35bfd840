/- Lists of bytes as numbers: plain arithmetic, no program in sight. -/
import Derived.Test.YtllchhcdpfiodaaDoorZLapNearWMore
import Derived.IntWalk
import Derived.Laws.BitsLemmas
namespace Go.Proofs.YtllchhcdpfiodaaDoor.Val
open Go.RowKit Go.Proofs.YtllchhcdpfiodaaDoorW.PrintWords

def Bytes (l : List Int) : Prop := ∀ x ∈ l, 0 ≤ x ∧ x < 256
theorem Bytes.left {l m : List Int} (h : Bytes (l ++ m)) : Bytes l := fun x hx => h x (List.mem_append_left _ hx)
theorem Bytes.right {l m : List Int} (h : Bytes (l ++ m)) : Bytes m := fun x hx => h x (List.mem_append_right _ hx)
theorem Bytes.one {x : Int} (h : 0 ≤ x) (h' : x < 256) : Bytes [x] := fun y hy => by rw [List.mem_singleton.1 hy]; exact ⟨h, h'⟩
theorem Bytes.take {l : List Int} (h : Bytes l) (n : Nat) : Bytes (l.take n) := fun x hx => h x (List.mem_of_mem_take hx)
theorem Bytes.rd {l : List Int} (h : Bytes l) (i : Int) : 0 ≤ rd l i ∧ rd l i < 256 := by
  unfold Go.Proofs.YtllchhcdpfiodaaDoorW.PrintWords.rd
  rw [List.getD_eq_getElem?_getD]
  cases he : l[i.toNat]? with
  | none => exact ⟨by decide, by decide⟩
  | some y => exact h y (List.mem_of_getElem? he)
theorem Bytes.set {l : List Int} (h : Bytes l) (n : Nat) {x : Int} (h0 : 0 ≤ x) (h1 : x < 256) : Bytes (l.set n x) := fun y hy => by
  rcases List.mem_or_eq_of_mem_set hy with hy | rfl
  · exact h y hy
  · exact ⟨h0, h1⟩

def four (n : Int) : List Int := [n / 16777216 % 256, n / 65536 % 256, n / 256 % 256, n % 256]
theorem wf_u8 {x : Int} (h : (Lit.int .u8 x).wf = true) : 0 ≤ x ∧ x < 256 := by simp [Lit.wf, IntKind.min, IntKind.max, IntKind.bits, IntKind.signed] at h; omega
end Go.Proofs.YtllchhcdpfiodaaDoor.Val
