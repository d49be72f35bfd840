/- CoderAny, over numbers and lists: any bytes are taken as choices, however many. -/
import Derived.Test.YtkaoiblgfpphoaaZCoderAnyCodD
import Derived.Test.YtkaoiblgfpphoaaZCoderAnyPuCoderAny
namespace Go.Proofs.Ytkaoiblgfpphoaa.coderAny
open Go.RowKit Go.Proofs.YtkaoiblgfpphoaaW.PrintWords Go.Proofs.Ytkaoiblgfpphoaa.Prt Go.Proofs.Ytkaoiblgfpphoaa.Val Go.Proofs.Ytkaoiblgfpphoaa.Cod
set_option linter.unusedVariables false
theorem l0_ok {l tots : List Int} (hb : Bytes l) (hl : l.length ≤ 9000) (hw : ∀ e ∈ tots, (Lit.int .i64 e).wf = true) (hm : tots.length ≤ 9223372036854775807) : ∀ (d : Nat) (i code rg at_ : Int) (k : Nat), 0 ≤ i → i + d = 100 → DOk code rg at_ → 200 + 3 * d < k →
    psalterylaw05_CoderAny.l0 k tots i code rg l at_ = some true
  | 0, i, code, rg, at_, k, h0, hd, h, hk => by
    obtain ⟨k, rfl⟩ : ∃ m, k = m + 2 := ⟨k - 2, by omega⟩
    have key : psalterylaw05_CoderAny.j1 (k + 1) tots i false code rg l at_ = some true := by
      simp only [psalterylaw05_CoderAny.j1]
      rw [if_neg (by simp), knows_k k (by omega)]
      rfl
    simp only [psalterylaw05_CoderAny.l0]
    by_cases h1 : i < (tots.length : Int)
    · rw [if_pos h1, show decide (i < 100) = false by simp; omega]
      exact key
    · rw [if_neg h1]
      exact key
  | d + 1, i, code, rg, at_, k, h0, hd, h, hk => by
    obtain ⟨k, rfl⟩ : ∃ m, k = m + 3 := ⟨k - 3, by omega⟩
    simp only [psalterylaw05_CoderAny.l0]
    by_cases h1 : i < (tots.length : Int)
    · rw [if_pos h1, show decide (i < 100) = true by simp; omega]
      simp only [psalterylaw05_CoderAny.j1]
      have hu := u64_of (rd tots i)
      rw [if_pos trivial, if_pos h0, if_pos h1, tmod_nn hu.1, i64w (x := IntKind.u64.wrap (rd tots i) % 65536) (by omega) (by omega), i64w (by omega) (by omega)]
      generalize hT : 1 + IntKind.u64.wrap (rd tots i) % 65536 = T
      have hT1 : 1 ≤ T := by omega
      have hT2 : T ≤ 65536 := by omega
      have hg := gt_bound (code := code) h.1 h.2.2.1 hT1 hT2
      rw [get_ok (good_ok h) h hT1 hT2, Option.bind_some]
      dsimp only
      rw [if_pos rfl, if_neg (by omega), show decide (gt code rg T ≥ T) = false by simp; omega]
      simp only [psalterylaw05_CoderAny.j2]
      have hf : Cod.Fair (gt code rg T) (gt code rg T + 1) T := ⟨hg.1, by omega, by omega, hT2⟩
      have ht := tk_ok (at_ := at_) hb hl h hf
      rw [if_neg (by simp), i64w (by omega) (by omega), take_ok (good_ok h) h hb hl hf k (by omega), Option.bind_some]
      dsimp only
      rw [if_pos rfl, rightDec_f, Option.bind_some, if_pos (by simp; exact ⟨ht.2.1, ht.2.2.1, ht.2.2.2.2.1⟩), i64w (by omega) (by omega)]
      exact l0_ok hb hl hw hm d (i + 1) _ _ _ k (by omega) (by omega) ht (by omega)
    · rw [if_neg h1]
      simp only [psalterylaw05_CoderAny.j1]
      rw [if_neg (by simp), knows_k (k + 1) (by omega)]
      rfl
theorem pure : Pu := by
  intro l tots hl ht
  refine ⟨1000, ?_⟩
  unfold psalterylaw05_CoderAny.f
  by_cases hg : (l.length : Int) > 5000
  · rw [if_pos hg, knows_k 1000 (by omega)]
    rfl
  · have hb : Bytes l := fun x hx => wf_u8 (hl.2 x hx)
    rw [if_neg hg, open_f hb, Option.bind_some]
    exact l0_ok hb (by omega) ht.2 (by have := ht.1; simp only [maxLen] at this; omega) 100 0 _ _ _ 1000 (by omega) (by omega) (open_ok hb) (by omega)
end Go.Proofs.Ytkaoiblgfpphoaa.coderAny
