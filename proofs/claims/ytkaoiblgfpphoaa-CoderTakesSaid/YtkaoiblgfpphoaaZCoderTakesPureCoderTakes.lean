/- CoderTakes, over numbers and lists: where a choice lies, and what becomes of a decoder by it, is what the document says. -/
import Derived.Test.YtkaoiblgfpphoaaZCoderTakesCodD
import Derived.Test.YtkaoiblgfpphoaaZCoderTakesPuCoderTakes
namespace Go.Proofs.Ytkaoiblgfpphoaa.coderTakes
open Go.RowKit Go.Proofs.YtkaoiblgfpphoaaW.PrintWords Go.Proofs.Ytkaoiblgfpphoaa.Prt Go.Proofs.Ytkaoiblgfpphoaa.Val Go.Proofs.Ytkaoiblgfpphoaa.Cod
set_option linter.unusedVariables false
theorem j1_ok {code0 rg0 at0 code rg at_ lo hi tot : Int} {l0 l : List Int} (hg : coder_good.f code0 rg0 l0 at0 = some (code, rg, l, at_)) (h : DOk code rg at_) (hb : Bytes l) (hl : l.length ≤ 9000) (k : Nat) (hk : 200 ≤ k) :
    psalterylaw05_CoderTakes.j1 (k + 1) lo hi tot code0 rg0 l0 at0 code rg l at_ = some true := by
  simp only [psalterylaw05_CoderTakes.j1]
  by_cases hf : Cod.Fair lo hi tot
  · have ht := tk_ok (at_ := at_) hb hl h hf
    rw [take_ok hg h hb hl hf k (by omega), Option.bind_some, Fair_f, Option.bind_some, if_pos (by simpa using hf)]
    dsimp only
    rw [if_pos rfl, refTake_ok h hb hl hf k (by omega), Option.bind_some]
    dsimp only
    rw [sameDec_f _ _ _ _ (by have := ht.2.2.1; omega) ht.2.2.2.1, Option.bind_some, if_pos rfl, rightDec_f, Option.bind_some, if_pos (by simp; exact ⟨ht.2.1, ht.2.2.1, ht.2.2.2.2.1⟩), knows_k k (by omega)]
    rfl
  · rw [take_bad hg hf k, Option.bind_some, Fair_f, Option.bind_some, if_neg (by simpa using hf)]
    dsimp only
    rw [if_pos rfl, sameDec_f _ _ _ _ (by have := h.2.2.1; omega) h.2.2.2.1, Option.bind_some, if_pos rfl, knows_k k (by omega)]
    rfl
theorem pure : Pu := by
  intro code rg l at_ lo hi tot h1 h2 h3 h4 h5 h6 h7
  refine ⟨300, ?_⟩
  unfold psalterylaw05_CoderTakes.f
  by_cases hg : (l.length : Int) > 5000
  · rw [if_pos hg, knows_k 300 (by omega)]
    rfl
  · have hb : Bytes l := fun x hx => wf_u8 (h3.2 x hx)
    have w1 := wf_u64 h1
    have w2 := wf_u32 h2
    have w4 := wf_i64 h4
    obtain ⟨code', rg', l', at', g1, g2, g3, g4, g5⟩ := dec_any (rg := rg) (l := l) w1.1 w2.2 w4.2 hb (by omega)
    rw [if_neg hg, g5 300 (by omega), Option.bind_some]
    by_cases ht : tot < 1
    · rw [get_bad g1 (.inl ht), Option.bind_some, if_pos ht]
      dsimp only
      show psalterylaw05_CoderTakes.j0 (299 + 1) _ _ _ _ _ _ _ _ _ _ _ _ _ _ = _
      simp only [psalterylaw05_CoderTakes.j0, ↓reduceIte]
      exact j1_ok g1 g2 g3 g4 298 (by omega)
    · by_cases ht2 : tot > 65536
      · rw [get_bad g1 (.inr ht2), Option.bind_some, if_neg ht]
        dsimp only
        show psalterylaw05_CoderTakes.j0 (299 + 1) _ _ _ _ _ _ _ _ _ _ _ _ _ _ = _
        simp only [psalterylaw05_CoderTakes.j0]
        rw [if_pos (by simpa using ht2), if_pos trivial, if_pos trivial]
        exact j1_ok g1 g2 g3 g4 298 (by omega)
      · rw [get_ok g1 g2 (by omega) (by omega), Option.bind_some, if_neg ht]
        dsimp only
        show psalterylaw05_CoderTakes.j0 (299 + 1) _ _ _ _ _ _ _ _ _ _ _ _ _ _ = _
        simp only [psalterylaw05_CoderTakes.j0]
        rw [if_neg (by simpa using ht2), refGet_ok l' g2 (by omega) (by omega), Option.bind_some, if_pos rfl, if_pos trivial]
        exact j1_ok g1 g2 g3 g4 298 (by omega)
end Go.Proofs.Ytkaoiblgfpphoaa.coderTakes
