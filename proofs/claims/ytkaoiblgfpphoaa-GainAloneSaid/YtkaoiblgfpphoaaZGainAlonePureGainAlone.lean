/- GainAlone, over numbers and lists: by themselves gains are put and taken alike, whatever is ahead. -/
import Derived.Test.YtkaoiblgfpphoaaZGainAloneGanK
import Derived.Test.YtkaoiblgfpphoaaZGainAloneGanA
import Derived.Test.YtkaoiblgfpphoaaZGainAlonePuGainAlone
namespace Go.Proofs.Ytkaoiblgfpphoaa.gainAlone
open Go.RowKit Go.Proofs.YtkaoiblgfpphoaaW.PrintWords Go.Proofs.Ytkaoiblgfpphoaa.Prt Go.Proofs.Ytkaoiblgfpphoaa.Val Go.Proofs.Ytkaoiblgfpphoaa.Cod Go.Proofs.Ytkaoiblgfpphoaa.Gan
set_option linter.unusedVariables false
theorem own_any {lo rg : Int} {out : List Int} (h0 : 0 ≤ lo) (h1 : rg ≤ 4294967295) (hb : Bytes out) : ∃ lo' rg' out', coder_own.f lo rg out = some (lo', rg', out') ∧ EOk lo' rg' out' := by
  by_cases hr : lo ≤ 4294967295 ∧ 16777216 ≤ rg ∧ (out.length : Int) ≤ 4000
  · have he : EOk lo rg out := ⟨h0, hr.1, hr.2.1, h1, hb, by omega⟩
    exact ⟨_, _, _, own_ok he, he⟩
  · exact ⟨_, _, _, own_bad hr, new_ok⟩
theorem pure : Pu := by
  intro lo rg out code r l t g a b hlo hrg hout hco hr hl ht hg ha hb
  obtain ⟨k, hk⟩ : ∃ k, k = 10000 := ⟨_, rfl⟩
  refine ⟨k + 2, ?_⟩
  unfold psalterylaw11_GainAlone.f
  rw [great_f, Option.bind_some]
  have key : psalterylaw11_GainAlone.j0 (k + 2) g a b true lo rg out code r l t = some true := by
    simp only [psalterylaw11_GainAlone.j0, ↓reduceIte]
    rw [knows11_k (k + 1) (by omega)]
    rfl
  by_cases hgr : 5000 < (out.length : Int) ∨ 5000 < (l.length : Int) ∨ 100 < (g.length : Int) ∨ 100 < (a.length : Int)
  · rw [if_pos (decide_eq_true hgr)]
    exact key
  · rw [if_neg (by simpa using hgr)]
    by_cases hbl : (b.length : Int) > 100
    · rw [show decide ((b.length : Int) > 100) = true by simpa using hbl]
      exact key
    · rw [show decide ((b.length : Int) > 100) = false by simpa using hbl]
      have b1 := wf_u64 hlo
      have b2 := wf_u32 hrg
      have b3 : Bytes out := fun x hx => wf_u8 (hout.2 x hx)
      have c1 := wf_u64 hco
      have c2 := wf_u32 hr
      have c3 : Bytes l := fun x hx => wf_u8 (hl.2 x hx)
      have c4 := wf_i64 ht
      obtain ⟨lo0, rg0, out0, ho, he⟩ := own_any b1.1 b2.2 b3
      obtain ⟨lo', rg', out', e, h1, h3⟩ := alone_ok (g := g) (a := a) (by omega) ho he
      obtain ⟨code', r', l', t', g1, g2, g3, g4, _⟩ := dec_any (rg := r) (l := l) c1.1 c2.2 c4.2 c3 (by omega)
      have go := gts_ok (a := a) (intra := true) g3 g4 5 0 code' r' t' [] g2 (by simp)
      have hl5 : (gts l' a true 5 0 code' r' t' []).2.2.2.length = 5 := by have := go.2.1; simpa using this
      simp only [psalterylaw11_GainAlone.j0]
      rw [if_neg (by simp), puts_alone b a g, h1 (k + 1) (by omega), Option.bind_some, Option.bind_some]
      dsimp only
      rw [if_pos rfl, asEnc_ok h3 (k + 1) (by omega), Option.bind_some]
      dsimp only
      rw [sameEnc_ok h3 (k + 1) (by omega), Option.bind_some]
      simp only [psalterylaw11_GainAlone.j1, Bool.not_true]
      rw [if_neg (by simp), takes_ok (a := a) (intra := true) (by omega) g1 g2 g3 g4 k (by omega), takes_ok (a := b) (intra := true) (by omega) g1 g2 g3 g4 k (by omega), if_pos (.inl rfl), if_pos (.inl rfl), gts_alone b a]
      simp only [Option.bind_some]
      rw [if_pos trivial, same_ok _ (by omega) k (by omega), Option.bind_some, if_pos rfl, asDec_ok go.1 k, Option.bind_some]
      dsimp only
      rw [sameDec_f _ _ _ _ (by have := go.1.2.2.1; omega) go.1.2.2.2.1, Option.bind_some, if_pos rfl, knows11_k k (by omega)]
      rfl
end Go.Proofs.Ytkaoiblgfpphoaa.gainAlone
