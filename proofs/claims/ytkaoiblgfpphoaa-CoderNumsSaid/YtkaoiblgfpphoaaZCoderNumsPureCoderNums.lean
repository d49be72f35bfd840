/- CoderNums, over numbers and lists: a number is put, and taken, as the document says. -/
import Derived.Test.YtkaoiblgfpphoaaZCoderNumsCodN
import Derived.Test.YtkaoiblgfpphoaaZCoderNumsPuCoderNums
namespace Go.Proofs.Ytkaoiblgfpphoaa.coderNums
open Go.RowKit Go.Proofs.YtkaoiblgfpphoaaW.PrintWords Go.Proofs.Ytkaoiblgfpphoaa.Prt Go.Proofs.Ytkaoiblgfpphoaa.Val Go.Proofs.Ytkaoiblgfpphoaa.Cod
set_option linter.unusedVariables false
theorem j1_ok {code rg at_ n : Int} {l : List Int} (hc : 0 ≤ code) (hr : rg ≤ 4294967295) (ha : at_ ≤ 9223372036854775807) (hb : Bytes l) (hl : l.length ≤ 9000) (hn : 0 ≤ n) (k : Nat) (hk : 300 ≤ k) :
    psalterylaw05_CoderNums.j1 (k + 2) n false code rg l at_ = some true := by
  obtain ⟨code', rg', l', at', g1, g2, g3, g4, g5⟩ := dec_any hc hr ha hb hl
  simp only [psalterylaw05_CoderNums.j1]
  rw [if_neg (by simp)]
  by_cases h0 : n = 0
  · rw [takeNum_bad g1 (by omega) (k + 1) (by omega), Option.bind_some]
    dsimp only
    rw [if_pos h0]
    simp only [psalterylaw05_CoderNums.j2, ↓reduceIte]
    rw [g5 k (by omega), Option.bind_some]
    dsimp only
    rw [sameDec_f _ _ _ _ (by have := g2.2.2.1; omega) g2.2.2.2.1, Option.bind_some, if_pos rfl, knows_k k (by omega)]
    rfl
  · by_cases h1 : n > 4294967296
    · rw [takeNum_bad g1 (by omega) (k + 1) (by omega), Option.bind_some]
      dsimp only
      rw [if_neg h0, show decide (n > 4294967296) = true by simp; omega]
      simp only [psalterylaw05_CoderNums.j2, ↓reduceIte]
      rw [g5 k (by omega), Option.bind_some]
      dsimp only
      rw [sameDec_f _ _ _ _ (by have := g2.2.2.1; omega) g2.2.2.2.1, Option.bind_some, if_pos rfl, knows_k k (by omega)]
      rfl
    · have ht := (tn_ok (at_ := at') g3 g4 g2 (show 1 ≤ n by omega) (by omega)).1
      rw [takeNum_ok g1 g2 g3 g4 (by omega) (by omega) (k + 1) (by omega), Option.bind_some]
      dsimp only
      rw [if_neg h0, show decide (n > 4294967296) = false by simp; omega]
      simp only [psalterylaw05_CoderNums.j2]
      rw [if_neg (by simp), g5 k (by omega), Option.bind_some]
      dsimp only
      rw [refTakeNum_ok g2 g3 g4 (by omega) (by omega) k (by omega), Option.bind_some]
      dsimp only
      rw [if_pos rfl, if_pos trivial, sameDec_f _ _ _ _ (by have := ht.2.2.1; omega) ht.2.2.2.1, Option.bind_some, if_pos rfl, knows_k k (by omega)]
      rfl
theorem same_of {lo rg lo0 rg0 code rgd at_ v n : Int} {out out0 l : List Int} (ho : coder_own.f lo0 rg0 out0 = some (lo, rg, out)) (he : EOk lo rg out) (ha : ∀ k, 5000 ≤ k → psalterylaw05_AsEnc.f k lo0 rg0 out0 = some (rg, out ++ four lo))
    (hc : 0 ≤ code) (hr : rgd ≤ 4294967295) (hat : at_ ≤ 9223372036854775807) (hb : Bytes l) (hl : l.length ≤ 9000) (hv : 0 ≤ v) (hn : 0 ≤ n) (k : Nat) (hk : 6000 ≤ k) :
    psalterylaw05_CoderNums.j0 (k + 3) v n false lo0 rg0 out0 code rgd l at_ = some true := by
  obtain ⟨lo', rg', out', e, h1, h2, h3, _⟩ := putNum_same ho he hv hn
  simp only [psalterylaw05_CoderNums.j0]
  rw [if_neg (by simp), h1 (k + 2) (by omega), Option.bind_some, ha (k + 2) (by omega), Option.bind_some]
  dsimp only
  rw [h3 (k + 2) (by omega), Option.bind_some]
  dsimp only
  rw [if_pos rfl, sameEnc_ok h2 (k + 2) (by omega), Option.bind_some]
  exact j1_ok hc hr hat hb hl hn k (by omega)
theorem pure : Pu := by
  intro lo rg out code rgd l at_ v n h1 h2 h3 h4 h5 h6 h7 h8 h9
  have w1 := wf_u64 h1
  have w2 := wf_u32 h2
  have w4 := wf_u64 h4
  have w5 := wf_u32 h5
  have w7 := wf_i64 h7
  have w8 := wf_u64 h8
  have w9 := wf_u64 h9
  have b3 : Bytes out := fun x hx => wf_u8 (h3.2 x hx)
  have b6 : Bytes l := fun x hx => wf_u8 (h6.2 x hx)
  obtain ⟨k, hk⟩ : ∃ k : Nat, k = 6000 := ⟨_, rfl⟩
  refine ⟨k + 3, ?_⟩
  have big : psalterylaw05_CoderNums.j0 (k + 3) v n true lo rg out code rgd l at_ = some true := by
    simp only [psalterylaw05_CoderNums.j0, ↓reduceIte]
    rw [knows_k (k + 2) (by omega)]
    rfl
  unfold psalterylaw05_CoderNums.f
  by_cases hg : (out.length : Int) > 5000
  · rw [if_pos hg]; exact big
  · rw [if_neg hg]
    by_cases hd : (l.length : Int) > 5000
    · rw [show decide ((l.length : Int) > 5000) = true by simp; omega]; exact big
    · rw [show decide ((l.length : Int) > 5000) = false by simp; omega]
      by_cases hr : lo ≤ 4294967295 ∧ 16777216 ≤ rg ∧ (out.length : Int) ≤ 4000
      · have he : EOk lo rg out := ⟨w1.1, hr.1, hr.2.1, w2.2, b3, by omega⟩
        exact same_of (own_ok he) he (fun k hk => asEnc_ok he k hk) w4.1 w5.2 w7.2 b6 (by omega) w8.1 w9.1 k (by omega)
      · exact same_of (own_bad hr) new_ok (fun k _ => asEnc_bad hr k) w4.1 w5.2 w7.2 b6 (by omega) w8.1 w9.1 k (by omega)
end Go.Proofs.Ytkaoiblgfpphoaa.coderNums
