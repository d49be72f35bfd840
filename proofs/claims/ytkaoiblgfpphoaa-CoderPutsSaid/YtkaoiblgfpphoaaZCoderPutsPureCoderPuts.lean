/- CoderPuts, over numbers and lists: a choice is put as the document says, whatever the encoder. -/
import Derived.Test.YtkaoiblgfpphoaaZCoderPutsCodR
import Derived.Test.YtkaoiblgfpphoaaZCoderPutsPuCoderPuts
namespace Go.Proofs.Ytkaoiblgfpphoaa.coderPuts
open Go.RowKit Go.Proofs.YtkaoiblgfpphoaaW.PrintWords Go.Proofs.Ytkaoiblgfpphoaa.Prt Go.Proofs.Ytkaoiblgfpphoaa.Val Go.Proofs.Ytkaoiblgfpphoaa.Cod
set_option linter.unusedVariables false

theorem l0_same (x : Int) (l : List Int) (hb : Bytes l) (hl : l.length ≤ 9000) : ∀ (d i k : Nat), i + d = l.length → d + 100 < k → psalterylaw05_CoderPuts.l0 k l (i : Int) x l = some true
  | 0, i, k, hi, hk => by
    obtain ⟨k, rfl⟩ : ∃ m, k = m + 1 := ⟨k - 1, by omega⟩
    simp only [psalterylaw05_CoderPuts.l0]
    rw [if_neg (by omega), knows_k k (by omega)]
    rfl
  | d + 1, i, k, hi, hk => by
    obtain ⟨k, rfl⟩ : ∃ m, k = m + 1 := ⟨k - 1, by omega⟩
    have hr := hb.rd (i : Int)
    simp only [psalterylaw05_CoderPuts.l0]
    rw [if_pos (by omega), if_pos (by omega), if_pos (by omega), i64w (x := rd l i) (by omega) (by omega), if_pos rfl, i64w (by omega) (by omega)]
    exact l0_same x l hb hl d (i + 1) k (by omega) (by omega)
theorem same_of {lo rg lo0 rg0 clo chi ctot : Int} {out out0 : List Int} (ho : coder_own.f lo0 rg0 out0 = some (lo, rg, out)) (he : EOk lo rg out) (ha : ∀ k, 5000 ≤ k → psalterylaw05_AsEnc.f k lo0 rg0 out0 = some (rg, out ++ four lo)) (hlen : out0.length ≤ 5000) :
    psalterylaw05_CoderPuts.f 6000 lo0 rg0 out0 clo chi ctot = some true := by
  obtain ⟨lo', rg', out', e, h1, h2, h3, _⟩ := put_same (clo := clo) (chi := chi) (ctot := ctot) ho he
  unfold psalterylaw05_CoderPuts.f
  rw [if_neg (by omega), h1 6000 (by omega), Option.bind_some, ha 6000 (by omega), Option.bind_some]
  dsimp only
  rw [h3 6000 (by omega), Option.bind_some]
  dsimp only
  rw [rightEnc_f, Option.bind_some, right_f, Option.bind_some, if_neg (by simp), if_pos rfl, sameEnc_ok h2 6000 (by omega), Option.bind_some]
  show psalterylaw05_CoderPuts.j0 (5999 + 1) _ _ _ _ _ _ = _
  simp only [psalterylaw05_CoderPuts.j0]
  rw [if_neg (by simp), finish_ok h2, Option.bind_some, if_pos rfl]
  have := h2.2.2.2.2
  exact l0_same rg' _ (this.1.append (four_bytes _)) (by simp [four]; omega) (out' ++ four lo').length 0 5999 (by omega) (by simp [four]; omega)
theorem pure : Pu := by
  intro lo rg out clo chi ctot hlo hrg hout hclo hchi htot
  by_cases hg : (out.length : Int) > 5000
  · refine ⟨100, ?_⟩
    unfold psalterylaw05_CoderPuts.f
    rw [if_pos hg, knows_k 100 (by omega)]
    rfl
  · have b1 := wf_u64 hlo
    have b2 := wf_u32 hrg
    have b3 : Bytes out := fun x hx => wf_u8 (hout.2 x hx)
    refine ⟨6000, ?_⟩
    by_cases hr : lo ≤ 4294967295 ∧ 16777216 ≤ rg ∧ (out.length : Int) ≤ 4000
    · have he : EOk lo rg out := ⟨b1.1, hr.1, hr.2.1, b2.2, b3, by omega⟩
      exact same_of (own_ok he) he (fun k hk => asEnc_ok he k hk) (by omega)
    · exact same_of (own_bad hr) new_ok (fun k _ => asEnc_bad hr k) (by omega)
end Go.Proofs.Ytkaoiblgfpphoaa.coderPuts
