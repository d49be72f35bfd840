/- GainPuts, over numbers and lists: gains are put as the document says. -/
import Derived.Test.YtkaoiblgfpphoaaZGainPutsGanK
import Derived.Test.YtkaoiblgfpphoaaZGainPutsGanP
import Derived.Test.YtkaoiblgfpphoaaZGainPutsPuGainPuts
namespace Go.Proofs.Ytkaoiblgfpphoaa.gainPuts
open Go.RowKit Go.Proofs.YtkaoiblgfpphoaaW.PrintWords Go.Proofs.Ytkaoiblgfpphoaa.Prt Go.Proofs.Ytkaoiblgfpphoaa.Val Go.Proofs.Ytkaoiblgfpphoaa.Cod Go.Proofs.Ytkaoiblgfpphoaa.Gan
set_option linter.unusedVariables false
theorem same_of {lo rg lo0 rg0 : Int} {out out0 g a : List Int} {intra : Bool} (ho : coder_own.f lo0 rg0 out0 = some (lo, rg, out)) (he : EOk lo rg out) (ha : ∀ k, 5000 ≤ k → psalterylaw05_AsEnc.f k lo0 rg0 out0 = some (rg, out ++ four lo)) (hlen : out0.length ≤ 5000) (hg : g.length ≤ 100) (hl : a.length ≤ 100) (k : Nat) (hk : 7000 ≤ k) :
    psalterylaw11_GainPuts.f k lo0 rg0 out0 g a intra = some true := by
  obtain ⟨lo', rg', out', e, h1, h2, h3⟩ := puts_same intra hg hl ho he
  unfold psalterylaw11_GainPuts.f
  rw [great_f, Option.bind_some, if_neg (by simp; omega), h1 k (by omega), Option.bind_some, ha k (by omega), Option.bind_some]
  dsimp only
  rw [h2 k (by omega), Option.bind_some]
  dsimp only
  rw [sameEnc_ok h3 k (by omega), Option.bind_some, if_pos rfl, if_pos rfl, right_ok g (by omega) k (by omega), Option.bind_some, refRight_ok g (by omega) k (by omega), Option.bind_some, if_pos (by simp), knows11_k k (by omega)]
  rfl
theorem pure : Pu := by
  intro lo rg out g a intra hlo hrg hout hg ha
  obtain ⟨k, hk⟩ : ∃ k, k = 10000 := ⟨_, rfl⟩
  refine ⟨k, ?_⟩
  by_cases hb : 5000 < (out.length : Int) ∨ 5000 < (([] : List Int).length : Int) ∨ 100 < (g.length : Int) ∨ 100 < (a.length : Int)
  · unfold psalterylaw11_GainPuts.f
    rw [great_f, Option.bind_some, if_pos (decide_eq_true hb), knows11_k k (by omega)]
    rfl
  · have b1 := wf_u64 hlo
    have b2 := wf_u32 hrg
    have b3 : Bytes out := fun x hx => wf_u8 (hout.2 x hx)
    by_cases hr : lo ≤ 4294967295 ∧ 16777216 ≤ rg ∧ (out.length : Int) ≤ 4000
    · have he : EOk lo rg out := ⟨b1.1, hr.1, hr.2.1, b2.2, b3, by omega⟩
      exact same_of (own_ok he) he (fun k hk => asEnc_ok he k hk) (by omega) (by omega) (by omega) k (by omega)
    · exact same_of (own_bad hr) new_ok (fun k _ => asEnc_bad hr k) (by omega) (by omega) (by omega) k (by omega)
end Go.Proofs.Ytkaoiblgfpphoaa.gainPuts
