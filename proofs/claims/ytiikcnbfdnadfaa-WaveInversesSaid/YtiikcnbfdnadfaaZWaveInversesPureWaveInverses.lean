/- WaveInverses, over lists: the samples of coefficients are those that the document says, or the error is told. -/
import Derived.Test.YtiikcnbfdnadfaaZWaveInversesWavF
import Derived.Test.YtiikcnbfdnadfaaZWaveInversesPuWaveInverses
namespace Go.Proofs.Ytiikcnbfdnadfaa.waveInverses
open Go Go.RowKit Go.Proofs.YtiikcnbfdnadfaaW.PrintWords Go.Proofs.Ytiikcnbfdnadfaa.Prt Go.Proofs.Ytiikcnbfdnadfaa.Wav
theorem pure : Pu := by
  intro l hl
  refine ⟨400, ?_⟩
  unfold psalterylaw08_WaveInverses.f psalterylaw08_great.f
  rw [Option.bind_some]
  by_cases hg : (l.length : Int) > 200
  · rw [if_pos (decide_eq_true hg), knows_f (by omega)]
    rfl
  · have hz := refSized_f (m := 67108864) (by decide) (by decide) (l := l) (by omega) (k := 400) (by omega)
    rw [if_neg (by simpa using hg)]
    rcases inverse_f (l := l) (by omega) (k := 400) (by omega) with ⟨n, hn, hln, hb, he⟩ | ⟨hb, he⟩
    · have hlen := iv_len _ _ hln
      have h32 : 2 ^ (n + 1) ≤ 32 := Nat.pow_le_pow_right (by omega) (show n + 1 ≤ 5 by omega)
      rw [he, Option.bind_some, hz, Option.bind_some, hb, if_pos rfl, refInverse_f (n + 1) 400 l hln (by omega) (fun v h => wf_in (hl.2 v h)) (by omega), Option.bind_some]
      dsimp only
      rw [same_f (by omega) (by omega), Option.bind_some, if_pos rfl, if_pos rfl, knows_f (by omega)]
      rfl
    · rw [he, Option.bind_some, hz, Option.bind_some, hb, if_neg (by decide)]
      dsimp only
      rw [if_pos rfl, if_pos (by simp), knows_f (by omega)]
      rfl
end Go.Proofs.Ytiikcnbfdnadfaa.waveInverses
