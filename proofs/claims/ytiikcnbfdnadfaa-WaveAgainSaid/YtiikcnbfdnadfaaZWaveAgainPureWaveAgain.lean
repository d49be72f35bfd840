/- WaveAgain, over lists: samples that are made of coefficients, if they are a block, have these coefficients. -/
import Derived.Test.YtiikcnbfdnadfaaZWaveAgainWavF
import Derived.Test.YtiikcnbfdnadfaaZWaveAgainPuWaveAgain
namespace Go.Proofs.Ytiikcnbfdnadfaa.waveAgain
open Go Go.RowKit Go.Proofs.YtiikcnbfdnadfaaW.PrintWords Go.Proofs.Ytiikcnbfdnadfaa.Prt Go.Proofs.Ytiikcnbfdnadfaa.Wav
theorem pure : Pu := by
  intro l hl
  refine ⟨400, ?_⟩
  unfold psalterylaw08_WaveAgain.f psalterylaw08_great.f
  rw [Option.bind_some]
  by_cases hg : (l.length : Int) > 200
  · rw [if_pos (decide_eq_true hg), knows_f (by omega)]
    rfl
  · rw [if_neg (by simpa using hg)]
    rcases inverse_f (l := l) (by omega) (k := 400) (by omega) with ⟨n, hn, hln, hb, he⟩ | ⟨hb, he⟩
    · have hlen := iv_len _ _ hln
      have h32 : 2 ^ (n + 1) ≤ 32 := Nat.pow_le_pow_right (by omega) (show n + 1 ≤ 5 by omega)
      have hpos := Nat.two_pow_pos (n + 1)
      have hr : wave_Right.f 400 (iv (n + 1) l) = some (okn (iv (n + 1) l).length && bd 16777216 (iv (n + 1) l)) := by
        unfold wave_Right.f
        rw [sized_f (by decide) (by decide) (by omega) (by omega)]
        rfl
      rw [he, Option.bind_some]
      dsimp only
      rw [if_pos rfl, hr, Option.bind_some, psalterylaw08_WaveAgain.j0]
      rcases forward_f (l := iv (n + 1) l) (by omega) (k := 399) (by omega) with ⟨n', hn', hln', hb', he'⟩ | ⟨hb', _⟩
      · obtain rfl : n' = n := by
          have h1 : 2 ^ (n' + 1) = 2 ^ (n + 1) := by omega
          have := (Nat.pow_right_inj (by omega)).1 h1
          omega
        rw [hb', if_neg (by decide), he', fw_iv _ _ hln (fun v h => wf_in (hl.2 v h)), Option.bind_some]
        dsimp only
        rw [same_f (by omega) (by omega), Option.bind_some, if_pos rfl, if_pos rfl, knows_f (by omega)]
        rfl
      · have h0 : decide (((iv (n + 1) l).length : Int) > 0) = true := decide_eq_true (by omega)
        rw [hb', if_pos (by decide), h0, if_pos (by decide), knows_f (by omega)]
        rfl
    · rw [he, Option.bind_some]
      dsimp only
      rw [if_neg (by decide), psalterylaw08_WaveAgain.j0, if_pos rfl, if_pos (by decide), knows_f (by omega)]
      rfl
end Go.Proofs.Ytiikcnbfdnadfaa.waveAgain
