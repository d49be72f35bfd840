/- WaveBack, over lists: a block that is parted, and made again, is what it was. -/
import Derived.Test.YtiikcnbfdnadfaaZWaveBackWavF
import Derived.Test.YtiikcnbfdnadfaaZWaveBackPuWaveBack
namespace Go.Proofs.Ytiikcnbfdnadfaa.waveBack
open Go Go.RowKit Go.Proofs.YtiikcnbfdnadfaaW.PrintWords Go.Proofs.Ytiikcnbfdnadfaa.Prt Go.Proofs.Ytiikcnbfdnadfaa.Wav
theorem pure : Pu := by
  intro l hl
  refine ⟨400, ?_⟩
  unfold psalterylaw08_WaveBack.f psalterylaw08_great.f
  rw [Option.bind_some]
  by_cases hg : (l.length : Int) > 200
  · rw [if_pos (decide_eq_true hg), knows_f (by omega)]
    rfl
  · rw [if_neg (by simpa using hg)]
    rcases forward_f (l := l) (by omega) (k := 400) (by omega) with ⟨n, hn, hln, hb, he⟩ | ⟨hb, he⟩
    · have hlen := fw_len _ _ hln
      have h32 : 2 ^ (n + 1) ≤ 32 := Nat.pow_le_pow_right (by omega) (show n + 1 ≤ 5 by omega)
      have hbd := (bd_of.1 (Bool.and_eq_true_iff.1 hb).2)
      obtain ⟨m, r, e, p, q, s⟩ := fw_bd (lo := -16777216) (hi := 16777216) (by decide) (by decide) (n + 1) l hln hbd
      have hb2 : (okn (fw (n + 1) l).length && bd 67108864 (fw (n + 1) l)) = true := by
        rw [hlen, ← hln, (Bool.and_eq_true_iff.1 hb).1, Bool.true_and, bd_of, e]
        intro v hv
        rcases List.mem_cons.1 hv with rfl | hv
        · omega
        · have := s v hv
          omega
      rw [he, Option.bind_some]
      dsimp only
      rw [if_pos rfl]
      rcases inverse_f (l := fw (n + 1) l) (by omega) (k := 400) (by omega) with ⟨n', hn', hln', hb', he'⟩ | ⟨hb', _⟩
      · obtain rfl : n' = n := by
          have h1 : 2 ^ (n' + 1) = 2 ^ (n + 1) := by omega
          have := (Nat.pow_right_inj (by omega)).1 h1
          omega
        rw [he', iv_fw _ _ hln (fun v h => wf_in (hl.2 v h)), Option.bind_some]
        dsimp only
        rw [same_f (by omega) (by omega), Option.bind_some, if_pos rfl, if_pos rfl, knows_f (by omega)]
        rfl
      · rw [hb2] at hb'
        exact absurd hb' (by decide)
    · rw [he, Option.bind_some]
      dsimp only
      rw [if_neg (by decide), if_pos (by simp), knows_f (by omega)]
      rfl
end Go.Proofs.Ytiikcnbfdnadfaa.waveBack
