/- WaveLevel, over numbers: a block of one number, again and again, has that as its mean, and noughts behind. -/
import Derived.Test.YtiikcnbfdnadfaaZWaveLevelWavF
import Derived.Test.YtiikcnbfdnadfaaZWaveLevelPuWaveLevel
namespace Go.Proofs.Ytiikcnbfdnadfaa.waveLevel
open Go Go.RowKit Go.Proofs.YtiikcnbfdnadfaaW.PrintWords Go.Proofs.Ytiikcnbfdnadfaa.Prt Go.Proofs.Ytiikcnbfdnadfaa.Wav
theorem many_l0 (v : Int) {n : Nat} (hn : n ≤ 5) : ∀ (d i m k : Nat), i + d = n → m * 2 ^ d ≤ 1000 → psalterylaw08_WaveLevel.l0 (k + d + 1) v (n : Int) (m : Int) (i : Int) = psalterylaw08_WaveLevel.l1 k v ((m * 2 ^ d : Nat) : Int) [] 0 := by
  intro d
  induction d with
  | zero =>
    intro i m k h hm
    rw [psalterylaw08_WaveLevel.l0, if_neg (by omega), Nat.pow_zero, Nat.mul_one]
  | succ d ih =>
    intro i m k h hm
    have hp : m * 2 ^ (d + 1) = (m * 2) * 2 ^ d := by rw [Nat.pow_succ, Nat.mul_comm (2 ^ d) 2, Nat.mul_assoc]
    have h0 := Nat.two_pow_pos d
    have hm2 : m * 2 ≤ (m * 2) * 2 ^ d := Nat.le_mul_of_pos_right _ h0
    have e1 : wrap64 ((m : Int) * 2) = ((m * 2 : Nat) : Int) := by rw [w64 (by omega) (by omega)]; omega
    have e2 : wrap64 ((i : Int) + 1) = ((i + 1 : Nat) : Int) := by rw [w64 (by omega) (by omega)]; omega
    rw [show k + (d + 1) + 1 = (k + d + 1) + 1 by omega, psalterylaw08_WaveLevel.l0, if_pos (by omega), e1, e2, ih (i + 1) (m * 2) k (by omega) (by omega), hp]
theorem fill_l1 (v : Int) {m : Nat} (hm : m ≤ 1000) {R : Option Bool} {k : Nat} (hR : psalterylaw08_WaveLevel.l1 (k + 1) v (m : Int) (List.replicate m v) (m : Int) = R) : ∀ (d i : Nat), i + d = m → psalterylaw08_WaveLevel.l1 (k + d + 1) v (m : Int) (List.replicate i v) (i : Int) = R := by
  intro d
  induction d with
  | zero =>
    intro i h
    obtain rfl : i = m := by omega
    exact hR
  | succ d ih =>
    intro i h
    have e2 : wrap64 ((i : Int) + 1) = ((i + 1 : Nat) : Int) := by rw [w64 (by omega) (by omega)]; omega
    rw [show k + (d + 1) + 1 = (k + d + 1) + 1 by omega, psalterylaw08_WaveLevel.l1, if_pos (by omega), if_pos (by rw [List.length_replicate]; omega), e2, ← List.replicate_succ', ih (i + 1) (by omega)]
theorem zero_l2 {m : Nat} (hm : m ≤ 1000) {l : List Int} (hl : l.length = m) (hz : ∀ j, (h : j < l.length) → 1 ≤ j → l[j] = 0) : ∀ (d i k : Nat), i + d = m → 1 ≤ i → 300 ≤ k → psalterylaw08_WaveLevel.l2 (k + d + 1) (m : Int) l (i : Int) = some true := by
  intro d
  induction d with
  | zero =>
    intro i k h h1 hk
    rw [psalterylaw08_WaveLevel.l2, if_neg (by omega), knows_f (by omega)]
    rfl
  | succ d ih =>
    intro i k h h1 hk
    have hi : i < l.length := by omega
    have e2 : wrap64 ((i : Int) + 1) = ((i + 1 : Nat) : Int) := by rw [w64 (by omega) (by omega)]; omega
    rw [show k + (d + 1) + 1 = (k + d + 1) + 1 by omega, psalterylaw08_WaveLevel.l2, if_pos (by omega), if_pos (by omega), if_pos (by omega), rd_at hi, if_pos (hz i hi h1), e2, ih (i + 1) k (by omega) (by omega) hk]
theorem pure : Pu := by
  intro v a hv ha
  refine ⟨1000, ?_⟩
  have hj : ∀ k, 301 ≤ k → psalterylaw08_WaveLevel.j0 k v a true = some true := fun k hk => by
    obtain ⟨q, rfl⟩ : ∃ q, k = q + 1 := ⟨k - 1, by omega⟩
    rw [psalterylaw08_WaveLevel.j0, if_pos rfl, knows_f (by omega)]
    rfl
  unfold psalterylaw08_WaveLevel.f
  by_cases c1 : v < -16777216
  · rw [if_pos c1, hj _ (by omega)]
  · rw [if_neg c1]
    by_cases c2 : v > 16777216
    · rw [if_pos c2, hj _ (by omega)]
    · rw [if_neg c2]
      by_cases c3 : a < 1
      · rw [if_pos c3, hj _ (by omega)]
      · rw [if_neg c3]
        by_cases c4 : a > 5
        · rw [decide_eq_true c4, hj _ (by omega)]
        · rw [decide_eq_false c4, psalterylaw08_WaveLevel.j0, if_neg (by decide)]
          obtain ⟨n, hn, rfl⟩ : ∃ n : Nat, n < 5 ∧ a = ((n + 1 : Nat) : Int) := ⟨(a - 1).toNat, by omega, by omega⟩
          have h32 : 2 ^ (n + 1) ≤ 32 := Nat.pow_le_pow_right (by omega) (show n + 1 ≤ 5 by omega)
          have hpos := Nat.two_pow_pos (n + 1)
          have e0 := many_l0 v (n := n + 1) (by omega) (n + 1) 0 1 (999 - (n + 1) - 1) (by omega) (by omega)
          rw [show 999 - (n + 1) - 1 + (n + 1) + 1 = 999 by omega, Nat.one_mul] at e0
          rw [show (1 : Int) = ((1 : Nat) : Int) from rfl, show (0 : Int) = ((0 : Nat) : Int) from rfl, e0]
          have hL : (List.replicate (2 ^ (n + 1)) v).length = 2 ^ (n + 1) := List.length_replicate
          have hf := fw_rep (v := v) (by unfold inI; omega) (n + 1)
          have hlen := fw_len (n + 1) (List.replicate (2 ^ (n + 1)) v) hL
          have hw : ∀ k, 210 ≤ k → wave_Forward.f k (List.replicate (2 ^ (n + 1)) v) = some (fw (n + 1) (List.replicate (2 ^ (n + 1)) v), 0) := fun k hk => by
            rcases forward_f (l := List.replicate (2 ^ (n + 1)) v) (by omega) (k := k) hk with ⟨n', hn', hln', hb', he'⟩ | ⟨hb', _⟩
            · obtain rfl : n' = n := by
                have h1 : 2 ^ (n' + 1) = 2 ^ (n + 1) := by omega
                have := (Nat.pow_right_inj (by omega)).1 h1
                omega
              exact he'
            · exfalso
              have h1 : bd 16777216 (List.replicate (2 ^ (n + 1)) v) = true := by
                rw [bd_of]
                intro x hx
                rw [(List.mem_replicate.1 hx).2]
                omega
              have h2 : okn (2 ^ (n + 1)) = true := by
                have : ∀ n : Fin 5, okn (2 ^ (n.1 + 1)) = true := by decide
                exact this ⟨n, hn⟩
              rw [hL, h2, h1] at hb'
              exact absurd hb' (by decide)
          have hfin : ∀ k, 500 ≤ k → psalterylaw08_WaveLevel.l1 (k + 1) v ((2 ^ (n + 1) : Nat) : Int) (List.replicate (2 ^ (n + 1)) v) ((2 ^ (n + 1) : Nat) : Int) = some true := fun k hk => by
            rw [psalterylaw08_WaveLevel.l1, if_neg (by omega), hw k (by omega), Option.bind_some]
            dsimp only
            have hr0 : rd (fw (n + 1) (List.replicate (2 ^ (n + 1)) v)) 0 = v := by rw [hf]; rfl
            obtain ⟨q, rfl⟩ : ∃ q, k = (q + (2 ^ (n + 1) - 1) + 1) + 1 := ⟨k - 2 ^ (n + 1) - 1, by omega⟩
            rw [if_pos rfl, if_pos (by rw [hlen]), if_pos (by rw [hlen]; omega), hr0, psalterylaw08_WaveLevel.j3, if_neg (by simp), show (1 : Int) = ((1 : Nat) : Int) from rfl]
            refine zero_l2 (by omega) hlen (fun j hj h1 => ?_) (2 ^ (n + 1) - 1) 1 q (by omega) (by omega) (by omega)
            obtain ⟨j, rfl⟩ : ∃ i, j = i + 1 := ⟨j - 1, by omega⟩
            simp only [hf, List.getElem_cons_succ, List.getElem_replicate]
          have e1 := fill_l1 v (m := 2 ^ (n + 1)) (by omega) (k := 999 - (n + 1) - 1 - 2 ^ (n + 1) - 1) (hfin _ (by omega)) (2 ^ (n + 1)) 0 (by omega)
          rw [show 999 - (n + 1) - 1 - 2 ^ (n + 1) - 1 + 2 ^ (n + 1) + 1 = 999 - (n + 1) - 1 by omega] at e1
          exact e1
end Go.Proofs.Ytiikcnbfdnadfaa.waveLevel
