/- AllocSpends, over numbers: no pulse without a gain, and nothing is left for one more. -/
import Derived.Test.YtbaaedpjaanjnaaZAllocSpendsAloP
import Derived.Test.YtbaaedpjaanjnaaZAllocSpendsPuAllocSpends
namespace Go.Proofs.Ytbaaedpjaanjnaa.allocSpends
open Go Go.RowKit Go.Proofs.YtbaaedpjaanjnaaW.PrintWords Go.Proofs.Ytbaaedpjaanjnaa.Prt Go.Proofs.Ytbaaedpjaanjnaa.Alo
variable {K : Nat → Nat → Int}
theorem wrapj (j : Nat) (h : j < 5) : wrap64 ((j : Int) + 1) = ((j + 1 : Nat) : Int) := by rw [w64 (by omega) (by omega)]; omega
theorem inner (C : Com.Cst K) {a b : Int} (hab : rightB a b = true) {l2 out : List (List Int)} {i : Nat} (hi : i < l2.length) (hi' : i < out.length) (c : Chan K (rd_L1 l2 (i : Int)) (room a b) Z5 (rd_L1 out (i : Int))) : ∀ (d j q : Nat), j + d = 5 → 6000 ≤ q → psalterylaw12_AllocSpends.l1 (q + d) a b l2 out (i : Int) (j : Int) = psalterylaw12_AllocSpends.l1 q a b l2 out (i : Int) 5
  | 0, j, q, hj, hq => by
    obtain rfl : j = 5 := by omega
    rfl
  | d + 1, j, q, hj, hq => by
    have h5 := c.ks.1
    have g5 := c.gr.1
    have hr := c.ks.2 j (by omega)
    have hms := mst_in j
    have hj5 : j < 5 := by omega
    rw [show q + (d + 1) = (q + d) + 1 by omega, psalterylaw12_AllocSpends.l1, if_pos (by omega), if_pos (by omega), if_pos (by omega), if_pos (by omega), if_pos (by omega), if_neg (by omega), if_neg (by omega), if_pos (by omega), if_pos (by omega), width_r (by omega) (by omega), (room_ok hab).1]
    simp only [Option.bind_some]
    rw [may_f C c.gr c.ks (by omega) (by omega), c.full j (by omega)]
    simp only [Option.bind_some]
    have key : (if (W j : Int) = 1 then (if rd (rd_L1 out (i : Int)) (j : Int) > 1 then (none : Option Bool) else (if false = true then none else psalterylaw12_AllocSpends.l1 (q + d) a b l2 out (i : Int) (wrap64 ((j : Int) + 1)))) else (if false = true then none else psalterylaw12_AllocSpends.l1 (q + d) a b l2 out (i : Int) (wrap64 ((j : Int) + 1)))) = psalterylaw12_AllocSpends.l1 q a b l2 out (i : Int) 5 := by
      rw [if_neg (by simp : ¬ (false = true)), wrapj j hj5, inner C hab hi hi' c d (j + 1) q (by omega) hq]
      by_cases hw : W j = 1
      · have hm1 : mst j = 1 := by unfold mst; rw [if_pos hw]
        rw [if_pos (by omega), if_neg (by omega)]
      · rw [if_neg (by omega)]
    by_cases h0 : rd (rd_L1 l2 (i : Int)) (j : Int) = 0
    · have hz := (c.still j (by omega) h0).trans (Z5_rd (by omega))
      rw [if_pos h0, if_pos hz]
      simpa using key
    · rw [if_neg h0]
      simpa using key
theorem loop (C : Com.Cst K) {a b : Int} (hab : rightB a b = true) {l2 out : List (List Int)} (ho : out.length = l2.length) (h20 : l2.length ≤ 20) (hc : ∀ j, j < l2.length → Chan K (rd_L1 l2 (j : Int)) (room a b) Z5 (rd_L1 out (j : Int))) : ∀ (d i q : Nat), i + d = l2.length → 7000 + 7 * d ≤ q → psalterylaw12_AllocSpends.l0 q a b l2 out (i : Int) = some true
  | 0, i, q, hi, hq => by
    obtain ⟨r, rfl⟩ : ∃ r, q = r + 1 := ⟨q - 1, by omega⟩
    rw [psalterylaw12_AllocSpends.l0, if_neg (by omega), knows_k _ (by omega)]
    rfl
  | d + 1, i, q, hi, hq => by
    have c := hc i (by omega)
    have h5 := c.ks.1
    obtain ⟨r, rfl⟩ : ∃ r, q = ((r + 1) + 5) + 1 := ⟨q - 7, by omega⟩
    rw [psalterylaw12_AllocSpends.l0, if_pos (by omega), if_pos (by omega), if_pos (by omega), show (0 : Int) = ((0 : Nat) : Int) from rfl, inner C hab (by omega) (by omega) c 5 0 (r + 1) rfl (by omega), psalterylaw12_AllocSpends.l1, if_neg (by decide), w64 (by omega) (by omega), show (i : Int) + 1 = ((i + 1 : Nat) : Int) by omega]
    exact loop C hab ho h20 hc d (i + 1) r (by omega) (by omega)
theorem pure : Pu := by
  intro a b l2 ha hb hl2
  obtain ⟨K, C⟩ := Com.exCst
  have hm : l2.length ≤ 9223372036854775807 := Nat.le_trans hl2.1 (by decide)
  obtain ⟨v, g1, g2⟩ := great_f hm
  refine ⟨l2.length + 8001, ?_⟩
  unfold psalterylaw12_AllocSpends.f
  rw [g1 _ (by omega), Option.bind_some]
  cases v with
  | true => rw [if_pos rfl, knows_k _ (by omega)]; rfl
  | false =>
    obtain ⟨h20, h100⟩ := g2 rfl
    rw [if_neg (by simp)]
    rcases pulses C a b h20 h100 with ⟨hab, hlb, out, ho, hc, p1, p2, p3⟩ | ⟨p1, p3⟩
    · rw [p1 _ (by omega), Option.bind_some, if_pos rfl]
      exact loop C hab ho h20 hc l2.length 0 _ (by omega) (by omega)
    · rw [p1 _ (by omega), Option.bind_some, if_neg (by decide), if_pos (by rfl), knows_k _ (by omega)]
      rfl
end Go.Proofs.Ytbaaedpjaanjnaa.allocSpends
