/- AllocFits, over numbers: what all pulses of a channel cost is within the room. -/
import Derived.Test.YtbaaedpjaanjnaaZAllocFitsAloP
import Derived.Test.YtbaaedpjaanjnaaZAllocFitsPuAllocFits
namespace Go.Proofs.Ytbaaedpjaanjnaa.allocFits
open Go Go.RowKit Go.Proofs.YtbaaedpjaanjnaaW.PrintWords Go.Proofs.Ytbaaedpjaanjnaa.Prt Go.Proofs.Ytbaaedpjaanjnaa.Alo
variable {K : Nat → Nat → Int}
theorem loop (C : Com.Cst K) {a b : Int} (hab : rightB a b = true) {l2 out : List (List Int)} (ho : out.length = l2.length) (h20 : l2.length ≤ 20) (hlb : (l2.length : Int) = b) (hc : ∀ j, j < l2.length → Chan K (rd_L1 l2 (j : Int)) (room a b) Z5 (rd_L1 out (j : Int))) : ∀ (d i q : Nat), i + d = l2.length → 7000 + d ≤ q → psalterylaw12_AllocFits.l0 q a b out (i : Int) = some true
  | 0, i, q, hi, hq => by
    obtain ⟨r, rfl⟩ : ∃ r, q = r + 1 := ⟨q - 1, by omega⟩
    rw [psalterylaw12_AllocFits.l0, if_neg (by omega), if_pos (by omega), knows_k _ (by omega)]
    rfl
  | d + 1, i, q, hi, hq => by
    have c := hc i (by omega)
    have h5 := c.ks.1
    have hf := c.fit
    obtain ⟨r, rfl⟩ : ∃ r, q = r + 1 := ⟨q - 1, by omega⟩
    rw [psalterylaw12_AllocFits.l0, if_pos (by omega), if_pos (by omega), if_pos (by omega), spent_f C c.ks (by omega), Option.bind_some, (room_ok hab).1, Option.bind_some, if_neg (by omega), w64 (by omega) (by omega), show (i : Int) + 1 = ((i + 1 : Nat) : Int) by omega]
    exact loop C hab ho h20 hlb hc d (i + 1) r (by omega) (by omega)
theorem pure : Pu := by
  intro a b l2 ha hb hl2
  obtain ⟨K, C⟩ := Com.exCst
  have hm : l2.length ≤ 9223372036854775807 := Nat.le_trans hl2.1 (by decide)
  obtain ⟨v, g1, g2⟩ := great_f hm
  refine ⟨l2.length + 7001, ?_⟩
  unfold psalterylaw12_AllocFits.f
  rw [g1 _ (by omega), Option.bind_some]
  cases v with
  | true => rw [if_pos rfl, knows_k _ (by omega)]; rfl
  | false =>
    obtain ⟨h20, h100⟩ := g2 rfl
    rw [if_neg (by simp)]
    rcases pulses C a b h20 h100 with ⟨hab, hlb, out, ho, hc, p1, p2, p3⟩ | ⟨p1, p3⟩
    · rw [p1 _ (by omega), Option.bind_some, if_pos rfl]
      exact loop C hab ho h20 hlb hc l2.length 0 _ (by omega) (by omega)
    · rw [p1 _ (by omega), Option.bind_some, if_neg (by decide), if_pos (by rfl), knows_k _ (by omega)]
      rfl
end Go.Proofs.Ytbaaedpjaanjnaa.allocFits
