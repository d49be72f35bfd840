/- AllocGives, over numbers: the program's pulses are the document's. -/
import Derived.Test.YtbaaedpjaanjnaaZAllocGivesAloP
import Derived.Test.YtbaaedpjaanjnaaZAllocGivesPuAllocGives
namespace Go.Proofs.Ytbaaedpjaanjnaa.allocGives
open Go Go.RowKit Go.Proofs.YtbaaedpjaanjnaaW.PrintWords Go.Proofs.Ytbaaedpjaanjnaa.Prt Go.Proofs.Ytbaaedpjaanjnaa.Alo
theorem pure : Pu := by
  intro a b l2 ha hb hl2
  obtain ⟨K, C⟩ := Com.exCst
  have hm : l2.length ≤ 9223372036854775807 := Nat.le_trans hl2.1 (by decide)
  obtain ⟨v, g1, g2⟩ := great_f hm
  refine ⟨l2.length + 7001 + 1, ?_⟩
  unfold psalterylaw12_AllocGives.f
  rw [g1 _ (by omega), Option.bind_some]
  cases v with
  | true => rw [if_pos rfl, knows_k _ (by omega)]; rfl
  | false =>
    obtain ⟨h20, h100⟩ := g2 rfl
    rw [if_neg (by simp), (right_f a b).2]
    rcases pulses C a b h20 h100 with ⟨hab, hlb, out, ho, hc, p1, p2, p3⟩ | ⟨p1, p3⟩
    · rw [p1 _ (by omega), Option.bind_some, Option.bind_some, hab, if_pos rfl, p3 _ (by omega), Option.bind_some, psalterylaw12_AllocGives.j0, if_neg (by simp), p2 _ (by omega), Option.bind_some, same12 (by omega) (fun j hj => (hc j (by omega)).ks.1) (by omega), Option.bind_some, if_pos rfl, if_pos rfl, knows_k _ (by omega)]
      rfl
    · have key : psalterylaw12_AllocGives.j0 (l2.length + 7001 + 1) a b l2 [] 1 true = some true := by
        rw [psalterylaw12_AllocGives.j0, if_pos rfl, if_pos (by rfl), if_pos rfl, knows_k _ (by omega)]
        rfl
      rw [p1 _ (by omega), Option.bind_some, Option.bind_some]
      cases hab : rightB a b with
      | false => rw [if_neg (by simp)]; exact key
      | true =>
        rcases p3 with p3 | p3
        · rw [hab] at p3; exact absurd p3 (by decide)
        · rw [if_pos rfl, p3 _ (by omega), Option.bind_some]
          exact key
end Go.Proofs.Ytbaaedpjaanjnaa.allocGives
