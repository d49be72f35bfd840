/- PackRights, over numbers: which packs are right. -/
import Derived.Test.YtnmbndkojpjkmaaZPackRightsPakK
import Derived.Test.YtnmbndkojpjkmaaZPackRightsPuPackRights
namespace Go.Proofs.Ytnmbndkojpjkmaa.packRights
open Go Go.RowKit Go.Proofs.YtnmbndkojpjkmaaW.PrintWords Go.Proofs.Ytnmbndkojpjkmaa.Prt Go.Proofs.Ytnmbndkojpjkmaa.Pak
theorem pure : Pu := by
  intro a b I G Y ha hb hG hY
  obtain ⟨K, C⟩ := Com.exCst
  obtain ⟨V, D⟩ := Com.exCnt
  have hm : maxLen ≤ 9223372036854775807 := by decide
  obtain ⟨v, g1, g2⟩ := great_f I (A := []) hm hG.1 (Nat.zero_le _) hY.1 (fun r hr => (hY.2 r hr).1)
  refine ⟨2 * maxLen + 8000, ?_⟩
  unfold psalterylaw13_PackRights.f
  rw [g1 _ (by omega), Option.bind_some]
  cases v with
  | true => rw [if_pos rfl, knows_k _ (by omega)]; rfl
  | false =>
    obtain ⟨⟨hg1, hg2⟩, _, S⟩ := g2 rfl
    rw [if_neg (by simp), show psalterylaw13_As.f I G Y = some (I, G, Y) from rfl]
    rcases right_same (G := G) (Y := Y) C D a b I (by omega) (fun g hg => Nat.le_trans (hg2 g hg) (by omega)) S with ⟨_, h⟩ | h
    · obtain ⟨h1, h2⟩ := h (2 * maxLen + 8000) (by omega)
      rw [h1, Option.bind_some, Option.bind_some, h2, Option.bind_some, if_pos (by decide), knows_k _ (by omega)]
      rfl
    · obtain ⟨h1, h2⟩ := h (2 * maxLen + 8000) (by omega)
      rw [h1, Option.bind_some, Option.bind_some, h2, Option.bind_some, if_pos (by decide), knows_k _ (by omega)]
      rfl
end Go.Proofs.Ytnmbndkojpjkmaa.packRights
