/- PackAlone, over numbers: an intra packet is written, and read, alike, whatever is ahead. -/
import Derived.Test.YtnmbndkojpjkmaaZPackAloneL1
import Derived.Test.YtnmbndkojpjkmaaZPackAloneL2
import Derived.Test.YtnmbndkojpjkmaaZPackAlonePuPackAlone
namespace Go.Proofs.Ytnmbndkojpjkmaa.packAlone
open Go Go.RowKit Go.Proofs.YtnmbndkojpjkmaaW.PrintWords Go.Proofs.Ytnmbndkojpjkmaa.Prt Go.Proofs.Ytnmbndkojpjkmaa.Pak
theorem pure : Pu := by
  intro a b I G Y A A' ha hb hG hY hA hA'
  obtain ⟨K, C⟩ := Com.exCst
  obtain ⟨V, D⟩ := Com.exCnt
  have hm : maxLen ≤ 9223372036854775807 := by decide
  obtain ⟨v, g1, g2⟩ := great_f I (A := A) hm hG.1 hA.1 hY.1 (fun r hr => (hY.2 r hr).1)
  obtain ⟨u, w1, w2⟩ := wide_f (l := A') (Nat.le_trans hA'.1 hm)
  have hl' := hA'.1
  refine ⟨(2 * maxLen + 20000) + 1 + 1, ?_⟩
  have hk : ∀ q, 300 ≤ q → w13_PackAlone.j0 (q + 1) a b A A' true I G Y = some true := fun q hq => by
    rw [w13_PackAlone.j0, if_pos rfl, knows_k _ hq]; rfl
  unfold w13_PackAlone.f
  rw [g1 _ (by omega), Option.bind_some]
  cases v with
  | true => rw [if_pos rfl]; exact hk _ (by omega)
  | false =>
    obtain ⟨⟨hg1, hg2⟩, ⟨ha1, ha2⟩, S⟩ := g2 rfl
    rw [if_neg (by simp), w1 _ (by omega), Option.bind_some]
    cases u with
    | true => exact hk _ (by omega)
    | false =>
      obtain ⟨hb1, hb2⟩ := w2 rfl
      have fin : cpack_Write.f ((2 * maxLen + 20000) + 1) a b true G Y A = some ([], 1) ∨ ∃ x : List Int, cpack_Write.f ((2 * maxLen + 20000) + 1) a b true G Y A = some (x, 0) ∧ cpack_Read.f (2 * maxLen + 20000) a b x A = some (true, G, Y, 0) ∧ cpack_Read.f (2 * maxLen + 20000) a b x A' = some (true, G, Y, 0) := by
        rcases right_same (G := G) (Y := Y) C D a b true (by omega) (fun g hg => Nat.le_trans (hg2 g hg) (by omega)) S with ⟨⟨out, g⟩, h⟩ | h
        · obtain ⟨x, _, _, hw, hr⟩ := back_ok C D ha1 ha2 S g (fun q hq => (h q hq).1) (.inl rfl)
          obtain ⟨x', _, _, hw', hr'⟩ := back_ok C D hb1 hb2 S g (fun q hq => (h q hq).1) (.inl rfl)
          have e1 := hw ((2 * maxLen + 20000) + 1) (by omega)
          have e2 := hw' ((2 * maxLen + 20000) + 1) (by omega)
          rw [write_alone (A := A') (A' := A) (by omega), e1] at e2
          simp only [Option.some.injEq, Prod.mk.injEq, and_true] at e2
          subst e2
          exact .inr ⟨x, e1, hr _ (by omega), hr' _ (by omega)⟩
        · exact .inl (write_bad ha1 ha2 (by omega) (h ((2 * maxLen + 20000) + 1) (by omega)).1 (.inl rfl))
      rw [w13_PackAlone.j0, if_neg (by simp), write_alone (A := A') (A' := A) (by omega)]
      rcases fin with h | ⟨x, hw, hr, hr'⟩
      · rw [h, Option.bind_some, Option.bind_some, if_pos rfl, w13_PackAlone.j1, if_neg (by simp), if_neg (by decide), knows_k _ (by omega)]; rfl
      · rw [hw, Option.bind_some, Option.bind_some, if_pos rfl, w13_PackAlone.j1, if_neg (by simp), if_pos rfl, hr, Option.bind_some, hr', Option.bind_some, if_pos rfl, if_pos rfl, show w13_As.f true G Y = some (true, G, Y) from rfl, Option.bind_some, Option.bind_some, same13 (by omega) hg2 S (by omega), Option.bind_some, if_pos rfl, if_pos rfl, knows_k _ (by omega)]
        rfl
end Go.Proofs.Ytnmbndkojpjkmaa.packAlone
