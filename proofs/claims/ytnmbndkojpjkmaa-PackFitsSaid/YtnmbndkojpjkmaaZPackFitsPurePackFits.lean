/- PackFits, over numbers: no pack that is right makes more bytes than its packet has. -/
import Derived.Test.YtnmbndkojpjkmaaZPackFitsL1
import Derived.Test.YtnmbndkojpjkmaaZPackFitsL2
import Derived.Test.YtnmbndkojpjkmaaZPackFitsPuPackFits
namespace Go.Proofs.Ytnmbndkojpjkmaa.packFits
open Go Go.RowKit Go.Proofs.YtnmbndkojpjkmaaW.PrintWords Go.Proofs.Ytnmbndkojpjkmaa.Prt Go.Proofs.Ytnmbndkojpjkmaa.Pak
theorem pure : Pu := by
  intro a b I G Y A ha hb hG hY hA
  obtain ⟨K, C⟩ := Com.exCst
  obtain ⟨V, D⟩ := Com.exCnt
  have hm : maxLen ≤ 9223372036854775807 := by decide
  obtain ⟨v, g1, g2⟩ := great_f I (A := A) hm hG.1 hA.1 hY.1 (fun r hr => (hY.2 r hr).1)
  refine ⟨(2 * maxLen + 20000) + 1, ?_⟩
  unfold w13_PackFits.f
  rw [g1 _ (by omega), Option.bind_some]
  cases v with
  | true => rw [if_pos rfl, knows_k _ (by omega)]; rfl
  | false =>
    obtain ⟨⟨hg1, hg2⟩, ⟨ha1, ha2⟩, S⟩ := g2 rfl
    rw [if_neg (by simp)]
    have fin : cpack_Write.f ((2 * maxLen + 20000) + 1) a b I G Y A = some ([], 1) ∨ ∃ (x : List Int) (n : Int), (x.length : Int) = a ∧ cpack_Write.f ((2 * maxLen + 20000) + 1) a b I G Y A = some (x, 0) ∧ n ≤ a ∧ r13_Long.f ((2 * maxLen + 20000) + 1) b I G Y A = some n := by
      rcases right_same (G := G) (Y := Y) C D a b I (by omega) (fun g hg => Nat.le_trans (hg2 g hg) (by omega)) S with ⟨⟨out, g⟩, h⟩ | h
      · by_cases hI : I = true ∨ gainsB b A = true
        · obtain ⟨x, hx, _, hw, _⟩ := back_ok C D ha1 ha2 S g (fun q hq => (h q hq).1) hI
          obtain ⟨n, hn, hl⟩ := long_ok C D ha2 S g hI
          exact .inr ⟨x, n, hx, hw _ (by omega), hn, hl _ (by omega)⟩
        · have h1 := (h ((2 * maxLen + 20000) + 1) (by omega)).1
          refine .inl (write_bad ha1 ha2 (by omega) h1 (.inr ?_))
          cases I with
          | true => exact absurd (.inl rfl) hI
          | false => exact ⟨rfl, by cases hh : gainsB b A with | true => exact absurd (.inr hh) hI | false => rfl⟩
      · exact .inl (write_bad ha1 ha2 (by omega) (h ((2 * maxLen + 20000) + 1) (by omega)).1 (.inl rfl))
    rcases fin with h | ⟨x, n, hx, hw, hn, hl⟩
    · rw [h, Option.bind_some, if_neg (by decide), if_pos (by rfl), knows_k _ (by omega)]; rfl
    · rw [hw, Option.bind_some, if_pos rfl, if_pos hx, show w13_As.f I G Y = some (I, G, Y) from rfl, Option.bind_some, hl, Option.bind_some, if_pos hn, knows_k _ (by omega)]
      rfl
end Go.Proofs.Ytnmbndkojpjkmaa.packFits
