/- PackWrites, over numbers: what is written is the document's. -/
import Derived.Test.YtnmbndkojpjkmaaZPackWritesL1
import Derived.Test.YtnmbndkojpjkmaaZPackWritesPuPackWrites
namespace Go.Proofs.Ytnmbndkojpjkmaa.packWrites
open Go Go.RowKit Go.Proofs.YtnmbndkojpjkmaaW.PrintWords Go.Proofs.Ytnmbndkojpjkmaa.Prt Go.Proofs.Ytnmbndkojpjkmaa.Pak
theorem pure : Pu := by
  intro a b I G Y A ha hb hG hY hA
  obtain ⟨K, C⟩ := Com.exCst
  obtain ⟨V, D⟩ := Com.exCnt
  have hm : maxLen ≤ 9223372036854775807 := by decide
  obtain ⟨v, g1, g2⟩ := great_f I (A := A) hm hG.1 hA.1 hY.1 (fun r hr => (hY.2 r hr).1)
  refine ⟨(2 * maxLen + 20000) + 1, ?_⟩
  unfold psalterylaw13_PackWrites.f
  rw [g1 _ (by omega), Option.bind_some]
  cases v with
  | true => rw [if_pos rfl, knows_k _ (by omega)]; rfl
  | false =>
    obtain ⟨⟨hg1, hg2⟩, ⟨ha1, ha2⟩, S⟩ := g2 rfl
    rw [if_neg (by simp), show psalterylaw13_As.f I G Y = some (I, G, Y) from rfl]
    have bad : ∀ q, 300 ≤ q → psalterylaw13_PackWrites.j0 (q + 1) a b A [] 1 true I G Y = some true := fun q hq => by
      rw [psalterylaw13_PackWrites.j0, if_pos rfl, if_pos (by rfl), if_pos rfl, knows_k _ hq]; rfl
    rcases right_same (G := G) (Y := Y) C D a b I (by omega) (fun g hg => Nat.le_trans (hg2 g hg) (by omega)) S with ⟨⟨out, g⟩, h⟩ | h
    · obtain ⟨h1, h2⟩ := h ((2 * maxLen + 20000) + 1) (by omega)
      have hgA := gains_f (A := A) b (by omega) (fun g hg => Nat.le_trans (ha2 g hg) (by omega)) (q := (2 * maxLen + 20000) + 1) (by omega)
      have good : (I = true ∨ gainsB b A = true) → ∃ x : List Int, cpack_Write.f ((2 * maxLen + 20000) + 1) a b I G Y A = some (x, 0) ∧ psalterylaw13_PackWrites.j0 ((2 * maxLen + 20000) + 1) a b A x 0 false I G Y = some true := fun hI => by
        obtain ⟨x, _, hx⟩ := write_ok D (by omega) hg2 ha1 ha2 S g (fun q hq => (h q hq).1) hI
        refine ⟨x, (hx _ (by omega)).1, ?_⟩
        rw [psalterylaw13_PackWrites.j0, if_neg (by simp), show psalterylaw13_As.f I G Y = some (I, G, Y) from rfl, Option.bind_some, (hx _ (by omega)).2, Option.bind_some, if_pos rfl, if_pos rfl, knows_k _ (by omega)]
        rfl
      cases I with
      | true =>
        obtain ⟨x, e1, e2⟩ := good (.inl rfl)
        rw [e1, Option.bind_some, Option.bind_some, h2, Option.bind_some, if_pos rfl, if_pos rfl]
        exact e2
      | false =>
        cases hA2 : gainsB b A with
        | true =>
          obtain ⟨x, e1, e2⟩ := good (.inr hA2)
          rw [e1, Option.bind_some, Option.bind_some, h2, Option.bind_some, if_pos rfl, if_neg (by simp), hgA.2, Option.bind_some, hA2]
          exact e2
        | false =>
          rw [write_bad ha1 ha2 (by omega) h1 (.inr ⟨rfl, hA2⟩), Option.bind_some, Option.bind_some, h2, Option.bind_some, if_pos rfl, if_neg (by simp), hgA.2, Option.bind_some, hA2]
          exact bad _ (by omega)
    · obtain ⟨h1, h2⟩ := h ((2 * maxLen + 20000) + 1) (by omega)
      rw [write_bad ha1 ha2 (by omega) h1 (.inl rfl), Option.bind_some, Option.bind_some, h2, Option.bind_some, if_neg (by simp)]
      exact bad _ (by omega)
end Go.Proofs.Ytnmbndkojpjkmaa.packWrites
