/- PackAny, over numbers: any bytes of the packet's number are read as a pack that is right; what was read is written, and read, as it again. -/
import Derived.Test.YtnmbndkojpjkmaaZPackAnyL1
import Derived.Test.YtnmbndkojpjkmaaZPackAnyL2
import Derived.Test.YtnmbndkojpjkmaaZPackAnyPuPackAny
namespace Go.Proofs.Ytnmbndkojpjkmaa.packAny
open Go Go.RowKit Go.Proofs.YtnmbndkojpjkmaaW.PrintWords Go.Proofs.Ytnmbndkojpjkmaa.Prt Go.Proofs.Ytnmbndkojpjkmaa.Pak Go.Proofs.Ytnmbndkojpjkmaa.Alo
theorem pure : Pu := by
  intro a b F A ha hb hF hA
  obtain ⟨K, C⟩ := Com.exCst
  obtain ⟨V, D⟩ := Com.exCnt
  have hm : maxLen ≤ 9223372036854775807 := by decide
  have hAl := hA.1
  obtain ⟨v, w1, w2⟩ := wide_f (l := A) (by omega)
  refine ⟨(maxLen + 20000) + 1 + 1, ?_⟩
  have hk : ∀ q, 300 ≤ q → w13_PackAny.j0 (q + 1) a b F A true = some true := fun q hq => by
    rw [w13_PackAny.j0, if_pos rfl, knows_k _ hq]; rfl
  unfold w13_PackAny.f
  by_cases h200 : (F.length : Int) > 200
  · rw [if_pos h200]; exact hk _ (by omega)
  · rw [if_neg h200, w1 _ (by omega), Option.bind_some]
    cases v with
    | true => rw [if_pos rfl]; exact hk _ (by omega)
    | false =>
      obtain ⟨hA1, hA2⟩ := w2 rfl
      have hB : Val.Bytes F := fun x hx => Val.wf_u8 (hF.2 x hx)
      rw [if_neg (by simp), (right_f a b).2, Option.bind_some]
      cases hab : rightB a b with
      | false => rw [if_neg (by simp)]; exact hk _ (by omega)
      | true =>
        rw [if_pos rfl]
        by_cases hFa : (F.length : Int) = a
        · rw [if_pos hFa, (gains_f b (by omega) (fun g hg => by have := hA2 g hg; omega) (by omega)).2, Option.bind_some]
          cases hgb : gainsB b A with
          | false => exact hk _ (by omega)
          | true =>
            rcases read_ok C D (A := A) hab hB hFa hA1 hA2 with ⟨I, G, Y, out, g, hY, hr, hI, h⟩ | ⟨h, _⟩
            · have hb' := right_iff.1 hab
              have hg := g.g
              have ho := g.o
              have S := hY.sized (by omega)
              have hgl : ∀ x ∈ G, x.length ≤ 60 := fun x hx => by have := Gan.rt_len (hr x hx); omega
              have hri := right_of_good C D (I := I) S g
              obtain ⟨x, hx, _, hw, hrd⟩ := back_ok C D hA1 hA2 S g (fun q hq => (hri q hq).1) hI
              rw [w13_PackAny.j0, if_neg (by simp), (h _ (by omega)).1, Option.bind_some, if_pos rfl, (hri _ (by omega)).1, Option.bind_some, if_pos rfl, show w13_As.f I G Y = some (I, G, Y) from rfl, Option.bind_some, (hri _ (by omega)).2, Option.bind_some,
                w13_PackAny.j1, if_neg (by simp), hw _ (by omega), Option.bind_some, hrd _ (by omega), Option.bind_some, if_pos rfl, if_pos rfl, show w13_As.f I G Y = some (I, G, Y) from rfl, Option.bind_some, Option.bind_some, same13 (by omega) hgl S (by omega), Option.bind_some, if_pos rfl, knows_k _ (by omega)]
              rfl
            · rw [hgb] at h; exact absurd h (by simp)
        · rw [if_neg hFa]; exact hk _ (by omega)
end Go.Proofs.Ytnmbndkojpjkmaa.packAny
