/- PackReads, over numbers: what is read is the document's. -/
import Derived.Test.YtnmbndkojpjkmaaZPackReadsL1
import Derived.Test.YtnmbndkojpjkmaaZPackReadsPuPackReads
namespace Go.Proofs.Ytnmbndkojpjkmaa.packReads
open Go Go.RowKit Go.Proofs.YtnmbndkojpjkmaaW.PrintWords Go.Proofs.Ytnmbndkojpjkmaa.Prt Go.Proofs.Ytnmbndkojpjkmaa.Pak Go.Proofs.Ytnmbndkojpjkmaa.Alo
theorem pure : Pu := by
  intro a b F A ha hb hF hA
  obtain ⟨K, C⟩ := Com.exCst
  obtain ⟨V, D⟩ := Com.exCnt
  have hm : maxLen ≤ 9223372036854775807 := by decide
  obtain ⟨v, w1, w2⟩ := wide_f (l := A) (by omega)
  refine ⟨(maxLen + 20000) + 1, ?_⟩
  have hk : ∀ q, 300 ≤ q → w13_PackReads.j0 (q + 1) a b F A true = some true := fun q hq => by
    rw [w13_PackReads.j0, if_pos rfl, knows_k _ hq]; rfl
  unfold w13_PackReads.f
  by_cases h200 : (F.length : Int) > 200
  · rw [if_pos h200]; exact hk _ (by omega)
  · rw [if_neg h200, w1 _ (by omega), Option.bind_some]
    cases v with
    | true => exact hk _ (by omega)
    | false =>
      obtain ⟨hA1, hA2⟩ := w2 rfl
      have hB : Val.Bytes F := fun x hx => Val.wf_u8 (hF.2 x hx)
      have done : ∀ (I : Bool) (G : List (List Int)) (Y : List (List (List Int))) (e : Int), G.length ≤ 20 → (∀ g ∈ G, g.length ≤ 60) → Sized Y → (∀ q, 9000 ≤ q → cpack_Read.f q a b F A = some (I, G, Y, e) ∧ r13_Read.f q a b F A = some (I, G, Y, e)) → w13_PackReads.j0 ((maxLen + 20000) + 1) a b F A false = some true := fun I G Y e hG hg S h => by
        obtain ⟨h1, h2⟩ := h (maxLen + 20000) (by omega)
        rw [w13_PackReads.j0, if_neg (by simp), Option.bind_some, if_pos (by simp; omega), List.nil_append, h1, Option.bind_some, h2, Option.bind_some, show w13_As.f I G Y = some (I, G, Y) from rfl, Option.bind_some, same13 hG hg S (by omega), Option.bind_some, if_pos rfl, if_pos rfl, knows_k _ (by omega)]
        rfl
      have none : ∀ e : Int, (∀ q, 9000 ≤ q → cpack_Read.f q a b F A = some (false, [], [], e) ∧ r13_Read.f q a b F A = some (false, [], [], e)) → w13_PackReads.j0 ((maxLen + 20000) + 1) a b F A false = some true := fun e h =>
        done false [] [] e (by simp) (by simp) ⟨by simp, fun i hi => absurd hi (by simp)⟩ h
      by_cases hbad : rightB a b = false ∨ (F.length : Int) ≠ a
      · obtain ⟨e, h⟩ := read_bad (A := A) hbad
        exact none e (fun q _ => h q)
      · have hab : rightB a b = true := by cases h : rightB a b with | true => rfl | false => exact absurd (.inl h) hbad
        have hFa : (F.length : Int) = a := by
          by_cases h : (F.length : Int) = a
          · exact h
          · exact absurd (.inr h) hbad
        rcases read_ok C D (A := A) hab hB hFa hA1 hA2 with ⟨I, G, Y, out, g, hY, hr, _, h⟩ | ⟨_, h⟩
        · have hb' := right_iff.1 hab
          have hg := g.g
          have ho := g.o
          exact done I G Y 0 (by omega) (fun x hx => by have := Gan.rt_len (hr x hx); omega) (hY.sized (by omega)) h
        · exact none 1 h
end Go.Proofs.Ytnmbndkojpjkmaa.packReads
