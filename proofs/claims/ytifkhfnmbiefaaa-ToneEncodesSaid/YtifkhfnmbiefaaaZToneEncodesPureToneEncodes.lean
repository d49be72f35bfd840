/- ToneEncodes, over numbers and lists: a frame has the pack that the document says, or the error is told. -/
import Derived.Test.YtifkhfnmbiefaaaZToneEncodesL1
import Derived.Test.YtifkhfnmbiefaaaZToneEncodesPuToneEncodes
namespace Go.Proofs.Ytifkhfnmbiefaaa.toneEncodes
open Go Go.RowKit Go.Proofs.YtifkhfnmbiefaaaW.PrintWords Go.Proofs.Ytifkhfnmbiefaaa.Prt Go.Proofs.Ytifkhfnmbiefaaa.Com Go.Proofs.Ytifkhfnmbiefaaa.Ton
theorem pure : Pu := by
  intro a b l I ha hb hl
  apply Ev.rounds
  obtain ⟨K, C⟩ := exCst
  have hm : maxLen ≤ 9223372036854775807 := by decide
  obtain ⟨v, g1, g2⟩ := great_f (l := l) (Nat.le_trans hl.1 hm)
  refine Ev.bind g1 ?_
  cases v with
  | true => exact Ev.congr (fun k => by rw [if_pos rfl]) knows_j
  | false =>
    obtain ⟨h1, h2⟩ := g2 rfl
    have r1 := rright_e a b h1 h2
    have r2 := right_e a b h1 h2
    refine Ev.congr (fun k => by rw [if_neg (by decide)]) ?_
    by_cases h : Rt a b l
    · obtain ⟨out, o⟩ := out_ex C h
      have hn := h.n
      rw [decide_eq_true h] at r1 r2
      refine Ev.bind (enc_ok h o I) (Ev.bind r1 (Ev.bind r2 ?_))
      refine Ev.congr (fun k => by rw [if_neg (by decide), if_pos rfl, show psalterylaw13_As.f I (Gs l l.length) (Ys l out l.length) = some (I, Gs l l.length, Ys l out l.length) from rfl, Option.bind_some]) (Ev.bind (renc_ok h o I) (Ev.bind (same_enc h out I) ?_))
      exact Ev.congr (fun k => by rw [if_pos rfl, if_pos rfl]) knows_j
    · rw [decide_eq_false h] at r1 r2
      refine Ev.bind (enc_bad h1 h2 h I) (Ev.bind r1 (Ev.bind r2 ?_))
      refine Ev.congr (fun k => by rw [if_neg (by decide), if_neg (by decide), show psalterylaw13_As.f false [] [] = some (false, [], []) from rfl, Option.bind_some]) (Ev.bind (same13_f (by simp) (by simp) (by simp) (by simp)) ?_)
      exact Ev.congr (fun k => by rw [if_pos rfl, if_pos rfl]) knows_j
end Go.Proofs.Ytifkhfnmbiefaaa.toneEncodes
