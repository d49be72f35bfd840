/- ToneDecodes, over numbers and lists: a pack has the frame that the document says, or the error is told. -/
import Derived.Test.YtifkhfnmbiefaaaZToneDecodesL1
import Derived.Test.YtifkhfnmbiefaaaZToneDecodesPuToneDecodes
namespace Go.Proofs.Ytifkhfnmbiefaaa.toneDecodes
open Go Go.RowKit Go.Proofs.YtifkhfnmbiefaaaW.PrintWords Go.Proofs.Ytifkhfnmbiefaaa.Prt Go.Proofs.Ytifkhfnmbiefaaa.Com Go.Proofs.Ytifkhfnmbiefaaa.Ton
theorem pure : Pu := by
  intro a b I G Y ha hb hG hY
  apply Ev.rounds
  obtain ⟨K, C⟩ := exCst
  obtain ⟨V, D⟩ := exCnt
  have hm : maxLen ≤ 9223372036854775807 := by decide
  obtain ⟨v, g1, g2⟩ := wide_f I (Nat.le_trans hG.1 hm) (Nat.le_trans hY.1 hm) (fun r hr => Nat.le_trans (hY.2 r hr).1 hm)
  refine Ev.bind g1 ?_
  cases v with
  | true => exact Ev.congr (fun k => by rw [if_pos rfl]) knows_j
  | false =>
    obtain ⟨h1, h2, S⟩ := g2 rfl
    refine Ev.congr (f := fun k => (ccodec_Decode.f k a b I G Y).bind fun bt => (psalteryref13_Right.f k a b I G Y).bind fun t => if t = true then (psalteryref23_Decode.f k I G Y).bind fun u => (psalteryref22_Same.f k bt.1 u).bind fun w => if w = true then if bt.2 = 0 then (psalterylaw23_knows.f k).bind fun t => some t else none else none else if (bt.1.length : Int) = 0 then if bt.2 = 1 then (psalterylaw23_knows.f k).bind fun t => some t else none else none) (fun k => by rw [if_neg (by decide)]; rfl) ?_
    rcases Pak.right_same (G := G) (Y := Y) C D a b I (by omega) (fun g hg => Nat.le_trans (h2 g hg) (by omega)) S with ⟨⟨out, g⟩, h⟩ | h
    · have P := pck_of g
      obtain ⟨Fs, E⟩ := dec_ex (a := a) (b := b) (I := I) P ⟨7010, fun q hq => (h q hq).1⟩
      have hr : Ev (fun k => psalteryref13_Right.f k a b I G Y) true := ⟨7010, fun q hq => (h q hq).2⟩
      refine Ev.bind E.p (Ev.bind hr (Ev.congr (fun k => by rw [if_pos rfl]) (Ev.bind E.r (Ev.bind (E.same P) ?_))))
      exact Ev.congr (fun k => by rw [if_pos rfl, if_pos rfl]) knows_j
    · have hr : Ev (fun k => psalteryref13_Right.f k a b I G Y) false := ⟨7010, fun q hq => (h q hq).2⟩
      refine Ev.bind (dec_bad ⟨7010, fun q hq => (h q hq).1⟩) (Ev.bind hr ?_)
      exact Ev.congr (fun k => by rw [if_neg (by decide), if_pos (by rfl), if_pos rfl]) knows_j
end Go.Proofs.Ytifkhfnmbiefaaa.toneDecodes
