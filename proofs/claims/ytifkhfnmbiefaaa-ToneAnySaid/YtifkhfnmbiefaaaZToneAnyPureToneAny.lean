/- ToneAny, over numbers and lists: any pack that is right is decoded as a frame, which is encoded again. -/
import Derived.Test.YtifkhfnmbiefaaaZToneAnyL1
import Derived.Test.YtifkhfnmbiefaaaZToneAnyPuToneAny
namespace Go.Proofs.Ytifkhfnmbiefaaa.toneAny
open Go Go.RowKit Go.Proofs.YtifkhfnmbiefaaaW.PrintWords Go.Proofs.Ytifkhfnmbiefaaa.Prt Go.Proofs.Ytifkhfnmbiefaaa.Com Go.Proofs.Ytifkhfnmbiefaaa.Pvq Go.Proofs.Ytifkhfnmbiefaaa.Ton
theorem pure : Pu := by
  intro a b I G Y ha hb hG hY
  apply Ev.rounds
  obtain ⟨K, C⟩ := exCst
  obtain ⟨V, D⟩ := exCnt
  have hm : maxLen ≤ 9223372036854775807 := by decide
  have hj : Ev (fun k => psalterylaw23_ToneAny.j0 k a b true I G Y) true := Ev.step (fun k => by rw [psalterylaw23_ToneAny.j0, if_pos rfl]) knows_j
  obtain ⟨v, g1, g2⟩ := wide_f I (Nat.le_trans hG.1 hm) (Nat.le_trans hY.1 hm) (fun r hr => Nat.le_trans (hY.2 r hr).1 hm)
  refine Ev.bind g1 ?_
  cases v with
  | true => exact Ev.congr (fun k => by rw [if_pos rfl]) hj
  | false =>
    obtain ⟨h1, h2, S⟩ := g2 rfl
    refine Ev.congr (f := fun k => (psalteryref13_Right.f k a b I G Y).bind fun t => psalterylaw23_ToneAny.j0 k a b (!t) I G Y) (fun k => by rw [if_neg (by decide)]; rfl) ?_
    rcases Pak.right_same (G := G) (Y := Y) C D a b I (by omega) (fun g hg => Nat.le_trans (h2 g hg) (by omega)) S with ⟨⟨out, g⟩, h⟩ | h
    · have P := pck_of g
      have hn := P.n
      obtain ⟨Fs, E⟩ := dec_ex (a := a) (b := b) (I := I) P ⟨7010, fun q hq => (h q hq).1⟩
      have hr : Ev (fun k => psalteryref13_Right.f k a b I G Y) true := ⟨7010, fun q hq => (h q hq).2⟩
      have hF : Rt a b Fs := by
        have e1 := E.n
        have e2 := g.y
        refine ⟨g.ab, by omega, fun x hx => ?_⟩
        obtain ⟨j, hj, rfl⟩ := List.mem_iff_getElem.1 hx
        have := E.d j (by omega)
        rw [rd1_mem hj] at this
        exact ⟨this.len, by rw [this.len]; omega, by rw [this.len]; omega, this.inn⟩
      have hl := hF.n
      have hx : ∀ x ∈ Fs, x.length ≤ 100 := fun x hx => by have := (hF.2.2 x hx).1; omega
      obtain ⟨out2, o⟩ := out_ex C hF
      have r1 := right_e a b (l := Fs) (by omega) hx
      have r2 := rright_e a b (l := Fs) (by omega) hx
      rw [decide_eq_true hF] at r1 r2
      refine Ev.bind hr (Ev.step (f := fun k => (ccodec_Decode.f k a b I G Y).bind fun bt => (ccodec_Encode.f k a b bt.1 I).bind fun bu => if bt.2 = 0 then if bu.2.2.2 = 0 then (ccodec_Right.f k a b bt.1).bind fun t => if t = true then (psalteryref23_Right.f k a b bt.1).bind fun u => if u = true then (psalterylaw23_knows.f k).bind fun w => some w else none else none else none else none) (fun k => by rw [show (!true) = false from rfl, psalterylaw23_ToneAny.j0, if_neg (by decide)]) ?_)
      refine Ev.bind E.p (Ev.bind (enc_ok hF o I) (Ev.congr (fun k => by rw [if_pos rfl, if_pos rfl]) (Ev.bind r1 (Ev.congr (fun k => by rw [if_pos rfl]) (Ev.bind r2 ?_)))))
      exact Ev.congr (fun k => by rw [if_pos rfl]) knows_j
    · have hr : Ev (fun k => psalteryref13_Right.f k a b I G Y) false := ⟨7010, fun q hq => (h q hq).2⟩
      exact Ev.bind hr hj
end Go.Proofs.Ytifkhfnmbiefaaa.toneAny
