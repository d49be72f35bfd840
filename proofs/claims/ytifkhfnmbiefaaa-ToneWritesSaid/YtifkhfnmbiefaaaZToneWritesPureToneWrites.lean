/- ToneWrites, over numbers and lists: the pack of a frame goes into its packet, and comes out of it as it was. -/
import Derived.Test.YtifkhfnmbiefaaaZToneWritesL1
import Derived.Test.YtifkhfnmbiefaaaZToneWritesL2
import Derived.Test.YtifkhfnmbiefaaaZToneWritesPuToneWrites
namespace Go.Proofs.Ytifkhfnmbiefaaa.toneWrites
open Go Go.RowKit Go.Proofs.YtifkhfnmbiefaaaW.PrintWords Go.Proofs.Ytifkhfnmbiefaaa.Prt Go.Proofs.Ytifkhfnmbiefaaa.Com Go.Proofs.Ytifkhfnmbiefaaa.Pvq Go.Proofs.Ytifkhfnmbiefaaa.PvqN Go.Proofs.Ytifkhfnmbiefaaa.Ton
open Go.Proofs.Ytifkhfnmbiefaaa.Alo (W)
set_option linter.unusedVariables false
theorem rr_l0 {l : List Int} (hl : l.length ≤ 9223372036854775807) : ∀ (d i : Nat) (ok : Bool), i + d = l.length → Ev (fun k => r11_Right.l0 k l ok (i : Int)) (ok && (l.drop i).all (fun x => decide (0 ≤ x ∧ x ≤ 44)))
  | 0, i, ok, hi => Ev.step (fun k => by rw [r11_Right.l0, if_neg (by omega)]) (by rw [List.drop_eq_nil_of_le (by omega), List.all_nil, Bool.and_true]; exact Ev.now _)
  | d + 1, i, ok, hi => by
    have ih := fun ok => rr_l0 hl d (i + 1) ok (by omega)
    have e1 : wrap64 ((i : Int) + 1) = ((i + 1 : Nat) : Int) := by rw [w64 (by omega) (by omega)]; rfl
    rw [Gan.drop_rd l i (by omega), List.all_cons]
    cases ok with
    | false =>
      have := ih false
      rw [Bool.false_and] at this ⊢
      exact Ev.step (fun k => by rw [r11_Right.l0, if_pos (by omega), if_neg (by decide), e1]) this
    | true =>
      by_cases h0 : rd l (i : Int) ≥ 0
      · refine Ev.step (fun k => by rw [r11_Right.l0, if_pos (by omega), if_pos rfl, if_pos (by omega), if_pos h0, e1]) ?_
        rw [show decide (0 ≤ rd l (i : Int) ∧ rd l (i : Int) ≤ 44) = decide (rd l (i : Int) ≤ 44) from decide_eq_decide.2 ⟨fun h => h.2, fun h => ⟨h0, h⟩⟩, Bool.true_and]
        exact ih _
      · have := ih false
        rw [Bool.false_and] at this
        refine Ev.step (fun k => by rw [r11_Right.l0, if_pos (by omega), if_pos rfl, if_pos (by omega), if_neg h0, e1]) ?_
        rw [show decide (0 ≤ rd l (i : Int) ∧ rd l (i : Int) ≤ 44) = false by simp; omega, Bool.false_and, Bool.and_false]
        exact this
theorem rr_f {l : List Int} (hl : l.length ≤ 9223372036854775807) : Ev (fun k => r11_Right.f k l) (Gan.rt l) := rr_l0 hl l.length 0 _ (by omega)
theorem fair_l0 {A : List (List Int)} (hA : A.length ≤ 9223372036854775807) (ha : ∀ g ∈ A, g.length ≤ 9223372036854775807) : ∀ (d i : Nat), i + d = A.length → Ev (fun k => r12_Fair.l0 k A (i : Int)) ((A.drop i).all Gan.rt)
  | 0, i, e => Ev.step (fun k => by rw [r12_Fair.l0, if_neg (by omega)]) (by rw [List.drop_eq_nil_of_le (by omega)]; exact Ev.now _)
  | d + 1, i, e => by
    have hi : i < A.length := by omega
    have ih := fair_l0 hA ha d (i + 1) (by omega)
    have e1 : wrap64 ((i : Int) + 1) = ((i + 1 : Nat) : Int) := by rw [w64 (by omega) (by omega)]; rfl
    rw [Pak.all_step hi]
    refine Ev.step (f := fun k => (r11_Right.f k (rd_L2 A (i : Int))).bind fun t => if t = true then r12_Fair.l0 k A (wrap64 ((i : Int) + 1)) else some false) (fun k => by rw [r12_Fair.l0, if_pos (by omega), if_pos (by omega)]) (Ev.bind (rr_f (by rw [rd2_at hi]; exact ha _ (List.getElem_mem hi))) ?_)
    cases hr : Gan.rt (rd_L2 A (i : Int)) with
    | false =>
      rw [Bool.false_and]
      exact Ev.congr (fun k => by rw [if_neg (by decide)]) (Ev.now _)
    | true =>
      rw [Bool.true_and]
      exact Ev.congr (fun k => by rw [if_pos rfl, e1]) ih
theorem fair_e (b : Int) {A : List (List Int)} (hA : A.length ≤ 9223372036854775807) (ha : ∀ g ∈ A, g.length ≤ 9223372036854775807) : Ev (fun k => r12_Fair.f k b A) (Pak.gainsB b A) := by
  unfold Pak.gainsB
  by_cases h : (A.length : Int) = b
  · rw [decide_eq_true h, Bool.true_and]
    exact Ev.congr (fun k => by rw [r12_Fair.f, if_pos h]; rfl) (fair_l0 hA ha A.length 0 (by omega))
  · rw [decide_eq_false h, Bool.false_and]
    exact Ev.congr (fun k => by rw [r12_Fair.f, if_neg h]) (Ev.now _)
theorem pure : Pu := by
  intro a b l I A ha hb hl hA
  apply Ev.rounds
  obtain ⟨K, C⟩ := exCst
  obtain ⟨V, D⟩ := exCnt
  have hm : maxLen ≤ 9223372036854775807 := by decide
  obtain ⟨v, g1, g2⟩ := great_f (l := l) (Nat.le_trans hl.1 hm)
  refine Ev.bind g1 ?_
  have kn : Ev (fun k => w23_ToneWrites.j0 k a b I A true l) true := Ev.step (fun k => by rw [w23_ToneWrites.j0, if_pos rfl]) knows_j
  cases v with
  | true => exact Ev.congr (fun k => by rw [if_pos rfl]) kn
  | false =>
    obtain ⟨h1, h2⟩ := g2 rfl
    refine Ev.congr (fun k => by rw [if_neg (by decide)]) (Ev.bind (fair_e b (Nat.le_trans hA.1 hm) (fun g hg => Nat.le_trans (hA.2 g hg).1 hm)) ?_)
    cases hf : Pak.gainsB b A with
    | false => exact Ev.congr (fun k => rfl) kn
    | true =>
      refine Ev.step (fun k => by rw [w23_ToneWrites.j0, if_neg (by decide)]) ?_
      by_cases h : Rt a b l
      · obtain ⟨out, o⟩ := out_ex C h
        have hn := h.n
        have hb := h.2.1
        have S := sized_enc h out
        have hA1 : (A.length : Int) = b ∧ ∀ g ∈ A, Gan.rt g = true := by
          unfold Pak.gainsB at hf
          rw [Bool.and_eq_true] at hf
          exact ⟨of_decide_eq_true hf.1, List.all_eq_true.1 hf.2⟩
        obtain ⟨x, x1, _, x2, x3⟩ := Pak.back_ok C D (A := A) (I := I) (by omega) (fun g hg => by have := Gan.rt_len (hA1.2 g hg); omega) S (good_enc h o) (right_enc C D h o I) (.inr hf)
        refine Ev.bind (enc_ok h o I) (Ev.congr (fun k => by rw [if_pos rfl]) (Ev.bind ⟨9000, x2⟩ (Ev.bind ⟨9100, x3⟩ (Ev.bind ⟨7010, right_enc C D h o I⟩ ?_))))
        refine Ev.congr (fun k => by dsimp only; rw [if_pos rfl, if_pos rfl, if_pos rfl, if_pos (by omega), show w13_As.f I (Gs l l.length) (Ys l out l.length) = some (I, Gs l l.length, Ys l out l.length) from rfl, Option.bind_some, Option.bind_some]) (Ev.bind (same_enc h out I) ?_)
        exact Ev.congr (fun k => by rw [if_pos rfl]) knows_j
      · have r1 := rright_e a b h1 h2
        rw [decide_eq_false h] at r1
        refine Ev.bind (enc_bad h1 h2 h I) (Ev.congr (fun k => by rw [if_neg (by decide)]) (Ev.bind r1 ?_))
        exact Ev.congr (fun k => by rw [if_neg (by decide)]) knows_j
end Go.Proofs.Ytifkhfnmbiefaaa.toneWrites
