/- The row of the law ToneWrites out of its pure statement (Pu), over the walk of its code. Written by a program of this session (wip/tools/lawrow.py). -/
import Derived.Test.YtifkhfnmbiefaaaRows
import Derived.Test.YtifkhfnmbiefaaaZToneWritesL1
import Derived.Test.YtifkhfnmbiefaaaZToneWritesPuToneWrites
import Derived.WalkKit
import Derived.ProofKit
import Derived.OpenShut
import Derived.ShutString
import Derived.ChangeOld
import Derived.Below
import Derived.SizedLaws
namespace Go.Proofs.Ytifkhfnmbiefaaa.toneWrites
open Go.ChangeShapes Go.WideShapes Go.ChangeAt Go.RowKit Go.Proofs.YtifkhfnmbiefaaaW.PrintWords Go.Proofs.Ytifkhfnmbiefaaa.Prt
set_option linter.unusedVariables false
set_option linter.unusedSimpArgs false
theorem own : ownKnob Try.prog.godebug = none := by kernel_rfl
theorem laidOut : laidOutB Try.prog = true := by kernel_rfl
set_option maxRecDepth 100000 in
theorem lifted (PU : Pu) (os : Os) (started : os.Started) (H : Type) (enc : TypeId × Value → H) :
    ReturnsInHanded {} Try.checked os 3 .any (Rows.toneWritesSpec.pre6 enc Try.prog Try.f3 Rows.toneWritesRow.domain false) (Rows.toneWritesSpec.post enc Try.prog Try.f3 false true false false) := by
  refine returnsInHanded_of_change_sized (C := Try.checked) own started (by kernel_rfl) Try.func3
    (ChangeSpec.witness6 (enc := enc) (C := Try.checked) false ⟨#[], #[.int .i64 0, .int .i64 0, .agg #[.slice none 0 0], .bool false, .slice none 0 0], []⟩ 8 (by kernel_rfl) (by kernel_rfl) (by kernel_rfl) (by kernel_rfl)) ?_
  intro W base args ds gs before hval0 hW hcnd hsz0 _
  have hval : ∀ (j : Nat) t v, Try.f3.params[j]? = some t → args[j]? = some v → Value.okWide Try.prog W .any base t v := hval0
  have hW' := hW
  obtain ⟨p, q, hA0, hV, rfl, hfz, hnd⟩ := hW
  have hA : DataW.TrodAll enc Try.prog W 0 (fun _ => true) true Try.f3.params.toList args.toList ds p := hA0
  rw [Try.params3] at hA hval
  obtain ⟨v0, vs0, d0, ds0, p0, q0, hargs, rfl, rfl, h0, r0⟩ := trodAll_cons hA
  obtain ⟨v1, vs1, d1, ds1, p1, q1, rfl, rfl, rfl, h1, r1⟩ := trodAll_cons r0
  obtain ⟨v2, vs2, d2, ds2, p2, q2, rfl, rfl, rfl, h2, r2⟩ := trodAll_cons r1
  obtain ⟨v3, vs3, d3, ds3, p3, q3, rfl, rfl, rfl, h3, r3⟩ := trodAll_cons r2
  obtain ⟨v4, vs4, d4, ds4, p4, q4, rfl, rfl, rfl, h4, r4⟩ := trodAll_cons r3
  obtain ⟨rfl, rfl, rfl⟩ := trodAll_nil r4
  obtain rfl : args = #[v0, v1, v2, v3, v4] := by cases args; simp_all
  obtain ⟨rfl, rfl⟩ := trodVars_none hV
  have k0 := h0
  have lt0 : ∀ x ∈ p0, x.block < W.heap.size := by obtain ⟨m, hm⟩ := k0; exact DataW.trod_lt m _ _ _ hm
  obtain ⟨fu0, hf0⟩ := h0
  have opens0 : Rd.Opens Try.prog _ _ _ := (Rd.Opens.int (k := .i64) Try.underlying3 (by kernel_rfl))
  obtain ⟨a0, hc0, o0⟩ := opens0.opens hf0
  obtain ⟨b0, rfl⟩ := okWide_int Try.underlying3 (hval 0 3 v0 rfl rfl)
  obtain rfl : a0 = b0 := by have h_ := hc0; simp [Value.cells, Kd.int, Kd.scalar] at h_; exact h_.symm
  have k1 := h1
  have lt1 : ∀ x ∈ p1, x.block < W.heap.size := by obtain ⟨m, hm⟩ := k1; exact DataW.trod_lt m _ _ _ hm
  obtain ⟨fu1, hf1⟩ := h1
  have opens1 : Rd.Opens Try.prog _ _ _ := (Rd.Opens.int (k := .i64) Try.underlying3 (by kernel_rfl))
  obtain ⟨a1, hc1, o1⟩ := opens1.opens hf1
  obtain ⟨b1, rfl⟩ := okWide_int Try.underlying3 (hval 1 3 v1 rfl rfl)
  obtain rfl : a1 = b1 := by have h_ := hc1; simp [Value.cells, Kd.int, Kd.scalar] at h_; exact h_.symm
  have k2 := h2
  have lt2 : ∀ x ∈ p2, x.block < W.heap.size := by obtain ⟨m, hm⟩ := k2; exact DataW.trod_lt m _ _ _ hm
  obtain ⟨fu2, hf2⟩ := h2
  have opens2 : Rd.Opens Try.prog _ _ _ := (Rd.Opens.agg1 Try.underlying24 (by kernel_rfl) (by kernel_rfl) (Rd.Opens.slice Try.underlying22 (by kernel_rfl) (Rd.Opens.slice Try.underlying53 (by kernel_rfl) (Rd.Opens.int (k := .i64) Try.underlying2 (by kernel_rfl)))))
  obtain ⟨l2_0, ⟨A2_0, c2_0, hc2, hl2_0, hr2_0⟩, o2_0⟩ := opens2.opens hf2
  obtain ⟨cs2, rfl, _⟩ := okWide_struct Try.underlying24 (hval 2 24 v2 rfl rfl)
  obtain rfl : cs2 = #[.slice A2_0 l2_0.length c2_0] := by apply Array.toList_inj.1; exact hc2
  have k3 := h3
  have lt3 : ∀ x ∈ p3, x.block < W.heap.size := by obtain ⟨m, hm⟩ := k3; exact DataW.trod_lt m _ _ _ hm
  obtain ⟨fu3, hf3⟩ := h3
  have opens3 : Rd.Opens Try.prog _ _ _ := (Rd.Opens.bool Try.underlying4 (by kernel_rfl))
  obtain ⟨a3, hc3, o3⟩ := opens3.opens hf3
  obtain ⟨b3, rfl⟩ := okWide_bool Try.underlying4 (hval 3 4 v3 rfl rfl)
  obtain rfl : a3 = b3 := by have h_ := hc3; simp [Value.cells, Kd.bool, Kd.scalar] at h_; exact h_.symm
  have k4 := h4
  have lt4 : ∀ x ∈ p4, x.block < W.heap.size := by obtain ⟨m, hm⟩ := k4; exact DataW.trod_lt m _ _ _ hm
  obtain ⟨fu4, hf4⟩ := h4
  have opens4 : Rd.Opens Try.prog _ _ _ := (Rd.Opens.slice Try.underlying25 (by kernel_rfl) (Rd.Opens.slice Try.underlying55 (by kernel_rfl) (Rd.Opens.int (k := .i64) Try.underlying3 (by kernel_rfl))))
  obtain ⟨l4, ⟨A4, c4, hc4, hl4, hr4⟩, o4⟩ := opens4.opens hf4
  obtain ⟨x_, y_, z_, rfl⟩ := okWide_slice Try.underlying25 (hval 4 25 v4 rfl rfl)
  obtain ⟨rfl, rfl, rfl⟩ : x_ = A4 ∧ y_ = l4.length ∧ z_ = c4 := by have h_ := hc4; simp [Value.cells] at h_; exact h_
  clear hA0 hval0 hsz0
  obtain ⟨k, hk⟩ := PU a0 a1 l2_0 a3 l4 o0 o1 o2_0 o4
  refine (w23_ToneWrites.calls k a0 a1 _ _ l2_0 a3 _ _ l4 true W hr2_0 hl2_0 hr4 hl4 hk).mono fun e W' ⟨he, bel⟩ => ?_
  subst he
  exact ⟨_, rfl, _, _, _, [], _, [], hW', trodAll_mk1 (shut_bool Try.underlying4 _), (trodAll_cons_mk (Below.trod laidOut (by kernel_rfl) (of_decide_eq_true (by kernel_rfl)) k0 bel lt0) (trodAll_cons_mk (Below.trod laidOut (by kernel_rfl) (of_decide_eq_true (by kernel_rfl)) k1 bel lt1) (trodAll_cons_mk (Below.trod laidOut (by kernel_rfl) (of_decide_eq_true (by kernel_rfl)) k2 bel lt2) (trodAll_cons_mk (Below.trod laidOut (by kernel_rfl) (of_decide_eq_true (by kernel_rfl)) k3 bel lt3) (trodAll_cons_mk (Below.trod laidOut (by kernel_rfl) (of_decide_eq_true (by kernel_rfl)) k4 bel lt4) trodAll_mk0))))), rfl, bel.frame _, fun h => by cases h⟩
theorem of_pure (PU : Pu) : Rows.ToneWritesSaid :=
  OpenClaim.holds_of_wide 3 Try.f3 rfl rfl rfl rfl rfl rfl rfl ⟨rfl, rfl, rfl, rfl, rfl⟩ rfl rfl rfl rfl rfl (by kernel_rfl) Try.func3 (by kernel_rfl)
    (of_decide_eq_true (by kernel_rfl)) (by unfold Func.isWrapper; first | (rw [if_pos (by decide +kernel)]; kernel_rfl) | (rw [if_neg (by decide +kernel)]; exact ⟨rfl, rfl⟩))
    (fun os started H enc _ => lifted PU os started H enc)
end Go.Proofs.Ytifkhfnmbiefaaa.toneWrites
