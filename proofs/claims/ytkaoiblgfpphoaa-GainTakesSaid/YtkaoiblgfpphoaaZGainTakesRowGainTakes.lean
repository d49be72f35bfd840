/- The row of the law GainTakes out of its pure statement (Pu), over the walk of its code. Written by a program of this session (wip/tools/lawrow.py). -/
import Derived.Test.YtkaoiblgfpphoaaRows
import Derived.Test.YtkaoiblgfpphoaaZGainTakesRd
import Derived.Test.YtkaoiblgfpphoaaZGainTakesPuGainTakes
import Derived.WalkKit
import Derived.ProofKit
import Derived.OpenShut
import Derived.ShutString
import Derived.ChangeOld
import Derived.Below
import Derived.SizedLaws
namespace Go.Proofs.Ytkaoiblgfpphoaa.gainTakes
open Go.ChangeShapes Go.WideShapes Go.ChangeAt Go.RowKit Go.Proofs.YtkaoiblgfpphoaaW.PrintWords Go.Proofs.Ytkaoiblgfpphoaa.Prt
set_option linter.unusedVariables false
set_option linter.unusedSimpArgs false
theorem own : ownKnob Try.prog.godebug = none := by kernel_rfl
theorem laidOut : laidOutB Try.prog = true := by kernel_rfl
set_option maxRecDepth 100000 in
theorem lifted (PU : Pu) (os : Os) (started : os.Started) (H : Type) (enc : TypeId × Value → H) :
    ReturnsInHanded {} Try.checked os 12 .any (Rows.gainTakesSpec.pre6 enc Try.prog Try.f12 Rows.gainTakesRow.domain false) (Rows.gainTakesSpec.post enc Try.prog Try.f12 false true false false) := by
  refine returnsInHanded_of_change_sized (C := Try.checked) own started (by kernel_rfl) Try.func12
    (ChangeSpec.witness6 (enc := enc) (C := Try.checked) false ⟨#[], #[.agg #[.int .u64 0, .int .u32 0, .slice none 0 0, .int .i64 0], .slice none 0 0, .bool false], []⟩ 8 (by kernel_rfl) (by kernel_rfl) (by kernel_rfl) (by kernel_rfl)) ?_
  intro W base args ds gs before hval0 hW hcnd hsz0 _
  have hval : ∀ (j : Nat) t v, Try.f12.params[j]? = some t → args[j]? = some v → Value.okWide Try.prog W .any base t v := hval0
  have hW' := hW
  obtain ⟨p, q, hA0, hV, rfl, hfz, hnd⟩ := hW
  have hA : DataW.TrodAll enc Try.prog W 0 (fun _ => true) true Try.f12.params.toList args.toList ds p := hA0
  rw [Try.params12] at hA hval
  obtain ⟨v0, vs0, d0, ds0, p0, q0, hargs, rfl, rfl, h0, r0⟩ := trodAll_cons hA
  obtain ⟨v1, vs1, d1, ds1, p1, q1, rfl, rfl, rfl, h1, r1⟩ := trodAll_cons r0
  obtain ⟨v2, vs2, d2, ds2, p2, q2, rfl, rfl, rfl, h2, r2⟩ := trodAll_cons r1
  obtain ⟨rfl, rfl, rfl⟩ := trodAll_nil r2
  obtain rfl : args = #[v0, v1, v2] := by cases args; simp_all
  obtain ⟨rfl, rfl⟩ := trodVars_none hV
  have k0 := h0
  have lt0 : ∀ x ∈ p0, x.block < W.heap.size := by obtain ⟨m, hm⟩ := k0; exact DataW.trod_lt m _ _ _ hm
  obtain ⟨fu0, hf0⟩ := h0
  have opens0 : Rd.Opens Try.prog _ _ _ := (Rd.Opens.agg4 Try.underlying43 (by kernel_rfl) (by kernel_rfl) (Rd.Opens.int (k := .u64) Try.underlying22 (by kernel_rfl)) (Rd.Opens.int (k := .u32) Try.underlying23 (by kernel_rfl)) (Rd.Opens.slice Try.underlying24 (by kernel_rfl) (Rd.Opens.int (k := .u8) Try.underlying5 (by kernel_rfl))) (Rd.Opens.int (k := .i64) Try.underlying3 (by kernel_rfl)))
  obtain ⟨⟨a0_0, a0_1, l0_2, a0_3⟩, ⟨_, _, hc0, rfl, _, _, rfl, rfl, _, _, rfl, ⟨A0_2, c0_2, rfl, hl0_2, hr0_2⟩, rfl⟩, ⟨o0_0, o0_1, o0_2, o0_3⟩⟩ := opens0.opens hf0
  obtain ⟨cs0, rfl, _⟩ := okWide_struct Try.underlying43 (hval 0 43 v0 rfl rfl)
  obtain rfl : cs0 = #[.int .u64 a0_0, .int .u32 a0_1, .slice A0_2 l0_2.length c0_2, .int .i64 a0_3] := by apply Array.toList_inj.1; exact hc0
  have k1 := h1
  have lt1 : ∀ x ∈ p1, x.block < W.heap.size := by obtain ⟨m, hm⟩ := k1; exact DataW.trod_lt m _ _ _ hm
  obtain ⟨fu1, hf1⟩ := h1
  have opens1 : Rd.Opens Try.prog _ _ _ := (Rd.Opens.slice Try.underlying31 (by kernel_rfl) (Rd.Opens.int (k := .i64) Try.underlying3 (by kernel_rfl)))
  obtain ⟨l1, ⟨A1, c1, hc1, hl1, hr1⟩, o1⟩ := opens1.opens hf1
  obtain ⟨x_, y_, z_, rfl⟩ := okWide_slice Try.underlying31 (hval 1 31 v1 rfl rfl)
  obtain ⟨rfl, rfl, rfl⟩ : x_ = A1 ∧ y_ = l1.length ∧ z_ = c1 := by have h_ := hc1; simp [Value.cells] at h_; exact h_
  have k2 := h2
  have lt2 : ∀ x ∈ p2, x.block < W.heap.size := by obtain ⟨m, hm⟩ := k2; exact DataW.trod_lt m _ _ _ hm
  obtain ⟨fu2, hf2⟩ := h2
  have opens2 : Rd.Opens Try.prog _ _ _ := (Rd.Opens.bool Try.underlying4 (by kernel_rfl))
  obtain ⟨a2, hc2, o2⟩ := opens2.opens hf2
  obtain ⟨b2, rfl⟩ := okWide_bool Try.underlying4 (hval 2 4 v2 rfl rfl)
  obtain rfl : a2 = b2 := by have h_ := hc2; simp [Value.cells, Kd.bool, Kd.scalar] at h_; exact h_.symm
  clear hA0 hval0 hsz0
  obtain ⟨k, hk⟩ := PU a0_0 a0_1 l0_2 a0_3 l1 a2 o0_0 o0_1 o0_2 o0_3 o1
  refine (psalterylaw11_GainTakes.calls k a0_0 a0_1 _ _ l0_2 a0_3 _ _ l1 a2 true W hr0_2 hl0_2 hr1 hl1 hk).mono fun e W' ⟨he, bel⟩ => ?_
  subst he
  exact ⟨_, rfl, _, _, _, [], _, [], hW', trodAll_mk1 (shut_bool Try.underlying4 _), (trodAll_cons_mk (Below.trod laidOut (by kernel_rfl) (of_decide_eq_true (by kernel_rfl)) k0 bel lt0) (trodAll_cons_mk (Below.trod laidOut (by kernel_rfl) (of_decide_eq_true (by kernel_rfl)) k1 bel lt1) (trodAll_cons_mk (Below.trod laidOut (by kernel_rfl) (of_decide_eq_true (by kernel_rfl)) k2 bel lt2) trodAll_mk0))), rfl, bel.frame _, fun h => by cases h⟩
theorem of_pure (PU : Pu) : Rows.GainTakesSaid :=
  OpenClaim.holds_of_wide 12 Try.f12 rfl rfl rfl rfl rfl rfl rfl ⟨rfl, rfl, rfl, rfl, rfl⟩ rfl rfl rfl rfl rfl (by kernel_rfl) Try.func12 (by kernel_rfl)
    (of_decide_eq_true (by kernel_rfl)) (by unfold Func.isWrapper; first | (rw [if_pos (by decide +kernel)]; kernel_rfl) | (rw [if_neg (by decide +kernel)]; exact ⟨rfl, rfl⟩))
    (fun os started H enc _ => lifted PU os started H enc)
end Go.Proofs.Ytkaoiblgfpphoaa.gainTakes
