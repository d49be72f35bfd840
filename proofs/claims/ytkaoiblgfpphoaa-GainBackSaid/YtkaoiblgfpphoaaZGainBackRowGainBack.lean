/- The row of the law GainBack out of its pure statement (Pu), over the walk of its code. Written by a program of this session (wip/tools/lawrow.py). -/
import Derived.Test.YtkaoiblgfpphoaaRows
import Derived.Test.YtkaoiblgfpphoaaZGainBackL1
import Derived.Test.YtkaoiblgfpphoaaZGainBackPuGainBack
import Derived.WalkKit
import Derived.ProofKit
import Derived.OpenShut
import Derived.ShutString
import Derived.ChangeOld
import Derived.Below
import Derived.SizedLaws
namespace Go.Proofs.Ytkaoiblgfpphoaa.gainBack
open Go.ChangeShapes Go.WideShapes Go.ChangeAt Go.RowKit Go.Proofs.YtkaoiblgfpphoaaW.PrintWords Go.Proofs.Ytkaoiblgfpphoaa.Prt
set_option linter.unusedVariables false
set_option linter.unusedSimpArgs false
theorem own : ownKnob Try.prog.godebug = none := by kernel_rfl
theorem laidOut : laidOutB Try.prog = true := by kernel_rfl
set_option maxRecDepth 100000 in
theorem lifted (PU : Pu) (os : Os) (started : os.Started) (H : Type) (enc : TypeId × Value → H) :
    ReturnsInHanded {} Try.checked os 13 .any (Rows.gainBackSpec.pre6 enc Try.prog Try.f13 Rows.gainBackRow.domain false) (Rows.gainBackSpec.post enc Try.prog Try.f13 false true false false) := by
  refine returnsInHanded_of_change_sized (C := Try.checked) own started (by kernel_rfl) Try.func13
    (ChangeSpec.witness6 (enc := enc) (C := Try.checked) false ⟨#[], #[.slice none 0 0], []⟩ 8 (by kernel_rfl) (by kernel_rfl) (by kernel_rfl) (by kernel_rfl)) ?_
  intro W base args ds gs before hval0 hW hcnd hsz0 _
  have hval : ∀ (j : Nat) t v, Try.f13.params[j]? = some t → args[j]? = some v → Value.okWide Try.prog W .any base t v := hval0
  have hW' := hW
  obtain ⟨p, q, hA0, hV, rfl, hfz, hnd⟩ := hW
  have hA : DataW.TrodAll enc Try.prog W 0 (fun _ => true) true Try.f13.params.toList args.toList ds p := hA0
  rw [Try.params13] at hA hval
  obtain ⟨v0, vs0, d0, ds0, p0, q0, hargs, rfl, rfl, h0, r0⟩ := trodAll_cons hA
  obtain ⟨rfl, rfl, rfl⟩ := trodAll_nil r0
  obtain rfl : args = #[v0] := by cases args; simp_all
  obtain ⟨rfl, rfl⟩ := trodVars_none hV
  have k0 := h0
  have lt0 : ∀ x ∈ p0, x.block < W.heap.size := by obtain ⟨m, hm⟩ := k0; exact DataW.trod_lt m _ _ _ hm
  obtain ⟨fu0, hf0⟩ := h0
  have opens0 : Rd.Opens Try.prog _ _ _ := (Rd.Opens.slice Try.underlying89 (by kernel_rfl) (Rd.Opens.iso (fun x : S91 => (x.f0, x.f1)) (fun a => ⟨a.1, a.2⟩) (fun _ => rfl) (Rd.Opens.agg2 Try.underlying91 (by kernel_rfl) (by kernel_rfl) (Rd.Opens.slice Try.underlying31 (by kernel_rfl) (Rd.Opens.int (k := .i64) Try.underlying3 (by kernel_rfl))) (Rd.Opens.bool Try.underlying4 (by kernel_rfl)))))
  obtain ⟨l0, ⟨A0, c0, hc0, hl0, hr0⟩, o0⟩ := opens0.opens hf0
  obtain ⟨x_, y_, z_, rfl⟩ := okWide_slice Try.underlying89 (hval 0 89 v0 rfl rfl)
  obtain ⟨rfl, rfl, rfl⟩ : x_ = A0 ∧ y_ = l0.length ∧ z_ = c0 := by have h_ := hc0; simp [Value.cells] at h_; exact h_
  clear hA0 hval0 hsz0
  obtain ⟨k, hk⟩ := PU l0 ⟨o0.1, fun q hq => (o0.2 q hq).1⟩
  refine (psalterylaw11_GainBack.calls k _ _ l0 true W hr0 hl0 hk).mono fun e W' ⟨he, bel⟩ => ?_
  subst he
  exact ⟨_, rfl, _, _, _, [], _, [], hW', trodAll_mk1 (shut_bool Try.underlying4 _), (trodAll_cons_mk (Below.trod laidOut (by kernel_rfl) (of_decide_eq_true (by kernel_rfl)) k0 bel lt0) trodAll_mk0), rfl, bel.frame _, fun h => by cases h⟩
theorem of_pure (PU : Pu) : Rows.GainBackSaid :=
  OpenClaim.holds_of_wide 13 Try.f13 rfl rfl rfl rfl rfl rfl rfl ⟨rfl, rfl, rfl, rfl, rfl⟩ rfl rfl rfl rfl rfl (by kernel_rfl) Try.func13 (by kernel_rfl)
    (of_decide_eq_true (by kernel_rfl)) (by unfold Func.isWrapper; first | (rw [if_pos (by decide +kernel)]; kernel_rfl) | (rw [if_neg (by decide +kernel)]; exact ⟨rfl, rfl⟩))
    (fun os started H enc _ => lifted PU os started H enc)
end Go.Proofs.Ytkaoiblgfpphoaa.gainBack
