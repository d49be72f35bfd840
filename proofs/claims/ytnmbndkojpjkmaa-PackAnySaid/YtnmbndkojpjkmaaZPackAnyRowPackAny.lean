/- The row of the law PackAny out of its pure statement (Pu), over the walk of its code. Written by a program of this session (wip/tools/lawrow.py). -/
import Derived.Test.YtnmbndkojpjkmaaRows
import Derived.Test.YtnmbndkojpjkmaaZPackAnyL1
import Derived.Test.YtnmbndkojpjkmaaZPackAnyPuPackAny
import Derived.WalkKit
import Derived.ProofKit
import Derived.OpenShut
import Derived.ShutString
import Derived.ChangeOld
import Derived.Below
import Derived.SizedLaws
namespace Go.Proofs.Ytnmbndkojpjkmaa.packAny
open Go.ChangeShapes Go.WideShapes Go.ChangeAt Go.RowKit Go.Proofs.YtnmbndkojpjkmaaW.PrintWords Go.Proofs.Ytnmbndkojpjkmaa.Prt
set_option linter.unusedVariables false
set_option linter.unusedSimpArgs false
theorem own : ownKnob Try.prog.godebug = none := by kernel_rfl
theorem laidOut : laidOutB Try.prog = true := by kernel_rfl
set_option maxRecDepth 100000 in
theorem lifted (PU : Pu) (os : Os) (started : os.Started) (H : Type) (enc : TypeId × Value → H) :
    ReturnsInHanded {} Try.checked os 8 .any (Rows.packAnySpec.pre6 enc Try.prog Try.f8 Rows.packAnyRow.domain false) (Rows.packAnySpec.post enc Try.prog Try.f8 false true false false) := by
  refine returnsInHanded_of_change_sized (C := Try.checked) own started (by kernel_rfl) Try.func8
    (ChangeSpec.witness6 (enc := enc) (C := Try.checked) false ⟨#[], #[.int .i64 0, .int .i64 0, .slice none 0 0, .slice none 0 0], []⟩ 8 (by kernel_rfl) (by kernel_rfl) (by kernel_rfl) (by kernel_rfl)) ?_
  intro W base args ds gs before hval0 hW hcnd hsz0 _
  have hval : ∀ (j : Nat) t v, Try.f8.params[j]? = some t → args[j]? = some v → Value.okWide Try.prog W .any base t v := hval0
  have hW' := hW
  obtain ⟨p, q, hA0, hV, rfl, hfz, hnd⟩ := hW
  have hA : DataW.TrodAll enc Try.prog W 0 (fun _ => true) true Try.f8.params.toList args.toList ds p := hA0
  rw [Try.params8] at hA hval
  obtain ⟨v0, vs0, d0, ds0, p0, q0, hargs, rfl, rfl, h0, r0⟩ := trodAll_cons hA
  obtain ⟨v1, vs1, d1, ds1, p1, q1, rfl, rfl, rfl, h1, r1⟩ := trodAll_cons r0
  obtain ⟨v2, vs2, d2, ds2, p2, q2, rfl, rfl, rfl, h2, r2⟩ := trodAll_cons r1
  obtain ⟨v3, vs3, d3, ds3, p3, q3, rfl, rfl, rfl, h3, r3⟩ := trodAll_cons r2
  obtain ⟨rfl, rfl, rfl⟩ := trodAll_nil r3
  obtain rfl : args = #[v0, v1, v2, v3] := by cases args; simp_all
  obtain ⟨rfl, rfl⟩ := trodVars_none hV
  have k0 := h0
  have lt0 : ∀ x ∈ p0, x.block < W.heap.size := by obtain ⟨m, hm⟩ := k0; exact DataW.trod_lt m _ _ _ hm
  obtain ⟨fu0, hf0⟩ := h0
  have opens0 : Rd.Opens Try.prog _ _ _ := (Rd.Opens.int (k := .i64) Try.underlying3 (by kernel_rfl))
  obtain ⟨a0, hc0, o0⟩ := opens0.opens hf0
  obtain ⟨b0, rfl⟩ := okWide_int Try.underlying3 (hval 0 3 v0 rfl rfl)
  obtain rfl : a0 = b0 := by have h_ := hc0; simp [Value.cells, Kd.int, Kd.scalar] at h_; exact h_.symm
  have k1 := h1
  have lt1 : ∀ x ∈ p1, x.block < W.heap.size := by obtain ⟨m, hm⟩ := k1; exact DataW.trod_lt m _ _ _ hm
  obtain ⟨fu1, hf1⟩ := h1
  have opens1 : Rd.Opens Try.prog _ _ _ := (Rd.Opens.int (k := .i64) Try.underlying3 (by kernel_rfl))
  obtain ⟨a1, hc1, o1⟩ := opens1.opens hf1
  obtain ⟨b1, rfl⟩ := okWide_int Try.underlying3 (hval 1 3 v1 rfl rfl)
  obtain rfl : a1 = b1 := by have h_ := hc1; simp [Value.cells, Kd.int, Kd.scalar] at h_; exact h_.symm
  have k2 := h2
  have lt2 : ∀ x ∈ p2, x.block < W.heap.size := by obtain ⟨m, hm⟩ := k2; exact DataW.trod_lt m _ _ _ hm
  obtain ⟨fu2, hf2⟩ := h2
  have opens2 : Rd.Opens Try.prog _ _ _ := (Rd.Opens.slice Try.underlying28 (by kernel_rfl) (Rd.Opens.int (k := .u8) Try.underlying5 (by kernel_rfl)))
  obtain ⟨l2, ⟨A2, c2, hc2, hl2, hr2⟩, o2⟩ := opens2.opens hf2
  obtain ⟨x_, y_, z_, rfl⟩ := okWide_slice Try.underlying28 (hval 2 28 v2 rfl rfl)
  obtain ⟨rfl, rfl, rfl⟩ : x_ = A2 ∧ y_ = l2.length ∧ z_ = c2 := by have h_ := hc2; simp [Value.cells] at h_; exact h_
  have k3 := h3
  have lt3 : ∀ x ∈ p3, x.block < W.heap.size := by obtain ⟨m, hm⟩ := k3; exact DataW.trod_lt m _ _ _ hm
  obtain ⟨fu3, hf3⟩ := h3
  have opens3 : Rd.Opens Try.prog _ _ _ := (Rd.Opens.slice Try.underlying22 (by kernel_rfl) (Rd.Opens.slice Try.underlying49 (by kernel_rfl) (Rd.Opens.int (k := .i64) Try.underlying3 (by kernel_rfl))))
  obtain ⟨l3, ⟨A3, c3, hc3, hl3, hr3⟩, o3⟩ := opens3.opens hf3
  obtain ⟨x_, y_, z_, rfl⟩ := okWide_slice Try.underlying22 (hval 3 22 v3 rfl rfl)
  obtain ⟨rfl, rfl, rfl⟩ : x_ = A3 ∧ y_ = l3.length ∧ z_ = c3 := by have h_ := hc3; simp [Value.cells] at h_; exact h_
  clear hA0 hval0 hsz0
  obtain ⟨k, hk⟩ := PU a0 a1 l2 l3 o0 o1 o2 o3
  refine (w13_PackAny.calls k a0 a1 _ _ l2 _ _ l3 true W hr2 hl2 hr3 hl3 hk).mono fun e W' ⟨he, bel⟩ => ?_
  subst he
  exact ⟨_, rfl, _, _, _, [], _, [], hW', trodAll_mk1 (shut_bool Try.underlying4 _), (trodAll_cons_mk (Below.trod laidOut (by kernel_rfl) (of_decide_eq_true (by kernel_rfl)) k0 bel lt0) (trodAll_cons_mk (Below.trod laidOut (by kernel_rfl) (of_decide_eq_true (by kernel_rfl)) k1 bel lt1) (trodAll_cons_mk (Below.trod laidOut (by kernel_rfl) (of_decide_eq_true (by kernel_rfl)) k2 bel lt2) (trodAll_cons_mk (Below.trod laidOut (by kernel_rfl) (of_decide_eq_true (by kernel_rfl)) k3 bel lt3) trodAll_mk0)))), rfl, bel.frame _, fun h => by cases h⟩
theorem of_pure (PU : Pu) : Rows.PackAnySaid :=
  OpenClaim.holds_of_wide 8 Try.f8 rfl rfl rfl rfl rfl rfl rfl ⟨rfl, rfl, rfl, rfl, rfl⟩ rfl rfl rfl rfl rfl (by kernel_rfl) Try.func8 (by kernel_rfl)
    (of_decide_eq_true (by kernel_rfl)) (by unfold Func.isWrapper; first | (rw [if_pos (by decide +kernel)]; kernel_rfl) | (rw [if_neg (by decide +kernel)]; exact ⟨rfl, rfl⟩))
    (fun os started H enc _ => lifted PU os started H enc)
end Go.Proofs.Ytnmbndkojpjkmaa.packAny
