/- The row of the law LapNear out of its pure statement (Pu), over the walk of its code. Written by a program of this session (wip/tools/lawrow.py). -/
import Derived.Test.YtllchhcdpfiodaaDoorRows
import Derived.Test.YtllchhcdpfiodaaDoorZLapNearRd
import Derived.Test.YtllchhcdpfiodaaDoorZLapNearPuLapNear
import Derived.Test.YtllchhcdpfiodaaDoorZLapNearLaid
import Derived.LaidMore
import Derived.Stop.Joined
import Derived.WalkKit
import Derived.ProofKit
import Derived.OpenShut
import Derived.ShutString
import Derived.ChangeOld
import Derived.Below
import Derived.SizedLaws
namespace Go.Proofs.YtllchhcdpfiodaaDoor.lapNear
open Go.ChangeShapes Go.WideShapes Go.ChangeAt Go.RowKit Go.Proofs.YtllchhcdpfiodaaDoorW.PrintWords Go.Proofs.YtllchhcdpfiodaaDoor.Prt
set_option linter.unusedVariables false
set_option linter.unusedSimpArgs false
theorem own : ownKnob Tryd.prog.godebug = none := by kernel_rfl
theorem laidOut : laidOutB Tryd.prog = true := by kernel_rfl
set_option maxRecDepth 100000 in
theorem lifted (PU : Pu) (os : Os) (started : os.Started) (H : Type) (enc : TypeId × Value → H) :
    ReturnsInHanded {} Tryd.checked os 9 .any (fun w args => (Rows.lapNearSpec.pre enc Tryd.prog Tryd.f9 [] false w args ∧ laidMetH Tryd.prog laidL w) ∧ sizedMet enc Tryd.prog Tryd.f9 (OpenSpec.ofChange Rows.lapNearSpec) false w args) (Rows.lapNearSpec.post enc Tryd.prog Tryd.f9 false true false false) := by
  refine returnsInHanded_of_change_and (C := Tryd.checked) (X := fun w _ => laidMetH Tryd.prog laidL w) (fun _ _ _ hh h => h.of_heap hh) own started (by kernel_rfl) Tryd.func9
    (ChangeSpec.witness_shaped (enc := enc) (C := Tryd.checked) (os := os) (X := fun w _ => laidMetH Tryd.prog laidL w) false (World.doorLaid Tryd.prog 400 os) #[.slice none 0 0, .int .i64 0, .int .i64 0, .int .u8 0] 8 rfl (World.shaped_of_RefB (by kernel_rfl) (by kernel_rfl)) (by kernel_rfl) (by kernel_rfl) (by kernel_rfl) (door_met os _)) ?_
  intro W base args ds gs before hval0 hW hcnd hsz0 hL _
  have hval : ∀ (j : Nat) t v, Tryd.f9.params[j]? = some t → args[j]? = some v → Value.okWide Tryd.prog W .any base t v := hval0
  have hW' := hW
  obtain ⟨p, q, hA0, hV, rfl, hfz, hnd⟩ := hW
  have hA : DataW.TrodAll enc Tryd.prog W 0 (fun _ => true) true Tryd.f9.params.toList args.toList ds p := hA0
  rw [Tryd.params9] at hA hval
  obtain ⟨v0, vs0, d0, ds0, p0, q0, hargs, rfl, rfl, h0, r0⟩ := trodAll_cons hA
  obtain ⟨v1, vs1, d1, ds1, p1, q1, rfl, rfl, rfl, h1, r1⟩ := trodAll_cons r0
  obtain ⟨v2, vs2, d2, ds2, p2, q2, rfl, rfl, rfl, h2, r2⟩ := trodAll_cons r1
  obtain ⟨v3, vs3, d3, ds3, p3, q3, rfl, rfl, rfl, h3, r3⟩ := trodAll_cons r2
  obtain ⟨rfl, rfl, rfl⟩ := trodAll_nil r3
  obtain rfl : args = #[v0, v1, v2, v3] := by cases args; simp_all
  obtain ⟨rfl, rfl⟩ := trodVars_none hV
  have k0 := h0
  have lt0 : ∀ x ∈ p0, x.block < W.heap.size := by obtain ⟨m, hm⟩ := k0; exact DataW.trod_lt m _ _ _ hm
  obtain ⟨fu0, hf0⟩ := h0
  have opens0 : Rd.Opens Tryd.prog _ _ _ := (Rd.Opens.slice Tryd.underlying22 (by kernel_rfl) (Rd.Opens.int (k := .i64) Tryd.underlying2 (by kernel_rfl)))
  obtain ⟨l0, ⟨A0, c0, hc0, hl0, hr0⟩, o0⟩ := opens0.opens hf0
  obtain ⟨x_, y_, z_, rfl⟩ := okWide_slice Tryd.underlying22 (hval 0 22 v0 rfl rfl)
  obtain ⟨rfl, rfl, rfl⟩ : x_ = A0 ∧ y_ = l0.length ∧ z_ = c0 := by have h_ := hc0; simp [Value.cells] at h_; exact h_
  have k1 := h1
  have lt1 : ∀ x ∈ p1, x.block < W.heap.size := by obtain ⟨m, hm⟩ := k1; exact DataW.trod_lt m _ _ _ hm
  obtain ⟨fu1, hf1⟩ := h1
  have opens1 : Rd.Opens Tryd.prog _ _ _ := (Rd.Opens.int (k := .i64) Tryd.underlying3 (by kernel_rfl))
  obtain ⟨a1, hc1, o1⟩ := opens1.opens hf1
  obtain ⟨b1, rfl⟩ := okWide_int Tryd.underlying3 (hval 1 3 v1 rfl rfl)
  obtain rfl : a1 = b1 := by have h_ := hc1; simp [Value.cells, Kd.int, Kd.scalar] at h_; exact h_.symm
  have k2 := h2
  have lt2 : ∀ x ∈ p2, x.block < W.heap.size := by obtain ⟨m, hm⟩ := k2; exact DataW.trod_lt m _ _ _ hm
  obtain ⟨fu2, hf2⟩ := h2
  have opens2 : Rd.Opens Tryd.prog _ _ _ := (Rd.Opens.int (k := .i64) Tryd.underlying2 (by kernel_rfl))
  obtain ⟨a2, hc2, o2⟩ := opens2.opens hf2
  obtain ⟨b2, rfl⟩ := okWide_int Tryd.underlying2 (hval 2 2 v2 rfl rfl)
  obtain rfl : a2 = b2 := by have h_ := hc2; simp [Value.cells, Kd.int, Kd.scalar] at h_; exact h_.symm
  have k3 := h3
  have lt3 : ∀ x ∈ p3, x.block < W.heap.size := by obtain ⟨m, hm⟩ := k3; exact DataW.trod_lt m _ _ _ hm
  obtain ⟨fu3, hf3⟩ := h3
  have opens3 : Rd.Opens Tryd.prog _ _ _ := (Rd.Opens.int (k := .u8) Tryd.underlying5 (by kernel_rfl))
  obtain ⟨a3, hc3, o3⟩ := opens3.opens hf3
  obtain ⟨b3, rfl⟩ := okWide_int Tryd.underlying5 (hval 3 5 v3 rfl rfl)
  obtain rfl : a3 = b3 := by have h_ := hc3; simp [Value.cells, Kd.int, Kd.scalar] at h_; exact h_.symm
  clear hA0 hval0 hsz0
  obtain ⟨k, hk⟩ := PU l0 a1 a2 a3 o0 o1 o2 o3
  refine (psalterylaw09_LapNear.calls k _ _ l0 a1 a2 a3 true W hr0 hl0 (of_laid hL) hk).mono fun e W' ⟨he, bel⟩ => ?_
  subst he
  exact ⟨_, rfl, _, _, _, [], _, [], hW', trodAll_mk1 (shut_bool Tryd.underlying4 _), (trodAll_cons_mk (Below.trod laidOut (by kernel_rfl) (of_decide_eq_true (by kernel_rfl)) k0 bel lt0) (trodAll_cons_mk (Below.trod laidOut (by kernel_rfl) (of_decide_eq_true (by kernel_rfl)) k1 bel lt1) (trodAll_cons_mk (Below.trod laidOut (by kernel_rfl) (of_decide_eq_true (by kernel_rfl)) k2 bel lt2) (trodAll_cons_mk (Below.trod laidOut (by kernel_rfl) (of_decide_eq_true (by kernel_rfl)) k3 bel lt3) trodAll_mk0)))), rfl, bel.frame _, fun h => by cases h⟩
theorem of_pure (PU : Pu) : Rows.LapNearSaid :=
  OpenClaim.holds_of_wide 9 Tryd.f9 rfl rfl rfl rfl rfl rfl rfl ⟨rfl, rfl, rfl, rfl, rfl⟩ rfl rfl rfl rfl rfl (by kernel_rfl) Tryd.func9 (by kernel_rfl)
    (of_decide_eq_true (by kernel_rfl)) (by unfold Func.isWrapper; first | (rw [if_pos (by decide +kernel)]; kernel_rfl) | (rw [if_neg (by decide +kernel)]; exact ⟨rfl, rfl⟩))
    (fun os started H enc _ => lifted PU os started H enc)
end Go.Proofs.YtllchhcdpfiodaaDoor.lapNear
