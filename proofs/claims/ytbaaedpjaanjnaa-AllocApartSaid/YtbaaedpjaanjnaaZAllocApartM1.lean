-- Functions of the program and of the document as plain Lean, each with the proof that the code comes to it. Written by a program of this session (wip/tools/myprint.py, pack.py) over the kit's printer; Lean checks it.
import Derived.Test.YtbaaedpjaanjnaaZAllocApartPrt0
import Derived.Test.YtbaaedpjaanjnaaZAllocApartWMore
import Derived.Laws.Rows
import Derived.Laws.Tables
import Derived.Deep.WholeRow
namespace Go.Proofs.Ytbaaedpjaanjnaa.Prt
open Go.RowKit Go.Proofs.YtbaaedpjaanjnaaW.PrintWords Go.Proofs.YtbaaedpjaanjnaaW.PrintLast Go.Proofs.YtbaaedpjaanjnaaW.PrintMore
attribute [local go_sem] max2_int min2_int max_two min_two max_three min_three max_four min_four   -- for this text's walks alone
set_option linter.unusedVariables false
set_option linter.unusedSimpArgs false

/-! ### alloc_Right: function 9 -/
def alloc_Right.f (a0 : Int) (a1 : Int) : Option (Bool) := if a1 = 1 then (if a0 ≥ 11 then (some (decide (a0 ≤ 60))) else (some false)) else (if a1 = 2 then (if a0 ≥ 17 then (some (decide (a0 ≤ 60))) else (some false)) else (some false))
set_option maxHeartbeats 8000000 in
set_option maxRecDepth 100000 in
theorem alloc_Right.calls (a0 : Int) (a1 : Int) (r : Bool) (w : World) (h : alloc_Right.f a0 a1 = some r) :
  Calls Try.prog 9 #[.int .i64 a0, .int .i64 a1] w fun e w' => e = .returned (.bool r) ∧ Drawn0 w w' := by
 have H : (if a1 = 1 then (if a0 ≥ 11 then (some (decide (a0 ≤ 60))) else (some false)) else (if a1 = 2 then (if a0 ≥ 17 then (some (decide (a0 ≤ 60))) else (some false)) else (some false))) = some r := h
 clear h
 by_cases c3 : a1 = 1
 ·
  rw [if_pos c3] at H
  have c3b0 : (a1 == 1) = true := beq_iff_eq.mpr c3
  have c3b1 : (a1 != 1) = false := bne_eq_false_iff_eq.mpr c3
  clear c3
  by_cases c4 : a0 ≥ 11
  ·
   rw [if_pos c4] at H
   have c4b0 : decide (11 ≤ a0) = true := decide_eq_true c4
   clear c4
   obtain rfl := Option.some.inj H
   go_enter Try.func9, Try.ntmps9
   go_wp2
   go_ret
   exact ⟨by first | rfl | (simp; done) | (simp [*]; done), by repeat (first | exact Drawn0.refl _ | apply Drawn0.step)⟩
  ·
   rw [if_neg c4] at H
   have c4b0 : decide (11 ≤ a0) = false := decide_eq_false c4
   clear c4
   obtain rfl := Option.some.inj H
   go_enter Try.func9, Try.ntmps9
   go_wp2
   go_ret
   exact ⟨by first | rfl | (simp; done) | (simp [*]; done), by repeat (first | exact Drawn0.refl _ | apply Drawn0.step)⟩
 ·
  rw [if_neg c3] at H
  have c3b0 : (a1 == 1) = false := beq_eq_false_iff_ne.mpr c3
  have c3b1 : (a1 != 1) = true := bne_iff_ne.mpr c3
  by_cases c5 : a1 = 2
  ·
   rw [if_pos c5] at H
   have c5b0 : (a1 == 2) = true := beq_iff_eq.mpr c5
   have c5b1 : (a1 != 2) = false := bne_eq_false_iff_eq.mpr c5
   clear c5
   by_cases c6 : a0 ≥ 17
   ·
    rw [if_pos c6] at H
    have c6b0 : decide (17 ≤ a0) = true := decide_eq_true c6
    clear c6
    obtain rfl := Option.some.inj H
    go_enter Try.func9, Try.ntmps9
    go_wp2
    go_ret
    exact ⟨by first | rfl | (simp; done) | (simp [*]; done), by repeat (first | exact Drawn0.refl _ | apply Drawn0.step)⟩
   ·
    rw [if_neg c6] at H
    have c6b0 : decide (17 ≤ a0) = false := decide_eq_false c6
    clear c6
    obtain rfl := Option.some.inj H
    go_enter Try.func9, Try.ntmps9
    go_wp2
    go_ret
    exact ⟨by first | rfl | (simp; done) | (simp [*]; done), by repeat (first | exact Drawn0.refl _ | apply Drawn0.step)⟩
  ·
   rw [if_neg c5] at H
   have c5b0 : (a1 == 2) = false := beq_eq_false_iff_ne.mpr c5
   have c5b1 : (a1 != 2) = true := bne_iff_ne.mpr c5
   obtain rfl := Option.some.inj H
   go_enter Try.func9, Try.ntmps9
   go_wp2
   go_ret
   exact ⟨by first | rfl | (simp; done) | (simp [*]; done), by repeat (first | exact Drawn0.refl _ | apply Drawn0.step)⟩

end Go.Proofs.Ytbaaedpjaanjnaa.Prt

namespace Go.Proofs.Ytbaaedpjaanjnaa.Prt
open Go.RowKit Go.Proofs.YtbaaedpjaanjnaaW.PrintWords Go.Proofs.YtbaaedpjaanjnaaW.PrintLast Go.Proofs.YtbaaedpjaanjnaaW.PrintMore
attribute [local go_sem] max2_int min2_int max_two min_two max_three min_three max_four min_four   -- for this text's walks alone
set_option linter.unusedVariables false
set_option linter.unusedSimpArgs false

/-! ### gain_Most: function 23 -/
def gain_Most.f (a0 : Bool) : Option (Int) := if a0 = true then (some 30) else (some 45)
set_option maxHeartbeats 8000000 in
set_option maxRecDepth 100000 in
theorem gain_Most.calls (a0 : Bool) (r : Int) (w : World) (h : gain_Most.f a0 = some r) :
  Calls Try.prog 23 #[.bool a0] w fun e w' => e = .returned (.int .i64 r) ∧ Drawn0 w w' := by
 have H : (if a0 = true then (some 30) else (some 45)) = some r := h
 clear h
 by_cases c2 : a0 = true
 ·
  subst c2
  have H1 : (some 30) = some r := by rw [if_pos rfl] at H; exact H
  clear H
  have H := H1
  clear H1
  obtain rfl := Option.some.inj H
  go_enter Try.func23, Try.ntmps23
  go_wp2
  go_ret
  exact ⟨by first | rfl | (simp; done) | (simp [*]; done), by repeat (first | exact Drawn0.refl _ | apply Drawn0.step)⟩
 ·
  replace c2 := Bool.eq_false_iff.mpr c2
  subst c2
  have H1 : (some 45) = some r := by rw [if_neg (show ¬ (false = true) by decide)] at H; exact H
  clear H
  have H := H1
  clear H1
  obtain rfl := Option.some.inj H
  go_enter Try.func23, Try.ntmps23
  go_wp2
  go_ret
  exact ⟨by first | rfl | (simp; done) | (simp [*]; done), by repeat (first | exact Drawn0.refl _ | apply Drawn0.step)⟩

end Go.Proofs.Ytbaaedpjaanjnaa.Prt

namespace Go.Proofs.Ytbaaedpjaanjnaa.Prt
open Go.RowKit Go.Proofs.YtbaaedpjaanjnaaW.PrintWords Go.Proofs.YtbaaedpjaanjnaaW.PrintLast Go.Proofs.YtbaaedpjaanjnaaW.PrintMore
attribute [local go_sem] max2_int min2_int max_two min_two max_three min_three max_four min_four   -- for this text's walks alone
set_option linter.unusedVariables false
set_option linter.unusedSimpArgs false

/-! ### alloc_Room: function 11 -/
def alloc_Room.f (a0 : Int) (a1 : Int) : Option (Int) := (alloc_Right.f a0 a1).bind fun t101 => (if t101 = true then ((gain_Most.f false).bind fun t102 => (if a1 = 0 then (none) else (some (wrap64 (Int.tdiv (wrap64 ((wrap64 ((wrap64 (8 * a0)) - 41)) - (wrap64 (t102 * a1)))) a1))))) else (some 0))
set_option maxHeartbeats 8000000 in
set_option maxRecDepth 100000 in
theorem alloc_Room.calls (a0 : Int) (a1 : Int) (r : Int) (w : World) (h : alloc_Room.f a0 a1 = some r) :
  Calls Try.prog 11 #[.int .i64 a0, .int .i64 a1] w fun e w' => e = .returned (.int .i64 r) ∧ Drawn0 w w' := by
 have H : ((alloc_Right.f a0 a1).bind fun t101 => (if t101 = true then ((gain_Most.f false).bind fun t102 => (if a1 = 0 then (none) else (some (wrap64 (Int.tdiv (wrap64 ((wrap64 ((wrap64 (8 * a0)) - 41)) - (wrap64 (t102 * a1)))) a1))))) else (some 0))) = some r := h
 clear h
 replace H := Option.bind_eq_some_iff.mp H
 obtain ⟨t101, A30, H⟩ := H
 replace H : (if t101 = true then ((gain_Most.f false).bind fun t102 => (if a1 = 0 then (none) else (some (wrap64 (Int.tdiv (wrap64 ((wrap64 ((wrap64 (8 * a0)) - 41)) - (wrap64 (t102 * a1)))) a1))))) else (some 0)) = some r := H
 have A3 := zm A30
 clear A30
 by_cases c4 : t101 = true
 ·
  subst c4
  have H1 : ((gain_Most.f false).bind fun t102 => (if a1 = 0 then (none) else (some (wrap64 (Int.tdiv (wrap64 ((wrap64 ((wrap64 (8 * a0)) - 41)) - (wrap64 (t102 * a1)))) a1))))) = some r := by rw [if_pos rfl] at H; exact H
  clear H
  have H := H1
  clear H1
  replace H := Option.bind_eq_some_iff.mp H
  obtain ⟨t102, A50, H⟩ := H
  replace H : (if a1 = 0 then (none) else (some (wrap64 (Int.tdiv (wrap64 ((wrap64 ((wrap64 (8 * a0)) - 41)) - (wrap64 (t102 * a1)))) a1)))) = some r := H
  have A5 := zm A50
  clear A50
  by_cases c6 : a1 = 0
  ·
   rw [if_pos c6] at H
   exact absurd H (by simp)
  ·
   rw [if_neg c6] at H
   have c6b0 : (a1 == 0) = false := beq_eq_false_iff_ne.mpr c6
   have c6b1 : (a1 != 0) = true := bne_iff_ne.mpr c6
   obtain rfl := Option.some.inj H
   go_enter Try.func11, Try.ntmps11
   go_wp2_with (first | ((with_reducible refine gate_callee (f := 9) rfl ?_); refine goesL_ (some 7) rfl rfl Try.func9 (by kernel_rfl) rfl #[.int .i64 a0, .int .i64 a1] rfl (by (try simp only [List.map_toArray, List.map_cons, List.map_nil]); first | done | rfl | (simp only [List.length_drop, List.length_take]; rfl)) ?_; (with_reducible refine (alloc_Right.calls a0 a1 true _ A3.out).mono ?_); rintro e w' ⟨rfl, ⟨nd, rfl⟩⟩; refine ⟨_, rfl, ?_⟩) | ((with_reducible refine gate_callee (f := 23) rfl ?_); refine goesL_ (some 12) rfl rfl Try.func23 (by kernel_rfl) rfl #[.bool false] rfl (by (try simp only [List.map_toArray, List.map_cons, List.map_nil]); first | done | rfl | (simp only [List.length_drop, List.length_take]; rfl)) ?_; (with_reducible refine (gain_Most.calls false t102 _ A5.out).mono ?_); rintro e w' ⟨rfl, ⟨nd, rfl⟩⟩; refine ⟨_, rfl, ?_⟩))
   go_ret
   exact ⟨by first | rfl | (simp; done) | (simp [*]; done), by repeat (first | exact Drawn0.refl _ | apply Drawn0.step)⟩
 ·
  replace c4 := Bool.eq_false_iff.mpr c4
  subst c4
  have H1 : (some 0) = some r := by rw [if_neg (show ¬ (false = true) by decide)] at H; exact H
  clear H
  have H := H1
  clear H1
  obtain rfl := Option.some.inj H
  go_enter Try.func11, Try.ntmps11
  go_wp2_with (first | ((with_reducible refine gate_callee (f := 9) rfl ?_); refine goesL_ (some 7) rfl rfl Try.func9 (by kernel_rfl) rfl #[.int .i64 a0, .int .i64 a1] rfl (by (try simp only [List.map_toArray, List.map_cons, List.map_nil]); first | done | rfl | (simp only [List.length_drop, List.length_take]; rfl)) ?_; (with_reducible refine (alloc_Right.calls a0 a1 false _ A3.out).mono ?_); rintro e w' ⟨rfl, ⟨nd, rfl⟩⟩; refine ⟨_, rfl, ?_⟩))
  go_ret
  exact ⟨by first | rfl | (simp; done) | (simp [*]; done), by repeat (first | exact Drawn0.refl _ | apply Drawn0.step)⟩

end Go.Proofs.Ytbaaedpjaanjnaa.Prt

namespace Go.Proofs.Ytbaaedpjaanjnaa.Prt
open Go.RowKit Go.Proofs.YtbaaedpjaanjnaaW.PrintWords Go.Proofs.YtbaaedpjaanjnaaW.PrintLast Go.Proofs.YtbaaedpjaanjnaaW.PrintMore
attribute [local go_sem] max2_int min2_int max_two min_two max_three min_three max_four min_four   -- for this text's walks alone
set_option linter.unusedVariables false
set_option linter.unusedSimpArgs false

/-! ### band_there: function 36 -/
def band_there.f (a0 : Int) : Option (Bool) := if a0 ≥ 0 then (some (decide (a0 < 5))) else (some false)
set_option maxHeartbeats 8000000 in
set_option maxRecDepth 100000 in
theorem band_there.calls (a0 : Int) (r : Bool) (w : World) (h : band_there.f a0 = some r) :
  Calls Try.prog 36 #[.int .i64 a0] w fun e w' => e = .returned (.bool r) ∧ Drawn0 w w' := by
 have H : (if a0 ≥ 0 then (some (decide (a0 < 5))) else (some false)) = some r := h
 clear h
 by_cases c2 : a0 ≥ 0
 ·
  rw [if_pos c2] at H
  have c2b0 : decide (0 ≤ a0) = true := decide_eq_true c2
  clear c2
  obtain rfl := Option.some.inj H
  go_enter Try.func36, Try.ntmps36
  go_wp2
  go_ret
  exact ⟨by first | rfl | (simp; done) | (simp [*]; done), by repeat (first | exact Drawn0.refl _ | apply Drawn0.step)⟩
 ·
  rw [if_neg c2] at H
  have c2b0 : decide (0 ≤ a0) = false := decide_eq_false c2
  clear c2
  obtain rfl := Option.some.inj H
  go_enter Try.func36, Try.ntmps36
  go_wp2
  go_ret
  exact ⟨by first | rfl | (simp; done) | (simp [*]; done), by repeat (first | exact Drawn0.refl _ | apply Drawn0.step)⟩

end Go.Proofs.Ytbaaedpjaanjnaa.Prt

namespace Go.Proofs.Ytbaaedpjaanjnaa.Prt
open Go.RowKit Go.Proofs.YtbaaedpjaanjnaaW.PrintWords Go.Proofs.YtbaaedpjaanjnaaW.PrintLast Go.Proofs.YtbaaedpjaanjnaaW.PrintMore
attribute [local go_sem] max2_int min2_int max_two min_two max_three min_three max_four min_four   -- for this text's walks alone
set_option linter.unusedVariables false
set_option linter.unusedSimpArgs false

/-! ### band_From: function 37 -/
def band_From.f (a0 : Int) : Option (Int) := (band_there.f a0).bind fun t105 => (if t105 = true then (if a0 = 0 then (some 0) else (if 0 ≤ (wrap64 (a0 - 1)) then (some (shl .i64 1 (wrap64 (a0 - 1)))) else (none))) else (some 0))
set_option maxHeartbeats 8000000 in
set_option maxRecDepth 100000 in
theorem band_From.calls (a0 : Int) (r : Int) (w : World) (h : band_From.f a0 = some r) :
  Calls Try.prog 37 #[.int .i64 a0] w fun e w' => e = .returned (.int .i64 r) ∧ Drawn0 w w' := by
 have H : ((band_there.f a0).bind fun t105 => (if t105 = true then (if a0 = 0 then (some 0) else (if 0 ≤ (wrap64 (a0 - 1)) then (some (shl .i64 1 (wrap64 (a0 - 1)))) else (none))) else (some 0))) = some r := h
 clear h
 replace H := Option.bind_eq_some_iff.mp H
 obtain ⟨t105, A20, H⟩ := H
 replace H : (if t105 = true then (if a0 = 0 then (some 0) else (if 0 ≤ (wrap64 (a0 - 1)) then (some (shl .i64 1 (wrap64 (a0 - 1)))) else (none))) else (some 0)) = some r := H
 have A2 := zm A20
 clear A20
 by_cases c3 : t105 = true
 ·
  subst c3
  have H1 : (if a0 = 0 then (some 0) else (if 0 ≤ (wrap64 (a0 - 1)) then (some (shl .i64 1 (wrap64 (a0 - 1)))) else (none))) = some r := by rw [if_pos rfl] at H; exact H
  clear H
  have H := H1
  clear H1
  by_cases c4 : a0 = 0
  ·
   rw [if_pos c4] at H
   have c4b0 : (a0 == 0) = true := beq_iff_eq.mpr c4
   have c4b1 : (a0 != 0) = false := bne_eq_false_iff_eq.mpr c4
   clear c4
   obtain rfl := Option.some.inj H
   go_enter Try.func37, Try.ntmps37
   go_wp2_with (first | ((with_reducible refine gate_callee (f := 36) rfl ?_); refine goesL_ (some 4) rfl rfl Try.func36 (by kernel_rfl) rfl #[.int .i64 a0] rfl (by (try simp only [List.map_toArray, List.map_cons, List.map_nil]); first | done | rfl | (simp only [List.length_drop, List.length_take]; rfl)) ?_; (with_reducible refine (band_there.calls a0 true _ A2.out).mono ?_); rintro e w' ⟨rfl, ⟨nd, rfl⟩⟩; refine ⟨_, rfl, ?_⟩))
   go_ret
   exact ⟨by first | rfl | (simp; done) | (simp [*]; done), by repeat (first | exact Drawn0.refl _ | apply Drawn0.step)⟩
  ·
   rw [if_neg c4] at H
   have c4b0 : (a0 == 0) = false := beq_eq_false_iff_ne.mpr c4
   have c4b1 : (a0 != 0) = true := bne_iff_ne.mpr c4
   obtain ⟨ji5, hji5⟩ : ∃ j_ : Int, (wrap64 (a0 - 1)) = j_ := ⟨_, rfl⟩
   replace H : (if 0 ≤ (ji5) then (some (shl .i64 1 (ji5))) else (none)) = some r := by first | (rw [hji5] at H; exact H) | (simp only [hji5] at H ⊢; exact H)
   (try rw [hji5] at A2)
   have hji5w : (IntKind.i64.wrap (a0 - 1)) = ji5 := (i64_w _).trans hji5
   by_cases c6 : 0 ≤ (ji5)
   ·
    rw [if_pos c6] at H
    have c6b0 := eq_true c6
    have c6b1 : decide (0 ≤ (ji5)) = true := decide_eq_true c6
    clear c6
    obtain ⟨ji7, hji7⟩ : ∃ j_ : Int, (shl .i64 1 (ji5)) = j_ := ⟨_, rfl⟩
    replace H : (some ji7) = some r := by first | (rw [hji7] at H; exact H) | (simp only [hji7] at H ⊢; exact H)
    (try rw [hji7] at A2)
    have hji7_ : (IntKind.i64.wrap (1 * 2 ^ min (ji5).toNat 64)) = ji7 := hji7
    have hji7z : (ji5) ≤ 64 → (IntKind.i64.wrap (1 * 2 ^ (ji5).toNat)) = ji7 := shl_small hji7
    have hji7u : (IntKind.i64.wrap (2 ^ min (ji5).toNat 64)) = ji7 := by have h_ := hji7_; rw [Int.one_mul] at h_; exact h_
    have hji7v : (ji5) ≤ 64 → (IntKind.i64.wrap (2 ^ (ji5).toNat)) = ji7 := fun hle_ => by have h_ := hji7z hle_; rw [Int.one_mul] at h_; exact h_
    have hji7y : (wrap64 (1 * 2 ^ min (ji5).toNat 64)) = ji7 := (i64_w _).symm.trans hji7_
    have hji7x : (ji5) ≤ 64 → (wrap64 (1 * 2 ^ (ji5).toNat)) = ji7 := fun h_ => (i64_w _).symm.trans (hji7z h_)
    obtain rfl := Option.some.inj H
    go_enter Try.func37, Try.ntmps37
    go_wp2_with (first | ((with_reducible refine gate_callee (f := 36) rfl ?_); refine goesL_ (some 4) rfl rfl Try.func36 (by kernel_rfl) rfl #[.int .i64 a0] rfl (by (try simp only [List.map_toArray, List.map_cons, List.map_nil]); first | done | rfl | (simp only [List.length_drop, List.length_take]; rfl)) ?_; (with_reducible refine (band_there.calls a0 true _ A2.out).mono ?_); rintro e w' ⟨rfl, ⟨nd, rfl⟩⟩; refine ⟨_, rfl, ?_⟩))
    go_ret
    exact ⟨by first | rfl | (simp; done) | (simp only [← hji5, ← hji7] <;> (first | rfl | simp)) | (simp [*]; done), by repeat (first | exact Drawn0.refl _ | apply Drawn0.step)⟩
   ·
    rw [if_neg c6] at H
    exact absurd H (by simp)
 ·
  replace c3 := Bool.eq_false_iff.mpr c3
  subst c3
  have H1 : (some 0) = some r := by rw [if_neg (show ¬ (false = true) by decide)] at H; exact H
  clear H
  have H := H1
  clear H1
  obtain rfl := Option.some.inj H
  go_enter Try.func37, Try.ntmps37
  go_wp2_with (first | ((with_reducible refine gate_callee (f := 36) rfl ?_); refine goesL_ (some 4) rfl rfl Try.func36 (by kernel_rfl) rfl #[.int .i64 a0] rfl (by (try simp only [List.map_toArray, List.map_cons, List.map_nil]); first | done | rfl | (simp only [List.length_drop, List.length_take]; rfl)) ?_; (with_reducible refine (band_there.calls a0 false _ A2.out).mono ?_); rintro e w' ⟨rfl, ⟨nd, rfl⟩⟩; refine ⟨_, rfl, ?_⟩))
  go_ret
  exact ⟨by first | rfl | (simp; done) | (simp [*]; done), by repeat (first | exact Drawn0.refl _ | apply Drawn0.step)⟩

end Go.Proofs.Ytbaaedpjaanjnaa.Prt

namespace Go.Proofs.Ytbaaedpjaanjnaa.Prt
open Go.RowKit Go.Proofs.YtbaaedpjaanjnaaW.PrintWords Go.Proofs.YtbaaedpjaanjnaaW.PrintLast Go.Proofs.YtbaaedpjaanjnaaW.PrintMore
attribute [local go_sem] max2_int min2_int max_two min_two max_three min_three max_four min_four   -- for this text's walks alone
set_option linter.unusedVariables false
set_option linter.unusedSimpArgs false

/-! ### band_Width: function 31 -/
def band_Width.f (a0 : Int) : Option (Int) := (band_there.f a0).bind fun t106 => (if t106 = true then ((band_From.f a0).bind fun t107 => (some (mx 1 t107))) else (some 0))
set_option maxHeartbeats 8000000 in
set_option maxRecDepth 100000 in
theorem band_Width.calls (a0 : Int) (r : Int) (w : World) (h : band_Width.f a0 = some r) :
  Calls Try.prog 31 #[.int .i64 a0] w fun e w' => e = .returned (.int .i64 r) ∧ Below w.heap.size w w' := by
 have HB := zm (Below.refl w.heap.size w)
 have H : ((band_there.f a0).bind fun t106 => (if t106 = true then ((band_From.f a0).bind fun t107 => (some (mx 1 t107))) else (some 0))) = some r := h
 clear h
 replace H := Option.bind_eq_some_iff.mp H
 obtain ⟨t106, A20, H⟩ := H
 replace H : (if t106 = true then ((band_From.f a0).bind fun t107 => (some (mx 1 t107))) else (some 0)) = some r := H
 have A2 := zm A20
 clear A20
 by_cases c3 : t106 = true
 ·
  subst c3
  have H1 : ((band_From.f a0).bind fun t107 => (some (mx 1 t107))) = some r := by rw [if_pos rfl] at H; exact H
  clear H
  have H := H1
  clear H1
  replace H := Option.bind_eq_some_iff.mp H
  obtain ⟨t107, A40, H⟩ := H
  replace H : (some (mx 1 t107)) = some r := H
  have A4 := zm A40
  clear A40
  obtain ⟨ji5, hji5⟩ : ∃ j_ : Int, (mx 1 t107) = j_ := ⟨_, rfl⟩
  replace H : (some ji5) = some r := by first | (rw [hji5] at H; exact H) | (simp only [hji5] at H ⊢; exact H)
  (try rw [hji5] at A2)
  (try rw [hji5] at A4)
  (try (have hji5l : 1 ≤ ji5 := by (rw [← hji5]; unfold mx; (repeat' split) <;> omega)))
  (try (have hji5m : 0 ≤ ji5 := by omega))
  have hji5_ : (if 1 < t107 then t107 else 1) = ji5 := hji5
  obtain rfl := Option.some.inj H
  go_enter Try.func31, Try.ntmps31
  go_wp2_with (first | ((with_reducible refine gate_callee (f := 36) rfl ?_); refine goesL_ (some 4) rfl rfl Try.func36 (by kernel_rfl) rfl #[.int .i64 a0] rfl (by (try simp only [List.map_toArray, List.map_cons, List.map_nil]); first | done | rfl | (simp only [List.length_drop, List.length_take]; rfl)) ?_; (with_reducible refine (band_there.calls a0 true _ A2.out).mono ?_); rintro e w' ⟨rfl, ⟨nd, rfl⟩⟩; refine ⟨_, rfl, ?_⟩) | ((with_reducible refine gate_callee (f := 37) rfl ?_); refine goesL_ (some 7) rfl rfl Try.func37 (by kernel_rfl) rfl #[.int .i64 a0] rfl (by (try simp only [List.map_toArray, List.map_cons, List.map_nil]); first | done | rfl | (simp only [List.length_drop, List.length_take]; rfl)) ?_; (with_reducible refine (band_From.calls a0 t107 _ A4.out).mono ?_); rintro e w' ⟨rfl, ⟨nd, rfl⟩⟩; refine ⟨_, rfl, ?_⟩))
  go_ret
  exact ⟨by first | rfl | (simp [errW_none, errW_some] <;> rfl) | (simp only [← hji5]; first | rfl | (simp [errW_none, errW_some] <;> rfl)) | (simp [*, errW_none, errW_some] <;> rfl), by repeat (first | (with_reducible first | exact HB.out | apply ze | apply zd | apply zf) | exact HB.out)⟩
 ·
  replace c3 := Bool.eq_false_iff.mpr c3
  subst c3
  have H1 : (some 0) = some r := by rw [if_neg (show ¬ (false = true) by decide)] at H; exact H
  clear H
  have H := H1
  clear H1
  obtain rfl := Option.some.inj H
  go_enter Try.func31, Try.ntmps31
  go_wp2_with (first | ((with_reducible refine gate_callee (f := 36) rfl ?_); refine goesL_ (some 4) rfl rfl Try.func36 (by kernel_rfl) rfl #[.int .i64 a0] rfl (by (try simp only [List.map_toArray, List.map_cons, List.map_nil]); first | done | rfl | (simp only [List.length_drop, List.length_take]; rfl)) ?_; (with_reducible refine (band_there.calls a0 false _ A2.out).mono ?_); rintro e w' ⟨rfl, ⟨nd, rfl⟩⟩; refine ⟨_, rfl, ?_⟩))
  go_ret
  exact ⟨by first | rfl | (simp [errW_none, errW_some] <;> rfl) | (simp [*, errW_none, errW_some] <;> rfl), by repeat (first | (with_reducible first | exact HB.out | apply ze | apply zd | apply zf) | exact HB.out)⟩

end Go.Proofs.Ytbaaedpjaanjnaa.Prt

namespace Go.Proofs.Ytbaaedpjaanjnaa.Prt
open Go.RowKit Go.Proofs.YtbaaedpjaanjnaaW.PrintWords Go.Proofs.YtbaaedpjaanjnaaW.PrintLast Go.Proofs.YtbaaedpjaanjnaaW.PrintMore
attribute [local go_sem] max2_int min2_int max_two min_two max_three min_three max_four min_four   -- for this text's walks alone
set_option linter.unusedVariables false
set_option linter.unusedSimpArgs false

/-! ### alloc_most: function 25 -/
def alloc_most.f (a0 : Int) : Option (Int) := (band_Width.f a0).bind fun t108 => (if t108 = 1 then (some 1) else (some 12))
set_option maxHeartbeats 8000000 in
set_option maxRecDepth 100000 in
theorem alloc_most.calls (a0 : Int) (r : Int) (w : World) (h : alloc_most.f a0 = some r) :
  Calls Try.prog 25 #[.int .i64 a0] w fun e w' => e = .returned (.int .i64 r) ∧ Below w.heap.size w w' := by
 have HB := zm (Below.refl w.heap.size w)
 have H : ((band_Width.f a0).bind fun t108 => (if t108 = 1 then (some 1) else (some 12))) = some r := h
 clear h
 replace H := Option.bind_eq_some_iff.mp H
 obtain ⟨t108, A20, H⟩ := H
 replace H : (if t108 = 1 then (some 1) else (some 12)) = some r := H
 have A2 := zm A20
 clear A20
 by_cases c3 : t108 = 1
 ·
  rw [if_pos c3] at H
  have c3b0 : (t108 == 1) = true := beq_iff_eq.mpr c3
  have c3b1 : (t108 != 1) = false := bne_eq_false_iff_eq.mpr c3
  clear c3
  obtain rfl := Option.some.inj H
  go_enter Try.func25, Try.ntmps25
  go_wp2_with (first | ((with_reducible refine gate_callee (f := 31) rfl ?_); refine goesL_ (some 4) rfl rfl Try.func31 (by kernel_rfl) rfl #[.int .i64 a0] rfl (by (try simp only [List.map_toArray, List.map_cons, List.map_nil]); first | done | rfl | (simp only [List.length_drop, List.length_take]; rfl)) ?_; (with_reducible refine (band_Width.calls a0 t108 _ A2.out).mono ?_); rintro e w4 ⟨rfl, hb⟩; refine ⟨_, rfl, ?_⟩; have n0_ := zm (zJ (by repeat (first | (with_reducible first | exact HB.out | apply ze | apply zd | apply zf) | exact HB.out)) hb); clear HB; have HB := n0_; clear n0_; (try clear hb); (try clear hb2); (try clear hk); (try clear hi)))
  go_ret
  exact ⟨by first | rfl | (simp [errW_none, errW_some] <;> rfl) | (simp [*, errW_none, errW_some] <;> rfl), by repeat (first | (with_reducible first | exact HB.out | apply ze | apply zd | apply zf) | exact HB.out)⟩
 ·
  rw [if_neg c3] at H
  have c3b0 : (t108 == 1) = false := beq_eq_false_iff_ne.mpr c3
  have c3b1 : (t108 != 1) = true := bne_iff_ne.mpr c3
  obtain rfl := Option.some.inj H
  go_enter Try.func25, Try.ntmps25
  go_wp2_with (first | ((with_reducible refine gate_callee (f := 31) rfl ?_); refine goesL_ (some 4) rfl rfl Try.func31 (by kernel_rfl) rfl #[.int .i64 a0] rfl (by (try simp only [List.map_toArray, List.map_cons, List.map_nil]); first | done | rfl | (simp only [List.length_drop, List.length_take]; rfl)) ?_; (with_reducible refine (band_Width.calls a0 t108 _ A2.out).mono ?_); rintro e w5 ⟨rfl, hb⟩; refine ⟨_, rfl, ?_⟩; have n0_ := zm (zJ (by repeat (first | (with_reducible first | exact HB.out | apply ze | apply zd | apply zf) | exact HB.out)) hb); clear HB; have HB := n0_; clear n0_; (try clear hb); (try clear hb2); (try clear hk); (try clear hi)))
  go_ret
  exact ⟨by first | rfl | (simp [errW_none, errW_some] <;> rfl) | (simp [*, errW_none, errW_some] <;> rfl), by repeat (first | (with_reducible first | exact HB.out | apply ze | apply zd | apply zf) | exact HB.out)⟩

end Go.Proofs.Ytbaaedpjaanjnaa.Prt

namespace Go.Proofs.Ytbaaedpjaanjnaa.Prt
open Go.RowKit Go.Proofs.YtbaaedpjaanjnaaW.PrintWords Go.Proofs.YtbaaedpjaanjnaaW.PrintLast Go.Proofs.YtbaaedpjaanjnaaW.PrintMore
attribute [local go_sem] max2_int min2_int max_two min_two max_three min_three max_four min_four   -- for this text's walks alone
set_option linter.unusedVariables false
set_option linter.unusedSimpArgs false

/-! ### comb_fair: function 42 -/
def comb_fair.f (a0 : Int) (a1 : Int) : Option (Bool) := if a0 ≥ 1 then (if a0 ≤ 16 then (if a1 ≥ 0 then (some (decide (a1 ≤ 12))) else (some false)) else (some false)) else (some false)
set_option maxHeartbeats 8000000 in
set_option maxRecDepth 100000 in
theorem comb_fair.calls (a0 : Int) (a1 : Int) (r : Bool) (w : World) (h : comb_fair.f a0 a1 = some r) :
  Calls Try.prog 42 #[.int .i64 a0, .int .i64 a1] w fun e w' => e = .returned (.bool r) ∧ Drawn0 w w' := by
 have H : (if a0 ≥ 1 then (if a0 ≤ 16 then (if a1 ≥ 0 then (some (decide (a1 ≤ 12))) else (some false)) else (some false)) else (some false)) = some r := h
 clear h
 by_cases c3 : a0 ≥ 1
 ·
  rw [if_pos c3] at H
  have c3b0 : decide (1 ≤ a0) = true := decide_eq_true c3
  clear c3
  by_cases c4 : a0 ≤ 16
  ·
   rw [if_pos c4] at H
   have c4b0 : decide (a0 ≤ 16) = true := decide_eq_true c4
   clear c4
   by_cases c5 : a1 ≥ 0
   ·
    rw [if_pos c5] at H
    have c5b0 : decide (0 ≤ a1) = true := decide_eq_true c5
    clear c5
    obtain rfl := Option.some.inj H
    go_enter Try.func42, Try.ntmps42
    go_wp2
    go_ret
    exact ⟨by first | rfl | (simp; done) | (simp [*]; done), by repeat (first | exact Drawn0.refl _ | apply Drawn0.step)⟩
   ·
    rw [if_neg c5] at H
    have c5b0 : decide (0 ≤ a1) = false := decide_eq_false c5
    clear c5
    obtain rfl := Option.some.inj H
    go_enter Try.func42, Try.ntmps42
    go_wp2
    go_ret
    exact ⟨by first | rfl | (simp; done) | (simp [*]; done), by repeat (first | exact Drawn0.refl _ | apply Drawn0.step)⟩
  ·
   rw [if_neg c4] at H
   have c4b0 : decide (a0 ≤ 16) = false := decide_eq_false c4
   clear c4
   obtain rfl := Option.some.inj H
   go_enter Try.func42, Try.ntmps42
   go_wp2
   go_ret
   exact ⟨by first | rfl | (simp; done) | (simp [*]; done), by repeat (first | exact Drawn0.refl _ | apply Drawn0.step)⟩
 ·
  rw [if_neg c3] at H
  have c3b0 : decide (1 ≤ a0) = false := decide_eq_false c3
  clear c3
  obtain rfl := Option.some.inj H
  go_enter Try.func42, Try.ntmps42
  go_wp2
  go_ret
  exact ⟨by first | rfl | (simp; done) | (simp [*]; done), by repeat (first | exact Drawn0.refl _ | apply Drawn0.step)⟩

end Go.Proofs.Ytbaaedpjaanjnaa.Prt

namespace Go.Proofs.Ytbaaedpjaanjnaa.Prt
open Go Go.RowKit Go.Proofs.YtbaaedpjaanjnaaW.PrintWords Go.Proofs.YtbaaedpjaanjnaaW.PrintLast Go.Proofs.YtbaaedpjaanjnaaW.PrintMore
set_option linter.unusedVariables false
set_option linter.unusedSimpArgs false

/-! ### comb_table: function 43 -/
theorem comb_table.zeroes : ∃ Z : Array Value, (∀ W, (zeroValue 61).run Try.prog W = .ok (.agg Z) W) ∧ Z.toList = encs (Value.int .u64) (List.replicate 221 0) := ⟨_, fun _ => rfl, by rfl⟩
/-- A block of numbers, as its cells. -/
def ABl (xs : List Int) : Array Value := (encs (Value.int .u64) xs).toArray
theorem ABl_get {xs : List Int} {i : Nat} (h : i < xs.length) : (ABl xs)[i]? = some (.int .u64 (xs.getD i 0)) := by
 unfold ABl
 rw [List.getElem?_toArray]
 exact encs_get xs i h
theorem ABl_set (xs : List Int) (i : Nat) (v : Int) : (ABl xs).setIfInBounds i (.int .u64 v) = ABl (xs.set i v) := by
 unfold ABl encs
 rw [List.setIfInBounds_toArray, List.map_set]
theorem ABl_size (xs : List Int) : (ABl xs).size = xs.length := by
 unfold ABl
 rw [List.size_toArray, encs_length]
theorem ABl_one (xs : List Int) : (ABl xs).all (·.oneCell') = true := by
 rw [Array.all_eq_true_iff_forall_mem]
 intro v hv
 unfold ABl encs at hv
 rw [List.mem_toArray, List.mem_map] at hv
 obtain ⟨n, _, rfl⟩ := hv
 rfl
section
variable {P : Program}
/-- A whole array is stored, cell by cell. -/
theorem storeCells_row (w : World) (g : Nat) (t ty : TypeId) (old cells : Array Value) (hg : w.heap[g]? = some (.cells old t (0, 0))) (hi : (P.info? ty).map (·.size) = some cells.size) (ho : old.size = cells.size) (h1 : cells.all (·.oneCell') = true) :
  (storeCells ⟨g, 0, none⟩ cells.toList 0).run P w = .ok () (w.setRow g cells) := by
 have h := run_storeVar_row (P := P) w g t ty old cells hg hi ho h1
 cases hq : P.info? ty with
 | none => simp [hq] at hi
 | some i =>
  have hs : cells.size = i.size := by
   simp [hq] at hi
   omega
  simpa [storeVar, sizeOf, typeInfo, hq, Value.cells, hs] using h
end
theorem below_row {w0 w : World} {B g : Nat} (h : Below B w0 w) (hg : B ≤ g) (cs : Array Value) : Below B w0 (w.setRow g cs) := ⟨h.os, h.tape, h.output, by rw [setRow_size]; exact h.size, fun k hk => (setRow_other _ _ _ _ (by omega)).trans (h.block k hk)⟩
namespace comb_table
def new (xs : List Int) (n k : Nat) : Int := IntKind.u64.wrap (IntKind.u64.wrap (xs.getD ((n-1)*13+k) 0 + xs.getD (n*13+(k-1)) 0) + xs.getD ((n-1)*13+(k-1)) 0)
/-- Row n made up to place k. -/
def U (xs : List Int) (n : Nat) : Nat → List Int
 | 0 => xs.set (n*13) 1
 | k+1 => (U xs n k).set (n*13+(k+1)) (new (U xs n k) n (k+1))
/-- The rows up to n made. -/
def T : Nat → List Int
 | 0 => (List.replicate 221 0).set 0 1
 | n+1 => U (T n) (n+1) 12
theorem U_len (xs : List Int) (n : Nat) : ∀ k, (U xs n k).length = xs.length
 | 0 => by rw [U, List.length_set]
 | k+1 => by rw [U, List.length_set, U_len xs n k]
theorem T_len : ∀ n, (T n).length = 221
 | 0 => by rw [T, List.length_set, List.length_replicate]
 | n+1 => by rw [T, U_len, T_len n]
theorem size16 : (Try.prog.info? 61).map (·.size) = some (ABl (T 16)).size := by
 rw [ABl_size, T_len]
 kernel_rfl
def T10 : Bool × List (List Nat × List Nat) := (true, [([], []), ([], []), ([], []), ([2], [2]), ([], []), ([3], [3]), ([5, 4], [4, 5]), ([6], [6]), ([], []), ([], []), ([9], [9]), ([8], [8]), ([11, 10], [10, 11]), ([12], [12]), ([7, 13], [7, 13]), ([], []), ([15], [15]), ([], []), ([17], [17]), ([16], [16]), ([19, 18], [18, 19]), ([20], [20]), ([14, 21], [14, 21]), ([0], [0]), ([23, 1, 0, 1, 2, 3, 4, 5, 6, 7, 8, 9, 10, 11, 12, 13, 14, 15, 16, 17, 18, 19, 20, 21, 22], [1, 23]), ([24, 22, 0, 1, 2, 3, 4, 5, 6, 7, 8, 9, 10, 11, 12, 13, 14, 15, 16, 17, 18, 19, 20, 21, 22], [22, 24])])
def B10 : List Nat := [0, 0, 0, 4, 0, 12, 60, 124, 0, 0, 512, 256, 3840, 7936, 16380, 0, 32768, 0, 131072, 98304, 1015808, 2064384, 4194300, 1, 16777215, 33554431]
theorem tab10 : rtab .any (opsOf Try.f43 10) = T10 := by kernel_rfl
theorem bits10 : waitsOk T10.2 B10 = true := by kernel_rfl
end comb_table
set_option maxHeartbeats 8000000 in
set_option maxRecDepth 100000 in
theorem comb_table.made (w : World) : Calls Try.prog 43 #[] w fun e w' => e = .returned (.agg (ABl (comb_table.T 16))) ∧ Below w.heap.size w w' := by
 obtain ⟨Z, hz, hZ⟩ := comb_table.zeroes
 have hZ' : Aside0 (Z = ABl (List.replicate 221 0)) := ⟨by
  unfold ABl
  rw [← hZ]⟩
 clear hZ
 have hb2 : ((w.alloc (.cells Z 61)).alloc (.cells Z 61)).heap[w.heap.size + 1]? = some (.cells Z 61 (0, 0)) := by
  have := blk_new (w.alloc (.cells Z 61)) (.cells Z 61)
  simpa using this
 have hc1 : ((w.alloc (.cells Z 61)).alloc (.cells Z 61)).cell? ⟨w.heap.size + 1, 0, none⟩ = some (.int .u64 0) := by
  rw [zs hb2 0, hZ'.out, ABl_get (by rw [List.length_replicate]; decide)]
  rfl
 have hf1 : ((w.alloc (.cells Z 61)).alloc (.cells Z 61)).frozen? ⟨w.heap.size + 1, 0, none⟩ = false := zx hb2 0
 have hb1 : (((w.alloc (.cells Z 61)).alloc (.cells (Z.setIfInBounds 0 (.int .u64 1)) 61))).heap[w.heap.size + 1]? = some (.cells (ABl (comb_table.T 0)) 61 (0, 0)) := by
  have h0 : Z.setIfInBounds 0 (.int .u64 1) = ABl (comb_table.T 0) := by
   rw [hZ'.out, ABl_set]
   rfl
  have e1 : (w.alloc (.cells Z 61)).heap.size = w.heap.size + 1 := by simp
  have h1 := blk_new (w.alloc (.cells Z 61)) (.cells (ABl (comb_table.T 0)) 61)
  rw [e1] at h1
  rw [h0]
  exact h1
 have hb0 : (((w.alloc (.cells Z 61)).alloc (.cells (Z.setIfInBounds 0 (.int .u64 1)) 61))).heap[w.heap.size]? = some (.cells Z 61 (0, 0)) := zi (blk_new w _) _
 have HB : Aside0 (Below w.heap.size w ((w.alloc (.cells Z 61)).alloc (.cells (Z.setIfInBounds 0 (.int .u64 1)) 61))) := ⟨ze (ze (Below.refl _ _) _) _⟩
 clear hb2
 go_enter Try.func43, Try.ntmps43
 go_wp2
 clear hc1 hf1
 generalize ((w.alloc (.cells Z 61)).alloc (.cells (Z.setIfInBounds 0 (.int .u64 1)) 61)) = W1 at hb1 hb0 HB ⊢
 have HC := zm hb1
 have HZ0 := zm hb0
 clear hb1 hb0
 go_loopg [2] 16 (fun kq v2 w' => ∃ (n : Nat) (x : Int), v2 = .int .i64 x ∧ Aside0 (x = ((n + 1 : Nat) : Int)) ∧ Aside0 (n + kq = 16) ∧ Aside0 (w'.heap[w.heap.size + 1]? = some (.cells (ABl (comb_table.T n)) 61 (0, 0))) ∧ Aside0 (w'.heap[w.heap.size]? = some (.cells Z 61 (0, 0))) ∧ Aside0 (Below w.heap.size w w'))
 case atStart => exact ⟨0, 1, rfl, ⟨rfl⟩, ⟨rfl⟩, HC, HZ0, HB⟩
 case round =>
  clear HC HZ0 HB
  obtain ⟨n, x, rfl, HX, HN, HC, HZ0, HB⟩ := hrel
  by_cases c9 : x ≤ 16
  ·
   have c9b0 : decide (x ≤ 16) = true := decide_eq_true c9
   have hx0 : (0 ≤ x) = True := eq_true (by have := HX.out; omega)
   have hx1 : (x < 17) = True := eq_true (by omega)
   have hxn : x.toNat = n + 1 := by have := HX.out; omega
   obtain ⟨n', rfl⟩ : ∃ q, gk = q + 1 := ⟨gk - 1, by have := HN.out; have := HX.out; omega⟩
   have hn15 : n < 16 := by have := HX.out; omega
   have hcl : wr.cell? ⟨w.heap.size + 1, x.toNat * 13, none⟩ = some (.int .u64 ((comb_table.T n).getD (x.toNat * 13) 0)) := by
    rw [zs HC.out, ABl_get (by rw [comb_table.T_len]; omega)]
   have hfr : wr.frozen? ⟨w.heap.size + 1, x.toNat * 13, none⟩ = false := zx HC.out _
   have HXN := zm hxn
   have HN15 := zm hn15
   clear c9 hxn hn15
   go_wp2
   have n1_ : Aside0 ((wr.setCell ⟨w.heap.size + 1, x.toNat * 13, none⟩ (.int .u64 1)).heap[w.heap.size + 1]? = some (.cells (ABl (comb_table.U (comb_table.T n) (n + 1) 0)) 61 (0, 0))) := ⟨by
    have h1 := blk_set HC.out (x.toNat * 13) (.int .u64 1)
    rw [ABl_set, HXN.out] at h1
    rw [HXN.out]
    exact h1⟩
   have n2_ : Aside0 ((wr.setCell ⟨w.heap.size + 1, x.toNat * 13, none⟩ (.int .u64 1)).heap[w.heap.size]? = some (.cells Z 61 (0, 0))) := ⟨zv HZ0.out (by simp) _⟩
   have n3_ : Aside0 (Below w.heap.size w (wr.setCell ⟨w.heap.size + 1, x.toNat * 13, none⟩ (.int .u64 1))) := ⟨zk HB.out (by omega)⟩
   clear HC HZ0 HB hcl hfr
   generalize (wr.setCell ⟨w.heap.size + 1, x.toNat * 13, none⟩ (.int .u64 1)) = W2 at n1_ n2_ n3_ ⊢
   go_loopg [3] 12 (fun kq v3 w' => ∃ (j : Nat) (y : Int), v3 = .int .i64 y ∧ Aside0 (y = ((j + 1 : Nat) : Int)) ∧ Aside0 (j + kq = 12) ∧ Aside0 (w'.heap[w.heap.size + 1]? = some (.cells (ABl (comb_table.U (comb_table.T n) (n + 1) j)) 61 (0, 0))) ∧ Aside0 (w'.heap[w.heap.size]? = some (.cells Z 61 (0, 0))) ∧ Aside0 (Below w.heap.size w w'))
   case atStart => exact ⟨0, 1, rfl, ⟨rfl⟩, ⟨rfl⟩, n1_, n2_, n3_⟩
   case round =>
    clear n1_ n2_ n3_
    obtain ⟨j, y, rfl, HY, HJ, HC, HZ0, HB⟩ := hrel
    by_cases c16 : y ≤ 12
    ·
     have c16b0 : decide (y ≤ 12) = true := decide_eq_true c16
     have hy0 : (0 ≤ y) = True := eq_true (by have := HY.out; omega)
     have hy1 : (y < 13) = True := eq_true (by omega)
     have hyn : y.toNat = j + 1 := by have := HY.out; omega
     have hj11 : j < 12 := by have := HY.out; omega
     obtain ⟨j', rfl⟩ : ∃ q, gk = q + 1 := ⟨gk - 1, by have := HJ.out; omega⟩
     obtain ⟨xm, hxm⟩ : ∃ j_ : Int, wrap64 (x - 1) = j_ := ⟨_, rfl⟩
     have hxmw : (IntKind.i64.wrap (x - 1)) = xm := (i64_w _).trans hxm
     obtain ⟨ym, hym⟩ : ∃ j_ : Int, wrap64 (y - 1) = j_ := ⟨_, rfl⟩
     have hymw : (IntKind.i64.wrap (y - 1)) = ym := (i64_w _).trans hym
     have hxe : xm = (n : Int) := by rw [← hxm]; have := HX.out; have := HN15.out; unfold wrap64; omega
     have hye : ym = (j : Int) := by rw [← hym]; have := HY.out; unfold wrap64; omega
     have hxm0 : (0 ≤ xm) = True := eq_true (by omega)
     have hxm1 : (xm < 17) = True := eq_true (by have := HN15.out; omega)
     have hym0 : (0 ≤ ym) = True := eq_true (by omega)
     have hym1 : (ym < 13) = True := eq_true (by omega)
     have hxmn : xm.toNat = n := by omega
     have hymn : ym.toNat = j := by omega
     have HJ11 := zm hj11
     have HYN := zm hyn
     have HXM := zm hxmn
     have HYM := zm hymn
     obtain ⟨X, hXd⟩ : ∃ X, X = comb_table.U (comb_table.T n) (n + 1) j := ⟨_, rfl⟩
     have hXl : X.length = 221 := by rw [hXd, comb_table.U_len, comb_table.T_len]
     rw [← hXd] at HC
     have HXD := zm hXd
     have HXL := zm hXl
     clear hXd hXl c16 hyn hj11 hxmn hymn hxe hye hxm hym
     try go_wp2
     have n1_ := zm (zj HC.out)
     have n2_ := zm (zj HZ0.out)
     have n3_ := zm (zf HB.out)
     clear HC HZ0 HB
     have HC := n1_
     have HZ0 := n2_
     have HB := n3_
     clear n1_ n2_ n3_
     obtain ⟨va, hva⟩ : ∃ v_, v_ = X.getD (xm.toNat * 13 + y.toNat) 0 := ⟨_, rfl⟩
     obtain ⟨vb, hvb⟩ : ∃ v_, v_ = X.getD (x.toNat * 13 + ym.toNat) 0 := ⟨_, rfl⟩
     obtain ⟨vc, hvc⟩ : ∃ v_, v_ = X.getD (xm.toNat * 13 + ym.toNat) 0 := ⟨_, rfl⟩
     have HVA := zm hva
     have HVB := zm hvb
     have HVC := zm hvc
     clear hva hvb hvc
     have hx1 : wr.drew.cell? ⟨w.heap.size + 1, xm.toNat * 13 + y.toNat, none⟩ = some (.int .u64 va) := by
      rw [zs HC.out, HVA.out, ABl_get (by have := HXL.out; have := HXM.out; have := HYN.out; have := HN15.out; have := HJ11.out; omega)]
     have hx2 : wr.drew.cell? ⟨w.heap.size + 1, x.toNat * 13 + ym.toNat, none⟩ = some (.int .u64 vb) := by
      rw [zs HC.out, HVB.out, ABl_get (by have := HXL.out; have := HXN.out; have := HYM.out; have := HN15.out; have := HJ11.out; omega)]
     have hx3 : wr.drew.cell? ⟨w.heap.size + 1, xm.toNat * 13 + ym.toNat, none⟩ = some (.int .u64 vc) := by
      rw [zs HC.out, HVC.out, ABl_get (by have := HXL.out; have := HXM.out; have := HYM.out; have := HN15.out; have := HJ11.out; omega)]
     have hx4 : wr.drew.cell? ⟨w.heap.size + 1, x.toNat * 13 + y.toNat, none⟩ = some (.int .u64 (X.getD (x.toNat * 13 + y.toNat) 0)) := by
      rw [zs HC.out, ABl_get (by have := HXL.out; have := HXN.out; have := HYN.out; have := HN15.out; have := HJ11.out; omega)]
     have hf4 : wr.drew.frozen? ⟨w.heap.size + 1, x.toNat * 13 + y.toNat, none⟩ = false := zx HC.out _
     refine start_ (n := 26) (S := fun w' => w'.cell? ⟨w.heap.size + 1, xm.toNat * 13 + y.toNat, none⟩ = some (.int .u64 va) ∧ w'.cell? ⟨w.heap.size + 1, x.toNat * 13 + ym.toNat, none⟩ = some (.int .u64 vb) ∧ w'.cell? ⟨w.heap.size + 1, xm.toNat * 13 + ym.toNat, none⟩ = some (.int .u64 vc)) (ds := [25]) #[false, false, false, false, false, false, false, false, false, false, false, false, false, false, false, false, false, false, false, false, false, false, false, false, false, false] (by kernel_rfl) rfl rfl ⟨hx1, hx2, hx3⟩ (fun hHeld => ?_); refine with_tabW comb_table.tab10 comb_table.bits10 (fun HT_ HW_ => ?_)
     generalize wr.drew = w30 at HC HZ0 HB hx1 hx2 hx3 hx4 hf4 hHeld ⊢
     refine pure_ (i := 0) (N := some 17) (v := ?_) (a' := ?_) #[true, false, false, false, false, false, false, false, false, false, false, false, false, false, false, false, false, false, false, false, false, false, false, false, false, false] rfl rfl (any_of HT_.out (by kernel_rfl)) (fun _ _ _ h => h) (Or.inl ⟨by rfl, ?_⟩) ?_ ?_
     rotate_left
     ·
      intro w'
      go_simp
      with_reducible rfl
     rotate_left
     ·
      simp only [Act.put, List.setIfInBounds_toArray, List.set_cons_zero, List.set_cons_succ, i64_w, i32_w]
      rfl
     refine pure_ (i := 1) (N := some 18) (v := ?_) (a' := ?_) #[true, true, false, false, false, false, false, false, false, false, false, false, false, false, false, false, false, false, false, false, false, false, false, false, false, false] rfl rfl (any_of HT_.out (by kernel_rfl)) (fun _ _ _ h => h) (Or.inl ⟨by rfl, ?_⟩) ?_ ?_
     rotate_left
     ·
      intro w'
      go_simp
      with_reducible rfl
     rotate_left
     ·
      simp only [Act.put, List.setIfInBounds_toArray, List.set_cons_zero, List.set_cons_succ, i64_w, i32_w]
      rfl
     refine pure_ (i := 2) (N := some 19) (v := ?_) (a' := ?_) #[true, true, true, false, false, false, false, false, false, false, false, false, false, false, false, false, false, false, false, false, false, false, false, false, false, false] rfl rfl (any_of HT_.out (by kernel_rfl)) (fun _ _ _ h => h) (Or.inl ⟨by rfl, ?_⟩) ?_ ?_
     rotate_left
     ·
      intro w'
      go_simp
      with_reducible rfl
     rotate_left
     ·
      simp only [Act.put, List.setIfInBounds_toArray, List.set_cons_zero, List.set_cons_succ, i64_w, i32_w]
      rfl
     refine pure_ (i := 3) (N := some 20) (v := ?_) (a' := ?_) #[true, true, true, true, false, false, false, false, false, false, false, false, false, false, false, false, false, false, false, false, false, false, false, false, false, false] rfl rfl (any_of HT_.out (by kernel_rfl)) (fun _ _ _ h => h) (Or.inl ⟨by rfl, ?_⟩) ?_ ?_
     rotate_left
     ·
      intro w'
      go_simp
      with_reducible rfl
     rotate_left
     ·
      simp only [Act.put, List.setIfInBounds_toArray, List.set_cons_zero, List.set_cons_succ, i64_w, i32_w]
      rfl
     refine pure_ (i := 4) (N := some 21) (v := ?_) (a' := ?_) #[true, true, true, true, true, false, false, false, false, false, false, false, false, false, false, false, false, false, false, false, false, false, false, false, false, false] rfl rfl (any_of HT_.out (by kernel_rfl)) (fun _ _ _ h => h) (Or.inl ⟨by rfl, ?_⟩) ?_ ?_
     rotate_left
     ·
      intro w'
      go_simp
      with_reducible rfl
     rotate_left
     ·
      simp only [Act.put, List.setIfInBounds_toArray, List.set_cons_zero, List.set_cons_succ, i64_w, i32_w]
      rfl
     refine pure_ (i := 5) (N := some 22) (v := ?_) (a' := ?_) #[true, true, true, true, true, true, false, false, false, false, false, false, false, false, false, false, false, false, false, false, false, false, false, false, false, false] rfl rfl (any_of HT_.out (by kernel_rfl)) (fun _ _ _ h => h) (Or.inl ⟨by rfl, ?_⟩) ?_ ?_
     rotate_left
     ·
      intro w'
      go_simp
      with_reducible rfl
     rotate_left
     ·
      simp only [Act.put, List.setIfInBounds_toArray, List.set_cons_zero, List.set_cons_succ, i64_w, i32_w]
      rfl
     refine pure_ (i := 6) (N := some 23) (v := ?_) (a' := ?_) #[true, true, true, true, true, true, true, false, false, false, false, false, false, false, false, false, false, false, false, false, false, false, false, false, false, false] rfl rfl (any_of HT_.out (by kernel_rfl)) (fun _ _ _ h => h) (Or.inl ⟨by rfl, ?_⟩) ?_ ?_
     rotate_left
     ·
      intro w'
      go_simp
      with_reducible rfl
     rotate_left
     ·
      simp only [Act.put, List.setIfInBounds_toArray, List.set_cons_zero, List.set_cons_succ, i64_w, i32_w]
      rfl
     refine pure_ (i := 8) (N := some 25) (v := ?_) (a' := ?_) #[true, true, true, true, true, true, true, false, true, false, false, false, false, false, false, false, false, false, false, false, false, false, false, false, false, false] rfl rfl (any_of HT_.out (by kernel_rfl)) (fun _ _ _ h => h) (Or.inl ⟨by rfl, ?_⟩) ?_ ?_
     rotate_left
     ·
      intro w'
      go_simp
      with_reducible rfl
     rotate_left
     ·
      simp only [Act.put, List.setIfInBounds_toArray, List.set_cons_zero, List.set_cons_succ, i64_w, i32_w]
      rfl
     refine pure_ (i := 9) (N := some 26) (v := ?_) (a' := ?_) #[true, true, true, true, true, true, true, false, true, true, false, false, false, false, false, false, false, false, false, false, false, false, false, false, false, false] rfl rfl (any_of HT_.out (by kernel_rfl)) (fun _ _ _ h => h) (Or.inl ⟨by rfl, ?_⟩) ?_ ?_
     rotate_left
     ·
      intro w'
      go_simp
      with_reducible rfl
     rotate_left
     ·
      simp only [Act.put, List.setIfInBounds_toArray, List.set_cons_zero, List.set_cons_succ, i64_w, i32_w]
      rfl
     refine pure_ (i := 10) (N := some 27) (v := ?_) (a' := ?_) #[true, true, true, true, true, true, true, false, true, true, true, false, false, false, false, false, false, false, false, false, false, false, false, false, false, false] rfl rfl (any_of HT_.out (by kernel_rfl)) (fun _ _ _ h => h) (Or.inl ⟨by rfl, ?_⟩) ?_ ?_
     rotate_left
     ·
      intro w'
      go_simp
      with_reducible rfl
     rotate_left
     ·
      simp only [Act.put, List.setIfInBounds_toArray, List.set_cons_zero, List.set_cons_succ, i64_w, i32_w]
      rfl
     refine pure_ (i := 11) (N := some 28) (v := ?_) (a' := ?_) #[true, true, true, true, true, true, true, false, true, true, true, true, false, false, false, false, false, false, false, false, false, false, false, false, false, false] rfl rfl (any_of HT_.out (by kernel_rfl)) (fun _ _ _ h => h) (Or.inl ⟨by rfl, ?_⟩) ?_ ?_
     rotate_left
     ·
      intro w'
      go_simp
      with_reducible rfl
     rotate_left
     ·
      simp only [Act.put, List.setIfInBounds_toArray, List.set_cons_zero, List.set_cons_succ, i64_w, i32_w]
      rfl
     refine pure_ (i := 12) (N := some 29) (v := ?_) (a' := ?_) #[true, true, true, true, true, true, true, false, true, true, true, true, true, false, false, false, false, false, false, false, false, false, false, false, false, false] rfl rfl (any_of HT_.out (by kernel_rfl)) (fun _ _ _ h => h) (Or.inl ⟨by rfl, ?_⟩) ?_ ?_
     rotate_left
     ·
      intro w'
      go_simp
      with_reducible rfl
     rotate_left
     ·
      simp only [Act.put, List.setIfInBounds_toArray, List.set_cons_zero, List.set_cons_succ, i64_w, i32_w]
      rfl
     refine pure_ (i := 15) (N := some 32) (v := ?_) (a' := ?_) #[true, true, true, true, true, true, true, false, true, true, true, true, true, false, false, true, false, false, false, false, false, false, false, false, false, false] rfl rfl (any_of HT_.out (by kernel_rfl)) (fun _ _ _ h => h) (Or.inl ⟨by rfl, ?_⟩) ?_ ?_
     rotate_left
     ·
      intro w'
      go_simp
      with_reducible rfl
     rotate_left
     ·
      simp only [Act.put, List.setIfInBounds_toArray, List.set_cons_zero, List.set_cons_succ, i64_w, i32_w]
      rfl
     refine pure_ (i := 16) (N := some 33) (v := ?_) (a' := ?_) #[true, true, true, true, true, true, true, false, true, true, true, true, true, false, false, true, true, false, false, false, false, false, false, false, false, false] rfl rfl (any_of HT_.out (by kernel_rfl)) (fun _ _ _ h => h) (Or.inl ⟨by rfl, ?_⟩) ?_ ?_
     rotate_left
     ·
      intro w'
      go_simp
      with_reducible rfl
     rotate_left
     ·
      simp only [Act.put, List.setIfInBounds_toArray, List.set_cons_zero, List.set_cons_succ, i64_w, i32_w]
      rfl
     refine pure_ (i := 17) (N := some 34) (v := ?_) (a' := ?_) #[true, true, true, true, true, true, true, false, true, true, true, true, true, false, false, true, true, true, false, false, false, false, false, false, false, false] rfl rfl (any_of HT_.out (by kernel_rfl)) (fun _ _ _ h => h) (Or.inl ⟨by rfl, ?_⟩) ?_ ?_
     rotate_left
     ·
      intro w'
      go_simp
      with_reducible rfl
     rotate_left
     ·
      simp only [Act.put, List.setIfInBounds_toArray, List.set_cons_zero, List.set_cons_succ, i64_w, i32_w]
      rfl
     refine pure_ (i := 18) (N := some 35) (v := ?_) (a' := ?_) #[true, true, true, true, true, true, true, false, true, true, true, true, true, false, false, true, true, true, true, false, false, false, false, false, false, false] rfl rfl (any_of HT_.out (by kernel_rfl)) (fun _ _ _ h => h) (Or.inl ⟨by rfl, ?_⟩) ?_ ?_
     rotate_left
     ·
      intro w'
      go_simp
      with_reducible rfl
     rotate_left
     ·
      simp only [Act.put, List.setIfInBounds_toArray, List.set_cons_zero, List.set_cons_succ, i64_w, i32_w]
      rfl
     refine pure_ (i := 19) (N := some 36) (v := ?_) (a' := ?_) #[true, true, true, true, true, true, true, false, true, true, true, true, true, false, false, true, true, true, true, true, false, false, false, false, false, false] rfl rfl (any_of HT_.out (by kernel_rfl)) (fun _ _ _ h => h) (Or.inl ⟨by rfl, ?_⟩) ?_ ?_
     rotate_left
     ·
      intro w'
      go_simp
      with_reducible rfl
     rotate_left
     ·
      simp only [Act.put, List.setIfInBounds_toArray, List.set_cons_zero, List.set_cons_succ, i64_w, i32_w]
      rfl
     refine pure_ (i := 20) (N := some 37) (v := ?_) (a' := ?_) #[true, true, true, true, true, true, true, false, true, true, true, true, true, false, false, true, true, true, true, true, true, false, false, false, false, false] rfl rfl (any_of HT_.out (by kernel_rfl)) (fun _ _ _ h => h) (Or.inl ⟨by rfl, ?_⟩) ?_ ?_
     rotate_left
     ·
      intro w'
      go_simp
      with_reducible rfl
     rotate_left
     ·
      simp only [Act.put, List.setIfInBounds_toArray, List.set_cons_zero, List.set_cons_succ, i64_w, i32_w]
      rfl
     refine pure_ (i := 23) (N := some 40) (v := ?_) (a' := ?_) #[true, true, true, true, true, true, true, false, true, true, true, true, true, false, false, true, true, true, true, true, true, false, false, true, false, false] rfl rfl (any_of HT_.out (by kernel_rfl)) (fun _ _ _ h => h) (Or.inl ⟨by rfl, ?_⟩) ?_ ?_
     rotate_left
     ·
      intro w'
      go_simp
      with_reducible rfl
     rotate_left
     ·
      simp only [Act.put, List.setIfInBounds_toArray, List.set_cons_zero, List.set_cons_succ, i64_w, i32_w]
      rfl
     refine take_ (i := 7) (N := some 24) (v := ?_) (a' := ?_) #[true, true, true, true, true, true, true, true, true, true, true, true, true, false, false, true, true, true, true, true, true, false, false, true, false, false] rfl rfl (take_ofW HT_.out HW_.out (by kernel_rfl)) (fun _ _ _ h => h) (Or.inl ⟨by rfl, ?_⟩) hHeld ?_ ?_
     rotate_left
     ·
      rintro w' ⟨s0, s1, s2⟩
      go_simp
      with_reducible rfl
     rotate_left
     ·
      simp only [Act.put, List.setIfInBounds_toArray, List.set_cons_zero, List.set_cons_succ, i64_w, i32_w]
      rfl
     refine take_ (i := 13) (N := some 30) (v := ?_) (a' := ?_) #[true, true, true, true, true, true, true, true, true, true, true, true, true, true, false, true, true, true, true, true, true, false, false, true, false, false] rfl rfl (take_ofW HT_.out HW_.out (by kernel_rfl)) (fun _ _ _ h => h) (Or.inl ⟨by rfl, ?_⟩) hHeld ?_ ?_
     rotate_left
     ·
      rintro w' ⟨s0, s1, s2⟩
      go_simp
      with_reducible rfl
     rotate_left
     ·
      simp only [Act.put, List.setIfInBounds_toArray, List.set_cons_zero, List.set_cons_succ, i64_w, i32_w]
      rfl
     refine pure_ (i := 14) (N := some 31) (v := ?_) (a' := ?_) #[true, true, true, true, true, true, true, true, true, true, true, true, true, true, true, true, true, true, true, true, true, false, false, true, false, false] rfl rfl (any_of HT_.out (by kernel_rfl)) (fun _ _ _ h => h) (Or.inl ⟨by rfl, ?_⟩) ?_ ?_
     rotate_left
     ·
      intro w'
      go_simp
      with_reducible rfl
     rotate_left
     ·
      simp only [Act.put, List.setIfInBounds_toArray, List.set_cons_zero, List.set_cons_succ, i64_w, i32_w]
      rfl
     refine take_ (i := 21) (N := some 38) (v := ?_) (a' := ?_) #[true, true, true, true, true, true, true, true, true, true, true, true, true, true, true, true, true, true, true, true, true, true, false, true, false, false] rfl rfl (take_ofW HT_.out HW_.out (by kernel_rfl)) (fun _ _ _ h => h) (Or.inl ⟨by rfl, ?_⟩) hHeld ?_ ?_
     rotate_left
     ·
      rintro w' ⟨s0, s1, s2⟩
      go_simp
      with_reducible rfl
     rotate_left
     ·
      simp only [Act.put, List.setIfInBounds_toArray, List.set_cons_zero, List.set_cons_succ, i64_w, i32_w]
      rfl
     refine pure_ (i := 22) (N := some 39) (v := ?_) (a' := ?_) #[true, true, true, true, true, true, true, true, true, true, true, true, true, true, true, true, true, true, true, true, true, true, true, true, false, false] rfl rfl (any_of HT_.out (by kernel_rfl)) (fun _ _ _ h => h) (Or.inl ⟨by rfl, ?_⟩) ?_ ?_
     rotate_left
     ·
      intro w'
      go_simp
      with_reducible rfl
     rotate_left
     ·
      simp only [Act.put, List.setIfInBounds_toArray, List.set_cons_zero, List.set_cons_succ, i64_w, i32_w]
      rfl
     refine pure_ (i := 24) (N := some 41) (v := ?_) (a' := ?_) #[true, true, true, true, true, true, true, true, true, true, true, true, true, true, true, true, true, true, true, true, true, true, true, true, true, false] rfl rfl (any_of HT_.out (by kernel_rfl)) (fun _ _ _ h => h) (Or.inl ⟨by rfl, ?_⟩) ?_ ?_
     rotate_left
     ·
      intro w'
      go_simp
      with_reducible rfl
     rotate_left
     ·
      simp only [Act.put, List.setIfInBounds_toArray, List.set_cons_zero, List.set_cons_succ, i64_w, i32_w]
      rfl
     refine last_ (i := 25) (N := none) #[true, true, true, true, true, true, true, true, true, true, true, true, true, true, true, true, true, true, true, true, true, true, true, true, true, true] rfl rfl (one_of HT_.out (by kernel_rfl)) (by decide) (fun K hK => ?_)
     refine skip_ (w1 := ?_) (by rfl) rfl ?_ ?_
     rotate_left
     ·
      go_simp
      rfl
     refine hK.out _ _ ?_
     clear hK K
     refine done_ (done_of HT_.out (by kernel_rfl)) ?_
     try go_wp2
     go_roundg j'
     case measure => omega
     case rel => exact ⟨j + 1, _, rfl, ⟨by have := HY.out; have := HJ11.out; unfold wrap64; omega⟩, ⟨by have := HJ.out; omega⟩, ⟨by
      have h1 := blk_set HC.out (x.toNat * 13 + y.toNat) (.int .u64 (comb_table.new X (n + 1) (j + 1)))
      rw [ABl_set] at h1
      have h2 : X.set (x.toNat * 13 + y.toNat) (comb_table.new X (n + 1) (j + 1)) = comb_table.U (comb_table.T n) (n + 1) (j + 1) := by
       rw [HXN.out, HYN.out, HXD.out]
       rfl
      have h3 : comb_table.new X (n + 1) (j + 1) = IntKind.u64.wrap (IntKind.u64.wrap (va + vb) + vc) := by
       rw [HVA.out, HVB.out, HVC.out, HXN.out, HYN.out, HXM.out, HYM.out]
       rfl
      rw [h2, h3] at h1
      exact h1⟩, ⟨zv HZ0.out (by simp) _⟩, ⟨zk HB.out (by omega)⟩⟩
    ·
     have c16b0 : decide (y ≤ 12) = false := decide_eq_false c16
     have hj12 : j = 12 := by have := HY.out; have := HJ.out; omega
     have HJ12 := zm hj12
     clear c16 hj12
     go_wp2
     go_roundg n'
     case measure => omega
     case rel => exact ⟨n + 1, _, rfl, ⟨by have := HX.out; have := HN15.out; unfold wrap64; omega⟩, ⟨by have := HN.out; omega⟩, ⟨by rw [HC.out, HJ12.out]; rfl⟩, HZ0, HB⟩
  ·
   have c9b0 : decide (x ≤ 16) = false := decide_eq_false c9
   have hn16 : n = 16 := by have := HX.out; have := HN.out; omega
   have HN16 := zm hn16
   clear c9 hn16
   have HC16 : wr.heap[w.heap.size + 1]? = some (.cells (ABl (comb_table.T 16)) 61 (0, 0)) := by
    rw [← HN16.out]
    exact HC.out
   have HF := zm HC16
   clear HC16 HC
   go_wp2
   refine wp_load_row 61 (.tmp 1) rfl (w.heap.size + 1) rfl 61 _ (0, 0) (.array 17 59) HF.out Try.underlying61 rfl comb_table.size16 ?_
   have hst := storeCells_row (P := Try.prog) wr w.heap.size 61 61 Z (ABl (comb_table.T 16)) HZ0.out comb_table.size16 (by rw [hZ'.out, ABl_size, ABl_size, comb_table.T_len, List.length_replicate]) (ABl_one _)
   go_wp2
   (try simp only [Exit.inBlock, Exit.then])
   refine bodyPost_ret (results_cell_row rfl _ _ w.heap.size 61 (ABl (comb_table.T 16)) (0, 0) (.array 17 59) rfl (setRow_heap _ _ _ _ _ _ HZ0.out) Try.underlying61 rfl comb_table.size16) rfl ?_
   exact ⟨rfl, below_row HB.out (Nat.le_refl _) _⟩

/-- What place k of row n holds. -/
def comb_table.f (a0 a1 : Int) : Option Int := if 0 ≤ a0 then (if a0 < 17 then (if 0 ≤ a1 then (if a1 < 13 then some ((comb_table.T 16).getD (a0.toNat * 13 + a1.toNat) 0) else none) else none) else none) else none
theorem comb_table.parts {n k t : Int} (h : comb_table.f n k = some t) : 0 ≤ n ∧ n < 17 ∧ 0 ≤ k ∧ k < 13 ∧ t = (comb_table.T 16).getD (n.toNat * 13 + k.toNat) 0 := by
 unfold comb_table.f at h
 split at h
 ·
  split at h
  ·
   split at h
   ·
    split at h
    ·
     exact ⟨by assumption, by assumption, by assumption, by assumption, (Option.some.inj h).symm⟩
    ·
     exact absurd h (by simp)
   ·
    exact absurd h (by simp)
  ·
   exact absurd h (by simp)
 ·
  exact absurd h (by simp)
theorem comb_table.inn {n k t : Int} (h : comb_table.f n k = some t) : ((0 ≤ n) = True) ∧ ((n < 17) = True) ∧ ((0 ≤ k) = True) ∧ ((k < 13) = True) := by
 obtain ⟨h0, h1, h2, h3, _⟩ := comb_table.parts h
 exact ⟨eq_true h0, eq_true h1, eq_true h2, eq_true h3⟩
theorem comb_table.look {W : World} {g : Nat} (hg : W.heap[g]? = some (.cells (ABl (comb_table.T 16)) 61 (0, 0))) {n k t : Int} (h : comb_table.f n k = some t) : W.cell? ⟨g, n.toNat * 13 + k.toNat, none⟩ = some (.int .u64 t) := by
 obtain ⟨h0, h1, h2, h3, ht⟩ := comb_table.parts h
 rw [ht, zs hg, ABl_get (by rw [comb_table.T_len]; omega)]
set_option maxRecDepth 100000 in
theorem comb_table.zsize : ∃ Z : Array Value, (∀ W, (zeroValue 61).run Try.prog W = .ok (.agg Z) W) ∧ Aside0 (Z.size = (ABl (comb_table.T 16)).size) := by
 obtain ⟨Z, hz, hZ⟩ := comb_table.zeroes
 refine ⟨Z, hz, ⟨?_⟩⟩
 have h := congrArg List.length hZ
 rw [Array.length_toList, encs_length, List.length_replicate] at h
 exact h.trans (by rw [ABl_size, comb_table.T_len])

end Go.Proofs.Ytbaaedpjaanjnaa.Prt

namespace Go.Proofs.Ytbaaedpjaanjnaa.Prt
open Go.RowKit Go.Proofs.YtbaaedpjaanjnaaW.PrintWords Go.Proofs.YtbaaedpjaanjnaaW.PrintLast Go.Proofs.YtbaaedpjaanjnaaW.PrintMore
attribute [local go_sem] max2_int min2_int max_two min_two max_three min_three max_four min_four   -- for this text's walks alone
set_option linter.unusedVariables false
set_option linter.unusedSimpArgs false

/-! ### comb_Count: function 40 -/
def comb_Count.f (a0 : Int) (a1 : Int) : Option (Int × Int) := (comb_fair.f a0 a1).bind fun t109 => (if t109 = true then ((comb_table.f a0 a1).bind fun t113 => (some (t113, 0))) else (some (0, 1)))
set_option maxHeartbeats 8000000 in
set_option maxRecDepth 100000 in
theorem comb_Count.calls (a0 : Int) (a1 : Int) (r1 : Int) (r2 : Int) (w : World) (h : comb_Count.f a0 a1 = some (r1, r2)) :
  Calls Try.prog 40 #[.int .i64 a0, .int .i64 a1] w fun e w' => e = .returned (.tuple #[.int .u64 r1, .int .i64 r2]) ∧ Below w.heap.size w w' := by
 have HB := zm (Below.refl w.heap.size w)
 have H : ((comb_fair.f a0 a1).bind fun t109 => (if t109 = true then ((comb_table.f a0 a1).bind fun t113 => (some (t113, 0))) else (some (0, 1)))) = some (r1, r2) := h
 clear h
 replace H := Option.bind_eq_some_iff.mp H
 obtain ⟨t109, A30, H⟩ := H
 replace H : (if t109 = true then ((comb_table.f a0 a1).bind fun t113 => (some (t113, 0))) else (some (0, 1))) = some (r1, r2) := H
 have A3 := zm A30
 clear A30
 by_cases c4 : t109 = true
 ·
  subst c4
  have H1 : ((comb_table.f a0 a1).bind fun t113 => (some (t113, 0))) = some (r1, r2) := by rw [if_pos rfl] at H; exact H
  clear H
  have H := H1
  clear H1
  obtain ⟨y110, hy110⟩ : ∃ y_ : List Int, y_ = (([0] : List Int)) := ⟨_, rfl⟩
  replace H : ((comb_table.f a0 a1).bind fun t113 => (some (t113, 0))) = some (r1, r2) := by first | (rw [hy110]; with_reducible exact H) | (have H2_ := (Option.bind_some _ _).symm.trans H; rw [hy110]; with_reducible exact H2_) | (have H2_ := (Option.bind_some _ _).symm.trans H; with_reducible exact H2_) | with_reducible exact H | (rw [hy110]; exact H) | exact H
  have Ny110 := zm hy110
  clear hy110
  replace H := Option.bind_eq_some_iff.mp H
  obtain ⟨t113, A50, H⟩ := H
  replace H : (some (t113, 0)) = some (r1, r2) := H
  have A5 := zm A50
  clear A50
  simp only [Option.some.injEq, Prod.mk.injEq] at H
  obtain ⟨rfl, rfl⟩ := H
  go_enter Try.func40, Try.ntmps40
  obtain ⟨Z, hz, HZs⟩ := comb_table.zsize
  obtain ⟨ia0, ib0, ic0, id0⟩ := comb_table.inn A5.out
  go_wp2_with (first | ((with_reducible refine gate_callee (f := 42) rfl ?_); refine goesL_ (some 9) rfl rfl Try.func42 (by kernel_rfl) rfl #[.int .i64 a0, .int .i64 a1] rfl (by (try simp only [List.map_toArray, List.map_cons, List.map_nil]); first | done | rfl | (simp only [List.length_drop, List.length_take]; rfl)) ?_; (with_reducible refine (comb_fair.calls a0 a1 true _ A3.out).mono ?_); rintro e w' ⟨rfl, ⟨nd, rfl⟩⟩; refine ⟨_, rfl, ?_⟩) | ((with_reducible refine gate_callee (f := 43) rfl ?_); refine goesL_ (some 11) rfl rfl Try.func43 (by kernel_rfl) rfl #[] rfl (by first | rfl | simp) ?_; (with_reducible refine (comb_table.made _).mono ?_); rintro e w5 ⟨rfl, hb5⟩; refine ⟨_, rfl, ?_⟩; have hst := run_storeCells_new (P := Try.prog) w5 61 Z (ABl (comb_table.T 16)) comb_table.size16 HZs.out (ABl_one _); have n1_ := zm (ze (zJ (by repeat (first | (with_reducible first | exact HB.out | apply ze | apply zd | apply zf) | exact HB.out)) hb5) (.cells (ABl (comb_table.T 16)) 61)); clear HB; have HB := n1_; clear n1_; have hbn := zm (blk_new w5 (.cells (ABl (comb_table.T 16)) 61)); have hcl0 := comb_table.look hbn.out A5.out))
  go_ret2
  exact ⟨by first | rfl | (simp [errW_none, errW_some] <;> rfl) | (simp [*, errW_none, errW_some] <;> rfl), by repeat (first | (with_reducible first | exact HB.out | apply ze | apply zd | apply zf) | exact HB.out)⟩
 ·
  replace c4 := Bool.eq_false_iff.mpr c4
  subst c4
  have H1 : (some (0, 1)) = some (r1, r2) := by rw [if_neg (show ¬ (false = true) by decide)] at H; exact H
  clear H
  have H := H1
  clear H1
  simp only [Option.some.injEq, Prod.mk.injEq] at H
  obtain ⟨rfl, rfl⟩ := H
  go_enter Try.func40, Try.ntmps40
  go_wp2_with (first | ((with_reducible refine gate_callee (f := 42) rfl ?_); refine goesL_ (some 9) rfl rfl Try.func42 (by kernel_rfl) rfl #[.int .i64 a0, .int .i64 a1] rfl (by (try simp only [List.map_toArray, List.map_cons, List.map_nil]); first | done | rfl | (simp only [List.length_drop, List.length_take]; rfl)) ?_; (with_reducible refine (comb_fair.calls a0 a1 false _ A3.out).mono ?_); rintro e w' ⟨rfl, ⟨nd, rfl⟩⟩; refine ⟨_, rfl, ?_⟩))
  go_ret2
  exact ⟨by first | rfl | (simp [errW_none, errW_some] <;> rfl) | (simp [*, errW_none, errW_some] <;> rfl), by repeat (first | (with_reducible first | exact HB.out | apply ze | apply zd | apply zf) | exact HB.out)⟩

end Go.Proofs.Ytbaaedpjaanjnaa.Prt

namespace Go.Proofs.Ytbaaedpjaanjnaa.Prt
open Go.RowKit Go.Proofs.YtbaaedpjaanjnaaW.PrintWords Go.Proofs.YtbaaedpjaanjnaaW.PrintLast Go.Proofs.YtbaaedpjaanjnaaW.PrintMore
attribute [local go_sem] max2_int min2_int max_two min_two max_three min_three max_four min_four   -- for this text's walks alone
set_option linter.unusedVariables false
set_option linter.unusedSimpArgs false

/-! ### comb_width: function 41 -/
def comb_width.l0 : Nat → Int → Int → Option (Int)
 | 0, _, _ => none
 | k + 1, x0, x3 => if x0 > 0 then (comb_width.l0 k (x0 / 2) (wrap64 (x3 + 1))) else (some x3)
def comb_width.f (k : Nat) (a0 : Int) : Option (Int) := comb_width.l0 k a0 0
theorem comb_width.mono_l : ∀ k, (∀ y0 y1, LeO (comb_width.l0 k y0 y1) (comb_width.l0 (k + 1) y0 y1))
 | 0 => fun _ _ r h => by simp [comb_width.l0] at h
 | k + 1 => by
  have ih0 := comb_width.mono_l k
  ·
   intro y0 y1
   unfold comb_width.l0
   repeat' first
   | (with_reducible exact ih0 _ _)
   | (with_reducible exact LeO.refl _)
   | (with_reducible exact LeO.none _)
   | (with_reducible refine LeO.ite ?_ ?_)
   | (with_reducible refine LeO.bind ?_ (fun _ => ?_))
   | exact ih0 _ _
   | exact LeO.none _
   | refine LeO.ite ?_ ?_
   | refine LeO.bind ?_ (fun _ => ?_)
theorem comb_width.mono : ∀ a0 k, LeO (comb_width.f k a0) (comb_width.f (k + 1) a0) := by
 intro a0 k
 have ih0 := comb_width.mono_l k
 unfold comb_width.f
 repeat' first
   | (with_reducible exact ih0 _ _)
   | (with_reducible exact LeO.refl _)
   | (with_reducible exact LeO.none _)
   | (with_reducible refine LeO.ite ?_ ?_)
   | (with_reducible refine LeO.bind ?_ (fun _ => ?_))
   | exact ih0 _ _
   | exact LeO.none _
   | refine LeO.ite ?_ ?_
   | refine LeO.bind ?_ (fun _ => ?_)
set_option maxHeartbeats 8000000 in
set_option maxRecDepth 100000 in
theorem comb_width.calls (k : Nat) (a0 : Int) (r : Int) (w : World) (h : comb_width.f k a0 = some r) :
  Calls Try.prog 41 #[.int .u64 a0] w fun e w' => e = .returned (.int .i64 r) ∧ Drawn0 w w' := by
 have H : (comb_width.l0 k a0 0) = some r := h
 clear h
 have H' := zm H
 clear H
 go_enter Try.func41, Try.ntmps41
 go_wp2
 go_loopg [0, 3] k (fun kq v0 v3 w' => ∃ (x0_1 : Int) (x3_1 : Int), v0 = .int .u64 x0_1 ∧ v3 = .int .i64 x3_1 ∧ Aside0 (comb_width.l0 kq x0_1 x3_1 = some r) ∧ Aside0 (kq ≤ k) ∧ Drawn0 w w')
 case atStart => exact ⟨(a0), (0), (by first | rfl | (simp; done) | (simp [*]; done)), (by first | rfl | (simp; done) | (simp [*]; done)), H', ⟨Nat.le_refl _⟩, by repeat (first | exact Drawn0.refl _ | apply Drawn0.step)⟩
 case round =>
  clear H'
  obtain ⟨x0_1, x3_1, rfl, rfl, HA, HK1, ⟨m1, rfl⟩⟩ := hrel
  cases gk with
  | zero => exact absurd HA.out (by simp [comb_width.l0])
  | succ k1 =>
   have H := HA.out
   clear HA
   simp only [comb_width.l0] at H
   by_cases c2 : x0_1 > 0
   ·
    rw [if_pos c2] at H
    have c2b0 : decide (0 < x0_1) = true := decide_eq_true c2
    clear c2
    have H' := zm H
    clear H
    go_wp2
    go_roundg k1
    case measure => have := HK1.out; omega
    case rel => exact ⟨(x0_1 / 2), (wrap64 (x3_1 + 1)), (by first | rfl | (simp; done) | (simp [*]; done)), (by first | rfl | (simp; done) | (simp [*]; done)), H', ⟨by have := HK1.out; omega⟩, by repeat (first | exact Drawn0.refl _ | apply Drawn0.step)⟩
   ·
    rw [if_neg c2] at H
    have c2b0 : decide (0 < x0_1) = false := decide_eq_false c2
    clear c2
    obtain rfl := Option.some.inj H
    go_wp2
    go_ret
    exact ⟨by first | rfl | (simp; done) | (simp [*]; done), by repeat (first | exact Drawn0.refl _ | apply Drawn0.step)⟩

end Go.Proofs.Ytbaaedpjaanjnaa.Prt

namespace Go.Proofs.Ytbaaedpjaanjnaa.Prt
open Go.RowKit Go.Proofs.YtbaaedpjaanjnaaW.PrintWords Go.Proofs.YtbaaedpjaanjnaaW.PrintLast Go.Proofs.YtbaaedpjaanjnaaW.PrintMore
attribute [local go_sem] max2_int min2_int max_two min_two max_three min_three max_four min_four   -- for this text's walks alone
set_option linter.unusedVariables false
set_option linter.unusedSimpArgs false

/-! ### comb_Cost: function 38 -/
def comb_Cost.f (k : Nat) (a0 : Int) (a1 : Int) : Option (Int × Int) := (comb_Count.f a0 a1).bind fun bt114 => (if bt114.2 = 0 then (if (IntKind.u64.wrap (bt114.1 - 1)) < 65536 then ((comb_width.f k (IntKind.u64.wrap (bt114.1 - 1))).bind fun t116 => (some (t116, 0))) else ((comb_width.f k ((IntKind.u64.wrap (bt114.1 - 1)) / 65536)).bind fun t117 => (some (wrap64 (t117 + 16), 0)))) else (some (0, bt114.2)))
theorem comb_Cost.mono : ∀ a0 a1 k, LeO (comb_Cost.f k a0 a1) (comb_Cost.f (k + 1) a0 a1) := by
 intro a0 a1 k
 unfold comb_Cost.f
 repeat' first
   | (with_reducible exact comb_width.mono _ _)
   | (with_reducible exact LeO.refl _)
   | (with_reducible exact LeO.none _)
   | (with_reducible refine LeO.ite ?_ ?_)
   | (with_reducible refine LeO.bind ?_ (fun _ => ?_))
   | exact comb_width.mono _ _
   | exact LeO.none _
   | refine LeO.ite ?_ ?_
   | refine LeO.bind ?_ (fun _ => ?_)
set_option maxHeartbeats 8000000 in
set_option maxRecDepth 100000 in
theorem comb_Cost.calls (k : Nat) (a0 : Int) (a1 : Int) (r1 : Int) (r2 : Int) (w : World) (h : comb_Cost.f k a0 a1 = some (r1, r2)) :
  Calls Try.prog 38 #[.int .i64 a0, .int .i64 a1] w fun e w' => e = .returned (.tuple #[.int .i64 r1, .int .i64 r2]) ∧ Below w.heap.size w w' := by
 have HB := zm (Below.refl w.heap.size w)
 have H : ((comb_Count.f a0 a1).bind fun bt114 => (if bt114.2 = 0 then (if (IntKind.u64.wrap (bt114.1 - 1)) < 65536 then ((comb_width.f k (IntKind.u64.wrap (bt114.1 - 1))).bind fun t116 => (some (t116, 0))) else ((comb_width.f k ((IntKind.u64.wrap (bt114.1 - 1)) / 65536)).bind fun t117 => (some (wrap64 (t117 + 16), 0)))) else (some (0, bt114.2)))) = some (r1, r2) := h
 clear h
 replace H := Option.bind_eq_some_iff.mp H
 obtain ⟨⟨t114, t115⟩, A30, H⟩ := H
 replace H : (if t115 = 0 then (if (IntKind.u64.wrap (t114 - 1)) < 65536 then ((comb_width.f k (IntKind.u64.wrap (t114 - 1))).bind fun t116 => (some (t116, 0))) else ((comb_width.f k ((IntKind.u64.wrap (t114 - 1)) / 65536)).bind fun t117 => (some (wrap64 (t117 + 16), 0)))) else (some (0, t115))) = some (r1, r2) := H
 have A3 := zm A30
 clear A30
 by_cases c4 : t115 = 0
 ·
  rw [if_pos c4] at H
  have c4b0 : (t115 == 0) = true := beq_iff_eq.mpr c4
  have c4b1 : (t115 != 0) = false := bne_eq_false_iff_eq.mpr c4
  clear c4
  by_cases c5 : (IntKind.u64.wrap (t114 - 1)) < 65536
  ·
   rw [if_pos c5] at H
   have c5b0 : decide ((IntKind.u64.wrap (t114 - 1)) < 65536) = true := decide_eq_true c5
   clear c5
   replace H := Option.bind_eq_some_iff.mp H
   obtain ⟨t116, A60, H⟩ := H
   replace H : (some (t116, 0)) = some (r1, r2) := H
   have A6 := zm A60
   clear A60
   simp only [Option.some.injEq, Prod.mk.injEq] at H
   obtain ⟨rfl, rfl⟩ := H
   go_enter Try.func38, Try.ntmps38
   go_wp2_with (first | ((with_reducible refine gate_callee (f := 40) rfl ?_); refine goesL_ (some 11) rfl rfl Try.func40 (by kernel_rfl) rfl #[.int .i64 a0, .int .i64 a1] rfl (by (try simp only [List.map_toArray, List.map_cons, List.map_nil]); first | done | rfl | (simp only [List.length_drop, List.length_take]; rfl)) ?_; (with_reducible refine (comb_Count.calls a0 a1 t114 t115 _ A3.out).mono ?_); rintro e w7 ⟨rfl, hb⟩; refine ⟨_, rfl, ?_⟩; have n0_ := zm (zJ (by repeat (first | (with_reducible first | exact HB.out | apply ze | apply zd | apply zf) | exact HB.out)) hb); clear HB; have HB := n0_; clear n0_; (try clear hb); (try clear hb2); (try clear hk); (try clear hi)) | ((with_reducible refine gate_callee (f := 41) rfl ?_); refine goesL_ (some 22) rfl rfl Try.func41 (by kernel_rfl) rfl #[.int .u64 (IntKind.u64.wrap (t114 - 1))] rfl (by (try simp only [List.map_toArray, List.map_cons, List.map_nil]); first | done | rfl | (simp only [List.length_drop, List.length_take]; rfl)) ?_; (with_reducible refine (comb_width.calls k (IntKind.u64.wrap (t114 - 1)) t116 _ A6.out).mono ?_); rintro e w' ⟨rfl, ⟨nd, rfl⟩⟩; refine ⟨_, rfl, ?_⟩))
   go_ret2
   exact ⟨by first | rfl | (simp [errW_none, errW_some] <;> rfl) | (simp [*, errW_none, errW_some] <;> rfl), by repeat (first | (with_reducible first | exact HB.out | apply ze | apply zd | apply zf) | exact HB.out)⟩
  ·
   rw [if_neg c5] at H
   have c5b0 : decide ((IntKind.u64.wrap (t114 - 1)) < 65536) = false := decide_eq_false c5
   clear c5
   replace H := Option.bind_eq_some_iff.mp H
   obtain ⟨t117, A80, H⟩ := H
   replace H : (some (wrap64 (t117 + 16), 0)) = some (r1, r2) := H
   have A8 := zm A80
   clear A80
   simp only [Option.some.injEq, Prod.mk.injEq] at H
   obtain ⟨rfl, rfl⟩ := H
   go_enter Try.func38, Try.ntmps38
   go_wp2_with (first | ((with_reducible refine gate_callee (f := 40) rfl ?_); refine goesL_ (some 11) rfl rfl Try.func40 (by kernel_rfl) rfl #[.int .i64 a0, .int .i64 a1] rfl (by (try simp only [List.map_toArray, List.map_cons, List.map_nil]); first | done | rfl | (simp only [List.length_drop, List.length_take]; rfl)) ?_; (with_reducible refine (comb_Count.calls a0 a1 t114 t115 _ A3.out).mono ?_); rintro e w9 ⟨rfl, hb⟩; refine ⟨_, rfl, ?_⟩; have n0_ := zm (zJ (by repeat (first | (with_reducible first | exact HB.out | apply ze | apply zd | apply zf) | exact HB.out)) hb); clear HB; have HB := n0_; clear n0_; (try clear hb); (try clear hb2); (try clear hk); (try clear hi)) | ((with_reducible refine gate_callee (f := 41) rfl ?_); refine goesL_ (some 25) rfl rfl Try.func41 (by kernel_rfl) rfl #[.int .u64 ((IntKind.u64.wrap (t114 - 1)) / 65536)] rfl (by (try simp only [List.map_toArray, List.map_cons, List.map_nil]); first | done | rfl | (simp only [List.length_drop, List.length_take]; rfl)) ?_; (with_reducible refine (comb_width.calls k ((IntKind.u64.wrap (t114 - 1)) / 65536) t117 _ A8.out).mono ?_); rintro e w' ⟨rfl, ⟨nd, rfl⟩⟩; refine ⟨_, rfl, ?_⟩))
   go_ret2
   exact ⟨by first | rfl | (simp [errW_none, errW_some] <;> rfl) | (simp [*, errW_none, errW_some] <;> rfl), by repeat (first | (with_reducible first | exact HB.out | apply ze | apply zd | apply zf) | exact HB.out)⟩
 ·
  rw [if_neg c4] at H
  have c4b0 : (t115 == 0) = false := beq_eq_false_iff_ne.mpr c4
  have c4b1 : (t115 != 0) = true := bne_iff_ne.mpr c4
  simp only [Option.some.injEq, Prod.mk.injEq] at H
  obtain ⟨rfl, rfl⟩ := H
  go_enter Try.func38, Try.ntmps38
  go_wp2_with (first | ((with_reducible refine gate_callee (f := 40) rfl ?_); refine goesL_ (some 11) rfl rfl Try.func40 (by kernel_rfl) rfl #[.int .i64 a0, .int .i64 a1] rfl (by (try simp only [List.map_toArray, List.map_cons, List.map_nil]); first | done | rfl | (simp only [List.length_drop, List.length_take]; rfl)) ?_; (with_reducible refine (comb_Count.calls a0 a1 t114 t115 _ A3.out).mono ?_); rintro e w10 ⟨rfl, hb⟩; refine ⟨_, rfl, ?_⟩; have n0_ := zm (zJ (by repeat (first | (with_reducible first | exact HB.out | apply ze | apply zd | apply zf) | exact HB.out)) hb); clear HB; have HB := n0_; clear n0_; (try clear hb); (try clear hb2); (try clear hk); (try clear hi)))
  go_ret2
  exact ⟨by first | rfl | (simp [errW_none, errW_some] <;> rfl) | (simp [*, errW_none, errW_some] <;> rfl), by repeat (first | (with_reducible first | exact HB.out | apply ze | apply zd | apply zf) | exact HB.out)⟩

end Go.Proofs.Ytbaaedpjaanjnaa.Prt

namespace Go.Proofs.Ytbaaedpjaanjnaa.Prt
open Go.RowKit Go.Proofs.YtbaaedpjaanjnaaW.PrintWords Go.Proofs.YtbaaedpjaanjnaaW.PrintLast Go.Proofs.YtbaaedpjaanjnaaW.PrintMore
attribute [local go_sem] max2_int min2_int max_two min_two max_three min_three max_four min_four   -- for this text's walks alone
set_option linter.unusedVariables false
set_option linter.unusedSimpArgs false

/-! ### alloc_cost: function 32 -/
def alloc_cost.j0 : Nat → Int → List Int → Int → Bool → Option (Int × Bool)
 | 0, _, _, _, _ => none
 | k + 1, x1, x2, x3, x33 => if x33 = true then (some (0, false)) else ((band_Width.f x1).bind fun t121 => (if 0 ≤ x1 then (if x1 < (x2.length : Int) then ((comb_Cost.f k t121 (rd x2 x1)).bind fun bt123 => ((band_Width.f x1).bind fun t125 => ((comb_Cost.f k t125 (wrap64 ((rd x2 x1) + 1))).bind fun bt127 => (some (wrap64 (bt127.1 - bt123.1), decide ((wrap64 (bt127.1 - bt123.1)) ≤ x3)))))) else (none)) else (none)))
def alloc_cost.f (k : Nat) (l0 : List Int) (a1 : Int) (l2 : List Int) (a3 : Int) : Option (Int × Bool) := if 0 ≤ a1 then (if a1 < (l0.length : Int) then (if (rd l0 a1) = 0 then (alloc_cost.j0 k a1 l2 a3 true) else (if a1 < (l2.length : Int) then ((alloc_most.f a1).bind fun t120 => (alloc_cost.j0 k a1 l2 a3 (decide ((rd l2 a1) ≥ t120)))) else (none))) else (none)) else (none)
theorem alloc_cost.mono_l : ∀ k, (∀ y0 y1 y2 y3, LeO (alloc_cost.j0 k y0 y1 y2 y3) (alloc_cost.j0 (k + 1) y0 y1 y2 y3))
 | 0 => fun _ _ _ _ r h => by simp [alloc_cost.j0] at h
 | k + 1 => by
  have ih0 := alloc_cost.mono_l k
  ·
   intro y0 y1 y2 y3
   unfold alloc_cost.j0
   repeat' first
   | (with_reducible exact ih0 _ _ _ _)
   | (with_reducible exact comb_Cost.mono _ _ _)
   | (with_reducible exact LeO.refl _)
   | (with_reducible exact LeO.none _)
   | (with_reducible refine LeO.ite ?_ ?_)
   | (with_reducible refine LeO.bind ?_ (fun _ => ?_))
   | exact ih0 _ _ _ _
   | exact comb_Cost.mono _ _ _
   | exact LeO.none _
   | refine LeO.ite ?_ ?_
   | refine LeO.bind ?_ (fun _ => ?_)
theorem alloc_cost.mono : ∀ a0 a1 a2 a3 k, LeO (alloc_cost.f k a0 a1 a2 a3) (alloc_cost.f (k + 1) a0 a1 a2 a3) := by
 intro a0 a1 a2 a3 k
 have ih0 := alloc_cost.mono_l k
 unfold alloc_cost.f
 repeat' first
   | (with_reducible exact ih0 _ _ _ _)
   | (with_reducible exact comb_Cost.mono _ _ _)
   | (with_reducible exact LeO.refl _)
   | (with_reducible exact LeO.none _)
   | (with_reducible refine LeO.ite ?_ ?_)
   | (with_reducible refine LeO.bind ?_ (fun _ => ?_))
   | exact ih0 _ _ _ _
   | exact comb_Cost.mono _ _ _
   | exact LeO.none _
   | refine LeO.ite ?_ ?_
   | refine LeO.bind ?_ (fun _ => ?_)
def alloc_cost.T1 : Bool × List (List Nat × List Nat) := (true, [([], []), ([0], [0]), ([1], [1]), ([2], [2]), ([], []), ([3, 4], [3, 4]), ([5], [5]), ([6], [6]), ([7], [7]), ([8], [8]), ([9, 8], [8, 9]), ([10, 8], [8, 10]), ([11, 8], [8, 11]), ([8], [8]), ([12, 13, 8], [8, 12, 13]), ([14, 8], [8, 14]), ([8], [8]), ([16, 8], [8, 16]), ([17, 8], [8, 17]), ([18, 8], [8, 18]), ([8], [8]), ([19, 20, 8, 8], [8, 19, 20]), ([15, 21, 8], [8, 15, 21]), ([8, 22], [8, 22])])
def alloc_cost.B1 : List Nat := [0, 1, 3, 7, 0, 31, 63, 127, 255, 511, 1023, 2047, 4095, 511, 16383, 32767, 511, 66047, 197119, 459263, 511, 2032127, 4194303, 8388607]
theorem alloc_cost.tab1 : rtab .any (opsOf Try.f32 1) = alloc_cost.T1 := by kernel_rfl
theorem alloc_cost.bits1 : waitsOk alloc_cost.T1.2 alloc_cost.B1 = true := by kernel_rfl
def alloc_cost.T3 : Bool × List (List Nat × List Nat) := (true, [([], []), ([0], [0]), ([], []), ([2], [2]), ([3], [3]), ([4], [4]), ([], []), ([5, 6], [5, 6]), ([7], [7]), ([1, 8, 1], [1, 8]), ([9], [9]), ([10], [10]), ([10], [10]), ([11, 9, 0, 1, 2, 3, 4, 5, 6, 7, 8, 9, 10, 11], [11]), ([12, 13, 0, 1, 2, 3, 4, 5, 6, 7, 8, 9, 10, 11, 12, 13], [12])])
def alloc_cost.B3 : List Nat := [0, 1, 0, 4, 12, 28, 0, 124, 252, 511, 1023, 2047, 2047, 4095, 16383]
theorem alloc_cost.tab3 : rtab .any (opsOf Try.f32 3) = alloc_cost.T3 := by kernel_rfl
theorem alloc_cost.bits3 : waitsOk alloc_cost.T3.2 alloc_cost.B3 = true := by kernel_rfl
def alloc_cost.T4 : Bool × List (List Nat × List Nat) := (true, [([], []), ([0], [0]), ([], []), ([2], [2]), ([3], [3]), ([4], [4]), ([], []), ([5, 6], [5, 6]), ([7], [7]), ([8], [8]), ([1, 9, 1], [1, 9]), ([10], [10]), ([11], [11]), ([11], [11]), ([12, 10, 0, 1, 2, 3, 4, 5, 6, 7, 8, 9, 10, 11, 12], [12]), ([13, 14, 0, 1, 2, 3, 4, 5, 6, 7, 8, 9, 10, 11, 12, 13, 14], [13])])
def alloc_cost.B4 : List Nat := [0, 1, 0, 4, 12, 28, 0, 124, 252, 508, 1023, 2047, 4095, 4095, 8191, 32767]
theorem alloc_cost.tab4 : rtab .any (opsOf Try.f32 4) = alloc_cost.T4 := by kernel_rfl
theorem alloc_cost.bits4 : waitsOk alloc_cost.T4.2 alloc_cost.B4 = true := by kernel_rfl
def alloc_cost.T5 : Bool × List (List Nat × List Nat) := (true, [([], []), ([], []), ([0, 1], [0, 1]), ([], []), ([], []), ([3, 4], [3, 4]), ([], []), ([6], [6]), ([7], [7]), ([8], [8]), ([5, 9], [5, 9]), ([2, 0, 1, 2], [2]), ([10, 11, 0, 1, 2, 3, 4, 5, 6, 7, 8, 9, 10, 11], [10])])
def alloc_cost.B5 : List Nat := [0, 0, 3, 0, 0, 24, 0, 64, 192, 448, 1016, 7, 4095]
theorem alloc_cost.tab5 : rtab .any (opsOf Try.f32 5) = alloc_cost.T5 := by kernel_rfl
theorem alloc_cost.bits5 : waitsOk alloc_cost.T5.2 alloc_cost.B5 = true := by kernel_rfl
set_option maxHeartbeats 8000000 in
set_option maxRecDepth 100000 in
theorem alloc_cost.calls (k : Nat) (B : Nat) (A0 : Option Addr) (c0 : Nat) (l0 : List Int) (a1 : Int) (A2 : Option Addr) (c2 : Nat) (l2 : List Int) (a3 : Int) (r1 : Int) (r2 : Bool) (w : World) (hr0 : Kd.C (Kd.int .i64) w A0 l0.length l0) (hc0 : l0.length ≤ c0) (hr2 : Kd.C (Kd.int .i64) w A2 l2.length l2) (hc2 : l2.length ≤ c2) (hs : w.heap[B]? = some (.cells #[.slice A0 l0.length c0, .slice A2 l2.length c2, .int .i64 a3, .func (.func 25) #[] #[]] 44 (0, 0))) (h : alloc_cost.f k l0 a1 l2 a3 = some (r1, r2)) :
  Calls Try.prog 32 #[.pointer (some ⟨B, 0, none⟩), .int .i64 a1] w fun e w' => e = .returned (.tuple #[.int .i64 r1, .bool r2]) ∧ Below w.heap.size w w' := by
 have HR0 := zm hr0
 have HC0 := zm hc0
 clear hr0 hc0
 have HR2 := zm hr2
 have HC2 := zm hc2
 clear hr2 hc2
 have hSt : ∀ W, Below w.heap.size w W → (W.cell? ⟨B, 0, none⟩ = some (.slice A0 l0.length c0) ∧ W.cell? ⟨B, 1, none⟩ = some (.slice A2 l2.length c2) ∧ W.cell? ⟨B, 2, none⟩ = some (.int .i64 a3) ∧ W.cell? ⟨B, 3, none⟩ = some (.func (.func 25) #[] #[])) := fun W hb => by
  have h9 := zF hs hb
  exact ⟨(zs h9 0).trans rfl, (zs h9 1).trans rfl, (zs h9 2).trans rfl, (zs h9 3).trans rfl⟩
 have HST := zm hSt
 clear hSt hs
 have HB := zm (Below.refl w.heap.size w)
 have H : (if 0 ≤ a1 then (if a1 < (l0.length : Int) then (if (rd l0 a1) = 0 then (alloc_cost.j0 k a1 l2 a3 true) else (if a1 < (l2.length : Int) then ((alloc_most.f a1).bind fun t120 => (alloc_cost.j0 k a1 l2 a3 (decide ((rd l2 a1) ≥ t120)))) else (none))) else (none)) else (none)) = some (r1, r2) := h
 clear h
 have HC5 := zm H
 clear H
 go_enter Try.func32, Try.ntmps32
 go_upto_region 1 with (fail)
 go_cut [33] (fun v33 wc => ∃ (kq : Nat) (x33_4 : Bool), v33 = .bool x33_4 ∧ Aside0 (alloc_cost.j0 kq a1 l2 a3 x33_4 = some (r1, r2)) ∧ Aside0 (kq ≤ k) ∧ Aside0 (Below w.heap.size w wc))
 case first =>
  have H := HC5.out
  clear HC5
  by_cases c6 : 0 ≤ a1
  ·
   rw [if_pos c6] at H
   have c6b0 : decide (0 ≤ a1) = true := decide_eq_true c6
   clear c6
   (first | rw [c6b0] | (simp only [i64_w, i32_w]; rw [c6b0]) | skip)
   by_cases c7 : a1 < (l0.length : Int)
   ·
    rw [if_pos c7] at H
    have c7b0 : decide (a1 < (l0.length : Int)) = true := decide_eq_true c7
    clear c7
    by_cases c8 : (rd l0 a1) = 0
    ·
     rw [if_pos c8] at H
     have c8b0 : ((rd l0 a1) == 0) = true := beq_iff_eq.mpr c8
     have c8b1 : ((rd l0 a1) != 0) = false := bne_eq_false_iff_eq.mpr c8
     clear c8
     have H' := zm H
     clear H
     try go_wp2
     have n0_ := zm (zf HB.out)
     clear HB
     have HB := n0_
     clear n0_
     have p118 : 0 ≤ (a1 : Int) := of_decide_eq_true (by first | (with_reducible assumption) | assumption)
     have q118 : a1 < (l0.length : Int) := of_decide_eq_true (by first | (with_reducible assumption) | assumption)
     obtain ⟨ad118, e118, hx118_0⟩ := Kd.at_int HR0.out a1 p118 q118
     have hw118_0 := hx118_0
     cases e118
     replace hx118_0 := (HB.out.cell (zb w _ hx118_0)).trans hx118_0
     replace p118 := eq_true p118
     replace q118 := eq_true q118
     refine start_ (n := 24) (S := fun w' => (w'.cell? ⟨B, 0, none⟩ = some (.slice (some ad118) l0.length c0) ∧ w'.cell? ⟨B, 1, none⟩ = some (.slice A2 l2.length c2) ∧ w'.cell? ⟨B, 2, none⟩ = some (.int .i64 a3) ∧ w'.cell? ⟨B, 3, none⟩ = some (.func (.func 25) #[] #[])) ∧ (w'.cell? (ad118.add (a1).toNat) = some (.int .i64 (rd l0 a1)))) (ds := []) #[false, false, false, false, false, false, false, false, false, false, false, false, false, false, false, false, false, false, false, false, false, false, false, false] (by kernel_rfl) rfl rfl ⟨HST.out _ HB.out, (((HB.out.cell (zb w _ hw118_0)).trans hw118_0))⟩ (fun hHeld => ?_); refine with_tabW alloc_cost.tab1 alloc_cost.bits1 (fun HT_ HW_ => ?_)
     generalize w.drew = w9 at HB hx118_0 hHeld ⊢
     refine pure_ (i := 0) (N := some 10) (v := ?_) (a' := ?_) #[true, false, false, false, false, false, false, false, false, false, false, false, false, false, false, false, false, false, false, false, false, false, false, false] rfl rfl (any_of HT_.out (by kernel_rfl)) (fun _ _ _ h => h) (Or.inl ⟨by rfl, ?_⟩) ?_ ?_
     rotate_left
     ·
      intro w'
      go_simp
      with_reducible rfl
     rotate_left
     ·
      simp only [Act.put, List.setIfInBounds_toArray, List.set_cons_zero, List.set_cons_succ, i64_w, i32_w]
      rfl
     refine pure_ (i := 1) (N := some 11) (v := ?_) (a' := ?_) #[true, true, false, false, false, false, false, false, false, false, false, false, false, false, false, false, false, false, false, false, false, false, false, false] rfl rfl (any_of HT_.out (by kernel_rfl)) (fun _ _ _ h => h) (Or.inl ⟨by rfl, ?_⟩) ?_ ?_
     rotate_left
     ·
      intro w'
      go_simp
      with_reducible rfl
     rotate_left
     ·
      simp only [Act.put, List.setIfInBounds_toArray, List.set_cons_zero, List.set_cons_succ, i64_w, i32_w]
      rfl
     refine pure_ (i := 2) (N := some 12) (v := ?_) (a' := ?_) #[true, true, true, false, false, false, false, false, false, false, false, false, false, false, false, false, false, false, false, false, false, false, false, false] rfl rfl (any_of HT_.out (by kernel_rfl)) (fun _ _ _ h => h) (Or.inl ⟨by rfl, ?_⟩) ?_ ?_
     rotate_left
     ·
      intro w'
      go_simp
      with_reducible rfl
     rotate_left
     ·
      simp only [Act.put, List.setIfInBounds_toArray, List.set_cons_zero, List.set_cons_succ, i64_w, i32_w]
      rfl
     refine take_ (i := 3) (N := some 13) (v := ?_) (a' := ?_) #[true, true, true, true, false, false, false, false, false, false, false, false, false, false, false, false, false, false, false, false, false, false, false, false] rfl rfl (take_ofW HT_.out HW_.out (by kernel_rfl)) (fun _ _ _ h => h) (Or.inl ⟨by rfl, ?_⟩) hHeld ?_ ?_
     rotate_left
     ·
      rintro w' ⟨⟨f0_, f1_, f2_, f3_⟩, _⟩
      go_simp
      with_reducible rfl
     rotate_left
     ·
      simp only [Act.put, List.setIfInBounds_toArray, List.set_cons_zero, List.set_cons_succ, i64_w, i32_w]
      rfl
     refine pure_ (i := 4) (N := some 14) (v := ?_) (a' := ?_) #[true, true, true, true, true, false, false, false, false, false, false, false, false, false, false, false, false, false, false, false, false, false, false, false] rfl rfl (any_of HT_.out (by kernel_rfl)) (fun _ _ _ h => h) (Or.inl ⟨by rfl, ?_⟩) ?_ ?_
     rotate_left
     ·
      intro w'
      go_simp
      with_reducible rfl
     rotate_left
     ·
      simp only [Act.put, List.setIfInBounds_toArray, List.set_cons_zero, List.set_cons_succ, i64_w, i32_w]
      rfl
     refine pure_ (i := 5) (N := some 15) (v := ?_) (a' := ?_) #[true, true, true, true, true, true, false, false, false, false, false, false, false, false, false, false, false, false, false, false, false, false, false, false] rfl rfl (any_of HT_.out (by kernel_rfl)) (fun _ _ _ h => h) (Or.inl ⟨by rfl, ?_⟩) ?_ ?_
     rotate_left
     ·
      intro w'
      go_simp
      with_reducible rfl
     rotate_left
     ·
      simp only [Act.put, List.setIfInBounds_toArray, List.set_cons_zero, List.set_cons_succ, i64_w, i32_w]
      rfl
     refine take_ (i := 6) (N := some 16) (v := ?_) (a' := ?_) #[true, true, true, true, true, true, true, false, false, false, false, false, false, false, false, false, false, false, false, false, false, false, false, false] rfl rfl (take_ofW HT_.out HW_.out (by kernel_rfl)) (fun _ _ _ h => h) (Or.inl ⟨by rfl, ?_⟩) hHeld ?_ ?_
     rotate_left
     ·
      rintro w' ⟨⟨f0_, f1_, f2_, f3_⟩, s0⟩
      go_simp
      with_reducible rfl
     rotate_left
     ·
      simp only [Act.put, List.setIfInBounds_toArray, List.set_cons_zero, List.set_cons_succ, i64_w, i32_w]
      rfl
     refine pure_ (i := 7) (N := some 17) (v := ?_) (a' := ?_) #[true, true, true, true, true, true, true, true, false, false, false, false, false, false, false, false, false, false, false, false, false, false, false, false] rfl rfl (any_of HT_.out (by kernel_rfl)) (fun _ _ _ h => h) (Or.inl ⟨by rfl, ?_⟩) ?_ ?_
     rotate_left
     ·
      intro w'
      go_simp
      with_reducible rfl
     rotate_left
     ·
      simp only [Act.put, List.setIfInBounds_toArray, List.set_cons_zero, List.set_cons_succ, i64_w, i32_w]
      rfl
     refine pure_ (i := 8) (N := some 18) (v := ?_) (a' := ?_) #[true, true, true, true, true, true, true, true, true, false, false, false, false, false, false, false, false, false, false, false, false, false, false, false] rfl rfl (any_of HT_.out (by kernel_rfl)) (fun _ _ _ h => h) (Or.inl ⟨by rfl, ?_⟩) ?_ ?_
     rotate_left
     ·
      intro w'
      go_simp
      with_reducible rfl
     rotate_left
     ·
      simp only [Act.put, List.setIfInBounds_toArray, List.set_cons_zero, List.set_cons_succ, i64_w, i32_w]
      rfl
     refine pure_ (i := 9) (N := some 19) (v := undef) (a' := ?_) #[true, true, true, true, true, true, true, true, true, true, false, false, false, false, false, false, false, false, false, false, false, false, false, false] rfl rfl (any_of HT_.out (by kernel_rfl)) (fun _ _ _ h => h) (Or.inr ⟨by rfl, rfl⟩) ?_ ?_
     rotate_left
     ·
      simp only [Act.put, List.setIfInBounds_toArray, List.set_cons_zero, List.set_cons_succ, i64_w, i32_w]
      rfl
     refine pure_ (i := 10) (N := some 20) (v := undef) (a' := ?_) #[true, true, true, true, true, true, true, true, true, true, true, false, false, false, false, false, false, false, false, false, false, false, false, false] rfl rfl (any_of HT_.out (by kernel_rfl)) (fun _ _ _ h => h) (Or.inr ⟨by rfl, rfl⟩) ?_ ?_
     rotate_left
     ·
      simp only [Act.put, List.setIfInBounds_toArray, List.set_cons_zero, List.set_cons_succ, i64_w, i32_w]
      rfl
     refine pure_ (i := 11) (N := some 21) (v := undef) (a' := ?_) #[true, true, true, true, true, true, true, true, true, true, true, true, false, false, false, false, false, false, false, false, false, false, false, false] rfl rfl (any_of HT_.out (by kernel_rfl)) (fun _ _ _ h => h) (Or.inr ⟨by rfl, rfl⟩) ?_ ?_
     rotate_left
     ·
      simp only [Act.put, List.setIfInBounds_toArray, List.set_cons_zero, List.set_cons_succ, i64_w, i32_w]
      rfl
     refine pure_ (i := 12) (N := some 22) (v := undef) (a' := ?_) #[true, true, true, true, true, true, true, true, true, true, true, true, true, false, false, false, false, false, false, false, false, false, false, false] rfl rfl (any_of HT_.out (by kernel_rfl)) (fun _ _ _ h => h) (Or.inr ⟨by rfl, rfl⟩) ?_ ?_
     rotate_left
     ·
      simp only [Act.put, List.setIfInBounds_toArray, List.set_cons_zero, List.set_cons_succ, i64_w, i32_w]
      rfl
     refine pure_ (i := 13) (N := some 23) (v := undef) (a' := ?_) #[true, true, true, true, true, true, true, true, true, true, true, true, true, true, false, false, false, false, false, false, false, false, false, false] rfl rfl (any_of HT_.out (by kernel_rfl)) (fun _ _ _ h => h) (Or.inr ⟨by rfl, rfl⟩) ?_ ?_
     rotate_left
     ·
      simp only [Act.put, List.setIfInBounds_toArray, List.set_cons_zero, List.set_cons_succ, i64_w, i32_w]
      rfl
     refine pure_ (i := 14) (N := some 24) (v := undef) (a' := ?_) #[true, true, true, true, true, true, true, true, true, true, true, true, true, true, true, false, false, false, false, false, false, false, false, false] rfl rfl (any_of HT_.out (by kernel_rfl)) (fun _ _ _ h => h) (Or.inr ⟨by rfl, rfl⟩) ?_ ?_
     rotate_left
     ·
      simp only [Act.put, List.setIfInBounds_toArray, List.set_cons_zero, List.set_cons_succ, i64_w, i32_w]
      rfl
     refine pure_ (i := 15) (N := some 25) (v := undef) (a' := ?_) #[true, true, true, true, true, true, true, true, true, true, true, true, true, true, true, true, false, false, false, false, false, false, false, false] rfl rfl (any_of HT_.out (by kernel_rfl)) (fun _ _ _ h => h) (Or.inr ⟨by rfl, rfl⟩) ?_ ?_
     rotate_left
     ·
      simp only [Act.put, List.setIfInBounds_toArray, List.set_cons_zero, List.set_cons_succ, i64_w, i32_w]
      rfl
     refine pure_ (i := 16) (N := some 26) (v := undef) (a' := ?_) #[true, true, true, true, true, true, true, true, true, true, true, true, true, true, true, true, true, false, false, false, false, false, false, false] rfl rfl (any_of HT_.out (by kernel_rfl)) (fun _ _ _ h => h) (Or.inr ⟨by rfl, rfl⟩) ?_ ?_
     rotate_left
     ·
      simp only [Act.put, List.setIfInBounds_toArray, List.set_cons_zero, List.set_cons_succ, i64_w, i32_w]
      rfl
     refine pure_ (i := 17) (N := some 27) (v := undef) (a' := ?_) #[true, true, true, true, true, true, true, true, true, true, true, true, true, true, true, true, true, true, false, false, false, false, false, false] rfl rfl (any_of HT_.out (by kernel_rfl)) (fun _ _ _ h => h) (Or.inr ⟨by rfl, rfl⟩) ?_ ?_
     rotate_left
     ·
      simp only [Act.put, List.setIfInBounds_toArray, List.set_cons_zero, List.set_cons_succ, i64_w, i32_w]
      rfl
     refine pure_ (i := 18) (N := some 28) (v := undef) (a' := ?_) #[true, true, true, true, true, true, true, true, true, true, true, true, true, true, true, true, true, true, true, false, false, false, false, false] rfl rfl (any_of HT_.out (by kernel_rfl)) (fun _ _ _ h => h) (Or.inr ⟨by rfl, rfl⟩) ?_ ?_
     rotate_left
     ·
      simp only [Act.put, List.setIfInBounds_toArray, List.set_cons_zero, List.set_cons_succ, i64_w, i32_w]
      rfl
     refine pure_ (i := 19) (N := some 29) (v := undef) (a' := ?_) #[true, true, true, true, true, true, true, true, true, true, true, true, true, true, true, true, true, true, true, true, false, false, false, false] rfl rfl (any_of HT_.out (by kernel_rfl)) (fun _ _ _ h => h) (Or.inr ⟨by rfl, rfl⟩) ?_ ?_
     rotate_left
     ·
      simp only [Act.put, List.setIfInBounds_toArray, List.set_cons_zero, List.set_cons_succ, i64_w, i32_w]
      rfl
     refine pure_ (i := 20) (N := some 30) (v := undef) (a' := ?_) #[true, true, true, true, true, true, true, true, true, true, true, true, true, true, true, true, true, true, true, true, true, false, false, false] rfl rfl (any_of HT_.out (by kernel_rfl)) (fun _ _ _ h => h) (Or.inr ⟨by rfl, rfl⟩) ?_ ?_
     rotate_left
     ·
      simp only [Act.put, List.setIfInBounds_toArray, List.set_cons_zero, List.set_cons_succ, i64_w, i32_w]
      rfl
     refine pure_ (i := 21) (N := some 31) (v := undef) (a' := ?_) #[true, true, true, true, true, true, true, true, true, true, true, true, true, true, true, true, true, true, true, true, true, true, false, false] rfl rfl (any_of HT_.out (by kernel_rfl)) (fun _ _ _ h => h) (Or.inr ⟨by rfl, rfl⟩) ?_ ?_
     rotate_left
     ·
      simp only [Act.put, List.setIfInBounds_toArray, List.set_cons_zero, List.set_cons_succ, i64_w, i32_w]
      rfl
     refine pure_ (i := 22) (N := some 32) (v := undef) (a' := ?_) #[true, true, true, true, true, true, true, true, true, true, true, true, true, true, true, true, true, true, true, true, true, true, true, false] rfl rfl (any_of HT_.out (by kernel_rfl)) (fun _ _ _ h => h) (Or.inr ⟨by rfl, rfl⟩) ?_ ?_
     rotate_left
     ·
      simp only [Act.put, List.setIfInBounds_toArray, List.set_cons_zero, List.set_cons_succ, i64_w, i32_w]
      rfl
     refine pure_ (i := 23) (N := some 33) (v := ?_) (a' := ?_) #[true, true, true, true, true, true, true, true, true, true, true, true, true, true, true, true, true, true, true, true, true, true, true, true] rfl rfl (any_of HT_.out (by kernel_rfl)) (fun _ _ _ h => h) (Or.inl ⟨by rfl, ?_⟩) ?_ ?_
     rotate_left
     ·
      intro w'
      go_simp
      with_reducible rfl
     rotate_left
     ·
      simp only [Act.put, List.setIfInBounds_toArray, List.set_cons_zero, List.set_cons_succ, i64_w, i32_w]
      rfl
     refine done_ (done_of HT_.out (by kernel_rfl)) ?_
     try go_wp2
     go_meet
     case rel => exact ⟨_, (true), (by first | rfl | (simp; done) | (simp [*]; done)), H', ⟨by first | omega | exact Nat.le_refl _⟩, ⟨by repeat (first | (with_reducible first | exact HB.out | apply ze | apply zd | apply zf) | exact HB.out)⟩⟩
    ·
     rw [if_neg c8] at H
     have c8b0 : ((rd l0 a1) == 0) = false := beq_eq_false_iff_ne.mpr c8
     have c8b1 : ((rd l0 a1) != 0) = true := bne_iff_ne.mpr c8
     by_cases c10 : a1 < (l2.length : Int)
     ·
      rw [if_pos c10] at H
      have c10b0 : decide (a1 < (l2.length : Int)) = true := decide_eq_true c10
      clear c10
      replace H := Option.bind_eq_some_iff.mp H
      obtain ⟨t120, A110, H⟩ := H
      replace H : (alloc_cost.j0 k a1 l2 a3 (decide ((rd l2 a1) ≥ t120))) = some (r1, r2) := H
      have A11 := zm A110
      clear A110
      have H' := zm H
      clear H
      try go_wp2
      have n0_ := zm (zf HB.out)
      clear HB
      have HB := n0_
      clear n0_
      have p118 : 0 ≤ (a1 : Int) := of_decide_eq_true (by first | (with_reducible assumption) | assumption)
      have q118 : a1 < (l0.length : Int) := of_decide_eq_true (by first | (with_reducible assumption) | assumption)
      obtain ⟨ad118, e118, hx118_0⟩ := Kd.at_int HR0.out a1 p118 q118
      have hw118_0 := hx118_0
      cases e118
      replace hx118_0 := (HB.out.cell (zb w _ hx118_0)).trans hx118_0
      replace p118 := eq_true p118
      replace q118 := eq_true q118
      have p119 : 0 ≤ (a1 : Int) := of_decide_eq_true (by first | (with_reducible assumption) | assumption)
      have q119 : a1 < (l2.length : Int) := of_decide_eq_true (by first | (with_reducible assumption) | assumption)
      obtain ⟨ad119, e119, hx119_0⟩ := Kd.at_int HR2.out a1 p119 q119
      have hw119_0 := hx119_0
      cases e119
      replace hx119_0 := (HB.out.cell (zb w _ hx119_0)).trans hx119_0
      replace p119 := eq_true p119
      replace q119 := eq_true q119
      refine start_ (n := 24) (S := fun w' => (w'.cell? ⟨B, 0, none⟩ = some (.slice (some ad118) l0.length c0) ∧ w'.cell? ⟨B, 1, none⟩ = some (.slice (some ad119) l2.length c2) ∧ w'.cell? ⟨B, 2, none⟩ = some (.int .i64 a3) ∧ w'.cell? ⟨B, 3, none⟩ = some (.func (.func 25) #[] #[])) ∧ (w'.cell? (ad118.add (a1).toNat) = some (.int .i64 (rd l0 a1)) ∧ w'.cell? (ad119.add (a1).toNat) = some (.int .i64 (rd l2 a1)))) (ds := []) #[false, false, false, false, false, false, false, false, false, false, false, false, false, false, false, false, false, false, false, false, false, false, false, false] (by kernel_rfl) rfl rfl ⟨HST.out _ HB.out, ⟨((HB.out.cell (zb w _ hw118_0)).trans hw118_0), ((HB.out.cell (zb w _ hw119_0)).trans hw119_0)⟩⟩ (fun hHeld => ?_); refine with_tabW alloc_cost.tab1 alloc_cost.bits1 (fun HT_ HW_ => ?_)
      generalize w.drew = w12 at HB hx118_0 hx119_0 hHeld ⊢
      refine pure_ (i := 0) (N := some 10) (v := ?_) (a' := ?_) #[true, false, false, false, false, false, false, false, false, false, false, false, false, false, false, false, false, false, false, false, false, false, false, false] rfl rfl (any_of HT_.out (by kernel_rfl)) (fun _ _ _ h => h) (Or.inl ⟨by rfl, ?_⟩) ?_ ?_
      rotate_left
      ·
       intro w'
       go_simp
       with_reducible rfl
      rotate_left
      ·
       simp only [Act.put, List.setIfInBounds_toArray, List.set_cons_zero, List.set_cons_succ, i64_w, i32_w]
       rfl
      refine pure_ (i := 1) (N := some 11) (v := ?_) (a' := ?_) #[true, true, false, false, false, false, false, false, false, false, false, false, false, false, false, false, false, false, false, false, false, false, false, false] rfl rfl (any_of HT_.out (by kernel_rfl)) (fun _ _ _ h => h) (Or.inl ⟨by rfl, ?_⟩) ?_ ?_
      rotate_left
      ·
       intro w'
       go_simp
       with_reducible rfl
      rotate_left
      ·
       simp only [Act.put, List.setIfInBounds_toArray, List.set_cons_zero, List.set_cons_succ, i64_w, i32_w]
       rfl
      refine pure_ (i := 2) (N := some 12) (v := ?_) (a' := ?_) #[true, true, true, false, false, false, false, false, false, false, false, false, false, false, false, false, false, false, false, false, false, false, false, false] rfl rfl (any_of HT_.out (by kernel_rfl)) (fun _ _ _ h => h) (Or.inl ⟨by rfl, ?_⟩) ?_ ?_
      rotate_left
      ·
       intro w'
       go_simp
       with_reducible rfl
      rotate_left
      ·
       simp only [Act.put, List.setIfInBounds_toArray, List.set_cons_zero, List.set_cons_succ, i64_w, i32_w]
       rfl
      refine take_ (i := 3) (N := some 13) (v := ?_) (a' := ?_) #[true, true, true, true, false, false, false, false, false, false, false, false, false, false, false, false, false, false, false, false, false, false, false, false] rfl rfl (take_ofW HT_.out HW_.out (by kernel_rfl)) (fun _ _ _ h => h) (Or.inl ⟨by rfl, ?_⟩) hHeld ?_ ?_
      rotate_left
      ·
       rintro w' ⟨⟨f0_, f1_, f2_, f3_⟩, _⟩
       go_simp
       with_reducible rfl
      rotate_left
      ·
       simp only [Act.put, List.setIfInBounds_toArray, List.set_cons_zero, List.set_cons_succ, i64_w, i32_w]
       rfl
      refine pure_ (i := 4) (N := some 14) (v := ?_) (a' := ?_) #[true, true, true, true, true, false, false, false, false, false, false, false, false, false, false, false, false, false, false, false, false, false, false, false] rfl rfl (any_of HT_.out (by kernel_rfl)) (fun _ _ _ h => h) (Or.inl ⟨by rfl, ?_⟩) ?_ ?_
      rotate_left
      ·
       intro w'
       go_simp
       with_reducible rfl
      rotate_left
      ·
       simp only [Act.put, List.setIfInBounds_toArray, List.set_cons_zero, List.set_cons_succ, i64_w, i32_w]
       rfl
      refine pure_ (i := 5) (N := some 15) (v := ?_) (a' := ?_) #[true, true, true, true, true, true, false, false, false, false, false, false, false, false, false, false, false, false, false, false, false, false, false, false] rfl rfl (any_of HT_.out (by kernel_rfl)) (fun _ _ _ h => h) (Or.inl ⟨by rfl, ?_⟩) ?_ ?_
      rotate_left
      ·
       intro w'
       go_simp
       with_reducible rfl
      rotate_left
      ·
       simp only [Act.put, List.setIfInBounds_toArray, List.set_cons_zero, List.set_cons_succ, i64_w, i32_w]
       rfl
      refine take_ (i := 6) (N := some 16) (v := ?_) (a' := ?_) #[true, true, true, true, true, true, true, false, false, false, false, false, false, false, false, false, false, false, false, false, false, false, false, false] rfl rfl (take_ofW HT_.out HW_.out (by kernel_rfl)) (fun _ _ _ h => h) (Or.inl ⟨by rfl, ?_⟩) hHeld ?_ ?_
      rotate_left
      ·
       rintro w' ⟨⟨f0_, f1_, f2_, f3_⟩, s0, s1⟩
       go_simp
       with_reducible rfl
      rotate_left
      ·
       simp only [Act.put, List.setIfInBounds_toArray, List.set_cons_zero, List.set_cons_succ, i64_w, i32_w]
       rfl
      refine pure_ (i := 7) (N := some 17) (v := ?_) (a' := ?_) #[true, true, true, true, true, true, true, true, false, false, false, false, false, false, false, false, false, false, false, false, false, false, false, false] rfl rfl (any_of HT_.out (by kernel_rfl)) (fun _ _ _ h => h) (Or.inl ⟨by rfl, ?_⟩) ?_ ?_
      rotate_left
      ·
       intro w'
       go_simp
       with_reducible rfl
      rotate_left
      ·
       simp only [Act.put, List.setIfInBounds_toArray, List.set_cons_zero, List.set_cons_succ, i64_w, i32_w]
       rfl
      refine pure_ (i := 8) (N := some 18) (v := ?_) (a' := ?_) #[true, true, true, true, true, true, true, true, true, false, false, false, false, false, false, false, false, false, false, false, false, false, false, false] rfl rfl (any_of HT_.out (by kernel_rfl)) (fun _ _ _ h => h) (Or.inl ⟨by rfl, ?_⟩) ?_ ?_
      rotate_left
      ·
       intro w'
       go_simp
       with_reducible rfl
      rotate_left
      ·
       simp only [Act.put, List.setIfInBounds_toArray, List.set_cons_zero, List.set_cons_succ, i64_w, i32_w]
       rfl
      refine pure_ (i := 9) (N := some 19) (v := ?_) (a' := ?_) #[true, true, true, true, true, true, true, true, true, true, false, false, false, false, false, false, false, false, false, false, false, false, false, false] rfl rfl (any_of HT_.out (by kernel_rfl)) (fun _ _ _ h => h) (Or.inl ⟨by rfl, ?_⟩) ?_ ?_
      rotate_left
      ·
       intro w'
       go_simp
       with_reducible rfl
      rotate_left
      ·
       simp only [Act.put, List.setIfInBounds_toArray, List.set_cons_zero, List.set_cons_succ, i64_w, i32_w]
       rfl
      refine pure_ (i := 10) (N := some 20) (v := ?_) (a' := ?_) #[true, true, true, true, true, true, true, true, true, true, true, false, false, false, false, false, false, false, false, false, false, false, false, false] rfl rfl (any_of HT_.out (by kernel_rfl)) (fun _ _ _ h => h) (Or.inl ⟨by rfl, ?_⟩) ?_ ?_
      rotate_left
      ·
       intro w'
       go_simp
       with_reducible rfl
      rotate_left
      ·
       simp only [Act.put, List.setIfInBounds_toArray, List.set_cons_zero, List.set_cons_succ, i64_w, i32_w]
       rfl
      refine pure_ (i := 11) (N := some 21) (v := ?_) (a' := ?_) #[true, true, true, true, true, true, true, true, true, true, true, true, false, false, false, false, false, false, false, false, false, false, false, false] rfl rfl (any_of HT_.out (by kernel_rfl)) (fun _ _ _ h => h) (Or.inl ⟨by rfl, ?_⟩) ?_ ?_
      rotate_left
      ·
       intro w'
       go_simp
       with_reducible rfl
      rotate_left
      ·
       simp only [Act.put, List.setIfInBounds_toArray, List.set_cons_zero, List.set_cons_succ, i64_w, i32_w]
       rfl
      refine take_ (i := 12) (N := some 22) (v := ?_) (a' := ?_) #[true, true, true, true, true, true, true, true, true, true, true, true, true, false, false, false, false, false, false, false, false, false, false, false] rfl rfl (take_ofW HT_.out HW_.out (by kernel_rfl)) (fun _ _ _ h => h) (Or.inl ⟨by rfl, ?_⟩) hHeld ?_ ?_
      rotate_left
      ·
       rintro w' ⟨⟨f0_, f1_, f2_, f3_⟩, _⟩
       go_simp
       with_reducible rfl
      rotate_left
      ·
       simp only [Act.put, List.setIfInBounds_toArray, List.set_cons_zero, List.set_cons_succ, i64_w, i32_w]
       rfl
      refine pure_ (i := 13) (N := some 23) (v := ?_) (a' := ?_) #[true, true, true, true, true, true, true, true, true, true, true, true, true, true, false, false, false, false, false, false, false, false, false, false] rfl rfl (any_of HT_.out (by kernel_rfl)) (fun _ _ _ h => h) (Or.inl ⟨by rfl, ?_⟩) ?_ ?_
      rotate_left
      ·
       intro w'
       go_simp
       with_reducible rfl
      rotate_left
      ·
       simp only [Act.put, List.setIfInBounds_toArray, List.set_cons_zero, List.set_cons_succ, i64_w, i32_w]
       rfl
      refine pure_ (i := 14) (N := some 24) (v := ?_) (a' := ?_) #[true, true, true, true, true, true, true, true, true, true, true, true, true, true, true, false, false, false, false, false, false, false, false, false] rfl rfl (any_of HT_.out (by kernel_rfl)) (fun _ _ _ h => h) (Or.inl ⟨by rfl, ?_⟩) ?_ ?_
      rotate_left
      ·
       intro w'
       go_simp
       with_reducible rfl
      rotate_left
      ·
       simp only [Act.put, List.setIfInBounds_toArray, List.set_cons_zero, List.set_cons_succ, i64_w, i32_w]
       rfl
      refine pure_ (i := 16) (N := some 26) (v := ?_) (a' := ?_) #[true, true, true, true, true, true, true, true, true, true, true, true, true, true, true, false, true, false, false, false, false, false, false, false] rfl rfl (any_of HT_.out (by kernel_rfl)) (fun _ _ _ h => h) (Or.inl ⟨by rfl, ?_⟩) ?_ ?_
      rotate_left
      ·
       intro w'
       go_simp
       with_reducible rfl
      rotate_left
      ·
       simp only [Act.put, List.setIfInBounds_toArray, List.set_cons_zero, List.set_cons_succ, i64_w, i32_w]
       rfl
      refine pure_ (i := 17) (N := some 27) (v := ?_) (a' := ?_) #[true, true, true, true, true, true, true, true, true, true, true, true, true, true, true, false, true, true, false, false, false, false, false, false] rfl rfl (any_of HT_.out (by kernel_rfl)) (fun _ _ _ h => h) (Or.inl ⟨by rfl, ?_⟩) ?_ ?_
      rotate_left
      ·
       intro w'
       go_simp
       with_reducible rfl
      rotate_left
      ·
       simp only [Act.put, List.setIfInBounds_toArray, List.set_cons_zero, List.set_cons_succ, i64_w, i32_w]
       rfl
      refine pure_ (i := 18) (N := some 28) (v := ?_) (a' := ?_) #[true, true, true, true, true, true, true, true, true, true, true, true, true, true, true, false, true, true, true, false, false, false, false, false] rfl rfl (any_of HT_.out (by kernel_rfl)) (fun _ _ _ h => h) (Or.inl ⟨by rfl, ?_⟩) ?_ ?_
      rotate_left
      ·
       intro w'
       go_simp
       with_reducible rfl
      rotate_left
      ·
       simp only [Act.put, List.setIfInBounds_toArray, List.set_cons_zero, List.set_cons_succ, i64_w, i32_w]
       rfl
      refine take_ (i := 19) (N := some 29) (v := ?_) (a' := ?_) #[true, true, true, true, true, true, true, true, true, true, true, true, true, true, true, false, true, true, true, true, false, false, false, false] rfl rfl (take_ofW HT_.out HW_.out (by kernel_rfl)) (fun _ _ _ h => h) (Or.inl ⟨by rfl, ?_⟩) hHeld ?_ ?_
      rotate_left
      ·
       rintro w' ⟨⟨f0_, f1_, f2_, f3_⟩, _⟩
       go_simp
       with_reducible rfl
      rotate_left
      ·
       simp only [Act.put, List.setIfInBounds_toArray, List.set_cons_zero, List.set_cons_succ, i64_w, i32_w]
       rfl
      refine pure_ (i := 20) (N := some 30) (v := ?_) (a' := ?_) #[true, true, true, true, true, true, true, true, true, true, true, true, true, true, true, false, true, true, true, true, true, false, false, false] rfl rfl (any_of HT_.out (by kernel_rfl)) (fun _ _ _ h => h) (Or.inl ⟨by rfl, ?_⟩) ?_ ?_
      rotate_left
      ·
       intro w'
       go_simp
       with_reducible rfl
      rotate_left
      ·
       simp only [Act.put, List.setIfInBounds_toArray, List.set_cons_zero, List.set_cons_succ, i64_w, i32_w]
       rfl
      refine take_ (i := 15) (N := some 25) (v := ?_) (a' := ?_) #[true, true, true, true, true, true, true, true, true, true, true, true, true, true, true, true, true, true, true, true, true, false, false, false] rfl rfl (take_ofW HT_.out HW_.out (by kernel_rfl)) (fun _ _ _ h => h) (Or.inl ⟨by rfl, ?_⟩) hHeld ?_ ?_
      rotate_left
      ·
       rintro w' ⟨⟨f0_, f1_, f2_, f3_⟩, s0, s1⟩
       go_simp
       with_reducible rfl
      rotate_left
      ·
       simp only [Act.put, List.setIfInBounds_toArray, List.set_cons_zero, List.set_cons_succ, i64_w, i32_w]
       rfl
      refine one_ (i := 21) (N := some 31) #[true, true, true, true, true, true, true, true, true, true, true, true, true, true, true, true, true, true, true, true, true, true, false, false] rfl rfl (one_of HT_.out (by kernel_rfl)) (by decide) (fun K hK => ?_)
      refine call_ 25 #[.int .i64 a1] (by rfl) rfl ?hrun ?_
      (case hrun =>
       have he := fun W => enters_ Try.func25 (by kernel_rfl) rfl #[.int .i64 a1] W
       unfold execOp
       simp [resolve, Deferred.ofValue, invoke, Act.eval, he])
      with_reducible refine (alloc_most.calls a1 t120 _ A11.out).mono ?_
      rintro e w13 ⟨rfl, hb⟩
      refine ⟨_, rfl, ?_⟩
      have n0_ := zm (zJ (by repeat (first | (with_reducible first | exact HB.out | apply ze | apply zd | apply zf) | exact HB.out)) hb)
      clear HB
      have HB := n0_
      clear n0_
      (try clear hb)
      (try clear hb2)
      (try clear hk)
      (try clear hi)
      refine hK.out _ _ ⟨HST.out _ HB.out, ⟨((HB.out.cell (zb w _ hw118_0)).trans hw118_0), ((HB.out.cell (zb w _ hw119_0)).trans hw119_0)⟩⟩ (fun hHeld => ?_)
      clear hK K
      refine norm_ (a' := ?_) ?_ ?_
      rotate_left
      ·
       show Act.put _ (some 31) _ = _
       simp only [Act.put, List.setIfInBounds_toArray, List.set_cons_zero, List.set_cons_succ, i64_w, i32_w]
       rfl
      refine pure_ (i := 22) (N := some 32) (v := ?_) (a' := ?_) #[true, true, true, true, true, true, true, true, true, true, true, true, true, true, true, true, true, true, true, true, true, true, true, false] rfl rfl (any_of HT_.out (by kernel_rfl)) (fun _ _ _ h => h) (Or.inl ⟨by rfl, ?_⟩) ?_ ?_
      rotate_left
      ·
       intro w'
       go_simp
       with_reducible rfl
      rotate_left
      ·
       simp only [Act.put, List.setIfInBounds_toArray, List.set_cons_zero, List.set_cons_succ, i64_w, i32_w]
       rfl
      refine pure_ (i := 23) (N := some 33) (v := ?_) (a' := ?_) #[true, true, true, true, true, true, true, true, true, true, true, true, true, true, true, true, true, true, true, true, true, true, true, true] rfl rfl (any_of HT_.out (by kernel_rfl)) (fun _ _ _ h => h) (Or.inl ⟨by rfl, ?_⟩) ?_ ?_
      rotate_left
      ·
       intro w'
       go_simp
       with_reducible rfl
      rotate_left
      ·
       simp only [Act.put, List.setIfInBounds_toArray, List.set_cons_zero, List.set_cons_succ, i64_w, i32_w]
       rfl
      refine done_ (done_of HT_.out (by kernel_rfl)) ?_
      try go_wp2
      go_meet
      case rel => exact ⟨_, (decide ((rd l2 a1) ≥ t120)), (by first | rfl | (simp; done) | (simp [*]; done)), H', ⟨by first | omega | exact Nat.le_refl _⟩, ⟨by repeat (first | (with_reducible first | exact HB.out | apply ze | apply zd | apply zf) | exact HB.out)⟩⟩
     ·
      rw [if_neg c10] at H
      exact absurd H (by simp)
   ·
    rw [if_neg c7] at H
    exact absurd H (by simp)
  ·
   rw [if_neg c6] at H
   exact absurd H (by simp)
 case rest =>
  clear HC5
  try clear c1
  try clear p1
  try clear q1
  try clear hx1
  try clear c2
  try clear p2
  try clear c3
  try clear c6
  try clear c6b0
  try clear c7
  try clear c7b0
  try clear c8
  try clear c8b0
  try clear c8b1
  try clear c10
  try clear c10b0
  try clear p11
  try clear q11
  try clear hx11
  try clear hx118_0
  try clear hx119_0
  try clear p118
  try clear p119
  try clear q118
  try clear q119
  obtain ⟨kq, x33_4, rfl, HA, HJ4, HB⟩ := hcut
  cases kq with
  | zero => exact absurd HA.out (by simp [alloc_cost.j0])
  | succ kj4 =>
   have H := HA.out
   clear HA
   simp only [alloc_cost.j0] at H
   by_cases c14 : x33_4 = true
   ·
    subst c14
    have H1 : (some (0, false)) = some (r1, r2) := by rw [if_pos rfl] at H; exact H
    clear H
    have H := H1
    clear H1
    simp only [Option.some.injEq, Prod.mk.injEq] at H
    obtain ⟨rfl, rfl⟩ := H
    go_wp2
    go_ret2
    exact ⟨by first | rfl | (simp [errW_none, errW_some] <;> rfl) | (simp [*, errW_none, errW_some] <;> rfl), by repeat (first | (with_reducible first | exact HB.out | apply ze | apply zd | apply zf) | exact HB.out)⟩
   ·
    replace c14 := Bool.eq_false_iff.mpr c14
    subst c14
    have H1 : ((band_Width.f a1).bind fun t121 => (if 0 ≤ a1 then (if a1 < (l2.length : Int) then ((comb_Cost.f kj4 t121 (rd l2 a1)).bind fun bt123 => ((band_Width.f a1).bind fun t125 => ((comb_Cost.f kj4 t125 (wrap64 ((rd l2 a1) + 1))).bind fun bt127 => (some (wrap64 (bt127.1 - bt123.1), decide ((wrap64 (bt127.1 - bt123.1)) ≤ a3)))))) else (none)) else (none))) = some (r1, r2) := by rw [if_neg (show ¬ (false = true) by decide)] at H; exact H
    clear H
    have H := H1
    clear H1
    replace H := Option.bind_eq_some_iff.mp H
    obtain ⟨t121, A150, H⟩ := H
    replace H : (if 0 ≤ a1 then (if a1 < (l2.length : Int) then ((comb_Cost.f kj4 t121 (rd l2 a1)).bind fun bt123 => ((band_Width.f a1).bind fun t125 => ((comb_Cost.f kj4 t125 (wrap64 ((rd l2 a1) + 1))).bind fun bt127 => (some (wrap64 (bt127.1 - bt123.1), decide ((wrap64 (bt127.1 - bt123.1)) ≤ a3)))))) else (none)) else (none)) = some (r1, r2) := H
    have A15 := zm A150
    clear A150
    by_cases c16 : 0 ≤ a1
    ·
     rw [if_pos c16] at H
     have c16b0 : decide (0 ≤ a1) = true := decide_eq_true c16
     clear c16
     by_cases c17 : a1 < (l2.length : Int)
     ·
      rw [if_pos c17] at H
      have c17b0 : decide (a1 < (l2.length : Int)) = true := decide_eq_true c17
      clear c17
      replace H := Option.bind_eq_some_iff.mp H
      obtain ⟨⟨t123, t124⟩, A180, H⟩ := H
      replace H : ((band_Width.f a1).bind fun t125 => ((comb_Cost.f kj4 t125 (wrap64 ((rd l2 a1) + 1))).bind fun bt127 => (some (wrap64 (bt127.1 - t123), decide ((wrap64 (bt127.1 - t123)) ≤ a3))))) = some (r1, r2) := H
      have A18 := zm A180
      clear A180
      replace H := Option.bind_eq_some_iff.mp H
      obtain ⟨t125, A190, H⟩ := H
      replace H : ((comb_Cost.f kj4 t125 (wrap64 ((rd l2 a1) + 1))).bind fun bt127 => (some (wrap64 (bt127.1 - t123), decide ((wrap64 (bt127.1 - t123)) ≤ a3)))) = some (r1, r2) := H
      have A19 := zm A190
      clear A190
      replace H := Option.bind_eq_some_iff.mp H
      obtain ⟨⟨t127, t128⟩, A200, H⟩ := H
      replace H : (some (wrap64 (t127 - t123), decide ((wrap64 (t127 - t123)) ≤ a3))) = some (r1, r2) := H
      have A20 := zm A200
      clear A200
      simp only [Option.some.injEq, Prod.mk.injEq] at H
      obtain ⟨rfl, rfl⟩ := H
      try go_wp2
      have n0_ := zm (zf HB.out)
      clear HB
      have HB := n0_
      clear n0_
      have p122 : 0 ≤ (a1 : Int) := of_decide_eq_true (by first | (with_reducible assumption) | assumption)
      have q122 : a1 < (l2.length : Int) := of_decide_eq_true (by first | (with_reducible assumption) | assumption)
      obtain ⟨ad122, e122, hx122_0⟩ := Kd.at_int HR2.out a1 p122 q122
      have hw122_0 := hx122_0
      cases e122
      replace hx122_0 := (HB.out.cell (zb w _ hx122_0)).trans hx122_0
      replace p122 := eq_true p122
      replace q122 := eq_true q122
      refine start_ (n := 15) (S := fun w' => (w'.cell? ⟨B, 0, none⟩ = some (.slice A0 l0.length c0) ∧ w'.cell? ⟨B, 1, none⟩ = some (.slice (some ad122) l2.length c2) ∧ w'.cell? ⟨B, 2, none⟩ = some (.int .i64 a3) ∧ w'.cell? ⟨B, 3, none⟩ = some (.func (.func 25) #[] #[])) ∧ (w'.cell? (ad122.add (a1).toNat) = some (.int .i64 (rd l2 a1)))) (ds := []) #[false, false, false, false, false, false, false, false, false, false, false, false, false, false, false] (by kernel_rfl) rfl rfl ⟨HST.out _ HB.out, (((HB.out.cell (zb w _ hw122_0)).trans hw122_0))⟩ (fun hHeld => ?_); refine with_tabW alloc_cost.tab3 alloc_cost.bits3 (fun HT_ HW_ => ?_)
      generalize wc.drew = w21 at HB hx122_0 hHeld ⊢
      refine pure_ (i := 0) (N := some 35) (v := ?_) (a' := ?_) #[true, false, false, false, false, false, false, false, false, false, false, false, false, false, false] rfl rfl (any_of HT_.out (by kernel_rfl)) (fun _ _ _ h => h) (Or.inl ⟨by rfl, ?_⟩) ?_ ?_
      rotate_left
      ·
       intro w'
       go_simp
       with_reducible rfl
      rotate_left
      ·
       simp only [Act.put, List.setIfInBounds_toArray, List.set_cons_zero, List.set_cons_succ, i64_w, i32_w]
       rfl
      refine pure_ (i := 2) (N := some 37) (v := ?_) (a' := ?_) #[true, false, true, false, false, false, false, false, false, false, false, false, false, false, false] rfl rfl (any_of HT_.out (by kernel_rfl)) (fun _ _ _ h => h) (Or.inl ⟨by rfl, ?_⟩) ?_ ?_
      rotate_left
      ·
       intro w'
       go_simp
       with_reducible rfl
      rotate_left
      ·
       simp only [Act.put, List.setIfInBounds_toArray, List.set_cons_zero, List.set_cons_succ, i64_w, i32_w]
       rfl
      refine pure_ (i := 3) (N := some 38) (v := ?_) (a' := ?_) #[true, false, true, true, false, false, false, false, false, false, false, false, false, false, false] rfl rfl (any_of HT_.out (by kernel_rfl)) (fun _ _ _ h => h) (Or.inl ⟨by rfl, ?_⟩) ?_ ?_
      rotate_left
      ·
       intro w'
       go_simp
       with_reducible rfl
      rotate_left
      ·
       simp only [Act.put, List.setIfInBounds_toArray, List.set_cons_zero, List.set_cons_succ, i64_w, i32_w]
       rfl
      refine pure_ (i := 4) (N := some 39) (v := ?_) (a' := ?_) #[true, false, true, true, true, false, false, false, false, false, false, false, false, false, false] rfl rfl (any_of HT_.out (by kernel_rfl)) (fun _ _ _ h => h) (Or.inl ⟨by rfl, ?_⟩) ?_ ?_
      rotate_left
      ·
       intro w'
       go_simp
       with_reducible rfl
      rotate_left
      ·
       simp only [Act.put, List.setIfInBounds_toArray, List.set_cons_zero, List.set_cons_succ, i64_w, i32_w]
       rfl
      refine take_ (i := 5) (N := some 40) (v := ?_) (a' := ?_) #[true, false, true, true, true, true, false, false, false, false, false, false, false, false, false] rfl rfl (take_ofW HT_.out HW_.out (by kernel_rfl)) (fun _ _ _ h => h) (Or.inl ⟨by rfl, ?_⟩) hHeld ?_ ?_
      rotate_left
      ·
       rintro w' ⟨⟨f0_, f1_, f2_, f3_⟩, _⟩
       go_simp
       with_reducible rfl
      rotate_left
      ·
       simp only [Act.put, List.setIfInBounds_toArray, List.set_cons_zero, List.set_cons_succ, i64_w, i32_w]
       rfl
      refine pure_ (i := 6) (N := some 41) (v := ?_) (a' := ?_) #[true, false, true, true, true, true, true, false, false, false, false, false, false, false, false] rfl rfl (any_of HT_.out (by kernel_rfl)) (fun _ _ _ h => h) (Or.inl ⟨by rfl, ?_⟩) ?_ ?_
      rotate_left
      ·
       intro w'
       go_simp
       with_reducible rfl
      rotate_left
      ·
       simp only [Act.put, List.setIfInBounds_toArray, List.set_cons_zero, List.set_cons_succ, i64_w, i32_w]
       rfl
      refine pure_ (i := 7) (N := some 42) (v := ?_) (a' := ?_) #[true, false, true, true, true, true, true, true, false, false, false, false, false, false, false] rfl rfl (any_of HT_.out (by kernel_rfl)) (fun _ _ _ h => h) (Or.inl ⟨by rfl, ?_⟩) ?_ ?_
      rotate_left
      ·
       intro w'
       go_simp
       with_reducible rfl
      rotate_left
      ·
       simp only [Act.put, List.setIfInBounds_toArray, List.set_cons_zero, List.set_cons_succ, i64_w, i32_w]
       rfl
      refine take_ (i := 8) (N := some 43) (v := ?_) (a' := ?_) #[true, false, true, true, true, true, true, true, true, false, false, false, false, false, false] rfl rfl (take_ofW HT_.out HW_.out (by kernel_rfl)) (fun _ _ _ h => h) (Or.inl ⟨by rfl, ?_⟩) hHeld ?_ ?_
      rotate_left
      ·
       rintro w' ⟨⟨f0_, f1_, f2_, f3_⟩, s0⟩
       go_simp
       with_reducible rfl
      rotate_left
      ·
       simp only [Act.put, List.setIfInBounds_toArray, List.set_cons_zero, List.set_cons_succ, i64_w, i32_w]
       rfl
      refine one_ (i := 1) (N := some 36) #[true, true, true, true, true, true, true, true, true, false, false, false, false, false, false] rfl rfl (one_of HT_.out (by kernel_rfl)) (by decide) (fun K hK => ?_)
      refine goes_ Try.func31 (by kernel_rfl) rfl #[.int .i64 a1] (by rfl) rfl rfl (by (try simp only [List.map_toArray, List.map_cons, List.map_nil]); first | done | rfl | (simp only [List.length_drop, List.length_take]; rfl)) ?_
      with_reducible refine (band_Width.calls a1 t121 _ A15.out).mono ?_
      rintro e w22 ⟨rfl, hb⟩
      refine ⟨_, rfl, ?_⟩
      have n0_ := zm (zJ (by repeat (first | (with_reducible first | exact HB.out | apply ze | apply zd | apply zf) | exact HB.out)) hb)
      clear HB
      have HB := n0_
      clear n0_
      (try clear hb)
      (try clear hb2)
      (try clear hk)
      (try clear hi)
      refine hK.out _ _ ⟨HST.out _ HB.out, (((HB.out.cell (zb w _ hw122_0)).trans hw122_0))⟩ (fun hHeld => ?_)
      clear hK K
      refine norm_ (a' := ?_) ?_ ?_
      rotate_left
      ·
       show Act.put _ (some 36) _ = _
       simp only [Act.put, List.setIfInBounds_toArray, List.set_cons_zero, List.set_cons_succ, i64_w, i32_w]
       rfl
      refine one_ (i := 9) (N := some 44) #[true, true, true, true, true, true, true, true, true, true, false, false, false, false, false] rfl rfl (one_of HT_.out (by kernel_rfl)) (by decide) (fun K hK => ?_)
      refine goes_ Try.func38 (by kernel_rfl) rfl #[.int .i64 t121, .int .i64 (rd l2 a1)] (by rfl) rfl rfl (by (try simp only [List.map_toArray, List.map_cons, List.map_nil]); first | done | rfl | (simp only [List.length_drop, List.length_take]; rfl)) ?_
      with_reducible refine (comb_Cost.calls kj4 t121 (rd l2 a1) t123 t124 _ A18.out).mono ?_
      rintro e w23 ⟨rfl, hb⟩
      refine ⟨_, rfl, ?_⟩
      have n0_ := zm (zJ (by repeat (first | (with_reducible first | exact HB.out | apply ze | apply zd | apply zf) | exact HB.out)) hb)
      clear HB
      have HB := n0_
      clear n0_
      (try clear hb)
      (try clear hb2)
      (try clear hk)
      (try clear hi)
      refine hK.out _ _ ⟨HST.out _ HB.out, (((HB.out.cell (zb w _ hw122_0)).trans hw122_0))⟩ (fun hHeld => ?_)
      clear hK K
      refine norm_ (a' := ?_) ?_ ?_
      rotate_left
      ·
       show Act.put _ (some 44) _ = _
       simp only [Act.put, List.setIfInBounds_toArray, List.set_cons_zero, List.set_cons_succ, i64_w, i32_w]
       rfl
      refine pure_ (i := 10) (N := some 34) (v := ?_) (a' := ?_) #[true, true, true, true, true, true, true, true, true, true, true, false, false, false, false] rfl rfl (any_of HT_.out (by kernel_rfl)) (fun _ _ _ h => h) (Or.inl ⟨by rfl, ?_⟩) ?_ ?_
      rotate_left
      ·
       intro w'
       go_simp
       with_reducible rfl
      rotate_left
      ·
       simp only [Act.put, List.setIfInBounds_toArray, List.set_cons_zero, List.set_cons_succ, i64_w, i32_w]
       rfl
      refine pure_ (i := 11) (N := some 45) (v := ?_) (a' := ?_) #[true, true, true, true, true, true, true, true, true, true, true, true, false, false, false] rfl rfl (any_of HT_.out (by kernel_rfl)) (fun _ _ _ h => h) (Or.inl ⟨by rfl, ?_⟩) ?_ ?_
      rotate_left
      ·
       intro w'
       go_simp
       with_reducible rfl
      rotate_left
      ·
       simp only [Act.put, List.setIfInBounds_toArray, List.set_cons_zero, List.set_cons_succ, i64_w, i32_w]
       rfl
      refine pure_ (i := 12) (N := some 46) (v := ?_) (a' := ?_) #[true, true, true, true, true, true, true, true, true, true, true, true, true, false, false] rfl rfl (any_of HT_.out (by kernel_rfl)) (fun _ _ _ h => h) (Or.inl ⟨by rfl, ?_⟩) ?_ ?_
      rotate_left
      ·
       intro w'
       go_simp
       with_reducible rfl
      rotate_left
      ·
       simp only [Act.put, List.setIfInBounds_toArray, List.set_cons_zero, List.set_cons_succ, i64_w, i32_w]
       rfl
      refine pure_ (i := 13) (N := some 6) (v := ?_) (a' := ?_) #[true, true, true, true, true, true, true, true, true, true, true, true, true, true, false] rfl rfl (any_of HT_.out (by kernel_rfl)) (fun _ _ _ h => h) (Or.inl ⟨by rfl, ?_⟩) ?_ ?_
      rotate_left
      ·
       intro w'
       go_simp
       with_reducible rfl
      rotate_left
      ·
       simp only [Act.put, List.setIfInBounds_toArray, List.set_cons_zero, List.set_cons_succ, i64_w, i32_w]
       rfl
      refine pure_ (i := 14) (N := some 7) (v := ?_) (a' := ?_) #[true, true, true, true, true, true, true, true, true, true, true, true, true, true, true] rfl rfl (any_of HT_.out (by kernel_rfl)) (fun _ _ _ h => h) (Or.inl ⟨by rfl, ?_⟩) ?_ ?_
      rotate_left
      ·
       intro w'
       go_simp
       with_reducible rfl
      rotate_left
      ·
       simp only [Act.put, List.setIfInBounds_toArray, List.set_cons_zero, List.set_cons_succ, i64_w, i32_w]
       rfl
      refine done_ (done_of HT_.out (by kernel_rfl)) ?_
      try go_wp2
      have n0_ := zm (zf HB.out)
      clear HB
      have HB := n0_
      clear n0_
      have p126 : 0 ≤ (a1 : Int) := of_decide_eq_true (by first | (with_reducible assumption) | assumption)
      have q126 : a1 < (l2.length : Int) := of_decide_eq_true (by first | (with_reducible assumption) | assumption)
      obtain ⟨ad126, e126, hx126_0⟩ := Kd.at_int HR2.out a1 p126 q126
      have hw126_0 := hx126_0
      obtain rfl : ad122 = ad126 := (by injection e126)
      replace hx126_0 := (HB.out.cell (zb w _ hx126_0)).trans hx126_0
      replace p126 := eq_true p126
      replace q126 := eq_true q126
      refine start_ (n := 16) (S := fun w' => (w'.cell? ⟨B, 0, none⟩ = some (.slice A0 l0.length c0) ∧ w'.cell? ⟨B, 1, none⟩ = some (.slice (some ad122) l2.length c2) ∧ w'.cell? ⟨B, 2, none⟩ = some (.int .i64 a3) ∧ w'.cell? ⟨B, 3, none⟩ = some (.func (.func 25) #[] #[])) ∧ (w'.cell? (ad122.add (a1).toNat) = some (.int .i64 (rd l2 a1)))) (ds := []) #[false, false, false, false, false, false, false, false, false, false, false, false, false, false, false, false] (by kernel_rfl) rfl rfl ⟨HST.out _ HB.out, (((HB.out.cell (zb w _ hw126_0)).trans hw126_0))⟩ (fun hHeld => ?_); refine with_tabW alloc_cost.tab4 alloc_cost.bits4 (fun HT_ HW_ => ?_)
      generalize w23.drew = w24 at HB hx126_0 hHeld ⊢
      refine pure_ (i := 0) (N := some 48) (v := ?_) (a' := ?_) #[true, false, false, false, false, false, false, false, false, false, false, false, false, false, false, false] rfl rfl (any_of HT_.out (by kernel_rfl)) (fun _ _ _ h => h) (Or.inl ⟨by rfl, ?_⟩) ?_ ?_
      rotate_left
      ·
       intro w'
       go_simp
       with_reducible rfl
      rotate_left
      ·
       simp only [Act.put, List.setIfInBounds_toArray, List.set_cons_zero, List.set_cons_succ, i64_w, i32_w]
       rfl
      refine pure_ (i := 2) (N := some 50) (v := ?_) (a' := ?_) #[true, false, true, false, false, false, false, false, false, false, false, false, false, false, false, false] rfl rfl (any_of HT_.out (by kernel_rfl)) (fun _ _ _ h => h) (Or.inl ⟨by rfl, ?_⟩) ?_ ?_
      rotate_left
      ·
       intro w'
       go_simp
       with_reducible rfl
      rotate_left
      ·
       simp only [Act.put, List.setIfInBounds_toArray, List.set_cons_zero, List.set_cons_succ, i64_w, i32_w]
       rfl
      refine pure_ (i := 3) (N := some 51) (v := ?_) (a' := ?_) #[true, false, true, true, false, false, false, false, false, false, false, false, false, false, false, false] rfl rfl (any_of HT_.out (by kernel_rfl)) (fun _ _ _ h => h) (Or.inl ⟨by rfl, ?_⟩) ?_ ?_
      rotate_left
      ·
       intro w'
       go_simp
       with_reducible rfl
      rotate_left
      ·
       simp only [Act.put, List.setIfInBounds_toArray, List.set_cons_zero, List.set_cons_succ, i64_w, i32_w]
       rfl
      refine pure_ (i := 4) (N := some 52) (v := ?_) (a' := ?_) #[true, false, true, true, true, false, false, false, false, false, false, false, false, false, false, false] rfl rfl (any_of HT_.out (by kernel_rfl)) (fun _ _ _ h => h) (Or.inl ⟨by rfl, ?_⟩) ?_ ?_
      rotate_left
      ·
       intro w'
       go_simp
       with_reducible rfl
      rotate_left
      ·
       simp only [Act.put, List.setIfInBounds_toArray, List.set_cons_zero, List.set_cons_succ, i64_w, i32_w]
       rfl
      refine take_ (i := 5) (N := some 53) (v := ?_) (a' := ?_) #[true, false, true, true, true, true, false, false, false, false, false, false, false, false, false, false] rfl rfl (take_ofW HT_.out HW_.out (by kernel_rfl)) (fun _ _ _ h => h) (Or.inl ⟨by rfl, ?_⟩) hHeld ?_ ?_
      rotate_left
      ·
       rintro w' ⟨⟨f0_, f1_, f2_, f3_⟩, _⟩
       go_simp
       with_reducible rfl
      rotate_left
      ·
       simp only [Act.put, List.setIfInBounds_toArray, List.set_cons_zero, List.set_cons_succ, i64_w, i32_w]
       rfl
      refine pure_ (i := 6) (N := some 54) (v := ?_) (a' := ?_) #[true, false, true, true, true, true, true, false, false, false, false, false, false, false, false, false] rfl rfl (any_of HT_.out (by kernel_rfl)) (fun _ _ _ h => h) (Or.inl ⟨by rfl, ?_⟩) ?_ ?_
      rotate_left
      ·
       intro w'
       go_simp
       with_reducible rfl
      rotate_left
      ·
       simp only [Act.put, List.setIfInBounds_toArray, List.set_cons_zero, List.set_cons_succ, i64_w, i32_w]
       rfl
      refine pure_ (i := 7) (N := some 55) (v := ?_) (a' := ?_) #[true, false, true, true, true, true, true, true, false, false, false, false, false, false, false, false] rfl rfl (any_of HT_.out (by kernel_rfl)) (fun _ _ _ h => h) (Or.inl ⟨by rfl, ?_⟩) ?_ ?_
      rotate_left
      ·
       intro w'
       go_simp
       with_reducible rfl
      rotate_left
      ·
       simp only [Act.put, List.setIfInBounds_toArray, List.set_cons_zero, List.set_cons_succ, i64_w, i32_w]
       rfl
      refine take_ (i := 8) (N := some 56) (v := ?_) (a' := ?_) #[true, false, true, true, true, true, true, true, true, false, false, false, false, false, false, false] rfl rfl (take_ofW HT_.out HW_.out (by kernel_rfl)) (fun _ _ _ h => h) (Or.inl ⟨by rfl, ?_⟩) hHeld ?_ ?_
      rotate_left
      ·
       rintro w' ⟨⟨f0_, f1_, f2_, f3_⟩, s0⟩
       go_simp
       with_reducible rfl
      rotate_left
      ·
       simp only [Act.put, List.setIfInBounds_toArray, List.set_cons_zero, List.set_cons_succ, i64_w, i32_w]
       rfl
      refine pure_ (i := 9) (N := some 57) (v := ?_) (a' := ?_) #[true, false, true, true, true, true, true, true, true, true, false, false, false, false, false, false] rfl rfl (any_of HT_.out (by kernel_rfl)) (fun _ _ _ h => h) (Or.inl ⟨by rfl, ?_⟩) ?_ ?_
      rotate_left
      ·
       intro w'
       go_simp
       with_reducible rfl
      rotate_left
      ·
       simp only [Act.put, List.setIfInBounds_toArray, List.set_cons_zero, List.set_cons_succ, i64_w, i32_w]
       rfl
      refine one_ (i := 1) (N := some 49) #[true, true, true, true, true, true, true, true, true, true, false, false, false, false, false, false] rfl rfl (one_of HT_.out (by kernel_rfl)) (by decide) (fun K hK => ?_)
      refine goes_ Try.func31 (by kernel_rfl) rfl #[.int .i64 a1] (by rfl) rfl rfl (by (try simp only [List.map_toArray, List.map_cons, List.map_nil]); first | done | rfl | (simp only [List.length_drop, List.length_take]; rfl)) ?_
      with_reducible refine (band_Width.calls a1 t125 _ A19.out).mono ?_
      rintro e w25 ⟨rfl, hb⟩
      refine ⟨_, rfl, ?_⟩
      have n0_ := zm (zJ (by repeat (first | (with_reducible first | exact HB.out | apply ze | apply zd | apply zf) | exact HB.out)) hb)
      clear HB
      have HB := n0_
      clear n0_
      (try clear hb)
      (try clear hb2)
      (try clear hk)
      (try clear hi)
      refine hK.out _ _ ⟨HST.out _ HB.out, (((HB.out.cell (zb w _ hw126_0)).trans hw126_0))⟩ (fun hHeld => ?_)
      clear hK K
      refine norm_ (a' := ?_) ?_ ?_
      rotate_left
      ·
       show Act.put _ (some 49) _ = _
       simp only [Act.put, List.setIfInBounds_toArray, List.set_cons_zero, List.set_cons_succ, i64_w, i32_w]
       rfl
      refine one_ (i := 10) (N := some 58) #[true, true, true, true, true, true, true, true, true, true, true, false, false, false, false, false] rfl rfl (one_of HT_.out (by kernel_rfl)) (by decide) (fun K hK => ?_)
      refine goes_ Try.func38 (by kernel_rfl) rfl #[.int .i64 t125, .int .i64 (wrap64 ((rd l2 a1) + 1))] (by rfl) rfl rfl (by (try simp only [List.map_toArray, List.map_cons, List.map_nil]); first | done | rfl | (simp only [List.length_drop, List.length_take]; rfl)) ?_
      with_reducible refine (comb_Cost.calls kj4 t125 (wrap64 ((rd l2 a1) + 1)) t127 t128 _ A20.out).mono ?_
      rintro e w26 ⟨rfl, hb⟩
      refine ⟨_, rfl, ?_⟩
      have n0_ := zm (zJ (by repeat (first | (with_reducible first | exact HB.out | apply ze | apply zd | apply zf) | exact HB.out)) hb)
      clear HB
      have HB := n0_
      clear n0_
      (try clear hb)
      (try clear hb2)
      (try clear hk)
      (try clear hi)
      refine hK.out _ _ ⟨HST.out _ HB.out, (((HB.out.cell (zb w _ hw126_0)).trans hw126_0))⟩ (fun hHeld => ?_)
      clear hK K
      refine norm_ (a' := ?_) ?_ ?_
      rotate_left
      ·
       show Act.put _ (some 58) _ = _
       simp only [Act.put, List.setIfInBounds_toArray, List.set_cons_zero, List.set_cons_succ, i64_w, i32_w]
       rfl
      refine pure_ (i := 11) (N := some 47) (v := ?_) (a' := ?_) #[true, true, true, true, true, true, true, true, true, true, true, true, false, false, false, false] rfl rfl (any_of HT_.out (by kernel_rfl)) (fun _ _ _ h => h) (Or.inl ⟨by rfl, ?_⟩) ?_ ?_
      rotate_left
      ·
       intro w'
       go_simp
       with_reducible rfl
      rotate_left
      ·
       simp only [Act.put, List.setIfInBounds_toArray, List.set_cons_zero, List.set_cons_succ, i64_w, i32_w]
       rfl
      refine pure_ (i := 12) (N := some 59) (v := ?_) (a' := ?_) #[true, true, true, true, true, true, true, true, true, true, true, true, true, false, false, false] rfl rfl (any_of HT_.out (by kernel_rfl)) (fun _ _ _ h => h) (Or.inl ⟨by rfl, ?_⟩) ?_ ?_
      rotate_left
      ·
       intro w'
       go_simp
       with_reducible rfl
      rotate_left
      ·
       simp only [Act.put, List.setIfInBounds_toArray, List.set_cons_zero, List.set_cons_succ, i64_w, i32_w]
       rfl
      refine pure_ (i := 13) (N := some 60) (v := ?_) (a' := ?_) #[true, true, true, true, true, true, true, true, true, true, true, true, true, true, false, false] rfl rfl (any_of HT_.out (by kernel_rfl)) (fun _ _ _ h => h) (Or.inl ⟨by rfl, ?_⟩) ?_ ?_
      rotate_left
      ·
       intro w'
       go_simp
       with_reducible rfl
      rotate_left
      ·
       simp only [Act.put, List.setIfInBounds_toArray, List.set_cons_zero, List.set_cons_succ, i64_w, i32_w]
       rfl
      refine pure_ (i := 14) (N := some 8) (v := ?_) (a' := ?_) #[true, true, true, true, true, true, true, true, true, true, true, true, true, true, true, false] rfl rfl (any_of HT_.out (by kernel_rfl)) (fun _ _ _ h => h) (Or.inl ⟨by rfl, ?_⟩) ?_ ?_
      rotate_left
      ·
       intro w'
       go_simp
       with_reducible rfl
      rotate_left
      ·
       simp only [Act.put, List.setIfInBounds_toArray, List.set_cons_zero, List.set_cons_succ, i64_w, i32_w]
       rfl
      refine pure_ (i := 15) (N := some 9) (v := ?_) (a' := ?_) #[true, true, true, true, true, true, true, true, true, true, true, true, true, true, true, true] rfl rfl (any_of HT_.out (by kernel_rfl)) (fun _ _ _ h => h) (Or.inl ⟨by rfl, ?_⟩) ?_ ?_
      rotate_left
      ·
       intro w'
       go_simp
       with_reducible rfl
      rotate_left
      ·
       simp only [Act.put, List.setIfInBounds_toArray, List.set_cons_zero, List.set_cons_succ, i64_w, i32_w]
       rfl
      refine done_ (done_of HT_.out (by kernel_rfl)) ?_
      try go_wp2
      have n0_ := zm (zf HB.out)
      clear HB
      have HB := n0_
      clear n0_
      refine start_ (n := 13) (S := fun w' => (w'.cell? ⟨B, 0, none⟩ = some (.slice A0 l0.length c0) ∧ w'.cell? ⟨B, 1, none⟩ = some (.slice (some ad122) l2.length c2) ∧ w'.cell? ⟨B, 2, none⟩ = some (.int .i64 a3) ∧ w'.cell? ⟨B, 3, none⟩ = some (.func (.func 25) #[] #[])) ∧ (True)) (ds := []) #[false, false, false, false, false, false, false, false, false, false, false, false, false] (by kernel_rfl) rfl rfl ⟨HST.out _ HB.out, trivial⟩ (fun hHeld => ?_); refine with_tabW alloc_cost.tab5 alloc_cost.bits5 (fun HT_ HW_ => ?_)
      generalize w26.drew = w27 at HB hHeld ⊢
      refine pure_ (i := 0) (N := some 61) (v := ?_) (a' := ?_) #[true, false, false, false, false, false, false, false, false, false, false, false, false] rfl rfl (any_of HT_.out (by kernel_rfl)) (fun _ _ _ h => h) (Or.inl ⟨by rfl, ?_⟩) ?_ ?_
      rotate_left
      ·
       intro w'
       go_simp
       with_reducible rfl
      rotate_left
      ·
       simp only [Act.put, List.setIfInBounds_toArray, List.set_cons_zero, List.set_cons_succ, i64_w, i32_w]
       rfl
      refine pure_ (i := 1) (N := some 62) (v := ?_) (a' := ?_) #[true, true, false, false, false, false, false, false, false, false, false, false, false] rfl rfl (any_of HT_.out (by kernel_rfl)) (fun _ _ _ h => h) (Or.inl ⟨by rfl, ?_⟩) ?_ ?_
      rotate_left
      ·
       intro w'
       go_simp
       with_reducible rfl
      rotate_left
      ·
       simp only [Act.put, List.setIfInBounds_toArray, List.set_cons_zero, List.set_cons_succ, i64_w, i32_w]
       rfl
      refine pure_ (i := 2) (N := some 63) (v := ?_) (a' := ?_) #[true, true, true, false, false, false, false, false, false, false, false, false, false] rfl rfl (any_of HT_.out (by kernel_rfl)) (fun _ _ _ h => h) (Or.inl ⟨by rfl, ?_⟩) ?_ ?_
      rotate_left
      ·
       intro w'
       go_simp
       with_reducible rfl
      rotate_left
      ·
       simp only [Act.put, List.setIfInBounds_toArray, List.set_cons_zero, List.set_cons_succ, i64_w, i32_w]
       rfl
      refine pure_ (i := 3) (N := some 64) (v := ?_) (a' := ?_) #[true, true, true, true, false, false, false, false, false, false, false, false, false] rfl rfl (any_of HT_.out (by kernel_rfl)) (fun _ _ _ h => h) (Or.inl ⟨by rfl, ?_⟩) ?_ ?_
      rotate_left
      ·
       intro w'
       go_simp
       with_reducible rfl
      rotate_left
      ·
       simp only [Act.put, List.setIfInBounds_toArray, List.set_cons_zero, List.set_cons_succ, i64_w, i32_w]
       rfl
      refine pure_ (i := 4) (N := some 65) (v := ?_) (a' := ?_) #[true, true, true, true, true, false, false, false, false, false, false, false, false] rfl rfl (any_of HT_.out (by kernel_rfl)) (fun _ _ _ h => h) (Or.inl ⟨by rfl, ?_⟩) ?_ ?_
      rotate_left
      ·
       intro w'
       go_simp
       with_reducible rfl
      rotate_left
      ·
       simp only [Act.put, List.setIfInBounds_toArray, List.set_cons_zero, List.set_cons_succ, i64_w, i32_w]
       rfl
      refine pure_ (i := 5) (N := some 66) (v := ?_) (a' := ?_) #[true, true, true, true, true, true, false, false, false, false, false, false, false] rfl rfl (any_of HT_.out (by kernel_rfl)) (fun _ _ _ h => h) (Or.inl ⟨by rfl, ?_⟩) ?_ ?_
      rotate_left
      ·
       intro w'
       go_simp
       with_reducible rfl
      rotate_left
      ·
       simp only [Act.put, List.setIfInBounds_toArray, List.set_cons_zero, List.set_cons_succ, i64_w, i32_w]
       rfl
      refine pure_ (i := 6) (N := some 67) (v := ?_) (a' := ?_) #[true, true, true, true, true, true, true, false, false, false, false, false, false] rfl rfl (any_of HT_.out (by kernel_rfl)) (fun _ _ _ h => h) (Or.inl ⟨by rfl, ?_⟩) ?_ ?_
      rotate_left
      ·
       intro w'
       go_simp
       with_reducible rfl
      rotate_left
      ·
       simp only [Act.put, List.setIfInBounds_toArray, List.set_cons_zero, List.set_cons_succ, i64_w, i32_w]
       rfl
      refine pure_ (i := 7) (N := some 68) (v := ?_) (a' := ?_) #[true, true, true, true, true, true, true, true, false, false, false, false, false] rfl rfl (any_of HT_.out (by kernel_rfl)) (fun _ _ _ h => h) (Or.inl ⟨by rfl, ?_⟩) ?_ ?_
      rotate_left
      ·
       intro w'
       go_simp
       with_reducible rfl
      rotate_left
      ·
       simp only [Act.put, List.setIfInBounds_toArray, List.set_cons_zero, List.set_cons_succ, i64_w, i32_w]
       rfl
      refine pure_ (i := 8) (N := some 69) (v := ?_) (a' := ?_) #[true, true, true, true, true, true, true, true, true, false, false, false, false] rfl rfl (any_of HT_.out (by kernel_rfl)) (fun _ _ _ h => h) (Or.inl ⟨by rfl, ?_⟩) ?_ ?_
      rotate_left
      ·
       intro w'
       go_simp
       with_reducible rfl
      rotate_left
      ·
       simp only [Act.put, List.setIfInBounds_toArray, List.set_cons_zero, List.set_cons_succ, i64_w, i32_w]
       rfl
      refine take_ (i := 9) (N := some 70) (v := ?_) (a' := ?_) #[true, true, true, true, true, true, true, true, true, true, false, false, false] rfl rfl (take_ofW HT_.out HW_.out (by kernel_rfl)) (fun _ _ _ h => h) (Or.inl ⟨by rfl, ?_⟩) hHeld ?_ ?_
      rotate_left
      ·
       rintro w' ⟨⟨f0_, f1_, f2_, f3_⟩, _⟩
       go_simp
       with_reducible rfl
      rotate_left
      ·
       simp only [Act.put, List.setIfInBounds_toArray, List.set_cons_zero, List.set_cons_succ, i64_w, i32_w]
       rfl
      refine pure_ (i := 10) (N := some 71) (v := ?_) (a' := ?_) #[true, true, true, true, true, true, true, true, true, true, true, false, false] rfl rfl (any_of HT_.out (by kernel_rfl)) (fun _ _ _ h => h) (Or.inl ⟨by rfl, ?_⟩) ?_ ?_
      rotate_left
      ·
       intro w'
       go_simp
       with_reducible rfl
      rotate_left
      ·
       simp only [Act.put, List.setIfInBounds_toArray, List.set_cons_zero, List.set_cons_succ, i64_w, i32_w]
       rfl
      refine pure_ (i := 11) (N := some 4) (v := ?_) (a' := ?_) #[true, true, true, true, true, true, true, true, true, true, true, true, false] rfl rfl (any_of HT_.out (by kernel_rfl)) (fun _ _ _ h => h) (Or.inl ⟨by rfl, ?_⟩) ?_ ?_
      rotate_left
      ·
       intro w'
       go_simp
       with_reducible rfl
      rotate_left
      ·
       simp only [Act.put, List.setIfInBounds_toArray, List.set_cons_zero, List.set_cons_succ, i64_w, i32_w]
       rfl
      refine pure_ (i := 12) (N := some 5) (v := ?_) (a' := ?_) #[true, true, true, true, true, true, true, true, true, true, true, true, true] rfl rfl (any_of HT_.out (by kernel_rfl)) (fun _ _ _ h => h) (Or.inl ⟨by rfl, ?_⟩) ?_ ?_
      rotate_left
      ·
       intro w'
       go_simp
       with_reducible rfl
      rotate_left
      ·
       simp only [Act.put, List.setIfInBounds_toArray, List.set_cons_zero, List.set_cons_succ, i64_w, i32_w]
       rfl
      refine done_ (done_of HT_.out (by kernel_rfl)) ?_
      try go_wp2
      go_ret2
      exact ⟨by first | rfl | (simp [errW_none, errW_some] <;> rfl) | (simp [*, errW_none, errW_some] <;> rfl), by repeat (first | (with_reducible first | exact HB.out | apply ze | apply zd | apply zf) | exact HB.out)⟩
     ·
      rw [if_neg c17] at H
      exact absurd H (by simp)
    ·
     rw [if_neg c16] at H
     exact absurd H (by simp)

end Go.Proofs.Ytbaaedpjaanjnaa.Prt

namespace Go.Proofs.Ytbaaedpjaanjnaa.Prt
open Go.RowKit Go.Proofs.YtbaaedpjaanjnaaW.PrintWords Go.Proofs.YtbaaedpjaanjnaaW.PrintLast Go.Proofs.YtbaaedpjaanjnaaW.PrintMore
attribute [local go_sem] max2_int min2_int max_two min_two max_three min_three max_four min_four   -- for this text's walks alone
set_option linter.unusedVariables false
set_option linter.unusedSimpArgs false

/-! ### alloc_worth: function 33 -/
def alloc_worth.f (l0 : List Int) (a1 : Int) (l2 : List Int) (a3 : Int) : Option (Int) := if 0 ≤ a1 then (if a1 < (l0.length : Int) then (if a1 < (l2.length : Int) then ((band_Width.f a1).bind fun t131 => (if t131 = 0 then (none) else (some (wrap64 ((wrap64 (8 * (rd l0 a1))) - (wrap64 (Int.tdiv (wrap64 (16 * (rd l2 a1))) t131))))))) else (none)) else (none)) else (none)
def alloc_worth.T1 : Bool × List (List Nat × List Nat) := (true, [([], []), ([0], [0]), ([1], [1]), ([2], [2]), ([], []), ([3, 4], [3, 4]), ([5], [5]), ([6], [6]), ([], []), ([8], [8]), ([9], [9]), ([10], [10]), ([], []), ([11, 12], [11, 12]), ([13], [13]), ([14], [14]), ([], []), ([16], [16]), ([15, 17], [15, 17]), ([7, 18], [7, 18]), ([19, 17, 0, 1, 2, 3, 4, 5, 6, 7, 8, 9, 10, 11, 12, 13, 14, 15, 16, 17, 18, 19], [19])])
def alloc_worth.B1 : List Nat := [0, 1, 3, 7, 0, 31, 63, 127, 0, 256, 768, 1792, 0, 7936, 16128, 32512, 0, 65536, 261888, 524287, 1048575]
theorem alloc_worth.tab1 : rtab .any (opsOf Try.f33 1) = alloc_worth.T1 := by kernel_rfl
theorem alloc_worth.bits1 : waitsOk alloc_worth.T1.2 alloc_worth.B1 = true := by kernel_rfl
set_option maxHeartbeats 8000000 in
set_option maxRecDepth 100000 in
theorem alloc_worth.calls (B : Nat) (A0 : Option Addr) (c0 : Nat) (l0 : List Int) (a1 : Int) (A2 : Option Addr) (c2 : Nat) (l2 : List Int) (a3 : Int) (r : Int) (w : World) (hr0 : Kd.C (Kd.int .i64) w A0 l0.length l0) (hc0 : l0.length ≤ c0) (hr2 : Kd.C (Kd.int .i64) w A2 l2.length l2) (hc2 : l2.length ≤ c2) (hs : w.heap[B]? = some (.cells #[.slice A0 l0.length c0, .slice A2 l2.length c2, .int .i64 a3, .func (.func 25) #[] #[]] 44 (0, 0))) (h : alloc_worth.f l0 a1 l2 a3 = some r) :
  Calls Try.prog 33 #[.pointer (some ⟨B, 0, none⟩), .int .i64 a1] w fun e w' => e = .returned (.int .i64 r) ∧ Below w.heap.size w w' := by
 have HR0 := zm hr0
 have HC0 := zm hc0
 clear hr0 hc0
 have HR2 := zm hr2
 have HC2 := zm hc2
 clear hr2 hc2
 have hSt : ∀ W, Below w.heap.size w W → (W.cell? ⟨B, 0, none⟩ = some (.slice A0 l0.length c0) ∧ W.cell? ⟨B, 1, none⟩ = some (.slice A2 l2.length c2) ∧ W.cell? ⟨B, 2, none⟩ = some (.int .i64 a3) ∧ W.cell? ⟨B, 3, none⟩ = some (.func (.func 25) #[] #[])) := fun W hb => by
  have h9 := zF hs hb
  exact ⟨(zs h9 0).trans rfl, (zs h9 1).trans rfl, (zs h9 2).trans rfl, (zs h9 3).trans rfl⟩
 have HST := zm hSt
 clear hSt hs
 have HB := zm (Below.refl w.heap.size w)
 have H : (if 0 ≤ a1 then (if a1 < (l0.length : Int) then (if a1 < (l2.length : Int) then ((band_Width.f a1).bind fun t131 => (if t131 = 0 then (none) else (some (wrap64 ((wrap64 (8 * (rd l0 a1))) - (wrap64 (Int.tdiv (wrap64 (16 * (rd l2 a1))) t131))))))) else (none)) else (none)) else (none)) = some r := h
 clear h
 by_cases c5 : 0 ≤ a1
 ·
  rw [if_pos c5] at H
  have c5b0 : decide (0 ≤ a1) = true := decide_eq_true c5
  clear c5
  by_cases c6 : a1 < (l0.length : Int)
  ·
   rw [if_pos c6] at H
   have c6b0 : decide (a1 < (l0.length : Int)) = true := decide_eq_true c6
   clear c6
   by_cases c7 : a1 < (l2.length : Int)
   ·
    rw [if_pos c7] at H
    have c7b0 : decide (a1 < (l2.length : Int)) = true := decide_eq_true c7
    clear c7
    replace H := Option.bind_eq_some_iff.mp H
    obtain ⟨t131, A80, H⟩ := H
    replace H : (if t131 = 0 then (none) else (some (wrap64 ((wrap64 (8 * (rd l0 a1))) - (wrap64 (Int.tdiv (wrap64 (16 * (rd l2 a1))) t131)))))) = some r := H
    have A8 := zm A80
    clear A80
    by_cases c9 : t131 = 0
    ·
     rw [if_pos c9] at H
     exact absurd H (by simp)
    ·
     rw [if_neg c9] at H
     have c9b0 : (t131 == 0) = false := beq_eq_false_iff_ne.mpr c9
     have c9b1 : (t131 != 0) = true := bne_iff_ne.mpr c9
     obtain rfl := Option.some.inj H
     go_enter Try.func33, Try.ntmps33
     try go_wp2
     have n0_ := zm (zf HB.out)
     clear HB
     have HB := n0_
     clear n0_
     have p129 : 0 ≤ (a1 : Int) := of_decide_eq_true (by first | (with_reducible assumption) | assumption)
     have q129 : a1 < (l0.length : Int) := of_decide_eq_true (by first | (with_reducible assumption) | assumption)
     obtain ⟨ad129, e129, hx129_0⟩ := Kd.at_int HR0.out a1 p129 q129
     have hw129_0 := hx129_0
     cases e129
     replace hx129_0 := (HB.out.cell (zb w _ hx129_0)).trans hx129_0
     replace p129 := eq_true p129
     replace q129 := eq_true q129
     have p130 : 0 ≤ (a1 : Int) := of_decide_eq_true (by first | (with_reducible assumption) | assumption)
     have q130 : a1 < (l2.length : Int) := of_decide_eq_true (by first | (with_reducible assumption) | assumption)
     obtain ⟨ad130, e130, hx130_0⟩ := Kd.at_int HR2.out a1 p130 q130
     have hw130_0 := hx130_0
     cases e130
     replace hx130_0 := (HB.out.cell (zb w _ hx130_0)).trans hx130_0
     replace p130 := eq_true p130
     replace q130 := eq_true q130
     refine start_ (n := 21) (S := fun w' => (w'.cell? ⟨B, 0, none⟩ = some (.slice (some ad129) l0.length c0) ∧ w'.cell? ⟨B, 1, none⟩ = some (.slice (some ad130) l2.length c2) ∧ w'.cell? ⟨B, 2, none⟩ = some (.int .i64 a3) ∧ w'.cell? ⟨B, 3, none⟩ = some (.func (.func 25) #[] #[])) ∧ (w'.cell? (ad129.add (a1).toNat) = some (.int .i64 (rd l0 a1)) ∧ w'.cell? (ad130.add (a1).toNat) = some (.int .i64 (rd l2 a1)))) (ds := []) #[false, false, false, false, false, false, false, false, false, false, false, false, false, false, false, false, false, false, false, false, false] (by kernel_rfl) rfl rfl ⟨HST.out _ HB.out, ⟨((HB.out.cell (zb w _ hw129_0)).trans hw129_0), ((HB.out.cell (zb w _ hw130_0)).trans hw130_0)⟩⟩ (fun hHeld => ?_); refine with_tabW alloc_worth.tab1 alloc_worth.bits1 (fun HT_ HW_ => ?_)
     generalize w.drew = w10 at HB hx129_0 hx130_0 hHeld ⊢
     refine pure_ (i := 0) (N := some 5) (v := ?_) (a' := ?_) #[true, false, false, false, false, false, false, false, false, false, false, false, false, false, false, false, false, false, false, false, false] rfl rfl (any_of HT_.out (by kernel_rfl)) (fun _ _ _ h => h) (Or.inl ⟨by rfl, ?_⟩) ?_ ?_
     rotate_left
     ·
      intro w'
      go_simp
      with_reducible rfl
     rotate_left
     ·
      simp only [Act.put, List.setIfInBounds_toArray, List.set_cons_zero, List.set_cons_succ, i64_w, i32_w]
      rfl
     refine pure_ (i := 1) (N := some 6) (v := ?_) (a' := ?_) #[true, true, false, false, false, false, false, false, false, false, false, false, false, false, false, false, false, false, false, false, false] rfl rfl (any_of HT_.out (by kernel_rfl)) (fun _ _ _ h => h) (Or.inl ⟨by rfl, ?_⟩) ?_ ?_
     rotate_left
     ·
      intro w'
      go_simp
      with_reducible rfl
     rotate_left
     ·
      simp only [Act.put, List.setIfInBounds_toArray, List.set_cons_zero, List.set_cons_succ, i64_w, i32_w]
      rfl
     refine pure_ (i := 2) (N := some 7) (v := ?_) (a' := ?_) #[true, true, true, false, false, false, false, false, false, false, false, false, false, false, false, false, false, false, false, false, false] rfl rfl (any_of HT_.out (by kernel_rfl)) (fun _ _ _ h => h) (Or.inl ⟨by rfl, ?_⟩) ?_ ?_
     rotate_left
     ·
      intro w'
      go_simp
      with_reducible rfl
     rotate_left
     ·
      simp only [Act.put, List.setIfInBounds_toArray, List.set_cons_zero, List.set_cons_succ, i64_w, i32_w]
      rfl
     refine take_ (i := 3) (N := some 8) (v := ?_) (a' := ?_) #[true, true, true, true, false, false, false, false, false, false, false, false, false, false, false, false, false, false, false, false, false] rfl rfl (take_ofW HT_.out HW_.out (by kernel_rfl)) (fun _ _ _ h => h) (Or.inl ⟨by rfl, ?_⟩) hHeld ?_ ?_
     rotate_left
     ·
      rintro w' ⟨⟨f0_, f1_, f2_, f3_⟩, _⟩
      go_simp
      with_reducible rfl
     rotate_left
     ·
      simp only [Act.put, List.setIfInBounds_toArray, List.set_cons_zero, List.set_cons_succ, i64_w, i32_w]
      rfl
     refine pure_ (i := 4) (N := some 9) (v := ?_) (a' := ?_) #[true, true, true, true, true, false, false, false, false, false, false, false, false, false, false, false, false, false, false, false, false] rfl rfl (any_of HT_.out (by kernel_rfl)) (fun _ _ _ h => h) (Or.inl ⟨by rfl, ?_⟩) ?_ ?_
     rotate_left
     ·
      intro w'
      go_simp
      with_reducible rfl
     rotate_left
     ·
      simp only [Act.put, List.setIfInBounds_toArray, List.set_cons_zero, List.set_cons_succ, i64_w, i32_w]
      rfl
     refine pure_ (i := 5) (N := some 10) (v := ?_) (a' := ?_) #[true, true, true, true, true, true, false, false, false, false, false, false, false, false, false, false, false, false, false, false, false] rfl rfl (any_of HT_.out (by kernel_rfl)) (fun _ _ _ h => h) (Or.inl ⟨by rfl, ?_⟩) ?_ ?_
     rotate_left
     ·
      intro w'
      go_simp
      with_reducible rfl
     rotate_left
     ·
      simp only [Act.put, List.setIfInBounds_toArray, List.set_cons_zero, List.set_cons_succ, i64_w, i32_w]
      rfl
     refine pure_ (i := 8) (N := some 13) (v := ?_) (a' := ?_) #[true, true, true, true, true, true, false, false, true, false, false, false, false, false, false, false, false, false, false, false, false] rfl rfl (any_of HT_.out (by kernel_rfl)) (fun _ _ _ h => h) (Or.inl ⟨by rfl, ?_⟩) ?_ ?_
     rotate_left
     ·
      intro w'
      go_simp
      with_reducible rfl
     rotate_left
     ·
      simp only [Act.put, List.setIfInBounds_toArray, List.set_cons_zero, List.set_cons_succ, i64_w, i32_w]
      rfl
     refine pure_ (i := 9) (N := some 14) (v := ?_) (a' := ?_) #[true, true, true, true, true, true, false, false, true, true, false, false, false, false, false, false, false, false, false, false, false] rfl rfl (any_of HT_.out (by kernel_rfl)) (fun _ _ _ h => h) (Or.inl ⟨by rfl, ?_⟩) ?_ ?_
     rotate_left
     ·
      intro w'
      go_simp
      with_reducible rfl
     rotate_left
     ·
      simp only [Act.put, List.setIfInBounds_toArray, List.set_cons_zero, List.set_cons_succ, i64_w, i32_w]
      rfl
     refine pure_ (i := 10) (N := some 15) (v := ?_) (a' := ?_) #[true, true, true, true, true, true, false, false, true, true, true, false, false, false, false, false, false, false, false, false, false] rfl rfl (any_of HT_.out (by kernel_rfl)) (fun _ _ _ h => h) (Or.inl ⟨by rfl, ?_⟩) ?_ ?_
     rotate_left
     ·
      intro w'
      go_simp
      with_reducible rfl
     rotate_left
     ·
      simp only [Act.put, List.setIfInBounds_toArray, List.set_cons_zero, List.set_cons_succ, i64_w, i32_w]
      rfl
     refine take_ (i := 11) (N := some 16) (v := ?_) (a' := ?_) #[true, true, true, true, true, true, false, false, true, true, true, true, false, false, false, false, false, false, false, false, false] rfl rfl (take_ofW HT_.out HW_.out (by kernel_rfl)) (fun _ _ _ h => h) (Or.inl ⟨by rfl, ?_⟩) hHeld ?_ ?_
     rotate_left
     ·
      rintro w' ⟨⟨f0_, f1_, f2_, f3_⟩, _⟩
      go_simp
      with_reducible rfl
     rotate_left
     ·
      simp only [Act.put, List.setIfInBounds_toArray, List.set_cons_zero, List.set_cons_succ, i64_w, i32_w]
      rfl
     refine pure_ (i := 12) (N := some 17) (v := ?_) (a' := ?_) #[true, true, true, true, true, true, false, false, true, true, true, true, true, false, false, false, false, false, false, false, false] rfl rfl (any_of HT_.out (by kernel_rfl)) (fun _ _ _ h => h) (Or.inl ⟨by rfl, ?_⟩) ?_ ?_
     rotate_left
     ·
      intro w'
      go_simp
      with_reducible rfl
     rotate_left
     ·
      simp only [Act.put, List.setIfInBounds_toArray, List.set_cons_zero, List.set_cons_succ, i64_w, i32_w]
      rfl
     refine pure_ (i := 13) (N := some 18) (v := ?_) (a' := ?_) #[true, true, true, true, true, true, false, false, true, true, true, true, true, true, false, false, false, false, false, false, false] rfl rfl (any_of HT_.out (by kernel_rfl)) (fun _ _ _ h => h) (Or.inl ⟨by rfl, ?_⟩) ?_ ?_
     rotate_left
     ·
      intro w'
      go_simp
      with_reducible rfl
     rotate_left
     ·
      simp only [Act.put, List.setIfInBounds_toArray, List.set_cons_zero, List.set_cons_succ, i64_w, i32_w]
      rfl
     refine pure_ (i := 16) (N := some 21) (v := ?_) (a' := ?_) #[true, true, true, true, true, true, false, false, true, true, true, true, true, true, false, false, true, false, false, false, false] rfl rfl (any_of HT_.out (by kernel_rfl)) (fun _ _ _ h => h) (Or.inl ⟨by rfl, ?_⟩) ?_ ?_
     rotate_left
     ·
      intro w'
      go_simp
      with_reducible rfl
     rotate_left
     ·
      simp only [Act.put, List.setIfInBounds_toArray, List.set_cons_zero, List.set_cons_succ, i64_w, i32_w]
      rfl
     refine take_ (i := 6) (N := some 11) (v := ?_) (a' := ?_) #[true, true, true, true, true, true, true, false, true, true, true, true, true, true, false, false, true, false, false, false, false] rfl rfl (take_ofW HT_.out HW_.out (by kernel_rfl)) (fun _ _ _ h => h) (Or.inl ⟨by rfl, ?_⟩) hHeld ?_ ?_
     rotate_left
     ·
      rintro w' ⟨⟨f0_, f1_, f2_, f3_⟩, s0, s1⟩
      go_simp
      with_reducible rfl
     rotate_left
     ·
      simp only [Act.put, List.setIfInBounds_toArray, List.set_cons_zero, List.set_cons_succ, i64_w, i32_w]
      rfl
     refine pure_ (i := 7) (N := some 12) (v := ?_) (a' := ?_) #[true, true, true, true, true, true, true, true, true, true, true, true, true, true, false, false, true, false, false, false, false] rfl rfl (any_of HT_.out (by kernel_rfl)) (fun _ _ _ h => h) (Or.inl ⟨by rfl, ?_⟩) ?_ ?_
     rotate_left
     ·
      intro w'
      go_simp
      with_reducible rfl
     rotate_left
     ·
      simp only [Act.put, List.setIfInBounds_toArray, List.set_cons_zero, List.set_cons_succ, i64_w, i32_w]
      rfl
     refine take_ (i := 14) (N := some 19) (v := ?_) (a' := ?_) #[true, true, true, true, true, true, true, true, true, true, true, true, true, true, true, false, true, false, false, false, false] rfl rfl (take_ofW HT_.out HW_.out (by kernel_rfl)) (fun _ _ _ h => h) (Or.inl ⟨by rfl, ?_⟩) hHeld ?_ ?_
     rotate_left
     ·
      rintro w' ⟨⟨f0_, f1_, f2_, f3_⟩, s0, s1⟩
      go_simp
      with_reducible rfl
     rotate_left
     ·
      simp only [Act.put, List.setIfInBounds_toArray, List.set_cons_zero, List.set_cons_succ, i64_w, i32_w]
      rfl
     refine pure_ (i := 15) (N := some 20) (v := ?_) (a' := ?_) #[true, true, true, true, true, true, true, true, true, true, true, true, true, true, true, true, true, false, false, false, false] rfl rfl (any_of HT_.out (by kernel_rfl)) (fun _ _ _ h => h) (Or.inl ⟨by rfl, ?_⟩) ?_ ?_
     rotate_left
     ·
      intro w'
      go_simp
      with_reducible rfl
     rotate_left
     ·
      simp only [Act.put, List.setIfInBounds_toArray, List.set_cons_zero, List.set_cons_succ, i64_w, i32_w]
      rfl
     refine one_ (i := 17) (N := some 22) #[true, true, true, true, true, true, true, true, true, true, true, true, true, true, true, true, true, true, false, false, false] rfl rfl (one_of HT_.out (by kernel_rfl)) (by decide) (fun K hK => ?_)
     refine goes_ Try.func31 (by kernel_rfl) rfl #[.int .i64 a1] (by rfl) rfl rfl (by (try simp only [List.map_toArray, List.map_cons, List.map_nil]); first | done | rfl | (simp only [List.length_drop, List.length_take]; rfl)) ?_
     with_reducible refine (band_Width.calls a1 t131 _ A8.out).mono ?_
     rintro e w11 ⟨rfl, hb⟩
     refine ⟨_, rfl, ?_⟩
     have n0_ := zm (zJ (by repeat (first | (with_reducible first | exact HB.out | apply ze | apply zd | apply zf) | exact HB.out)) hb)
     clear HB
     have HB := n0_
     clear n0_
     (try clear hb)
     (try clear hb2)
     (try clear hk)
     (try clear hi)
     refine hK.out _ _ ⟨HST.out _ HB.out, ⟨((HB.out.cell (zb w _ hw129_0)).trans hw129_0), ((HB.out.cell (zb w _ hw130_0)).trans hw130_0)⟩⟩ (fun hHeld => ?_)
     clear hK K
     refine norm_ (a' := ?_) ?_ ?_
     rotate_left
     ·
      show Act.put _ (some 22) _ = _
      simp only [Act.put, List.setIfInBounds_toArray, List.set_cons_zero, List.set_cons_succ, i64_w, i32_w]
      rfl
     refine pure_ (i := 18) (N := some 23) (v := ?_) (a' := ?_) #[true, true, true, true, true, true, true, true, true, true, true, true, true, true, true, true, true, true, true, false, false] rfl rfl (any_of HT_.out (by kernel_rfl)) (fun _ _ _ h => h) (Or.inl ⟨by rfl, ?_⟩) ?_ ?_
     rotate_left
     ·
      intro w'
      go_simp
      with_reducible rfl
     rotate_left
     ·
      simp only [Act.put, List.setIfInBounds_toArray, List.set_cons_zero, List.set_cons_succ, i64_w, i32_w]
      rfl
     refine pure_ (i := 19) (N := some 24) (v := ?_) (a' := ?_) #[true, true, true, true, true, true, true, true, true, true, true, true, true, true, true, true, true, true, true, true, false] rfl rfl (any_of HT_.out (by kernel_rfl)) (fun _ _ _ h => h) (Or.inl ⟨by rfl, ?_⟩) ?_ ?_
     rotate_left
     ·
      intro w'
      go_simp
      with_reducible rfl
     rotate_left
     ·
      simp only [Act.put, List.setIfInBounds_toArray, List.set_cons_zero, List.set_cons_succ, i64_w, i32_w]
      rfl
     refine pure_ (i := 20) (N := some 4) (v := ?_) (a' := ?_) #[true, true, true, true, true, true, true, true, true, true, true, true, true, true, true, true, true, true, true, true, true] rfl rfl (any_of HT_.out (by kernel_rfl)) (fun _ _ _ h => h) (Or.inl ⟨by rfl, ?_⟩) ?_ ?_
     rotate_left
     ·
      intro w'
      go_simp
      with_reducible rfl
     rotate_left
     ·
      simp only [Act.put, List.setIfInBounds_toArray, List.set_cons_zero, List.set_cons_succ, i64_w, i32_w]
      rfl
     refine done_ (done_of HT_.out (by kernel_rfl)) ?_
     try go_wp2
     go_ret
     exact ⟨by first | rfl | (simp [errW_none, errW_some] <;> rfl) | (simp [*, errW_none, errW_some] <;> rfl), by repeat (first | (with_reducible first | exact HB.out | apply ze | apply zd | apply zf) | exact HB.out)⟩
   ·
    rw [if_neg c7] at H
    exact absurd H (by simp)
  ·
   rw [if_neg c6] at H
   exact absurd H (by simp)
 ·
  rw [if_neg c5] at H
  exact absurd H (by simp)

end Go.Proofs.Ytbaaedpjaanjnaa.Prt

namespace Go.Proofs.Ytbaaedpjaanjnaa.Prt
open Go.RowKit Go.Proofs.YtbaaedpjaanjnaaW.PrintWords Go.Proofs.YtbaaedpjaanjnaaW.PrintLast Go.Proofs.YtbaaedpjaanjnaaW.PrintMore
attribute [local go_sem] max2_int min2_int max_two min_two max_three min_three max_four min_four   -- for this text's walks alone
set_option linter.unusedVariables false
set_option linter.unusedSimpArgs false

/-! ### alloc_give: function 26 -/
def alloc_give.l0 : Nat → List Int → List Int → Int → Int → Int → Option (Int × Bool × List Int)
 | 0, _, _, _, _, _ => none
 | k + 1, x0, x1, x2, x3, x9 => if x9 < 5 then ((alloc_cost.f k x0 x9 x1 x2).bind fun bt136 => (if bt136.2 = true then (if x3 < 0 then (alloc_give.l0 k x0 x1 x2 x9 (wrap64 (x9 + 1))) else ((alloc_worth.f x0 x9 x1 x2).bind fun t138 => ((alloc_worth.f x0 x3 x1 x2).bind fun t139 => (if t138 > t139 then (alloc_give.l0 k x0 x1 x2 x9 (wrap64 (x9 + 1))) else (alloc_give.l0 k x0 x1 x2 x3 (wrap64 (x9 + 1))))))) else (alloc_give.l0 k x0 x1 x2 x3 (wrap64 (x9 + 1))))) else (if x3 < 0 then (some (x2, false, x1)) else ((alloc_cost.f k x0 x3 x1 x2).bind fun bt132 => (if 0 ≤ x3 then (if x3 < (x1.length : Int) then (some (wrap64 (x2 - bt132.1), true, (x1.set (x3 : Int).toNat (wrap64 ((rd x1 x3) + 1))))) else (none)) else (none))))
def alloc_give.f (k : Nat) (l0 : List Int) (l1 : List Int) (a2 : Int) : Option (Int × Bool × List Int) := alloc_give.l0 k l0 l1 a2 (-1) 0
theorem alloc_give.mono_l : ∀ k, (∀ y0 y1 y2 y3 y4, LeO (alloc_give.l0 k y0 y1 y2 y3 y4) (alloc_give.l0 (k + 1) y0 y1 y2 y3 y4))
 | 0 => fun _ _ _ _ _ r h => by simp [alloc_give.l0] at h
 | k + 1 => by
  have ih0 := alloc_give.mono_l k
  ·
   intro y0 y1 y2 y3 y4
   unfold alloc_give.l0
   repeat' first
   | (with_reducible exact ih0 _ _ _ _ _)
   | (with_reducible exact alloc_cost.mono _ _ _ _ _)
   | (with_reducible exact LeO.refl _)
   | (with_reducible exact LeO.none _)
   | (with_reducible refine LeO.ite ?_ ?_)
   | (with_reducible refine LeO.bind ?_ (fun _ => ?_))
   | exact ih0 _ _ _ _ _
   | exact alloc_cost.mono _ _ _ _ _
   | exact LeO.none _
   | refine LeO.ite ?_ ?_
   | refine LeO.bind ?_ (fun _ => ?_)
theorem alloc_give.mono : ∀ a0 a1 a2 k, LeO (alloc_give.f k a0 a1 a2) (alloc_give.f (k + 1) a0 a1 a2) := by
 intro a0 a1 a2 k
 have ih0 := alloc_give.mono_l k
 unfold alloc_give.f
 repeat' first
   | (with_reducible exact ih0 _ _ _ _ _)
   | (with_reducible exact alloc_cost.mono _ _ _ _ _)
   | (with_reducible exact LeO.refl _)
   | (with_reducible exact LeO.none _)
   | (with_reducible refine LeO.ite ?_ ?_)
   | (with_reducible refine LeO.bind ?_ (fun _ => ?_))
   | exact ih0 _ _ _ _ _
   | exact alloc_cost.mono _ _ _ _ _
   | exact LeO.none _
   | refine LeO.ite ?_ ?_
   | refine LeO.bind ?_ (fun _ => ?_)
set_option maxHeartbeats 8000000 in
set_option maxRecDepth 100000 in
theorem alloc_give.calls (k : Nat) (B : Nat) (A0 : Option Addr) (c0 : Nat) (l0 : List Int) (P1_ : Nat → Prop) (u9000_ : Value) (l1 : List Int) (a2 : Int) (r1 : Int) (r2 : Bool) (r3 : List Int) (w0 w : World) (hB : Below w0.heap.size w0 w) (hr0 : ∀ W_, Kept w W_ (fun k_ => P1_ k_) → Kd.C (Kd.int .i64) W_ A0 l0.length l0) (hc0 : l0.length ≤ c0) (ho1 : Kd.R (Kd.int .i64) 3 w w0.heap.size P1_ u9000_ l1) (hPB : ¬ P1_ B) (hB0 : w0.heap.size ≤ B) (hs : w.heap[B]? = some (.cells #[.slice A0 l0.length c0, u9000_, .int .i64 a2, .func (.func 25) #[] #[]] 44 (0, 0))) (h : alloc_give.f k l0 l1 a2 = some (r1, r2, r3)) :
  Calls Try.prog 26 #[.pointer (some ⟨B, 0, none⟩)] w fun e w' => e = .returned (.bool r2) ∧ Kd.R (Kd.int .i64) 3 w' w0.heap.size (fun k_ => (P1_ k_ ∨ w.heap.size ≤ k_)) u9000_ r3 ∧ Below w0.heap.size w0 w' ∧ Kept w w' (fun k_ => P1_ k_ ∨ k_ = B) ∧ w'.heap[B]? = some (.cells #[.slice A0 l0.length c0, u9000_, .int .i64 r1, .func (.func 25) #[] #[]] 44 (0, 0)) := by
 have HR0 := zm hr0
 have HC0 := zm hc0
 have HPB := zm hPB
 have HB0 := zm hB0
 have HBL := zm (zD hs)
 have HS := zm hs
 have HNE : Aside0 (∀ k_, (P1_ k_ ∨ w.heap.size ≤ k_) → k_ ≠ B) := ⟨fun k_ hk e_ => by
  subst e_
  exact hk.elim hPB (fun h_ => Nat.lt_irrefl _ (zl (zD hs) h_))⟩
 clear hr0 hc0 hPB hB0 hs
 have HO1 := zm (show Kd.R (Kd.int .i64) 3 w w0.heap.size (fun k_ => (P1_ k_ ∨ w.heap.size ≤ k_)) u9000_ l1 from zG ho1 (fun k_ hk => (.inl hk)))
 have HK := zm (Kept.refl w (fun k_ => P1_ k_))
 have HW0 := zm hB.size
 have HB := zm hB
 clear hB
 have H : (alloc_give.l0 k l0 l1 a2 (-1) 0) = some (r1, r2, r3) := h
 clear h
 have H' := zm H
 clear H
 go_enter Try.func26, Try.ntmps26
 go_wp2
 go_loopg [3, 9] k (fun kq v3 v9 w' => ∃ (x3_1 : Int) (x9_1 : Int), v3 = .int .i64 x3_1 ∧ v9 = .int .i64 x9_1 ∧ Aside0 (alloc_give.l0 kq l0 l1 a2 x3_1 x9_1 = some (r1, r2, r3)) ∧ Aside0 (kq ≤ k) ∧ Aside0 (Kd.R (Kd.int .i64) 3 w' w0.heap.size (fun k_ => (P1_ k_ ∨ w.heap.size ≤ k_)) u9000_ l1) ∧ Aside0 (Kept w w' (fun k_ => P1_ k_)) ∧ Aside0 (Below w0.heap.size w0 w') ∧ Aside0 (w'.heap[B]? = some (.cells #[.slice A0 l0.length c0, u9000_, .int .i64 a2, .func (.func 25) #[] #[]] 44 (0, 0))))
 case atStart => exact ⟨((-1)), (0), (by first | rfl | (simp; done) | (simp [*]; done)), (by first | rfl | (simp; done) | (simp [*]; done)), H', ⟨Nat.le_refl _⟩, ⟨by (with_reducible repeat (first | apply zo | apply zp | apply zq)); exact HO1.out⟩, ⟨by repeat (first | (with_reducible first | exact HK.out | apply Kept.alloc | apply Kept.drewN | apply Kept.drew) | exact HK.out)⟩, ⟨by repeat (first | (with_reducible first | exact HB.out | apply ze | apply zd | apply zf) | exact HB.out)⟩, ⟨(by (with_reducible repeat (first | refine zh ?_ _ | refine zj ?_ | refine zi ?_ _)); exact HS.out)⟩⟩
 case round =>
  clear H'
  try clear c2
  try clear p2
  obtain ⟨x3_1, x9_1, rfl, rfl, HA, HK1, HO_1, HK, HB, HS⟩ := hrel
  cases gk with
  | zero => exact absurd HA.out (by simp [alloc_give.l0])
  | succ k1 =>
   have H := HA.out
   clear HA
   simp only [alloc_give.l0] at H
   by_cases c4 : x9_1 < 5
   ·
    rw [if_pos c4] at H
    have c4b0 : decide (x9_1 < 5) = true := decide_eq_true c4
    clear c4
    replace H := Option.bind_eq_some_iff.mp H
    obtain ⟨⟨t136, t137⟩, A50, H⟩ := H
    replace H : (if t137 = true then (if x3_1 < 0 then (alloc_give.l0 k1 l0 l1 a2 x9_1 (wrap64 (x9_1 + 1))) else ((alloc_worth.f l0 x9_1 l1 a2).bind fun t138 => ((alloc_worth.f l0 x3_1 l1 a2).bind fun t139 => (if t138 > t139 then (alloc_give.l0 k1 l0 l1 a2 x9_1 (wrap64 (x9_1 + 1))) else (alloc_give.l0 k1 l0 l1 a2 x3_1 (wrap64 (x9_1 + 1))))))) else (alloc_give.l0 k1 l0 l1 a2 x3_1 (wrap64 (x9_1 + 1)))) = some (r1, r2, r3) := H
    have A5 := zm A50
    clear A50
    by_cases c6 : t137 = true
    ·
     subst c6
     have H1 : (if x3_1 < 0 then (alloc_give.l0 k1 l0 l1 a2 x9_1 (wrap64 (x9_1 + 1))) else ((alloc_worth.f l0 x9_1 l1 a2).bind fun t138 => ((alloc_worth.f l0 x3_1 l1 a2).bind fun t139 => (if t138 > t139 then (alloc_give.l0 k1 l0 l1 a2 x9_1 (wrap64 (x9_1 + 1))) else (alloc_give.l0 k1 l0 l1 a2 x3_1 (wrap64 (x9_1 + 1))))))) = some (r1, r2, r3) := by rw [if_pos rfl] at H; exact H
     clear H
     have H := H1
     clear H1
     by_cases c7 : x3_1 < 0
     ·
      rw [if_pos c7] at H
      have c7b0 : decide (x3_1 < 0) = true := decide_eq_true c7
      clear c7
      have H' := zm H
      clear H
      obtain ⟨Ao8, co8, eo8⟩ := Kd.R_slice HO_1.out
      subst eo8
      go_wp2_with (first | ((with_reducible refine gate_callee (f := 32) rfl ?_); refine goesL_ (some 15) rfl rfl Try.func32 (by kernel_rfl) rfl #[.pointer (some ⟨B, 0, none⟩), .int .i64 x9_1] rfl (by (try simp only [List.map_toArray, List.map_cons, List.map_nil]); first | done | rfl | (simp only [List.length_drop, List.length_take]; rfl)) ?_; (with_reducible refine (alloc_cost.calls k1 B A0 c0 l0 x9_1 Ao8 co8 l1 a2 t136 true _ ?side1 ?side2 ?side3 ?side4 ?side5 A5.out).mono ?_); (case side1 => exact Kd.C_kept_now HR0.out (by repeat (first | (with_reducible first | exact HK.out | apply Kept.alloc | apply Kept.drewN | apply Kept.drew) | exact HK.out))); (case side2 => exact HC0.out); (case side3 => repeat (first | exact (Kd.R_reads' HO_1.out).2.2 | (with_reducible refine Kd.C_alloc ?_ _) | (with_reducible refine Kd.C_drewN ?_ _) | (with_reducible refine Kd.C_drew ?_))); (case side4 => exact (Kd.R_reads' HO_1.out).2.1); (case side5 => exact (by (with_reducible repeat (first | refine zh ?_ _ | refine zj ?_ | refine zi ?_ _)); exact HS.out)); rintro e w9 ⟨rfl, hb⟩; refine ⟨_, rfl, ?_⟩; have n9_ := zm (zF (by (with_reducible repeat (first | refine zh ?_ _ | refine zj ?_ | refine zi ?_ _)); exact HS.out) hb); have n0_ := zm (Kd.R_below (by (with_reducible repeat (first | apply zo | apply zp | apply zq)); exact HO_1.out) hb); have n1_ := zm (Kept.below (S := (fun k_ => P1_ k_)) (by repeat (first | (with_reducible first | exact HK.out | apply Kept.alloc | apply Kept.drewN | apply Kept.drew) | exact HK.out)) hb); have n2_ := zm (zJ (by repeat (first | (with_reducible first | exact HB.out | apply ze | apply zd | apply zf) | exact HB.out)) hb); clear HO_1; clear HK; clear HB; clear HS; have HS := n9_; have HO_1 := n0_; have HK := n1_; have HB := n2_; clear n0_ n1_ n2_ n9_; (try clear hb); (try clear hb2); (try clear hk); (try clear hi)))
      go_roundg k1
      case measure => have := HK1.out; omega
      case rel => exact ⟨(x9_1), (wrap64 (x9_1 + 1)), (by first | rfl | (simp; done) | (simp [*]; done)), (by first | rfl | (simp; done) | (simp [*]; done)), H', ⟨by have := HK1.out; omega⟩, ⟨by (with_reducible repeat (first | apply zo | apply zp | apply zq)); exact HO_1.out⟩, ⟨by repeat (first | (with_reducible first | exact HK.out | apply Kept.alloc | apply Kept.drewN | apply Kept.drew) | exact HK.out)⟩, ⟨by repeat (first | (with_reducible first | exact HB.out | apply ze | apply zd | apply zf) | exact HB.out)⟩, ⟨(by (with_reducible repeat (first | refine zh ?_ _ | refine zj ?_ | refine zi ?_ _)); exact HS.out)⟩⟩
     ·
      rw [if_neg c7] at H
      have c7b0 : decide (x3_1 < 0) = false := decide_eq_false c7
      clear c7
      replace H := Option.bind_eq_some_iff.mp H
      obtain ⟨t138, A100, H⟩ := H
      replace H : ((alloc_worth.f l0 x3_1 l1 a2).bind fun t139 => (if t138 > t139 then (alloc_give.l0 k1 l0 l1 a2 x9_1 (wrap64 (x9_1 + 1))) else (alloc_give.l0 k1 l0 l1 a2 x3_1 (wrap64 (x9_1 + 1))))) = some (r1, r2, r3) := H
      have A10 := zm A100
      clear A100
      replace H := Option.bind_eq_some_iff.mp H
      obtain ⟨t139, A110, H⟩ := H
      replace H : (if t138 > t139 then (alloc_give.l0 k1 l0 l1 a2 x9_1 (wrap64 (x9_1 + 1))) else (alloc_give.l0 k1 l0 l1 a2 x3_1 (wrap64 (x9_1 + 1)))) = some (r1, r2, r3) := H
      have A11 := zm A110
      clear A110
      by_cases c12 : t138 > t139
      ·
       rw [if_pos c12] at H
       have c12b0 : decide (t139 < t138) = true := decide_eq_true c12
       clear c12
       have H' := zm H
       clear H
       obtain ⟨Ao13, co13, eo13⟩ := Kd.R_slice HO_1.out
       subst eo13
       go_wp2_with (first | ((with_reducible refine gate_callee (f := 32) rfl ?_); refine goesL_ (some 15) rfl rfl Try.func32 (by kernel_rfl) rfl #[.pointer (some ⟨B, 0, none⟩), .int .i64 x9_1] rfl (by (try simp only [List.map_toArray, List.map_cons, List.map_nil]); first | done | rfl | (simp only [List.length_drop, List.length_take]; rfl)) ?_; (with_reducible refine (alloc_cost.calls k1 B A0 c0 l0 x9_1 Ao13 co13 l1 a2 t136 true _ ?side1 ?side2 ?side3 ?side4 ?side5 A5.out).mono ?_); (case side1 => exact Kd.C_kept_now HR0.out (by repeat (first | (with_reducible first | exact HK.out | apply Kept.alloc | apply Kept.drewN | apply Kept.drew) | exact HK.out))); (case side2 => exact HC0.out); (case side3 => repeat (first | exact (Kd.R_reads' HO_1.out).2.2 | (with_reducible refine Kd.C_alloc ?_ _) | (with_reducible refine Kd.C_drewN ?_ _) | (with_reducible refine Kd.C_drew ?_))); (case side4 => exact (Kd.R_reads' HO_1.out).2.1); (case side5 => exact (by (with_reducible repeat (first | refine zh ?_ _ | refine zj ?_ | refine zi ?_ _)); exact HS.out)); rintro e w14 ⟨rfl, hb⟩; refine ⟨_, rfl, ?_⟩; have n9_ := zm (zF (by (with_reducible repeat (first | refine zh ?_ _ | refine zj ?_ | refine zi ?_ _)); exact HS.out) hb); have n0_ := zm (Kd.R_below (by (with_reducible repeat (first | apply zo | apply zp | apply zq)); exact HO_1.out) hb); have n1_ := zm (Kept.below (S := (fun k_ => P1_ k_)) (by repeat (first | (with_reducible first | exact HK.out | apply Kept.alloc | apply Kept.drewN | apply Kept.drew) | exact HK.out)) hb); have n2_ := zm (zJ (by repeat (first | (with_reducible first | exact HB.out | apply ze | apply zd | apply zf) | exact HB.out)) hb); clear HO_1; clear HK; clear HB; clear HS; have HS := n9_; have HO_1 := n0_; have HK := n1_; have HB := n2_; clear n0_ n1_ n2_ n9_; (try clear hb); (try clear hb2); (try clear hk); (try clear hi)) | (go_at_call 33; (with_reducible refine (alloc_worth.calls B A0 c0 l0 x9_1 Ao13 co13 l1 a2 t138 _ ?side1 ?side2 ?side3 ?side4 ?side5 A10.out).mono ?_); (case side1 => exact Kd.C_kept_now HR0.out (by repeat (first | (with_reducible first | exact HK.out | apply Kept.alloc | apply Kept.drewN | apply Kept.drew) | exact HK.out))); (case side2 => exact HC0.out); (case side3 => repeat (first | exact (Kd.R_reads' HO_1.out).2.2 | (with_reducible refine Kd.C_alloc ?_ _) | (with_reducible refine Kd.C_drewN ?_ _) | (with_reducible refine Kd.C_drew ?_))); (case side4 => exact (Kd.R_reads' HO_1.out).2.1); (case side5 => exact (by (with_reducible repeat (first | refine zh ?_ _ | refine zj ?_ | refine zi ?_ _)); exact HS.out)); rintro e w15 ⟨rfl, hb⟩; have n9_ := zm (zF (by (with_reducible repeat (first | refine zh ?_ _ | refine zj ?_ | refine zi ?_ _)); exact HS.out) hb); have n0_ := zm (Kd.R_below (by (with_reducible repeat (first | apply zo | apply zp | apply zq)); exact HO_1.out) hb); have n1_ := zm (Kept.below (S := (fun k_ => P1_ k_)) (by repeat (first | (with_reducible first | exact HK.out | apply Kept.alloc | apply Kept.drewN | apply Kept.drew) | exact HK.out)) hb); have n2_ := zm (zJ (by repeat (first | (with_reducible first | exact HB.out | apply ze | apply zd | apply zf) | exact HB.out)) hb); clear HO_1; clear HK; clear HB; clear HS; have HS := n9_; have HO_1 := n0_; have HK := n1_; have HB := n2_; clear n0_ n1_ n2_ n9_; (try clear hb); (try clear hb2); (try clear hk); (try clear hi)) | (go_at_call 33; (with_reducible refine (alloc_worth.calls B A0 c0 l0 x3_1 Ao13 co13 l1 a2 t139 _ ?side1 ?side2 ?side3 ?side4 ?side5 A11.out).mono ?_); (case side1 => exact Kd.C_kept_now HR0.out (by repeat (first | (with_reducible first | exact HK.out | apply Kept.alloc | apply Kept.drewN | apply Kept.drew) | exact HK.out))); (case side2 => exact HC0.out); (case side3 => repeat (first | exact (Kd.R_reads' HO_1.out).2.2 | (with_reducible refine Kd.C_alloc ?_ _) | (with_reducible refine Kd.C_drewN ?_ _) | (with_reducible refine Kd.C_drew ?_))); (case side4 => exact (Kd.R_reads' HO_1.out).2.1); (case side5 => exact (by (with_reducible repeat (first | refine zh ?_ _ | refine zj ?_ | refine zi ?_ _)); exact HS.out)); rintro e w16 ⟨rfl, hb⟩; have n9_ := zm (zF (by (with_reducible repeat (first | refine zh ?_ _ | refine zj ?_ | refine zi ?_ _)); exact HS.out) hb); have n0_ := zm (Kd.R_below (by (with_reducible repeat (first | apply zo | apply zp | apply zq)); exact HO_1.out) hb); have n1_ := zm (Kept.below (S := (fun k_ => P1_ k_)) (by repeat (first | (with_reducible first | exact HK.out | apply Kept.alloc | apply Kept.drewN | apply Kept.drew) | exact HK.out)) hb); have n2_ := zm (zJ (by repeat (first | (with_reducible first | exact HB.out | apply ze | apply zd | apply zf) | exact HB.out)) hb); clear HO_1; clear HK; clear HB; clear HS; have HS := n9_; have HO_1 := n0_; have HK := n1_; have HB := n2_; clear n0_ n1_ n2_ n9_; (try clear hb); (try clear hb2); (try clear hk); (try clear hi)))
       go_roundg k1
       case measure => have := HK1.out; omega
       case rel => exact ⟨(x9_1), (wrap64 (x9_1 + 1)), (by first | rfl | (simp; done) | (simp [*]; done)), (by first | rfl | (simp; done) | (simp [*]; done)), H', ⟨by have := HK1.out; omega⟩, ⟨by (with_reducible repeat (first | apply zo | apply zp | apply zq)); exact HO_1.out⟩, ⟨by repeat (first | (with_reducible first | exact HK.out | apply Kept.alloc | apply Kept.drewN | apply Kept.drew) | exact HK.out)⟩, ⟨by repeat (first | (with_reducible first | exact HB.out | apply ze | apply zd | apply zf) | exact HB.out)⟩, ⟨(by (with_reducible repeat (first | refine zh ?_ _ | refine zj ?_ | refine zi ?_ _)); exact HS.out)⟩⟩
      ·
       rw [if_neg c12] at H
       have c12b0 : decide (t139 < t138) = false := decide_eq_false c12
       clear c12
       have H' := zm H
       clear H
       obtain ⟨Ao17, co17, eo17⟩ := Kd.R_slice HO_1.out
       subst eo17
       go_wp2_with (first | ((with_reducible refine gate_callee (f := 32) rfl ?_); refine goesL_ (some 15) rfl rfl Try.func32 (by kernel_rfl) rfl #[.pointer (some ⟨B, 0, none⟩), .int .i64 x9_1] rfl (by (try simp only [List.map_toArray, List.map_cons, List.map_nil]); first | done | rfl | (simp only [List.length_drop, List.length_take]; rfl)) ?_; (with_reducible refine (alloc_cost.calls k1 B A0 c0 l0 x9_1 Ao17 co17 l1 a2 t136 true _ ?side1 ?side2 ?side3 ?side4 ?side5 A5.out).mono ?_); (case side1 => exact Kd.C_kept_now HR0.out (by repeat (first | (with_reducible first | exact HK.out | apply Kept.alloc | apply Kept.drewN | apply Kept.drew) | exact HK.out))); (case side2 => exact HC0.out); (case side3 => repeat (first | exact (Kd.R_reads' HO_1.out).2.2 | (with_reducible refine Kd.C_alloc ?_ _) | (with_reducible refine Kd.C_drewN ?_ _) | (with_reducible refine Kd.C_drew ?_))); (case side4 => exact (Kd.R_reads' HO_1.out).2.1); (case side5 => exact (by (with_reducible repeat (first | refine zh ?_ _ | refine zj ?_ | refine zi ?_ _)); exact HS.out)); rintro e w18 ⟨rfl, hb⟩; refine ⟨_, rfl, ?_⟩; have n9_ := zm (zF (by (with_reducible repeat (first | refine zh ?_ _ | refine zj ?_ | refine zi ?_ _)); exact HS.out) hb); have n0_ := zm (Kd.R_below (by (with_reducible repeat (first | apply zo | apply zp | apply zq)); exact HO_1.out) hb); have n1_ := zm (Kept.below (S := (fun k_ => P1_ k_)) (by repeat (first | (with_reducible first | exact HK.out | apply Kept.alloc | apply Kept.drewN | apply Kept.drew) | exact HK.out)) hb); have n2_ := zm (zJ (by repeat (first | (with_reducible first | exact HB.out | apply ze | apply zd | apply zf) | exact HB.out)) hb); clear HO_1; clear HK; clear HB; clear HS; have HS := n9_; have HO_1 := n0_; have HK := n1_; have HB := n2_; clear n0_ n1_ n2_ n9_; (try clear hb); (try clear hb2); (try clear hk); (try clear hi)) | (go_at_call 33; (with_reducible refine (alloc_worth.calls B A0 c0 l0 x9_1 Ao17 co17 l1 a2 t138 _ ?side1 ?side2 ?side3 ?side4 ?side5 A10.out).mono ?_); (case side1 => exact Kd.C_kept_now HR0.out (by repeat (first | (with_reducible first | exact HK.out | apply Kept.alloc | apply Kept.drewN | apply Kept.drew) | exact HK.out))); (case side2 => exact HC0.out); (case side3 => repeat (first | exact (Kd.R_reads' HO_1.out).2.2 | (with_reducible refine Kd.C_alloc ?_ _) | (with_reducible refine Kd.C_drewN ?_ _) | (with_reducible refine Kd.C_drew ?_))); (case side4 => exact (Kd.R_reads' HO_1.out).2.1); (case side5 => exact (by (with_reducible repeat (first | refine zh ?_ _ | refine zj ?_ | refine zi ?_ _)); exact HS.out)); rintro e w19 ⟨rfl, hb⟩; have n9_ := zm (zF (by (with_reducible repeat (first | refine zh ?_ _ | refine zj ?_ | refine zi ?_ _)); exact HS.out) hb); have n0_ := zm (Kd.R_below (by (with_reducible repeat (first | apply zo | apply zp | apply zq)); exact HO_1.out) hb); have n1_ := zm (Kept.below (S := (fun k_ => P1_ k_)) (by repeat (first | (with_reducible first | exact HK.out | apply Kept.alloc | apply Kept.drewN | apply Kept.drew) | exact HK.out)) hb); have n2_ := zm (zJ (by repeat (first | (with_reducible first | exact HB.out | apply ze | apply zd | apply zf) | exact HB.out)) hb); clear HO_1; clear HK; clear HB; clear HS; have HS := n9_; have HO_1 := n0_; have HK := n1_; have HB := n2_; clear n0_ n1_ n2_ n9_; (try clear hb); (try clear hb2); (try clear hk); (try clear hi)) | (go_at_call 33; (with_reducible refine (alloc_worth.calls B A0 c0 l0 x3_1 Ao17 co17 l1 a2 t139 _ ?side1 ?side2 ?side3 ?side4 ?side5 A11.out).mono ?_); (case side1 => exact Kd.C_kept_now HR0.out (by repeat (first | (with_reducible first | exact HK.out | apply Kept.alloc | apply Kept.drewN | apply Kept.drew) | exact HK.out))); (case side2 => exact HC0.out); (case side3 => repeat (first | exact (Kd.R_reads' HO_1.out).2.2 | (with_reducible refine Kd.C_alloc ?_ _) | (with_reducible refine Kd.C_drewN ?_ _) | (with_reducible refine Kd.C_drew ?_))); (case side4 => exact (Kd.R_reads' HO_1.out).2.1); (case side5 => exact (by (with_reducible repeat (first | refine zh ?_ _ | refine zj ?_ | refine zi ?_ _)); exact HS.out)); rintro e w20 ⟨rfl, hb⟩; have n9_ := zm (zF (by (with_reducible repeat (first | refine zh ?_ _ | refine zj ?_ | refine zi ?_ _)); exact HS.out) hb); have n0_ := zm (Kd.R_below (by (with_reducible repeat (first | apply zo | apply zp | apply zq)); exact HO_1.out) hb); have n1_ := zm (Kept.below (S := (fun k_ => P1_ k_)) (by repeat (first | (with_reducible first | exact HK.out | apply Kept.alloc | apply Kept.drewN | apply Kept.drew) | exact HK.out)) hb); have n2_ := zm (zJ (by repeat (first | (with_reducible first | exact HB.out | apply ze | apply zd | apply zf) | exact HB.out)) hb); clear HO_1; clear HK; clear HB; clear HS; have HS := n9_; have HO_1 := n0_; have HK := n1_; have HB := n2_; clear n0_ n1_ n2_ n9_; (try clear hb); (try clear hb2); (try clear hk); (try clear hi)))
       go_roundg k1
       case measure => have := HK1.out; omega
       case rel => exact ⟨(x3_1), (wrap64 (x9_1 + 1)), (by first | rfl | (simp; done) | (simp [*]; done)), (by first | rfl | (simp; done) | (simp [*]; done)), H', ⟨by have := HK1.out; omega⟩, ⟨by (with_reducible repeat (first | apply zo | apply zp | apply zq)); exact HO_1.out⟩, ⟨by repeat (first | (with_reducible first | exact HK.out | apply Kept.alloc | apply Kept.drewN | apply Kept.drew) | exact HK.out)⟩, ⟨by repeat (first | (with_reducible first | exact HB.out | apply ze | apply zd | apply zf) | exact HB.out)⟩, ⟨(by (with_reducible repeat (first | refine zh ?_ _ | refine zj ?_ | refine zi ?_ _)); exact HS.out)⟩⟩
    ·
     replace c6 := Bool.eq_false_iff.mpr c6
     subst c6
     have H1 : (alloc_give.l0 k1 l0 l1 a2 x3_1 (wrap64 (x9_1 + 1))) = some (r1, r2, r3) := by rw [if_neg (show ¬ (false = true) by decide)] at H; exact H
     clear H
     have H := H1
     clear H1
     have H' := zm H
     clear H
     obtain ⟨Ao21, co21, eo21⟩ := Kd.R_slice HO_1.out
     subst eo21
     go_wp2_with (first | ((with_reducible refine gate_callee (f := 32) rfl ?_); refine goesL_ (some 15) rfl rfl Try.func32 (by kernel_rfl) rfl #[.pointer (some ⟨B, 0, none⟩), .int .i64 x9_1] rfl (by (try simp only [List.map_toArray, List.map_cons, List.map_nil]); first | done | rfl | (simp only [List.length_drop, List.length_take]; rfl)) ?_; (with_reducible refine (alloc_cost.calls k1 B A0 c0 l0 x9_1 Ao21 co21 l1 a2 t136 false _ ?side1 ?side2 ?side3 ?side4 ?side5 A5.out).mono ?_); (case side1 => exact Kd.C_kept_now HR0.out (by repeat (first | (with_reducible first | exact HK.out | apply Kept.alloc | apply Kept.drewN | apply Kept.drew) | exact HK.out))); (case side2 => exact HC0.out); (case side3 => repeat (first | exact (Kd.R_reads' HO_1.out).2.2 | (with_reducible refine Kd.C_alloc ?_ _) | (with_reducible refine Kd.C_drewN ?_ _) | (with_reducible refine Kd.C_drew ?_))); (case side4 => exact (Kd.R_reads' HO_1.out).2.1); (case side5 => exact (by (with_reducible repeat (first | refine zh ?_ _ | refine zj ?_ | refine zi ?_ _)); exact HS.out)); rintro e w22 ⟨rfl, hb⟩; refine ⟨_, rfl, ?_⟩; have n9_ := zm (zF (by (with_reducible repeat (first | refine zh ?_ _ | refine zj ?_ | refine zi ?_ _)); exact HS.out) hb); have n0_ := zm (Kd.R_below (by (with_reducible repeat (first | apply zo | apply zp | apply zq)); exact HO_1.out) hb); have n1_ := zm (Kept.below (S := (fun k_ => P1_ k_)) (by repeat (first | (with_reducible first | exact HK.out | apply Kept.alloc | apply Kept.drewN | apply Kept.drew) | exact HK.out)) hb); have n2_ := zm (zJ (by repeat (first | (with_reducible first | exact HB.out | apply ze | apply zd | apply zf) | exact HB.out)) hb); clear HO_1; clear HK; clear HB; clear HS; have HS := n9_; have HO_1 := n0_; have HK := n1_; have HB := n2_; clear n0_ n1_ n2_ n9_; (try clear hb); (try clear hb2); (try clear hk); (try clear hi)))
     go_roundg k1
     case measure => have := HK1.out; omega
     case rel => exact ⟨(x3_1), (wrap64 (x9_1 + 1)), (by first | rfl | (simp; done) | (simp [*]; done)), (by first | rfl | (simp; done) | (simp [*]; done)), H', ⟨by have := HK1.out; omega⟩, ⟨by (with_reducible repeat (first | apply zo | apply zp | apply zq)); exact HO_1.out⟩, ⟨by repeat (first | (with_reducible first | exact HK.out | apply Kept.alloc | apply Kept.drewN | apply Kept.drew) | exact HK.out)⟩, ⟨by repeat (first | (with_reducible first | exact HB.out | apply ze | apply zd | apply zf) | exact HB.out)⟩, ⟨(by (with_reducible repeat (first | refine zh ?_ _ | refine zj ?_ | refine zi ?_ _)); exact HS.out)⟩⟩
   ·
    rw [if_neg c4] at H
    have c4b0 : decide (x9_1 < 5) = false := decide_eq_false c4
    clear c4
    by_cases c23 : x3_1 < 0
    ·
     rw [if_pos c23] at H
     have c23b0 : decide (x3_1 < 0) = true := decide_eq_true c23
     clear c23
     simp only [Option.some.injEq, Prod.mk.injEq] at H
     obtain ⟨rfl, rfl, rfl⟩ := H
     go_wp2
     go_ret
     exact ⟨by first | rfl | (simp [errW_none, errW_some] <;> rfl) | (simp [*, errW_none, errW_some] <;> rfl), by (with_reducible repeat (first | apply zo | apply zp | apply zq)); exact HO_1.out, by repeat (first | (with_reducible first | exact HB.out | apply ze | apply zd | apply zf) | exact HB.out), Kept.mono (S := (fun k_ => P1_ k_)) (by repeat (first | (with_reducible first | exact HK.out | apply Kept.alloc | apply Kept.drewN | apply Kept.drew) | exact HK.out)) (fun _ h_ => .inl h_), (by (with_reducible repeat (first | refine zh ?_ _ | refine zj ?_ | refine zi ?_ _)); exact HS.out)⟩
    ·
     rw [if_neg c23] at H
     have c23b0 : decide (x3_1 < 0) = false := decide_eq_false c23
     clear c23
     replace H := Option.bind_eq_some_iff.mp H
     obtain ⟨⟨t132, t133⟩, A240, H⟩ := H
     replace H : (if 0 ≤ x3_1 then (if x3_1 < (l1.length : Int) then (some (wrap64 (a2 - t132), true, (l1.set (x3_1 : Int).toNat (wrap64 ((rd l1 x3_1) + 1))))) else (none)) else (none)) = some (r1, r2, r3) := H
     have A24 := zm A240
     clear A240
     by_cases c25 : 0 ≤ x3_1
     ·
      rw [if_pos c25] at H
      have c25b0 : decide (0 ≤ x3_1) = true := decide_eq_true c25
      clear c25
      by_cases c26 : x3_1 < (l1.length : Int)
      ·
       rw [if_pos c26] at H
       have c26b0 : decide (x3_1 < (l1.length : Int)) = true := decide_eq_true c26
       clear c26
       obtain ⟨y135, hy135⟩ : ∃ y_ : List Int, y_ = (l1.set (x3_1 : Int).toNat (wrap64 ((rd l1 x3_1) + 1))) := ⟨_, rfl⟩
       replace H : (some (wrap64 (a2 - t132), true, y135)) = some (r1, r2, r3) := by first | (rw [hy135]; with_reducible exact H) | (have H2_ := (Option.bind_some _ _).symm.trans H; rw [hy135]; with_reducible exact H2_) | (have H2_ := (Option.bind_some _ _).symm.trans H; with_reducible exact H2_) | with_reducible exact H | (rw [hy135]; exact H) | exact H
       have Ny135 := zm hy135
       clear hy135
       simp only [Option.some.injEq, Prod.mk.injEq] at H
       obtain ⟨rfl, rfl, rfl⟩ := H
       obtain ⟨Ao28, co28, eo28⟩ := Kd.R_slice HO_1.out
       subst eo28
       go_wp2_with (first | ((with_reducible refine gate_callee (f := 32) rfl ?_); refine goesL_ (some 39) rfl rfl Try.func32 (by kernel_rfl) rfl #[.pointer (some ⟨B, 0, none⟩), .int .i64 x3_1] rfl (by (try simp only [List.map_toArray, List.map_cons, List.map_nil]); first | done | rfl | (simp only [List.length_drop, List.length_take]; rfl)) ?_; (with_reducible refine (alloc_cost.calls k1 B A0 c0 l0 x3_1 Ao28 co28 l1 a2 t132 t133 _ ?side1 ?side2 ?side3 ?side4 ?side5 A24.out).mono ?_); (case side1 => exact Kd.C_kept_now HR0.out (by repeat (first | (with_reducible first | exact HK.out | apply Kept.alloc | apply Kept.drewN | apply Kept.drew) | exact HK.out))); (case side2 => exact HC0.out); (case side3 => repeat (first | exact (Kd.R_reads' HO_1.out).2.2 | (with_reducible refine Kd.C_alloc ?_ _) | (with_reducible refine Kd.C_drewN ?_ _) | (with_reducible refine Kd.C_drew ?_))); (case side4 => exact (Kd.R_reads' HO_1.out).2.1); (case side5 => exact (by (with_reducible repeat (first | refine zh ?_ _ | refine zj ?_ | refine zi ?_ _)); exact HS.out)); rintro e w29 ⟨rfl, hb⟩; refine ⟨_, rfl, ?_⟩; have n9_ := zm (zF (by (with_reducible repeat (first | refine zh ?_ _ | refine zj ?_ | refine zi ?_ _)); exact HS.out) hb); have n0_ := zm (Kd.R_below (by (with_reducible repeat (first | apply zo | apply zp | apply zq)); exact HO_1.out) hb); have n1_ := zm (Kept.below (S := (fun k_ => P1_ k_)) (by repeat (first | (with_reducible first | exact HK.out | apply Kept.alloc | apply Kept.drewN | apply Kept.drew) | exact HK.out)) hb); have n2_ := zm (zJ (by repeat (first | (with_reducible first | exact HB.out | apply ze | apply zd | apply zf) | exact HB.out)) hb); clear HO_1; clear HK; clear HB; clear HS; have HS := n9_; have HO_1 := n0_; have HK := n1_; have HB := n2_; clear n0_ n1_ n2_ n9_; (try clear hb); (try clear hb2); (try clear hk); (try clear hi); have hs2 : w29.cell? ⟨B, 2, none⟩ = some (.int .i64 a2) := (zs HS.out 2).trans rfl; have hsf : w29.frozen? ⟨B, 2, none⟩ = false := zx HS.out 2) | ((with_reducible refine gate_store (t := 3) (p := 49) rfl ?_); refine store_event (t := 3) (p := 49) (v := ?vo_w12) (w1 := (w29.setCell ⟨B, 2, none⟩ (.int .i64 (wrap64 (a2 - t132))))) ?hg ?ho ?hn ?hr ?_; (case ho => rfl); (case hg => rfl); (case hn => rfl); (case hr => first | (go_simp; done) | (go_simp; rfl)); intro w12 hw; have hS12 : w12.heap[B]? = some (.cells #[.slice A0 l0.length c0, .slice Ao28 l1.length co28, .int .i64 (wrap64 (a2 - t132)), .func (.func 25) #[] #[]] 44 (0, 0)) := (by rw [hw]; exact blk_set HS.out 2 _); have n0_ : Aside0 (Kd.R (Kd.int .i64) 3 w12 w0.heap.size (fun k_ => (P1_ k_ ∨ w.heap.size ≤ k_)) (.slice Ao28 l1.length co28) l1) := ⟨by rw [hw]; exact zH HO_1.out HNE.out _⟩; have n1_ : Aside0 (Below w0.heap.size w0 w12) := ⟨by rw [hw]; exact Below.setCell HB.out HB0.out _⟩; have n2_ : Aside0 (Kept w w12 (fun k_ => P1_ k_ ∨ k_ = B)) := ⟨by rw [hw]; exact Kept.setCell (Kept.mono HK.out (fun _ h_ => .inl h_)) (.inl (.inr rfl)) _⟩; clear HO_1; clear HK; clear HB; clear HS; clear hs2; clear hsf; have HO_1 := n0_; have HB := n1_; have HK := n2_; have HS := zm hS12; have hs1 : w12.cell? ⟨B, 1, none⟩ = some (.slice Ao28 l1.length co28) := (zs hS12 1).trans rfl; clear hS12 hw n0_ n1_ n2_; have p134 : 0 ≤ (x3_1 : Int) := of_decide_eq_true (by first | (with_reducible assumption) | assumption); have q134 : x3_1 < (l1.length : Int) := of_decide_eq_true (by first | (with_reducible assumption) | assumption); obtain ⟨ad134, e134, hx134_0⟩ := Kd.at_int (Kd.R_reads' HO_1.out).2.2 x3_1 p134 q134; cases e134; replace p134 := eq_true p134; replace q134 := eq_true q134; have p27 : 0 ≤ (x3_1 : Int) := of_decide_eq_true (by first | (with_reducible assumption) | assumption); have q27 : (x3_1 : Int) < ((l1.length : Int) : Int) := of_decide_eq_true (by first | (with_reducible assumption) | assumption); obtain ⟨go27, co27, eo27, gb27, gl27, cl27, HG27⟩ := Kd.R_form HO_1.out (by omega); (first | cases eo27 | (injection eo27 with ea_ en_ ec_; (first | subst ea_ | (injection ea_ with ea_; subst ea_)); subst ec_; clear en_)); have GB27 := zm gb27; have GG27 := zm HG27; clear gb27 gl27 HG27; have HMgo27 := zm (show (P1_ go27 ∨ w.heap.size ≤ go27) from (HO_1.out.1 _ rfl)); (first | simp only [add_plain] at hx134_0 | skip); obtain ⟨hx27_0, hf27_0⟩ := Kd.R_celln 0 HO_1.out (x3_1 : Int) p27 q27; replace p27 := eq_true p27; replace q27 := eq_true q27; obtain ⟨hy30_, hz30_⟩ := Kd.R_celln 0 HO_1.out (x3_1 : Int) (of_decide_eq_true (by first | (with_reducible assumption) | assumption)) (of_decide_eq_true (by first | (with_reducible assumption) | assumption)); have HP30 := Kd.R_putg HO_1.out (x3_1 : Int) (wrap64 ((rd l1 x3_1) + 1))) | ((with_reducible refine gate_store (t := 3) (p := 58) rfl ?_); refine store_event (t := 3) (p := 58) (v := ?vo_w31) (w1 := (w12.setCell ⟨go27, (x3_1 : Int).toNat, none⟩ (.int .i64 (wrap64 ((rd l1 x3_1) + 1))))) ?hg ?ho ?hn ?hr ?_; (case ho => rfl); (case hg => rfl); (case hn => rfl); (case hr => first | (go_simp; done) | (go_simp; rfl)); intro w31 hw; have hg : w12.grownBy w31 (some go27) := (by rw [hw]; exact HP30.2); have hp_ : Kd.R (Kd.int .i64) 3 w31 w0.heap.size (fun k_ => (P1_ k_ ∨ w.heap.size ≤ k_)) (.slice (some ⟨go27, 0, none⟩) l1.length co28) y135 := (by rw [hw, Ny135.out]; exact HP30.1); clear HP30; have n0_ := zm (hp_); have n1_ := zm ((by rw [hw]; exact zk (HB.out) GB27.out : Below w0.heap.size w0 w31)); have n2_ := zm (Kept.of_grown (S := (fun k_ => P1_ k_ ∨ k_ = B)) hg (by repeat (first | (with_reducible first | exact HK.out | apply Kept.alloc | apply Kept.drewN | apply Kept.drew) | exact HK.out)) (fun k_ e_ => (HO_1.out.1 k_ e_).imp .inl id)); have n8_ : Aside0 (w31.heap[B]? = some (.cells #[.slice A0 l0.length c0, .slice (some ⟨go27, 0, none⟩) l1.length co28, .int .i64 (wrap64 (a2 - t132)), .func (.func 25) #[] #[]] 44 (0, 0))) := ⟨by rw [hw]; exact zv HS.out (fun e_ => HNE.out _ (HO_1.out.1 go27 rfl) e_.symm) _⟩; clear HS; have HS := n8_; clear n8_; clear HO_1; clear HB; clear HK; have HO_1 := n0_; have HB := n1_; have HK := n2_; clear n0_ n1_ n2_; clear hg hw hp_))
       go_ret
       exact ⟨by first | rfl | (simp [errW_none, errW_some] <;> rfl) | (simp [*, errW_none, errW_some] <;> rfl), by (with_reducible repeat (first | apply zo | apply zp | apply zq)); exact HO_1.out, by repeat (first | (with_reducible first | exact HB.out | apply ze | apply zd | apply zf) | exact HB.out), by repeat (first | (with_reducible first | exact HK.out | apply Kept.alloc | apply Kept.drewN | apply Kept.drew) | exact HK.out), (by (with_reducible repeat (first | refine zh ?_ _ | refine zj ?_ | refine zi ?_ _)); exact HS.out)⟩
      ·
       rw [if_neg c26] at H
       exact absurd H (by simp)
     ·
      rw [if_neg c25] at H
      exact absurd H (by simp)

end Go.Proofs.Ytbaaedpjaanjnaa.Prt

namespace Go.Proofs.Ytbaaedpjaanjnaa.Prt
open Go.RowKit Go.Proofs.YtbaaedpjaanjnaaW.PrintWords Go.Proofs.YtbaaedpjaanjnaaW.PrintLast Go.Proofs.YtbaaedpjaanjnaaW.PrintMore
attribute [local go_sem] max2_int min2_int max_two min_two max_three min_three max_four min_four   -- for this text's walks alone
set_option linter.unusedVariables false
set_option linter.unusedSimpArgs false

/-! ### gain_Right: function 24 -/
def gain_Right.l0 : Nat → List Int → List Int → Int → Int → Option (Bool)
 | 0, _, _, _, _ => none
 | k + 1, x0, x5, x6, x7 => if x7 < x6 then (if 0 ≤ x7 then (if x7 < (x5.length : Int) then (if (rd x5 x7) < 0 then (some false) else (if (rd x5 x7) > 44 then (some false) else (gain_Right.l0 k x0 x5 x6 (wrap64 (x7 + 1))))) else (none)) else (none)) else (some ((x0.length : Int) == 5))
def gain_Right.f (k : Nat) (l0 : List Int) : Option (Bool) := gain_Right.l0 k l0 l0 (l0.length : Int) 0
theorem gain_Right.mono_l : ∀ k, (∀ y0 y1 y2 y3, LeO (gain_Right.l0 k y0 y1 y2 y3) (gain_Right.l0 (k + 1) y0 y1 y2 y3))
 | 0 => fun _ _ _ _ r h => by simp [gain_Right.l0] at h
 | k + 1 => by
  have ih0 := gain_Right.mono_l k
  ·
   intro y0 y1 y2 y3
   unfold gain_Right.l0
   repeat' first
   | (with_reducible exact ih0 _ _ _ _)
   | (with_reducible exact LeO.refl _)
   | (with_reducible exact LeO.none _)
   | (with_reducible refine LeO.ite ?_ ?_)
   | (with_reducible refine LeO.bind ?_ (fun _ => ?_))
   | exact ih0 _ _ _ _
   | exact LeO.none _
   | refine LeO.ite ?_ ?_
   | refine LeO.bind ?_ (fun _ => ?_)
theorem gain_Right.mono : ∀ a0 k, LeO (gain_Right.f k a0) (gain_Right.f (k + 1) a0) := by
 intro a0 k
 have ih0 := gain_Right.mono_l k
 unfold gain_Right.f
 repeat' first
   | (with_reducible exact ih0 _ _ _ _)
   | (with_reducible exact LeO.refl _)
   | (with_reducible exact LeO.none _)
   | (with_reducible refine LeO.ite ?_ ?_)
   | (with_reducible refine LeO.bind ?_ (fun _ => ?_))
   | exact ih0 _ _ _ _
   | exact LeO.none _
   | refine LeO.ite ?_ ?_
   | refine LeO.bind ?_ (fun _ => ?_)
set_option maxHeartbeats 8000000 in
set_option maxRecDepth 100000 in
theorem gain_Right.calls (k : Nat) (A0 : Option Addr) (c0 : Nat) (l0 : List Int) (r : Bool) (w : World) (hr0 : Kd.C (Kd.int .i64) w A0 l0.length l0) (hc0 : l0.length ≤ c0) (h : gain_Right.f k l0 = some r) :
  Calls Try.prog 24 #[.slice A0 l0.length c0] w fun e w' => e = .returned (.bool r) ∧ Drawn0 w w' := by
 have HR0 := zm hr0
 have HC0 := zm hc0
 clear hr0 hc0
 have H : (gain_Right.l0 k l0 l0 (l0.length : Int) 0) = some r := h
 clear h
 have H' := zm H
 clear H
 go_enter Try.func24, Try.ntmps24
 go_wp2
 go_loopg [7] k (fun kq v7 w' => ∃ (x7_1 : Int), v7 = .int .i64 x7_1 ∧ Aside0 (gain_Right.l0 kq l0 l0 (l0.length : Int) x7_1 = some r) ∧ Aside0 (kq ≤ k) ∧ Drawn0 w w')
 case atStart => exact ⟨(0), (by first | rfl | (simp; done) | (simp [*]; done)), H', ⟨Nat.le_refl _⟩, by repeat (first | exact Drawn0.refl _ | apply Drawn0.step)⟩
 case round =>
  clear H'
  obtain ⟨x7_1, rfl, HA, HK1, ⟨m1, rfl⟩⟩ := hrel
  cases gk with
  | zero => exact absurd HA.out (by simp [gain_Right.l0])
  | succ k1 =>
   have H := HA.out
   clear HA
   simp only [gain_Right.l0] at H
   by_cases c2 : x7_1 < (l0.length : Int)
   ·
    rw [if_pos c2] at H
    have c2b0 : decide (x7_1 < (l0.length : Int)) = true := decide_eq_true c2
    clear c2
    by_cases c3 : 0 ≤ x7_1
    ·
     rw [if_pos c3] at H
     have c3b0 : decide (0 ≤ x7_1) = true := decide_eq_true c3
     clear c3
     by_cases c4 : x7_1 < (l0.length : Int)
     ·
      rw [if_pos c4] at H
      have c4b0 : decide (x7_1 < (l0.length : Int)) = true := decide_eq_true c4
      clear c4
      by_cases c5 : (rd l0 x7_1) < 0
      ·
       rw [if_pos c5] at H
       have c5b0 : decide ((rd l0 x7_1) < 0) = true := decide_eq_true c5
       clear c5
       obtain rfl := Option.some.inj H
       have p104 : 0 ≤ (x7_1 : Int) := of_decide_eq_true (by first | (with_reducible assumption) | assumption)
       have q104 : x7_1 < (l0.length : Int) := of_decide_eq_true (by first | (with_reducible assumption) | assumption)
       obtain ⟨ad104, e104, hx104_0⟩ := Kd.at_int HR0.out x7_1 p104 q104
       cases e104
       replace p104 := eq_true p104
       replace q104 := eq_true q104
       go_wp2
       go_ret
       exact ⟨by first | rfl | (simp; done) | (simp [*]; done), by repeat (first | exact Drawn0.refl _ | apply Drawn0.step)⟩
      ·
       rw [if_neg c5] at H
       have c5b0 : decide ((rd l0 x7_1) < 0) = false := decide_eq_false c5
       clear c5
       by_cases c6 : (rd l0 x7_1) > 44
       ·
        rw [if_pos c6] at H
        have c6b0 : decide (44 < (rd l0 x7_1)) = true := decide_eq_true c6
        clear c6
        obtain rfl := Option.some.inj H
        have p104 : 0 ≤ (x7_1 : Int) := of_decide_eq_true (by first | (with_reducible assumption) | assumption)
        have q104 : x7_1 < (l0.length : Int) := of_decide_eq_true (by first | (with_reducible assumption) | assumption)
        obtain ⟨ad104, e104, hx104_0⟩ := Kd.at_int HR0.out x7_1 p104 q104
        cases e104
        replace p104 := eq_true p104
        replace q104 := eq_true q104
        go_wp2
        go_ret
        exact ⟨by first | rfl | (simp; done) | (simp [*]; done), by repeat (first | exact Drawn0.refl _ | apply Drawn0.step)⟩
       ·
        rw [if_neg c6] at H
        have c6b0 : decide (44 < (rd l0 x7_1)) = false := decide_eq_false c6
        clear c6
        have H' := zm H
        clear H
        have p104 : 0 ≤ (x7_1 : Int) := of_decide_eq_true (by first | (with_reducible assumption) | assumption)
        have q104 : x7_1 < (l0.length : Int) := of_decide_eq_true (by first | (with_reducible assumption) | assumption)
        obtain ⟨ad104, e104, hx104_0⟩ := Kd.at_int HR0.out x7_1 p104 q104
        cases e104
        replace p104 := eq_true p104
        replace q104 := eq_true q104
        go_wp2
        go_roundg k1
        case measure => have := HK1.out; omega
        case rel => exact ⟨(wrap64 (x7_1 + 1)), (by first | rfl | (simp; done) | (simp [*]; done)), H', ⟨by have := HK1.out; omega⟩, by repeat (first | exact Drawn0.refl _ | apply Drawn0.step)⟩
     ·
      rw [if_neg c4] at H
      exact absurd H (by simp)
    ·
     rw [if_neg c3] at H
     exact absurd H (by simp)
   ·
    rw [if_neg c2] at H
    have c2b0 : decide (x7_1 < (l0.length : Int)) = false := decide_eq_false c2
    clear c2
    obtain rfl := Option.some.inj H
    go_wp2
    go_ret
    exact ⟨by first | rfl | (simp; done) | (simp [*]; done), by repeat (first | exact Drawn0.refl _ | apply Drawn0.step)⟩

end Go.Proofs.Ytbaaedpjaanjnaa.Prt

namespace Go.Proofs.Ytbaaedpjaanjnaa.Prt
open Go.RowKit Go.Proofs.YtbaaedpjaanjnaaW.PrintWords Go.Proofs.YtbaaedpjaanjnaaW.PrintLast Go.Proofs.YtbaaedpjaanjnaaW.PrintMore
attribute [local go_sem] max2_int min2_int max_two min_two max_three min_three max_four min_four   -- for this text's walks alone
set_option linter.unusedVariables false
set_option linter.unusedSimpArgs false

/-! ### alloc_Pulses: function 15 -/
mutual
def alloc_Pulses.j0 : Nat → Int → Int → List (List Int) → Bool → Option ((List (List Int)) × Int)
 | 0, _, _, _, _ => none
 | k + 1, x0, x1, x2, x21 => if x21 = true then (some (([] : List (List Int)), 1)) else (alloc_Pulses.l0 k x0 x1 ([] : List (List Int)) x2 (x2.length : Int) 0)
def alloc_Pulses.l0 : Nat → Int → Int → List (List Int) → List (List Int) → Int → Int → Option ((List (List Int)) × Int)
 | 0, _, _, _, _, _, _ => none
 | k + 1, x0, x1, x8, x22, x23, x24 => if x24 < x23 then (if 0 ≤ x24 then (if x24 < (x22.length : Int) then ((gain_Right.f k (rd_L1 x22 x24)).bind fun t142 => (if t142 = true then ((alloc_Room.f x0 x1).bind fun t146 => (alloc_Pulses.l1 k x0 x1 x8 (rd_L1 x22 x24) (List.replicate 5 0) x22 x23 x24 t146)) else (some (([] : List (List Int)), 1)))) else (none)) else (none)) else (some (x8, 0))
def alloc_Pulses.l1 : Nat → Int → Int → List (List Int) → List Int → List Int → List (List Int) → Int → Int → Int → Option ((List (List Int)) × Int)
 | 0, _, _, _, _, _, _, _, _, _ => none
 | k + 1, x0, x1, x8, x10, x11, x22, x23, x24, x49 => (alloc_give.f k x10 x11 x49).bind fun bt147 => (if bt147.2.1 = true then (alloc_Pulses.l1 k x0 x1 x8 x10 bt147.2.2 x22 x23 x24 bt147.1) else (if x8.length < 5864062014805 then (alloc_Pulses.l0 k x0 x1 (x8 ++ [bt147.2.2]) x22 x23 (wrap64 (x24 + 1))) else (none)))
end
def alloc_Pulses.f (k : Nat) (a0 : Int) (a1 : Int) (l2 : List (List Int)) : Option ((List (List Int)) × Int) := (alloc_Right.f a0 a1).bind fun t140 => (if t140 = true then (alloc_Pulses.j0 k a0 a1 l2 ((l2.length : Int) != a1)) else (alloc_Pulses.j0 k a0 a1 l2 true))
theorem alloc_Pulses.mono_l : ∀ k, (∀ y0 y1 y2 y3, LeO (alloc_Pulses.j0 k y0 y1 y2 y3) (alloc_Pulses.j0 (k + 1) y0 y1 y2 y3)) ∧ (∀ y0 y1 y2 y3 y4 y5, LeO (alloc_Pulses.l0 k y0 y1 y2 y3 y4 y5) (alloc_Pulses.l0 (k + 1) y0 y1 y2 y3 y4 y5)) ∧ (∀ y0 y1 y2 y3 y4 y5 y6 y7 y8, LeO (alloc_Pulses.l1 k y0 y1 y2 y3 y4 y5 y6 y7 y8) (alloc_Pulses.l1 (k + 1) y0 y1 y2 y3 y4 y5 y6 y7 y8))
 | 0 => ⟨fun _ _ _ _ r h => by simp [alloc_Pulses.j0] at h, fun _ _ _ _ _ _ r h => by simp [alloc_Pulses.l0] at h, fun _ _ _ _ _ _ _ _ _ r h => by simp [alloc_Pulses.l1] at h⟩
 | k + 1 => by
  obtain ⟨ih0, ih1, ih2⟩ := alloc_Pulses.mono_l k
  refine ⟨?_, ?_, ?_⟩
  ·
   intro y0 y1 y2 y3
   unfold alloc_Pulses.j0
   repeat' first
   | (with_reducible exact ih0 _ _ _ _)
   | (with_reducible exact ih1 _ _ _ _ _ _)
   | (with_reducible exact ih2 _ _ _ _ _ _ _ _ _)
   | (with_reducible exact alloc_give.mono _ _ _ _)
   | (with_reducible exact gain_Right.mono _ _)
   | (with_reducible exact LeO.refl _)
   | (with_reducible exact LeO.none _)
   | (with_reducible refine LeO.ite ?_ ?_)
   | (with_reducible refine LeO.bind ?_ (fun _ => ?_))
   | exact ih0 _ _ _ _
   | exact ih1 _ _ _ _ _ _
   | exact ih2 _ _ _ _ _ _ _ _ _
   | exact alloc_give.mono _ _ _ _
   | exact gain_Right.mono _ _
   | exact LeO.none _
   | refine LeO.ite ?_ ?_
   | refine LeO.bind ?_ (fun _ => ?_)
  ·
   intro y0 y1 y2 y3 y4 y5
   unfold alloc_Pulses.l0
   repeat' first
   | (with_reducible exact ih0 _ _ _ _)
   | (with_reducible exact ih1 _ _ _ _ _ _)
   | (with_reducible exact ih2 _ _ _ _ _ _ _ _ _)
   | (with_reducible exact alloc_give.mono _ _ _ _)
   | (with_reducible exact gain_Right.mono _ _)
   | (with_reducible exact LeO.refl _)
   | (with_reducible exact LeO.none _)
   | (with_reducible refine LeO.ite ?_ ?_)
   | (with_reducible refine LeO.bind ?_ (fun _ => ?_))
   | exact ih0 _ _ _ _
   | exact ih1 _ _ _ _ _ _
   | exact ih2 _ _ _ _ _ _ _ _ _
   | exact alloc_give.mono _ _ _ _
   | exact gain_Right.mono _ _
   | exact LeO.none _
   | refine LeO.ite ?_ ?_
   | refine LeO.bind ?_ (fun _ => ?_)
  ·
   intro y0 y1 y2 y3 y4 y5 y6 y7 y8
   unfold alloc_Pulses.l1
   repeat' first
   | (with_reducible exact ih0 _ _ _ _)
   | (with_reducible exact ih1 _ _ _ _ _ _)
   | (with_reducible exact ih2 _ _ _ _ _ _ _ _ _)
   | (with_reducible exact alloc_give.mono _ _ _ _)
   | (with_reducible exact gain_Right.mono _ _)
   | (with_reducible exact LeO.refl _)
   | (with_reducible exact LeO.none _)
   | (with_reducible refine LeO.ite ?_ ?_)
   | (with_reducible refine LeO.bind ?_ (fun _ => ?_))
   | exact ih0 _ _ _ _
   | exact ih1 _ _ _ _ _ _
   | exact ih2 _ _ _ _ _ _ _ _ _
   | exact alloc_give.mono _ _ _ _
   | exact gain_Right.mono _ _
   | exact LeO.none _
   | refine LeO.ite ?_ ?_
   | refine LeO.bind ?_ (fun _ => ?_)
theorem alloc_Pulses.mono : ∀ a0 a1 a2 k, LeO (alloc_Pulses.f k a0 a1 a2) (alloc_Pulses.f (k + 1) a0 a1 a2) := by
 intro a0 a1 a2 k
 obtain ⟨ih0, ih1, ih2⟩ := alloc_Pulses.mono_l k
 unfold alloc_Pulses.f
 repeat' first
   | (with_reducible exact ih0 _ _ _ _)
   | (with_reducible exact ih1 _ _ _ _ _ _)
   | (with_reducible exact ih2 _ _ _ _ _ _ _ _ _)
   | (with_reducible exact alloc_give.mono _ _ _ _)
   | (with_reducible exact gain_Right.mono _ _)
   | (with_reducible exact LeO.refl _)
   | (with_reducible exact LeO.none _)
   | (with_reducible refine LeO.ite ?_ ?_)
   | (with_reducible refine LeO.bind ?_ (fun _ => ?_))
   | exact ih0 _ _ _ _
   | exact ih1 _ _ _ _ _ _
   | exact ih2 _ _ _ _ _ _ _ _ _
   | exact alloc_give.mono _ _ _ _
   | exact gain_Right.mono _ _
   | exact LeO.none _
   | refine LeO.ite ?_ ?_
   | refine LeO.bind ?_ (fun _ => ?_)
def alloc_Pulses.T9 : Bool × List (List Nat × List Nat) := (true, [([], []), ([], []), ([], []), ([], []), ([2, 3], [2, 3]), ([0, 1, 4], [0, 1, 4]), ([5], [5]), ([6, 4, 0, 1, 2, 3, 4, 5, 6], [6])])
def alloc_Pulses.B9 : List Nat := [0, 0, 0, 0, 12, 31, 63, 127]
theorem alloc_Pulses.tab9 : rtab .any (opsOf Try.f15 9) = alloc_Pulses.T9 := by kernel_rfl
theorem alloc_Pulses.bits9 : waitsOk alloc_Pulses.T9.2 alloc_Pulses.B9 = true := by kernel_rfl
set_option maxHeartbeats 8000000 in
set_option maxRecDepth 100000 in
theorem alloc_Pulses.calls (k : Nat) (a0 : Int) (a1 : Int) (A2 : Option Addr) (c2 : Nat) (l2 : List (List Int)) (r1 : List (List Int)) (r2 : Int) (w : World) (hr2 : Kd.C (Kd.slice 3 (Kd.int .i64)) w A2 l2.length l2) (hc2 : l2.length ≤ c2) (h : alloc_Pulses.f k a0 a1 l2 = some (r1, r2)) :
  Calls Try.prog 15 #[.int .i64 a0, .int .i64 a1, .slice A2 l2.length c2] w fun e w' => ∃ v0_ : Value, e = .returned (.tuple #[v0_, .int .i64 r2]) ∧ Kd.S (Kd.slice 3 (Kd.int .i64)) 34 w' w.heap.size (fun _ => True) v0_ r1 ∧ Below w.heap.size w w' := by
 have HR2 := zm hr2
 have HC2 := zm hc2
 clear hr2 hc2
 have HB := zm (Below.refl w.heap.size w)
 have H : ((alloc_Right.f a0 a1).bind fun t140 => (if t140 = true then (alloc_Pulses.j0 k a0 a1 l2 ((l2.length : Int) != a1)) else (alloc_Pulses.j0 k a0 a1 l2 true))) = some (r1, r2) := h
 clear h
 have HC4 := zm H
 clear H
 go_enter Try.func15, Try.ntmps15
 go_upto_region 1 with (fail)
 go_cut [21] (fun v21 wc => ∃ (kq : Nat) (x21_3 : Bool), v21 = .bool x21_3 ∧ Aside0 (alloc_Pulses.j0 kq a0 a1 l2 x21_3 = some (r1, r2)) ∧ Aside0 (kq ≤ k) ∧ Aside0 (Below w.heap.size w wc))
 case first =>
  have H := HC4.out
  clear HC4
  replace H := Option.bind_eq_some_iff.mp H
  obtain ⟨t140, A50, H⟩ := H
  replace H : (if t140 = true then (alloc_Pulses.j0 k a0 a1 l2 ((l2.length : Int) != a1)) else (alloc_Pulses.j0 k a0 a1 l2 true)) = some (r1, r2) := H
  have A5 := zm A50
  clear A50
  by_cases c6 : t140 = true
  ·
   subst c6
   have H1 : (alloc_Pulses.j0 k a0 a1 l2 ((l2.length : Int) != a1)) = some (r1, r2) := by rw [if_pos rfl] at H; exact H
   clear H
   have H := H1
   clear H1
   have H' := zm H
   clear H
   go_wp2_with (first | ((with_reducible refine gate_callee (f := 9) rfl ?_); refine goesL_ (some 14) rfl rfl Try.func9 (by kernel_rfl) rfl #[.int .i64 a0, .int .i64 a1] rfl (by (try simp only [List.map_toArray, List.map_cons, List.map_nil]); first | done | rfl | (simp only [List.length_drop, List.length_take]; rfl)) ?_; (with_reducible refine (alloc_Right.calls a0 a1 true _ A5.out).mono ?_); rintro e w' ⟨rfl, ⟨nd, rfl⟩⟩; refine ⟨_, rfl, ?_⟩))
   go_meet
   case rel => exact ⟨_, (((l2.length : Int) != a1)), (by first | rfl | (simp; done) | (simp [*]; done)), H', ⟨by first | omega | exact Nat.le_refl _⟩, ⟨by repeat (first | (with_reducible first | exact HB.out | apply ze | apply zd | apply zf) | exact HB.out)⟩⟩
  ·
   replace c6 := Bool.eq_false_iff.mpr c6
   subst c6
   have H1 : (alloc_Pulses.j0 k a0 a1 l2 true) = some (r1, r2) := by rw [if_neg (show ¬ (false = true) by decide)] at H; exact H
   clear H
   have H := H1
   clear H1
   have H' := zm H
   clear H
   go_wp2_with (first | ((with_reducible refine gate_callee (f := 9) rfl ?_); refine goesL_ (some 14) rfl rfl Try.func9 (by kernel_rfl) rfl #[.int .i64 a0, .int .i64 a1] rfl (by (try simp only [List.map_toArray, List.map_cons, List.map_nil]); first | done | rfl | (simp only [List.length_drop, List.length_take]; rfl)) ?_; (with_reducible refine (alloc_Right.calls a0 a1 false _ A5.out).mono ?_); rintro e w' ⟨rfl, ⟨nd, rfl⟩⟩; refine ⟨_, rfl, ?_⟩))
   go_meet
   case rel => exact ⟨_, (true), (by first | rfl | (simp; done) | (simp [*]; done)), H', ⟨by first | omega | exact Nat.le_refl _⟩, ⟨by repeat (first | (with_reducible first | exact HB.out | apply ze | apply zd | apply zf) | exact HB.out)⟩⟩
 case rest =>
  clear HC4
  try clear c1
  try clear c2
  try clear p2
  try clear c6
  obtain ⟨kq, x21_3, rfl, HA, HJ3, HB⟩ := hcut
  cases kq with
  | zero => exact absurd HA.out (by simp [alloc_Pulses.j0])
  | succ kj3 =>
   have H := HA.out
   clear HA
   simp only [alloc_Pulses.j0] at H
   by_cases c7 : x21_3 = true
   ·
    subst c7
    have H1 : (some (([] : List (List Int)), 1)) = some (r1, r2) := by rw [if_pos rfl] at H; exact H
    clear H
    have H := H1
    clear H1
    simp only [Option.some.injEq, Prod.mk.injEq] at H
    obtain ⟨rfl, rfl⟩ := H
    go_wp2
    go_ret2
    exact ⟨_, by first | rfl | (simp [errW_none, errW_some] <;> rfl) | (simp [*, errW_none, errW_some] <;> rfl), by first | exact Kd.S_nil _ _ _ _ _ | exact Kd.N_nil _ _ _ _ _ | exact Kd.V_nil _ _ _ _ _ | exact Kd.Q_nil _ _ _ _ _ | exact Kd.R_nil _ _ _ _ _, by repeat (first | (with_reducible first | exact HB.out | apply ze | apply zd | apply zf) | exact HB.out)⟩
   ·
    replace c7 := Bool.eq_false_iff.mpr c7
    subst c7
    have H1 : (alloc_Pulses.l0 kj3 a0 a1 ([] : List (List Int)) l2 (l2.length : Int) 0) = some (r1, r2) := by rw [if_neg (show ¬ (false = true) by decide)] at H; exact H
    clear H
    have H := H1
    clear H1
    have H' := zm H
    clear H
    go_wp2
    go_loopg [8, 24] kj3 (fun kq v8 v24 w' => ∃ (x8_2 : List (List Int)) (x24_2 : Int), v24 = .int .i64 x24_2 ∧ Aside0 (alloc_Pulses.l0 kq a0 a1 x8_2 l2 (l2.length : Int) x24_2 = some (r1, r2)) ∧ Aside0 (kq ≤ kj3) ∧ Aside0 (Kd.S (Kd.slice 3 (Kd.int .i64)) 34 w' w.heap.size (fun _ => True) v8 x8_2) ∧ Aside0 (Below w.heap.size w w'))
    case atStart => exact ⟨(([] : List (List Int))), (0), (by first | rfl | (simp; done) | (simp [*]; done)), H', ⟨Nat.le_refl _⟩, ⟨by first | exact Kd.S_nil _ _ _ _ _ | exact Kd.N_nil _ _ _ _ _ | exact Kd.V_nil _ _ _ _ _ | exact Kd.Q_nil _ _ _ _ _ | exact Kd.R_nil _ _ _ _ _⟩, ⟨by repeat (first | (with_reducible first | exact HB.out | apply ze | apply zd | apply zf) | exact HB.out)⟩⟩
    case round =>
     clear H'
     try clear c1
     try clear c2
     try clear p2
     try clear c6
     try clear c7
     try clear p2
     obtain ⟨x8_2, x24_2, rfl, HA, HK2, HO_8, HB⟩ := hrel
     cases gk with
     | zero => exact absurd HA.out (by simp [alloc_Pulses.l0])
     | succ k2 =>
      have H := HA.out
      clear HA
      simp only [alloc_Pulses.l0] at H
      by_cases c8 : x24_2 < (l2.length : Int)
      ·
       rw [if_pos c8] at H
       have c8b0 : decide (x24_2 < (l2.length : Int)) = true := decide_eq_true c8
       clear c8
       by_cases c9 : 0 ≤ x24_2
       ·
        rw [if_pos c9] at H
        have c9b0 : decide (0 ≤ x24_2) = true := decide_eq_true c9
        clear c9
        by_cases c10 : x24_2 < (l2.length : Int)
        ·
         rw [if_pos c10] at H
         have c10b0 : decide (x24_2 < (l2.length : Int)) = true := decide_eq_true c10
         clear c10
         replace H := Option.bind_eq_some_iff.mp H
         obtain ⟨t142, A110, H⟩ := H
         replace H : (if t142 = true then ((alloc_Room.f a0 a1).bind fun t146 => (alloc_Pulses.l1 k2 a0 a1 x8_2 (rd_L1 l2 x24_2) (List.replicate 5 0) l2 (l2.length : Int) x24_2 t146)) else (some (([] : List (List Int)), 1))) = some (r1, r2) := H
         have A11 := zm A110
         clear A110
         by_cases c12 : t142 = true
         ·
          subst c12
          have H1 : ((alloc_Room.f a0 a1).bind fun t146 => (alloc_Pulses.l1 k2 a0 a1 x8_2 (rd_L1 l2 x24_2) (List.replicate 5 0) l2 (l2.length : Int) x24_2 t146)) = some (r1, r2) := by rw [if_pos rfl] at H; exact H
          clear H
          have H := H1
          clear H1
          obtain ⟨y143, hy143⟩ : ∃ y_ : List Int, y_ = (List.replicate 5 0) := ⟨_, rfl⟩
          replace H : ((alloc_Room.f a0 a1).bind fun t146 => (alloc_Pulses.l1 k2 a0 a1 x8_2 (rd_L1 l2 x24_2) y143 l2 (l2.length : Int) x24_2 t146)) = some (r1, r2) := by first | (rw [hy143]; with_reducible exact H) | (have H2_ := (Option.bind_some _ _).symm.trans H; rw [hy143]; with_reducible exact H2_) | (have H2_ := (Option.bind_some _ _).symm.trans H; with_reducible exact H2_) | with_reducible exact H | (rw [hy143]; exact H) | exact H
          have Ny143 := zm hy143
          clear hy143
          replace H := Option.bind_eq_some_iff.mp H
          obtain ⟨t146, A130, H⟩ := H
          replace H : (alloc_Pulses.l1 k2 a0 a1 x8_2 (rd_L1 l2 x24_2) y143 l2 (l2.length : Int) x24_2 t146) = some (r1, r2) := H
          have A13 := zm A130
          clear A130
          have H' := zm H
          clear H
          have p141 : 0 ≤ (x24_2 : Int) := of_decide_eq_true (by first | (with_reducible assumption) | assumption)
          have q141 : x24_2 < (l2.length : Int) := of_decide_eq_true (by first | (with_reducible assumption) | assumption)
          obtain ⟨ad141, A141_0, c141_0, e141, hx141_0, hl141_0, hi141_0⟩ := at_L1 HR2.out x24_2 p141 q141
          cases e141
          replace hx141_0 := (HB.out.cell (zb w _ hx141_0)).trans hx141_0
          have HR141_0 := zm hi141_0
          have HC141_0 := zm hl141_0
          clear hi141_0 hl141_0
          replace p141 := eq_true p141
          replace q141 := eq_true q141
          try go_wp2_with (first | ((with_reducible refine gate_callee (f := 24) rfl ?_); refine goesL_ (some 29) rfl rfl Try.func24 (by kernel_rfl) rfl #[.slice A141_0 (rd_L1 l2 x24_2).length c141_0] rfl (by (try simp only [List.map_toArray, List.map_cons, List.map_nil]); first | done | rfl | (simp only [List.length_drop, List.length_take]; rfl)) ?_; (with_reducible refine (gain_Right.calls k2 _ _ (rd_L1 l2 x24_2) true _ ?side1 ?side2 A11.out).mono ?_); (case side1 => repeat (first | exact (Kd.C_below HR141_0.out HB.out) | (with_reducible refine Kd.C_alloc ?_ _) | (with_reducible refine Kd.C_drewN ?_ _) | (with_reducible refine Kd.C_drew ?_))); (case side2 => exact HC141_0.out); rintro e w' ⟨rfl, ⟨nd, rfl⟩⟩; refine ⟨_, rfl, ?_⟩))
          (try (rw [drewN_self wr]; generalize hq_ : World.drewN wr _ = wr; have n0_ : Aside0 (Kd.S (Kd.slice 3 (Kd.int .i64)) 34 wr w.heap.size (fun _ => True) u8 x8_2) := ⟨by rw [← hq_]; exact (by (with_reducible repeat (first | apply Kd.S_alloc | apply Kd.S_drewN | apply Kd.S_drew)); exact HO_8.out)⟩; have n1_ : Aside0 (Below w.heap.size w wr) := ⟨by rw [← hq_]; exact (by repeat (first | (with_reducible first | exact HB.out | apply ze | apply zd | apply zf) | exact HB.out))⟩; clear HO_8 HB hq_; have HO_8 := n0_; have HB := n1_; clear n0_ n1_))
          have n0_ := zm (Kd.S_drew HO_8.out)
          have n1_ := zm (zf HB.out)
          clear HO_8
          clear HB
          have HO_8 := n0_
          have HB := n1_
          clear n0_ n1_
          refine start_ (n := 8) (S := fun w' => True) (ds := []) #[false, false, false, false, false, false, false, false] (by kernel_rfl) rfl rfl trivial (fun hHeld => ?_); refine with_tabW alloc_Pulses.tab9 alloc_Pulses.bits9 (fun HT_ HW_ => ?_)
          generalize wr.drew = w14 at HO_8 HB hHeld ⊢
          refine pure_ (i := 0) (N := some 31) (v := ?_) (a' := ?_) #[true, false, false, false, false, false, false, false] rfl rfl (any_of HT_.out (by kernel_rfl)) (fun _ _ _ h => h) (Or.inl ⟨by rfl, ?_⟩) ?_ ?_
          rotate_left
          ·
           intro w'
           go_simp
           with_reducible rfl
          rotate_left
          ·
           simp only [Act.put, List.setIfInBounds_toArray, List.set_cons_zero, List.set_cons_succ, i64_w, i32_w]
           rfl
          refine pure_ (i := 2) (N := some 33) (v := ?_) (a' := ?_) #[true, false, true, false, false, false, false, false] rfl rfl (any_of HT_.out (by kernel_rfl)) (fun _ _ _ h => h) (Or.inl ⟨by rfl, ?_⟩) ?_ ?_
          rotate_left
          ·
           intro w'
           go_simp
           with_reducible rfl
          rotate_left
          ·
           simp only [Act.put, List.setIfInBounds_toArray, List.set_cons_zero, List.set_cons_succ, i64_w, i32_w]
           rfl
          refine pure_ (i := 3) (N := some 34) (v := ?_) (a' := ?_) #[true, false, true, true, false, false, false, false] rfl rfl (any_of HT_.out (by kernel_rfl)) (fun _ _ _ h => h) (Or.inl ⟨by rfl, ?_⟩) ?_ ?_
          rotate_left
          ·
           intro w'
           go_simp
           with_reducible rfl
          rotate_left
          ·
           simp only [Act.put, List.setIfInBounds_toArray, List.set_cons_zero, List.set_cons_succ, i64_w, i32_w]
           rfl
          refine join_ (σ := Value) 3 #[true, true, true, true, true, false, false, false] (fun s_ => [(32, s_), (35, .int .i64 t146)]) (fun s_ w' => (Kd.R (Kd.int .i64) 3 w' w.heap.size (fun _ => True) s_ y143) ∧ (Kd.S (Kd.slice 3 (Kd.int .i64)) 34 w' w.heap.size (fun k_ => some k_ ≠ (s_ : Value).ownBlock) u8 x8_2) ∧ (Below w.heap.size w w')) ?_ ?_
          rotate_left
          ·
           intro hCont
           refine two_ (i := 1) (j := 4) (Ni := some 32) (Nj := some 35) #[true, true, true, true, false, false, false, false] #[true, false, true, true, true, false, false, false] rfl rfl rfl rfl (two_of HT_.out (by kernel_rfl)) (by decide) (by decide) (fun K hK => ?_) (fun K hK => ?_)
           ·
            skip
            refine Kd.R_make_step (Kd.int .i64) _ 3 (by rfl) (N := 32) rfl 34 _ _ rfl 5 rfl rfl Try.underlying34 (.int .i64 0) 8 info3 rfl (by decide) (by omega) 0 (ok := fun _ => True) (okp := fun _ => True) rfl (fun _ hk => hk) trivial (by omega) (by omega) (Below.refl _ _) (Nat.le_refl _) ?_
            intro v144 w15 ho16 hb hg_ hnew_
            clear hg_ hnew_
            (first | rw [← Ny143.out] at ho16 | (simp only [Int.reduceToNat] at ho16; rw [← Ny143.out] at ho16))
            have n0_ := zm (Kd.S_elder' (by (with_reducible repeat (first | apply Kd.S_alloc | apply Kd.S_drewN | apply Kd.S_drew)); exact HO_8.out) (Kd.R_base ho16) hb)
            have n1_ := zm (Kd.R_lower ho16 (zE (by repeat (first | (with_reducible first | exact HB.out | apply ze | apply zd | apply zf) | exact HB.out))))
            have n2_ := zm (zJ (by repeat (first | (with_reducible first | exact HB.out | apply ze | apply zd | apply zf) | exact HB.out)) hb)
            clear HO_8
            clear HB
            have HO_8 := n0_
            have HO145 := n1_
            have HB := n2_
            clear n0_ n1_ n2_
            clear hb ho16
            refine hK.out _ _ trivial (fun hHeld => ?_)
            clear hK K
            refine norm_ (a' := ?_) ?_ ?_
            rotate_left
            ·
             show Act.put _ (some 32) _ = _
             simp only [Act.put, List.setIfInBounds_toArray, List.set_cons_zero, List.set_cons_succ, i64_w, i32_w]
             rfl
            refine one_ (i := 4) (N := some 35) #[true, true, true, true, true, false, false, false] rfl rfl (one_of HT_.out (by kernel_rfl)) (by decide) (fun K hK => ?_)
            refine goes_ Try.func11 (by kernel_rfl) rfl #[.int .i64 a0, .int .i64 a1] (by rfl) rfl rfl (by (try simp only [List.map_toArray, List.map_cons, List.map_nil]); first | done | rfl | (simp only [List.length_drop, List.length_take]; rfl)) ?_
            with_reducible refine (alloc_Room.calls a0 a1 t146 _ A13.out).mono ?_
            rintro e w' ⟨rfl, ⟨nd, rfl⟩⟩
            refine ⟨_, rfl, ?_⟩
            refine hK.out _ _ trivial (fun hHeld => ?_)
            clear hK K
            refine norm_ (a' := ?_) ?_ ?_
            rotate_left
            ·
             show Act.put _ (some 35) _ = _
             simp only [Act.put, List.setIfInBounds_toArray, List.set_cons_zero, List.set_cons_succ, i64_w, i32_w]
             rfl
            exact norm_ (by simp only [putAll, Act.put, List.setIfInBounds_toArray, List.set_cons_zero, List.set_cons_succ]) (hCont (v144) _ ⟨(by (with_reducible repeat (first | apply zo | apply zp | apply zq)); exact HO145.out), (by (with_reducible repeat (first | apply Kd.S_alloc | apply Kd.S_drewN | apply Kd.S_drew)); exact Kd.S_mono HO_8.out (fun _ hk => hk.2)), (by repeat (first | (with_reducible first | exact HB.out | apply ze | apply zd | apply zf) | exact HB.out))⟩)
           ·
            skip
            refine goes_ Try.func11 (by kernel_rfl) rfl #[.int .i64 a0, .int .i64 a1] (by rfl) rfl rfl (by (try simp only [List.map_toArray, List.map_cons, List.map_nil]); first | done | rfl | (simp only [List.length_drop, List.length_take]; rfl)) ?_
            with_reducible refine (alloc_Room.calls a0 a1 t146 _ A13.out).mono ?_
            rintro e w' ⟨rfl, ⟨nd, rfl⟩⟩
            refine ⟨_, rfl, ?_⟩
            refine hK.out _ _ trivial (fun hHeld => ?_)
            clear hK K
            refine norm_ (a' := ?_) ?_ ?_
            rotate_left
            ·
             show Act.put _ (some 35) _ = _
             simp only [Act.put, List.setIfInBounds_toArray, List.set_cons_zero, List.set_cons_succ, i64_w, i32_w]
             rfl
            refine one_ (i := 1) (N := some 32) #[true, true, true, true, true, false, false, false] rfl rfl (one_of HT_.out (by kernel_rfl)) (by decide) (fun K hK => ?_)
            refine Kd.R_make_step (Kd.int .i64) _ 3 (by rfl) (N := 32) rfl 34 _ _ rfl 5 rfl rfl Try.underlying34 (.int .i64 0) 8 info3 rfl (by decide) (by omega) 0 (ok := fun _ => True) (okp := fun _ => True) rfl (fun _ hk => hk) trivial (by omega) (by omega) (Below.refl _ _) (Nat.le_refl _) ?_
            intro v144 w15 ho16 hb hg_ hnew_
            clear hg_ hnew_
            (first | rw [← Ny143.out] at ho16 | (simp only [Int.reduceToNat] at ho16; rw [← Ny143.out] at ho16))
            have n0_ := zm (Kd.S_elder' (by (with_reducible repeat (first | apply Kd.S_alloc | apply Kd.S_drewN | apply Kd.S_drew)); exact HO_8.out) (Kd.R_base ho16) hb)
            have n1_ := zm (Kd.R_lower ho16 (zE (by repeat (first | (with_reducible first | exact HB.out | apply ze | apply zd | apply zf) | exact HB.out))))
            have n2_ := zm (zJ (by repeat (first | (with_reducible first | exact HB.out | apply ze | apply zd | apply zf) | exact HB.out)) hb)
            clear HO_8
            clear HB
            have HO_8 := n0_
            have HO145 := n1_
            have HB := n2_
            clear n0_ n1_ n2_
            clear hb ho16
            refine hK.out _ _ trivial (fun hHeld => ?_)
            clear hK K
            refine norm_ (a' := ?_) ?_ ?_
            rotate_left
            ·
             show Act.put _ (some 32) _ = _
             simp only [Act.put, List.setIfInBounds_toArray, List.set_cons_zero, List.set_cons_succ, i64_w, i32_w]
             rfl
            exact norm_ (by simp only [putAll, Act.put, List.setIfInBounds_toArray, List.set_cons_zero, List.set_cons_succ]) (hCont (v144) _ ⟨(by (with_reducible repeat (first | apply zo | apply zp | apply zq)); exact HO145.out), (by (with_reducible repeat (first | apply Kd.S_alloc | apply Kd.S_drewN | apply Kd.S_drew)); exact Kd.S_mono HO_8.out (fun _ hk => hk.2)), (by repeat (first | (with_reducible first | exact HB.out | apply ze | apply zd | apply zf) | exact HB.out))⟩)
          rintro v144 w17 ⟨h0_, h1_, h2_⟩
          have n0_ : Aside0 (Kd.R (Kd.int .i64) 3 w17 w.heap.size (fun _ => True) v144 y143) := ⟨h0_⟩
          have n1_ : Aside0 (Kd.S (Kd.slice 3 (Kd.int .i64)) 34 w17 w.heap.size (fun k_ => some k_ ≠ (v144 : Value).ownBlock) u8 x8_2) := ⟨h1_⟩
          have n2_ : Aside0 (Below w.heap.size w w17) := ⟨h2_⟩
          clear HO_8
          clear HB
          clear h0_ h1_ h2_
          have HO145 := n0_
          have HO_8 := n1_
          have HB := n2_
          clear n0_ n1_ n2_
          have hHeld := trivial
          refine norm_ (a' := ?_) ?_ ?_
          rotate_left
          ·
           simp only [putAll, Act.put, List.setIfInBounds_toArray, List.set_cons_zero, List.set_cons_succ]
           rfl
          obtain ⟨Av9, cv9, ev9⟩ := Kd.R_slice HO145.out
          refine pure_ (i := 5) (N := some 36) (v := .agg #[.slice A141_0 (rd_L1 l2 x24_2).length c141_0, v144, .int .i64 t146, .func (.func 25) #[] #[]]) (a' := ?_) #[true, true, true, true, true, true, false, false] rfl rfl (any_of HT_.out (by kernel_rfl)) (fun _ _ _ h => h) (Or.inl ⟨by rfl, ?_⟩) ?_ ?_

          ·
           intro w'
           rw [ev9]
           first | (go_simp; done) | (go_simp; with_reducible rfl) | (go_simp; rfl)

          rotate_left
          ·
           simp only [Act.put, List.setIfInBounds_toArray, List.set_cons_zero, List.set_cons_succ, i64_w, i32_w]
           rfl
          refine one_ (i := 6) (N := some 37) #[true, true, true, true, true, true, true, false] rfl rfl (one_of HT_.out (by kernel_rfl)) (by decide) (fun K hK => ?_)
          refine event_step (v := .pointer (some ⟨w17.heap.size, 0, none⟩)) (w1 := w17.alloc (.cells #[.slice A141_0 (rd_L1 l2 x24_2).length c141_0, v144, .int .i64 t146, .func (.func 25) #[] #[]] 44 (0, 0))) (by rfl) ?hrun ?_
          (case hrun => (rw [ev9]; first | (go_simp; done) | (go_simp; rfl)))
          clear ev9
          have n0_ : Aside0 (Kd.R (Kd.int .i64) 3 (w17.alloc (.cells #[.slice A141_0 (rd_L1 l2 x24_2).length c141_0, v144, .int .i64 t146, .func (.func 25) #[] #[]] 44 (0, 0))) w.heap.size (fun _ => True) v144 y143) := ⟨zo HO145.out _⟩
          have n1_ : Aside0 (Kd.S (Kd.slice 3 (Kd.int .i64)) 34 (w17.alloc (.cells #[.slice A141_0 (rd_L1 l2 x24_2).length c141_0, v144, .int .i64 t146, .func (.func 25) #[] #[]] 44 (0, 0))) w.heap.size (fun k_ => some k_ ≠ (v144 : Value).ownBlock ∧ k_ ≠ w17.heap.size) u8 x8_2) := ⟨Kd.S_alloc (Kd.S_mono (Kd.S_bound HO_8.out) (fun k_ hk => ⟨hk.1, fun e_ => by have := hk.2.2.1; omega⟩)) _⟩
          have n2_ : Aside0 (Below w.heap.size w (w17.alloc (.cells #[.slice A141_0 (rd_L1 l2 x24_2).length c141_0, v144, .int .i64 t146, .func (.func 25) #[] #[]] 44 (0, 0)))) := ⟨ze HB.out _⟩
          have n3_ : Aside0 ((w17.alloc (.cells #[.slice A141_0 (rd_L1 l2 x24_2).length c141_0, v144, .int .i64 t146, .func (.func 25) #[] #[]] 44 (0, 0))).heap[w17.heap.size]? = some (.cells #[.slice A141_0 (rd_L1 l2 x24_2).length c141_0, v144, .int .i64 t146, .func (.func 25) #[] #[]] 44 (0, 0))) := ⟨blk_new _ _⟩
          have HBW := zm (show w.heap.size ≤ w17.heap.size from zE HB.out)
          have HKB := zm (show some w17.heap.size ≠ (v144 : Value).ownBlock from fun e_ => Nat.lt_irrefl _ (Kd.R_lt HO145.out _ e_.symm))
          clear HO145 HO_8 HB hHeld
          generalize w17.alloc (.cells #[.slice A141_0 (rd_L1 l2 x24_2).length c141_0, v144, .int .i64 t146, .func (.func 25) #[] #[]] 44 (0, 0)) = w18 at n0_ n1_ n2_ n3_ ⊢
          generalize w17.heap.size = B at n1_ n3_ HBW HKB ⊢
          have HO145 := n0_
          have HO_8 := n1_
          have HB := n2_
          have HS := n3_
          clear n0_ n1_ n2_ n3_
          refine hK.out _ _ trivial (fun hHeld => ?_)
          clear hK K
          refine norm_ (a' := ?_) ?_ ?_
          rotate_left
          ·
           show Act.put _ (some 37) _ = _
           simp only [Act.put, List.setIfInBounds_toArray, List.set_cons_zero, List.set_cons_succ, i64_w, i32_w]
           rfl
          refine pure_ (i := 7) (N := some 11) (v := ?_) (a' := ?_) #[true, true, true, true, true, true, true, true] rfl rfl (any_of HT_.out (by kernel_rfl)) (fun _ _ _ h => h) (Or.inl ⟨by rfl, ?_⟩) ?_ ?_
          rotate_left
          ·
           intro w'
           go_simp
           with_reducible rfl
          rotate_left
          ·
           simp only [Act.put, List.setIfInBounds_toArray, List.set_cons_zero, List.set_cons_succ, i64_w, i32_w]
           rfl
          refine done_ (done_of HT_.out (by kernel_rfl)) ?_
          try go_wp2
          go_loopg [39] k2 (fun kq v_ w' => ∃ (x11_3 : List Int) (x49_3 : Int), Aside0 (alloc_Pulses.l1 kq a0 a1 x8_2 (rd_L1 l2 x24_2) x11_3 l2 (l2.length : Int) x24_2 x49_3 = some (r1, r2)) ∧ Aside0 (kq ≤ k2) ∧ Aside0 (Kd.S (Kd.slice 3 (Kd.int .i64)) 34 w' w.heap.size (fun k_ => some k_ ≠ (v144 : Value).ownBlock ∧ k_ ≠ B) u8 x8_2) ∧ Aside0 (Kd.R (Kd.int .i64) 3 w' w.heap.size (fun _ => True) v144 x11_3) ∧ Aside0 (Below w.heap.size w w') ∧ Aside0 (w'.heap[B]? = some (.cells #[.slice A141_0 (rd_L1 l2 x24_2).length c141_0, v144, .int .i64 x49_3, .func (.func 25) #[] #[]] 44 (0, 0))))
          case atStart => exact ⟨(y143), (t146), H', ⟨Nat.le_refl _⟩, ⟨by (with_reducible repeat (first | apply Kd.S_alloc | apply Kd.S_drewN | apply Kd.S_drew)); exact HO_8.out⟩, ⟨by (with_reducible repeat (first | apply zo | apply zp | apply zq)); exact HO145.out⟩, ⟨by repeat (first | (with_reducible first | exact HB.out | apply ze | apply zd | apply zf) | exact HB.out)⟩, ⟨(by (with_reducible repeat (first | refine zh ?_ _ | refine zj ?_ | refine zi ?_ _)); exact HS.out)⟩⟩
          case round =>
           clear H'
           try clear c1
           try clear p1
           try clear q1
           try clear hx1
           try clear c2
           try clear p2
           try clear c6
           try clear c7
           try clear c8
           try clear c8b0
           try clear c9
           try clear c9b0
           try clear c10
           try clear c10b0
           try clear c11
           try clear c12
           try clear c14
           try clear p14
           try clear q14
           try clear hx14
           try clear c15
           try clear hx141_0
           try clear p141
           try clear p2
           try clear q141
           obtain ⟨x11_3, x49_3, HA, HK3, HO_8, HO_11, HB, HS⟩ := hrel
           cases gk with
           | zero => exact absurd HA.out (by simp [alloc_Pulses.l1])
           | succ k3 =>
            have H := HA.out
            clear HA
            simp only [alloc_Pulses.l1] at H
            replace H := Option.bind_eq_some_iff.mp H
            obtain ⟨⟨t147, t148, t149⟩, A180, H⟩ := H
            replace H : (if t148 = true then (alloc_Pulses.l1 k3 a0 a1 x8_2 (rd_L1 l2 x24_2) t149 l2 (l2.length : Int) x24_2 t147) else (if x8_2.length < 5864062014805 then (alloc_Pulses.l0 k3 a0 a1 (x8_2 ++ [t149]) l2 (l2.length : Int) (wrap64 (x24_2 + 1))) else (none))) = some (r1, r2) := H
            have A18 := zm A180
            clear A180
            by_cases c19 : t148 = true
            ·
             subst c19
             have H1 : (alloc_Pulses.l1 k3 a0 a1 x8_2 (rd_L1 l2 x24_2) t149 l2 (l2.length : Int) x24_2 t147) = some (r1, r2) := by rw [if_pos rfl] at H; exact H
             clear H
             have H := H1
             clear H1
             have H' := zm H
             clear H
             obtain ⟨Ao20, co20, eo20⟩ := Kd.R_slice HO_11.out
             subst eo20
             go_wp2_with (first | ((with_reducible refine gate_callee (f := 26) rfl ?_); refine goesL_ (some 39) rfl rfl Try.func26 (by kernel_rfl) rfl #[.pointer (some ⟨B, 0, none⟩)] rfl (by (try simp only [List.map_toArray, List.map_cons, List.map_nil]); first | done | rfl | (simp only [List.length_drop, List.length_take]; rfl)) ?_; (with_reducible refine (alloc_give.calls k3 B A141_0 c141_0 (rd_L1 l2 x24_2) (fun k_ => some k_ = (.slice Ao20 x11_3.length co20 : Value).ownBlock) (.slice Ao20 x11_3.length co20) x11_3 x49_3 t147 true t149 w _ ?side1 ?side2 ?side3 ?side4 ?side5 ?side6 ?side7 A18.out).mono ?_); (case side1 => repeat (first | (with_reducible first | exact HB.out | apply ze | apply zd | apply zf) | exact HB.out)); (case side2 => exact Kd.C_kept_came (Kd.heap_int .i64) HR141_0.out (by repeat (first | (with_reducible first | exact HB.out | apply ze | apply zd | apply zf) | exact HB.out)) (fun k_ hs_ => (fun e_ => Kd.R_base HO_11.out k_ e_.symm) hs_)); (case side3 => exact HC141_0.out); (case side4 => exact Kd.R_tight rfl HO_11.out); (case side5 => exact fun e_ => HKB.out e_); (case side6 => exact HBW.out); (case side7 => exact (by (with_reducible repeat (first | refine zh ?_ _ | refine zj ?_ | refine zi ?_ _)); exact HS.out)); rintro e w21 ⟨rfl, hy0, hb, hkp, hs9⟩; refine ⟨_, rfl, ?_⟩; have hs1 : w21.cell? ⟨B, 1, none⟩ = some (.slice Ao20 x11_3.length co20) := (zs hs9 1).trans rfl; have n0_ := zm (Kd.S_mono (ok' := fun k_ => some k_ ≠ (.slice Ao20 x11_3.length co20 : Value).ownBlock ∧ k_ ≠ B) (Kd.S_keptB (HO_8.out) hkp (fun k_ hk_ hs_ => hs_.elim hk_.1 hk_.2)) (fun k_ hk_ => hk_.1)); have n1_ := zm (Kd.R_reok rfl hy0 (fun k_ e_ => HO_11.out.1 k_ e_)); have n2_ := zm (hb); clear HO_8; clear HO_11; clear HB; clear HS; have HS := zm hs9; clear hs9; have HO_8 := n0_; have HO_11 := n1_; have HB := n2_; clear n0_ n1_ n2_; (try clear hb); (try clear hkp); (try clear hy0)))
             go_roundg k3
             case measure => have := HJ3.out; have := HK2.out; have := HK3.out; omega
             case rel => exact ⟨(t149), (t147), H', ⟨by have := HJ3.out; have := HK2.out; have := HK3.out; omega⟩, ⟨by (with_reducible repeat (first | apply Kd.S_alloc | apply Kd.S_drewN | apply Kd.S_drew)); exact HO_8.out⟩, ⟨by (with_reducible repeat (first | apply zo | apply zp | apply zq)); exact HO_11.out⟩, ⟨by repeat (first | (with_reducible first | exact HB.out | apply ze | apply zd | apply zf) | exact HB.out)⟩, ⟨(by (with_reducible repeat (first | refine zh ?_ _ | refine zj ?_ | refine zi ?_ _)); exact HS.out)⟩⟩
            ·
             replace c19 := Bool.eq_false_iff.mpr c19
             subst c19
             have H1 : (if x8_2.length < 5864062014805 then (alloc_Pulses.l0 k3 a0 a1 (x8_2 ++ [t149]) l2 (l2.length : Int) (wrap64 (x24_2 + 1))) else (none)) = some (r1, r2) := by rw [if_neg (show ¬ (false = true) by decide)] at H; exact H
             clear H
             have H := H1
             clear H1
             by_cases c22 : x8_2.length < 5864062014805
             ·
              rw [if_pos c22] at H
              have LMc22 := zm c22
              clear c22
              obtain ⟨y150, hy150⟩ : ∃ y_ : List (List Int), y_ = (x8_2 ++ [t149]) := ⟨_, rfl⟩
              replace H : (alloc_Pulses.l0 k3 a0 a1 y150 l2 (l2.length : Int) (wrap64 (x24_2 + 1))) = some (r1, r2) := by first | (rw [hy150]; with_reducible exact H) | (have H2_ := (Option.bind_some _ _).symm.trans H; rw [hy150]; with_reducible exact H2_) | (have H2_ := (Option.bind_some _ _).symm.trans H; with_reducible exact H2_) | with_reducible exact H | (rw [hy150]; exact H) | exact H
              have Ny150 := zm hy150
              clear hy150
              have H' := zm H
              clear H
              obtain ⟨Ao23, co23, eo23⟩ := Kd.R_slice HO_11.out
              subst eo23
              go_wp2_with (first | ((with_reducible refine gate_callee (f := 26) rfl ?_); refine goesL_ (some 39) rfl rfl Try.func26 (by kernel_rfl) rfl #[.pointer (some ⟨B, 0, none⟩)] rfl (by (try simp only [List.map_toArray, List.map_cons, List.map_nil]); first | done | rfl | (simp only [List.length_drop, List.length_take]; rfl)) ?_; (with_reducible refine (alloc_give.calls k3 B A141_0 c141_0 (rd_L1 l2 x24_2) (fun k_ => some k_ = (.slice Ao23 x11_3.length co23 : Value).ownBlock) (.slice Ao23 x11_3.length co23) x11_3 x49_3 t147 false t149 w _ ?side1 ?side2 ?side3 ?side4 ?side5 ?side6 ?side7 A18.out).mono ?_); (case side1 => repeat (first | (with_reducible first | exact HB.out | apply ze | apply zd | apply zf) | exact HB.out)); (case side2 => exact Kd.C_kept_came (Kd.heap_int .i64) HR141_0.out (by repeat (first | (with_reducible first | exact HB.out | apply ze | apply zd | apply zf) | exact HB.out)) (fun k_ hs_ => (fun e_ => Kd.R_base HO_11.out k_ e_.symm) hs_)); (case side3 => exact HC141_0.out); (case side4 => exact Kd.R_tight rfl HO_11.out); (case side5 => exact fun e_ => HKB.out e_); (case side6 => exact HBW.out); (case side7 => exact (by (with_reducible repeat (first | refine zh ?_ _ | refine zj ?_ | refine zi ?_ _)); exact HS.out)); rintro e w24 ⟨rfl, hy0, hb, hkp, hs9⟩; refine ⟨_, rfl, ?_⟩; have hs1 : w24.cell? ⟨B, 1, none⟩ = some (.slice Ao23 x11_3.length co23) := (zs hs9 1).trans rfl; have n0_ := zm (Kd.S_mono (ok' := fun k_ => some k_ ≠ (.slice Ao23 x11_3.length co23 : Value).ownBlock ∧ k_ ≠ B) (Kd.S_keptB (HO_8.out) hkp (fun k_ hk_ hs_ => hs_.elim hk_.1 hk_.2)) (fun k_ hk_ => hk_.1)); have n1_ := zm (Kd.R_reok rfl hy0 (fun k_ e_ => HO_11.out.1 k_ e_)); have n2_ := zm (hb); clear HO_8; clear HO_11; clear HB; clear HS; have HS := zm hs9; clear hs9; have HO_8 := n0_; have HO_11 := n1_; have HB := n2_; clear n0_ n1_ n2_; (try clear hb); (try clear hkp); (try clear hy0)) | ((with_reducible refine gate_builtin (b := .append) (xs := #[.tmp 40, .tmp 45]) rfl ?_); (try (refine gate_guard (by rfl) ?_; dsimp only)); at_builtin; refine Kd.S_append (Kd.slice 3 (Kd.int .i64)) (w0 := w) w.heap.size rfl (.tmp 40) (.tmp 45) 25 34 (.slice none 0 0) 24 rfl Try.underlying25 info34 rfl (by decide) (by omega) u8 x8_2 t149 [.slice Ao23 x11_3.length co23] (fun _ => True) (fun k_ => some k_ = (.slice Ao23 x11_3.length co23 : Value).ownBlock) rfl rfl ?aP (fun k_ hk_ => ((zG (ok' := fun k_ => ((fun _ => True)) k_ ∧ some k_ ≠ (u8 : Value).ownBlock) (Kd.R_apart' (HO_11.out) (Kd.S_typed HO_8.out) (by decide)) (fun k_ hk => ⟨trivial, hk.2⟩))).1 k_ hk_.symm) ?aF ?aO ?aB ?aS ?aL ?_; (case aP => exact Kd.M_row (zG (Kd.R_tight rfl (zG (ok' := fun k_ => ((fun _ => True)) k_ ∧ some k_ ≠ (u8 : Value).ownBlock) (Kd.R_apart' (HO_11.out) (Kd.S_typed HO_8.out) (by decide)) (fun k_ hk => ⟨trivial, hk.2⟩))) (fun _ h_ => h_))); (case aB => exact (by repeat (first | (with_reducible first | exact HB.out | apply ze | apply zd | apply zf) | exact HB.out))); (case aF => exact (fun _ _ => trivial)); (case aO => exact (by (with_reducible repeat (first | apply Kd.S_alloc | apply Kd.S_drewN | apply Kd.S_drew)); exact Kd.S_mono HO_8.out (fun k_ hk => ⟨trivial, fun e_ => hk.1 e_⟩))); (case aS => exact (zE (by repeat (first | (with_reducible first | exact HB.out | apply ze | apply zd | apply zf) | exact HB.out)))); (case aL => have := LMc22.out; omega); intro v151 w25 ho hb hg hat; rw [← Ny150.out] at ho; have n0_ := zm (hb); have n1_ := zm (ho); clear HB; clear HO_8; clear HO_11; have HB := n0_; have HO152 := n1_; clear n0_ n1_; clear ho hb hg hat))
              go_roundg k3
              case measure => have := HJ3.out; have := HK2.out; have := HK3.out; omega
              case rel => exact ⟨(y150), (wrap64 (x24_2 + 1)), (by first | rfl | (simp; done) | (simp [*]; done)), H', ⟨by have := HJ3.out; have := HK2.out; have := HK3.out; omega⟩, ⟨by (with_reducible repeat (first | apply Kd.S_alloc | apply Kd.S_drewN | apply Kd.S_drew)); exact HO152.out⟩, ⟨by repeat (first | (with_reducible first | exact HB.out | apply ze | apply zd | apply zf) | exact HB.out)⟩⟩
             ·
              rw [if_neg c22] at H
              exact absurd H (by simp)
         ·
          replace c12 := Bool.eq_false_iff.mpr c12
          subst c12
          have H1 : (some (([] : List (List Int)), 1)) = some (r1, r2) := by rw [if_neg (show ¬ (false = true) by decide)] at H; exact H
          clear H
          have H := H1
          clear H1
          simp only [Option.some.injEq, Prod.mk.injEq] at H
          obtain ⟨rfl, rfl⟩ := H
          have p141 : 0 ≤ (x24_2 : Int) := of_decide_eq_true (by first | (with_reducible assumption) | assumption)
          have q141 : x24_2 < (l2.length : Int) := of_decide_eq_true (by first | (with_reducible assumption) | assumption)
          obtain ⟨ad141, A141_0, c141_0, e141, hx141_0, hl141_0, hi141_0⟩ := at_L1 HR2.out x24_2 p141 q141
          cases e141
          replace hx141_0 := (HB.out.cell (zb w _ hx141_0)).trans hx141_0
          have HR141_0 := zm hi141_0
          have HC141_0 := zm hl141_0
          clear hi141_0 hl141_0
          replace p141 := eq_true p141
          replace q141 := eq_true q141
          go_wp2_with (first | ((with_reducible refine gate_callee (f := 24) rfl ?_); refine goesL_ (some 29) rfl rfl Try.func24 (by kernel_rfl) rfl #[.slice A141_0 (rd_L1 l2 x24_2).length c141_0] rfl (by (try simp only [List.map_toArray, List.map_cons, List.map_nil]); first | done | rfl | (simp only [List.length_drop, List.length_take]; rfl)) ?_; (with_reducible refine (gain_Right.calls k2 _ _ (rd_L1 l2 x24_2) false _ ?side1 ?side2 A11.out).mono ?_); (case side1 => repeat (first | exact (Kd.C_below HR141_0.out HB.out) | (with_reducible refine Kd.C_alloc ?_ _) | (with_reducible refine Kd.C_drewN ?_ _) | (with_reducible refine Kd.C_drew ?_))); (case side2 => exact HC141_0.out); rintro e w' ⟨rfl, ⟨nd, rfl⟩⟩; refine ⟨_, rfl, ?_⟩))
          go_ret2
          exact ⟨_, by first | rfl | (simp [errW_none, errW_some] <;> rfl) | (simp [*, errW_none, errW_some] <;> rfl), by first | exact Kd.S_nil _ _ _ _ _ | exact Kd.N_nil _ _ _ _ _ | exact Kd.V_nil _ _ _ _ _ | exact Kd.Q_nil _ _ _ _ _ | exact Kd.R_nil _ _ _ _ _, by repeat (first | (with_reducible first | exact HB.out | apply ze | apply zd | apply zf) | exact HB.out)⟩
        ·
         rw [if_neg c10] at H
         exact absurd H (by simp)
       ·
        rw [if_neg c9] at H
        exact absurd H (by simp)
      ·
       rw [if_neg c8] at H
       have c8b0 : decide (x24_2 < (l2.length : Int)) = false := decide_eq_false c8
       clear c8
       simp only [Option.some.injEq, Prod.mk.injEq] at H
       obtain ⟨rfl, rfl⟩ := H
       go_wp2
       go_ret2
       exact ⟨_, by first | rfl | (simp [errW_none, errW_some] <;> rfl) | (simp [*, errW_none, errW_some] <;> rfl), by (with_reducible repeat (first | apply Kd.S_alloc | apply Kd.S_drewN | apply Kd.S_drew)); exact HO_8.out, by repeat (first | (with_reducible first | exact HB.out | apply ze | apply zd | apply zf) | exact HB.out)⟩

end Go.Proofs.Ytbaaedpjaanjnaa.Prt

namespace Go.Proofs.Ytbaaedpjaanjnaa.Prt
open Go.RowKit Go.Proofs.YtbaaedpjaanjnaaW.PrintWords Go.Proofs.YtbaaedpjaanjnaaW.PrintLast Go.Proofs.YtbaaedpjaanjnaaW.PrintMore
attribute [local go_sem] max2_int min2_int max_two min_two max_three min_three max_four min_four   -- for this text's walks alone
set_option linter.unusedVariables false
set_option linter.unusedSimpArgs false

/-! ### psalteryref06_Same: function 22 -/
def psalteryref06_Same.l0 : Nat → List Int → List Int → Int → Option (Bool)
 | 0, _, _, _ => none
 | k + 1, x0, x1, x5 => if x5 < (x0.length : Int) then (if 0 ≤ x5 then (if x5 < (x1.length : Int) then (if (rd x0 x5) = (rd x1 x5) then (psalteryref06_Same.l0 k x0 x1 (wrap64 (x5 + 1))) else (some false)) else (none)) else (none)) else (some true)
def psalteryref06_Same.f (k : Nat) (l0 : List Int) (l1 : List Int) : Option (Bool) := if (l0.length : Int) = (l1.length : Int) then (psalteryref06_Same.l0 k l0 l1 0) else (some false)
theorem psalteryref06_Same.mono_l : ∀ k, (∀ y0 y1 y2, LeO (psalteryref06_Same.l0 k y0 y1 y2) (psalteryref06_Same.l0 (k + 1) y0 y1 y2))
 | 0 => fun _ _ _ r h => by simp [psalteryref06_Same.l0] at h
 | k + 1 => by
  have ih0 := psalteryref06_Same.mono_l k
  ·
   intro y0 y1 y2
   unfold psalteryref06_Same.l0
   repeat' first
   | (with_reducible exact ih0 _ _ _)
   | (with_reducible exact LeO.refl _)
   | (with_reducible exact LeO.none _)
   | (with_reducible refine LeO.ite ?_ ?_)
   | (with_reducible refine LeO.bind ?_ (fun _ => ?_))
   | exact ih0 _ _ _
   | exact LeO.none _
   | refine LeO.ite ?_ ?_
   | refine LeO.bind ?_ (fun _ => ?_)
theorem psalteryref06_Same.mono : ∀ a0 a1 k, LeO (psalteryref06_Same.f k a0 a1) (psalteryref06_Same.f (k + 1) a0 a1) := by
 intro a0 a1 k
 have ih0 := psalteryref06_Same.mono_l k
 unfold psalteryref06_Same.f
 repeat' first
   | (with_reducible exact ih0 _ _ _)
   | (with_reducible exact LeO.refl _)
   | (with_reducible exact LeO.none _)
   | (with_reducible refine LeO.ite ?_ ?_)
   | (with_reducible refine LeO.bind ?_ (fun _ => ?_))
   | exact ih0 _ _ _
   | exact LeO.none _
   | refine LeO.ite ?_ ?_
   | refine LeO.bind ?_ (fun _ => ?_)
set_option maxHeartbeats 8000000 in
set_option maxRecDepth 100000 in
theorem psalteryref06_Same.calls (k : Nat) (A0 : Option Addr) (c0 : Nat) (l0 : List Int) (A1 : Option Addr) (c1 : Nat) (l1 : List Int) (r : Bool) (w : World) (hr0 : Kd.C (Kd.int .i64) w A0 l0.length l0) (hc0 : l0.length ≤ c0) (hr1 : Kd.C (Kd.int .i64) w A1 l1.length l1) (hc1 : l1.length ≤ c1) (h : psalteryref06_Same.f k l0 l1 = some r) :
  Calls Try.prog 22 #[.slice A0 l0.length c0, .slice A1 l1.length c1] w fun e w' => e = .returned (.bool r) ∧ Drawn0 w w' := by
 have HR0 := zm hr0
 have HC0 := zm hc0
 clear hr0 hc0
 have HR1 := zm hr1
 have HC1 := zm hc1
 clear hr1 hc1
 have H : (if (l0.length : Int) = (l1.length : Int) then (psalteryref06_Same.l0 k l0 l1 0) else (some false)) = some r := h
 clear h
 by_cases c3 : (l0.length : Int) = (l1.length : Int)
 ·
  rw [if_pos c3] at H
  have c3b0 : ((l0.length : Int) == (l1.length : Int)) = true := beq_iff_eq.mpr c3
  have c3b1 : ((l0.length : Int) != (l1.length : Int)) = false := bne_eq_false_iff_eq.mpr c3
  have c3b2 : (l0.length == l1.length) = true := by first | simpa using c3 | (simp at c3 ⊢; omega)
  clear c3
  have H' := zm H
  clear H
  go_enter Try.func22, Try.ntmps22
  go_wp2
  repeat (go_quiet (fail); try go_wp2)
  go_loopg [5] k (fun kq v5 w' => ∃ (x5_1 : Int), v5 = .int .i64 x5_1 ∧ Aside0 (psalteryref06_Same.l0 kq l0 l1 x5_1 = some r) ∧ Aside0 (kq ≤ k) ∧ Drawn0 w w')
  case atStart => exact ⟨(0), (by first | rfl | (simp; done) | (simp [*]; done)), H', ⟨Nat.le_refl _⟩, by repeat (first | exact Drawn0.refl _ | apply Drawn0.step)⟩
  case round =>
   clear H'
   try clear c1
   try clear c2
   try clear p2
   try clear c3
   try clear c3b0
   try clear c3b1
   try clear c3b2
   obtain ⟨x5_1, rfl, HA, HK1, ⟨m1, rfl⟩⟩ := hrel
   cases gk with
   | zero => exact absurd HA.out (by simp [psalteryref06_Same.l0])
   | succ k1 =>
    have H := HA.out
    clear HA
    simp only [psalteryref06_Same.l0] at H
    by_cases c4 : x5_1 < (l0.length : Int)
    ·
     rw [if_pos c4] at H
     have c4b0 : decide (x5_1 < (l0.length : Int)) = true := decide_eq_true c4
     clear c4
     by_cases c5 : 0 ≤ x5_1
     ·
      rw [if_pos c5] at H
      have c5b0 : decide (0 ≤ x5_1) = true := decide_eq_true c5
      clear c5
      by_cases c6 : x5_1 < (l1.length : Int)
      ·
       rw [if_pos c6] at H
       have c6b0 : decide (x5_1 < (l1.length : Int)) = true := decide_eq_true c6
       clear c6
       by_cases c7 : (rd l0 x5_1) = (rd l1 x5_1)
       ·
        rw [if_pos c7] at H
        have c7b0 : ((rd l0 x5_1) == (rd l1 x5_1)) = true := beq_iff_eq.mpr c7
        have c7b1 : ((rd l0 x5_1) != (rd l1 x5_1)) = false := bne_eq_false_iff_eq.mpr c7
        clear c7
        have H' := zm H
        clear H
        have p153 : 0 ≤ (x5_1 : Int) := of_decide_eq_true (by first | (with_reducible assumption) | assumption)
        have q153 : x5_1 < (l0.length : Int) := of_decide_eq_true (by first | (with_reducible assumption) | assumption)
        obtain ⟨ad153, e153, hx153_0⟩ := Kd.at_int HR0.out x5_1 p153 q153
        cases e153
        replace p153 := eq_true p153
        replace q153 := eq_true q153
        have p154 : 0 ≤ (x5_1 : Int) := of_decide_eq_true (by first | (with_reducible assumption) | assumption)
        have q154 : x5_1 < (l1.length : Int) := of_decide_eq_true (by first | (with_reducible assumption) | assumption)
        obtain ⟨ad154, e154, hx154_0⟩ := Kd.at_int HR1.out x5_1 p154 q154
        cases e154
        replace p154 := eq_true p154
        replace q154 := eq_true q154
        go_wp2
        repeat (go_quiet (fail); try go_wp2)
        go_roundg k1
        case measure => have := HK1.out; omega
        case rel => exact ⟨(wrap64 (x5_1 + 1)), (by first | rfl | (simp; done) | (simp [*]; done)), H', ⟨by have := HK1.out; omega⟩, by repeat (first | exact Drawn0.refl _ | apply Drawn0.step)⟩
       ·
        rw [if_neg c7] at H
        have c7b0 : ((rd l0 x5_1) == (rd l1 x5_1)) = false := beq_eq_false_iff_ne.mpr c7
        have c7b1 : ((rd l0 x5_1) != (rd l1 x5_1)) = true := bne_iff_ne.mpr c7
        obtain rfl := Option.some.inj H
        have p153 : 0 ≤ (x5_1 : Int) := of_decide_eq_true (by first | (with_reducible assumption) | assumption)
        have q153 : x5_1 < (l0.length : Int) := of_decide_eq_true (by first | (with_reducible assumption) | assumption)
        obtain ⟨ad153, e153, hx153_0⟩ := Kd.at_int HR0.out x5_1 p153 q153
        cases e153
        replace p153 := eq_true p153
        replace q153 := eq_true q153
        have p154 : 0 ≤ (x5_1 : Int) := of_decide_eq_true (by first | (with_reducible assumption) | assumption)
        have q154 : x5_1 < (l1.length : Int) := of_decide_eq_true (by first | (with_reducible assumption) | assumption)
        obtain ⟨ad154, e154, hx154_0⟩ := Kd.at_int HR1.out x5_1 p154 q154
        cases e154
        replace p154 := eq_true p154
        replace q154 := eq_true q154
        go_wp2
        repeat (go_quiet (fail); try go_wp2)
        go_ret
        exact ⟨by first | rfl | (simp; done) | (simp [*]; done), by repeat (first | exact Drawn0.refl _ | apply Drawn0.step)⟩
      ·
       rw [if_neg c6] at H
       exact absurd H (by simp)
     ·
      rw [if_neg c5] at H
      exact absurd H (by simp)
    ·
     rw [if_neg c4] at H
     have c4b0 : decide (x5_1 < (l0.length : Int)) = false := decide_eq_false c4
     clear c4
     obtain rfl := Option.some.inj H
     go_wp2
     repeat (go_quiet (fail); try go_wp2)
     go_ret
     exact ⟨by first | rfl | (simp; done) | (simp [*]; done), by repeat (first | exact Drawn0.refl _ | apply Drawn0.step)⟩
 ·
  rw [if_neg c3] at H
  have c3b0 : ((l0.length : Int) == (l1.length : Int)) = false := beq_eq_false_iff_ne.mpr c3
  have c3b1 : ((l0.length : Int) != (l1.length : Int)) = true := bne_iff_ne.mpr c3
  have c3b2 : (l0.length == l1.length) = false := by first | simpa using c3 | (simp at c3 ⊢; omega)
  obtain rfl := Option.some.inj H
  go_enter Try.func22, Try.ntmps22
  go_wp2
  repeat (go_quiet (fail); try go_wp2)
  go_ret
  exact ⟨by first | rfl | (simp; done) | (simp [*]; done), by repeat (first | exact Drawn0.refl _ | apply Drawn0.step)⟩

end Go.Proofs.Ytbaaedpjaanjnaa.Prt

namespace Go.Proofs.Ytbaaedpjaanjnaa.Prt
open Go.RowKit Go.Proofs.YtbaaedpjaanjnaaW.PrintWords Go.Proofs.YtbaaedpjaanjnaaW.PrintLast Go.Proofs.YtbaaedpjaanjnaaW.PrintMore
attribute [local go_sem] max2_int min2_int max_two min_two max_three min_three max_four min_four   -- for this text's walks alone
set_option linter.unusedVariables false
set_option linter.unusedSimpArgs false

/-! ### psalteryref12_Same: function 17 -/
def psalteryref12_Same.l0 : Nat → List (List Int) → List (List Int) → Int → Option (Bool)
 | 0, _, _, _ => none
 | k + 1, x0, x1, x5 => if x5 < (x0.length : Int) then (if 0 ≤ x5 then (if x5 < (x1.length : Int) then ((psalteryref06_Same.f k (rd_L1 x0 x5) (rd_L1 x1 x5)).bind fun t157 => (if t157 = true then (psalteryref12_Same.l0 k x0 x1 (wrap64 (x5 + 1))) else (some false))) else (none)) else (none)) else (some true)
def psalteryref12_Same.f (k : Nat) (l0 : List (List Int)) (l1 : List (List Int)) : Option (Bool) := if (l0.length : Int) = (l1.length : Int) then (psalteryref12_Same.l0 k l0 l1 0) else (some false)
theorem psalteryref12_Same.mono_l : ∀ k, (∀ y0 y1 y2, LeO (psalteryref12_Same.l0 k y0 y1 y2) (psalteryref12_Same.l0 (k + 1) y0 y1 y2))
 | 0 => fun _ _ _ r h => by simp [psalteryref12_Same.l0] at h
 | k + 1 => by
  have ih0 := psalteryref12_Same.mono_l k
  ·
   intro y0 y1 y2
   unfold psalteryref12_Same.l0
   repeat' first
   | (with_reducible exact ih0 _ _ _)
   | (with_reducible exact psalteryref06_Same.mono _ _ _)
   | (with_reducible exact LeO.refl _)
   | (with_reducible exact LeO.none _)
   | (with_reducible refine LeO.ite ?_ ?_)
   | (with_reducible refine LeO.bind ?_ (fun _ => ?_))
   | exact ih0 _ _ _
   | exact psalteryref06_Same.mono _ _ _
   | exact LeO.none _
   | refine LeO.ite ?_ ?_
   | refine LeO.bind ?_ (fun _ => ?_)
theorem psalteryref12_Same.mono : ∀ a0 a1 k, LeO (psalteryref12_Same.f k a0 a1) (psalteryref12_Same.f (k + 1) a0 a1) := by
 intro a0 a1 k
 have ih0 := psalteryref12_Same.mono_l k
 unfold psalteryref12_Same.f
 repeat' first
   | (with_reducible exact ih0 _ _ _)
   | (with_reducible exact psalteryref06_Same.mono _ _ _)
   | (with_reducible exact LeO.refl _)
   | (with_reducible exact LeO.none _)
   | (with_reducible refine LeO.ite ?_ ?_)
   | (with_reducible refine LeO.bind ?_ (fun _ => ?_))
   | exact ih0 _ _ _
   | exact psalteryref06_Same.mono _ _ _
   | exact LeO.none _
   | refine LeO.ite ?_ ?_
   | refine LeO.bind ?_ (fun _ => ?_)
set_option maxHeartbeats 8000000 in
set_option maxRecDepth 100000 in
theorem psalteryref12_Same.calls (k : Nat) (A0 : Option Addr) (c0 : Nat) (l0 : List (List Int)) (A1 : Option Addr) (c1 : Nat) (l1 : List (List Int)) (r : Bool) (w : World) (hr0 : Kd.C (Kd.slice 3 (Kd.int .i64)) w A0 l0.length l0) (hc0 : l0.length ≤ c0) (hr1 : Kd.C (Kd.slice 3 (Kd.int .i64)) w A1 l1.length l1) (hc1 : l1.length ≤ c1) (h : psalteryref12_Same.f k l0 l1 = some r) :
  Calls Try.prog 17 #[.slice A0 l0.length c0, .slice A1 l1.length c1] w fun e w' => e = .returned (.bool r) ∧ Drawn0 w w' := by
 have HR0 := zm hr0
 have HC0 := zm hc0
 clear hr0 hc0
 have HR1 := zm hr1
 have HC1 := zm hc1
 clear hr1 hc1
 have H : (if (l0.length : Int) = (l1.length : Int) then (psalteryref12_Same.l0 k l0 l1 0) else (some false)) = some r := h
 clear h
 by_cases c3 : (l0.length : Int) = (l1.length : Int)
 ·
  rw [if_pos c3] at H
  have c3b0 : ((l0.length : Int) == (l1.length : Int)) = true := beq_iff_eq.mpr c3
  have c3b1 : ((l0.length : Int) != (l1.length : Int)) = false := bne_eq_false_iff_eq.mpr c3
  have c3b2 : (l0.length == l1.length) = true := by first | simpa using c3 | (simp at c3 ⊢; omega)
  clear c3
  have H' := zm H
  clear H
  go_enter Try.func17, Try.ntmps17
  go_wp2
  repeat (go_quiet (fail); try go_wp2)
  go_loopg [5] k (fun kq v5 w' => ∃ (x5_1 : Int), v5 = .int .i64 x5_1 ∧ Aside0 (psalteryref12_Same.l0 kq l0 l1 x5_1 = some r) ∧ Aside0 (kq ≤ k) ∧ Drawn0 w w')
  case atStart => exact ⟨(0), (by first | rfl | (simp; done) | (simp [*]; done)), H', ⟨Nat.le_refl _⟩, by repeat (first | exact Drawn0.refl _ | apply Drawn0.step)⟩
  case round =>
   clear H'
   try clear c1
   try clear p2
   try clear c3
   try clear c3b0
   try clear c3b1
   try clear c3b2
   obtain ⟨x5_1, rfl, HA, HK1, ⟨m1, rfl⟩⟩ := hrel
   cases gk with
   | zero => exact absurd HA.out (by simp [psalteryref12_Same.l0])
   | succ k1 =>
    have H := HA.out
    clear HA
    simp only [psalteryref12_Same.l0] at H
    by_cases c4 : x5_1 < (l0.length : Int)
    ·
     rw [if_pos c4] at H
     have c4b0 : decide (x5_1 < (l0.length : Int)) = true := decide_eq_true c4
     clear c4
     by_cases c5 : 0 ≤ x5_1
     ·
      rw [if_pos c5] at H
      have c5b0 : decide (0 ≤ x5_1) = true := decide_eq_true c5
      clear c5
      by_cases c6 : x5_1 < (l1.length : Int)
      ·
       rw [if_pos c6] at H
       have c6b0 : decide (x5_1 < (l1.length : Int)) = true := decide_eq_true c6
       clear c6
       replace H := Option.bind_eq_some_iff.mp H
       obtain ⟨t157, A70, H⟩ := H
       replace H : (if t157 = true then (psalteryref12_Same.l0 k1 l0 l1 (wrap64 (x5_1 + 1))) else (some false)) = some r := H
       have A7 := zm A70
       clear A70
       by_cases c8 : t157 = true
       ·
        subst c8
        have H1 : (psalteryref12_Same.l0 k1 l0 l1 (wrap64 (x5_1 + 1))) = some r := by rw [if_pos rfl] at H; exact H
        clear H
        have H := H1
        clear H1
        have H' := zm H
        clear H
        have p155 : 0 ≤ (x5_1 : Int) := of_decide_eq_true (by first | (with_reducible assumption) | assumption)
        have q155 : x5_1 < (l0.length : Int) := of_decide_eq_true (by first | (with_reducible assumption) | assumption)
        obtain ⟨ad155, A155_0, c155_0, e155, hx155_0, hl155_0, hi155_0⟩ := at_L1 HR0.out x5_1 p155 q155
        cases e155
        have HR155_0 := zm hi155_0
        have HC155_0 := zm hl155_0
        clear hi155_0 hl155_0
        replace p155 := eq_true p155
        replace q155 := eq_true q155
        have p156 : 0 ≤ (x5_1 : Int) := of_decide_eq_true (by first | (with_reducible assumption) | assumption)
        have q156 : x5_1 < (l1.length : Int) := of_decide_eq_true (by first | (with_reducible assumption) | assumption)
        obtain ⟨ad156, A156_0, c156_0, e156, hx156_0, hl156_0, hi156_0⟩ := at_L1 HR1.out x5_1 p156 q156
        cases e156
        have HR156_0 := zm hi156_0
        have HC156_0 := zm hl156_0
        clear hi156_0 hl156_0
        replace p156 := eq_true p156
        replace q156 := eq_true q156
        go_wp2_with (first | (go_at_call 22; (with_reducible refine (psalteryref06_Same.calls k1 _ _ (rd_L1 l0 x5_1) _ _ (rd_L1 l1 x5_1) true _ ?side1 ?side2 ?side3 ?side4 A7.out).mono ?_); (case side1 => repeat (first | exact HR155_0.out | (with_reducible refine Kd.C_alloc ?_ _) | (with_reducible refine Kd.C_drewN ?_ _) | (with_reducible refine Kd.C_drew ?_))); (case side2 => exact HC155_0.out); (case side3 => repeat (first | exact HR156_0.out | (with_reducible refine Kd.C_alloc ?_ _) | (with_reducible refine Kd.C_drewN ?_ _) | (with_reducible refine Kd.C_drew ?_))); (case side4 => exact HC156_0.out); rintro e w' ⟨rfl, ⟨nd, rfl⟩⟩; (try first | exact ⟨rfl, _, World.drewN_drewN _ _ _⟩ | exact ⟨rfl, _, Eq.trans (World.drewN_drewN _ _ _) (congrArg (World.drewN _) (Nat.add_assoc _ _ _))⟩)))
        repeat (go_quiet (first | (go_at_call 22; (with_reducible refine (psalteryref06_Same.calls k1 _ _ (rd_L1 l0 x5_1) _ _ (rd_L1 l1 x5_1) true _ ?side1 ?side2 ?side3 ?side4 A7.out).mono ?_); (case side1 => repeat (first | exact HR155_0.out | (with_reducible refine Kd.C_alloc ?_ _) | (with_reducible refine Kd.C_drewN ?_ _) | (with_reducible refine Kd.C_drew ?_))); (case side2 => exact HC155_0.out); (case side3 => repeat (first | exact HR156_0.out | (with_reducible refine Kd.C_alloc ?_ _) | (with_reducible refine Kd.C_drewN ?_ _) | (with_reducible refine Kd.C_drew ?_))); (case side4 => exact HC156_0.out); rintro e w' ⟨rfl, ⟨nd, rfl⟩⟩; (try first | exact ⟨rfl, _, World.drewN_drewN _ _ _⟩ | exact ⟨rfl, _, Eq.trans (World.drewN_drewN _ _ _) (congrArg (World.drewN _) (Nat.add_assoc _ _ _))⟩))); try go_wp2_with (first | (go_at_call 22; (with_reducible refine (psalteryref06_Same.calls k1 _ _ (rd_L1 l0 x5_1) _ _ (rd_L1 l1 x5_1) true _ ?side1 ?side2 ?side3 ?side4 A7.out).mono ?_); (case side1 => repeat (first | exact HR155_0.out | (with_reducible refine Kd.C_alloc ?_ _) | (with_reducible refine Kd.C_drewN ?_ _) | (with_reducible refine Kd.C_drew ?_))); (case side2 => exact HC155_0.out); (case side3 => repeat (first | exact HR156_0.out | (with_reducible refine Kd.C_alloc ?_ _) | (with_reducible refine Kd.C_drewN ?_ _) | (with_reducible refine Kd.C_drew ?_))); (case side4 => exact HC156_0.out); rintro e w' ⟨rfl, ⟨nd, rfl⟩⟩; (try first | exact ⟨rfl, _, World.drewN_drewN _ _ _⟩ | exact ⟨rfl, _, Eq.trans (World.drewN_drewN _ _ _) (congrArg (World.drewN _) (Nat.add_assoc _ _ _))⟩))))
        go_roundg k1
        case measure => have := HK1.out; omega
        case rel => exact ⟨(wrap64 (x5_1 + 1)), (by first | rfl | (simp; done) | (simp [*]; done)), H', ⟨by have := HK1.out; omega⟩, by repeat (first | exact Drawn0.refl _ | apply Drawn0.step)⟩
       ·
        replace c8 := Bool.eq_false_iff.mpr c8
        subst c8
        have H1 : (some false) = some r := by rw [if_neg (show ¬ (false = true) by decide)] at H; exact H
        clear H
        have H := H1
        clear H1
        obtain rfl := Option.some.inj H
        have p155 : 0 ≤ (x5_1 : Int) := of_decide_eq_true (by first | (with_reducible assumption) | assumption)
        have q155 : x5_1 < (l0.length : Int) := of_decide_eq_true (by first | (with_reducible assumption) | assumption)
        obtain ⟨ad155, A155_0, c155_0, e155, hx155_0, hl155_0, hi155_0⟩ := at_L1 HR0.out x5_1 p155 q155
        cases e155
        have HR155_0 := zm hi155_0
        have HC155_0 := zm hl155_0
        clear hi155_0 hl155_0
        replace p155 := eq_true p155
        replace q155 := eq_true q155
        have p156 : 0 ≤ (x5_1 : Int) := of_decide_eq_true (by first | (with_reducible assumption) | assumption)
        have q156 : x5_1 < (l1.length : Int) := of_decide_eq_true (by first | (with_reducible assumption) | assumption)
        obtain ⟨ad156, A156_0, c156_0, e156, hx156_0, hl156_0, hi156_0⟩ := at_L1 HR1.out x5_1 p156 q156
        cases e156
        have HR156_0 := zm hi156_0
        have HC156_0 := zm hl156_0
        clear hi156_0 hl156_0
        replace p156 := eq_true p156
        replace q156 := eq_true q156
        go_wp2_with (first | (go_at_call 22; (with_reducible refine (psalteryref06_Same.calls k1 _ _ (rd_L1 l0 x5_1) _ _ (rd_L1 l1 x5_1) false _ ?side1 ?side2 ?side3 ?side4 A7.out).mono ?_); (case side1 => repeat (first | exact HR155_0.out | (with_reducible refine Kd.C_alloc ?_ _) | (with_reducible refine Kd.C_drewN ?_ _) | (with_reducible refine Kd.C_drew ?_))); (case side2 => exact HC155_0.out); (case side3 => repeat (first | exact HR156_0.out | (with_reducible refine Kd.C_alloc ?_ _) | (with_reducible refine Kd.C_drewN ?_ _) | (with_reducible refine Kd.C_drew ?_))); (case side4 => exact HC156_0.out); rintro e w' ⟨rfl, ⟨nd, rfl⟩⟩; (try first | exact ⟨rfl, _, World.drewN_drewN _ _ _⟩ | exact ⟨rfl, _, Eq.trans (World.drewN_drewN _ _ _) (congrArg (World.drewN _) (Nat.add_assoc _ _ _))⟩)))
        repeat (go_quiet (first | (go_at_call 22; (with_reducible refine (psalteryref06_Same.calls k1 _ _ (rd_L1 l0 x5_1) _ _ (rd_L1 l1 x5_1) false _ ?side1 ?side2 ?side3 ?side4 A7.out).mono ?_); (case side1 => repeat (first | exact HR155_0.out | (with_reducible refine Kd.C_alloc ?_ _) | (with_reducible refine Kd.C_drewN ?_ _) | (with_reducible refine Kd.C_drew ?_))); (case side2 => exact HC155_0.out); (case side3 => repeat (first | exact HR156_0.out | (with_reducible refine Kd.C_alloc ?_ _) | (with_reducible refine Kd.C_drewN ?_ _) | (with_reducible refine Kd.C_drew ?_))); (case side4 => exact HC156_0.out); rintro e w' ⟨rfl, ⟨nd, rfl⟩⟩; (try first | exact ⟨rfl, _, World.drewN_drewN _ _ _⟩ | exact ⟨rfl, _, Eq.trans (World.drewN_drewN _ _ _) (congrArg (World.drewN _) (Nat.add_assoc _ _ _))⟩))); try go_wp2_with (first | (go_at_call 22; (with_reducible refine (psalteryref06_Same.calls k1 _ _ (rd_L1 l0 x5_1) _ _ (rd_L1 l1 x5_1) false _ ?side1 ?side2 ?side3 ?side4 A7.out).mono ?_); (case side1 => repeat (first | exact HR155_0.out | (with_reducible refine Kd.C_alloc ?_ _) | (with_reducible refine Kd.C_drewN ?_ _) | (with_reducible refine Kd.C_drew ?_))); (case side2 => exact HC155_0.out); (case side3 => repeat (first | exact HR156_0.out | (with_reducible refine Kd.C_alloc ?_ _) | (with_reducible refine Kd.C_drewN ?_ _) | (with_reducible refine Kd.C_drew ?_))); (case side4 => exact HC156_0.out); rintro e w' ⟨rfl, ⟨nd, rfl⟩⟩; (try first | exact ⟨rfl, _, World.drewN_drewN _ _ _⟩ | exact ⟨rfl, _, Eq.trans (World.drewN_drewN _ _ _) (congrArg (World.drewN _) (Nat.add_assoc _ _ _))⟩))))
        go_ret
        exact ⟨by first | rfl | (simp; done) | (simp [*]; done), by repeat (first | exact Drawn0.refl _ | apply Drawn0.step)⟩
      ·
       rw [if_neg c6] at H
       exact absurd H (by simp)
     ·
      rw [if_neg c5] at H
      exact absurd H (by simp)
    ·
     rw [if_neg c4] at H
     have c4b0 : decide (x5_1 < (l0.length : Int)) = false := decide_eq_false c4
     clear c4
     obtain rfl := Option.some.inj H
     go_wp2
     repeat (go_quiet (fail); try go_wp2)
     go_ret
     exact ⟨by first | rfl | (simp; done) | (simp [*]; done), by repeat (first | exact Drawn0.refl _ | apply Drawn0.step)⟩
 ·
  rw [if_neg c3] at H
  have c3b0 : ((l0.length : Int) == (l1.length : Int)) = false := beq_eq_false_iff_ne.mpr c3
  have c3b1 : ((l0.length : Int) != (l1.length : Int)) = true := bne_iff_ne.mpr c3
  have c3b2 : (l0.length == l1.length) = false := by first | simpa using c3 | (simp at c3 ⊢; omega)
  obtain rfl := Option.some.inj H
  go_enter Try.func17, Try.ntmps17
  go_wp2
  repeat (go_quiet (fail); try go_wp2)
  go_ret
  exact ⟨by first | rfl | (simp; done) | (simp [*]; done), by repeat (first | exact Drawn0.refl _ | apply Drawn0.step)⟩

end Go.Proofs.Ytbaaedpjaanjnaa.Prt
