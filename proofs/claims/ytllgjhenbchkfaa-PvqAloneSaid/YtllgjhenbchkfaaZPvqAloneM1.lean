-- Functions of the program and of the document as plain Lean, each with the proof that the code comes to it. Written by a program of this session (wip/tools/myprint.py, pack.py) over the kit's printer; Lean checks it.
import Derived.Test.YtllgjhenbchkfaaZPvqAlonePrt0
import Derived.Test.YtllgjhenbchkfaaZPvqAloneWMore
import Derived.Laws.Rows
import Derived.Laws.Tables
import Derived.Deep.WholeRow
namespace Go.Proofs.Ytllgjhenbchkfaa.Prt
open Go.RowKit Go.Proofs.YtllgjhenbchkfaaW.PrintWords Go.Proofs.YtllgjhenbchkfaaW.PrintLast Go.Proofs.YtllgjhenbchkfaaW.PrintMore
attribute [local go_sem] max2_int min2_int max_two min_two max_three min_three max_four min_four   -- for this text's walks alone
set_option linter.unusedVariables false
set_option linter.unusedSimpArgs false

/-! ### psalteryref06_Same: function 14 -/
def psalteryref06_Same.l0 : Nat → List Int → List Int → Int → Option (Bool)
 | 0, _, _, _ => none
 | k + 1, x0, x1, x5 => if x5 < (x0.length : Int) then (if 0 ≤ x5 then (if x5 < (x1.length : Int) then (if (rd x0 x5) = (rd x1 x5) then (psalteryref06_Same.l0 k x0 x1 (wrap64 (x5 + 1))) else (some false)) else (none)) else (none)) else (some true)
def psalteryref06_Same.f (k : Nat) (l0 : List Int) (l1 : List Int) : Option (Bool) := if (l0.length : Int) = (l1.length : Int) then (psalteryref06_Same.l0 k l0 l1 0) else (some false)
theorem psalteryref06_Same.mono_l : ∀ k, (∀ y0 y1 y2, LeO (psalteryref06_Same.l0 k y0 y1 y2) (psalteryref06_Same.l0 (k + 1) y0 y1 y2))
 | 0 => fun _ _ _ r h => by simp [psalteryref06_Same.l0] at h
 | k + 1 => by
  have ih0 := psalteryref06_Same.mono_l k
  ·
   intro y0 y1 y2
   unfold psalteryref06_Same.l0
   repeat' first
   | (with_reducible exact ih0 _ _ _)
   | (with_reducible exact LeO.refl _)
   | (with_reducible exact LeO.none _)
   | (with_reducible refine LeO.ite ?_ ?_)
   | (with_reducible refine LeO.bind ?_ (fun _ => ?_))
   | exact ih0 _ _ _
   | exact LeO.none _
   | refine LeO.ite ?_ ?_
   | refine LeO.bind ?_ (fun _ => ?_)
theorem psalteryref06_Same.mono : ∀ a0 a1 k, LeO (psalteryref06_Same.f k a0 a1) (psalteryref06_Same.f (k + 1) a0 a1) := by
 intro a0 a1 k
 have ih0 := psalteryref06_Same.mono_l k
 unfold psalteryref06_Same.f
 repeat' first
   | (with_reducible exact ih0 _ _ _)
   | (with_reducible exact LeO.refl _)
   | (with_reducible exact LeO.none _)
   | (with_reducible refine LeO.ite ?_ ?_)
   | (with_reducible refine LeO.bind ?_ (fun _ => ?_))
   | exact ih0 _ _ _
   | exact LeO.none _
   | refine LeO.ite ?_ ?_
   | refine LeO.bind ?_ (fun _ => ?_)
set_option maxHeartbeats 8000000 in
set_option maxRecDepth 100000 in
theorem psalteryref06_Same.calls (k : Nat) (A0 : Option Addr) (c0 : Nat) (l0 : List Int) (A1 : Option Addr) (c1 : Nat) (l1 : List Int) (r : Bool) (w : World) (hr0 : Kd.C (Kd.int .i64) w A0 l0.length l0) (hc0 : l0.length ≤ c0) (hr1 : Kd.C (Kd.int .i64) w A1 l1.length l1) (hc1 : l1.length ≤ c1) (h : psalteryref06_Same.f k l0 l1 = some r) :
  Calls Try.prog 14 #[.slice A0 l0.length c0, .slice A1 l1.length c1] w fun e w' => e = .returned (.bool r) ∧ Drawn0 w w' := by
 have HR0 := zm hr0
 have HC0 := zm hc0
 clear hr0 hc0
 have HR1 := zm hr1
 have HC1 := zm hc1
 clear hr1 hc1
 have H : (if (l0.length : Int) = (l1.length : Int) then (psalteryref06_Same.l0 k l0 l1 0) else (some false)) = some r := h
 clear h
 by_cases c3 : (l0.length : Int) = (l1.length : Int)
 ·
  rw [if_pos c3] at H
  have c3b0 : ((l0.length : Int) == (l1.length : Int)) = true := beq_iff_eq.mpr c3
  have c3b1 : ((l0.length : Int) != (l1.length : Int)) = false := bne_eq_false_iff_eq.mpr c3
  have c3b2 : (l0.length == l1.length) = true := by first | simpa using c3 | (simp at c3 ⊢; omega)
  clear c3
  have H' := zm H
  clear H
  go_enter Try.func14, Try.ntmps14
  go_wp2
  repeat (go_quiet (fail); try go_wp2)
  go_loopg [5] k (fun kq v5 w' => ∃ (x5_1 : Int), v5 = .int .i64 x5_1 ∧ Aside0 (psalteryref06_Same.l0 kq l0 l1 x5_1 = some r) ∧ Aside0 (kq ≤ k) ∧ Drawn0 w w')
  case atStart => exact ⟨(0), (by first | rfl | (simp; done) | (simp [*]; done)), H', ⟨Nat.le_refl _⟩, by repeat (first | exact Drawn0.refl _ | apply Drawn0.step)⟩
  case round =>
   clear H'
   try clear c1
   try clear p2
   try clear c3
   try clear c3b0
   try clear c3b1
   try clear c3b2
   obtain ⟨x5_1, rfl, HA, HK1, ⟨m1, rfl⟩⟩ := hrel
   cases gk with
   | zero => exact absurd HA.out (by simp [psalteryref06_Same.l0])
   | succ k1 =>
    have H := HA.out
    clear HA
    simp only [psalteryref06_Same.l0] at H
    by_cases c4 : x5_1 < (l0.length : Int)
    ·
     rw [if_pos c4] at H
     have c4b0 : decide (x5_1 < (l0.length : Int)) = true := decide_eq_true c4
     clear c4
     by_cases c5 : 0 ≤ x5_1
     ·
      rw [if_pos c5] at H
      have c5b0 : decide (0 ≤ x5_1) = true := decide_eq_true c5
      clear c5
      by_cases c6 : x5_1 < (l1.length : Int)
      ·
       rw [if_pos c6] at H
       have c6b0 : decide (x5_1 < (l1.length : Int)) = true := decide_eq_true c6
       clear c6
       by_cases c7 : (rd l0 x5_1) = (rd l1 x5_1)
       ·
        rw [if_pos c7] at H
        have c7b0 : ((rd l0 x5_1) == (rd l1 x5_1)) = true := beq_iff_eq.mpr c7
        have c7b1 : ((rd l0 x5_1) != (rd l1 x5_1)) = false := bne_eq_false_iff_eq.mpr c7
        clear c7
        have H' := zm H
        clear H
        have p145 : 0 ≤ (x5_1 : Int) := of_decide_eq_true (by first | (with_reducible assumption) | assumption)
        have q145 : x5_1 < (l0.length : Int) := of_decide_eq_true (by first | (with_reducible assumption) | assumption)
        obtain ⟨ad145, e145, hx145_0⟩ := Kd.at_int HR0.out x5_1 p145 q145
        cases e145
        replace p145 := eq_true p145
        replace q145 := eq_true q145
        have p146 : 0 ≤ (x5_1 : Int) := of_decide_eq_true (by first | (with_reducible assumption) | assumption)
        have q146 : x5_1 < (l1.length : Int) := of_decide_eq_true (by first | (with_reducible assumption) | assumption)
        obtain ⟨ad146, e146, hx146_0⟩ := Kd.at_int HR1.out x5_1 p146 q146
        cases e146
        replace p146 := eq_true p146
        replace q146 := eq_true q146
        go_wp2
        repeat (go_quiet (fail); try go_wp2)
        go_roundg k1
        case measure => have := HK1.out; omega
        case rel => exact ⟨(wrap64 (x5_1 + 1)), (by first | rfl | (simp; done) | (simp [*]; done)), H', ⟨by have := HK1.out; omega⟩, by repeat (first | exact Drawn0.refl _ | apply Drawn0.step)⟩
       ·
        rw [if_neg c7] at H
        have c7b0 : ((rd l0 x5_1) == (rd l1 x5_1)) = false := beq_eq_false_iff_ne.mpr c7
        have c7b1 : ((rd l0 x5_1) != (rd l1 x5_1)) = true := bne_iff_ne.mpr c7
        obtain rfl := Option.some.inj H
        have p145 : 0 ≤ (x5_1 : Int) := of_decide_eq_true (by first | (with_reducible assumption) | assumption)
        have q145 : x5_1 < (l0.length : Int) := of_decide_eq_true (by first | (with_reducible assumption) | assumption)
        obtain ⟨ad145, e145, hx145_0⟩ := Kd.at_int HR0.out x5_1 p145 q145
        cases e145
        replace p145 := eq_true p145
        replace q145 := eq_true q145
        have p146 : 0 ≤ (x5_1 : Int) := of_decide_eq_true (by first | (with_reducible assumption) | assumption)
        have q146 : x5_1 < (l1.length : Int) := of_decide_eq_true (by first | (with_reducible assumption) | assumption)
        obtain ⟨ad146, e146, hx146_0⟩ := Kd.at_int HR1.out x5_1 p146 q146
        cases e146
        replace p146 := eq_true p146
        replace q146 := eq_true q146
        go_wp2
        repeat (go_quiet (fail); try go_wp2)
        go_ret
        exact ⟨by first | rfl | (simp; done) | (simp [*]; done), by repeat (first | exact Drawn0.refl _ | apply Drawn0.step)⟩
      ·
       rw [if_neg c6] at H
       exact absurd H (by simp)
     ·
      rw [if_neg c5] at H
      exact absurd H (by simp)
    ·
     rw [if_neg c4] at H
     have c4b0 : decide (x5_1 < (l0.length : Int)) = false := decide_eq_false c4
     clear c4
     obtain rfl := Option.some.inj H
     go_wp2
     repeat (go_quiet (fail); try go_wp2)
     go_ret
     exact ⟨by first | rfl | (simp; done) | (simp [*]; done), by repeat (first | exact Drawn0.refl _ | apply Drawn0.step)⟩
 ·
  rw [if_neg c3] at H
  have c3b0 : ((l0.length : Int) == (l1.length : Int)) = false := beq_eq_false_iff_ne.mpr c3
  have c3b1 : ((l0.length : Int) != (l1.length : Int)) = true := bne_iff_ne.mpr c3
  have c3b2 : (l0.length == l1.length) = false := by first | simpa using c3 | (simp at c3 ⊢; omega)
  obtain rfl := Option.some.inj H
  go_enter Try.func14, Try.ntmps14
  go_wp2
  repeat (go_quiet (fail); try go_wp2)
  go_ret
  exact ⟨by first | rfl | (simp; done) | (simp [*]; done), by repeat (first | exact Drawn0.refl _ | apply Drawn0.step)⟩

end Go.Proofs.Ytllgjhenbchkfaa.Prt

namespace Go.Proofs.Ytllgjhenbchkfaa.Prt
open Go.RowKit Go.Proofs.YtllgjhenbchkfaaW.PrintWords Go.Proofs.YtllgjhenbchkfaaW.PrintLast Go.Proofs.YtllgjhenbchkfaaW.PrintMore
attribute [local go_sem] max2_int min2_int max_two min_two max_three min_three max_four min_four   -- for this text's walks alone
set_option linter.unusedVariables false
set_option linter.unusedSimpArgs false

/-! ### psalteryref07_Same: function 18 -/
def psalteryref07_Same.l0 : Nat → List Int → List Int → Int → Option (Bool)
 | 0, _, _, _ => none
 | k + 1, x0, x1, x5 => if x5 < (x0.length : Int) then (if 0 ≤ x5 then (if x5 < (x1.length : Int) then (if (rd x0 x5) = (rd x1 x5) then (psalteryref07_Same.l0 k x0 x1 (wrap64 (x5 + 1))) else (some false)) else (none)) else (none)) else (some true)
def psalteryref07_Same.f (k : Nat) (l0 : List Int) (l1 : List Int) : Option (Bool) := if (l0.length : Int) = (l1.length : Int) then (psalteryref07_Same.l0 k l0 l1 0) else (some false)
theorem psalteryref07_Same.mono_l : ∀ k, (∀ y0 y1 y2, LeO (psalteryref07_Same.l0 k y0 y1 y2) (psalteryref07_Same.l0 (k + 1) y0 y1 y2))
 | 0 => fun _ _ _ r h => by simp [psalteryref07_Same.l0] at h
 | k + 1 => by
  have ih0 := psalteryref07_Same.mono_l k
  ·
   intro y0 y1 y2
   unfold psalteryref07_Same.l0
   repeat' first
   | (with_reducible exact ih0 _ _ _)
   | (with_reducible exact LeO.refl _)
   | (with_reducible exact LeO.none _)
   | (with_reducible refine LeO.ite ?_ ?_)
   | (with_reducible refine LeO.bind ?_ (fun _ => ?_))
   | exact ih0 _ _ _
   | exact LeO.none _
   | refine LeO.ite ?_ ?_
   | refine LeO.bind ?_ (fun _ => ?_)
theorem psalteryref07_Same.mono : ∀ a0 a1 k, LeO (psalteryref07_Same.f k a0 a1) (psalteryref07_Same.f (k + 1) a0 a1) := by
 intro a0 a1 k
 have ih0 := psalteryref07_Same.mono_l k
 unfold psalteryref07_Same.f
 repeat' first
   | (with_reducible exact ih0 _ _ _)
   | (with_reducible exact LeO.refl _)
   | (with_reducible exact LeO.none _)
   | (with_reducible refine LeO.ite ?_ ?_)
   | (with_reducible refine LeO.bind ?_ (fun _ => ?_))
   | exact ih0 _ _ _
   | exact LeO.none _
   | refine LeO.ite ?_ ?_
   | refine LeO.bind ?_ (fun _ => ?_)
set_option maxHeartbeats 8000000 in
set_option maxRecDepth 100000 in
theorem psalteryref07_Same.calls (k : Nat) (A0 : Option Addr) (c0 : Nat) (l0 : List Int) (A1 : Option Addr) (c1 : Nat) (l1 : List Int) (r : Bool) (w : World) (hr0 : Kd.C (Kd.int .i64) w A0 l0.length l0) (hc0 : l0.length ≤ c0) (hr1 : Kd.C (Kd.int .i64) w A1 l1.length l1) (hc1 : l1.length ≤ c1) (h : psalteryref07_Same.f k l0 l1 = some r) :
  Calls Try.prog 18 #[.slice A0 l0.length c0, .slice A1 l1.length c1] w fun e w' => e = .returned (.bool r) ∧ Drawn0 w w' := by
 have HR0 := zm hr0
 have HC0 := zm hc0
 clear hr0 hc0
 have HR1 := zm hr1
 have HC1 := zm hc1
 clear hr1 hc1
 have H : (if (l0.length : Int) = (l1.length : Int) then (psalteryref07_Same.l0 k l0 l1 0) else (some false)) = some r := h
 clear h
 by_cases c3 : (l0.length : Int) = (l1.length : Int)
 ·
  rw [if_pos c3] at H
  have c3b0 : ((l0.length : Int) == (l1.length : Int)) = true := beq_iff_eq.mpr c3
  have c3b1 : ((l0.length : Int) != (l1.length : Int)) = false := bne_eq_false_iff_eq.mpr c3
  have c3b2 : (l0.length == l1.length) = true := by first | simpa using c3 | (simp at c3 ⊢; omega)
  clear c3
  have H' := zm H
  clear H
  go_enter Try.func18, Try.ntmps18
  go_wp2
  repeat (go_quiet (fail); try go_wp2)
  go_loopg [5] k (fun kq v5 w' => ∃ (x5_1 : Int), v5 = .int .i64 x5_1 ∧ Aside0 (psalteryref07_Same.l0 kq l0 l1 x5_1 = some r) ∧ Aside0 (kq ≤ k) ∧ Drawn0 w w')
  case atStart => exact ⟨(0), (by first | rfl | (simp; done) | (simp [*]; done)), H', ⟨Nat.le_refl _⟩, by repeat (first | exact Drawn0.refl _ | apply Drawn0.step)⟩
  case round =>
   clear H'
   try clear c1
   try clear p2
   try clear c3
   try clear c3b0
   try clear c3b1
   try clear c3b2
   obtain ⟨x5_1, rfl, HA, HK1, ⟨m1, rfl⟩⟩ := hrel
   cases gk with
   | zero => exact absurd HA.out (by simp [psalteryref07_Same.l0])
   | succ k1 =>
    have H := HA.out
    clear HA
    simp only [psalteryref07_Same.l0] at H
    by_cases c4 : x5_1 < (l0.length : Int)
    ·
     rw [if_pos c4] at H
     have c4b0 : decide (x5_1 < (l0.length : Int)) = true := decide_eq_true c4
     clear c4
     by_cases c5 : 0 ≤ x5_1
     ·
      rw [if_pos c5] at H
      have c5b0 : decide (0 ≤ x5_1) = true := decide_eq_true c5
      clear c5
      by_cases c6 : x5_1 < (l1.length : Int)
      ·
       rw [if_pos c6] at H
       have c6b0 : decide (x5_1 < (l1.length : Int)) = true := decide_eq_true c6
       clear c6
       by_cases c7 : (rd l0 x5_1) = (rd l1 x5_1)
       ·
        rw [if_pos c7] at H
        have c7b0 : ((rd l0 x5_1) == (rd l1 x5_1)) = true := beq_iff_eq.mpr c7
        have c7b1 : ((rd l0 x5_1) != (rd l1 x5_1)) = false := bne_eq_false_iff_eq.mpr c7
        clear c7
        have H' := zm H
        clear H
        have p169 : 0 ≤ (x5_1 : Int) := of_decide_eq_true (by first | (with_reducible assumption) | assumption)
        have q169 : x5_1 < (l0.length : Int) := of_decide_eq_true (by first | (with_reducible assumption) | assumption)
        obtain ⟨ad169, e169, hx169_0⟩ := Kd.at_int HR0.out x5_1 p169 q169
        cases e169
        replace p169 := eq_true p169
        replace q169 := eq_true q169
        have p170 : 0 ≤ (x5_1 : Int) := of_decide_eq_true (by first | (with_reducible assumption) | assumption)
        have q170 : x5_1 < (l1.length : Int) := of_decide_eq_true (by first | (with_reducible assumption) | assumption)
        obtain ⟨ad170, e170, hx170_0⟩ := Kd.at_int HR1.out x5_1 p170 q170
        cases e170
        replace p170 := eq_true p170
        replace q170 := eq_true q170
        go_wp2
        repeat (go_quiet (fail); try go_wp2)
        go_roundg k1
        case measure => have := HK1.out; omega
        case rel => exact ⟨(wrap64 (x5_1 + 1)), (by first | rfl | (simp; done) | (simp [*]; done)), H', ⟨by have := HK1.out; omega⟩, by repeat (first | exact Drawn0.refl _ | apply Drawn0.step)⟩
       ·
        rw [if_neg c7] at H
        have c7b0 : ((rd l0 x5_1) == (rd l1 x5_1)) = false := beq_eq_false_iff_ne.mpr c7
        have c7b1 : ((rd l0 x5_1) != (rd l1 x5_1)) = true := bne_iff_ne.mpr c7
        obtain rfl := Option.some.inj H
        have p169 : 0 ≤ (x5_1 : Int) := of_decide_eq_true (by first | (with_reducible assumption) | assumption)
        have q169 : x5_1 < (l0.length : Int) := of_decide_eq_true (by first | (with_reducible assumption) | assumption)
        obtain ⟨ad169, e169, hx169_0⟩ := Kd.at_int HR0.out x5_1 p169 q169
        cases e169
        replace p169 := eq_true p169
        replace q169 := eq_true q169
        have p170 : 0 ≤ (x5_1 : Int) := of_decide_eq_true (by first | (with_reducible assumption) | assumption)
        have q170 : x5_1 < (l1.length : Int) := of_decide_eq_true (by first | (with_reducible assumption) | assumption)
        obtain ⟨ad170, e170, hx170_0⟩ := Kd.at_int HR1.out x5_1 p170 q170
        cases e170
        replace p170 := eq_true p170
        replace q170 := eq_true q170
        go_wp2
        repeat (go_quiet (fail); try go_wp2)
        go_ret
        exact ⟨by first | rfl | (simp; done) | (simp [*]; done), by repeat (first | exact Drawn0.refl _ | apply Drawn0.step)⟩
      ·
       rw [if_neg c6] at H
       exact absurd H (by simp)
     ·
      rw [if_neg c5] at H
      exact absurd H (by simp)
    ·
     rw [if_neg c4] at H
     have c4b0 : decide (x5_1 < (l0.length : Int)) = false := decide_eq_false c4
     clear c4
     obtain rfl := Option.some.inj H
     go_wp2
     repeat (go_quiet (fail); try go_wp2)
     go_ret
     exact ⟨by first | rfl | (simp; done) | (simp [*]; done), by repeat (first | exact Drawn0.refl _ | apply Drawn0.step)⟩
 ·
  rw [if_neg c3] at H
  have c3b0 : ((l0.length : Int) == (l1.length : Int)) = false := beq_eq_false_iff_ne.mpr c3
  have c3b1 : ((l0.length : Int) != (l1.length : Int)) = true := bne_iff_ne.mpr c3
  have c3b2 : (l0.length == l1.length) = false := by first | simpa using c3 | (simp at c3 ⊢; omega)
  obtain rfl := Option.some.inj H
  go_enter Try.func18, Try.ntmps18
  go_wp2
  repeat (go_quiet (fail); try go_wp2)
  go_ret
  exact ⟨by first | rfl | (simp; done) | (simp [*]; done), by repeat (first | exact Drawn0.refl _ | apply Drawn0.step)⟩

end Go.Proofs.Ytllgjhenbchkfaa.Prt

namespace Go.Proofs.Ytllgjhenbchkfaa.Prt
open Go.RowKit Go.Proofs.YtllgjhenbchkfaaW.PrintWords Go.Proofs.YtllgjhenbchkfaaW.PrintLast Go.Proofs.YtllgjhenbchkfaaW.PrintMore
attribute [local go_sem] max2_int min2_int max_two min_two max_three min_three max_four min_four   -- for this text's walks alone
set_option linter.unusedVariables false
set_option linter.unusedSimpArgs false

/-! ### pvq_above: function 35 -/
def pvq_above.f (a0_0 : Int) (a0_1 : Int) (a1_0 : Int) (a1_1 : Int) : Option (Bool) := some (decide ((wrap64 ((wrap64 (a0_0 * a0_0)) * a1_1)) > (wrap64 ((wrap64 (a1_0 * a1_0)) * a0_1))))
set_option maxHeartbeats 8000000 in
set_option maxRecDepth 100000 in
theorem pvq_above.calls (a0_0 : Int) (a0_1 : Int) (a1_0 : Int) (a1_1 : Int) (r : Bool) (w : World) (h : pvq_above.f a0_0 a0_1 a1_0 a1_1 = some r) :
  Calls Try.prog 35 #[.agg #[.int .i64 a0_0, .int .i64 a0_1], .agg #[.int .i64 a1_0, .int .i64 a1_1]] w fun e w' => e = .returned (.bool r) ∧ Below w.heap.size w w' := by
 have hu47 := Try.underlying47
 have HB := zm (Below.refl w.heap.size w)
 have H : (some (decide ((wrap64 ((wrap64 (a0_0 * a0_0)) * a1_1)) > (wrap64 ((wrap64 (a1_0 * a1_0)) * a0_1))))) = some r := h
 clear h
 obtain rfl := Option.some.inj H
 go_enter Try.func35, Try.ntmps35
 go_wp2_with (first | ((with_reducible refine gate_dst (N := 2) rfl ?_); refine box_event ?hg (N := 2) ?hd (cs := #[.int .i64 a0_0, .int .i64 a0_1]) (t := 47) ?hr ?_; (case hd => rfl); (case hg => rfl); (case hr => first | (go_simp; done) | (go_simp; rfl)); intro gb115 hg w3 hbox hb; have n0_ := zm (zJ (by repeat (first | (with_reducible first | exact HB.out | apply ze | apply zd | apply zf) | exact HB.out)) hb); have n1_ := zm (hbox); have n2_ := zm ((by rw [hg]; exact (zE (by repeat (first | (with_reducible first | exact HB.out | apply ze | apply zd | apply zf) | exact HB.out))) : w.heap.size ≤ gb115)); have n3_ := zm ((by rw [hg]; exact (zE (by repeat (first | (with_reducible first | exact HB.out | apply ze | apply zd | apply zf) | exact HB.out))) : w.heap.size ≤ gb115)); clear HB; have HB := n0_; have BK115 := n1_; have GW115 := n2_; have GE115 := n3_; clear n0_ n1_ n2_ n3_; clear hb hbox hg) | ((with_reducible refine gate_dst (N := 3) rfl ?_); refine box_event ?hg (N := 3) ?hd (cs := #[.int .i64 a1_0, .int .i64 a1_1]) (t := 47) ?hr ?_; (case hd => rfl); (case hg => rfl); (case hr => first | (go_simp; done) | (go_simp; rfl)); intro gb116 hg w4 hbox hb; have n0_ := zm (zF (g := gb115) (o := .cells #[.int .i64 a0_0, .int .i64 a0_1] 47 (0, 0)) (by (with_reducible repeat (first | refine zh ?_ _ | refine zj ?_ | refine zi ?_ _)); exact BK115.out) hb); have n1_ := zm (zJ (by repeat (first | (with_reducible first | exact HB.out | apply ze | apply zd | apply zf | refine zk ?_ GE115.out) | exact HB.out)) hb); have n2_ := zm (hbox); have n3_ := zm ((by rw [hg]; exact (zE (by repeat (first | (with_reducible first | exact HB.out | apply ze | apply zd | apply zf | refine zk ?_ GE115.out) | exact HB.out))) : w.heap.size ≤ gb116)); have n4_ := zm ((by rw [hg]; exact (zE (by repeat (first | (with_reducible first | exact HB.out | apply ze | apply zd | apply zf | refine zk ?_ GE115.out) | exact HB.out))) : w.heap.size ≤ gb116)); have n5_ := zm ((by rw [hg]; exact zn (zD (g := gb115) (o := .cells #[.int .i64 a0_0, .int .i64 a0_1] 47 (0, 0)) (by (with_reducible repeat (first | refine zh ?_ _ | refine zj ?_ | refine zi ?_ _)); exact BK115.out)) : gb115 ≠ gb116)); have n6_ := zm ((by rw [hg]; exact zg (zD (g := gb115) (o := .cells #[.int .i64 a0_0, .int .i64 a0_1] 47 (0, 0)) (by (with_reducible repeat (first | refine zh ?_ _ | refine zj ?_ | refine zi ?_ _)); exact BK115.out)) : gb116 ≠ gb115)); clear BK115; clear HB; have BK115 := n0_; have HB := n1_; have BK116 := n2_; have GW116 := n3_; have GE116 := n4_; have NB115_116 := n5_; have NB116_115 := n6_; clear n0_ n1_ n2_ n3_ n4_ n5_ n6_; clear hb hbox hg; have hnb5 := NB115_116.out; have hnc5 := NB116_115.out; have hcz6_0 : w4.cell? ⟨gb115, 0, none⟩ = some (.int .i64 a0_0) := (zs BK115.out 0).trans rfl; have hcz6_1 : w4.cell? ⟨gb115, 1, none⟩ = some (.int .i64 a0_1) := (zs BK115.out 1).trans rfl; have hfz6_0 := zx BK115.out 0; have hfz6_1 := zx BK115.out 1; have hcz7_0 : w4.cell? ⟨gb116, 0, none⟩ = some (.int .i64 a1_0) := (zs BK116.out 0).trans rfl; have hcz7_1 : w4.cell? ⟨gb116, 1, none⟩ = some (.int .i64 a1_1) := (zs BK116.out 1).trans rfl; have hfz7_0 := zx BK116.out 0; have hfz7_1 := zx BK116.out 1))
 go_ret
 exact ⟨by first | rfl | (simp [errW_none, errW_some] <;> rfl) | (simp [*, errW_none, errW_some] <;> rfl), by repeat (first | (with_reducible first | exact HB.out | apply ze | apply zd | apply zf | refine zk ?_ GE115.out | refine zk ?_ GE116.out) | exact HB.out)⟩

end Go.Proofs.Ytllgjhenbchkfaa.Prt

namespace Go.Proofs.Ytllgjhenbchkfaa.Prt
open Go.RowKit Go.Proofs.YtllgjhenbchkfaaW.PrintWords Go.Proofs.YtllgjhenbchkfaaW.PrintLast Go.Proofs.YtllgjhenbchkfaaW.PrintMore
attribute [local go_sem] max2_int min2_int max_two min_two max_three min_three max_four min_four   -- for this text's walks alone
set_option linter.unusedVariables false
set_option linter.unusedSimpArgs false

/-! ### pvq_best: function 25 -/
def pvq_best.l0 : Nat → List (S47) → Int → Int → Int → Option (Int)
 | 0, _, _, _, _ => none
 | k + 1, x0, x3, x7, x8 => if x8 < x7 then (if 0 ≤ x8 then (if x8 < (x0.length : Int) then (if 0 ≤ x3 then (if x3 < (x0.length : Int) then (if (!(((rd_T47 x0 x8).f0) == ((rd_T47 x0 x3).f0)) || (!(((rd_T47 x0 x8).f1) == ((rd_T47 x0 x3).f1)))) = true then ((pvq_above.f ((rd_T47 x0 x8).f0) ((rd_T47 x0 x8).f1) ((rd_T47 x0 x3).f0) ((rd_T47 x0 x3).f1)).bind fun t121 => (if t121 = true then (pvq_best.l0 k x0 x8 x7 (wrap64 (x8 + 1))) else (pvq_best.l0 k x0 x3 x7 (wrap64 (x8 + 1))))) else (pvq_best.l0 k x0 x3 x7 (wrap64 (x8 + 1)))) else (none)) else (none)) else (none)) else (none)) else (some x3)
def pvq_best.f (k : Nat) (l0 : List (S47)) : Option (Int) := pvq_best.l0 k l0 0 (l0.length : Int) 0
theorem pvq_best.mono_l : ∀ k, (∀ y0 y1 y2 y3, LeO (pvq_best.l0 k y0 y1 y2 y3) (pvq_best.l0 (k + 1) y0 y1 y2 y3))
 | 0 => fun _ _ _ _ r h => by simp [pvq_best.l0] at h
 | k + 1 => by
  have ih0 := pvq_best.mono_l k
  ·
   intro y0 y1 y2 y3
   unfold pvq_best.l0
   repeat' first
   | (with_reducible exact ih0 _ _ _ _)
   | (with_reducible exact LeO.refl _)
   | (with_reducible exact LeO.none _)
   | (with_reducible refine LeO.ite ?_ ?_)
   | (with_reducible refine LeO.bind ?_ (fun _ => ?_))
   | exact ih0 _ _ _ _
   | exact LeO.none _
   | refine LeO.ite ?_ ?_
   | refine LeO.bind ?_ (fun _ => ?_)
theorem pvq_best.mono : ∀ a0 k, LeO (pvq_best.f k a0) (pvq_best.f (k + 1) a0) := by
 intro a0 k
 have ih0 := pvq_best.mono_l k
 unfold pvq_best.f
 repeat' first
   | (with_reducible exact ih0 _ _ _ _)
   | (with_reducible exact LeO.refl _)
   | (with_reducible exact LeO.none _)
   | (with_reducible refine LeO.ite ?_ ?_)
   | (with_reducible refine LeO.bind ?_ (fun _ => ?_))
   | exact ih0 _ _ _ _
   | exact LeO.none _
   | refine LeO.ite ?_ ?_
   | refine LeO.bind ?_ (fun _ => ?_)
def pvq_best.T6 : Bool × List (List Nat × List Nat) := (true, [([], []), ([], []), ([0, 1], [0, 1]), ([2], [2]), ([], []), ([], []), ([4, 5], [4, 5]), ([6], [6]), ([3, 7], [3, 7]), ([8], [8]), ([9], [9]), ([9], [9]), ([9], [9]), ([11, 12, 9], [9, 11, 12]), ([13, 9], [9, 13]), ([9], [9]), ([9], [9]), ([15, 16, 9], [9, 15, 16]), ([17, 9], [9, 17]), ([10, 14, 18, 9, 9], [9, 10, 14, 18]), ([9, 19], [9, 19])])
def pvq_best.B6 : List Nat := [0, 0, 3, 7, 0, 0, 48, 112, 255, 511, 1023, 1023, 1023, 7167, 15359, 1023, 1023, 99327, 230399, 524287, 1048575]
theorem pvq_best.tab6 : rtab .any (opsOf Try.f25 6) = pvq_best.T6 := by kernel_rfl
theorem pvq_best.bits6 : waitsOk pvq_best.T6.2 pvq_best.B6 = true := by kernel_rfl
set_option maxHeartbeats 8000000 in
set_option maxRecDepth 100000 in
theorem pvq_best.calls (k : Nat) (A0 : Option Addr) (c0 : Nat) (l0 : List (S47)) (r : Int) (w : World) (hr0 : Kd.C k47 w A0 l0.length l0) (hc0 : l0.length ≤ c0) (h : pvq_best.f k l0 = some r) :
  Calls Try.prog 25 #[.slice A0 l0.length c0] w fun e w' => e = .returned (.int .i64 r) ∧ Below w.heap.size w w' := by
 have hu47 := Try.underlying47
 have HR0 := zm hr0
 have HC0 := zm hc0
 clear hr0 hc0
 have HB := zm (Below.refl w.heap.size w)
 have H : (pvq_best.l0 k l0 0 (l0.length : Int) 0) = some r := h
 clear h
 have H' := zm H
 clear H
 go_enter Try.func25, Try.ntmps25
 go_wp2
 go_loopg [3, 8] k (fun kq v3 v8 w' => ∃ (x3_1 : Int) (x8_1 : Int), v3 = .int .i64 x3_1 ∧ v8 = .int .i64 x8_1 ∧ Aside0 (pvq_best.l0 kq l0 x3_1 (l0.length : Int) x8_1 = some r) ∧ Aside0 (kq ≤ k) ∧ Aside0 (Below w.heap.size w w'))
 case atStart => exact ⟨(0), (0), (by first | rfl | (simp; done) | (simp [*]; done)), (by first | rfl | (simp; done) | (simp [*]; done)), H', ⟨Nat.le_refl _⟩, ⟨by repeat (first | (with_reducible first | exact HB.out | apply ze | apply zd | apply zf) | exact HB.out)⟩⟩
 case round =>
  clear H'
  obtain ⟨x3_1, x8_1, rfl, rfl, HA, HK1, HB⟩ := hrel
  cases gk with
  | zero => exact absurd HA.out (by simp [pvq_best.l0])
  | succ k1 =>
   have H := HA.out
   clear HA
   simp only [pvq_best.l0] at H
   by_cases c2 : x8_1 < (l0.length : Int)
   ·
    rw [if_pos c2] at H
    have c2b0 : decide (x8_1 < (l0.length : Int)) = true := decide_eq_true c2
    clear c2
    by_cases c3 : 0 ≤ x8_1
    ·
     rw [if_pos c3] at H
     have c3b0 : decide (0 ≤ x8_1) = true := decide_eq_true c3
     clear c3
     by_cases c4 : x8_1 < (l0.length : Int)
     ·
      rw [if_pos c4] at H
      have c4b0 : decide (x8_1 < (l0.length : Int)) = true := decide_eq_true c4
      clear c4
      by_cases c5 : 0 ≤ x3_1
      ·
       rw [if_pos c5] at H
       have c5b0 : decide (0 ≤ x3_1) = true := decide_eq_true c5
       clear c5
       by_cases c6 : x3_1 < (l0.length : Int)
       ·
        rw [if_pos c6] at H
        have c6b0 : decide (x3_1 < (l0.length : Int)) = true := decide_eq_true c6
        clear c6
        by_cases c7 : (!(((rd_T47 l0 x8_1).f0) == ((rd_T47 l0 x3_1).f0)) || (!(((rd_T47 l0 x8_1).f1) == ((rd_T47 l0 x3_1).f1)))) = true
        ·
         rw [if_pos c7] at H
         have c7b0 : (!(((rd_T47 l0 x8_1).f0) == ((rd_T47 l0 x3_1).f0)) || (!(((rd_T47 l0 x8_1).f1) == ((rd_T47 l0 x3_1).f1)))) = true := c7
         clear c7
         replace H := Option.bind_eq_some_iff.mp H
         obtain ⟨t121, A80, H⟩ := H
         replace H : (if t121 = true then (pvq_best.l0 k1 l0 x8_1 (l0.length : Int) (wrap64 (x8_1 + 1))) else (pvq_best.l0 k1 l0 x3_1 (l0.length : Int) (wrap64 (x8_1 + 1)))) = some r := H
         have A8 := zm A80
         clear A80
         by_cases c9 : t121 = true
         ·
          subst c9
          have H1 : (pvq_best.l0 k1 l0 x8_1 (l0.length : Int) (wrap64 (x8_1 + 1))) = some r := by rw [if_pos rfl] at H; exact H
          clear H
          have H := H1
          clear H1
          have H' := zm H
          clear H
          try go_wp2
          have n0_ := zm (zf HB.out)
          clear HB
          have HB := n0_
          clear n0_
          have p117 : 0 ≤ (x8_1 : Int) := of_decide_eq_true (by first | (with_reducible assumption) | assumption)
          have q117 : x8_1 < (l0.length : Int) := of_decide_eq_true (by first | (with_reducible assumption) | assumption)
          obtain ⟨ad117, e117, hx117_0, hx117_1⟩ := at_T47 HR0.out x8_1 p117 q117
          have hw117_1 := hx117_1
          have hw117_0 := hx117_0
          cases e117
          replace hx117_0 := (HB.out.cell (zb w _ hx117_0)).trans hx117_0
          replace hx117_1 := (HB.out.cell (zb w _ hx117_1)).trans hx117_1
          replace p117 := eq_true p117
          replace q117 := eq_true q117
          have p118 : 0 ≤ (x3_1 : Int) := of_decide_eq_true (by first | (with_reducible assumption) | assumption)
          have q118 : x3_1 < (l0.length : Int) := of_decide_eq_true (by first | (with_reducible assumption) | assumption)
          obtain ⟨ad118, e118, hx118_0, hx118_1⟩ := at_T47 HR0.out x3_1 p118 q118
          have hw118_1 := hx118_1
          have hw118_0 := hx118_0
          obtain rfl : ad117 = ad118 := (by injection e118)
          replace hx118_0 := (HB.out.cell (zb w _ hx118_0)).trans hx118_0
          replace hx118_1 := (HB.out.cell (zb w _ hx118_1)).trans hx118_1
          replace p118 := eq_true p118
          replace q118 := eq_true q118
          have p119 : 0 ≤ (x8_1 : Int) := of_decide_eq_true (by first | (with_reducible assumption) | assumption)
          have q119 : x8_1 < (l0.length : Int) := of_decide_eq_true (by first | (with_reducible assumption) | assumption)
          obtain ⟨ad119, e119, hx119_0, hx119_1⟩ := at_T47 HR0.out x8_1 p119 q119
          have hw119_1 := hx119_1
          have hw119_0 := hx119_0
          obtain rfl : ad117 = ad119 := (by injection e119)
          replace hx119_0 := (HB.out.cell (zb w _ hx119_0)).trans hx119_0
          replace hx119_1 := (HB.out.cell (zb w _ hx119_1)).trans hx119_1
          replace p119 := eq_true p119
          replace q119 := eq_true q119
          have p120 : 0 ≤ (x3_1 : Int) := of_decide_eq_true (by first | (with_reducible assumption) | assumption)
          have q120 : x3_1 < (l0.length : Int) := of_decide_eq_true (by first | (with_reducible assumption) | assumption)
          obtain ⟨ad120, e120, hx120_0, hx120_1⟩ := at_T47 HR0.out x3_1 p120 q120
          have hw120_1 := hx120_1
          have hw120_0 := hx120_0
          obtain rfl : ad117 = ad120 := (by injection e120)
          replace hx120_0 := (HB.out.cell (zb w _ hx120_0)).trans hx120_0
          replace hx120_1 := (HB.out.cell (zb w _ hx120_1)).trans hx120_1
          replace p120 := eq_true p120
          replace q120 := eq_true q120
          refine start_ (n := 21) (S := fun w' => w'.cell? (ad117.add ((x8_1).toNat * 2)) = some (.int .i64 ((rd_T47 l0 x8_1).f0)) ∧ w'.cell? ⟨(ad117.add ((x8_1).toNat * 2)).block, (ad117.add ((x8_1).toNat * 2)).off + 1, none⟩ = some (.int .i64 ((rd_T47 l0 x8_1).f1)) ∧ w'.cell? (ad117.add ((x3_1).toNat * 2)) = some (.int .i64 ((rd_T47 l0 x3_1).f0)) ∧ w'.cell? ⟨(ad117.add ((x3_1).toNat * 2)).block, (ad117.add ((x3_1).toNat * 2)).off + 1, none⟩ = some (.int .i64 ((rd_T47 l0 x3_1).f1)) ∧ w'.cell? (ad117.add ((x8_1).toNat * 2)) = some (.int .i64 ((rd_T47 l0 x8_1).f0)) ∧ w'.cell? ⟨(ad117.add ((x8_1).toNat * 2)).block, (ad117.add ((x8_1).toNat * 2)).off + 1, none⟩ = some (.int .i64 ((rd_T47 l0 x8_1).f1)) ∧ w'.cell? (ad117.add ((x3_1).toNat * 2)) = some (.int .i64 ((rd_T47 l0 x3_1).f0)) ∧ w'.cell? ⟨(ad117.add ((x3_1).toNat * 2)).block, (ad117.add ((x3_1).toNat * 2)).off + 1, none⟩ = some (.int .i64 ((rd_T47 l0 x3_1).f1))) (ds := []) #[false, false, false, false, false, false, false, false, false, false, false, false, false, false, false, false, false, false, false, false, false] (by kernel_rfl) rfl rfl ⟨((HB.out.cell (zb w _ hw117_0)).trans hw117_0), ((HB.out.cell (zb w _ hw117_1)).trans hw117_1), ((HB.out.cell (zb w _ hw118_0)).trans hw118_0), ((HB.out.cell (zb w _ hw118_1)).trans hw118_1), ((HB.out.cell (zb w _ hw119_0)).trans hw119_0), ((HB.out.cell (zb w _ hw119_1)).trans hw119_1), ((HB.out.cell (zb w _ hw120_0)).trans hw120_0), ((HB.out.cell (zb w _ hw120_1)).trans hw120_1)⟩ (fun hHeld => ?_); refine with_tabW pvq_best.tab6 pvq_best.bits6 (fun HT_ HW_ => ?_)
          generalize wr.drew = w10 at HB hx117_0 hx117_1 hx118_0 hx118_1 hx119_0 hx119_1 hx120_0 hx120_1 hHeld ⊢
          refine pure_ (i := 0) (N := some 11) (v := ?_) (a' := ?_) #[true, false, false, false, false, false, false, false, false, false, false, false, false, false, false, false, false, false, false, false, false] rfl rfl (any_of HT_.out (by kernel_rfl)) (fun _ _ _ h => h) (Or.inl ⟨by rfl, ?_⟩) ?_ ?_
          rotate_left
          ·
           intro w'
           go_simp
           with_reducible rfl
          rotate_left
          ·
           simp only [Act.put, List.setIfInBounds_toArray, List.set_cons_zero, List.set_cons_succ, i64_w, i32_w]
           rfl
          refine pure_ (i := 1) (N := some 12) (v := ?_) (a' := ?_) #[true, true, false, false, false, false, false, false, false, false, false, false, false, false, false, false, false, false, false, false, false] rfl rfl (any_of HT_.out (by kernel_rfl)) (fun _ _ _ h => h) (Or.inl ⟨by rfl, ?_⟩) ?_ ?_
          rotate_left
          ·
           intro w'
           go_simp
           with_reducible rfl
          rotate_left
          ·
           simp only [Act.put, List.setIfInBounds_toArray, List.set_cons_zero, List.set_cons_succ, i64_w, i32_w]
           rfl
          refine pure_ (i := 2) (N := some 13) (v := ?_) (a' := ?_) #[true, true, true, false, false, false, false, false, false, false, false, false, false, false, false, false, false, false, false, false, false] rfl rfl (any_of HT_.out (by kernel_rfl)) (fun _ _ _ h => h) (Or.inl ⟨by rfl, ?_⟩) ?_ ?_
          rotate_left
          ·
           intro w'
           go_simp
           with_reducible rfl
          rotate_left
          ·
           simp only [Act.put, List.setIfInBounds_toArray, List.set_cons_zero, List.set_cons_succ, i64_w, i32_w]
           rfl
          refine pure_ (i := 4) (N := some 15) (v := ?_) (a' := ?_) #[true, true, true, false, true, false, false, false, false, false, false, false, false, false, false, false, false, false, false, false, false] rfl rfl (any_of HT_.out (by kernel_rfl)) (fun _ _ _ h => h) (Or.inl ⟨by rfl, ?_⟩) ?_ ?_
          rotate_left
          ·
           intro w'
           go_simp
           with_reducible rfl
          rotate_left
          ·
           simp only [Act.put, List.setIfInBounds_toArray, List.set_cons_zero, List.set_cons_succ, i64_w, i32_w]
           rfl
          refine pure_ (i := 5) (N := some 16) (v := ?_) (a' := ?_) #[true, true, true, false, true, true, false, false, false, false, false, false, false, false, false, false, false, false, false, false, false] rfl rfl (any_of HT_.out (by kernel_rfl)) (fun _ _ _ h => h) (Or.inl ⟨by rfl, ?_⟩) ?_ ?_
          rotate_left
          ·
           intro w'
           go_simp
           with_reducible rfl
          rotate_left
          ·
           simp only [Act.put, List.setIfInBounds_toArray, List.set_cons_zero, List.set_cons_succ, i64_w, i32_w]
           rfl
          refine pure_ (i := 6) (N := some 17) (v := ?_) (a' := ?_) #[true, true, true, false, true, true, true, false, false, false, false, false, false, false, false, false, false, false, false, false, false] rfl rfl (any_of HT_.out (by kernel_rfl)) (fun _ _ _ h => h) (Or.inl ⟨by rfl, ?_⟩) ?_ ?_
          rotate_left
          ·
           intro w'
           go_simp
           with_reducible rfl
          rotate_left
          ·
           simp only [Act.put, List.setIfInBounds_toArray, List.set_cons_zero, List.set_cons_succ, i64_w, i32_w]
           rfl
          refine take_ (i := 3) (N := some 14) (v := ?_) (a' := ?_) #[true, true, true, true, true, true, true, false, false, false, false, false, false, false, false, false, false, false, false, false, false] rfl rfl (take_ofW HT_.out HW_.out (by kernel_rfl)) (fun _ _ _ h => h) (Or.inl ⟨by rfl, ?_⟩) hHeld ?_ ?_
          rotate_left
          ·
           rintro w' ⟨s0, s1, s2, s3, s4, s5, s6, s7⟩
           go_simp
           with_reducible rfl
          rotate_left
          ·
           simp only [Act.put, List.setIfInBounds_toArray, List.set_cons_zero, List.set_cons_succ, i64_w, i32_w]
           rfl
          refine take_ (i := 7) (N := some 18) (v := ?_) (a' := ?_) #[true, true, true, true, true, true, true, true, false, false, false, false, false, false, false, false, false, false, false, false, false] rfl rfl (take_ofW HT_.out HW_.out (by kernel_rfl)) (fun _ _ _ h => h) (Or.inl ⟨by rfl, ?_⟩) hHeld ?_ ?_
          rotate_left
          ·
           rintro w' ⟨s0, s1, s2, s3, s4, s5, s6, s7⟩
           go_simp
           with_reducible rfl
          rotate_left
          ·
           simp only [Act.put, List.setIfInBounds_toArray, List.set_cons_zero, List.set_cons_succ, i64_w, i32_w]
           rfl
          refine pure_ (i := 8) (N := some 19) (v := .bool true) (a' := ?_) #[true, true, true, true, true, true, true, true, true, false, false, false, false, false, false, false, false, false, false, false, false] rfl rfl (any_of HT_.out (by kernel_rfl)) (fun _ _ _ h => h) (Or.inl ⟨by rfl, ?_⟩) ?_ ?_

          ·
           intro w'
           go_simp
           (rcases Decidable.em ((rd_T47 l0 x8_1).f0 = (rd_T47 l0 x3_1).f0) with e0_ | e0_ <;> rcases Decidable.em ((rd_T47 l0 x8_1).f1 = (rd_T47 l0 x3_1).f1) with e1_ | e1_ <;> simp [e0_, e1_] at c7b0 ⊢)
          rotate_left
          ·
           simp only [Act.put, List.setIfInBounds_toArray, List.set_cons_zero, List.set_cons_succ, i64_w, i32_w]
           rfl
          refine pure_ (i := 9) (N := some 20) (v := ?_) (a' := ?_) #[true, true, true, true, true, true, true, true, true, true, false, false, false, false, false, false, false, false, false, false, false] rfl rfl (any_of HT_.out (by kernel_rfl)) (fun _ _ _ h => h) (Or.inl ⟨by rfl, ?_⟩) ?_ ?_
          rotate_left
          ·
           intro w'
           go_simp
           with_reducible rfl
          rotate_left
          ·
           simp only [Act.put, List.setIfInBounds_toArray, List.set_cons_zero, List.set_cons_succ, i64_w, i32_w]
           rfl
          refine pure_ (i := 10) (N := some 21) (v := ?_) (a' := ?_) #[true, true, true, true, true, true, true, true, true, true, true, false, false, false, false, false, false, false, false, false, false] rfl rfl (any_of HT_.out (by kernel_rfl)) (fun _ _ _ h => h) (Or.inl ⟨by rfl, ?_⟩) ?_ ?_
          rotate_left
          ·
           intro w'
           go_simp
           with_reducible rfl
          rotate_left
          ·
           simp only [Act.put, List.setIfInBounds_toArray, List.set_cons_zero, List.set_cons_succ, i64_w, i32_w]
           rfl
          refine pure_ (i := 11) (N := some 22) (v := ?_) (a' := ?_) #[true, true, true, true, true, true, true, true, true, true, true, true, false, false, false, false, false, false, false, false, false] rfl rfl (any_of HT_.out (by kernel_rfl)) (fun _ _ _ h => h) (Or.inl ⟨by rfl, ?_⟩) ?_ ?_
          rotate_left
          ·
           intro w'
           go_simp
           with_reducible rfl
          rotate_left
          ·
           simp only [Act.put, List.setIfInBounds_toArray, List.set_cons_zero, List.set_cons_succ, i64_w, i32_w]
           rfl
          refine pure_ (i := 12) (N := some 23) (v := ?_) (a' := ?_) #[true, true, true, true, true, true, true, true, true, true, true, true, true, false, false, false, false, false, false, false, false] rfl rfl (any_of HT_.out (by kernel_rfl)) (fun _ _ _ h => h) (Or.inl ⟨by rfl, ?_⟩) ?_ ?_
          rotate_left
          ·
           intro w'
           go_simp
           with_reducible rfl
          rotate_left
          ·
           simp only [Act.put, List.setIfInBounds_toArray, List.set_cons_zero, List.set_cons_succ, i64_w, i32_w]
           rfl
          refine pure_ (i := 13) (N := some 24) (v := ?_) (a' := ?_) #[true, true, true, true, true, true, true, true, true, true, true, true, true, true, false, false, false, false, false, false, false] rfl rfl (any_of HT_.out (by kernel_rfl)) (fun _ _ _ h => h) (Or.inl ⟨by rfl, ?_⟩) ?_ ?_
          rotate_left
          ·
           intro w'
           go_simp
           with_reducible rfl
          rotate_left
          ·
           simp only [Act.put, List.setIfInBounds_toArray, List.set_cons_zero, List.set_cons_succ, i64_w, i32_w]
           rfl
          refine pure_ (i := 15) (N := some 26) (v := ?_) (a' := ?_) #[true, true, true, true, true, true, true, true, true, true, true, true, true, true, false, true, false, false, false, false, false] rfl rfl (any_of HT_.out (by kernel_rfl)) (fun _ _ _ h => h) (Or.inl ⟨by rfl, ?_⟩) ?_ ?_
          rotate_left
          ·
           intro w'
           go_simp
           with_reducible rfl
          rotate_left
          ·
           simp only [Act.put, List.setIfInBounds_toArray, List.set_cons_zero, List.set_cons_succ, i64_w, i32_w]
           rfl
          refine pure_ (i := 16) (N := some 27) (v := ?_) (a' := ?_) #[true, true, true, true, true, true, true, true, true, true, true, true, true, true, false, true, true, false, false, false, false] rfl rfl (any_of HT_.out (by kernel_rfl)) (fun _ _ _ h => h) (Or.inl ⟨by rfl, ?_⟩) ?_ ?_
          rotate_left
          ·
           intro w'
           go_simp
           with_reducible rfl
          rotate_left
          ·
           simp only [Act.put, List.setIfInBounds_toArray, List.set_cons_zero, List.set_cons_succ, i64_w, i32_w]
           rfl
          refine pure_ (i := 17) (N := some 28) (v := ?_) (a' := ?_) #[true, true, true, true, true, true, true, true, true, true, true, true, true, true, false, true, true, true, false, false, false] rfl rfl (any_of HT_.out (by kernel_rfl)) (fun _ _ _ h => h) (Or.inl ⟨by rfl, ?_⟩) ?_ ?_
          rotate_left
          ·
           intro w'
           go_simp
           with_reducible rfl
          rotate_left
          ·
           simp only [Act.put, List.setIfInBounds_toArray, List.set_cons_zero, List.set_cons_succ, i64_w, i32_w]
           rfl
          refine take_ (i := 14) (N := some 25) (v := ?_) (a' := ?_) #[true, true, true, true, true, true, true, true, true, true, true, true, true, true, true, true, true, true, false, false, false] rfl rfl (take_ofW HT_.out HW_.out (by kernel_rfl)) (fun _ _ _ h => h) (Or.inl ⟨by rfl, ?_⟩) hHeld ?_ ?_
          rotate_left
          ·
           rintro w' ⟨s0, s1, s2, s3, s4, s5, s6, s7⟩
           go_simp
           with_reducible rfl
          rotate_left
          ·
           simp only [Act.put, List.setIfInBounds_toArray, List.set_cons_zero, List.set_cons_succ, i64_w, i32_w]
           rfl
          refine take_ (i := 18) (N := some 29) (v := ?_) (a' := ?_) #[true, true, true, true, true, true, true, true, true, true, true, true, true, true, true, true, true, true, true, false, false] rfl rfl (take_ofW HT_.out HW_.out (by kernel_rfl)) (fun _ _ _ h => h) (Or.inl ⟨by rfl, ?_⟩) hHeld ?_ ?_
          rotate_left
          ·
           rintro w' ⟨s0, s1, s2, s3, s4, s5, s6, s7⟩
           go_simp
           with_reducible rfl
          rotate_left
          ·
           simp only [Act.put, List.setIfInBounds_toArray, List.set_cons_zero, List.set_cons_succ, i64_w, i32_w]
           rfl
          refine one_ (i := 19) (N := some 30) #[true, true, true, true, true, true, true, true, true, true, true, true, true, true, true, true, true, true, true, true, false] rfl rfl (one_of HT_.out (by kernel_rfl)) (by decide) (fun K hK => ?_)
          refine call_ 35 #[.agg #[.int .i64 ((rd_T47 l0 x8_1).f0), .int .i64 ((rd_T47 l0 x8_1).f1)], .agg #[.int .i64 ((rd_T47 l0 x3_1).f0), .int .i64 ((rd_T47 l0 x3_1).f1)]] (by rfl) rfl ?hrun ?_
          (case hrun =>
           have he := fun x W => enters_ Try.func35 (by kernel_rfl) rfl x W
           unfold execOp
           simp [resolve, Deferred.ofValue, invoke, Act.eval, he])
          with_reducible refine (pvq_above.calls ((rd_T47 l0 x8_1).f0) ((rd_T47 l0 x8_1).f1) ((rd_T47 l0 x3_1).f0) ((rd_T47 l0 x3_1).f1) true _ A8.out).mono ?_
          rintro e w11 ⟨rfl, hb⟩
          refine ⟨_, rfl, ?_⟩
          have n0_ := zm (zJ (by repeat (first | (with_reducible first | exact HB.out | apply ze | apply zd | apply zf) | exact HB.out)) hb)
          clear HB
          have HB := n0_
          clear n0_
          (try clear hb)
          (try clear hb2)
          (try clear hk)
          (try clear hi)
          refine hK.out _ _ ⟨((HB.out.cell (zb w _ hw117_0)).trans hw117_0), ((HB.out.cell (zb w _ hw117_1)).trans hw117_1), ((HB.out.cell (zb w _ hw118_0)).trans hw118_0), ((HB.out.cell (zb w _ hw118_1)).trans hw118_1), ((HB.out.cell (zb w _ hw119_0)).trans hw119_0), ((HB.out.cell (zb w _ hw119_1)).trans hw119_1), ((HB.out.cell (zb w _ hw120_0)).trans hw120_0), ((HB.out.cell (zb w _ hw120_1)).trans hw120_1)⟩ (fun hHeld => ?_)
          clear hK K
          refine norm_ (a' := ?_) ?_ ?_
          rotate_left
          ·
           show Act.put _ (some 30) _ = _
           simp only [Act.put, List.setIfInBounds_toArray, List.set_cons_zero, List.set_cons_succ, i64_w, i32_w]
           rfl
          refine pure_ (i := 20) (N := some 31) (v := ?_) (a' := ?_) #[true, true, true, true, true, true, true, true, true, true, true, true, true, true, true, true, true, true, true, true, true] rfl rfl (any_of HT_.out (by kernel_rfl)) (fun _ _ _ h => h) (Or.inl ⟨by rfl, ?_⟩) ?_ ?_
          rotate_left
          ·
           intro w'
           go_simp
           with_reducible rfl
          rotate_left
          ·
           simp only [Act.put, List.setIfInBounds_toArray, List.set_cons_zero, List.set_cons_succ, i64_w, i32_w]
           rfl
          refine done_ (done_of HT_.out (by kernel_rfl)) ?_
          try go_wp2
          go_roundg k1
          case measure => have := HK1.out; omega
          case rel => exact ⟨(x8_1), (wrap64 (x8_1 + 1)), (by first | rfl | (simp; done) | (simp [*]; done)), (by first | rfl | (simp; done) | (simp [*]; done)), H', ⟨by have := HK1.out; omega⟩, ⟨by repeat (first | (with_reducible first | exact HB.out | apply ze | apply zd | apply zf) | exact HB.out)⟩⟩
         ·
          replace c9 := Bool.eq_false_iff.mpr c9
          subst c9
          have H1 : (pvq_best.l0 k1 l0 x3_1 (l0.length : Int) (wrap64 (x8_1 + 1))) = some r := by rw [if_neg (show ¬ (false = true) by decide)] at H; exact H
          clear H
          have H := H1
          clear H1
          have H' := zm H
          clear H
          try go_wp2
          have n0_ := zm (zf HB.out)
          clear HB
          have HB := n0_
          clear n0_
          have p117 : 0 ≤ (x8_1 : Int) := of_decide_eq_true (by first | (with_reducible assumption) | assumption)
          have q117 : x8_1 < (l0.length : Int) := of_decide_eq_true (by first | (with_reducible assumption) | assumption)
          obtain ⟨ad117, e117, hx117_0, hx117_1⟩ := at_T47 HR0.out x8_1 p117 q117
          have hw117_1 := hx117_1
          have hw117_0 := hx117_0
          cases e117
          replace hx117_0 := (HB.out.cell (zb w _ hx117_0)).trans hx117_0
          replace hx117_1 := (HB.out.cell (zb w _ hx117_1)).trans hx117_1
          replace p117 := eq_true p117
          replace q117 := eq_true q117
          have p118 : 0 ≤ (x3_1 : Int) := of_decide_eq_true (by first | (with_reducible assumption) | assumption)
          have q118 : x3_1 < (l0.length : Int) := of_decide_eq_true (by first | (with_reducible assumption) | assumption)
          obtain ⟨ad118, e118, hx118_0, hx118_1⟩ := at_T47 HR0.out x3_1 p118 q118
          have hw118_1 := hx118_1
          have hw118_0 := hx118_0
          obtain rfl : ad117 = ad118 := (by injection e118)
          replace hx118_0 := (HB.out.cell (zb w _ hx118_0)).trans hx118_0
          replace hx118_1 := (HB.out.cell (zb w _ hx118_1)).trans hx118_1
          replace p118 := eq_true p118
          replace q118 := eq_true q118
          have p119 : 0 ≤ (x8_1 : Int) := of_decide_eq_true (by first | (with_reducible assumption) | assumption)
          have q119 : x8_1 < (l0.length : Int) := of_decide_eq_true (by first | (with_reducible assumption) | assumption)
          obtain ⟨ad119, e119, hx119_0, hx119_1⟩ := at_T47 HR0.out x8_1 p119 q119
          have hw119_1 := hx119_1
          have hw119_0 := hx119_0
          obtain rfl : ad117 = ad119 := (by injection e119)
          replace hx119_0 := (HB.out.cell (zb w _ hx119_0)).trans hx119_0
          replace hx119_1 := (HB.out.cell (zb w _ hx119_1)).trans hx119_1
          replace p119 := eq_true p119
          replace q119 := eq_true q119
          have p120 : 0 ≤ (x3_1 : Int) := of_decide_eq_true (by first | (with_reducible assumption) | assumption)
          have q120 : x3_1 < (l0.length : Int) := of_decide_eq_true (by first | (with_reducible assumption) | assumption)
          obtain ⟨ad120, e120, hx120_0, hx120_1⟩ := at_T47 HR0.out x3_1 p120 q120
          have hw120_1 := hx120_1
          have hw120_0 := hx120_0
          obtain rfl : ad117 = ad120 := (by injection e120)
          replace hx120_0 := (HB.out.cell (zb w _ hx120_0)).trans hx120_0
          replace hx120_1 := (HB.out.cell (zb w _ hx120_1)).trans hx120_1
          replace p120 := eq_true p120
          replace q120 := eq_true q120
          refine start_ (n := 21) (S := fun w' => w'.cell? (ad117.add ((x8_1).toNat * 2)) = some (.int .i64 ((rd_T47 l0 x8_1).f0)) ∧ w'.cell? ⟨(ad117.add ((x8_1).toNat * 2)).block, (ad117.add ((x8_1).toNat * 2)).off + 1, none⟩ = some (.int .i64 ((rd_T47 l0 x8_1).f1)) ∧ w'.cell? (ad117.add ((x3_1).toNat * 2)) = some (.int .i64 ((rd_T47 l0 x3_1).f0)) ∧ w'.cell? ⟨(ad117.add ((x3_1).toNat * 2)).block, (ad117.add ((x3_1).toNat * 2)).off + 1, none⟩ = some (.int .i64 ((rd_T47 l0 x3_1).f1)) ∧ w'.cell? (ad117.add ((x8_1).toNat * 2)) = some (.int .i64 ((rd_T47 l0 x8_1).f0)) ∧ w'.cell? ⟨(ad117.add ((x8_1).toNat * 2)).block, (ad117.add ((x8_1).toNat * 2)).off + 1, none⟩ = some (.int .i64 ((rd_T47 l0 x8_1).f1)) ∧ w'.cell? (ad117.add ((x3_1).toNat * 2)) = some (.int .i64 ((rd_T47 l0 x3_1).f0)) ∧ w'.cell? ⟨(ad117.add ((x3_1).toNat * 2)).block, (ad117.add ((x3_1).toNat * 2)).off + 1, none⟩ = some (.int .i64 ((rd_T47 l0 x3_1).f1))) (ds := []) #[false, false, false, false, false, false, false, false, false, false, false, false, false, false, false, false, false, false, false, false, false] (by kernel_rfl) rfl rfl ⟨((HB.out.cell (zb w _ hw117_0)).trans hw117_0), ((HB.out.cell (zb w _ hw117_1)).trans hw117_1), ((HB.out.cell (zb w _ hw118_0)).trans hw118_0), ((HB.out.cell (zb w _ hw118_1)).trans hw118_1), ((HB.out.cell (zb w _ hw119_0)).trans hw119_0), ((HB.out.cell (zb w _ hw119_1)).trans hw119_1), ((HB.out.cell (zb w _ hw120_0)).trans hw120_0), ((HB.out.cell (zb w _ hw120_1)).trans hw120_1)⟩ (fun hHeld => ?_); refine with_tabW pvq_best.tab6 pvq_best.bits6 (fun HT_ HW_ => ?_)
          generalize wr.drew = w12 at HB hx117_0 hx117_1 hx118_0 hx118_1 hx119_0 hx119_1 hx120_0 hx120_1 hHeld ⊢
          refine pure_ (i := 0) (N := some 11) (v := ?_) (a' := ?_) #[true, false, false, false, false, false, false, false, false, false, false, false, false, false, false, false, false, false, false, false, false] rfl rfl (any_of HT_.out (by kernel_rfl)) (fun _ _ _ h => h) (Or.inl ⟨by rfl, ?_⟩) ?_ ?_
          rotate_left
          ·
           intro w'
           go_simp
           with_reducible rfl
          rotate_left
          ·
           simp only [Act.put, List.setIfInBounds_toArray, List.set_cons_zero, List.set_cons_succ, i64_w, i32_w]
           rfl
          refine pure_ (i := 1) (N := some 12) (v := ?_) (a' := ?_) #[true, true, false, false, false, false, false, false, false, false, false, false, false, false, false, false, false, false, false, false, false] rfl rfl (any_of HT_.out (by kernel_rfl)) (fun _ _ _ h => h) (Or.inl ⟨by rfl, ?_⟩) ?_ ?_
          rotate_left
          ·
           intro w'
           go_simp
           with_reducible rfl
          rotate_left
          ·
           simp only [Act.put, List.setIfInBounds_toArray, List.set_cons_zero, List.set_cons_succ, i64_w, i32_w]
           rfl
          refine pure_ (i := 2) (N := some 13) (v := ?_) (a' := ?_) #[true, true, true, false, false, false, false, false, false, false, false, false, false, false, false, false, false, false, false, false, false] rfl rfl (any_of HT_.out (by kernel_rfl)) (fun _ _ _ h => h) (Or.inl ⟨by rfl, ?_⟩) ?_ ?_
          rotate_left
          ·
           intro w'
           go_simp
           with_reducible rfl
          rotate_left
          ·
           simp only [Act.put, List.setIfInBounds_toArray, List.set_cons_zero, List.set_cons_succ, i64_w, i32_w]
           rfl
          refine pure_ (i := 4) (N := some 15) (v := ?_) (a' := ?_) #[true, true, true, false, true, false, false, false, false, false, false, false, false, false, false, false, false, false, false, false, false] rfl rfl (any_of HT_.out (by kernel_rfl)) (fun _ _ _ h => h) (Or.inl ⟨by rfl, ?_⟩) ?_ ?_
          rotate_left
          ·
           intro w'
           go_simp
           with_reducible rfl
          rotate_left
          ·
           simp only [Act.put, List.setIfInBounds_toArray, List.set_cons_zero, List.set_cons_succ, i64_w, i32_w]
           rfl
          refine pure_ (i := 5) (N := some 16) (v := ?_) (a' := ?_) #[true, true, true, false, true, true, false, false, false, false, false, false, false, false, false, false, false, false, false, false, false] rfl rfl (any_of HT_.out (by kernel_rfl)) (fun _ _ _ h => h) (Or.inl ⟨by rfl, ?_⟩) ?_ ?_
          rotate_left
          ·
           intro w'
           go_simp
           with_reducible rfl
          rotate_left
          ·
           simp only [Act.put, List.setIfInBounds_toArray, List.set_cons_zero, List.set_cons_succ, i64_w, i32_w]
           rfl
          refine pure_ (i := 6) (N := some 17) (v := ?_) (a' := ?_) #[true, true, true, false, true, true, true, false, false, false, false, false, false, false, false, false, false, false, false, false, false] rfl rfl (any_of HT_.out (by kernel_rfl)) (fun _ _ _ h => h) (Or.inl ⟨by rfl, ?_⟩) ?_ ?_
          rotate_left
          ·
           intro w'
           go_simp
           with_reducible rfl
          rotate_left
          ·
           simp only [Act.put, List.setIfInBounds_toArray, List.set_cons_zero, List.set_cons_succ, i64_w, i32_w]
           rfl
          refine take_ (i := 3) (N := some 14) (v := ?_) (a' := ?_) #[true, true, true, true, true, true, true, false, false, false, false, false, false, false, false, false, false, false, false, false, false] rfl rfl (take_ofW HT_.out HW_.out (by kernel_rfl)) (fun _ _ _ h => h) (Or.inl ⟨by rfl, ?_⟩) hHeld ?_ ?_
          rotate_left
          ·
           rintro w' ⟨s0, s1, s2, s3, s4, s5, s6, s7⟩
           go_simp
           with_reducible rfl
          rotate_left
          ·
           simp only [Act.put, List.setIfInBounds_toArray, List.set_cons_zero, List.set_cons_succ, i64_w, i32_w]
           rfl
          refine take_ (i := 7) (N := some 18) (v := ?_) (a' := ?_) #[true, true, true, true, true, true, true, true, false, false, false, false, false, false, false, false, false, false, false, false, false] rfl rfl (take_ofW HT_.out HW_.out (by kernel_rfl)) (fun _ _ _ h => h) (Or.inl ⟨by rfl, ?_⟩) hHeld ?_ ?_
          rotate_left
          ·
           rintro w' ⟨s0, s1, s2, s3, s4, s5, s6, s7⟩
           go_simp
           with_reducible rfl
          rotate_left
          ·
           simp only [Act.put, List.setIfInBounds_toArray, List.set_cons_zero, List.set_cons_succ, i64_w, i32_w]
           rfl
          refine pure_ (i := 8) (N := some 19) (v := .bool true) (a' := ?_) #[true, true, true, true, true, true, true, true, true, false, false, false, false, false, false, false, false, false, false, false, false] rfl rfl (any_of HT_.out (by kernel_rfl)) (fun _ _ _ h => h) (Or.inl ⟨by rfl, ?_⟩) ?_ ?_

          ·
           intro w'
           go_simp
           (rcases Decidable.em ((rd_T47 l0 x8_1).f0 = (rd_T47 l0 x3_1).f0) with e0_ | e0_ <;> rcases Decidable.em ((rd_T47 l0 x8_1).f1 = (rd_T47 l0 x3_1).f1) with e1_ | e1_ <;> simp [e0_, e1_] at c7b0 ⊢)
          rotate_left
          ·
           simp only [Act.put, List.setIfInBounds_toArray, List.set_cons_zero, List.set_cons_succ, i64_w, i32_w]
           rfl
          refine pure_ (i := 9) (N := some 20) (v := ?_) (a' := ?_) #[true, true, true, true, true, true, true, true, true, true, false, false, false, false, false, false, false, false, false, false, false] rfl rfl (any_of HT_.out (by kernel_rfl)) (fun _ _ _ h => h) (Or.inl ⟨by rfl, ?_⟩) ?_ ?_
          rotate_left
          ·
           intro w'
           go_simp
           with_reducible rfl
          rotate_left
          ·
           simp only [Act.put, List.setIfInBounds_toArray, List.set_cons_zero, List.set_cons_succ, i64_w, i32_w]
           rfl
          refine pure_ (i := 10) (N := some 21) (v := ?_) (a' := ?_) #[true, true, true, true, true, true, true, true, true, true, true, false, false, false, false, false, false, false, false, false, false] rfl rfl (any_of HT_.out (by kernel_rfl)) (fun _ _ _ h => h) (Or.inl ⟨by rfl, ?_⟩) ?_ ?_
          rotate_left
          ·
           intro w'
           go_simp
           with_reducible rfl
          rotate_left
          ·
           simp only [Act.put, List.setIfInBounds_toArray, List.set_cons_zero, List.set_cons_succ, i64_w, i32_w]
           rfl
          refine pure_ (i := 11) (N := some 22) (v := ?_) (a' := ?_) #[true, true, true, true, true, true, true, true, true, true, true, true, false, false, false, false, false, false, false, false, false] rfl rfl (any_of HT_.out (by kernel_rfl)) (fun _ _ _ h => h) (Or.inl ⟨by rfl, ?_⟩) ?_ ?_
          rotate_left
          ·
           intro w'
           go_simp
           with_reducible rfl
          rotate_left
          ·
           simp only [Act.put, List.setIfInBounds_toArray, List.set_cons_zero, List.set_cons_succ, i64_w, i32_w]
           rfl
          refine pure_ (i := 12) (N := some 23) (v := ?_) (a' := ?_) #[true, true, true, true, true, true, true, true, true, true, true, true, true, false, false, false, false, false, false, false, false] rfl rfl (any_of HT_.out (by kernel_rfl)) (fun _ _ _ h => h) (Or.inl ⟨by rfl, ?_⟩) ?_ ?_
          rotate_left
          ·
           intro w'
           go_simp
           with_reducible rfl
          rotate_left
          ·
           simp only [Act.put, List.setIfInBounds_toArray, List.set_cons_zero, List.set_cons_succ, i64_w, i32_w]
           rfl
          refine pure_ (i := 13) (N := some 24) (v := ?_) (a' := ?_) #[true, true, true, true, true, true, true, true, true, true, true, true, true, true, false, false, false, false, false, false, false] rfl rfl (any_of HT_.out (by kernel_rfl)) (fun _ _ _ h => h) (Or.inl ⟨by rfl, ?_⟩) ?_ ?_
          rotate_left
          ·
           intro w'
           go_simp
           with_reducible rfl
          rotate_left
          ·
           simp only [Act.put, List.setIfInBounds_toArray, List.set_cons_zero, List.set_cons_succ, i64_w, i32_w]
           rfl
          refine pure_ (i := 15) (N := some 26) (v := ?_) (a' := ?_) #[true, true, true, true, true, true, true, true, true, true, true, true, true, true, false, true, false, false, false, false, false] rfl rfl (any_of HT_.out (by kernel_rfl)) (fun _ _ _ h => h) (Or.inl ⟨by rfl, ?_⟩) ?_ ?_
          rotate_left
          ·
           intro w'
           go_simp
           with_reducible rfl
          rotate_left
          ·
           simp only [Act.put, List.setIfInBounds_toArray, List.set_cons_zero, List.set_cons_succ, i64_w, i32_w]
           rfl
          refine pure_ (i := 16) (N := some 27) (v := ?_) (a' := ?_) #[true, true, true, true, true, true, true, true, true, true, true, true, true, true, false, true, true, false, false, false, false] rfl rfl (any_of HT_.out (by kernel_rfl)) (fun _ _ _ h => h) (Or.inl ⟨by rfl, ?_⟩) ?_ ?_
          rotate_left
          ·
           intro w'
           go_simp
           with_reducible rfl
          rotate_left
          ·
           simp only [Act.put, List.setIfInBounds_toArray, List.set_cons_zero, List.set_cons_succ, i64_w, i32_w]
           rfl
          refine pure_ (i := 17) (N := some 28) (v := ?_) (a' := ?_) #[true, true, true, true, true, true, true, true, true, true, true, true, true, true, false, true, true, true, false, false, false] rfl rfl (any_of HT_.out (by kernel_rfl)) (fun _ _ _ h => h) (Or.inl ⟨by rfl, ?_⟩) ?_ ?_
          rotate_left
          ·
           intro w'
           go_simp
           with_reducible rfl
          rotate_left
          ·
           simp only [Act.put, List.setIfInBounds_toArray, List.set_cons_zero, List.set_cons_succ, i64_w, i32_w]
           rfl
          refine take_ (i := 14) (N := some 25) (v := ?_) (a' := ?_) #[true, true, true, true, true, true, true, true, true, true, true, true, true, true, true, true, true, true, false, false, false] rfl rfl (take_ofW HT_.out HW_.out (by kernel_rfl)) (fun _ _ _ h => h) (Or.inl ⟨by rfl, ?_⟩) hHeld ?_ ?_
          rotate_left
          ·
           rintro w' ⟨s0, s1, s2, s3, s4, s5, s6, s7⟩
           go_simp
           with_reducible rfl
          rotate_left
          ·
           simp only [Act.put, List.setIfInBounds_toArray, List.set_cons_zero, List.set_cons_succ, i64_w, i32_w]
           rfl
          refine take_ (i := 18) (N := some 29) (v := ?_) (a' := ?_) #[true, true, true, true, true, true, true, true, true, true, true, true, true, true, true, true, true, true, true, false, false] rfl rfl (take_ofW HT_.out HW_.out (by kernel_rfl)) (fun _ _ _ h => h) (Or.inl ⟨by rfl, ?_⟩) hHeld ?_ ?_
          rotate_left
          ·
           rintro w' ⟨s0, s1, s2, s3, s4, s5, s6, s7⟩
           go_simp
           with_reducible rfl
          rotate_left
          ·
           simp only [Act.put, List.setIfInBounds_toArray, List.set_cons_zero, List.set_cons_succ, i64_w, i32_w]
           rfl
          refine one_ (i := 19) (N := some 30) #[true, true, true, true, true, true, true, true, true, true, true, true, true, true, true, true, true, true, true, true, false] rfl rfl (one_of HT_.out (by kernel_rfl)) (by decide) (fun K hK => ?_)
          refine call_ 35 #[.agg #[.int .i64 ((rd_T47 l0 x8_1).f0), .int .i64 ((rd_T47 l0 x8_1).f1)], .agg #[.int .i64 ((rd_T47 l0 x3_1).f0), .int .i64 ((rd_T47 l0 x3_1).f1)]] (by rfl) rfl ?hrun ?_
          (case hrun =>
           have he := fun x W => enters_ Try.func35 (by kernel_rfl) rfl x W
           unfold execOp
           simp [resolve, Deferred.ofValue, invoke, Act.eval, he])
          with_reducible refine (pvq_above.calls ((rd_T47 l0 x8_1).f0) ((rd_T47 l0 x8_1).f1) ((rd_T47 l0 x3_1).f0) ((rd_T47 l0 x3_1).f1) false _ A8.out).mono ?_
          rintro e w13 ⟨rfl, hb⟩
          refine ⟨_, rfl, ?_⟩
          have n0_ := zm (zJ (by repeat (first | (with_reducible first | exact HB.out | apply ze | apply zd | apply zf) | exact HB.out)) hb)
          clear HB
          have HB := n0_
          clear n0_
          (try clear hb)
          (try clear hb2)
          (try clear hk)
          (try clear hi)
          refine hK.out _ _ ⟨((HB.out.cell (zb w _ hw117_0)).trans hw117_0), ((HB.out.cell (zb w _ hw117_1)).trans hw117_1), ((HB.out.cell (zb w _ hw118_0)).trans hw118_0), ((HB.out.cell (zb w _ hw118_1)).trans hw118_1), ((HB.out.cell (zb w _ hw119_0)).trans hw119_0), ((HB.out.cell (zb w _ hw119_1)).trans hw119_1), ((HB.out.cell (zb w _ hw120_0)).trans hw120_0), ((HB.out.cell (zb w _ hw120_1)).trans hw120_1)⟩ (fun hHeld => ?_)
          clear hK K
          refine norm_ (a' := ?_) ?_ ?_
          rotate_left
          ·
           show Act.put _ (some 30) _ = _
           simp only [Act.put, List.setIfInBounds_toArray, List.set_cons_zero, List.set_cons_succ, i64_w, i32_w]
           rfl
          refine pure_ (i := 20) (N := some 31) (v := ?_) (a' := ?_) #[true, true, true, true, true, true, true, true, true, true, true, true, true, true, true, true, true, true, true, true, true] rfl rfl (any_of HT_.out (by kernel_rfl)) (fun _ _ _ h => h) (Or.inl ⟨by rfl, ?_⟩) ?_ ?_
          rotate_left
          ·
           intro w'
           go_simp
           with_reducible rfl
          rotate_left
          ·
           simp only [Act.put, List.setIfInBounds_toArray, List.set_cons_zero, List.set_cons_succ, i64_w, i32_w]
           rfl
          refine done_ (done_of HT_.out (by kernel_rfl)) ?_
          try go_wp2
          go_roundg k1
          case measure => have := HK1.out; omega
          case rel => exact ⟨(x3_1), (wrap64 (x8_1 + 1)), (by first | rfl | (simp; done) | (simp [*]; done)), (by first | rfl | (simp; done) | (simp [*]; done)), H', ⟨by have := HK1.out; omega⟩, ⟨by repeat (first | (with_reducible first | exact HB.out | apply ze | apply zd | apply zf) | exact HB.out)⟩⟩
        ·
         rw [if_neg c7] at H
         have c7b0 : (!(((rd_T47 l0 x8_1).f0) == ((rd_T47 l0 x3_1).f0)) || (!(((rd_T47 l0 x8_1).f1) == ((rd_T47 l0 x3_1).f1)))) = false := by simpa using c7
         clear c7
         have H' := zm H
         clear H
         try go_wp2
         have n0_ := zm (zf HB.out)
         clear HB
         have HB := n0_
         clear n0_
         have p117 : 0 ≤ (x8_1 : Int) := of_decide_eq_true (by first | (with_reducible assumption) | assumption)
         have q117 : x8_1 < (l0.length : Int) := of_decide_eq_true (by first | (with_reducible assumption) | assumption)
         obtain ⟨ad117, e117, hx117_0, hx117_1⟩ := at_T47 HR0.out x8_1 p117 q117
         have hw117_1 := hx117_1
         have hw117_0 := hx117_0
         cases e117
         replace hx117_0 := (HB.out.cell (zb w _ hx117_0)).trans hx117_0
         replace hx117_1 := (HB.out.cell (zb w _ hx117_1)).trans hx117_1
         replace p117 := eq_true p117
         replace q117 := eq_true q117
         have p118 : 0 ≤ (x3_1 : Int) := of_decide_eq_true (by first | (with_reducible assumption) | assumption)
         have q118 : x3_1 < (l0.length : Int) := of_decide_eq_true (by first | (with_reducible assumption) | assumption)
         obtain ⟨ad118, e118, hx118_0, hx118_1⟩ := at_T47 HR0.out x3_1 p118 q118
         have hw118_1 := hx118_1
         have hw118_0 := hx118_0
         obtain rfl : ad117 = ad118 := (by injection e118)
         replace hx118_0 := (HB.out.cell (zb w _ hx118_0)).trans hx118_0
         replace hx118_1 := (HB.out.cell (zb w _ hx118_1)).trans hx118_1
         replace p118 := eq_true p118
         replace q118 := eq_true q118
         refine start_ (n := 21) (S := fun w' => w'.cell? (ad117.add ((x8_1).toNat * 2)) = some (.int .i64 ((rd_T47 l0 x8_1).f0)) ∧ w'.cell? ⟨(ad117.add ((x8_1).toNat * 2)).block, (ad117.add ((x8_1).toNat * 2)).off + 1, none⟩ = some (.int .i64 ((rd_T47 l0 x8_1).f1)) ∧ w'.cell? (ad117.add ((x3_1).toNat * 2)) = some (.int .i64 ((rd_T47 l0 x3_1).f0)) ∧ w'.cell? ⟨(ad117.add ((x3_1).toNat * 2)).block, (ad117.add ((x3_1).toNat * 2)).off + 1, none⟩ = some (.int .i64 ((rd_T47 l0 x3_1).f1))) (ds := []) #[false, false, false, false, false, false, false, false, false, false, false, false, false, false, false, false, false, false, false, false, false] (by kernel_rfl) rfl rfl ⟨((HB.out.cell (zb w _ hw117_0)).trans hw117_0), ((HB.out.cell (zb w _ hw117_1)).trans hw117_1), ((HB.out.cell (zb w _ hw118_0)).trans hw118_0), ((HB.out.cell (zb w _ hw118_1)).trans hw118_1)⟩ (fun hHeld => ?_); refine with_tabW pvq_best.tab6 pvq_best.bits6 (fun HT_ HW_ => ?_)
         generalize wr.drew = w14 at HB hx117_0 hx117_1 hx118_0 hx118_1 hHeld ⊢
         refine pure_ (i := 0) (N := some 11) (v := ?_) (a' := ?_) #[true, false, false, false, false, false, false, false, false, false, false, false, false, false, false, false, false, false, false, false, false] rfl rfl (any_of HT_.out (by kernel_rfl)) (fun _ _ _ h => h) (Or.inl ⟨by rfl, ?_⟩) ?_ ?_
         rotate_left
         ·
          intro w'
          go_simp
          with_reducible rfl
         rotate_left
         ·
          simp only [Act.put, List.setIfInBounds_toArray, List.set_cons_zero, List.set_cons_succ, i64_w, i32_w]
          rfl
         refine pure_ (i := 1) (N := some 12) (v := ?_) (a' := ?_) #[true, true, false, false, false, false, false, false, false, false, false, false, false, false, false, false, false, false, false, false, false] rfl rfl (any_of HT_.out (by kernel_rfl)) (fun _ _ _ h => h) (Or.inl ⟨by rfl, ?_⟩) ?_ ?_
         rotate_left
         ·
          intro w'
          go_simp
          with_reducible rfl
         rotate_left
         ·
          simp only [Act.put, List.setIfInBounds_toArray, List.set_cons_zero, List.set_cons_succ, i64_w, i32_w]
          rfl
         refine pure_ (i := 2) (N := some 13) (v := ?_) (a' := ?_) #[true, true, true, false, false, false, false, false, false, false, false, false, false, false, false, false, false, false, false, false, false] rfl rfl (any_of HT_.out (by kernel_rfl)) (fun _ _ _ h => h) (Or.inl ⟨by rfl, ?_⟩) ?_ ?_
         rotate_left
         ·
          intro w'
          go_simp
          with_reducible rfl
         rotate_left
         ·
          simp only [Act.put, List.setIfInBounds_toArray, List.set_cons_zero, List.set_cons_succ, i64_w, i32_w]
          rfl
         refine pure_ (i := 4) (N := some 15) (v := ?_) (a' := ?_) #[true, true, true, false, true, false, false, false, false, false, false, false, false, false, false, false, false, false, false, false, false] rfl rfl (any_of HT_.out (by kernel_rfl)) (fun _ _ _ h => h) (Or.inl ⟨by rfl, ?_⟩) ?_ ?_
         rotate_left
         ·
          intro w'
          go_simp
          with_reducible rfl
         rotate_left
         ·
          simp only [Act.put, List.setIfInBounds_toArray, List.set_cons_zero, List.set_cons_succ, i64_w, i32_w]
          rfl
         refine pure_ (i := 5) (N := some 16) (v := ?_) (a' := ?_) #[true, true, true, false, true, true, false, false, false, false, false, false, false, false, false, false, false, false, false, false, false] rfl rfl (any_of HT_.out (by kernel_rfl)) (fun _ _ _ h => h) (Or.inl ⟨by rfl, ?_⟩) ?_ ?_
         rotate_left
         ·
          intro w'
          go_simp
          with_reducible rfl
         rotate_left
         ·
          simp only [Act.put, List.setIfInBounds_toArray, List.set_cons_zero, List.set_cons_succ, i64_w, i32_w]
          rfl
         refine pure_ (i := 6) (N := some 17) (v := ?_) (a' := ?_) #[true, true, true, false, true, true, true, false, false, false, false, false, false, false, false, false, false, false, false, false, false] rfl rfl (any_of HT_.out (by kernel_rfl)) (fun _ _ _ h => h) (Or.inl ⟨by rfl, ?_⟩) ?_ ?_
         rotate_left
         ·
          intro w'
          go_simp
          with_reducible rfl
         rotate_left
         ·
          simp only [Act.put, List.setIfInBounds_toArray, List.set_cons_zero, List.set_cons_succ, i64_w, i32_w]
          rfl
         refine take_ (i := 3) (N := some 14) (v := ?_) (a' := ?_) #[true, true, true, true, true, true, true, false, false, false, false, false, false, false, false, false, false, false, false, false, false] rfl rfl (take_ofW HT_.out HW_.out (by kernel_rfl)) (fun _ _ _ h => h) (Or.inl ⟨by rfl, ?_⟩) hHeld ?_ ?_
         rotate_left
         ·
          rintro w' ⟨s0, s1, s2, s3⟩
          go_simp
          with_reducible rfl
         rotate_left
         ·
          simp only [Act.put, List.setIfInBounds_toArray, List.set_cons_zero, List.set_cons_succ, i64_w, i32_w]
          rfl
         refine take_ (i := 7) (N := some 18) (v := ?_) (a' := ?_) #[true, true, true, true, true, true, true, true, false, false, false, false, false, false, false, false, false, false, false, false, false] rfl rfl (take_ofW HT_.out HW_.out (by kernel_rfl)) (fun _ _ _ h => h) (Or.inl ⟨by rfl, ?_⟩) hHeld ?_ ?_
         rotate_left
         ·
          rintro w' ⟨s0, s1, s2, s3⟩
          go_simp
          with_reducible rfl
         rotate_left
         ·
          simp only [Act.put, List.setIfInBounds_toArray, List.set_cons_zero, List.set_cons_succ, i64_w, i32_w]
          rfl
         refine pure_ (i := 8) (N := some 19) (v := .bool false) (a' := ?_) #[true, true, true, true, true, true, true, true, true, false, false, false, false, false, false, false, false, false, false, false, false] rfl rfl (any_of HT_.out (by kernel_rfl)) (fun _ _ _ h => h) (Or.inl ⟨by rfl, ?_⟩) ?_ ?_

         ·
          intro w'
          go_simp
          (rcases Decidable.em ((rd_T47 l0 x8_1).f0 = (rd_T47 l0 x3_1).f0) with e0_ | e0_ <;> rcases Decidable.em ((rd_T47 l0 x8_1).f1 = (rd_T47 l0 x3_1).f1) with e1_ | e1_ <;> simp [e0_, e1_] at c7b0 ⊢)
         rotate_left
         ·
          simp only [Act.put, List.setIfInBounds_toArray, List.set_cons_zero, List.set_cons_succ, i64_w, i32_w]
          rfl
         refine pure_ (i := 9) (N := some 20) (v := ?_) (a' := ?_) #[true, true, true, true, true, true, true, true, true, true, false, false, false, false, false, false, false, false, false, false, false] rfl rfl (any_of HT_.out (by kernel_rfl)) (fun _ _ _ h => h) (Or.inl ⟨by rfl, ?_⟩) ?_ ?_
         rotate_left
         ·
          intro w'
          go_simp
          with_reducible rfl
         rotate_left
         ·
          simp only [Act.put, List.setIfInBounds_toArray, List.set_cons_zero, List.set_cons_succ, i64_w, i32_w]
          rfl
         refine pure_ (i := 10) (N := some 21) (v := undef) (a' := ?_) #[true, true, true, true, true, true, true, true, true, true, true, false, false, false, false, false, false, false, false, false, false] rfl rfl (any_of HT_.out (by kernel_rfl)) (fun _ _ _ h => h) (Or.inr ⟨by rfl, rfl⟩) ?_ ?_
         rotate_left
         ·
          simp only [Act.put, List.setIfInBounds_toArray, List.set_cons_zero, List.set_cons_succ, i64_w, i32_w]
          rfl
         refine pure_ (i := 11) (N := some 22) (v := undef) (a' := ?_) #[true, true, true, true, true, true, true, true, true, true, true, true, false, false, false, false, false, false, false, false, false] rfl rfl (any_of HT_.out (by kernel_rfl)) (fun _ _ _ h => h) (Or.inr ⟨by rfl, rfl⟩) ?_ ?_
         rotate_left
         ·
          simp only [Act.put, List.setIfInBounds_toArray, List.set_cons_zero, List.set_cons_succ, i64_w, i32_w]
          rfl
         refine pure_ (i := 12) (N := some 23) (v := undef) (a' := ?_) #[true, true, true, true, true, true, true, true, true, true, true, true, true, false, false, false, false, false, false, false, false] rfl rfl (any_of HT_.out (by kernel_rfl)) (fun _ _ _ h => h) (Or.inr ⟨by rfl, rfl⟩) ?_ ?_
         rotate_left
         ·
          simp only [Act.put, List.setIfInBounds_toArray, List.set_cons_zero, List.set_cons_succ, i64_w, i32_w]
          rfl
         refine pure_ (i := 13) (N := some 24) (v := undef) (a' := ?_) #[true, true, true, true, true, true, true, true, true, true, true, true, true, true, false, false, false, false, false, false, false] rfl rfl (any_of HT_.out (by kernel_rfl)) (fun _ _ _ h => h) (Or.inr ⟨by rfl, rfl⟩) ?_ ?_
         rotate_left
         ·
          simp only [Act.put, List.setIfInBounds_toArray, List.set_cons_zero, List.set_cons_succ, i64_w, i32_w]
          rfl
         refine pure_ (i := 14) (N := some 25) (v := undef) (a' := ?_) #[true, true, true, true, true, true, true, true, true, true, true, true, true, true, true, false, false, false, false, false, false] rfl rfl (any_of HT_.out (by kernel_rfl)) (fun _ _ _ h => h) (Or.inr ⟨by rfl, rfl⟩) ?_ ?_
         rotate_left
         ·
          simp only [Act.put, List.setIfInBounds_toArray, List.set_cons_zero, List.set_cons_succ, i64_w, i32_w]
          rfl
         refine pure_ (i := 15) (N := some 26) (v := undef) (a' := ?_) #[true, true, true, true, true, true, true, true, true, true, true, true, true, true, true, true, false, false, false, false, false] rfl rfl (any_of HT_.out (by kernel_rfl)) (fun _ _ _ h => h) (Or.inr ⟨by rfl, rfl⟩) ?_ ?_
         rotate_left
         ·
          simp only [Act.put, List.setIfInBounds_toArray, List.set_cons_zero, List.set_cons_succ, i64_w, i32_w]
          rfl
         refine pure_ (i := 16) (N := some 27) (v := undef) (a' := ?_) #[true, true, true, true, true, true, true, true, true, true, true, true, true, true, true, true, true, false, false, false, false] rfl rfl (any_of HT_.out (by kernel_rfl)) (fun _ _ _ h => h) (Or.inr ⟨by rfl, rfl⟩) ?_ ?_
         rotate_left
         ·
          simp only [Act.put, List.setIfInBounds_toArray, List.set_cons_zero, List.set_cons_succ, i64_w, i32_w]
          rfl
         refine pure_ (i := 17) (N := some 28) (v := undef) (a' := ?_) #[true, true, true, true, true, true, true, true, true, true, true, true, true, true, true, true, true, true, false, false, false] rfl rfl (any_of HT_.out (by kernel_rfl)) (fun _ _ _ h => h) (Or.inr ⟨by rfl, rfl⟩) ?_ ?_
         rotate_left
         ·
          simp only [Act.put, List.setIfInBounds_toArray, List.set_cons_zero, List.set_cons_succ, i64_w, i32_w]
          rfl
         refine pure_ (i := 18) (N := some 29) (v := undef) (a' := ?_) #[true, true, true, true, true, true, true, true, true, true, true, true, true, true, true, true, true, true, true, false, false] rfl rfl (any_of HT_.out (by kernel_rfl)) (fun _ _ _ h => h) (Or.inr ⟨by rfl, rfl⟩) ?_ ?_
         rotate_left
         ·
          simp only [Act.put, List.setIfInBounds_toArray, List.set_cons_zero, List.set_cons_succ, i64_w, i32_w]
          rfl
         refine pure_ (i := 19) (N := some 30) (v := undef) (a' := ?_) #[true, true, true, true, true, true, true, true, true, true, true, true, true, true, true, true, true, true, true, true, false] rfl rfl (any_of HT_.out (by kernel_rfl)) (fun _ _ _ h => h) (Or.inr ⟨by rfl, rfl⟩) ?_ ?_
         rotate_left
         ·
          simp only [Act.put, List.setIfInBounds_toArray, List.set_cons_zero, List.set_cons_succ, i64_w, i32_w]
          rfl
         refine pure_ (i := 20) (N := some 31) (v := ?_) (a' := ?_) #[true, true, true, true, true, true, true, true, true, true, true, true, true, true, true, true, true, true, true, true, true] rfl rfl (any_of HT_.out (by kernel_rfl)) (fun _ _ _ h => h) (Or.inl ⟨by rfl, ?_⟩) ?_ ?_
         rotate_left
         ·
          intro w'
          go_simp
          with_reducible rfl
         rotate_left
         ·
          simp only [Act.put, List.setIfInBounds_toArray, List.set_cons_zero, List.set_cons_succ, i64_w, i32_w]
          rfl
         refine done_ (done_of HT_.out (by kernel_rfl)) ?_
         try go_wp2
         go_roundg k1
         case measure => have := HK1.out; omega
         case rel => exact ⟨(x3_1), (wrap64 (x8_1 + 1)), (by first | rfl | (simp; done) | (simp [*]; done)), (by first | rfl | (simp; done) | (simp [*]; done)), H', ⟨by have := HK1.out; omega⟩, ⟨by repeat (first | (with_reducible first | exact HB.out | apply ze | apply zd | apply zf) | exact HB.out)⟩⟩
       ·
        rw [if_neg c6] at H
        exact absurd H (by simp)
      ·
       rw [if_neg c5] at H
       exact absurd H (by simp)
     ·
      rw [if_neg c4] at H
      exact absurd H (by simp)
    ·
     rw [if_neg c3] at H
     exact absurd H (by simp)
   ·
    rw [if_neg c2] at H
    have c2b0 : decide (x8_1 < (l0.length : Int)) = false := decide_eq_false c2
    clear c2
    obtain rfl := Option.some.inj H
    go_wp2
    go_ret
    exact ⟨by first | rfl | (simp [errW_none, errW_some] <;> rfl) | (simp [*, errW_none, errW_some] <;> rfl), by repeat (first | (with_reducible first | exact HB.out | apply ze | apply zd | apply zf) | exact HB.out)⟩

end Go.Proofs.Ytllgjhenbchkfaa.Prt

namespace Go.Proofs.Ytllgjhenbchkfaa.Prt
open Go.RowKit Go.Proofs.YtllgjhenbchkfaaW.PrintWords Go.Proofs.YtllgjhenbchkfaaW.PrintLast Go.Proofs.YtllgjhenbchkfaaW.PrintMore
attribute [local go_sem] max2_int min2_int max_two min_two max_three min_three max_four min_four   -- for this text's walks alone
set_option linter.unusedVariables false
set_option linter.unusedSimpArgs false

/-! ### num_Clamp: function 33 -/
def num_Clamp.f (a0 : Int) (a1 : Int) (a2 : Int) : Option (Int) := if a0 < a1 then (some a1) else (if a0 > a2 then (some a2) else (some a0))
set_option maxHeartbeats 8000000 in
set_option maxRecDepth 100000 in
theorem num_Clamp.calls (a0 : Int) (a1 : Int) (a2 : Int) (r : Int) (w : World) (h : num_Clamp.f a0 a1 a2 = some r) :
  Calls Try.prog 33 #[.int .i64 a0, .int .i64 a1, .int .i64 a2] w fun e w' => e = .returned (.int .i64 r) ∧ Drawn0 w w' := by
 have H : (if a0 < a1 then (some a1) else (if a0 > a2 then (some a2) else (some a0))) = some r := h
 clear h
 by_cases c4 : a0 < a1
 ·
  rw [if_pos c4] at H
  have c4b0 : decide (a0 < a1) = true := decide_eq_true c4
  clear c4
  obtain rfl := Option.some.inj H
  go_enter Try.func33, Try.ntmps33
  go_wp2
  go_ret
  exact ⟨by first | rfl | (simp; done) | (simp [*]; done), by repeat (first | exact Drawn0.refl _ | apply Drawn0.step)⟩
 ·
  rw [if_neg c4] at H
  have c4b0 : decide (a0 < a1) = false := decide_eq_false c4
  clear c4
  by_cases c5 : a0 > a2
  ·
   rw [if_pos c5] at H
   have c5b0 : decide (a2 < a0) = true := decide_eq_true c5
   clear c5
   obtain rfl := Option.some.inj H
   go_enter Try.func33, Try.ntmps33
   go_wp2
   go_ret
   exact ⟨by first | rfl | (simp; done) | (simp [*]; done), by repeat (first | exact Drawn0.refl _ | apply Drawn0.step)⟩
  ·
   rw [if_neg c5] at H
   have c5b0 : decide (a2 < a0) = false := decide_eq_false c5
   clear c5
   obtain rfl := Option.some.inj H
   go_enter Try.func33, Try.ntmps33
   go_wp2
   go_ret
   exact ⟨by first | rfl | (simp; done) | (simp [*]; done), by repeat (first | exact Drawn0.refl _ | apply Drawn0.step)⟩

end Go.Proofs.Ytllgjhenbchkfaa.Prt

namespace Go.Proofs.Ytllgjhenbchkfaa.Prt
open Go.RowKit Go.Proofs.YtllgjhenbchkfaaW.PrintWords Go.Proofs.YtllgjhenbchkfaaW.PrintLast Go.Proofs.YtllgjhenbchkfaaW.PrintMore
attribute [local go_sem] max2_int min2_int max_two min_two max_three min_three max_four min_four   -- for this text's walks alone
set_option linter.unusedVariables false
set_option linter.unusedSimpArgs false

/-! ### pvq_fair: function 21 -/
def pvq_fair.l0 : Nat → List Int → List Int → Int → Int → Option (Bool)
 | 0, _, _, _, _ => none
 | k + 1, x0, x5, x6, x7 => if x7 < x6 then (if 0 ≤ x7 then (if x7 < (x5.length : Int) then ((num_Clamp.f (rd x5 x7) (-1048576) 1048576).bind fun t102 => (if (rd x5 x7) = t102 then (pvq_fair.l0 k x0 x5 x6 (wrap64 (x7 + 1))) else (some false))) else (none)) else (none)) else (if (x0.length : Int) ≥ 1 then (some (decide ((x0.length : Int) ≤ 16))) else (some false))
def pvq_fair.f (k : Nat) (l0 : List Int) : Option (Bool) := pvq_fair.l0 k l0 l0 (l0.length : Int) 0
theorem pvq_fair.mono_l : ∀ k, (∀ y0 y1 y2 y3, LeO (pvq_fair.l0 k y0 y1 y2 y3) (pvq_fair.l0 (k + 1) y0 y1 y2 y3))
 | 0 => fun _ _ _ _ r h => by simp [pvq_fair.l0] at h
 | k + 1 => by
  have ih0 := pvq_fair.mono_l k
  ·
   intro y0 y1 y2 y3
   unfold pvq_fair.l0
   repeat' first
   | (with_reducible exact ih0 _ _ _ _)
   | (with_reducible exact LeO.refl _)
   | (with_reducible exact LeO.none _)
   | (with_reducible refine LeO.ite ?_ ?_)
   | (with_reducible refine LeO.bind ?_ (fun _ => ?_))
   | exact ih0 _ _ _ _
   | exact LeO.none _
   | refine LeO.ite ?_ ?_
   | refine LeO.bind ?_ (fun _ => ?_)
theorem pvq_fair.mono : ∀ a0 k, LeO (pvq_fair.f k a0) (pvq_fair.f (k + 1) a0) := by
 intro a0 k
 have ih0 := pvq_fair.mono_l k
 unfold pvq_fair.f
 repeat' first
   | (with_reducible exact ih0 _ _ _ _)
   | (with_reducible exact LeO.refl _)
   | (with_reducible exact LeO.none _)
   | (with_reducible refine LeO.ite ?_ ?_)
   | (with_reducible refine LeO.bind ?_ (fun _ => ?_))
   | exact ih0 _ _ _ _
   | exact LeO.none _
   | refine LeO.ite ?_ ?_
   | refine LeO.bind ?_ (fun _ => ?_)
set_option maxHeartbeats 8000000 in
set_option maxRecDepth 100000 in
theorem pvq_fair.calls (k : Nat) (A0 : Option Addr) (c0 : Nat) (l0 : List Int) (r : Bool) (w : World) (hr0 : Kd.C (Kd.int .i64) w A0 l0.length l0) (hc0 : l0.length ≤ c0) (h : pvq_fair.f k l0 = some r) :
  Calls Try.prog 21 #[.slice A0 l0.length c0] w fun e w' => e = .returned (.bool r) ∧ Drawn0 w w' := by
 have HR0 := zm hr0
 have HC0 := zm hc0
 clear hr0 hc0
 have H : (pvq_fair.l0 k l0 l0 (l0.length : Int) 0) = some r := h
 clear h
 have H' := zm H
 clear H
 go_enter Try.func21, Try.ntmps21
 go_wp2
 go_loopg [7] k (fun kq v7 w' => ∃ (x7_1 : Int), v7 = .int .i64 x7_1 ∧ Aside0 (pvq_fair.l0 kq l0 l0 (l0.length : Int) x7_1 = some r) ∧ Aside0 (kq ≤ k) ∧ Drawn0 w w')
 case atStart => exact ⟨(0), (by first | rfl | (simp; done) | (simp [*]; done)), H', ⟨Nat.le_refl _⟩, by repeat (first | exact Drawn0.refl _ | apply Drawn0.step)⟩
 case round =>
  clear H'
  obtain ⟨x7_1, rfl, HA, HK1, ⟨m1, rfl⟩⟩ := hrel
  cases gk with
  | zero => exact absurd HA.out (by simp [pvq_fair.l0])
  | succ k1 =>
   have H := HA.out
   clear HA
   simp only [pvq_fair.l0] at H
   by_cases c2 : x7_1 < (l0.length : Int)
   ·
    rw [if_pos c2] at H
    have c2b0 : decide (x7_1 < (l0.length : Int)) = true := decide_eq_true c2
    clear c2
    by_cases c3 : 0 ≤ x7_1
    ·
     rw [if_pos c3] at H
     have c3b0 : decide (0 ≤ x7_1) = true := decide_eq_true c3
     clear c3
     by_cases c4 : x7_1 < (l0.length : Int)
     ·
      rw [if_pos c4] at H
      have c4b0 : decide (x7_1 < (l0.length : Int)) = true := decide_eq_true c4
      clear c4
      replace H := Option.bind_eq_some_iff.mp H
      obtain ⟨t102, A50, H⟩ := H
      replace H : (if (rd l0 x7_1) = t102 then (pvq_fair.l0 k1 l0 l0 (l0.length : Int) (wrap64 (x7_1 + 1))) else (some false)) = some r := H
      have A5 := zm A50
      clear A50
      by_cases c6 : (rd l0 x7_1) = t102
      ·
       rw [if_pos c6] at H
       have c6b0 : ((rd l0 x7_1) == t102) = true := beq_iff_eq.mpr c6
       have c6b1 : ((rd l0 x7_1) != t102) = false := bne_eq_false_iff_eq.mpr c6
       clear c6
       have H' := zm H
       clear H
       have p101 : 0 ≤ (x7_1 : Int) := of_decide_eq_true (by first | (with_reducible assumption) | assumption)
       have q101 : x7_1 < (l0.length : Int) := of_decide_eq_true (by first | (with_reducible assumption) | assumption)
       obtain ⟨ad101, e101, hx101_0⟩ := Kd.at_int HR0.out x7_1 p101 q101
       cases e101
       replace p101 := eq_true p101
       replace q101 := eq_true q101
       go_wp2_with (first | ((with_reducible refine gate_callee (f := 33) rfl ?_); refine goesL_ (some 13) rfl rfl Try.func33 (by kernel_rfl) rfl #[.int .i64 (rd l0 x7_1), .int .i64 (-1048576), .int .i64 1048576] rfl (by (try simp only [List.map_toArray, List.map_cons, List.map_nil]); first | done | rfl | (simp only [List.length_drop, List.length_take]; rfl)) ?_; (with_reducible refine (num_Clamp.calls (rd l0 x7_1) (-1048576) 1048576 t102 _ A5.out).mono ?_); rintro e w' ⟨rfl, ⟨nd, rfl⟩⟩; refine ⟨_, rfl, ?_⟩))
       go_roundg k1
       case measure => have := HK1.out; omega
       case rel => exact ⟨(wrap64 (x7_1 + 1)), (by first | rfl | (simp; done) | (simp [*]; done)), H', ⟨by have := HK1.out; omega⟩, by repeat (first | exact Drawn0.refl _ | apply Drawn0.step)⟩
      ·
       rw [if_neg c6] at H
       have c6b0 : ((rd l0 x7_1) == t102) = false := beq_eq_false_iff_ne.mpr c6
       have c6b1 : ((rd l0 x7_1) != t102) = true := bne_iff_ne.mpr c6
       obtain rfl := Option.some.inj H
       have p101 : 0 ≤ (x7_1 : Int) := of_decide_eq_true (by first | (with_reducible assumption) | assumption)
       have q101 : x7_1 < (l0.length : Int) := of_decide_eq_true (by first | (with_reducible assumption) | assumption)
       obtain ⟨ad101, e101, hx101_0⟩ := Kd.at_int HR0.out x7_1 p101 q101
       cases e101
       replace p101 := eq_true p101
       replace q101 := eq_true q101
       go_wp2_with (first | ((with_reducible refine gate_callee (f := 33) rfl ?_); refine goesL_ (some 13) rfl rfl Try.func33 (by kernel_rfl) rfl #[.int .i64 (rd l0 x7_1), .int .i64 (-1048576), .int .i64 1048576] rfl (by (try simp only [List.map_toArray, List.map_cons, List.map_nil]); first | done | rfl | (simp only [List.length_drop, List.length_take]; rfl)) ?_; (with_reducible refine (num_Clamp.calls (rd l0 x7_1) (-1048576) 1048576 t102 _ A5.out).mono ?_); rintro e w' ⟨rfl, ⟨nd, rfl⟩⟩; refine ⟨_, rfl, ?_⟩))
       go_ret
       exact ⟨by first | rfl | (simp; done) | (simp [*]; done), by repeat (first | exact Drawn0.refl _ | apply Drawn0.step)⟩
     ·
      rw [if_neg c4] at H
      exact absurd H (by simp)
    ·
     rw [if_neg c3] at H
     exact absurd H (by simp)
   ·
    rw [if_neg c2] at H
    have c2b0 : decide (x7_1 < (l0.length : Int)) = false := decide_eq_false c2
    clear c2
    by_cases c7 : (l0.length : Int) ≥ 1
    ·
     rw [if_pos c7] at H
     have c7b0 : decide (1 ≤ (l0.length : Int)) = true := decide_eq_true c7
     have c7b1 : decide (1 ≤ l0.length) = true := decide_eq_true (by omega)
     clear c7
     obtain rfl := Option.some.inj H
     go_wp2
     go_ret
     exact ⟨by first | rfl | (simp; done) | (simp [*]; done), by repeat (first | exact Drawn0.refl _ | apply Drawn0.step)⟩
    ·
     rw [if_neg c7] at H
     have c7b0 : decide (1 ≤ (l0.length : Int)) = false := decide_eq_false c7
     have c7b1 : decide (1 ≤ l0.length) = false := decide_eq_false (by omega)
     clear c7
     obtain rfl := Option.some.inj H
     go_wp2
     go_ret
     exact ⟨by first | rfl | (simp; done) | (simp [*]; done), by repeat (first | exact Drawn0.refl _ | apply Drawn0.step)⟩

end Go.Proofs.Ytllgjhenbchkfaa.Prt

namespace Go.Proofs.Ytllgjhenbchkfaa.Prt
open Go.RowKit Go.Proofs.YtllgjhenbchkfaaW.PrintWords Go.Proofs.YtllgjhenbchkfaaW.PrintLast Go.Proofs.YtllgjhenbchkfaaW.PrintMore
attribute [local go_sem] max2_int min2_int max_two min_two max_three min_three max_four min_four   -- for this text's walks alone
set_option linter.unusedVariables false
set_option linter.unusedSimpArgs false

/-! ### num_Shift: function 34 -/
def num_Shift.f (a0 : Int) (a1 : Int) : Option (Int × Int) := if a1 < 0 then (some (0, 1)) else (if a1 > 62 then (some (0, 1)) else (if 0 ≤ (IntKind.u64.wrap (a1)) then (some (shr .i64 a0 (IntKind.u64.wrap (a1)), 0)) else (none)))
set_option maxHeartbeats 8000000 in
set_option maxRecDepth 100000 in
theorem num_Shift.calls (a0 : Int) (a1 : Int) (r1 : Int) (r2 : Int) (w : World) (h : num_Shift.f a0 a1 = some (r1, r2)) :
  Calls Try.prog 34 #[.int .i64 a0, .int .i64 a1] w fun e w' => e = .returned (.tuple #[.int .i64 r1, .int .i64 r2]) ∧ Drawn0 w w' := by
 have H : (if a1 < 0 then (some (0, 1)) else (if a1 > 62 then (some (0, 1)) else (if 0 ≤ (IntKind.u64.wrap (a1)) then (some (shr .i64 a0 (IntKind.u64.wrap (a1)), 0)) else (none)))) = some (r1, r2) := h
 clear h
 by_cases c3 : a1 < 0
 ·
  rw [if_pos c3] at H
  have c3b0 : decide (a1 < 0) = true := decide_eq_true c3
  clear c3
  simp only [Option.some.injEq, Prod.mk.injEq] at H
  obtain ⟨rfl, rfl⟩ := H
  go_enter Try.func34, Try.ntmps34
  go_wp2
  go_ret2
  exact ⟨by first | rfl | (simp; done) | (simp [*]; done), by repeat (first | exact Drawn0.refl _ | apply Drawn0.step)⟩
 ·
  rw [if_neg c3] at H
  have c3b0 : decide (a1 < 0) = false := decide_eq_false c3
  clear c3
  by_cases c4 : a1 > 62
  ·
   rw [if_pos c4] at H
   have c4b0 : decide (62 < a1) = true := decide_eq_true c4
   clear c4
   simp only [Option.some.injEq, Prod.mk.injEq] at H
   obtain ⟨rfl, rfl⟩ := H
   go_enter Try.func34, Try.ntmps34
   go_wp2
   go_ret2
   exact ⟨by first | rfl | (simp; done) | (simp [*]; done), by repeat (first | exact Drawn0.refl _ | apply Drawn0.step)⟩
  ·
   rw [if_neg c4] at H
   have c4b0 : decide (62 < a1) = false := decide_eq_false c4
   clear c4
   obtain ⟨ji5, hji5⟩ : ∃ j_ : Int, (IntKind.u64.wrap (a1)) = j_ := ⟨_, rfl⟩
   replace H : (if 0 ≤ (ji5) then (some (shr .i64 a0 (ji5), 0)) else (none)) = some (r1, r2) := by first | (rw [hji5] at H; exact H) | (simp only [hji5] at H ⊢; exact H)
   by_cases c6 : 0 ≤ (ji5)
   ·
    rw [if_pos c6] at H
    have c6b0 := eq_true c6
    have c6b1 : decide (0 ≤ (ji5)) = true := decide_eq_true c6
    clear c6
    obtain ⟨ji7, hji7⟩ : ∃ j_ : Int, (shr .i64 a0 (ji5)) = j_ := ⟨_, rfl⟩
    replace H : (some (ji7, 0)) = some (r1, r2) := by first | (rw [hji7] at H; exact H) | (simp only [hji7] at H ⊢; exact H)
    have hji7_ : (a0 / 2 ^ min (ji5).toNat 64) = ji7 := hji7
    have hji7z : (ji5) ≤ 64 → (a0 / 2 ^ (ji5).toNat) = ji7 := shr_small hji7
    simp only [Option.some.injEq, Prod.mk.injEq] at H
    obtain ⟨rfl, rfl⟩ := H
    go_enter Try.func34, Try.ntmps34
    go_wp2
    go_ret2
    exact ⟨by first | rfl | (simp; done) | (simp only [← hji5, ← hji7] <;> (first | rfl | simp)) | (simp [*]; done), by repeat (first | exact Drawn0.refl _ | apply Drawn0.step)⟩
   ·
    rw [if_neg c6] at H
    exact absurd H (by simp)

end Go.Proofs.Ytllgjhenbchkfaa.Prt

namespace Go.Proofs.Ytllgjhenbchkfaa.Prt
open Go.RowKit Go.Proofs.YtllgjhenbchkfaaW.PrintWords Go.Proofs.YtllgjhenbchkfaaW.PrintLast Go.Proofs.YtllgjhenbchkfaaW.PrintMore
attribute [local go_sem] max2_int min2_int max_two min_two max_three min_three max_four min_four   -- for this text's walks alone
set_option linter.unusedVariables false
set_option linter.unusedSimpArgs false

/-! ### pvq_sizes: function 23 -/
mutual
def pvq_sizes.l0 : Nat → List Int → Int → List Int → Int → Int → Option (List Int)
 | 0, _, _, _, _, _ => none
 | k + 1, x0, x3, x10, x11, x12 => if x12 < x11 then (if 0 ≤ x12 then (if x12 < (x10.length : Int) then (pvq_sizes.l0 k x0 (mx (mx x3 (rd x10 x12)) (wrap64 (-(rd x10 x12)))) x10 x11 (wrap64 (x12 + 1))) else (none)) else (none)) else (pvq_sizes.l1 k x0 x3 0)
def pvq_sizes.l1 : Nat → List Int → Int → Int → Option (List Int)
 | 0, _, _, _ => none
 | k + 1, x0, x3, x6 => if 0 ≤ x6 then (if (shr .i64 x3 x6) ≥ 262144 then (pvq_sizes.l1 k x0 x3 (wrap64 (x6 + 1))) else (if 0 ≤ (x0.length : Int) then (if ((x0.length : Int) : Int).toNat ≤ 35184372088832 then (pvq_sizes.l2 k x6 (List.replicate ((x0.length : Int) : Int).toNat 0) x0 (x0.length : Int) 0) else (none)) else (none))) else (none)
def pvq_sizes.l2 : Nat → Int → List Int → List Int → Int → Int → Option (List Int)
 | 0, _, _, _, _, _ => none
 | k + 1, x6, x7, x31, x32, x33 => if x33 < x32 then (if 0 ≤ x33 then (if x33 < (x31.length : Int) then ((num_Shift.f (mx (rd x31 x33) (wrap64 (-(rd x31 x33)))) x6).bind fun bt110 => (if x33 < (x7.length : Int) then (pvq_sizes.l2 k x6 (x7.set (x33 : Int).toNat bt110.1) x31 x32 (wrap64 (x33 + 1))) else (none))) else (none)) else (none)) else (some x7)
end
def pvq_sizes.f (k : Nat) (l0 : List Int) : Option (List Int) := pvq_sizes.l0 k l0 0 l0 (l0.length : Int) 0
theorem pvq_sizes.mono_l : ∀ k, (∀ y0 y1 y2 y3 y4, LeO (pvq_sizes.l0 k y0 y1 y2 y3 y4) (pvq_sizes.l0 (k + 1) y0 y1 y2 y3 y4)) ∧ (∀ y0 y1 y2, LeO (pvq_sizes.l1 k y0 y1 y2) (pvq_sizes.l1 (k + 1) y0 y1 y2)) ∧ (∀ y0 y1 y2 y3 y4, LeO (pvq_sizes.l2 k y0 y1 y2 y3 y4) (pvq_sizes.l2 (k + 1) y0 y1 y2 y3 y4))
 | 0 => ⟨fun _ _ _ _ _ r h => by simp [pvq_sizes.l0] at h, fun _ _ _ r h => by simp [pvq_sizes.l1] at h, fun _ _ _ _ _ r h => by simp [pvq_sizes.l2] at h⟩
 | k + 1 => by
  obtain ⟨ih0, ih1, ih2⟩ := pvq_sizes.mono_l k
  refine ⟨?_, ?_, ?_⟩
  ·
   intro y0 y1 y2 y3 y4
   unfold pvq_sizes.l0
   repeat' first
   | (with_reducible exact ih0 _ _ _ _ _)
   | (with_reducible exact ih1 _ _ _)
   | (with_reducible exact ih2 _ _ _ _ _)
   | (with_reducible exact LeO.refl _)
   | (with_reducible exact LeO.none _)
   | (with_reducible refine LeO.ite ?_ ?_)
   | (with_reducible refine LeO.bind ?_ (fun _ => ?_))
   | exact ih0 _ _ _ _ _
   | exact ih1 _ _ _
   | exact ih2 _ _ _ _ _
   | exact LeO.none _
   | refine LeO.ite ?_ ?_
   | refine LeO.bind ?_ (fun _ => ?_)
  ·
   intro y0 y1 y2
   unfold pvq_sizes.l1
   repeat' first
   | (with_reducible exact ih0 _ _ _ _ _)
   | (with_reducible exact ih1 _ _ _)
   | (with_reducible exact ih2 _ _ _ _ _)
   | (with_reducible exact LeO.refl _)
   | (with_reducible exact LeO.none _)
   | (with_reducible refine LeO.ite ?_ ?_)
   | (with_reducible refine LeO.bind ?_ (fun _ => ?_))
   | exact ih0 _ _ _ _ _
   | exact ih1 _ _ _
   | exact ih2 _ _ _ _ _
   | exact LeO.none _
   | refine LeO.ite ?_ ?_
   | refine LeO.bind ?_ (fun _ => ?_)
  ·
   intro y0 y1 y2 y3 y4
   unfold pvq_sizes.l2
   repeat' first
   | (with_reducible exact ih0 _ _ _ _ _)
   | (with_reducible exact ih1 _ _ _)
   | (with_reducible exact ih2 _ _ _ _ _)
   | (with_reducible exact LeO.refl _)
   | (with_reducible exact LeO.none _)
   | (with_reducible refine LeO.ite ?_ ?_)
   | (with_reducible refine LeO.bind ?_ (fun _ => ?_))
   | exact ih0 _ _ _ _ _
   | exact ih1 _ _ _
   | exact ih2 _ _ _ _ _
   | exact LeO.none _
   | refine LeO.ite ?_ ?_
   | refine LeO.bind ?_ (fun _ => ?_)
theorem pvq_sizes.mono : ∀ a0 k, LeO (pvq_sizes.f k a0) (pvq_sizes.f (k + 1) a0) := by
 intro a0 k
 obtain ⟨ih0, ih1, ih2⟩ := pvq_sizes.mono_l k
 unfold pvq_sizes.f
 repeat' first
   | (with_reducible exact ih0 _ _ _ _ _)
   | (with_reducible exact ih1 _ _ _)
   | (with_reducible exact ih2 _ _ _ _ _)
   | (with_reducible exact LeO.refl _)
   | (with_reducible exact LeO.none _)
   | (with_reducible refine LeO.ite ?_ ?_)
   | (with_reducible refine LeO.bind ?_ (fun _ => ?_))
   | exact ih0 _ _ _ _ _
   | exact ih1 _ _ _
   | exact ih2 _ _ _ _ _
   | exact LeO.none _
   | refine LeO.ite ?_ ?_
   | refine LeO.bind ?_ (fun _ => ?_)
set_option maxHeartbeats 8000000 in
set_option maxRecDepth 100000 in
theorem pvq_sizes.calls (k : Nat) (A0 : Option Addr) (c0 : Nat) (l0 : List Int) (r : List Int) (w : World) (hr0 : Kd.C (Kd.int .i64) w A0 l0.length l0) (hc0 : l0.length ≤ c0) (h : pvq_sizes.f k l0 = some r) :
  Calls Try.prog 23 #[.slice A0 l0.length c0] w fun e w' => ∃ v0_ : Value, e = .returned (v0_) ∧ Kd.R (Kd.int .i64) 2 w' w.heap.size (fun _ => True) v0_ r ∧ Below w.heap.size w w' := by
 have HR0 := zm hr0
 have HC0 := zm hc0
 clear hr0 hc0
 have HB := zm (Below.refl w.heap.size w)
 have H : (pvq_sizes.l0 k l0 0 l0 (l0.length : Int) 0) = some r := h
 clear h
 have H' := zm H
 clear H
 go_enter Try.func23, Try.ntmps23
 go_wp2
 go_loopg [3, 12] k (fun kq v3 v12 w' => ∃ (x3_1 : Int) (x12_1 : Int), v3 = .int .i64 x3_1 ∧ v12 = .int .i64 x12_1 ∧ Aside0 (pvq_sizes.l0 kq l0 x3_1 l0 (l0.length : Int) x12_1 = some r) ∧ Aside0 (kq ≤ k) ∧ Aside0 (Below w.heap.size w w'))
 case atStart => exact ⟨(0), (0), (by first | rfl | (simp; done) | (simp [*]; done)), (by first | rfl | (simp; done) | (simp [*]; done)), H', ⟨Nat.le_refl _⟩, ⟨by repeat (first | (with_reducible first | exact HB.out | apply ze | apply zd | apply zf) | exact HB.out)⟩⟩
 case round =>
  clear H'
  obtain ⟨x3_1, x12_1, rfl, rfl, HA, HK1, HB⟩ := hrel
  cases gk with
  | zero => exact absurd HA.out (by simp [pvq_sizes.l0])
  | succ k1 =>
   have H := HA.out
   clear HA
   simp only [pvq_sizes.l0] at H
   by_cases c2 : x12_1 < (l0.length : Int)
   ·
    rw [if_pos c2] at H
    have c2b0 : decide (x12_1 < (l0.length : Int)) = true := decide_eq_true c2
    clear c2
    by_cases c3 : 0 ≤ x12_1
    ·
     rw [if_pos c3] at H
     have c3b0 : decide (0 ≤ x12_1) = true := decide_eq_true c3
     clear c3
     by_cases c4 : x12_1 < (l0.length : Int)
     ·
      rw [if_pos c4] at H
      have c4b0 : decide (x12_1 < (l0.length : Int)) = true := decide_eq_true c4
      clear c4
      obtain ⟨ji5, hji5⟩ : ∃ j_ : Int, (mx x3_1 (rd l0 x12_1)) = j_ := ⟨_, rfl⟩
      replace H : (pvq_sizes.l0 k1 l0 (mx (ji5) (wrap64 (-(rd l0 x12_1)))) l0 (l0.length : Int) (wrap64 (x12_1 + 1))) = some r := by first | (rw [hji5] at H; exact H) | (simp only [hji5] at H ⊢; exact H)
      have hji5_ : (if x3_1 < (rd l0 x12_1) then (rd l0 x12_1) else x3_1) = ji5 := hji5
      obtain ⟨ji6, hji6⟩ : ∃ j_ : Int, (mx (ji5) (wrap64 (-(rd l0 x12_1)))) = j_ := ⟨_, rfl⟩
      replace H : (pvq_sizes.l0 k1 l0 ji6 l0 (l0.length : Int) (wrap64 (x12_1 + 1))) = some r := by first | (rw [hji6] at H; exact H) | (simp only [hji6] at H ⊢; exact H)
      have hji6_ : (if (ji5) < (wrap64 (-(rd l0 x12_1))) then (wrap64 (-(rd l0 x12_1))) else (ji5)) = ji6 := hji6
      have H' := zm H
      clear H
      have p105 : 0 ≤ (x12_1 : Int) := of_decide_eq_true (by first | (with_reducible assumption) | assumption)
      have q105 : x12_1 < (l0.length : Int) := of_decide_eq_true (by first | (with_reducible assumption) | assumption)
      obtain ⟨ad105, e105, hx105_0⟩ := Kd.at_int HR0.out x12_1 p105 q105
      cases e105
      replace hx105_0 := (HB.out.cell (zb w _ hx105_0)).trans hx105_0
      replace p105 := eq_true p105
      replace q105 := eq_true q105
      go_wp2
      go_roundg k1
      case measure => have := HK1.out; omega
      case rel => exact ⟨(ji6), (wrap64 (x12_1 + 1)), (by first | rfl | (simp; done) | (simp only [← hji6] <;> (first | rfl | simp)) | (simp [*]; done)), (by first | rfl | (simp; done) | (simp [*]; done)), H', ⟨by have := HK1.out; omega⟩, ⟨by repeat (first | (with_reducible first | exact HB.out | apply ze | apply zd | apply zf) | exact HB.out)⟩⟩
     ·
      rw [if_neg c4] at H
      exact absurd H (by simp)
    ·
     rw [if_neg c3] at H
     exact absurd H (by simp)
   ·
    rw [if_neg c2] at H
    have c2b0 : decide (x12_1 < (l0.length : Int)) = false := decide_eq_false c2
    clear c2
    have H' := zm H
    clear H
    go_wp2
    go_loopg [6] k1 (fun kq v6 w' => ∃ (x6_2 : Int), v6 = .int .i64 x6_2 ∧ Aside0 (pvq_sizes.l1 kq l0 x3_1 x6_2 = some r) ∧ Aside0 (kq ≤ k1) ∧ Aside0 (Below w.heap.size w w'))
    case atStart => exact ⟨(0), (by first | rfl | (simp; done) | (simp [*]; done)), H', ⟨Nat.le_refl _⟩, ⟨by repeat (first | (with_reducible first | exact HB.out | apply ze | apply zd | apply zf) | exact HB.out)⟩⟩
    case round =>
     clear H'
     try clear p1
     try clear q1
     try clear hx1
     try clear c2
     try clear c2b0
     try clear p2
     try clear c3
     try clear c3b0
     try clear c4
     try clear c4b0
     try clear p6
     try clear hx105_0
     try clear p105
     try clear q105
     obtain ⟨x6_2, rfl, HA, HK2, HB⟩ := hrel
     cases gk with
     | zero => exact absurd HA.out (by simp [pvq_sizes.l1])
     | succ k2 =>
      have H := HA.out
      clear HA
      simp only [pvq_sizes.l1] at H
      by_cases c7 : 0 ≤ x6_2
      ·
       rw [if_pos c7] at H
       have c7b0 := eq_true c7
       have c7b1 : decide (0 ≤ x6_2) = true := decide_eq_true c7
       clear c7
       obtain ⟨ji8, hji8⟩ : ∃ j_ : Int, (shr .i64 x3_1 x6_2) = j_ := ⟨_, rfl⟩
       replace H : (if (ji8) ≥ 262144 then (pvq_sizes.l1 k2 l0 x3_1 (wrap64 (x6_2 + 1))) else (if 0 ≤ (l0.length : Int) then (if ((l0.length : Int) : Int).toNat ≤ 35184372088832 then (pvq_sizes.l2 k2 x6_2 (List.replicate ((l0.length : Int) : Int).toNat 0) l0 (l0.length : Int) 0) else (none)) else (none))) = some r := by first | (rw [hji8] at H; exact H) | (simp only [hji8] at H ⊢; exact H)
       have hji8_ : (x3_1 / 2 ^ min x6_2.toNat 64) = ji8 := hji8
       have hji8z : x6_2 ≤ 64 → (x3_1 / 2 ^ x6_2.toNat) = ji8 := shr_small hji8
       by_cases c9 : (ji8) ≥ 262144
       ·
        rw [if_pos c9] at H
        have c9b0 : decide (262144 ≤ (ji8)) = true := decide_eq_true c9
        clear c9
        have H' := zm H
        clear H
        go_wp2
        go_roundg k2
        case measure => have := HK1.out; have := HK2.out; omega
        case rel => exact ⟨(wrap64 (x6_2 + 1)), (by first | rfl | (simp; done) | (simp [*]; done)), H', ⟨by have := HK1.out; have := HK2.out; omega⟩, ⟨by repeat (first | (with_reducible first | exact HB.out | apply ze | apply zd | apply zf) | exact HB.out)⟩⟩
       ·
        rw [if_neg c9] at H
        have c9b0 : decide (262144 ≤ (ji8)) = false := decide_eq_false c9
        clear c9
        by_cases c10 : 0 ≤ (l0.length : Int)
        ·
         rw [if_pos c10] at H
         have c10b0 := eq_true c10
         have c10b1 : decide (0 ≤ (l0.length : Int)) = true := decide_eq_true c10
         clear c10
         by_cases c11 : ((l0.length : Int) : Int).toNat ≤ 35184372088832
         ·
          rw [if_pos c11] at H
          have c11b0 := eq_true c11
          have c11b1 : decide (((l0.length : Int) : Int).toNat ≤ 35184372088832) = true := decide_eq_true c11
          clear c11
          obtain ⟨y106, hy106⟩ : ∃ y_ : List Int, y_ = (List.replicate ((l0.length : Int) : Int).toNat 0) := ⟨_, rfl⟩
          replace H : (pvq_sizes.l2 k2 x6_2 y106 l0 (l0.length : Int) 0) = some r := by first | (rw [hy106]; with_reducible exact H) | (have H2_ := (Option.bind_some _ _).symm.trans H; rw [hy106]; with_reducible exact H2_) | (have H2_ := (Option.bind_some _ _).symm.trans H; with_reducible exact H2_) | with_reducible exact H | (rw [hy106]; exact H) | exact H
          have Ny106 := zm hy106
          clear hy106
          have H' := zm H
          clear H
          go_wp2_with (first | ((with_reducible refine gate_dst (N := 30) rfl ?_); refine Kd.R_make (Kd.int .i64) _ 2 rfl (N := 30) rfl 22 _ _ rfl (l0.length : Int) rfl rfl Try.underlying22 (.int .i64 0) 8 info2 rfl (by decide) (by omega) 0 (ok := fun _ => True) (okp := fun _ => True) rfl (fun _ hk => hk) trivial (of_decide_eq_true (by first | (with_reducible assumption) | assumption)) (Nat.le_trans (Nat.mul_le_mul_right _ (of_decide_eq_true (by first | (with_reducible assumption) | assumption) : (l0.length : Int).toNat ≤ 35184372088832)) (by omega)) (Below.refl _ _) (Nat.le_refl _) ?_; intro v107 w12 ho13 hb hg_ hnew_; clear hg_ hnew_; (first | rw [← Ny106.out] at ho13 | (simp only [Int.reduceToNat] at ho13; rw [← Ny106.out] at ho13)); have n0_ := zm (Kd.R_lower ho13 (zE (by repeat (first | (with_reducible first | exact HB.out | apply ze | apply zd | apply zf) | exact HB.out)))); have n1_ := zm (zJ (by repeat (first | (with_reducible first | exact HB.out | apply ze | apply zd | apply zf) | exact HB.out)) hb); clear HB; have HO108 := n0_; have HB := n1_; clear n0_ n1_; clear hb ho13))
          go_loopg [33] k2 (fun kq v33 w' => ∃ (x7_3 : List Int) (x33_3 : Int), v33 = .int .i64 x33_3 ∧ Aside0 (pvq_sizes.l2 kq x6_2 x7_3 l0 (l0.length : Int) x33_3 = some r) ∧ Aside0 (kq ≤ k2) ∧ Aside0 (Kd.R (Kd.int .i64) 2 w' w.heap.size (fun _ => True) v107 x7_3) ∧ Aside0 (Below w.heap.size w w'))
          case atStart => exact ⟨(y106), (0), (by first | rfl | (simp; done) | (simp [*]; done)), H', ⟨Nat.le_refl _⟩, ⟨by (with_reducible repeat (first | apply zo | apply zp | apply zq)); exact HO108.out⟩, ⟨by repeat (first | (with_reducible first | exact HB.out | apply ze | apply zd | apply zf) | exact HB.out)⟩⟩
          case round =>
           clear H'
           try clear c1
           try clear p1
           try clear q1
           try clear hx1
           try clear c2
           try clear c2b0
           try clear p2
           try clear c3
           try clear c3b0
           try clear c4
           try clear c4b0
           try clear p6
           try clear c7
           try clear c7b0
           try clear c7b1
           try clear c9
           try clear c9b0
           try clear c10
           try clear c10b0
           try clear c10b1
           try clear p10
           try clear q10
           try clear hx10
           try clear c11
           try clear c11b0
           try clear c11b1
           try clear hx105_0
           try clear p1
           try clear p105
           try clear p2
           try clear p6
           try clear q1
           try clear q105
           obtain ⟨x7_3, x33_3, rfl, HA, HK3, HO_7, HB⟩ := hrel
           cases gk with
           | zero => exact absurd HA.out (by simp [pvq_sizes.l2])
           | succ k3 =>
            have H := HA.out
            clear HA
            simp only [pvq_sizes.l2] at H
            by_cases c14 : x33_3 < (l0.length : Int)
            ·
             rw [if_pos c14] at H
             have c14b0 : decide (x33_3 < (l0.length : Int)) = true := decide_eq_true c14
             clear c14
             by_cases c15 : 0 ≤ x33_3
             ·
              rw [if_pos c15] at H
              have c15b0 : decide (0 ≤ x33_3) = true := decide_eq_true c15
              clear c15
              by_cases c16 : x33_3 < (l0.length : Int)
              ·
               rw [if_pos c16] at H
               have c16b0 : decide (x33_3 < (l0.length : Int)) = true := decide_eq_true c16
               clear c16
               obtain ⟨ji17, hji17⟩ : ∃ j_ : Int, (mx (rd l0 x33_3) (wrap64 (-(rd l0 x33_3)))) = j_ := ⟨_, rfl⟩
               replace H : ((num_Shift.f (ji17) x6_2).bind fun bt110 => (if x33_3 < (x7_3.length : Int) then (pvq_sizes.l2 k3 x6_2 (x7_3.set (x33_3 : Int).toNat bt110.1) l0 (l0.length : Int) (wrap64 (x33_3 + 1))) else (none))) = some r := by first | (rw [hji17] at H; exact H) | (simp only [hji17] at H ⊢; exact H)
               have hji17_ : (if (rd l0 x33_3) < (wrap64 (-(rd l0 x33_3))) then (wrap64 (-(rd l0 x33_3))) else (rd l0 x33_3)) = ji17 := hji17
               replace H := Option.bind_eq_some_iff.mp H
               obtain ⟨⟨t110, t111⟩, A180, H⟩ := H
               replace H : (if x33_3 < (x7_3.length : Int) then (pvq_sizes.l2 k3 x6_2 (x7_3.set (x33_3 : Int).toNat t110) l0 (l0.length : Int) (wrap64 (x33_3 + 1))) else (none)) = some r := H
               have A18 := zm A180
               clear A180
               by_cases c19 : x33_3 < (x7_3.length : Int)
               ·
                rw [if_pos c19] at H
                have c19b0 : decide (x33_3 < (x7_3.length : Int)) = true := decide_eq_true c19
                clear c19
                obtain ⟨y112, hy112⟩ : ∃ y_ : List Int, y_ = (x7_3.set (x33_3 : Int).toNat t110) := ⟨_, rfl⟩
                replace H : (pvq_sizes.l2 k3 x6_2 y112 l0 (l0.length : Int) (wrap64 (x33_3 + 1))) = some r := by first | (rw [hy112]; with_reducible exact H) | (have H2_ := (Option.bind_some _ _).symm.trans H; rw [hy112]; with_reducible exact H2_) | (have H2_ := (Option.bind_some _ _).symm.trans H; with_reducible exact H2_) | with_reducible exact H | (rw [hy112]; exact H) | exact H
                have Ny112 := zm hy112
                clear hy112
                have H' := zm H
                clear H
                have p109 : 0 ≤ (x33_3 : Int) := of_decide_eq_true (by first | (with_reducible assumption) | assumption)
                have q109 : x33_3 < (l0.length : Int) := of_decide_eq_true (by first | (with_reducible assumption) | assumption)
                obtain ⟨ad109, e109, hx109_0⟩ := Kd.at_int HR0.out x33_3 p109 q109
                cases e109
                replace hx109_0 := (HB.out.cell (zb w _ hx109_0)).trans hx109_0
                replace p109 := eq_true p109
                replace q109 := eq_true q109
                go_wp2_with (first | ((with_reducible refine gate_callee (f := 34) rfl ?_); refine goesL_ (some 46) rfl rfl Try.func34 (by kernel_rfl) rfl #[.int .i64 ji17, .int .i64 x6_2] rfl (by (try simp only [List.map_toArray, List.map_cons, List.map_nil]); first | done | (simp only [hji17]; rfl) | rfl | (simp only [List.length_drop, List.length_take]; rfl)) ?_; (with_reducible refine (num_Shift.calls ji17 x6_2 t110 t111 _ A18.out).mono ?_); rintro e w' ⟨rfl, ⟨nd, rfl⟩⟩; refine ⟨_, rfl, ?_⟩; (try (rw [drewN_self wr]; generalize hq_ : World.drewN wr _ = wr; have n0_ : Aside0 (Kd.R (Kd.int .i64) 2 wr w.heap.size (fun _ => True) v107 x7_3) := ⟨by rw [← hq_]; exact (by (with_reducible repeat (first | apply zo | apply zp | apply zq)); exact HO_7.out)⟩; have n1_ : Aside0 (Below w.heap.size w wr) := ⟨by rw [← hq_]; exact (by repeat (first | (with_reducible first | exact HB.out | apply ze | apply zd | apply zf) | exact HB.out))⟩; clear HO_7 HB hq_; have HO_7 := n0_; have HB := n1_; clear n0_ n1_)); have p20 : 0 ≤ (x33_3 : Int) := of_decide_eq_true (by first | (with_reducible assumption) | assumption); have q20 : (x33_3 : Int) < ((x7_3.length : Int) : Int) := of_decide_eq_true (by first | (with_reducible assumption) | assumption); obtain ⟨go20, co20, eo20, gb20, gl20, cl20, HG20⟩ := Kd.R_form HO_7.out (by omega); (first | cases eo20 | (injection eo20 with ea_ en_ ec_; (first | subst ea_ | (injection ea_ with ea_; subst ea_)); subst ec_; clear en_)); have GB20 := zm gb20; have GG20 := zm HG20; clear gb20 gl20 HG20; obtain ⟨hx20_0, hf20_0⟩ := Kd.R_celln 0 HO_7.out (x33_3 : Int) p20 q20; replace p20 := eq_true p20; replace q20 := eq_true q20; obtain ⟨hy21_, hz21_⟩ := Kd.R_celln 0 HO_7.out (x33_3 : Int) (of_decide_eq_true (by first | (with_reducible assumption) | assumption)) (of_decide_eq_true (by first | (with_reducible assumption) | assumption)); have HP21 := Kd.R_putg HO_7.out (x33_3 : Int) t110) | ((with_reducible refine gate_store (t := 2) (p := 49) rfl ?_); refine store_event (t := 2) (p := 49) (v := ?vo_w22) (w1 := (wr.setCell ⟨go20, (x33_3 : Int).toNat, none⟩ (.int .i64 t110))) ?hg ?ho ?hn ?hr ?_; (case ho => rfl); (case hg => rfl); (case hn => rfl); (case hr => first | (go_simp; done) | (go_simp; rfl)); intro w22 hw; have hg : wr.grownBy w22 (some go20) := (by rw [hw]; exact HP21.2); have hp_ : Kd.R (Kd.int .i64) 2 w22 w.heap.size (fun _ => True) (.slice (some ⟨go20, 0, none⟩) x7_3.length co20) y112 := (by rw [hw, Ny112.out]; exact HP21.1); clear HP21; have n0_ := zm (hp_); have n1_ := zm ((by rw [hw]; exact zk (HB.out) GB20.out : Below w.heap.size w w22)); clear HO_7; clear HB; have HO_7 := n0_; have HB := n1_; clear n0_ n1_; clear hg hw hp_))
                go_roundg k3
                case measure => have := HK1.out; have := HK2.out; have := HK3.out; omega
                case rel => exact ⟨(y112), (wrap64 (x33_3 + 1)), (by first | rfl | (simp; done) | (simp [*]; done)), H', ⟨by have := HK1.out; have := HK2.out; have := HK3.out; omega⟩, ⟨by (with_reducible repeat (first | apply zo | apply zp | apply zq)); exact HO_7.out⟩, ⟨by repeat (first | (with_reducible first | exact HB.out | apply ze | apply zd | apply zf) | exact HB.out)⟩⟩
               ·
                rw [if_neg c19] at H
                exact absurd H (by simp)
              ·
               rw [if_neg c16] at H
               exact absurd H (by simp)
             ·
              rw [if_neg c15] at H
              exact absurd H (by simp)
            ·
             rw [if_neg c14] at H
             have c14b0 : decide (x33_3 < (l0.length : Int)) = false := decide_eq_false c14
             clear c14
             obtain rfl := Option.some.inj H
             go_wp2
             go_ret
             exact ⟨_, by first | rfl | (simp [errW_none, errW_some] <;> rfl) | (simp only [← hji8]; first | rfl | (simp [errW_none, errW_some] <;> rfl)) | (simp [*, errW_none, errW_some] <;> rfl), by (with_reducible repeat (first | apply zo | apply zp | apply zq)); exact HO_7.out, by repeat (first | (with_reducible first | exact HB.out | apply ze | apply zd | apply zf) | exact HB.out)⟩
         ·
          rw [if_neg c11] at H
          exact absurd H (by simp)
        ·
         rw [if_neg c10] at H
         exact absurd H (by simp)
      ·
       rw [if_neg c7] at H
       exact absurd H (by simp)

end Go.Proofs.Ytllgjhenbchkfaa.Prt

namespace Go.Proofs.Ytllgjhenbchkfaa.Prt
open Go.RowKit Go.Proofs.YtllgjhenbchkfaaW.PrintWords Go.Proofs.YtllgjhenbchkfaaW.PrintLast Go.Proofs.YtllgjhenbchkfaaW.PrintMore
attribute [local go_sem] max2_int min2_int max_two min_two max_three min_three max_four min_four   -- for this text's walks alone
set_option linter.unusedVariables false
set_option linter.unusedSimpArgs false

/-! ### pvq_with: function 24 -/
def pvq_with.f (a0_0 : Int) (a0_1 : Int) (a1 : Int) (a2 : Int) : Option (Int × Int) := some (wrap64 (a0_0 + a1), wrap64 (a0_1 + (wrap64 ((wrap64 (2 * a2)) + 1))))
set_option maxHeartbeats 8000000 in
set_option maxRecDepth 100000 in
theorem pvq_with.calls (a0_0 : Int) (a0_1 : Int) (a1 : Int) (a2 : Int) (r1 : Int) (r2 : Int) (w : World) (h : pvq_with.f a0_0 a0_1 a1 a2 = some (r1, r2)) :
  Calls Try.prog 24 #[.agg #[.int .i64 a0_0, .int .i64 a0_1], .int .i64 a1, .int .i64 a2] w fun e w' => e = .returned (.agg #[.int .i64 r1, .int .i64 r2]) ∧ Below w.heap.size w w' := by
 have hu47 := Try.underlying47
 have HB := zm (Below.refl w.heap.size w)
 have H : (some (wrap64 (a0_0 + a1), wrap64 (a0_1 + (wrap64 ((wrap64 (2 * a2)) + 1))))) = some (r1, r2) := h
 clear h
 simp only [Option.some.injEq, Prod.mk.injEq] at H
 obtain ⟨rfl, rfl⟩ := H
 go_enter Try.func24, Try.ntmps24
 go_wp2_with (first | ((with_reducible refine gate_dst (N := 3) rfl ?_); refine box_event ?hg (N := 3) ?hd (cs := #[.int .i64 a0_0, .int .i64 a0_1]) (t := 47) ?hr ?_; (case hd => rfl); (case hg => rfl); (case hr => first | (go_simp; done) | (go_simp; rfl)); intro gb113 hg w4 hbox hb; have n0_ := zm (zJ (by repeat (first | (with_reducible first | exact HB.out | apply ze | apply zd | apply zf) | exact HB.out)) hb); have n1_ := zm (hbox); have n2_ := zm ((by rw [hg]; exact (zE (by repeat (first | (with_reducible first | exact HB.out | apply ze | apply zd | apply zf) | exact HB.out))) : w.heap.size ≤ gb113)); have n3_ := zm ((by rw [hg]; exact (zE (by repeat (first | (with_reducible first | exact HB.out | apply ze | apply zd | apply zf) | exact HB.out))) : w.heap.size ≤ gb113)); clear HB; have HB := n0_; have BK113 := n1_; have GW113 := n2_; have GE113 := n3_; clear n0_ n1_ n2_ n3_; clear hb hbox hg) | ((with_reducible refine gate_dst (N := 6) rfl ?_); refine box_event ?hg (N := 6) ?hd (cs := #[.int .i64 0, .int .i64 0]) (t := 47) ?hr ?_; (case hd => rfl); (case hg => rfl); (case hr => first | (go_simp; done) | (go_simp; rfl)); intro gb114 hg w5 hbox hb; have n0_ := zm (zF (g := gb113) (o := .cells #[.int .i64 a0_0, .int .i64 a0_1] 47 (0, 0)) (by (with_reducible repeat (first | refine zh ?_ _ | refine zj ?_ | refine zi ?_ _)); exact BK113.out) hb); have n1_ := zm (zJ (by repeat (first | (with_reducible first | exact HB.out | apply ze | apply zd | apply zf | refine zk ?_ GE113.out) | exact HB.out)) hb); have n2_ := zm (hbox); have n3_ := zm ((by rw [hg]; exact (zE (by repeat (first | (with_reducible first | exact HB.out | apply ze | apply zd | apply zf | refine zk ?_ GE113.out) | exact HB.out))) : w.heap.size ≤ gb114)); have n4_ := zm ((by rw [hg]; exact (zE (by repeat (first | (with_reducible first | exact HB.out | apply ze | apply zd | apply zf | refine zk ?_ GE113.out) | exact HB.out))) : w.heap.size ≤ gb114)); have n5_ := zm ((by rw [hg]; exact zn (zD (g := gb113) (o := .cells #[.int .i64 a0_0, .int .i64 a0_1] 47 (0, 0)) (by (with_reducible repeat (first | refine zh ?_ _ | refine zj ?_ | refine zi ?_ _)); exact BK113.out)) : gb113 ≠ gb114)); have n6_ := zm ((by rw [hg]; exact zg (zD (g := gb113) (o := .cells #[.int .i64 a0_0, .int .i64 a0_1] 47 (0, 0)) (by (with_reducible repeat (first | refine zh ?_ _ | refine zj ?_ | refine zi ?_ _)); exact BK113.out)) : gb114 ≠ gb113)); clear BK113; clear HB; have BK113 := n0_; have HB := n1_; have BK114 := n2_; have GW114 := n3_; have GE114 := n4_; have NB113_114 := n5_; have NB114_113 := n6_; clear n0_ n1_ n2_ n3_ n4_ n5_ n6_; clear hb hbox hg; have hnb6 := NB113_114.out; have hnc6 := NB114_113.out; have hcz7_0 : w5.cell? ⟨gb113, 0, none⟩ = some (.int .i64 a0_0) := (zs BK113.out 0).trans rfl; have hcz7_1 : w5.cell? ⟨gb113, 1, none⟩ = some (.int .i64 a0_1) := (zs BK113.out 1).trans rfl; have hfz7_0 := zx BK113.out 0; have hfz7_1 := zx BK113.out 1; have hcz8_0 : w5.cell? ⟨gb114, 0, none⟩ = some (.int .i64 0) := (zs BK114.out 0).trans rfl; have hcz8_1 : w5.cell? ⟨gb114, 1, none⟩ = some (.int .i64 0) := (zs BK114.out 1).trans rfl; have hfz8_0 := zx BK114.out 0; have hfz8_1 := zx BK114.out 1))
 refine bodyPost_ret (results_cell_row rfl _ _ gb114 47 #[.int .i64 (wrap64 (a0_0 + a1)), .int .i64 (wrap64 (a0_1 + (wrap64 ((wrap64 (2 * a2)) + 1))))] (0, 0) _ rfl (by (with_reducible repeat (first | refine zh ?_ _ | refine zj ?_ | refine zi ?_ _)); refine zw (cs := #[.int .i64 (wrap64 (a0_0 + a1)), .int .i64 0]) ?_ 1 _ rfl; (with_reducible repeat (first | refine zh ?_ _ | refine zj ?_ | refine zi ?_ _)); refine zw (cs := #[.int .i64 0, .int .i64 0]) ?_ 0 _ rfl; (with_reducible repeat (first | refine zh ?_ _ | refine zj ?_ | refine zi ?_ _)); exact BK114.out) Try.underlying47 rfl (by kernel_rfl)) rfl ?_
 exact ⟨by first | rfl | (simp [errW_none, errW_some] <;> rfl) | (simp [*, errW_none, errW_some] <;> rfl), by repeat (first | (with_reducible first | exact HB.out | apply ze | apply zd | apply zf | refine zk ?_ GE113.out | refine zk ?_ GE114.out) | exact HB.out)⟩

end Go.Proofs.Ytllgjhenbchkfaa.Prt

namespace Go.Proofs.Ytllgjhenbchkfaa.Prt
open Go.RowKit Go.Proofs.YtllgjhenbchkfaaW.PrintWords Go.Proofs.YtllgjhenbchkfaaW.PrintLast Go.Proofs.YtllgjhenbchkfaaW.PrintMore
attribute [local go_sem] max2_int min2_int max_two min_two max_three min_three max_four min_four   -- for this text's walks alone
set_option linter.unusedVariables false
set_option linter.unusedSimpArgs false

/-! ### pvq_Search: function 13 -/
mutual
def pvq_Search.j0 : Nat → List Int → Int → Bool → Option (List Int × Int)
 | 0, _, _, _ => none
 | k + 1, x0, x1, x25 => if x25 = true then (some (([] : List Int), 1)) else ((pvq_sizes.f k x0).bind fun t123 => (if 0 ≤ (x0.length : Int) then (if ((x0.length : Int) : Int).toNat ≤ 35184372088832 then (pvq_Search.l0 k x0 t123 (List.replicate ((x0.length : Int) : Int).toNat 0) x1 0 0 0) else (none)) else (none)))
def pvq_Search.l0 : Nat → List Int → List Int → List Int → Int → Int → Int → Int → Option (List Int × Int)
 | 0, _, _, _, _, _, _, _ => none
 | k + 1, x0, x6, x7, x33, x34, x130000, x130001 => if x34 < x33 then (if 0 ≤ (x0.length : Int) then (if ((x0.length : Int) : Int).toNat ≤ 17592186044416 then ((some (List.replicate ((x0.length : Int) : Int).toNat z47 : List (S47))).bind fun y130 => (pvq_Search.l1 k x0 x6 x7 y130 x33 x34 (y130.length : Int) 0 x130000 x130001)) else (none)) else (none)) else (pvq_Search.l2 k x7 x0 (x0.length : Int) 0)
def pvq_Search.l1 : Nat → List Int → List Int → List Int → List (S47) → Int → Int → Int → Int → Int → Int → Option (List Int × Int)
 | 0, _, _, _, _, _, _, _, _, _, _ => none
 | k + 1, x0, x6, x7, x10, x33, x34, x40, x41, x130000, x130001 => if x41 < x40 then (if 0 ≤ x41 then (if x41 < (x6.length : Int) then (if x41 < (x7.length : Int) then ((pvq_with.f x130000 x130001 (rd x6 x41) (rd x7 x41)).bind fun bt135 => (if x41 < (x10.length : Int) then (pvq_Search.l1 k x0 x6 x7 (x10.set (x41 : Int).toNat (⟨bt135.1, bt135.2⟩ : S47)) x33 x34 x40 (wrap64 (x41 + 1)) x130000 x130001) else (none))) else (none)) else (none)) else (none)) else ((pvq_best.f k x10).bind fun t138 => (if 0 ≤ t138 then (if t138 < (x10.length : Int) then (if t138 < (x7.length : Int) then (pvq_Search.l0 k x0 x6 (x7.set (t138 : Int).toNat (wrap64 ((rd x7 t138) + 1))) x33 (wrap64 (x34 + 1)) ((rd_T47 x10 t138).f0) ((rd_T47 x10 t138).f1)) else (none)) else (none)) else (none)))
def pvq_Search.l2 : Nat → List Int → List Int → Int → Int → Option (List Int × Int)
 | 0, _, _, _, _ => none
 | k + 1, x7, x73, x74, x75 => if x75 < x74 then (if 0 ≤ x75 then (if x75 < (x73.length : Int) then (if (rd x73 x75) < 0 then (if x75 < (x7.length : Int) then (pvq_Search.l2 k (x7.set (x75 : Int).toNat (wrap64 (-(rd x7 x75)))) x73 x74 (wrap64 (x75 + 1))) else (none)) else (pvq_Search.l2 k x7 x73 x74 (wrap64 (x75 + 1)))) else (none)) else (none)) else (some (x7, 0))
end
def pvq_Search.f (k : Nat) (l0 : List Int) (a1 : Int) : Option (List Int × Int) := (pvq_fair.f k l0).bind fun t122 => (if t122 = true then (if a1 < 0 then (pvq_Search.j0 k l0 a1 true) else (pvq_Search.j0 k l0 a1 (decide (a1 > 12)))) else (pvq_Search.j0 k l0 a1 true))
theorem pvq_Search.mono_l : ∀ k, (∀ y0 y1 y2, LeO (pvq_Search.j0 k y0 y1 y2) (pvq_Search.j0 (k + 1) y0 y1 y2)) ∧ (∀ y0 y1 y2 y3 y4 y5 y6, LeO (pvq_Search.l0 k y0 y1 y2 y3 y4 y5 y6) (pvq_Search.l0 (k + 1) y0 y1 y2 y3 y4 y5 y6)) ∧ (∀ y0 y1 y2 y3 y4 y5 y6 y7 y8 y9, LeO (pvq_Search.l1 k y0 y1 y2 y3 y4 y5 y6 y7 y8 y9) (pvq_Search.l1 (k + 1) y0 y1 y2 y3 y4 y5 y6 y7 y8 y9)) ∧ (∀ y0 y1 y2 y3, LeO (pvq_Search.l2 k y0 y1 y2 y3) (pvq_Search.l2 (k + 1) y0 y1 y2 y3))
 | 0 => ⟨fun _ _ _ r h => by simp [pvq_Search.j0] at h, fun _ _ _ _ _ _ _ r h => by simp [pvq_Search.l0] at h, fun _ _ _ _ _ _ _ _ _ _ r h => by simp [pvq_Search.l1] at h, fun _ _ _ _ r h => by simp [pvq_Search.l2] at h⟩
 | k + 1 => by
  obtain ⟨ih0, ih1, ih2, ih3⟩ := pvq_Search.mono_l k
  refine ⟨?_, ?_, ?_, ?_⟩
  ·
   intro y0 y1 y2
   unfold pvq_Search.j0
   repeat' first
   | (with_reducible exact ih0 _ _ _)
   | (with_reducible exact ih1 _ _ _ _ _ _ _)
   | (with_reducible exact ih2 _ _ _ _ _ _ _ _ _ _)
   | (with_reducible exact ih3 _ _ _ _)
   | (with_reducible exact pvq_best.mono _ _)
   | (with_reducible exact pvq_fair.mono _ _)
   | (with_reducible exact pvq_sizes.mono _ _)
   | (with_reducible exact LeO.refl _)
   | (with_reducible exact LeO.none _)
   | (with_reducible refine LeO.ite ?_ ?_)
   | (with_reducible refine LeO.bind ?_ (fun _ => ?_))
   | exact ih0 _ _ _
   | exact ih1 _ _ _ _ _ _ _
   | exact ih2 _ _ _ _ _ _ _ _ _ _
   | exact ih3 _ _ _ _
   | exact pvq_best.mono _ _
   | exact pvq_fair.mono _ _
   | exact pvq_sizes.mono _ _
   | exact LeO.none _
   | refine LeO.ite ?_ ?_
   | refine LeO.bind ?_ (fun _ => ?_)
  ·
   intro y0 y1 y2 y3 y4 y5 y6
   unfold pvq_Search.l0
   repeat' first
   | (with_reducible exact ih0 _ _ _)
   | (with_reducible exact ih1 _ _ _ _ _ _ _)
   | (with_reducible exact ih2 _ _ _ _ _ _ _ _ _ _)
   | (with_reducible exact ih3 _ _ _ _)
   | (with_reducible exact pvq_best.mono _ _)
   | (with_reducible exact pvq_fair.mono _ _)
   | (with_reducible exact pvq_sizes.mono _ _)
   | (with_reducible exact LeO.refl _)
   | (with_reducible exact LeO.none _)
   | (with_reducible refine LeO.ite ?_ ?_)
   | (with_reducible refine LeO.bind ?_ (fun _ => ?_))
   | exact ih0 _ _ _
   | exact ih1 _ _ _ _ _ _ _
   | exact ih2 _ _ _ _ _ _ _ _ _ _
   | exact ih3 _ _ _ _
   | exact pvq_best.mono _ _
   | exact pvq_fair.mono _ _
   | exact pvq_sizes.mono _ _
   | exact LeO.none _
   | refine LeO.ite ?_ ?_
   | refine LeO.bind ?_ (fun _ => ?_)
  ·
   intro y0 y1 y2 y3 y4 y5 y6 y7 y8 y9
   unfold pvq_Search.l1
   repeat' first
   | (with_reducible exact ih0 _ _ _)
   | (with_reducible exact ih1 _ _ _ _ _ _ _)
   | (with_reducible exact ih2 _ _ _ _ _ _ _ _ _ _)
   | (with_reducible exact ih3 _ _ _ _)
   | (with_reducible exact pvq_best.mono _ _)
   | (with_reducible exact pvq_fair.mono _ _)
   | (with_reducible exact pvq_sizes.mono _ _)
   | (with_reducible exact LeO.refl _)
   | (with_reducible exact LeO.none _)
   | (with_reducible refine LeO.ite ?_ ?_)
   | (with_reducible refine LeO.bind ?_ (fun _ => ?_))
   | exact ih0 _ _ _
   | exact ih1 _ _ _ _ _ _ _
   | exact ih2 _ _ _ _ _ _ _ _ _ _
   | exact ih3 _ _ _ _
   | exact pvq_best.mono _ _
   | exact pvq_fair.mono _ _
   | exact pvq_sizes.mono _ _
   | exact LeO.none _
   | refine LeO.ite ?_ ?_
   | refine LeO.bind ?_ (fun _ => ?_)
  ·
   intro y0 y1 y2 y3
   unfold pvq_Search.l2
   repeat' first
   | (with_reducible exact ih0 _ _ _)
   | (with_reducible exact ih1 _ _ _ _ _ _ _)
   | (with_reducible exact ih2 _ _ _ _ _ _ _ _ _ _)
   | (with_reducible exact ih3 _ _ _ _)
   | (with_reducible exact pvq_best.mono _ _)
   | (with_reducible exact pvq_fair.mono _ _)
   | (with_reducible exact pvq_sizes.mono _ _)
   | (with_reducible exact LeO.refl _)
   | (with_reducible exact LeO.none _)
   | (with_reducible refine LeO.ite ?_ ?_)
   | (with_reducible refine LeO.bind ?_ (fun _ => ?_))
   | exact ih0 _ _ _
   | exact ih1 _ _ _ _ _ _ _
   | exact ih2 _ _ _ _ _ _ _ _ _ _
   | exact ih3 _ _ _ _
   | exact pvq_best.mono _ _
   | exact pvq_fair.mono _ _
   | exact pvq_sizes.mono _ _
   | exact LeO.none _
   | refine LeO.ite ?_ ?_
   | refine LeO.bind ?_ (fun _ => ?_)
theorem pvq_Search.mono : ∀ a0 a1 k, LeO (pvq_Search.f k a0 a1) (pvq_Search.f (k + 1) a0 a1) := by
 intro a0 a1 k
 obtain ⟨ih0, ih1, ih2, ih3⟩ := pvq_Search.mono_l k
 unfold pvq_Search.f
 repeat' first
   | (with_reducible exact ih0 _ _ _)
   | (with_reducible exact ih1 _ _ _ _ _ _ _)
   | (with_reducible exact ih2 _ _ _ _ _ _ _ _ _ _)
   | (with_reducible exact ih3 _ _ _ _)
   | (with_reducible exact pvq_best.mono _ _)
   | (with_reducible exact pvq_fair.mono _ _)
   | (with_reducible exact pvq_sizes.mono _ _)
   | (with_reducible exact LeO.refl _)
   | (with_reducible exact LeO.none _)
   | (with_reducible refine LeO.ite ?_ ?_)
   | (with_reducible refine LeO.bind ?_ (fun _ => ?_))
   | exact ih0 _ _ _
   | exact ih1 _ _ _ _ _ _ _
   | exact ih2 _ _ _ _ _ _ _ _ _ _
   | exact ih3 _ _ _ _
   | exact pvq_best.mono _ _
   | exact pvq_fair.mono _ _
   | exact pvq_sizes.mono _ _
   | exact LeO.none _
   | refine LeO.ite ?_ ?_
   | refine LeO.bind ?_ (fun _ => ?_)
def pvq_Search.T12 : Bool × List (List Nat × List Nat) := (true, [([], []), ([], []), ([], []), ([], []), ([], []), ([3, 4], [3, 4]), ([5], [5]), ([], []), ([], []), ([7, 8], [7, 8]), ([9], [9]), ([2, 6, 10], [2, 6, 10]), ([0, 1, 0, 1, 2, 3, 4, 5, 6, 7, 8, 9, 10, 11], [0, 1]), ([12, 11, 11, 0, 1, 2, 3, 4, 5, 6, 7, 8, 9, 10, 11], [11, 12])])
def pvq_Search.B12 : List Nat := [0, 0, 0, 0, 0, 24, 56, 0, 0, 384, 896, 2044, 4095, 8191]
theorem pvq_Search.tab12 : rtab .any (opsOf Try.f13 12) = pvq_Search.T12 := by kernel_rfl
theorem pvq_Search.bits12 : waitsOk pvq_Search.T12.2 pvq_Search.B12 = true := by kernel_rfl
set_option maxHeartbeats 8000000 in
set_option maxRecDepth 100000 in
theorem pvq_Search.calls (k : Nat) (A0 : Option Addr) (c0 : Nat) (l0 : List Int) (a1 : Int) (r1 : List Int) (r2 : Int) (w : World) (hr0 : Kd.C (Kd.int .i64) w A0 l0.length l0) (hc0 : l0.length ≤ c0) (h : pvq_Search.f k l0 a1 = some (r1, r2)) :
  Calls Try.prog 13 #[.slice A0 l0.length c0, .int .i64 a1] w fun e w' => ∃ v0_ : Value, e = .returned (.tuple #[v0_, .int .i64 r2]) ∧ Kd.R (Kd.int .i64) 3 w' w.heap.size (fun _ => True) v0_ r1 ∧ Below w.heap.size w w' := by
 have hu47 := Try.underlying47
 have HR0 := zm hr0
 have HC0 := zm hc0
 clear hr0 hc0
 have HB := zm (Below.refl w.heap.size w)
 have H : ((pvq_fair.f k l0).bind fun t122 => (if t122 = true then (if a1 < 0 then (pvq_Search.j0 k l0 a1 true) else (pvq_Search.j0 k l0 a1 (decide (a1 > 12)))) else (pvq_Search.j0 k l0 a1 true))) = some (r1, r2) := h
 clear h
 have HC3 := zm H
 clear H
 go_enter Try.func13, Try.ntmps13
 go_upto_region 1 with (fail)
 go_cut [25] (fun v25 wc => ∃ (kq : Nat) (x25_2 : Bool), v25 = .bool x25_2 ∧ Aside0 (pvq_Search.j0 kq l0 a1 x25_2 = some (r1, r2)) ∧ Aside0 (kq ≤ k) ∧ Aside0 (Below w.heap.size w wc))
 case first =>
  have H := HC3.out
  clear HC3
  replace H := Option.bind_eq_some_iff.mp H
  obtain ⟨t122, A40, H⟩ := H
  replace H : (if t122 = true then (if a1 < 0 then (pvq_Search.j0 k l0 a1 true) else (pvq_Search.j0 k l0 a1 (decide (a1 > 12)))) else (pvq_Search.j0 k l0 a1 true)) = some (r1, r2) := H
  have A4 := zm A40
  clear A40
  by_cases c5 : t122 = true
  ·
   subst c5
   have H1 : (if a1 < 0 then (pvq_Search.j0 k l0 a1 true) else (pvq_Search.j0 k l0 a1 (decide (a1 > 12)))) = some (r1, r2) := by rw [if_pos rfl] at H; exact H
   clear H
   have H := H1
   clear H1
   by_cases c6 : a1 < 0
   ·
    rw [if_pos c6] at H
    have c6b0 : decide (a1 < 0) = true := decide_eq_true c6
    clear c6
    (first | rw [c6b0] | (simp only [i64_w, i32_w]; rw [c6b0]) | skip)
    have H' := zm H
    clear H
    go_wp2_with (first | ((with_reducible refine gate_callee (f := 21) rfl ?_); refine goesL_ (some 16) rfl rfl Try.func21 (by kernel_rfl) rfl #[.slice A0 l0.length c0] rfl (by (try simp only [List.map_toArray, List.map_cons, List.map_nil]); first | done | rfl | (simp only [List.length_drop, List.length_take]; rfl)) ?_; (with_reducible refine (pvq_fair.calls k _ _ l0 true _ ?side1 ?side2 A4.out).mono ?_); (case side1 => repeat (first | exact (Kd.C_below HR0.out HB.out) | (with_reducible refine Kd.C_alloc ?_ _) | (with_reducible refine Kd.C_drewN ?_ _) | (with_reducible refine Kd.C_drew ?_))); (case side2 => exact HC0.out); rintro e w' ⟨rfl, ⟨nd, rfl⟩⟩; refine ⟨_, rfl, ?_⟩))
    go_meet
    case rel => exact ⟨_, (true), (by first | rfl | (simp; done) | (simp [*]; done)), H', ⟨by first | omega | exact Nat.le_refl _⟩, ⟨by repeat (first | (with_reducible first | exact HB.out | apply ze | apply zd | apply zf) | exact HB.out)⟩⟩
   ·
    rw [if_neg c6] at H
    have c6b0 : decide (a1 < 0) = false := decide_eq_false c6
    clear c6
    (first | rw [c6b0] | (simp only [i64_w, i32_w]; rw [c6b0]) | skip)
    have H' := zm H
    clear H
    go_wp2_with (first | ((with_reducible refine gate_callee (f := 21) rfl ?_); refine goesL_ (some 16) rfl rfl Try.func21 (by kernel_rfl) rfl #[.slice A0 l0.length c0] rfl (by (try simp only [List.map_toArray, List.map_cons, List.map_nil]); first | done | rfl | (simp only [List.length_drop, List.length_take]; rfl)) ?_; (with_reducible refine (pvq_fair.calls k _ _ l0 true _ ?side1 ?side2 A4.out).mono ?_); (case side1 => repeat (first | exact (Kd.C_below HR0.out HB.out) | (with_reducible refine Kd.C_alloc ?_ _) | (with_reducible refine Kd.C_drewN ?_ _) | (with_reducible refine Kd.C_drew ?_))); (case side2 => exact HC0.out); rintro e w' ⟨rfl, ⟨nd, rfl⟩⟩; refine ⟨_, rfl, ?_⟩))
    go_meet
    case rel => exact ⟨_, (decide (a1 > 12)), (by first | rfl | (simp; done) | (simp [*]; done)), H', ⟨by first | omega | exact Nat.le_refl _⟩, ⟨by repeat (first | (with_reducible first | exact HB.out | apply ze | apply zd | apply zf) | exact HB.out)⟩⟩
  ·
   replace c5 := Bool.eq_false_iff.mpr c5
   subst c5
   have H1 : (pvq_Search.j0 k l0 a1 true) = some (r1, r2) := by rw [if_neg (show ¬ (false = true) by decide)] at H; exact H
   clear H
   have H := H1
   clear H1
   have H' := zm H
   clear H
   go_wp2_with (first | ((with_reducible refine gate_callee (f := 21) rfl ?_); refine goesL_ (some 16) rfl rfl Try.func21 (by kernel_rfl) rfl #[.slice A0 l0.length c0] rfl (by (try simp only [List.map_toArray, List.map_cons, List.map_nil]); first | done | rfl | (simp only [List.length_drop, List.length_take]; rfl)) ?_; (with_reducible refine (pvq_fair.calls k _ _ l0 false _ ?side1 ?side2 A4.out).mono ?_); (case side1 => repeat (first | exact (Kd.C_below HR0.out HB.out) | (with_reducible refine Kd.C_alloc ?_ _) | (with_reducible refine Kd.C_drewN ?_ _) | (with_reducible refine Kd.C_drew ?_))); (case side2 => exact HC0.out); rintro e w' ⟨rfl, ⟨nd, rfl⟩⟩; refine ⟨_, rfl, ?_⟩))
   go_meet
   case rel => exact ⟨_, (true), (by first | rfl | (simp; done) | (simp [*]; done)), H', ⟨by first | omega | exact Nat.le_refl _⟩, ⟨by repeat (first | (with_reducible first | exact HB.out | apply ze | apply zd | apply zf) | exact HB.out)⟩⟩
 case rest =>
  clear HC3
  try clear c1
  try clear c2
  try clear p2
  try clear c5
  try clear c6
  try clear c6b0
  obtain ⟨kq, x25_2, rfl, HA, HJ2, HB⟩ := hcut
  cases kq with
  | zero => exact absurd HA.out (by simp [pvq_Search.j0])
  | succ kj2 =>
   have H := HA.out
   clear HA
   simp only [pvq_Search.j0] at H
   by_cases c7 : x25_2 = true
   ·
    subst c7
    have H1 : (some (([] : List Int), 1)) = some (r1, r2) := by rw [if_pos rfl] at H; exact H
    clear H
    have H := H1
    clear H1
    simp only [Option.some.injEq, Prod.mk.injEq] at H
    obtain ⟨rfl, rfl⟩ := H
    go_wp2
    go_ret2
    exact ⟨_, by first | rfl | (simp [errW_none, errW_some] <;> rfl) | (simp [*, errW_none, errW_some] <;> rfl), by first | exact Kd.R_nil _ _ _ _ _ | exact Kd.N_nil _ _ _ _ _ | exact Kd.V_nil _ _ _ _ _ | exact Kd.Q_nil _ _ _ _ _ | exact Kd.S_nil _ _ _ _ _, by repeat (first | (with_reducible first | exact HB.out | apply ze | apply zd | apply zf) | exact HB.out)⟩
   ·
    replace c7 := Bool.eq_false_iff.mpr c7
    subst c7
    have H1 : ((pvq_sizes.f kj2 l0).bind fun t123 => (if 0 ≤ (l0.length : Int) then (if ((l0.length : Int) : Int).toNat ≤ 35184372088832 then (pvq_Search.l0 kj2 l0 t123 (List.replicate ((l0.length : Int) : Int).toNat 0) a1 0 0 0) else (none)) else (none))) = some (r1, r2) := by rw [if_neg (show ¬ (false = true) by decide)] at H; exact H
    clear H
    have H := H1
    clear H1
    replace H := Option.bind_eq_some_iff.mp H
    obtain ⟨t123, A80, H⟩ := H
    replace H : (if 0 ≤ (l0.length : Int) then (if ((l0.length : Int) : Int).toNat ≤ 35184372088832 then (pvq_Search.l0 kj2 l0 t123 (List.replicate ((l0.length : Int) : Int).toNat 0) a1 0 0 0) else (none)) else (none)) = some (r1, r2) := H
    have A8 := zm A80
    clear A80
    by_cases c9 : 0 ≤ (l0.length : Int)
    ·
     rw [if_pos c9] at H
     have c9b0 := eq_true c9
     have c9b1 : decide (0 ≤ (l0.length : Int)) = true := decide_eq_true c9
     clear c9
     by_cases c10 : ((l0.length : Int) : Int).toNat ≤ 35184372088832
     ·
      rw [if_pos c10] at H
      have c10b0 := eq_true c10
      have c10b1 : decide (((l0.length : Int) : Int).toNat ≤ 35184372088832) = true := decide_eq_true c10
      clear c10
      obtain ⟨y126, hy126⟩ : ∃ y_ : List Int, y_ = (List.replicate ((l0.length : Int) : Int).toNat 0) := ⟨_, rfl⟩
      replace H : (pvq_Search.l0 kj2 l0 t123 y126 a1 0 0 0) = some (r1, r2) := by first | (rw [hy126]; with_reducible exact H) | (have H2_ := (Option.bind_some _ _).symm.trans H; rw [hy126]; with_reducible exact H2_) | (have H2_ := (Option.bind_some _ _).symm.trans H; with_reducible exact H2_) | with_reducible exact H | (rw [hy126]; exact H) | exact H
      have Ny126 := zm hy126
      clear hy126
      have H' := zm H
      clear H
      try go_wp2
      have n0_ := zm (zf HB.out)
      clear HB
      have HB := n0_
      clear n0_
      refine start_ (n := 7) (S := fun w' => True) (ds := []) #[false, false, false, false, false, false, false] (by kernel_rfl) rfl rfl trivial (fun hHeld => ?_)
      generalize wc.drew = w11 at HB hHeld ⊢
      refine pure_ (i := 0) (N := some 26) (v := ?_) (a' := ?_) #[true, false, false, false, false, false, false] rfl rfl (by kernel_rfl) (fun _ _ _ h => h) (Or.inl ⟨by rfl, ?_⟩) ?_ ?_
      rotate_left
      ·
       intro w'
       go_simp
       with_reducible rfl
      rotate_left
      ·
       simp only [Act.put, List.setIfInBounds_toArray, List.set_cons_zero, List.set_cons_succ, i64_w, i32_w]
       rfl
      refine pure_ (i := 2) (N := some 28) (v := ?_) (a' := ?_) #[true, false, true, false, false, false, false] rfl rfl (by kernel_rfl) (fun _ _ _ h => h) (Or.inl ⟨by rfl, ?_⟩) ?_ ?_
      rotate_left
      ·
       intro w'
       go_simp
       with_reducible rfl
      rotate_left
      ·
       simp only [Act.put, List.setIfInBounds_toArray, List.set_cons_zero, List.set_cons_succ, i64_w, i32_w]
       rfl
      refine pure_ (i := 3) (N := some 29) (v := ?_) (a' := ?_) #[true, false, true, true, false, false, false] rfl rfl (by kernel_rfl) (fun _ _ _ h => h) (Or.inl ⟨by rfl, ?_⟩) ?_ ?_
      rotate_left
      ·
       intro w'
       go_simp
       with_reducible rfl
      rotate_left
      ·
       simp only [Act.put, List.setIfInBounds_toArray, List.set_cons_zero, List.set_cons_succ, i64_w, i32_w]
       rfl
      refine join_ (σ := Value × Value) 1 #[true, true, true, true, true, true, false] (fun s_ => [(27, s_.1), (30, s_.2), (6, s_.1)]) (fun s_ w' => (Kd.R (Kd.int .i64) 2 w' w.heap.size (fun _ => True) s_.1 t123) ∧ (Kd.R (Kd.int .i64) 3 w' w.heap.size (fun _ => True) s_.2 y126) ∧ (Below w.heap.size w w')) ?_ ?_
      rotate_left
      ·
       intro hCont
       refine two_ (i := 1) (j := 4) (Ni := some 27) (Nj := some 30) #[true, true, true, true, false, false, false] #[true, false, true, true, true, false, false] rfl rfl rfl rfl (by kernel_rfl) (by decide) (by decide) (fun K hK => ?_) (fun K hK => ?_)
       ·
        skip
        refine goes_ Try.func23 (by kernel_rfl) rfl #[.slice A0 l0.length c0] (by rfl) rfl rfl (by (try simp only [List.map_toArray, List.map_cons, List.map_nil]); first | done | rfl | (simp only [List.length_drop, List.length_take]; rfl)) ?_
        with_reducible refine (pvq_sizes.calls kj2 _ _ l0 t123 _ ?side1 ?side2 A8.out).mono ?_
        (case side1 => repeat (first | exact (Kd.C_below HR0.out HB.out) | (with_reducible refine Kd.C_alloc ?_ _) | (with_reducible refine Kd.C_drewN ?_ _) | (with_reducible refine Kd.C_drew ?_)))
        (case side2 => exact HC0.out)
        rintro e w12 ⟨v124, rfl, ho0, hb⟩
        refine ⟨_, rfl, ?_⟩
        have n0_ := zm (Kd.R_lower ho0 (zE (by repeat (first | (with_reducible first | exact HB.out | apply ze | apply zd | apply zf) | exact HB.out))))
        have n1_ := zm (zJ (by repeat (first | (with_reducible first | exact HB.out | apply ze | apply zd | apply zf) | exact HB.out)) hb)
        clear HB
        have HO125 := n0_
        have HB := n1_
        clear n0_ n1_
        (try clear hb)
        (try clear hb2)
        (try clear hk)
        (try clear hi)
        (try clear ho0)
        refine hK.out _ _ trivial (fun hHeld => ?_)
        clear hK K
        refine norm_ (a' := ?_) ?_ ?_
        rotate_left
        ·
         show Act.put _ (some 27) _ = _
         simp only [Act.put, List.setIfInBounds_toArray, List.set_cons_zero, List.set_cons_succ, i64_w, i32_w]
         rfl
        refine pure_ (i := 5) (N := some 6) (v := ?_) (a' := ?_) #[true, true, true, true, false, true, false] rfl rfl (by kernel_rfl) (fun _ _ _ h => h) (Or.inl ⟨by rfl, ?_⟩) ?_ ?_
        rotate_left
        ·
         intro w'
         go_simp
         with_reducible rfl
        rotate_left
        ·
         simp only [Act.put, List.setIfInBounds_toArray, List.set_cons_zero, List.set_cons_succ, i64_w, i32_w]
         rfl
        refine one_ (i := 4) (N := some 30) #[true, true, true, true, true, true, false] rfl rfl (by kernel_rfl) (by decide) (fun K hK => ?_)
        refine Kd.R_make_step (Kd.int .i64) _ 3 (by rfl) (N := 30) rfl 30 _ _ rfl (l0.length : Int) rfl rfl Try.underlying30 (.int .i64 0) 8 info3 rfl (by decide) (by omega) 0 (ok := fun _ => True) (okp := fun _ => True) rfl (fun _ hk => hk) trivial (of_decide_eq_true (by first | (with_reducible assumption) | assumption)) (Nat.le_trans (Nat.mul_le_mul_right _ (of_decide_eq_true (by first | (with_reducible assumption) | assumption) : (l0.length : Int).toNat ≤ 35184372088832)) (by omega)) (Below.refl _ _) (Nat.le_refl _) ?_
        intro v127 w13 ho14 hb hg_ hnew_
        clear hg_ hnew_
        (first | rw [← Ny126.out] at ho14 | (simp only [Int.reduceToNat] at ho14; rw [← Ny126.out] at ho14))
        have n0_ := zm (Kd.R_below (by (with_reducible repeat (first | apply zo | apply zp | apply zq)); exact HO125.out) hb)
        have n1_ := zm (Kd.R_lower ho14 (zE (by repeat (first | (with_reducible first | exact HB.out | apply ze | apply zd | apply zf) | exact HB.out))))
        have n2_ := zm (zJ (by repeat (first | (with_reducible first | exact HB.out | apply ze | apply zd | apply zf) | exact HB.out)) hb)
        clear HO125
        clear HB
        have HO125 := n0_
        have HO128 := n1_
        have HB := n2_
        clear n0_ n1_ n2_
        clear hb ho14
        refine hK.out _ _ trivial (fun hHeld => ?_)
        clear hK K
        refine norm_ (a' := ?_) ?_ ?_
        rotate_left
        ·
         show Act.put _ (some 30) _ = _
         simp only [Act.put, List.setIfInBounds_toArray, List.set_cons_zero, List.set_cons_succ, i64_w, i32_w]
         rfl
        exact norm_ (by simp only [putAll, Act.put, List.setIfInBounds_toArray, List.set_cons_zero, List.set_cons_succ]) (hCont (v124, v127) _ ⟨(by (with_reducible repeat (first | apply zo | apply zp | apply zq)); exact HO125.out), (by (with_reducible repeat (first | apply zo | apply zp | apply zq)); exact HO128.out), (by repeat (first | (with_reducible first | exact HB.out | apply ze | apply zd | apply zf) | exact HB.out))⟩)
       ·
        skip
        refine Kd.R_make_step (Kd.int .i64) _ 3 (by rfl) (N := 30) rfl 30 _ _ rfl (l0.length : Int) rfl rfl Try.underlying30 (.int .i64 0) 8 info3 rfl (by decide) (by omega) 0 (ok := fun _ => True) (okp := fun _ => True) rfl (fun _ hk => hk) trivial (of_decide_eq_true (by first | (with_reducible assumption) | assumption)) (Nat.le_trans (Nat.mul_le_mul_right _ (of_decide_eq_true (by first | (with_reducible assumption) | assumption) : (l0.length : Int).toNat ≤ 35184372088832)) (by omega)) (Below.refl _ _) (Nat.le_refl _) ?_
        intro v127 w12 ho13 hb hg_ hnew_
        clear hg_ hnew_
        (first | rw [← Ny126.out] at ho13 | (simp only [Int.reduceToNat] at ho13; rw [← Ny126.out] at ho13))
        have n0_ := zm (Kd.R_lower ho13 (zE (by repeat (first | (with_reducible first | exact HB.out | apply ze | apply zd | apply zf) | exact HB.out))))
        have n1_ := zm (zJ (by repeat (first | (with_reducible first | exact HB.out | apply ze | apply zd | apply zf) | exact HB.out)) hb)
        clear HB
        have HO128 := n0_
        have HB := n1_
        clear n0_ n1_
        clear hb ho13
        refine hK.out _ _ trivial (fun hHeld => ?_)
        clear hK K
        refine norm_ (a' := ?_) ?_ ?_
        rotate_left
        ·
         show Act.put _ (some 30) _ = _
         simp only [Act.put, List.setIfInBounds_toArray, List.set_cons_zero, List.set_cons_succ, i64_w, i32_w]
         rfl
        refine one_ (i := 1) (N := some 27) #[true, true, true, true, true, false, false] rfl rfl (by kernel_rfl) (by decide) (fun K hK => ?_)
        refine goes_ Try.func23 (by kernel_rfl) rfl #[.slice A0 l0.length c0] (by rfl) rfl rfl (by (try simp only [List.map_toArray, List.map_cons, List.map_nil]); first | done | rfl | (simp only [List.length_drop, List.length_take]; rfl)) ?_
        with_reducible refine (pvq_sizes.calls kj2 _ _ l0 t123 _ ?side1 ?side2 A8.out).mono ?_
        (case side1 => repeat (first | exact (Kd.C_below HR0.out HB.out) | (with_reducible refine Kd.C_alloc ?_ _) | (with_reducible refine Kd.C_drewN ?_ _) | (with_reducible refine Kd.C_drew ?_)))
        (case side2 => exact HC0.out)
        rintro e w14 ⟨v124, rfl, ho0, hb⟩
        refine ⟨_, rfl, ?_⟩
        have n0_ := zm (Kd.R_below (by (with_reducible repeat (first | apply zo | apply zp | apply zq)); exact HO128.out) hb)
        have n1_ := zm (Kd.R_lower ho0 (zE (by repeat (first | (with_reducible first | exact HB.out | apply ze | apply zd | apply zf) | exact HB.out))))
        have n2_ := zm (zJ (by repeat (first | (with_reducible first | exact HB.out | apply ze | apply zd | apply zf) | exact HB.out)) hb)
        clear HO128
        clear HB
        have HO128 := n0_
        have HO125 := n1_
        have HB := n2_
        clear n0_ n1_ n2_
        (try clear hb)
        (try clear hb2)
        (try clear hk)
        (try clear hi)
        (try clear ho0)
        refine hK.out _ _ trivial (fun hHeld => ?_)
        clear hK K
        refine norm_ (a' := ?_) ?_ ?_
        rotate_left
        ·
         show Act.put _ (some 27) _ = _
         simp only [Act.put, List.setIfInBounds_toArray, List.set_cons_zero, List.set_cons_succ, i64_w, i32_w]
         rfl
        refine pure_ (i := 5) (N := some 6) (v := ?_) (a' := ?_) #[true, true, true, true, true, true, false] rfl rfl (by kernel_rfl) (fun _ _ _ h => h) (Or.inl ⟨by rfl, ?_⟩) ?_ ?_
        rotate_left
        ·
         intro w'
         go_simp
         with_reducible rfl
        rotate_left
        ·
         simp only [Act.put, List.setIfInBounds_toArray, List.set_cons_zero, List.set_cons_succ, i64_w, i32_w]
         rfl
        exact norm_ (by simp only [putAll, Act.put, List.setIfInBounds_toArray, List.set_cons_zero, List.set_cons_succ]) (hCont (v124, v127) _ ⟨(by (with_reducible repeat (first | apply zo | apply zp | apply zq)); exact HO125.out), (by (with_reducible repeat (first | apply zo | apply zp | apply zq)); exact HO128.out), (by repeat (first | (with_reducible first | exact HB.out | apply ze | apply zd | apply zf) | exact HB.out))⟩)
      rintro ⟨v124, v127⟩ w15 ⟨h0_, h1_, h2_⟩
      have n0_ : Aside0 (Kd.R (Kd.int .i64) 2 w15 w.heap.size (fun _ => True) v124 t123) := ⟨h0_⟩
      have n1_ : Aside0 (Kd.R (Kd.int .i64) 3 w15 w.heap.size (fun _ => True) v127 y126) := ⟨h1_⟩
      have n2_ : Aside0 (Below w.heap.size w w15) := ⟨h2_⟩
      clear HB
      clear h0_ h1_ h2_
      have HO125 := n0_
      have HO128 := n1_
      have HB := n2_
      clear n0_ n1_ n2_
      have hHeld := trivial
      refine norm_ (a' := ?_) ?_ ?_
      rotate_left
      ·
       simp only [putAll, Act.put, List.setIfInBounds_toArray, List.set_cons_zero, List.set_cons_succ]
       rfl
      refine pure_ (i := 6) (N := some 7) (v := ?_) (a' := ?_) #[true, true, true, true, true, true, true] rfl rfl (by kernel_rfl) (fun _ _ _ h => h) (Or.inl ⟨by rfl, ?_⟩) ?_ ?_
      rotate_left
      ·
       intro w'
       go_simp
       with_reducible rfl
      rotate_left
      ·
       simp only [Act.put, List.setIfInBounds_toArray, List.set_cons_zero, List.set_cons_succ, i64_w, i32_w]
       rfl
      refine done_ (by kernel_rfl) ?_
      try go_wp2_with (first | ((with_reducible refine gate_dst (N := 8) rfl ?_); refine box_event ?hg (N := 8) ?hd (cs := #[.int .i64 0, .int .i64 0]) (t := 47) ?hr ?_; (case hd => rfl); (case hg => rfl); (case hr => first | (go_simp; done) | (go_simp; rfl)); intro gb129 hg w16 hbox hb; have n0_ := zm (Kd.R_below (by (with_reducible repeat (first | apply zo | apply zp | apply zq)); exact HO125.out) hb); have n1_ := zm (Kd.R_below (by (with_reducible repeat (first | apply zo | apply zp | apply zq)); exact HO128.out) hb); have n2_ := zm (zJ (by repeat (first | (with_reducible first | exact HB.out | apply ze | apply zd | apply zf) | exact HB.out)) hb); have n3_ := zm (hbox); have n4_ := zm ((by rw [hg]; exact (zE (by repeat (first | (with_reducible first | exact HB.out | apply ze | apply zd | apply zf) | exact HB.out))) : w.heap.size ≤ gb129)); have n5_ := zm ((by rw [hg]; exact (zE (by repeat (first | (with_reducible first | exact HB.out | apply ze | apply zd | apply zf) | exact HB.out))) : w.heap.size ≤ gb129)); clear HO125; clear HO128; clear HB; have HO125 := n0_; have HO128 := n1_; have HB := n2_; have BK129 := n3_; have GW129 := n4_; have GE129 := n5_; clear n0_ n1_ n2_ n3_ n4_ n5_; clear hb hbox hg; have hcz17_0 : w16.cell? ⟨gb129, 0, none⟩ = some (.int .i64 0) := (zs BK129.out 0).trans rfl; have hcz17_1 : w16.cell? ⟨gb129, 1, none⟩ = some (.int .i64 0) := (zs BK129.out 1).trans rfl; have hfz17_0 := zx BK129.out 0; have hfz17_1 := zx BK129.out 1))
      go_loopg [9, 34] kj2 (fun kq v9 v34 w' => ∃ (x7_2 : List Int) (x34_2 : Int) (x130000_2 : Int) (x130001_2 : Int), v9 = .func (.func 24) #[.agg #[.int .i64 x130000_2, .int .i64 x130001_2]] #[] ∧ v34 = .int .i64 x34_2 ∧ Aside0 (pvq_Search.l0 kq l0 t123 x7_2 a1 x34_2 x130000_2 x130001_2 = some (r1, r2)) ∧ Aside0 (kq ≤ kj2) ∧ Aside0 (Kd.R (Kd.int .i64) 2 w' w.heap.size (fun _ => True) v124 t123) ∧ Aside0 (Kd.R (Kd.int .i64) 3 w' w.heap.size (fun _ => True) v127 x7_2) ∧ Aside0 (w'.heap[gb129]? = some (.cells #[.int .i64 x130000_2, .int .i64 x130001_2] 47 (0, 0))) ∧ Aside0 (Below w.heap.size w w'))
      case atStart => exact ⟨(y126), (0), (0), (0), (by first | rfl | (simp; done) | (simp [*]; done)), (by first | rfl | (simp; done) | (simp [*]; done)), H', ⟨Nat.le_refl _⟩, ⟨by (with_reducible repeat (first | apply zo | apply zp | apply zq)); exact HO125.out⟩, ⟨by (with_reducible repeat (first | apply zo | apply zp | apply zq)); exact HO128.out⟩, ⟨by (with_reducible repeat (first | refine zh ?_ _ | refine zj ?_ | refine zi ?_ _)); exact BK129.out⟩, ⟨by repeat (first | (with_reducible first | exact HB.out | apply ze | apply zd | apply zf | refine zk ?_ GE129.out) | exact HB.out)⟩⟩
      case round =>
       clear H'
       try clear c1
       try clear c2
       try clear p2
       try clear c5
       try clear c6
       try clear c6b0
       try clear c7
       try clear c9
       try clear c9b0
       try clear c9b1
       try clear c10
       try clear c10b0
       try clear c10b1
       try clear c13
       try clear hcz17_0
       try clear hcz17_1
       try clear hfz17_0
       try clear hfz17_1
       try clear p2
       obtain ⟨x7_2, x34_2, x130000_2, x130001_2, rfl, rfl, HA, HK2, HO_6, HO_7, BK129, HB⟩ := hrel
       cases gk with
       | zero => exact absurd HA.out (by simp [pvq_Search.l0])
       | succ k2 =>
        have H := HA.out
        clear HA
        simp only [pvq_Search.l0] at H
        by_cases c18 : x34_2 < a1
        ·
         rw [if_pos c18] at H
         have c18b0 : decide (x34_2 < a1) = true := decide_eq_true c18
         clear c18
         by_cases c19 : 0 ≤ (l0.length : Int)
         ·
          rw [if_pos c19] at H
          have c19b0 := eq_true c19
          have c19b1 : decide (0 ≤ (l0.length : Int)) = true := decide_eq_true c19
          clear c19
          by_cases c20 : ((l0.length : Int) : Int).toNat ≤ 17592186044416
          ·
           rw [if_pos c20] at H
           have c20b0 := eq_true c20
           have c20b1 : decide (((l0.length : Int) : Int).toNat ≤ 17592186044416) = true := decide_eq_true c20
           clear c20
           obtain ⟨y130, hy130⟩ : ∃ y_ : List (S47), y_ = (List.replicate ((l0.length : Int) : Int).toNat z47) := ⟨_, rfl⟩
           replace H : (pvq_Search.l1 k2 l0 t123 x7_2 y130 a1 x34_2 (y130.length : Int) 0 x130000_2 x130001_2) = some (r1, r2) := by first | (rw [hy130]; with_reducible exact H) | (have H2_ := (Option.bind_some _ _).symm.trans H; rw [hy130]; with_reducible exact H2_) | (have H2_ := (Option.bind_some _ _).symm.trans H; with_reducible exact H2_) | with_reducible exact H | (rw [hy130]; exact H) | exact H
           have Ny130 := zm hy130
           clear hy130
           have H' := zm H
           clear H
           go_wp2_with (first | ((with_reducible refine gate_dst (N := 38) rfl ?_); refine Kd.R_make k47 _ 47 rfl (N := 38) rfl 49 _ _ rfl (l0.length : Int) rfl rfl Try.underlying49 (.agg #[(.int .i64 0), (.int .i64 0)]) 16 info47 rfl (by decide) (by omega) z47 (ok := fun _ => True) (okp := fun _ => True) (k47_mkM _ _ _ z47 ) (fun _ hk => hk) trivial (of_decide_eq_true (by first | (with_reducible assumption) | assumption)) (Nat.le_trans (Nat.mul_le_mul_right _ (of_decide_eq_true (by first | (with_reducible assumption) | assumption) : (l0.length : Int).toNat ≤ 17592186044416)) (by omega)) (Below.refl _ _) (Nat.le_refl _) ?_; intro v131 w21 ho22 hb hg_ hnew_; clear hg_ hnew_; (first | rw [← Ny130.out] at ho22 | (simp only [Int.reduceToNat] at ho22; rw [← Ny130.out] at ho22)); have n0_ := zm (Kd.R_below (by (with_reducible repeat (first | apply zo | apply zp | apply zq)); exact HO_6.out) hb); have n1_ := zm (Kd.R_below (by (with_reducible repeat (first | apply zo | apply zp | apply zq)); exact HO_7.out) hb); have n2_ := zm (Kd.R_lower (Kd.R_newB ho22 (g := gb129) (o := .cells #[.int .i64 x130000_2, .int .i64 x130001_2] 47 (0, 0)) (by (with_reducible repeat (first | refine zh ?_ _ | refine zj ?_ | refine zi ?_ _)); exact BK129.out)) (zE (by repeat (first | (with_reducible first | exact HB.out | apply ze | apply zd | apply zf | refine zk ?_ GE129.out) | exact HB.out)))); have n3_ := zm (zF (g := gb129) (o := .cells #[.int .i64 x130000_2, .int .i64 x130001_2] 47 (0, 0)) (by (with_reducible repeat (first | refine zh ?_ _ | refine zj ?_ | refine zi ?_ _)); exact BK129.out) hb); have n4_ := zm (zJ (by repeat (first | (with_reducible first | exact HB.out | apply ze | apply zd | apply zf | refine zk ?_ GE129.out) | exact HB.out)) hb); clear HO_6; clear HO_7; clear BK129; clear HB; have HO_6 := n0_; have HO_7 := n1_; have HO132 := n2_; have BK129 := n3_; have HB := n4_; clear n0_ n1_ n2_ n3_ n4_; clear hb ho22; obtain ⟨Ao23, co23, eo23⟩ := Kd.R_slice HO132.out; subst eo23))
           go_loopg [41] k2 (fun kq v41 w' => ∃ (x10_3 : List (S47)) (x41_3 : Int) (x130000_3 : Int) (x130001_3 : Int), v41 = .int .i64 x41_3 ∧ Aside0 (x130000_3 = x130000_2) ∧ Aside0 (x130001_3 = x130001_2) ∧ Aside0 (pvq_Search.l1 kq l0 t123 x7_2 x10_3 a1 x34_2 (y130.length : Int) x41_3 x130000_3 x130001_3 = some (r1, r2)) ∧ Aside0 (kq ≤ k2) ∧ Aside0 (Kd.R (Kd.int .i64) 2 w' w.heap.size (fun _ => True) v124 t123) ∧ Aside0 (Kd.R (Kd.int .i64) 3 w' w.heap.size (fun _ => True) v127 x7_2) ∧ Aside0 (Kd.R k47 47 w' w.heap.size (fun k_ => k_ ≠ gb129) (.slice Ao23 y130.length co23) x10_3) ∧ Aside0 (w'.heap[gb129]? = some (.cells #[.int .i64 x130000_3, .int .i64 x130001_3] 47 (0, 0))) ∧ Aside0 (Below w.heap.size w w'))
           case atStart => exact ⟨(y130), (0), (x130000_2), (x130001_2), (by first | rfl | (simp; done) | (simp [*]; done)), ⟨rfl⟩, ⟨rfl⟩, H', ⟨Nat.le_refl _⟩, ⟨by (with_reducible repeat (first | apply zo | apply zp | apply zq)); exact HO_6.out⟩, ⟨by (with_reducible repeat (first | apply zo | apply zp | apply zq)); exact HO_7.out⟩, ⟨by (with_reducible repeat (first | apply zo | apply zp | apply zq)); exact zG HO132.out (fun _ hk => hk.2)⟩, ⟨by (with_reducible repeat (first | refine zh ?_ _ | refine zj ?_ | refine zi ?_ _)); exact BK129.out⟩, ⟨by repeat (first | (with_reducible first | exact HB.out | apply ze | apply zd | apply zf | refine zk ?_ GE129.out) | exact HB.out)⟩⟩
           case round =>
            clear H'
            try clear c1
            try clear c2
            try clear p2
            try clear c5
            try clear c6
            try clear c6b0
            try clear c7
            try clear c9
            try clear c9b0
            try clear c9b1
            try clear c10
            try clear c10b0
            try clear c10b1
            try clear c13
            try clear c18
            try clear c18b0
            try clear c19
            try clear c19b0
            try clear c19b1
            try clear c20
            try clear c20b0
            try clear c20b1
            try clear c21
            try clear c23
            try clear hcz17_0
            try clear hcz17_1
            try clear hfz17_0
            try clear hfz17_1
            try clear p2
            obtain ⟨x10_3, x41_3, x130000_3, x130001_3, rfl, hq0, hq1, HA, HK3, HO_6, HO_7, HO_10, BK129, HB⟩ := hrel
            have hl10_3 := (Kd.R_reads' HO_10.out).1
            rw [hl10_3] at HO_10
            (try simp only [hl10_3])
            (try simp only [hl10_3] at BK129)
            (try simp only [hl10_3] at HO_6)
            (try simp only [hl10_3] at HO_7)
            cases gk with
            | zero => exact absurd HA.out (by simp [pvq_Search.l1])
            | succ k3 =>
             have H := HA.out
             clear HA
             simp only [pvq_Search.l1] at H
             by_cases c24 : x41_3 < (y130.length : Int)
             ·
              rw [if_pos c24] at H
              have c24b0 : decide (x41_3 < (y130.length : Int)) = true := decide_eq_true c24
              clear c24
              by_cases c25 : 0 ≤ x41_3
              ·
               rw [if_pos c25] at H
               have c25b0 : decide (0 ≤ x41_3) = true := decide_eq_true c25
               clear c25
               by_cases c26 : x41_3 < (t123.length : Int)
               ·
                rw [if_pos c26] at H
                have c26b0 : decide (x41_3 < (t123.length : Int)) = true := decide_eq_true c26
                clear c26
                by_cases c27 : x41_3 < (x7_2.length : Int)
                ·
                 rw [if_pos c27] at H
                 have c27b0 : decide (x41_3 < (x7_2.length : Int)) = true := decide_eq_true c27
                 clear c27
                 replace H := Option.bind_eq_some_iff.mp H
                 obtain ⟨⟨t135, t136⟩, A280, H⟩ := H
                 replace H : (if x41_3 < (x10_3.length : Int) then (pvq_Search.l1 k3 l0 t123 x7_2 (x10_3.set (x41_3 : Int).toNat (⟨t135, t136⟩ : S47)) a1 x34_2 (y130.length : Int) (wrap64 (x41_3 + 1)) x130000_3 x130001_3) else (none)) = some (r1, r2) := H
                 have A28 := zm A280
                 clear A280
                 by_cases c29 : x41_3 < (x10_3.length : Int)
                 ·
                  rw [if_pos c29] at H
                  have c29b0 : decide (x41_3 < (x10_3.length : Int)) = true := decide_eq_true c29
                  clear c29
                  obtain ⟨y137, hy137⟩ : ∃ y_ : List (S47), y_ = (x10_3.set (x41_3 : Int).toNat (⟨t135, t136⟩ : S47)) := ⟨_, rfl⟩
                  replace H : (pvq_Search.l1 k3 l0 t123 x7_2 y137 a1 x34_2 (y130.length : Int) (wrap64 (x41_3 + 1)) x130000_3 x130001_3) = some (r1, r2) := by first | (rw [hy137]; with_reducible exact H) | (have H2_ := (Option.bind_some _ _).symm.trans H; rw [hy137]; with_reducible exact H2_) | (have H2_ := (Option.bind_some _ _).symm.trans H; with_reducible exact H2_) | with_reducible exact H | (rw [hy137]; exact H) | exact H
                  have Ny137 := zm hy137
                  clear hy137
                  have H' := zm H
                  clear H
                  try go_wp2
                  have n0_ := zm (zq HO_6.out)
                  have n1_ := zm (zq HO_7.out)
                  have n2_ := zm (zq HO_10.out)
                  have n3_ := zm (zj BK129.out)
                  have n4_ := zm (zf HB.out)
                  clear HO_6
                  clear HO_7
                  clear HO_10
                  clear BK129
                  clear HB
                  have HO_6 := n0_
                  have HO_7 := n1_
                  have HO_10 := n2_
                  have BK129 := n3_
                  have HB := n4_
                  clear n0_ n1_ n2_ n3_ n4_
                  obtain ⟨Ao32, co32, eo32⟩ := Kd.R_slice HO_6.out
                  (first | subst eo32 | (injection eo32 with f1_ f2_ f3_; have f4_ := f1_.symm; have f5_ := f3_.symm; clear f1_ f2_ f3_; subst f4_; subst f5_))
                  have p133 : 0 ≤ (x41_3 : Int) := of_decide_eq_true (by first | (with_reducible assumption) | assumption)
                  have q133 : x41_3 < (t123.length : Int) := of_decide_eq_true (by first | (with_reducible assumption) | assumption)
                  obtain ⟨ad133, e133, hx133_0⟩ := Kd.at_int (Kd.R_reads' HO_6.out).2.2 x41_3 p133 q133
                  cases e133
                  replace p133 := eq_true p133
                  replace q133 := eq_true q133
                  obtain ⟨Ao33, co33, eo33⟩ := Kd.R_slice HO_7.out
                  (first | subst eo33 | (injection eo33 with f1_ f2_ f3_; have f4_ := f1_.symm; have f5_ := f3_.symm; clear f1_ f2_ f3_; subst f4_; subst f5_))
                  have p134 : 0 ≤ (x41_3 : Int) := of_decide_eq_true (by first | (with_reducible assumption) | assumption)
                  have q134 : x41_3 < (x7_2.length : Int) := of_decide_eq_true (by first | (with_reducible assumption) | assumption)
                  obtain ⟨ad134, e134, hx134_0⟩ := Kd.at_int (Kd.R_reads' HO_7.out).2.2 x41_3 p134 q134
                  cases e134
                  replace p134 := eq_true p134
                  replace q134 := eq_true q134
                  refine start_ (n := 14) (S := fun w' => w'.cell? ⟨gb129, 0, none⟩ = some (.int .i64 x130000_3) ∧ w'.cell? ⟨gb129, 1, none⟩ = some (.int .i64 x130001_3) ∧ w'.cell? (ad133.add (x41_3).toNat) = some (.int .i64 (rd t123 x41_3)) ∧ w'.cell? (ad134.add (x41_3).toNat) = some (.int .i64 (rd x7_2 x41_3))) (ds := [13]) #[false, false, false, false, false, false, false, false, false, false, false, false, false, false] (by kernel_rfl) rfl rfl ⟨(zs BK129.out 0).trans rfl, (zs BK129.out 1).trans rfl, hx133_0, hx134_0⟩ (fun hHeld => ?_); refine with_tabW pvq_Search.tab12 pvq_Search.bits12 (fun HT_ HW_ => ?_)
                  generalize wr.drew = w31 at HO_6 HO_7 HO_10 BK129 HB hx133_0 hx134_0 hHeld ⊢
                  refine pure_ (i := 0) (N := some 44) (v := ?_) (a' := ?_) #[true, false, false, false, false, false, false, false, false, false, false, false, false, false] rfl rfl (any_of HT_.out (by kernel_rfl)) (fun _ _ _ h => h) (Or.inl ⟨by rfl, ?_⟩) ?_ ?_
                  rotate_left
                  ·
                   intro w'
                   go_simp
                   with_reducible rfl
                  rotate_left
                  ·
                   simp only [Act.put, List.setIfInBounds_toArray, List.set_cons_zero, List.set_cons_succ, i64_w, i32_w]
                   rfl
                  refine pure_ (i := 1) (N := some 45) (v := ?_) (a' := ?_) #[true, true, false, false, false, false, false, false, false, false, false, false, false, false] rfl rfl (any_of HT_.out (by kernel_rfl)) (fun _ _ _ h => h) (Or.inl ⟨by rfl, ?_⟩) ?_ ?_
                  rotate_left
                  ·
                   intro w'
                   go_simp
                   with_reducible rfl
                  rotate_left
                  ·
                   simp only [Act.put, List.setIfInBounds_toArray, List.set_cons_zero, List.set_cons_succ, i64_w, i32_w]
                   rfl
                  refine pure_ (i := 3) (N := some 47) (v := ?_) (a' := ?_) #[true, true, false, true, false, false, false, false, false, false, false, false, false, false] rfl rfl (any_of HT_.out (by kernel_rfl)) (fun _ _ _ h => h) (Or.inl ⟨by rfl, ?_⟩) ?_ ?_
                  rotate_left
                  ·
                   intro w'
                   go_simp
                   with_reducible rfl
                  rotate_left
                  ·
                   simp only [Act.put, List.setIfInBounds_toArray, List.set_cons_zero, List.set_cons_succ, i64_w, i32_w]
                   rfl
                  refine pure_ (i := 4) (N := some 48) (v := ?_) (a' := ?_) #[true, true, false, true, true, false, false, false, false, false, false, false, false, false] rfl rfl (any_of HT_.out (by kernel_rfl)) (fun _ _ _ h => h) (Or.inl ⟨by rfl, ?_⟩) ?_ ?_
                  rotate_left
                  ·
                   intro w'
                   go_simp
                   with_reducible rfl
                  rotate_left
                  ·
                   simp only [Act.put, List.setIfInBounds_toArray, List.set_cons_zero, List.set_cons_succ, i64_w, i32_w]
                   rfl
                  refine pure_ (i := 5) (N := some 49) (v := ?_) (a' := ?_) #[true, true, false, true, true, true, false, false, false, false, false, false, false, false] rfl rfl (any_of HT_.out (by kernel_rfl)) (fun _ _ _ h => h) (Or.inl ⟨by rfl, ?_⟩) ?_ ?_
                  rotate_left
                  ·
                   intro w'
                   go_simp
                   with_reducible rfl
                  rotate_left
                  ·
                   simp only [Act.put, List.setIfInBounds_toArray, List.set_cons_zero, List.set_cons_succ, i64_w, i32_w]
                   rfl
                  refine pure_ (i := 7) (N := some 51) (v := ?_) (a' := ?_) #[true, true, false, true, true, true, false, true, false, false, false, false, false, false] rfl rfl (any_of HT_.out (by kernel_rfl)) (fun _ _ _ h => h) (Or.inl ⟨by rfl, ?_⟩) ?_ ?_
                  rotate_left
                  ·
                   intro w'
                   go_simp
                   with_reducible rfl
                  rotate_left
                  ·
                   simp only [Act.put, List.setIfInBounds_toArray, List.set_cons_zero, List.set_cons_succ, i64_w, i32_w]
                   rfl
                  refine pure_ (i := 8) (N := some 52) (v := ?_) (a' := ?_) #[true, true, false, true, true, true, false, true, true, false, false, false, false, false] rfl rfl (any_of HT_.out (by kernel_rfl)) (fun _ _ _ h => h) (Or.inl ⟨by rfl, ?_⟩) ?_ ?_
                  rotate_left
                  ·
                   intro w'
                   go_simp
                   with_reducible rfl
                  rotate_left
                  ·
                   simp only [Act.put, List.setIfInBounds_toArray, List.set_cons_zero, List.set_cons_succ, i64_w, i32_w]
                   rfl
                  refine pure_ (i := 9) (N := some 53) (v := ?_) (a' := ?_) #[true, true, false, true, true, true, false, true, true, true, false, false, false, false] rfl rfl (any_of HT_.out (by kernel_rfl)) (fun _ _ _ h => h) (Or.inl ⟨by rfl, ?_⟩) ?_ ?_
                  rotate_left
                  ·
                   intro w'
                   go_simp
                   with_reducible rfl
                  rotate_left
                  ·
                   simp only [Act.put, List.setIfInBounds_toArray, List.set_cons_zero, List.set_cons_succ, i64_w, i32_w]
                   rfl
                  refine pure_ (i := 2) (N := some 46) (v := ?_) (a' := ?_) #[true, true, true, true, true, true, false, true, true, true, false, false, false, false] rfl rfl (any_of HT_.out (by kernel_rfl)) (fun _ _ _ h => h) (Or.inl ⟨by rfl, ?_⟩) ?_ ?_
                  rotate_left
                  ·
                   intro w'
                   go_simp
                   with_reducible rfl
                  rotate_left
                  ·
                   simp only [Act.put, List.setIfInBounds_toArray, List.set_cons_zero, List.set_cons_succ, i64_w, i32_w]
                   rfl
                  refine take_ (i := 6) (N := some 50) (v := ?_) (a' := ?_) #[true, true, true, true, true, true, true, true, true, true, false, false, false, false] rfl rfl (take_ofW HT_.out HW_.out (by kernel_rfl)) (fun _ _ _ h => h) (Or.inl ⟨by rfl, ?_⟩) hHeld ?_ ?_
                  rotate_left
                  ·
                   rintro w' ⟨s0, s1, s2, s3⟩
                   go_simp
                   with_reducible rfl
                  rotate_left
                  ·
                   simp only [Act.put, List.setIfInBounds_toArray, List.set_cons_zero, List.set_cons_succ, i64_w, i32_w]
                   rfl
                  refine take_ (i := 10) (N := some 54) (v := ?_) (a' := ?_) #[true, true, true, true, true, true, true, true, true, true, true, false, false, false] rfl rfl (take_ofW HT_.out HW_.out (by kernel_rfl)) (fun _ _ _ h => h) (Or.inl ⟨by rfl, ?_⟩) hHeld ?_ ?_
                  rotate_left
                  ·
                   rintro w' ⟨s0, s1, s2, s3⟩
                   go_simp
                   with_reducible rfl
                  rotate_left
                  ·
                   simp only [Act.put, List.setIfInBounds_toArray, List.set_cons_zero, List.set_cons_succ, i64_w, i32_w]
                   rfl
                  refine one_ (i := 11) (N := some 55) #[true, true, true, true, true, true, true, true, true, true, true, true, false, false] rfl rfl (one_of HT_.out (by kernel_rfl)) (by decide) (fun K hK => ?_)
                  refine call_ 24 #[.agg #[.int .i64 x130000_3, .int .i64 x130001_3], .int .i64 (rd t123 x41_3), .int .i64 (rd x7_2 x41_3)] (by rfl) rfl ?hrun ?_
                  (case hrun =>
                   have he := fun x W => enters_ Try.func24 (by kernel_rfl) rfl x W
                   rw [hq0.out, hq1.out]
                   unfold execOp
                   simp [resolve, Deferred.ofValue, invoke, Act.eval, he])
                  with_reducible refine (pvq_with.calls x130000_3 x130001_3 (rd t123 x41_3) (rd x7_2 x41_3) t135 t136 _ A28.out).mono ?_
                  rintro e w34 ⟨rfl, hb⟩
                  have HS2_ := (hb.cell (zb _ _ (hHeld.2.2.1))).trans (hHeld.2.2.1)
                  have HS3_ := (hb.cell (zb _ _ (hHeld.2.2.2))).trans (hHeld.2.2.2)
                  refine ⟨_, rfl, ?_⟩
                  have n0_ := zm (Kd.R_below (by (with_reducible repeat (first | apply zo | apply zp | apply zq)); exact HO_6.out) hb)
                  have n1_ := zm (Kd.R_below (by (with_reducible repeat (first | apply zo | apply zp | apply zq)); exact HO_7.out) hb)
                  have n2_ := zm (Kd.R_below (by (with_reducible repeat (first | apply zo | apply zp | apply zq)); exact HO_10.out) hb)
                  have n3_ := zm (zF (g := gb129) (o := .cells #[.int .i64 x130000_3, .int .i64 x130001_3] 47 (0, 0)) (by (with_reducible repeat (first | refine zh ?_ _ | refine zj ?_ | refine zi ?_ _)); exact BK129.out) hb)
                  have n4_ := zm (zJ (by repeat (first | (with_reducible first | exact HB.out | apply ze | apply zd | apply zf | refine zk ?_ GE129.out) | exact HB.out)) hb)
                  clear HO_6
                  clear HO_7
                  clear HO_10
                  clear BK129
                  clear HB
                  have HO_6 := n0_
                  have HO_7 := n1_
                  have HO_10 := n2_
                  have BK129 := n3_
                  have HB := n4_
                  clear n0_ n1_ n2_ n3_ n4_
                  (try clear hb)
                  (try clear hb2)
                  (try clear hk)
                  (try clear hi)
                  have p30 : 0 ≤ (x41_3 : Int) := of_decide_eq_true (by first | (with_reducible assumption) | assumption)
                  have q30 : (x41_3 : Int) < ((x10_3.length : Int) : Int) := of_decide_eq_true (by first | (with_reducible assumption) | assumption)
                  obtain ⟨go30, co30, eo30, gb30, gl30, cl30, HG30⟩ := Kd.R_form HO_10.out (by omega)
                  (first | cases eo30 | (injection eo30 with ea_ en_ ec_; (first | subst ea_ | (injection ea_ with ea_; subst ea_)); subst ec_; clear en_))
                  have GB30 := zm gb30
                  have GG30 := zm HG30
                  clear gb30 gl30 HG30
                  obtain ⟨ce30, hcl30, hM30, hcc30, hfr30⟩ := Kd.R_elem HO_10.out z47 (x41_3 : Int) p30 q30
                  obtain rfl := k47_openM hM30
                  have hx30_0 : World.cell? _ ⟨go30, (x41_3 : Int).toNat * 2, none⟩ = some (.int .i64 ((rd_T47 x10_3 x41_3).f0)) := hcc30 0 _ rfl
                  have hx30_1 : World.cell? _ ⟨go30, (x41_3 : Int).toNat * 2 + 1, none⟩ = some (.int .i64 ((rd_T47 x10_3 x41_3).f1)) := hcc30 1 _ rfl
                  have hf30_0 : World.frozen? _ ⟨go30, (x41_3 : Int).toNat * 2, none⟩ = false := hfr30 0
                  have hf30_1 : World.frozen? _ ⟨go30, (x41_3 : Int).toNat * 2 + 1, none⟩ = false := hfr30 1
                  clear hcl30 hcc30 hfr30 hM30
                  replace p30 := eq_true p30
                  replace q30 := eq_true q30
                  obtain ⟨ce35, hcl35, hM35, hcc35, hfr35⟩ := Kd.R_elem HO_10.out z47 (x41_3 : Int) (of_decide_eq_true (by first | (with_reducible assumption) | assumption)) (by have h_ : (x41_3 : Int) < ((x10_3.length : Int) : Int) := of_decide_eq_true (by first | (with_reducible assumption) | assumption); first | exact h_ | (have e_ := (Kd.R_reads' HO_10.out).1; omega) | simpa using h_)
                  obtain rfl := k47_openM hM35
                  have HP35 := (Kd.R_seg HO_10.out (x41_3 : Int) (of_decide_eq_true (by first | (with_reducible assumption) | assumption)) (by have h_ : (x41_3 : Int) < ((x10_3.length : Int) : Int) := of_decide_eq_true (by first | (with_reducible assumption) | assumption); first | exact h_ | (have e_ := (Kd.R_reads' HO_10.out).1; omega) | simpa using h_) (seg := [.int .i64 t135, .int .i64 t136]) (j := 0) hcl35 hcc35 (show 2 ≤ 2 from by decide) (x' := (⟨t135, t136⟩ : S47)) (k47_mkM _ _ _ (⟨t135, t136⟩ : S47) ) (fun _ hk => hk)).1
                  rw [← Ny137.out] at HP35
                  have HQ35 := zm HP35
                  clear hcl35 hcc35 hfr35 hM35 HP35
                  refine hK.out _ _ ⟨(zs BK129.out 0).trans rfl, (zs BK129.out 1).trans rfl, HS2_, HS3_⟩ (fun hHeld => ?_)
                  clear hK K
                  refine norm_ (a' := ?_) ?_ ?_
                  rotate_left
                  ·
                   show Act.put _ (some 55) _ = _
                   simp only [Act.put, List.setIfInBounds_toArray, List.set_cons_zero, List.set_cons_succ, i64_w, i32_w]
                   rfl
                  refine pure_ (i := 12) (N := some 56) (v := ?_) (a' := ?_) #[true, true, true, true, true, true, true, true, true, true, true, true, true, false] rfl rfl (any_of HT_.out (by kernel_rfl)) (fun _ _ _ h => h) (Or.inl ⟨by rfl, ?_⟩) ?_ ?_
                  rotate_left
                  ·
                   intro w'
                   go_simp
                   with_reducible rfl
                  rotate_left
                  ·
                   simp only [Act.put, List.setIfInBounds_toArray, List.set_cons_zero, List.set_cons_succ, i64_w, i32_w]
                   rfl
                  refine last_ (i := 13) (N := none) #[true, true, true, true, true, true, true, true, true, true, true, true, true, true] rfl rfl (one_of HT_.out (by kernel_rfl)) (by decide) (fun K hK => ?_)
                  refine skip_ (w1 := ?_) (by rfl) rfl ?_ ?_
                  rotate_left
                  ·
                   go_simp
                   rfl
                  refine hK.out _ _ ?_
                  clear hK K
                  refine done_ (done_of HT_.out (by kernel_rfl)) ?_
                  try go_wp2
                  (try simp only [← hl10_3])
                  go_roundg k3
                  case measure => have := HJ2.out; have := HK2.out; have := HK3.out; omega
                  case rel => exact ⟨(y137), (wrap64 (x41_3 + 1)), (x130000_3), (x130001_3), (by first | rfl | (simp; done) | (simp [*]; done)), hq0, hq1, H', ⟨by have := HJ2.out; have := HK2.out; have := HK3.out; omega⟩, ⟨by (try simp only [hl10_3]); (with_reducible repeat (first | apply zo | apply zp | apply zq)); exact zG (zH (p := ⟨go30, (x41_3 : Int).toNat * 2 + 1, none⟩) (zH (p := ⟨go30, (x41_3 : Int).toNat * 2, none⟩) (Kd.R_types HO_6.out GG30.out (by decide)) (fun _ hk => hk.2) (.int .i64 t135)) (fun _ hk => hk.2) (.int .i64 t136)) (fun _ hk => trivial)⟩, ⟨by (try simp only [hl10_3]); (with_reducible repeat (first | apply zo | apply zp | apply zq)); exact zG (zH (p := ⟨go30, (x41_3 : Int).toNat * 2 + 1, none⟩) (zH (p := ⟨go30, (x41_3 : Int).toNat * 2, none⟩) (Kd.R_types HO_7.out GG30.out (by decide)) (fun _ hk => hk.2) (.int .i64 t135)) (fun _ hk => hk.2) (.int .i64 t136)) (fun _ hk => trivial)⟩, ⟨by (try simp only [hl10_3]); (with_reducible repeat (first | apply zo | apply zp | apply zq)); exact HQ35.out⟩, ⟨by (try simp only [hl10_3]); (with_reducible repeat (first | refine zh ?_ _ | refine zj ?_ | refine zi ?_ _)); refine zv ?_ (by have h_ := Kd.R_away HO_10.out (fun _ hk => hk); intro e_; exact h_ (by rw [e_]; rfl)) _; (with_reducible repeat (first | refine zh ?_ _ | refine zj ?_ | refine zi ?_ _)); refine zv ?_ (by have h_ := Kd.R_away HO_10.out (fun _ hk => hk); intro e_; exact h_ (by rw [e_]; rfl)) _; (with_reducible repeat (first | refine zh ?_ _ | refine zj ?_ | refine zi ?_ _)); exact BK129.out⟩, ⟨by repeat (first | (with_reducible first | exact HB.out | apply ze | apply zd | apply zf | refine zk ?_ GB30.out | refine zk ?_ GB30.out | refine zk ?_ GE129.out) | exact HB.out)⟩⟩
                 ·
                  rw [if_neg c29] at H
                  exact absurd H (by simp)
                ·
                 rw [if_neg c27] at H
                 exact absurd H (by simp)
               ·
                rw [if_neg c26] at H
                exact absurd H (by simp)
              ·
               rw [if_neg c25] at H
               exact absurd H (by simp)
             ·
              rw [if_neg c24] at H
              have c24b0 : decide (x41_3 < (y130.length : Int)) = false := decide_eq_false c24
              have c24x0 : decide (x41_3 < (x10_3.length : Int)) = false := by rw [← hl10_3]; exact c24b0
              clear c24
              replace H := Option.bind_eq_some_iff.mp H
              obtain ⟨t138, A360, H⟩ := H
              replace H : (if 0 ≤ t138 then (if t138 < (x10_3.length : Int) then (if t138 < (x7_2.length : Int) then (pvq_Search.l0 k3 l0 t123 (x7_2.set (t138 : Int).toNat (wrap64 ((rd x7_2 t138) + 1))) a1 (wrap64 (x34_2 + 1)) ((rd_T47 x10_3 t138).f0) ((rd_T47 x10_3 t138).f1)) else (none)) else (none)) else (none)) = some (r1, r2) := H
              have A36 := zm A360
              clear A360
              by_cases c37 : 0 ≤ t138
              ·
               rw [if_pos c37] at H
               have c37b0 : decide (0 ≤ t138) = true := decide_eq_true c37
               clear c37
               by_cases c38 : t138 < (x10_3.length : Int)
               ·
                rw [if_pos c38] at H
                have c38b0 : decide (t138 < (x10_3.length : Int)) = true := decide_eq_true c38
                clear c38
                by_cases c39 : t138 < (x7_2.length : Int)
                ·
                 rw [if_pos c39] at H
                 have c39b0 : decide (t138 < (x7_2.length : Int)) = true := decide_eq_true c39
                 clear c39
                 obtain ⟨y141, hy141⟩ : ∃ y_ : List Int, y_ = (x7_2.set (t138 : Int).toNat (wrap64 ((rd x7_2 t138) + 1))) := ⟨_, rfl⟩
                 replace H : (pvq_Search.l0 k3 l0 t123 y141 a1 (wrap64 (x34_2 + 1)) ((rd_T47 x10_3 t138).f0) ((rd_T47 x10_3 t138).f1)) = some (r1, r2) := by first | (rw [hy141]; with_reducible exact H) | (have H2_ := (Option.bind_some _ _).symm.trans H; rw [hy141]; with_reducible exact H2_) | (have H2_ := (Option.bind_some _ _).symm.trans H; with_reducible exact H2_) | with_reducible exact H | (rw [hy141]; exact H) | exact H
                 have Ny141 := zm hy141
                 clear hy141
                 have H' := zm H
                 clear H
                 go_wp2_with (first | ((with_reducible refine gate_callee (f := 25) rfl ?_); refine goesL_ (some 59) rfl rfl Try.func25 (by kernel_rfl) rfl #[.slice Ao23 x10_3.length co23] rfl (by (try simp only [List.map_toArray, List.map_cons, List.map_nil]); first | done | rfl | (simp only [List.length_drop, List.length_take]; rfl)) ?_; (with_reducible refine (pvq_best.calls k3 _ _ x10_3 t138 _ ?side1 ?side2 A36.out).mono ?_); (case side1 => repeat (first | exact (Kd.R_reads' HO_10.out).2.2 | (with_reducible refine Kd.C_alloc ?_ _) | (with_reducible refine Kd.C_drewN ?_ _) | (with_reducible refine Kd.C_drew ?_))); (case side2 => exact (Kd.R_reads' HO_10.out).2.1); rintro e w41 ⟨rfl, hb⟩; refine ⟨_, rfl, ?_⟩; have n0_ := zm (Kd.R_below (by (with_reducible repeat (first | apply zo | apply zp | apply zq)); exact HO_6.out) hb); have n1_ := zm (Kd.R_below (by (with_reducible repeat (first | apply zo | apply zp | apply zq)); exact HO_7.out) hb); have n2_ := zm (Kd.R_below (by (with_reducible repeat (first | apply zo | apply zp | apply zq)); exact HO_10.out) hb); have n3_ := zm (zF (g := gb129) (o := .cells #[.int .i64 x130000_3, .int .i64 x130001_3] 47 (0, 0)) (by (with_reducible repeat (first | refine zh ?_ _ | refine zj ?_ | refine zi ?_ _)); exact BK129.out) hb); have n4_ := zm (zJ (by repeat (first | (with_reducible first | exact HB.out | apply ze | apply zd | apply zf | refine zk ?_ GE129.out) | exact HB.out)) hb); clear HO_6; clear HO_7; clear HO_10; clear BK129; clear HB; have HO_6 := n0_; have HO_7 := n1_; have HO_10 := n2_; have BK129 := n3_; have HB := n4_; clear n0_ n1_ n2_ n3_ n4_; (try clear hb); (try clear hb2); (try clear hk); (try clear hi); have p139 : 0 ≤ (t138 : Int) := of_decide_eq_true (by first | (with_reducible assumption) | assumption); have q139 : t138 < (x10_3.length : Int) := of_decide_eq_true (by first | (with_reducible assumption) | assumption); obtain ⟨ad139, e139, hx139_0, hx139_1⟩ := at_T47 (Kd.R_reads' HO_10.out).2.2 t138 p139 q139; cases e139; replace p139 := eq_true p139; replace q139 := eq_true q139; have hcz42_0 : w41.cell? ⟨gb129, 0, none⟩ = some (.int .i64 x130000_3) := (zs BK129.out 0).trans rfl; have hcz42_1 : w41.cell? ⟨gb129, 1, none⟩ = some (.int .i64 x130001_3) := (zs BK129.out 1).trans rfl; have hfz42_0 := zx BK129.out 0; have hfz42_1 := zx BK129.out 1) | ((with_reducible refine gate_store (t := 47) (p := 8) rfl ?_); refine store_event (t := 47) (p := 8) (v := ?vo_w43) (w1 := ((w41.setCell ⟨gb129, 0, none⟩ (.int .i64 ((rd_T47 x10_3 t138).f0))).setCell ⟨gb129, 1, none⟩ (.int .i64 ((rd_T47 x10_3 t138).f1)))) ?hg ?ho ?hn ?hr ?_; (case ho => rfl); (case hg => rfl); (case hn => rfl); (case hr => first | (go_simp; done) | (go_simp; rfl)); intro w43 hw; have n0_ : Aside0 (Kd.R (Kd.int .i64) 2 w43 w.heap.size (fun _ => True) v124 t123) := ⟨(by rw [hw]; exact (by (with_reducible repeat (first | apply zo | apply zp | apply zq)); exact zG (zH (p := ⟨gb129, 1, none⟩) (zH (p := ⟨gb129, 0, none⟩) (Kd.R_types HO_6.out BK129.out (by decide)) (fun _ hk => hk.2) (.int .i64 ((rd_T47 x10_3 t138).f0))) (fun _ hk => hk.2) (.int .i64 ((rd_T47 x10_3 t138).f1))) (fun _ hk => trivial)))⟩; have n1_ : Aside0 (Kd.R (Kd.int .i64) 3 w43 w.heap.size (fun _ => True) v127 x7_2) := ⟨(by rw [hw]; exact (by (with_reducible repeat (first | apply zo | apply zp | apply zq)); exact zG (zH (p := ⟨gb129, 1, none⟩) (zH (p := ⟨gb129, 0, none⟩) (Kd.R_types HO_7.out BK129.out (by decide)) (fun _ hk => hk.2) (.int .i64 ((rd_T47 x10_3 t138).f0))) (fun _ hk => hk.2) (.int .i64 ((rd_T47 x10_3 t138).f1))) (fun _ hk => trivial)))⟩; have n2_ : Aside0 (Kd.R k47 47 w43 w.heap.size (fun k_ => k_ ≠ gb129) (.slice (some ad139) x10_3.length co23) x10_3) := ⟨(by rw [hw]; exact (by (with_reducible repeat (first | apply zo | apply zp | apply zq)); exact zG (zH (p := ⟨gb129, 1, none⟩) (zH (p := ⟨gb129, 0, none⟩) (zG HO_10.out (fun k_ hk => (⟨hk, hk⟩ : _ ∧ k_ ≠ gb129))) (fun _ hk => hk.2) (.int .i64 ((rd_T47 x10_3 t138).f0))) (fun _ hk => hk.2) (.int .i64 ((rd_T47 x10_3 t138).f1))) (fun _ hk => hk.1)))⟩; have n3_ : Aside0 (w43.heap[gb129]? = some (.cells #[.int .i64 ((rd_T47 x10_3 t138).f0), .int .i64 ((rd_T47 x10_3 t138).f1)] 47 (0, 0))) := ⟨(by rw [hw]; exact (by (with_reducible repeat (first | refine zh ?_ _ | refine zj ?_ | refine zi ?_ _)); refine zw (cs := #[.int .i64 ((rd_T47 x10_3 t138).f0), .int .i64 x130001_3]) ?_ 1 _ rfl; (with_reducible repeat (first | refine zh ?_ _ | refine zj ?_ | refine zi ?_ _)); refine zw (cs := #[.int .i64 x130000_3, .int .i64 x130001_3]) ?_ 0 _ rfl; (with_reducible repeat (first | refine zh ?_ _ | refine zj ?_ | refine zi ?_ _)); exact BK129.out))⟩; have n4_ : Aside0 (Below w.heap.size w w43) := ⟨(by rw [hw]; exact (by repeat (first | (with_reducible first | exact HB.out | apply ze | apply zd | apply zf | refine zk ?_ GE129.out) | exact HB.out)))⟩; clear hw; clear HO_6; clear HO_7; clear HO_10; clear BK129; clear HB; have HO_6 := n0_; have HO_7 := n1_; have HO_10 := n2_; have BK129 := n3_; have HB := n4_; clear n0_ n1_ n2_ n3_ n4_; have hcz44_0 : w43.cell? ⟨gb129, 0, none⟩ = some (.int .i64 ((rd_T47 x10_3 t138).f0)) := (zs BK129.out 0).trans rfl; have hcz44_1 : w43.cell? ⟨gb129, 1, none⟩ = some (.int .i64 ((rd_T47 x10_3 t138).f1)) := (zs BK129.out 1).trans rfl; have hfz44_0 := zx BK129.out 0; have hfz44_1 := zx BK129.out 1; obtain ⟨Ao45, co45, eo45⟩ := Kd.R_slice HO_7.out; subst eo45; have p140 : 0 ≤ (t138 : Int) := of_decide_eq_true (by first | (with_reducible assumption) | assumption); have q140 : t138 < (x7_2.length : Int) := of_decide_eq_true (by first | (with_reducible assumption) | assumption); obtain ⟨ad140, e140, hx140_0⟩ := Kd.at_int (Kd.R_reads' HO_7.out).2.2 t138 p140 q140; cases e140; replace p140 := eq_true p140; replace q140 := eq_true q140; have p40 : 0 ≤ (t138 : Int) := of_decide_eq_true (by first | (with_reducible assumption) | assumption); have q40 : (t138 : Int) < ((x7_2.length : Int) : Int) := of_decide_eq_true (by first | (with_reducible assumption) | assumption); obtain ⟨go40, co40, eo40, gb40, gl40, cl40, HG40⟩ := Kd.R_form HO_7.out (by omega); (first | cases eo40 | (injection eo40 with ea_ en_ ec_; (first | subst ea_ | (injection ea_ with ea_; subst ea_)); subst ec_; clear en_)); have GB40 := zm gb40; have GG40 := zm HG40; clear gb40 gl40 HG40; (first | simp only [add_plain] at hx140_0 | skip); obtain ⟨hx40_0, hf40_0⟩ := Kd.R_celln 0 HO_7.out (t138 : Int) p40 q40; replace p40 := eq_true p40; replace q40 := eq_true q40; obtain ⟨hy46_, hz46_⟩ := Kd.R_celln 0 HO_7.out (t138 : Int) (of_decide_eq_true (by first | (with_reducible assumption) | assumption)) (of_decide_eq_true (by first | (with_reducible assumption) | assumption)); have HP46 := Kd.R_putg HO_7.out (t138 : Int) (wrap64 ((rd x7_2 t138) + 1))) | ((with_reducible refine gate_store (t := 3) (p := 71) rfl ?_); refine store_event (t := 3) (p := 71) (v := ?vo_w47) (w1 := (w43.setCell ⟨go40, (t138 : Int).toNat, none⟩ (.int .i64 (wrap64 ((rd x7_2 t138) + 1))))) ?hg ?ho ?hn ?hr ?_; (case ho => rfl); (case hg => rfl); (case hn => rfl); (case hr => first | (go_simp; done) | (go_simp; rfl)); intro w47 hw; have hg : w43.grownBy w47 (some go40) := (by rw [hw]; exact HP46.2); have hp_ : Kd.R (Kd.int .i64) 3 w47 w.heap.size (fun _ => True) (.slice (some ⟨go40, 0, none⟩) x7_2.length co45) y141 := (by rw [hw, Ny141.out]; exact HP46.1); clear HP46; have n0_ := zm (Kd.R_over' (v := (.slice (some ⟨go40, 0, none⟩) x7_2.length co45)) (by (with_reducible repeat (first | apply zo | apply zp | apply zq)); exact HO_6.out) (Kd.R_typed HO_7.out) (by decide) hg); have n1_ := zm (hp_); have n2_ := zm (Kd.R_over' (v := (.slice (some ⟨go40, 0, none⟩) x7_2.length co45)) (by (with_reducible repeat (first | apply zo | apply zp | apply zq)); exact HO_10.out) (Kd.R_typed HO_7.out) (by decide) hg); have n3_ := zm (blk_grown (g := gb129) (o := .cells #[.int .i64 ((rd_T47 x10_3 t138).f0), .int .i64 ((rd_T47 x10_3 t138).f1)] 47 (0, 0)) (by (with_reducible repeat (first | refine zh ?_ _ | refine zj ?_ | refine zi ?_ _)); exact BK129.out) hg (zu HO_7.out BK129.out (by decide))); have n4_ := zm ((by rw [hw]; exact zk (HB.out) GB40.out : Below w.heap.size w w47)); clear HO_6; clear HO_7; clear HO_10; clear BK129; clear HB; have HO_6 := n0_; have HO_7 := n1_; have HO_10 := n2_; have BK129 := n3_; have HB := n4_; clear n0_ n1_ n2_ n3_ n4_; clear hg hw hp_))
                 (try simp only [← hl10_3])
                 go_roundg k3
                 case measure => have := HJ2.out; have := HK2.out; have := HK3.out; omega
                 case rel => exact ⟨(y141), (wrap64 (x34_2 + 1)), ((rd_T47 x10_3 t138).f0), ((rd_T47 x10_3 t138).f1), (by first | rfl | (simp; done) | (simp [*]; done)), (by first | rfl | (simp; done) | (simp [*]; done)), H', ⟨by have := HJ2.out; have := HK2.out; have := HK3.out; omega⟩, ⟨by (try simp only [hl10_3]); (with_reducible repeat (first | apply zo | apply zp | apply zq)); exact HO_6.out⟩, ⟨by (try simp only [hl10_3]); (with_reducible repeat (first | apply zo | apply zp | apply zq)); exact HO_7.out⟩, ⟨by (try simp only [hl10_3]); (with_reducible repeat (first | refine zh ?_ _ | refine zj ?_ | refine zi ?_ _)); exact BK129.out⟩, ⟨by repeat (first | (with_reducible first | exact HB.out | apply ze | apply zd | apply zf | refine zk ?_ GE129.out) | exact HB.out)⟩⟩
                ·
                 rw [if_neg c39] at H
                 exact absurd H (by simp)
               ·
                rw [if_neg c38] at H
                exact absurd H (by simp)
              ·
               rw [if_neg c37] at H
               exact absurd H (by simp)
          ·
           rw [if_neg c20] at H
           exact absurd H (by simp)
         ·
          rw [if_neg c19] at H
          exact absurd H (by simp)
        ·
         rw [if_neg c18] at H
         have c18b0 : decide (x34_2 < a1) = false := decide_eq_false c18
         clear c18
         have H' := zm H
         clear H
         go_wp2
         go_loopg [75] k2 (fun kq v75 w' => ∃ (x7_3 : List Int) (x75_3 : Int), v75 = .int .i64 x75_3 ∧ Aside0 (pvq_Search.l2 kq x7_3 l0 (l0.length : Int) x75_3 = some (r1, r2)) ∧ Aside0 (kq ≤ k2) ∧ Aside0 (Kd.R (Kd.int .i64) 3 w' w.heap.size (fun _ => True) v127 x7_3) ∧ Aside0 (w'.heap[gb129]? = some (.cells #[.int .i64 x130000_2, .int .i64 x130001_2] 47 (0, 0))) ∧ Aside0 (Below w.heap.size w w'))
         case atStart => exact ⟨(x7_2), (0), (by first | rfl | (simp; done) | (simp [*]; done)), H', ⟨Nat.le_refl _⟩, ⟨by (with_reducible repeat (first | apply zo | apply zp | apply zq)); exact HO_7.out⟩, ⟨by (with_reducible repeat (first | refine zh ?_ _ | refine zj ?_ | refine zi ?_ _)); exact BK129.out⟩, ⟨by repeat (first | (with_reducible first | exact HB.out | apply ze | apply zd | apply zf | refine zk ?_ GE129.out) | exact HB.out)⟩⟩
         case round =>
          clear H'
          try clear c1
          try clear p1
          try clear q1
          try clear hx1
          try clear c2
          try clear p2
          try clear c3
          try clear p3
          try clear q3
          try clear hx3
          try clear hf3
          try clear p4
          try clear q4
          try clear hx4
          try clear hf4
          try clear c5
          try clear c6
          try clear c6b0
          try clear p6
          try clear c7
          try clear c9
          try clear c9b0
          try clear c9b1
          try clear c10
          try clear c10b0
          try clear c10b1
          try clear c13
          try clear p13
          try clear q13
          try clear hx13
          try clear p14
          try clear q14
          try clear hx14
          try clear c18
          try clear c18b0
          try clear c19
          try clear c19b0
          try clear c19b1
          try clear c20
          try clear c20b0
          try clear c20b1
          try clear c21
          try clear c23
          try clear c24
          try clear c24b0
          try clear c25
          try clear c25b0
          try clear c26
          try clear c26b0
          try clear c27
          try clear c27b0
          try clear c29
          try clear c29b0
          try clear c30
          try clear p30
          try clear q30
          try clear hx30
          try clear hf30
          try clear c35
          try clear c37
          try clear c37b0
          try clear c38
          try clear c38b0
          try clear c39
          try clear c39b0
          try clear p40
          try clear q40
          try clear hx40
          try clear hf40
          try clear hcz17_0
          try clear hcz17_1
          try clear hcz42_0
          try clear hcz42_1
          try clear hcz44_0
          try clear hcz44_1
          try clear hfz17_0
          try clear hfz17_1
          try clear hfz42_0
          try clear hfz42_1
          try clear hfz44_0
          try clear hfz44_1
          try clear hx133_0
          try clear hx134_0
          try clear hx139_0
          try clear hx139_1
          try clear hx140_0
          try clear hx30_0
          try clear hx30_1
          try clear hx40_0
          try clear p133
          try clear p134
          try clear p139
          try clear p140
          try clear p2
          try clear p30
          try clear p40
          try clear q133
          try clear q134
          try clear q139
          try clear q140
          try clear q30
          try clear q40
          obtain ⟨x7_3, x75_3, rfl, HA, HK3, HO_7, BK129, HB⟩ := hrel
          cases gk with
          | zero => exact absurd HA.out (by simp [pvq_Search.l2])
          | succ k3 =>
           have H := HA.out
           clear HA
           simp only [pvq_Search.l2] at H
           by_cases c48 : x75_3 < (l0.length : Int)
           ·
            rw [if_pos c48] at H
            have c48b0 : decide (x75_3 < (l0.length : Int)) = true := decide_eq_true c48
            clear c48
            by_cases c49 : 0 ≤ x75_3
            ·
             rw [if_pos c49] at H
             have c49b0 : decide (0 ≤ x75_3) = true := decide_eq_true c49
             clear c49
             by_cases c50 : x75_3 < (l0.length : Int)
             ·
              rw [if_pos c50] at H
              have c50b0 : decide (x75_3 < (l0.length : Int)) = true := decide_eq_true c50
              clear c50
              by_cases c51 : (rd l0 x75_3) < 0
              ·
               rw [if_pos c51] at H
               have c51b0 : decide ((rd l0 x75_3) < 0) = true := decide_eq_true c51
               clear c51
               by_cases c52 : x75_3 < (x7_3.length : Int)
               ·
                rw [if_pos c52] at H
                have c52b0 : decide (x75_3 < (x7_3.length : Int)) = true := decide_eq_true c52
                clear c52
                obtain ⟨y144, hy144⟩ : ∃ y_ : List Int, y_ = (x7_3.set (x75_3 : Int).toNat (wrap64 (-(rd x7_3 x75_3)))) := ⟨_, rfl⟩
                replace H : (pvq_Search.l2 k3 y144 l0 (l0.length : Int) (wrap64 (x75_3 + 1))) = some (r1, r2) := by first | (rw [hy144]; with_reducible exact H) | (have H2_ := (Option.bind_some _ _).symm.trans H; rw [hy144]; with_reducible exact H2_) | (have H2_ := (Option.bind_some _ _).symm.trans H; with_reducible exact H2_) | with_reducible exact H | (rw [hy144]; exact H) | exact H
                have Ny144 := zm hy144
                clear hy144
                have H' := zm H
                clear H
                have p142 : 0 ≤ (x75_3 : Int) := of_decide_eq_true (by first | (with_reducible assumption) | assumption)
                have q142 : x75_3 < (l0.length : Int) := of_decide_eq_true (by first | (with_reducible assumption) | assumption)
                obtain ⟨ad142, e142, hx142_0⟩ := Kd.at_int HR0.out x75_3 p142 q142
                cases e142
                replace hx142_0 := (HB.out.cell (zb w _ hx142_0)).trans hx142_0
                replace p142 := eq_true p142
                replace q142 := eq_true q142
                obtain ⟨Ao54, co54, eo54⟩ := Kd.R_slice HO_7.out
                subst eo54
                have p143 : 0 ≤ (x75_3 : Int) := of_decide_eq_true (by first | (with_reducible assumption) | assumption)
                have q143 : x75_3 < (x7_3.length : Int) := of_decide_eq_true (by first | (with_reducible assumption) | assumption)
                obtain ⟨ad143, e143, hx143_0⟩ := Kd.at_int (Kd.R_reads' HO_7.out).2.2 x75_3 p143 q143
                cases e143
                replace p143 := eq_true p143
                replace q143 := eq_true q143
                have p53 : 0 ≤ (x75_3 : Int) := of_decide_eq_true (by first | (with_reducible assumption) | assumption)
                have q53 : (x75_3 : Int) < ((x7_3.length : Int) : Int) := of_decide_eq_true (by first | (with_reducible assumption) | assumption)
                obtain ⟨go53, co53, eo53, gb53, gl53, cl53, HG53⟩ := Kd.R_form HO_7.out (by omega)
                (first | cases eo53 | (injection eo53 with ea_ en_ ec_; (first | subst ea_ | (injection ea_ with ea_; subst ea_)); subst ec_; clear en_))
                have GB53 := zm gb53
                have GG53 := zm HG53
                clear gb53 gl53 HG53
                (first | simp only [add_plain] at hx143_0 | skip)
                obtain ⟨hx53_0, hf53_0⟩ := Kd.R_celln 0 HO_7.out (x75_3 : Int) p53 q53
                replace p53 := eq_true p53
                replace q53 := eq_true q53
                have HP55 := Kd.R_putg HO_7.out (x75_3 : Int) (wrap64 (-(rd x7_3 x75_3)))
                go_wp2_with (first | ((with_reducible refine gate_store (t := 3) (p := 89) rfl ?_); refine store_event (t := 3) (p := 89) (v := ?vo_w56) (w1 := (wr.setCell ⟨go53, (x75_3 : Int).toNat, none⟩ (.int .i64 (wrap64 (-(rd x7_3 x75_3)))))) ?hg ?ho ?hn ?hr ?_; (case ho => rfl); (case hg => rfl); (case hn => rfl); (case hr => first | (go_simp; done) | (go_simp; rfl)); intro w56 hw; have hg : wr.grownBy w56 (some go53) := (by rw [hw]; exact HP55.2); have hp_ : Kd.R (Kd.int .i64) 3 w56 w.heap.size (fun _ => True) (.slice (some ⟨go53, 0, none⟩) x7_3.length co54) y144 := (by rw [hw, Ny144.out]; exact HP55.1); clear HP55; have n0_ := zm (hp_); have n1_ := zm (blk_grown (g := gb129) (o := .cells #[.int .i64 x130000_2, .int .i64 x130001_2] 47 (0, 0)) (by (with_reducible repeat (first | refine zh ?_ _ | refine zj ?_ | refine zi ?_ _)); exact BK129.out) hg (zu HO_7.out BK129.out (by decide))); have n2_ := zm ((by rw [hw]; exact zk (HB.out) GB53.out : Below w.heap.size w w56)); clear HO_7; clear BK129; clear HB; have HO_7 := n0_; have BK129 := n1_; have HB := n2_; clear n0_ n1_ n2_; clear hg hw hp_))
                go_roundg k3
                case measure => have := HJ2.out; have := HK2.out; have := HK3.out; omega
                case rel => exact ⟨(y144), (wrap64 (x75_3 + 1)), (by first | rfl | (simp; done) | (simp [*]; done)), H', ⟨by have := HJ2.out; have := HK2.out; have := HK3.out; omega⟩, ⟨by (with_reducible repeat (first | apply zo | apply zp | apply zq)); exact HO_7.out⟩, ⟨by (with_reducible repeat (first | refine zh ?_ _ | refine zj ?_ | refine zi ?_ _)); exact BK129.out⟩, ⟨by repeat (first | (with_reducible first | exact HB.out | apply ze | apply zd | apply zf | refine zk ?_ GE129.out) | exact HB.out)⟩⟩
               ·
                rw [if_neg c52] at H
                exact absurd H (by simp)
              ·
               rw [if_neg c51] at H
               have c51b0 : decide ((rd l0 x75_3) < 0) = false := decide_eq_false c51
               clear c51
               have H' := zm H
               clear H
               have p142 : 0 ≤ (x75_3 : Int) := of_decide_eq_true (by first | (with_reducible assumption) | assumption)
               have q142 : x75_3 < (l0.length : Int) := of_decide_eq_true (by first | (with_reducible assumption) | assumption)
               obtain ⟨ad142, e142, hx142_0⟩ := Kd.at_int HR0.out x75_3 p142 q142
               cases e142
               replace hx142_0 := (HB.out.cell (zb w _ hx142_0)).trans hx142_0
               replace p142 := eq_true p142
               replace q142 := eq_true q142
               go_wp2
               go_roundg k3
               case measure => have := HJ2.out; have := HK2.out; have := HK3.out; omega
               case rel => exact ⟨(x7_3), (wrap64 (x75_3 + 1)), (by first | rfl | (simp; done) | (simp [*]; done)), H', ⟨by have := HJ2.out; have := HK2.out; have := HK3.out; omega⟩, ⟨by (with_reducible repeat (first | apply zo | apply zp | apply zq)); exact HO_7.out⟩, ⟨by (with_reducible repeat (first | refine zh ?_ _ | refine zj ?_ | refine zi ?_ _)); exact BK129.out⟩, ⟨by repeat (first | (with_reducible first | exact HB.out | apply ze | apply zd | apply zf | refine zk ?_ GE129.out) | exact HB.out)⟩⟩
             ·
              rw [if_neg c50] at H
              exact absurd H (by simp)
            ·
             rw [if_neg c49] at H
             exact absurd H (by simp)
           ·
            rw [if_neg c48] at H
            have c48b0 : decide (x75_3 < (l0.length : Int)) = false := decide_eq_false c48
            clear c48
            simp only [Option.some.injEq, Prod.mk.injEq] at H
            obtain ⟨rfl, rfl⟩ := H
            go_wp2
            go_ret2
            exact ⟨_, by first | rfl | (simp [errW_none, errW_some] <;> rfl) | (simp [*, errW_none, errW_some] <;> rfl), by (with_reducible repeat (first | apply zo | apply zp | apply zq)); exact HO_7.out, by repeat (first | (with_reducible first | exact HB.out | apply ze | apply zd | apply zf | refine zk ?_ GE129.out) | exact HB.out)⟩
     ·
      rw [if_neg c10] at H
      exact absurd H (by simp)
    ·
     rw [if_neg c9] at H
     exact absurd H (by simp)

end Go.Proofs.Ytllgjhenbchkfaa.Prt

namespace Go.Proofs.Ytllgjhenbchkfaa.Prt
open Go.RowKit Go.Proofs.YtllgjhenbchkfaaW.PrintWords Go.Proofs.YtllgjhenbchkfaaW.PrintLast Go.Proofs.YtllgjhenbchkfaaW.PrintMore
attribute [local go_sem] max2_int min2_int max_two min_two max_three min_three max_four min_four   -- for this text's walks alone
set_option linter.unusedVariables false
set_option linter.unusedSimpArgs false

/-! ### comb_size: function 36 -/
def comb_size.f (a0 : Int) : Option (Int) := if a0 < (-12) then (some 13) else (if a0 > 12 then (some 13) else (some (mx a0 (wrap64 (-a0)))))
set_option maxHeartbeats 8000000 in
set_option maxRecDepth 100000 in
theorem comb_size.calls (a0 : Int) (r : Int) (w : World) (h : comb_size.f a0 = some r) :
  Calls Try.prog 36 #[.int .i64 a0] w fun e w' => e = .returned (.int .i64 r) ∧ Below w.heap.size w w' := by
 have HB := zm (Below.refl w.heap.size w)
 have H : (if a0 < (-12) then (some 13) else (if a0 > 12 then (some 13) else (some (mx a0 (wrap64 (-a0)))))) = some r := h
 clear h
 by_cases c2 : a0 < (-12)
 ·
  rw [if_pos c2] at H
  have c2b0 : decide (a0 < (-12)) = true := decide_eq_true c2
  clear c2
  obtain rfl := Option.some.inj H
  go_enter Try.func36, Try.ntmps36
  go_wp2
  go_ret
  exact ⟨by first | rfl | (simp [errW_none, errW_some] <;> rfl) | (simp [*, errW_none, errW_some] <;> rfl), by repeat (first | (with_reducible first | exact HB.out | apply ze | apply zd | apply zf) | exact HB.out)⟩
 ·
  rw [if_neg c2] at H
  have c2b0 : decide (a0 < (-12)) = false := decide_eq_false c2
  clear c2
  by_cases c3 : a0 > 12
  ·
   rw [if_pos c3] at H
   have c3b0 : decide (12 < a0) = true := decide_eq_true c3
   clear c3
   obtain rfl := Option.some.inj H
   go_enter Try.func36, Try.ntmps36
   go_wp2
   go_ret
   exact ⟨by first | rfl | (simp [errW_none, errW_some] <;> rfl) | (simp [*, errW_none, errW_some] <;> rfl), by repeat (first | (with_reducible first | exact HB.out | apply ze | apply zd | apply zf) | exact HB.out)⟩
  ·
   rw [if_neg c3] at H
   have c3b0 : decide (12 < a0) = false := decide_eq_false c3
   clear c3
   obtain ⟨ji4, hji4⟩ : ∃ j_ : Int, (mx a0 (wrap64 (-a0))) = j_ := ⟨_, rfl⟩
   replace H : (some ji4) = some r := by first | (rw [hji4] at H; exact H) | (simp only [hji4] at H ⊢; exact H)
   have hji4_ : (if a0 < (wrap64 (-a0)) then (wrap64 (-a0)) else a0) = ji4 := hji4
   obtain rfl := Option.some.inj H
   go_enter Try.func36, Try.ntmps36
   go_wp2
   go_ret
   exact ⟨by first | rfl | (simp [errW_none, errW_some] <;> rfl) | (simp only [← hji4]; first | rfl | (simp [errW_none, errW_some] <;> rfl)) | (simp [*, errW_none, errW_some] <;> rfl), by repeat (first | (with_reducible first | exact HB.out | apply ze | apply zd | apply zf) | exact HB.out)⟩

end Go.Proofs.Ytllgjhenbchkfaa.Prt

namespace Go.Proofs.Ytllgjhenbchkfaa.Prt
open Go Go.RowKit Go.Proofs.YtllgjhenbchkfaaW.PrintWords Go.Proofs.YtllgjhenbchkfaaW.PrintLast Go.Proofs.YtllgjhenbchkfaaW.PrintMore
set_option linter.unusedVariables false
set_option linter.unusedSimpArgs false

/-! ### comb_table: function 37 -/
theorem comb_table.zeroes : ∃ Z : Array Value, (∀ W, (zeroValue 64).run Try.prog W = .ok (.agg Z) W) ∧ Z.toList = encs (Value.int .u64) (List.replicate 221 0) := ⟨_, fun _ => rfl, by rfl⟩
/-- A block of numbers, as its cells. -/
def ABl (xs : List Int) : Array Value := (encs (Value.int .u64) xs).toArray
theorem ABl_get {xs : List Int} {i : Nat} (h : i < xs.length) : (ABl xs)[i]? = some (.int .u64 (xs.getD i 0)) := by
 unfold ABl
 rw [List.getElem?_toArray]
 exact encs_get xs i h
theorem ABl_set (xs : List Int) (i : Nat) (v : Int) : (ABl xs).setIfInBounds i (.int .u64 v) = ABl (xs.set i v) := by
 unfold ABl encs
 rw [List.setIfInBounds_toArray, List.map_set]
theorem ABl_size (xs : List Int) : (ABl xs).size = xs.length := by
 unfold ABl
 rw [List.size_toArray, encs_length]
theorem ABl_one (xs : List Int) : (ABl xs).all (·.oneCell') = true := by
 rw [Array.all_eq_true_iff_forall_mem]
 intro v hv
 unfold ABl encs at hv
 rw [List.mem_toArray, List.mem_map] at hv
 obtain ⟨n, _, rfl⟩ := hv
 rfl
section
variable {P : Program}
/-- A whole array is stored, cell by cell. -/
theorem storeCells_row (w : World) (g : Nat) (t ty : TypeId) (old cells : Array Value) (hg : w.heap[g]? = some (.cells old t (0, 0))) (hi : (P.info? ty).map (·.size) = some cells.size) (ho : old.size = cells.size) (h1 : cells.all (·.oneCell') = true) :
  (storeCells ⟨g, 0, none⟩ cells.toList 0).run P w = .ok () (w.setRow g cells) := by
 have h := run_storeVar_row (P := P) w g t ty old cells hg hi ho h1
 cases hq : P.info? ty with
 | none => simp [hq] at hi
 | some i =>
  have hs : cells.size = i.size := by
   simp [hq] at hi
   omega
  simpa [storeVar, sizeOf, typeInfo, hq, Value.cells, hs] using h
end
theorem below_row {w0 w : World} {B g : Nat} (h : Below B w0 w) (hg : B ≤ g) (cs : Array Value) : Below B w0 (w.setRow g cs) := ⟨h.os, h.tape, h.output, by rw [setRow_size]; exact h.size, fun k hk => (setRow_other _ _ _ _ (by omega)).trans (h.block k hk)⟩
namespace comb_table
def new (xs : List Int) (n k : Nat) : Int := IntKind.u64.wrap (IntKind.u64.wrap (xs.getD ((n-1)*13+k) 0 + xs.getD (n*13+(k-1)) 0) + xs.getD ((n-1)*13+(k-1)) 0)
/-- Row n made up to place k. -/
def U (xs : List Int) (n : Nat) : Nat → List Int
 | 0 => xs.set (n*13) 1
 | k+1 => (U xs n k).set (n*13+(k+1)) (new (U xs n k) n (k+1))
/-- The rows up to n made. -/
def T : Nat → List Int
 | 0 => (List.replicate 221 0).set 0 1
 | n+1 => U (T n) (n+1) 12
theorem U_len (xs : List Int) (n : Nat) : ∀ k, (U xs n k).length = xs.length
 | 0 => by rw [U, List.length_set]
 | k+1 => by rw [U, List.length_set, U_len xs n k]
theorem T_len : ∀ n, (T n).length = 221
 | 0 => by rw [T, List.length_set, List.length_replicate]
 | n+1 => by rw [T, U_len, T_len n]
theorem size16 : (Try.prog.info? 64).map (·.size) = some (ABl (T 16)).size := by
 rw [ABl_size, T_len]
 kernel_rfl
def T10 : Bool × List (List Nat × List Nat) := (true, [([], []), ([], []), ([], []), ([2], [2]), ([], []), ([3], [3]), ([5, 4], [4, 5]), ([6], [6]), ([], []), ([], []), ([9], [9]), ([8], [8]), ([11, 10], [10, 11]), ([12], [12]), ([7, 13], [7, 13]), ([], []), ([15], [15]), ([], []), ([17], [17]), ([16], [16]), ([19, 18], [18, 19]), ([20], [20]), ([14, 21], [14, 21]), ([0], [0]), ([23, 1, 0, 1, 2, 3, 4, 5, 6, 7, 8, 9, 10, 11, 12, 13, 14, 15, 16, 17, 18, 19, 20, 21, 22], [1, 23]), ([24, 22, 0, 1, 2, 3, 4, 5, 6, 7, 8, 9, 10, 11, 12, 13, 14, 15, 16, 17, 18, 19, 20, 21, 22], [22, 24])])
def B10 : List Nat := [0, 0, 0, 4, 0, 12, 60, 124, 0, 0, 512, 256, 3840, 7936, 16380, 0, 32768, 0, 131072, 98304, 1015808, 2064384, 4194300, 1, 16777215, 33554431]
theorem tab10 : rtab .any (opsOf Try.f37 10) = T10 := by kernel_rfl
theorem bits10 : waitsOk T10.2 B10 = true := by kernel_rfl
end comb_table
set_option maxHeartbeats 8000000 in
set_option maxRecDepth 100000 in
theorem comb_table.made (w : World) : Calls Try.prog 37 #[] w fun e w' => e = .returned (.agg (ABl (comb_table.T 16))) ∧ Below w.heap.size w w' := by
 obtain ⟨Z, hz, hZ⟩ := comb_table.zeroes
 have hZ' : Aside0 (Z = ABl (List.replicate 221 0)) := ⟨by
  unfold ABl
  rw [← hZ]⟩
 clear hZ
 have hb2 : ((w.alloc (.cells Z 64)).alloc (.cells Z 64)).heap[w.heap.size + 1]? = some (.cells Z 64 (0, 0)) := by
  have := blk_new (w.alloc (.cells Z 64)) (.cells Z 64)
  simpa using this
 have hc1 : ((w.alloc (.cells Z 64)).alloc (.cells Z 64)).cell? ⟨w.heap.size + 1, 0, none⟩ = some (.int .u64 0) := by
  rw [zs hb2 0, hZ'.out, ABl_get (by rw [List.length_replicate]; decide)]
  rfl
 have hf1 : ((w.alloc (.cells Z 64)).alloc (.cells Z 64)).frozen? ⟨w.heap.size + 1, 0, none⟩ = false := zx hb2 0
 have hb1 : (((w.alloc (.cells Z 64)).alloc (.cells (Z.setIfInBounds 0 (.int .u64 1)) 64))).heap[w.heap.size + 1]? = some (.cells (ABl (comb_table.T 0)) 64 (0, 0)) := by
  have h0 : Z.setIfInBounds 0 (.int .u64 1) = ABl (comb_table.T 0) := by
   rw [hZ'.out, ABl_set]
   rfl
  have e1 : (w.alloc (.cells Z 64)).heap.size = w.heap.size + 1 := by simp
  have h1 := blk_new (w.alloc (.cells Z 64)) (.cells (ABl (comb_table.T 0)) 64)
  rw [e1] at h1
  rw [h0]
  exact h1
 have hb0 : (((w.alloc (.cells Z 64)).alloc (.cells (Z.setIfInBounds 0 (.int .u64 1)) 64))).heap[w.heap.size]? = some (.cells Z 64 (0, 0)) := zi (blk_new w _) _
 have HB : Aside0 (Below w.heap.size w ((w.alloc (.cells Z 64)).alloc (.cells (Z.setIfInBounds 0 (.int .u64 1)) 64))) := ⟨ze (ze (Below.refl _ _) _) _⟩
 clear hb2
 go_enter Try.func37, Try.ntmps37
 go_wp2
 clear hc1 hf1
 generalize ((w.alloc (.cells Z 64)).alloc (.cells (Z.setIfInBounds 0 (.int .u64 1)) 64)) = W1 at hb1 hb0 HB ⊢
 have HC := zm hb1
 have HZ0 := zm hb0
 clear hb1 hb0
 go_loopg [2] 16 (fun kq v2 w' => ∃ (n : Nat) (x : Int), v2 = .int .i64 x ∧ Aside0 (x = ((n + 1 : Nat) : Int)) ∧ Aside0 (n + kq = 16) ∧ Aside0 (w'.heap[w.heap.size + 1]? = some (.cells (ABl (comb_table.T n)) 64 (0, 0))) ∧ Aside0 (w'.heap[w.heap.size]? = some (.cells Z 64 (0, 0))) ∧ Aside0 (Below w.heap.size w w'))
 case atStart => exact ⟨0, 1, rfl, ⟨rfl⟩, ⟨rfl⟩, HC, HZ0, HB⟩
 case round =>
  clear HC HZ0 HB
  obtain ⟨n, x, rfl, HX, HN, HC, HZ0, HB⟩ := hrel
  by_cases c9 : x ≤ 16
  ·
   have c9b0 : decide (x ≤ 16) = true := decide_eq_true c9
   have hx0 : (0 ≤ x) = True := eq_true (by have := HX.out; omega)
   have hx1 : (x < 17) = True := eq_true (by omega)
   have hxn : x.toNat = n + 1 := by have := HX.out; omega
   obtain ⟨n', rfl⟩ : ∃ q, gk = q + 1 := ⟨gk - 1, by have := HN.out; have := HX.out; omega⟩
   have hn15 : n < 16 := by have := HX.out; omega
   have hcl : wr.cell? ⟨w.heap.size + 1, x.toNat * 13, none⟩ = some (.int .u64 ((comb_table.T n).getD (x.toNat * 13) 0)) := by
    rw [zs HC.out, ABl_get (by rw [comb_table.T_len]; omega)]
   have hfr : wr.frozen? ⟨w.heap.size + 1, x.toNat * 13, none⟩ = false := zx HC.out _
   have HXN := zm hxn
   have HN15 := zm hn15
   clear c9 hxn hn15
   go_wp2
   have n1_ : Aside0 ((wr.setCell ⟨w.heap.size + 1, x.toNat * 13, none⟩ (.int .u64 1)).heap[w.heap.size + 1]? = some (.cells (ABl (comb_table.U (comb_table.T n) (n + 1) 0)) 64 (0, 0))) := ⟨by
    have h1 := blk_set HC.out (x.toNat * 13) (.int .u64 1)
    rw [ABl_set, HXN.out] at h1
    rw [HXN.out]
    exact h1⟩
   have n2_ : Aside0 ((wr.setCell ⟨w.heap.size + 1, x.toNat * 13, none⟩ (.int .u64 1)).heap[w.heap.size]? = some (.cells Z 64 (0, 0))) := ⟨zv HZ0.out (by simp) _⟩
   have n3_ : Aside0 (Below w.heap.size w (wr.setCell ⟨w.heap.size + 1, x.toNat * 13, none⟩ (.int .u64 1))) := ⟨zk HB.out (by omega)⟩
   clear HC HZ0 HB hcl hfr
   generalize (wr.setCell ⟨w.heap.size + 1, x.toNat * 13, none⟩ (.int .u64 1)) = W2 at n1_ n2_ n3_ ⊢
   go_loopg [3] 12 (fun kq v3 w' => ∃ (j : Nat) (y : Int), v3 = .int .i64 y ∧ Aside0 (y = ((j + 1 : Nat) : Int)) ∧ Aside0 (j + kq = 12) ∧ Aside0 (w'.heap[w.heap.size + 1]? = some (.cells (ABl (comb_table.U (comb_table.T n) (n + 1) j)) 64 (0, 0))) ∧ Aside0 (w'.heap[w.heap.size]? = some (.cells Z 64 (0, 0))) ∧ Aside0 (Below w.heap.size w w'))
   case atStart => exact ⟨0, 1, rfl, ⟨rfl⟩, ⟨rfl⟩, n1_, n2_, n3_⟩
   case round =>
    clear n1_ n2_ n3_
    obtain ⟨j, y, rfl, HY, HJ, HC, HZ0, HB⟩ := hrel
    by_cases c16 : y ≤ 12
    ·
     have c16b0 : decide (y ≤ 12) = true := decide_eq_true c16
     have hy0 : (0 ≤ y) = True := eq_true (by have := HY.out; omega)
     have hy1 : (y < 13) = True := eq_true (by omega)
     have hyn : y.toNat = j + 1 := by have := HY.out; omega
     have hj11 : j < 12 := by have := HY.out; omega
     obtain ⟨j', rfl⟩ : ∃ q, gk = q + 1 := ⟨gk - 1, by have := HJ.out; omega⟩
     obtain ⟨xm, hxm⟩ : ∃ j_ : Int, wrap64 (x - 1) = j_ := ⟨_, rfl⟩
     have hxmw : (IntKind.i64.wrap (x - 1)) = xm := (i64_w _).trans hxm
     obtain ⟨ym, hym⟩ : ∃ j_ : Int, wrap64 (y - 1) = j_ := ⟨_, rfl⟩
     have hymw : (IntKind.i64.wrap (y - 1)) = ym := (i64_w _).trans hym
     have hxe : xm = (n : Int) := by rw [← hxm]; have := HX.out; have := HN15.out; unfold wrap64; omega
     have hye : ym = (j : Int) := by rw [← hym]; have := HY.out; unfold wrap64; omega
     have hxm0 : (0 ≤ xm) = True := eq_true (by omega)
     have hxm1 : (xm < 17) = True := eq_true (by have := HN15.out; omega)
     have hym0 : (0 ≤ ym) = True := eq_true (by omega)
     have hym1 : (ym < 13) = True := eq_true (by omega)
     have hxmn : xm.toNat = n := by omega
     have hymn : ym.toNat = j := by omega
     have HJ11 := zm hj11
     have HYN := zm hyn
     have HXM := zm hxmn
     have HYM := zm hymn
     obtain ⟨X, hXd⟩ : ∃ X, X = comb_table.U (comb_table.T n) (n + 1) j := ⟨_, rfl⟩
     have hXl : X.length = 221 := by rw [hXd, comb_table.U_len, comb_table.T_len]
     rw [← hXd] at HC
     have HXD := zm hXd
     have HXL := zm hXl
     clear hXd hXl c16 hyn hj11 hxmn hymn hxe hye hxm hym
     try go_wp2
     have n1_ := zm (zj HC.out)
     have n2_ := zm (zj HZ0.out)
     have n3_ := zm (zf HB.out)
     clear HC HZ0 HB
     have HC := n1_
     have HZ0 := n2_
     have HB := n3_
     clear n1_ n2_ n3_
     obtain ⟨va, hva⟩ : ∃ v_, v_ = X.getD (xm.toNat * 13 + y.toNat) 0 := ⟨_, rfl⟩
     obtain ⟨vb, hvb⟩ : ∃ v_, v_ = X.getD (x.toNat * 13 + ym.toNat) 0 := ⟨_, rfl⟩
     obtain ⟨vc, hvc⟩ : ∃ v_, v_ = X.getD (xm.toNat * 13 + ym.toNat) 0 := ⟨_, rfl⟩
     have HVA := zm hva
     have HVB := zm hvb
     have HVC := zm hvc
     clear hva hvb hvc
     have hx1 : wr.drew.cell? ⟨w.heap.size + 1, xm.toNat * 13 + y.toNat, none⟩ = some (.int .u64 va) := by
      rw [zs HC.out, HVA.out, ABl_get (by have := HXL.out; have := HXM.out; have := HYN.out; have := HN15.out; have := HJ11.out; omega)]
     have hx2 : wr.drew.cell? ⟨w.heap.size + 1, x.toNat * 13 + ym.toNat, none⟩ = some (.int .u64 vb) := by
      rw [zs HC.out, HVB.out, ABl_get (by have := HXL.out; have := HXN.out; have := HYM.out; have := HN15.out; have := HJ11.out; omega)]
     have hx3 : wr.drew.cell? ⟨w.heap.size + 1, xm.toNat * 13 + ym.toNat, none⟩ = some (.int .u64 vc) := by
      rw [zs HC.out, HVC.out, ABl_get (by have := HXL.out; have := HXM.out; have := HYM.out; have := HN15.out; have := HJ11.out; omega)]
     have hx4 : wr.drew.cell? ⟨w.heap.size + 1, x.toNat * 13 + y.toNat, none⟩ = some (.int .u64 (X.getD (x.toNat * 13 + y.toNat) 0)) := by
      rw [zs HC.out, ABl_get (by have := HXL.out; have := HXN.out; have := HYN.out; have := HN15.out; have := HJ11.out; omega)]
     have hf4 : wr.drew.frozen? ⟨w.heap.size + 1, x.toNat * 13 + y.toNat, none⟩ = false := zx HC.out _
     refine start_ (n := 26) (S := fun w' => w'.cell? ⟨w.heap.size + 1, xm.toNat * 13 + y.toNat, none⟩ = some (.int .u64 va) ∧ w'.cell? ⟨w.heap.size + 1, x.toNat * 13 + ym.toNat, none⟩ = some (.int .u64 vb) ∧ w'.cell? ⟨w.heap.size + 1, xm.toNat * 13 + ym.toNat, none⟩ = some (.int .u64 vc)) (ds := [25]) #[false, false, false, false, false, false, false, false, false, false, false, false, false, false, false, false, false, false, false, false, false, false, false, false, false, false] (by kernel_rfl) rfl rfl ⟨hx1, hx2, hx3⟩ (fun hHeld => ?_); refine with_tabW comb_table.tab10 comb_table.bits10 (fun HT_ HW_ => ?_)
     generalize wr.drew = w30 at HC HZ0 HB hx1 hx2 hx3 hx4 hf4 hHeld ⊢
     refine pure_ (i := 0) (N := some 17) (v := ?_) (a' := ?_) #[true, false, false, false, false, false, false, false, false, false, false, false, false, false, false, false, false, false, false, false, false, false, false, false, false, false] rfl rfl (any_of HT_.out (by kernel_rfl)) (fun _ _ _ h => h) (Or.inl ⟨by rfl, ?_⟩) ?_ ?_
     rotate_left
     ·
      intro w'
      go_simp
      with_reducible rfl
     rotate_left
     ·
      simp only [Act.put, List.setIfInBounds_toArray, List.set_cons_zero, List.set_cons_succ, i64_w, i32_w]
      rfl
     refine pure_ (i := 1) (N := some 18) (v := ?_) (a' := ?_) #[true, true, false, false, false, false, false, false, false, false, false, false, false, false, false, false, false, false, false, false, false, false, false, false, false, false] rfl rfl (any_of HT_.out (by kernel_rfl)) (fun _ _ _ h => h) (Or.inl ⟨by rfl, ?_⟩) ?_ ?_
     rotate_left
     ·
      intro w'
      go_simp
      with_reducible rfl
     rotate_left
     ·
      simp only [Act.put, List.setIfInBounds_toArray, List.set_cons_zero, List.set_cons_succ, i64_w, i32_w]
      rfl
     refine pure_ (i := 2) (N := some 19) (v := ?_) (a' := ?_) #[true, true, true, false, false, false, false, false, false, false, false, false, false, false, false, false, false, false, false, false, false, false, false, false, false, false] rfl rfl (any_of HT_.out (by kernel_rfl)) (fun _ _ _ h => h) (Or.inl ⟨by rfl, ?_⟩) ?_ ?_
     rotate_left
     ·
      intro w'
      go_simp
      with_reducible rfl
     rotate_left
     ·
      simp only [Act.put, List.setIfInBounds_toArray, List.set_cons_zero, List.set_cons_succ, i64_w, i32_w]
      rfl
     refine pure_ (i := 3) (N := some 20) (v := ?_) (a' := ?_) #[true, true, true, true, false, false, false, false, false, false, false, false, false, false, false, false, false, false, false, false, false, false, false, false, false, false] rfl rfl (any_of HT_.out (by kernel_rfl)) (fun _ _ _ h => h) (Or.inl ⟨by rfl, ?_⟩) ?_ ?_
     rotate_left
     ·
      intro w'
      go_simp
      with_reducible rfl
     rotate_left
     ·
      simp only [Act.put, List.setIfInBounds_toArray, List.set_cons_zero, List.set_cons_succ, i64_w, i32_w]
      rfl
     refine pure_ (i := 4) (N := some 21) (v := ?_) (a' := ?_) #[true, true, true, true, true, false, false, false, false, false, false, false, false, false, false, false, false, false, false, false, false, false, false, false, false, false] rfl rfl (any_of HT_.out (by kernel_rfl)) (fun _ _ _ h => h) (Or.inl ⟨by rfl, ?_⟩) ?_ ?_
     rotate_left
     ·
      intro w'
      go_simp
      with_reducible rfl
     rotate_left
     ·
      simp only [Act.put, List.setIfInBounds_toArray, List.set_cons_zero, List.set_cons_succ, i64_w, i32_w]
      rfl
     refine pure_ (i := 5) (N := some 22) (v := ?_) (a' := ?_) #[true, true, true, true, true, true, false, false, false, false, false, false, false, false, false, false, false, false, false, false, false, false, false, false, false, false] rfl rfl (any_of HT_.out (by kernel_rfl)) (fun _ _ _ h => h) (Or.inl ⟨by rfl, ?_⟩) ?_ ?_
     rotate_left
     ·
      intro w'
      go_simp
      with_reducible rfl
     rotate_left
     ·
      simp only [Act.put, List.setIfInBounds_toArray, List.set_cons_zero, List.set_cons_succ, i64_w, i32_w]
      rfl
     refine pure_ (i := 6) (N := some 23) (v := ?_) (a' := ?_) #[true, true, true, true, true, true, true, false, false, false, false, false, false, false, false, false, false, false, false, false, false, false, false, false, false, false] rfl rfl (any_of HT_.out (by kernel_rfl)) (fun _ _ _ h => h) (Or.inl ⟨by rfl, ?_⟩) ?_ ?_
     rotate_left
     ·
      intro w'
      go_simp
      with_reducible rfl
     rotate_left
     ·
      simp only [Act.put, List.setIfInBounds_toArray, List.set_cons_zero, List.set_cons_succ, i64_w, i32_w]
      rfl
     refine pure_ (i := 8) (N := some 25) (v := ?_) (a' := ?_) #[true, true, true, true, true, true, true, false, true, false, false, false, false, false, false, false, false, false, false, false, false, false, false, false, false, false] rfl rfl (any_of HT_.out (by kernel_rfl)) (fun _ _ _ h => h) (Or.inl ⟨by rfl, ?_⟩) ?_ ?_
     rotate_left
     ·
      intro w'
      go_simp
      with_reducible rfl
     rotate_left
     ·
      simp only [Act.put, List.setIfInBounds_toArray, List.set_cons_zero, List.set_cons_succ, i64_w, i32_w]
      rfl
     refine pure_ (i := 9) (N := some 26) (v := ?_) (a' := ?_) #[true, true, true, true, true, true, true, false, true, true, false, false, false, false, false, false, false, false, false, false, false, false, false, false, false, false] rfl rfl (any_of HT_.out (by kernel_rfl)) (fun _ _ _ h => h) (Or.inl ⟨by rfl, ?_⟩) ?_ ?_
     rotate_left
     ·
      intro w'
      go_simp
      with_reducible rfl
     rotate_left
     ·
      simp only [Act.put, List.setIfInBounds_toArray, List.set_cons_zero, List.set_cons_succ, i64_w, i32_w]
      rfl
     refine pure_ (i := 10) (N := some 27) (v := ?_) (a' := ?_) #[true, true, true, true, true, true, true, false, true, true, true, false, false, false, false, false, false, false, false, false, false, false, false, false, false, false] rfl rfl (any_of HT_.out (by kernel_rfl)) (fun _ _ _ h => h) (Or.inl ⟨by rfl, ?_⟩) ?_ ?_
     rotate_left
     ·
      intro w'
      go_simp
      with_reducible rfl
     rotate_left
     ·
      simp only [Act.put, List.setIfInBounds_toArray, List.set_cons_zero, List.set_cons_succ, i64_w, i32_w]
      rfl
     refine pure_ (i := 11) (N := some 28) (v := ?_) (a' := ?_) #[true, true, true, true, true, true, true, false, true, true, true, true, false, false, false, false, false, false, false, false, false, false, false, false, false, false] rfl rfl (any_of HT_.out (by kernel_rfl)) (fun _ _ _ h => h) (Or.inl ⟨by rfl, ?_⟩) ?_ ?_
     rotate_left
     ·
      intro w'
      go_simp
      with_reducible rfl
     rotate_left
     ·
      simp only [Act.put, List.setIfInBounds_toArray, List.set_cons_zero, List.set_cons_succ, i64_w, i32_w]
      rfl
     refine pure_ (i := 12) (N := some 29) (v := ?_) (a' := ?_) #[true, true, true, true, true, true, true, false, true, true, true, true, true, false, false, false, false, false, false, false, false, false, false, false, false, false] rfl rfl (any_of HT_.out (by kernel_rfl)) (fun _ _ _ h => h) (Or.inl ⟨by rfl, ?_⟩) ?_ ?_
     rotate_left
     ·
      intro w'
      go_simp
      with_reducible rfl
     rotate_left
     ·
      simp only [Act.put, List.setIfInBounds_toArray, List.set_cons_zero, List.set_cons_succ, i64_w, i32_w]
      rfl
     refine pure_ (i := 15) (N := some 32) (v := ?_) (a' := ?_) #[true, true, true, true, true, true, true, false, true, true, true, true, true, false, false, true, false, false, false, false, false, false, false, false, false, false] rfl rfl (any_of HT_.out (by kernel_rfl)) (fun _ _ _ h => h) (Or.inl ⟨by rfl, ?_⟩) ?_ ?_
     rotate_left
     ·
      intro w'
      go_simp
      with_reducible rfl
     rotate_left
     ·
      simp only [Act.put, List.setIfInBounds_toArray, List.set_cons_zero, List.set_cons_succ, i64_w, i32_w]
      rfl
     refine pure_ (i := 16) (N := some 33) (v := ?_) (a' := ?_) #[true, true, true, true, true, true, true, false, true, true, true, true, true, false, false, true, true, false, false, false, false, false, false, false, false, false] rfl rfl (any_of HT_.out (by kernel_rfl)) (fun _ _ _ h => h) (Or.inl ⟨by rfl, ?_⟩) ?_ ?_
     rotate_left
     ·
      intro w'
      go_simp
      with_reducible rfl
     rotate_left
     ·
      simp only [Act.put, List.setIfInBounds_toArray, List.set_cons_zero, List.set_cons_succ, i64_w, i32_w]
      rfl
     refine pure_ (i := 17) (N := some 34) (v := ?_) (a' := ?_) #[true, true, true, true, true, true, true, false, true, true, true, true, true, false, false, true, true, true, false, false, false, false, false, false, false, false] rfl rfl (any_of HT_.out (by kernel_rfl)) (fun _ _ _ h => h) (Or.inl ⟨by rfl, ?_⟩) ?_ ?_
     rotate_left
     ·
      intro w'
      go_simp
      with_reducible rfl
     rotate_left
     ·
      simp only [Act.put, List.setIfInBounds_toArray, List.set_cons_zero, List.set_cons_succ, i64_w, i32_w]
      rfl
     refine pure_ (i := 18) (N := some 35) (v := ?_) (a' := ?_) #[true, true, true, true, true, true, true, false, true, true, true, true, true, false, false, true, true, true, true, false, false, false, false, false, false, false] rfl rfl (any_of HT_.out (by kernel_rfl)) (fun _ _ _ h => h) (Or.inl ⟨by rfl, ?_⟩) ?_ ?_
     rotate_left
     ·
      intro w'
      go_simp
      with_reducible rfl
     rotate_left
     ·
      simp only [Act.put, List.setIfInBounds_toArray, List.set_cons_zero, List.set_cons_succ, i64_w, i32_w]
      rfl
     refine pure_ (i := 19) (N := some 36) (v := ?_) (a' := ?_) #[true, true, true, true, true, true, true, false, true, true, true, true, true, false, false, true, true, true, true, true, false, false, false, false, false, false] rfl rfl (any_of HT_.out (by kernel_rfl)) (fun _ _ _ h => h) (Or.inl ⟨by rfl, ?_⟩) ?_ ?_
     rotate_left
     ·
      intro w'
      go_simp
      with_reducible rfl
     rotate_left
     ·
      simp only [Act.put, List.setIfInBounds_toArray, List.set_cons_zero, List.set_cons_succ, i64_w, i32_w]
      rfl
     refine pure_ (i := 20) (N := some 37) (v := ?_) (a' := ?_) #[true, true, true, true, true, true, true, false, true, true, true, true, true, false, false, true, true, true, true, true, true, false, false, false, false, false] rfl rfl (any_of HT_.out (by kernel_rfl)) (fun _ _ _ h => h) (Or.inl ⟨by rfl, ?_⟩) ?_ ?_
     rotate_left
     ·
      intro w'
      go_simp
      with_reducible rfl
     rotate_left
     ·
      simp only [Act.put, List.setIfInBounds_toArray, List.set_cons_zero, List.set_cons_succ, i64_w, i32_w]
      rfl
     refine pure_ (i := 23) (N := some 40) (v := ?_) (a' := ?_) #[true, true, true, true, true, true, true, false, true, true, true, true, true, false, false, true, true, true, true, true, true, false, false, true, false, false] rfl rfl (any_of HT_.out (by kernel_rfl)) (fun _ _ _ h => h) (Or.inl ⟨by rfl, ?_⟩) ?_ ?_
     rotate_left
     ·
      intro w'
      go_simp
      with_reducible rfl
     rotate_left
     ·
      simp only [Act.put, List.setIfInBounds_toArray, List.set_cons_zero, List.set_cons_succ, i64_w, i32_w]
      rfl
     refine take_ (i := 7) (N := some 24) (v := ?_) (a' := ?_) #[true, true, true, true, true, true, true, true, true, true, true, true, true, false, false, true, true, true, true, true, true, false, false, true, false, false] rfl rfl (take_ofW HT_.out HW_.out (by kernel_rfl)) (fun _ _ _ h => h) (Or.inl ⟨by rfl, ?_⟩) hHeld ?_ ?_
     rotate_left
     ·
      rintro w' ⟨s0, s1, s2⟩
      go_simp
      with_reducible rfl
     rotate_left
     ·
      simp only [Act.put, List.setIfInBounds_toArray, List.set_cons_zero, List.set_cons_succ, i64_w, i32_w]
      rfl
     refine take_ (i := 13) (N := some 30) (v := ?_) (a' := ?_) #[true, true, true, true, true, true, true, true, true, true, true, true, true, true, false, true, true, true, true, true, true, false, false, true, false, false] rfl rfl (take_ofW HT_.out HW_.out (by kernel_rfl)) (fun _ _ _ h => h) (Or.inl ⟨by rfl, ?_⟩) hHeld ?_ ?_
     rotate_left
     ·
      rintro w' ⟨s0, s1, s2⟩
      go_simp
      with_reducible rfl
     rotate_left
     ·
      simp only [Act.put, List.setIfInBounds_toArray, List.set_cons_zero, List.set_cons_succ, i64_w, i32_w]
      rfl
     refine pure_ (i := 14) (N := some 31) (v := ?_) (a' := ?_) #[true, true, true, true, true, true, true, true, true, true, true, true, true, true, true, true, true, true, true, true, true, false, false, true, false, false] rfl rfl (any_of HT_.out (by kernel_rfl)) (fun _ _ _ h => h) (Or.inl ⟨by rfl, ?_⟩) ?_ ?_
     rotate_left
     ·
      intro w'
      go_simp
      with_reducible rfl
     rotate_left
     ·
      simp only [Act.put, List.setIfInBounds_toArray, List.set_cons_zero, List.set_cons_succ, i64_w, i32_w]
      rfl
     refine take_ (i := 21) (N := some 38) (v := ?_) (a' := ?_) #[true, true, true, true, true, true, true, true, true, true, true, true, true, true, true, true, true, true, true, true, true, true, false, true, false, false] rfl rfl (take_ofW HT_.out HW_.out (by kernel_rfl)) (fun _ _ _ h => h) (Or.inl ⟨by rfl, ?_⟩) hHeld ?_ ?_
     rotate_left
     ·
      rintro w' ⟨s0, s1, s2⟩
      go_simp
      with_reducible rfl
     rotate_left
     ·
      simp only [Act.put, List.setIfInBounds_toArray, List.set_cons_zero, List.set_cons_succ, i64_w, i32_w]
      rfl
     refine pure_ (i := 22) (N := some 39) (v := ?_) (a' := ?_) #[true, true, true, true, true, true, true, true, true, true, true, true, true, true, true, true, true, true, true, true, true, true, true, true, false, false] rfl rfl (any_of HT_.out (by kernel_rfl)) (fun _ _ _ h => h) (Or.inl ⟨by rfl, ?_⟩) ?_ ?_
     rotate_left
     ·
      intro w'
      go_simp
      with_reducible rfl
     rotate_left
     ·
      simp only [Act.put, List.setIfInBounds_toArray, List.set_cons_zero, List.set_cons_succ, i64_w, i32_w]
      rfl
     refine pure_ (i := 24) (N := some 41) (v := ?_) (a' := ?_) #[true, true, true, true, true, true, true, true, true, true, true, true, true, true, true, true, true, true, true, true, true, true, true, true, true, false] rfl rfl (any_of HT_.out (by kernel_rfl)) (fun _ _ _ h => h) (Or.inl ⟨by rfl, ?_⟩) ?_ ?_
     rotate_left
     ·
      intro w'
      go_simp
      with_reducible rfl
     rotate_left
     ·
      simp only [Act.put, List.setIfInBounds_toArray, List.set_cons_zero, List.set_cons_succ, i64_w, i32_w]
      rfl
     refine last_ (i := 25) (N := none) #[true, true, true, true, true, true, true, true, true, true, true, true, true, true, true, true, true, true, true, true, true, true, true, true, true, true] rfl rfl (one_of HT_.out (by kernel_rfl)) (by decide) (fun K hK => ?_)
     refine skip_ (w1 := ?_) (by rfl) rfl ?_ ?_
     rotate_left
     ·
      go_simp
      rfl
     refine hK.out _ _ ?_
     clear hK K
     refine done_ (done_of HT_.out (by kernel_rfl)) ?_
     try go_wp2
     go_roundg j'
     case measure => omega
     case rel => exact ⟨j + 1, _, rfl, ⟨by have := HY.out; have := HJ11.out; unfold wrap64; omega⟩, ⟨by have := HJ.out; omega⟩, ⟨by
      have h1 := blk_set HC.out (x.toNat * 13 + y.toNat) (.int .u64 (comb_table.new X (n + 1) (j + 1)))
      rw [ABl_set] at h1
      have h2 : X.set (x.toNat * 13 + y.toNat) (comb_table.new X (n + 1) (j + 1)) = comb_table.U (comb_table.T n) (n + 1) (j + 1) := by
       rw [HXN.out, HYN.out, HXD.out]
       rfl
      have h3 : comb_table.new X (n + 1) (j + 1) = IntKind.u64.wrap (IntKind.u64.wrap (va + vb) + vc) := by
       rw [HVA.out, HVB.out, HVC.out, HXN.out, HYN.out, HXM.out, HYM.out]
       rfl
      rw [h2, h3] at h1
      exact h1⟩, ⟨zv HZ0.out (by simp) _⟩, ⟨zk HB.out (by omega)⟩⟩
    ·
     have c16b0 : decide (y ≤ 12) = false := decide_eq_false c16
     have hj12 : j = 12 := by have := HY.out; have := HJ.out; omega
     have HJ12 := zm hj12
     clear c16 hj12
     go_wp2
     go_roundg n'
     case measure => omega
     case rel => exact ⟨n + 1, _, rfl, ⟨by have := HX.out; have := HN15.out; unfold wrap64; omega⟩, ⟨by have := HN.out; omega⟩, ⟨by rw [HC.out, HJ12.out]; rfl⟩, HZ0, HB⟩
  ·
   have c9b0 : decide (x ≤ 16) = false := decide_eq_false c9
   have hn16 : n = 16 := by have := HX.out; have := HN.out; omega
   have HN16 := zm hn16
   clear c9 hn16
   have HC16 : wr.heap[w.heap.size + 1]? = some (.cells (ABl (comb_table.T 16)) 64 (0, 0)) := by
    rw [← HN16.out]
    exact HC.out
   have HF := zm HC16
   clear HC16 HC
   go_wp2
   refine wp_load_row 64 (.tmp 1) rfl (w.heap.size + 1) rfl 64 _ (0, 0) (.array 17 62) HF.out Try.underlying64 rfl comb_table.size16 ?_
   have hst := storeCells_row (P := Try.prog) wr w.heap.size 64 64 Z (ABl (comb_table.T 16)) HZ0.out comb_table.size16 (by rw [hZ'.out, ABl_size, ABl_size, comb_table.T_len, List.length_replicate]) (ABl_one _)
   go_wp2
   (try simp only [Exit.inBlock, Exit.then])
   refine bodyPost_ret (results_cell_row rfl _ _ w.heap.size 64 (ABl (comb_table.T 16)) (0, 0) (.array 17 62) rfl (setRow_heap _ _ _ _ _ _ HZ0.out) Try.underlying64 rfl comb_table.size16) rfl ?_
   exact ⟨rfl, below_row HB.out (Nat.le_refl _) _⟩

/-- What place k of row n holds. -/
def comb_table.f (a0 a1 : Int) : Option Int := if 0 ≤ a0 then (if a0 < 17 then (if 0 ≤ a1 then (if a1 < 13 then some ((comb_table.T 16).getD (a0.toNat * 13 + a1.toNat) 0) else none) else none) else none) else none
theorem comb_table.parts {n k t : Int} (h : comb_table.f n k = some t) : 0 ≤ n ∧ n < 17 ∧ 0 ≤ k ∧ k < 13 ∧ t = (comb_table.T 16).getD (n.toNat * 13 + k.toNat) 0 := by
 unfold comb_table.f at h
 split at h
 ·
  split at h
  ·
   split at h
   ·
    split at h
    ·
     exact ⟨by assumption, by assumption, by assumption, by assumption, (Option.some.inj h).symm⟩
    ·
     exact absurd h (by simp)
   ·
    exact absurd h (by simp)
  ·
   exact absurd h (by simp)
 ·
  exact absurd h (by simp)
theorem comb_table.inn {n k t : Int} (h : comb_table.f n k = some t) : ((0 ≤ n) = True) ∧ ((n < 17) = True) ∧ ((0 ≤ k) = True) ∧ ((k < 13) = True) := by
 obtain ⟨h0, h1, h2, h3, _⟩ := comb_table.parts h
 exact ⟨eq_true h0, eq_true h1, eq_true h2, eq_true h3⟩
theorem comb_table.look {W : World} {g : Nat} (hg : W.heap[g]? = some (.cells (ABl (comb_table.T 16)) 64 (0, 0))) {n k t : Int} (h : comb_table.f n k = some t) : W.cell? ⟨g, n.toNat * 13 + k.toNat, none⟩ = some (.int .u64 t) := by
 obtain ⟨h0, h1, h2, h3, ht⟩ := comb_table.parts h
 rw [ht, zs hg, ABl_get (by rw [comb_table.T_len]; omega)]
set_option maxRecDepth 100000 in
theorem comb_table.zsize : ∃ Z : Array Value, (∀ W, (zeroValue 64).run Try.prog W = .ok (.agg Z) W) ∧ Aside0 (Z.size = (ABl (comb_table.T 16)).size) := by
 obtain ⟨Z, hz, hZ⟩ := comb_table.zeroes
 refine ⟨Z, hz, ⟨?_⟩⟩
 have h := congrArg List.length hZ
 rw [Array.length_toList, encs_length, List.length_replicate] at h
 exact h.trans (by rw [ABl_size, comb_table.T_len])

end Go.Proofs.Ytllgjhenbchkfaa.Prt

namespace Go.Proofs.Ytllgjhenbchkfaa.Prt
open Go.RowKit Go.Proofs.YtllgjhenbchkfaaW.PrintWords Go.Proofs.YtllgjhenbchkfaaW.PrintLast Go.Proofs.YtllgjhenbchkfaaW.PrintMore
attribute [local go_sem] max2_int min2_int max_two min_two max_three min_three max_four min_four   -- for this text's walks alone
set_option linter.unusedVariables false
set_option linter.unusedSimpArgs false

/-! ### comb_Index: function 28 -/
mutual
def comb_Index.j0 : Nat → List Int → Bool → Option (Int × Int)
 | 0, _, _ => none
 | k + 1, x0, x21 => if x21 = true then (some (0, 1)) else (comb_Index.l0 k x0 0 x0 (x0.length : Int) 0)
def comb_Index.l0 : Nat → List Int → Int → List Int → Int → Int → Option (Int × Int)
 | 0, _, _, _, _, _ => none
 | k + 1, x0, x4, x22, x23, x24 => if x24 < x23 then (if 0 ≤ x24 then (if x24 < (x22.length : Int) then ((comb_size.f (rd x22 x24)).bind fun t148 => (comb_Index.l0 k x0 (wrap64 (x4 + t148)) x22 x23 (wrap64 (x24 + 1)))) else (none)) else (none)) else (if x4 > 12 then (some (0, 1)) else (comb_Index.l1 k x0 x4 0 x0 (x0.length : Int) 0))
def comb_Index.l1 : Nat → List Int → Int → Int → List Int → Int → Int → Option (Int × Int)
 | 0, _, _, _, _, _, _ => none
 | k + 1, x0, x4, x8, x36, x37, x38 => if x38 < x37 then (if 0 ≤ x38 then (if x38 < (x36.length : Int) then ((comb_size.f (rd x36 x38)).bind fun t153 => (if t153 > 0 then ((comb_table.f (wrap64 ((wrap64 ((x0.length : Int) - x38)) - 1)) x4).bind fun t154 => (comb_Index.j3 k x0 x4 (IntKind.u64.wrap (x8 + t154)) (rd x36 x38) (wrap64 ((wrap64 ((x0.length : Int) - x38)) - 1)) t153 x36 x37 x38)) else (comb_Index.j3 k x0 x4 x8 (rd x36 x38) (wrap64 ((wrap64 ((x0.length : Int) - x38)) - 1)) t153 x36 x37 x38))) else (none)) else (none)) else (some (x8, 0))
def comb_Index.j3 : Nat → List Int → Int → Int → Int → Int → Int → List Int → Int → Int → Option (Int × Int)
 | 0, _, _, _, _, _, _, _, _, _ => none
 | k + 1, x0, x4, x8, x10, x11, x12, x36, x37, x38 => comb_Index.l2 k x0 x4 x8 x10 x11 x12 1 x36 x37 x38
def comb_Index.l2 : Nat → List Int → Int → Int → Int → Int → Int → Int → List Int → Int → Int → Option (Int × Int)
 | 0, _, _, _, _, _, _, _, _, _, _ => none
 | k + 1, x0, x4, x8, x10, x11, x12, x13, x36, x37, x38 => if x13 < x12 then ((comb_table.f x11 (wrap64 (x4 - x13))).bind fun t155 => (comb_Index.l2 k x0 x4 (IntKind.u64.wrap (x8 + (IntKind.u64.wrap (2 * t155)))) x10 x11 x12 (wrap64 (x13 + 1)) x36 x37 x38)) else (if x10 < 0 then ((comb_table.f x11 (wrap64 (x4 - x12))).bind fun t156 => (comb_Index.l1 k x0 (wrap64 (x4 - x12)) (IntKind.u64.wrap (x8 + t156)) x36 x37 (wrap64 (x38 + 1)))) else (comb_Index.l1 k x0 (wrap64 (x4 - x12)) x8 x36 x37 (wrap64 (x38 + 1))))
end
def comb_Index.f (k : Nat) (l0 : List Int) : Option (Int × Int) := if (l0.length : Int) < 1 then (comb_Index.j0 k l0 true) else (comb_Index.j0 k l0 (decide ((l0.length : Int) > 16)))
theorem comb_Index.mono_l : ∀ k, (∀ y0 y1, LeO (comb_Index.j0 k y0 y1) (comb_Index.j0 (k + 1) y0 y1)) ∧ (∀ y0 y1 y2 y3 y4, LeO (comb_Index.l0 k y0 y1 y2 y3 y4) (comb_Index.l0 (k + 1) y0 y1 y2 y3 y4)) ∧ (∀ y0 y1 y2 y3 y4 y5, LeO (comb_Index.l1 k y0 y1 y2 y3 y4 y5) (comb_Index.l1 (k + 1) y0 y1 y2 y3 y4 y5)) ∧ (∀ y0 y1 y2 y3 y4 y5 y6 y7 y8, LeO (comb_Index.j3 k y0 y1 y2 y3 y4 y5 y6 y7 y8) (comb_Index.j3 (k + 1) y0 y1 y2 y3 y4 y5 y6 y7 y8)) ∧ (∀ y0 y1 y2 y3 y4 y5 y6 y7 y8 y9, LeO (comb_Index.l2 k y0 y1 y2 y3 y4 y5 y6 y7 y8 y9) (comb_Index.l2 (k + 1) y0 y1 y2 y3 y4 y5 y6 y7 y8 y9))
 | 0 => ⟨fun _ _ r h => by simp [comb_Index.j0] at h, fun _ _ _ _ _ r h => by simp [comb_Index.l0] at h, fun _ _ _ _ _ _ r h => by simp [comb_Index.l1] at h, fun _ _ _ _ _ _ _ _ _ r h => by simp [comb_Index.j3] at h, fun _ _ _ _ _ _ _ _ _ _ r h => by simp [comb_Index.l2] at h⟩
 | k + 1 => by
  obtain ⟨ih0, ih1, ih2, ih3, ih4⟩ := comb_Index.mono_l k
  refine ⟨?_, ?_, ?_, ?_, ?_⟩
  ·
   intro y0 y1
   unfold comb_Index.j0
   repeat' first
   | (with_reducible exact ih0 _ _)
   | (with_reducible exact ih1 _ _ _ _ _)
   | (with_reducible exact ih2 _ _ _ _ _ _)
   | (with_reducible exact ih3 _ _ _ _ _ _ _ _ _)
   | (with_reducible exact ih4 _ _ _ _ _ _ _ _ _ _)
   | (with_reducible exact LeO.refl _)
   | (with_reducible exact LeO.none _)
   | (with_reducible refine LeO.ite ?_ ?_)
   | (with_reducible refine LeO.bind ?_ (fun _ => ?_))
   | exact ih0 _ _
   | exact ih1 _ _ _ _ _
   | exact ih2 _ _ _ _ _ _
   | exact ih3 _ _ _ _ _ _ _ _ _
   | exact ih4 _ _ _ _ _ _ _ _ _ _
   | exact LeO.none _
   | refine LeO.ite ?_ ?_
   | refine LeO.bind ?_ (fun _ => ?_)
  ·
   intro y0 y1 y2 y3 y4
   unfold comb_Index.l0
   repeat' first
   | (with_reducible exact ih0 _ _)
   | (with_reducible exact ih1 _ _ _ _ _)
   | (with_reducible exact ih2 _ _ _ _ _ _)
   | (with_reducible exact ih3 _ _ _ _ _ _ _ _ _)
   | (with_reducible exact ih4 _ _ _ _ _ _ _ _ _ _)
   | (with_reducible exact LeO.refl _)
   | (with_reducible exact LeO.none _)
   | (with_reducible refine LeO.ite ?_ ?_)
   | (with_reducible refine LeO.bind ?_ (fun _ => ?_))
   | exact ih0 _ _
   | exact ih1 _ _ _ _ _
   | exact ih2 _ _ _ _ _ _
   | exact ih3 _ _ _ _ _ _ _ _ _
   | exact ih4 _ _ _ _ _ _ _ _ _ _
   | exact LeO.none _
   | refine LeO.ite ?_ ?_
   | refine LeO.bind ?_ (fun _ => ?_)
  ·
   intro y0 y1 y2 y3 y4 y5
   unfold comb_Index.l1
   repeat' first
   | (with_reducible exact ih0 _ _)
   | (with_reducible exact ih1 _ _ _ _ _)
   | (with_reducible exact ih2 _ _ _ _ _ _)
   | (with_reducible exact ih3 _ _ _ _ _ _ _ _ _)
   | (with_reducible exact ih4 _ _ _ _ _ _ _ _ _ _)
   | (with_reducible exact LeO.refl _)
   | (with_reducible exact LeO.none _)
   | (with_reducible refine LeO.ite ?_ ?_)
   | (with_reducible refine LeO.bind ?_ (fun _ => ?_))
   | exact ih0 _ _
   | exact ih1 _ _ _ _ _
   | exact ih2 _ _ _ _ _ _
   | exact ih3 _ _ _ _ _ _ _ _ _
   | exact ih4 _ _ _ _ _ _ _ _ _ _
   | exact LeO.none _
   | refine LeO.ite ?_ ?_
   | refine LeO.bind ?_ (fun _ => ?_)
  ·
   intro y0 y1 y2 y3 y4 y5 y6 y7 y8
   unfold comb_Index.j3
   repeat' first
   | (with_reducible exact ih0 _ _)
   | (with_reducible exact ih1 _ _ _ _ _)
   | (with_reducible exact ih2 _ _ _ _ _ _)
   | (with_reducible exact ih3 _ _ _ _ _ _ _ _ _)
   | (with_reducible exact ih4 _ _ _ _ _ _ _ _ _ _)
   | (with_reducible exact LeO.refl _)
   | (with_reducible exact LeO.none _)
   | (with_reducible refine LeO.ite ?_ ?_)
   | (with_reducible refine LeO.bind ?_ (fun _ => ?_))
   | exact ih0 _ _
   | exact ih1 _ _ _ _ _
   | exact ih2 _ _ _ _ _ _
   | exact ih3 _ _ _ _ _ _ _ _ _
   | exact ih4 _ _ _ _ _ _ _ _ _ _
   | exact LeO.none _
   | refine LeO.ite ?_ ?_
   | refine LeO.bind ?_ (fun _ => ?_)
  ·
   intro y0 y1 y2 y3 y4 y5 y6 y7 y8 y9
   unfold comb_Index.l2
   repeat' first
   | (with_reducible exact ih0 _ _)
   | (with_reducible exact ih1 _ _ _ _ _)
   | (with_reducible exact ih2 _ _ _ _ _ _)
   | (with_reducible exact ih3 _ _ _ _ _ _ _ _ _)
   | (with_reducible exact ih4 _ _ _ _ _ _ _ _ _ _)
   | (with_reducible exact LeO.refl _)
   | (with_reducible exact LeO.none _)
   | (with_reducible refine LeO.ite ?_ ?_)
   | (with_reducible refine LeO.bind ?_ (fun _ => ?_))
   | exact ih0 _ _
   | exact ih1 _ _ _ _ _
   | exact ih2 _ _ _ _ _ _
   | exact ih3 _ _ _ _ _ _ _ _ _
   | exact ih4 _ _ _ _ _ _ _ _ _ _
   | exact LeO.none _
   | refine LeO.ite ?_ ?_
   | refine LeO.bind ?_ (fun _ => ?_)
theorem comb_Index.mono : ∀ a0 k, LeO (comb_Index.f k a0) (comb_Index.f (k + 1) a0) := by
 intro a0 k
 obtain ⟨ih0, ih1, ih2, ih3, ih4⟩ := comb_Index.mono_l k
 unfold comb_Index.f
 repeat' first
   | (with_reducible exact ih0 _ _)
   | (with_reducible exact ih1 _ _ _ _ _)
   | (with_reducible exact ih2 _ _ _ _ _ _)
   | (with_reducible exact ih3 _ _ _ _ _ _ _ _ _)
   | (with_reducible exact ih4 _ _ _ _ _ _ _ _ _ _)
   | (with_reducible exact LeO.refl _)
   | (with_reducible exact LeO.none _)
   | (with_reducible refine LeO.ite ?_ ?_)
   | (with_reducible refine LeO.bind ?_ (fun _ => ?_))
   | exact ih0 _ _
   | exact ih1 _ _ _ _ _
   | exact ih2 _ _ _ _ _ _
   | exact ih3 _ _ _ _ _ _ _ _ _
   | exact ih4 _ _ _ _ _ _ _ _ _ _
   | exact LeO.none _
   | refine LeO.ite ?_ ?_
   | refine LeO.bind ?_ (fun _ => ?_)
set_option maxHeartbeats 8000000 in
set_option maxRecDepth 100000 in
theorem comb_Index.calls (k : Nat) (A0 : Option Addr) (c0 : Nat) (l0 : List Int) (r1 : Int) (r2 : Int) (w : World) (hr0 : Kd.C (Kd.int .i64) w A0 l0.length l0) (hc0 : l0.length ≤ c0) (h : comb_Index.f k l0 = some (r1, r2)) :
  Calls Try.prog 28 #[.slice A0 l0.length c0] w fun e w' => e = .returned (.tuple #[.int .u64 r1, .int .i64 r2]) ∧ Below w.heap.size w w' := by
 have HR0 := zm hr0
 have HC0 := zm hc0
 clear hr0 hc0
 have HB := zm (Below.refl w.heap.size w)
 have H : (if (l0.length : Int) < 1 then (comb_Index.j0 k l0 true) else (comb_Index.j0 k l0 (decide ((l0.length : Int) > 16)))) = some (r1, r2) := h
 clear h
 have HC2 := zm H
 clear H
 go_enter Try.func28, Try.ntmps28
 go_upto_region 1 with (fail)
 go_cut [21] (fun v21 wc => ∃ (kq : Nat) (x21_1 : Bool), v21 = .bool x21_1 ∧ Aside0 (comb_Index.j0 kq l0 x21_1 = some (r1, r2)) ∧ Aside0 (kq ≤ k) ∧ Aside0 (Below w.heap.size w wc))
 case first =>
  have H := HC2.out
  clear HC2
  by_cases c3 : (l0.length : Int) < 1
  ·
   rw [if_pos c3] at H
   have c3b0 : decide ((l0.length : Int) < 1) = true := decide_eq_true c3
   have c3b1 : decide (l0.length < 1) = true := decide_eq_true (by omega)
   clear c3
   (first | rw [c3b0] | (simp only [i64_w, i32_w]; rw [c3b0]) | skip)
   have H' := zm H
   clear H
   go_wp2
   go_meet
   case rel => exact ⟨_, (true), (by first | rfl | (simp; done) | (simp [*]; done)), H', ⟨by first | omega | exact Nat.le_refl _⟩, ⟨by repeat (first | (with_reducible first | exact HB.out | apply ze | apply zd | apply zf) | exact HB.out)⟩⟩
  ·
   rw [if_neg c3] at H
   have c3b0 : decide ((l0.length : Int) < 1) = false := decide_eq_false c3
   have c3b1 : decide (l0.length < 1) = false := decide_eq_false (by omega)
   clear c3
   (first | rw [c3b0] | (simp only [i64_w, i32_w]; rw [c3b0]) | skip)
   have H' := zm H
   clear H
   go_wp2
   go_meet
   case rel => exact ⟨_, (decide ((l0.length : Int) > 16)), (by first | rfl | (simp; done) | (simp [*]; done)), H', ⟨by first | omega | exact Nat.le_refl _⟩, ⟨by repeat (first | (with_reducible first | exact HB.out | apply ze | apply zd | apply zf) | exact HB.out)⟩⟩
 case rest =>
  clear HC2
  try clear c2
  try clear p2
  try clear c3
  try clear c3b0
  try clear c3b1
  obtain ⟨kq, x21_1, rfl, HA, HJ1, HB⟩ := hcut
  cases kq with
  | zero => exact absurd HA.out (by simp [comb_Index.j0])
  | succ kj1 =>
   have H := HA.out
   clear HA
   simp only [comb_Index.j0] at H
   by_cases c4 : x21_1 = true
   ·
    subst c4
    have H1 : (some (0, 1)) = some (r1, r2) := by rw [if_pos rfl] at H; exact H
    clear H
    have H := H1
    clear H1
    simp only [Option.some.injEq, Prod.mk.injEq] at H
    obtain ⟨rfl, rfl⟩ := H
    go_wp2
    go_ret2
    exact ⟨by first | rfl | (simp [errW_none, errW_some] <;> rfl) | (simp [*, errW_none, errW_some] <;> rfl), by repeat (first | (with_reducible first | exact HB.out | apply ze | apply zd | apply zf) | exact HB.out)⟩
   ·
    replace c4 := Bool.eq_false_iff.mpr c4
    subst c4
    have H1 : (comb_Index.l0 kj1 l0 0 l0 (l0.length : Int) 0) = some (r1, r2) := by rw [if_neg (show ¬ (false = true) by decide)] at H; exact H
    clear H
    have H := H1
    clear H1
    have H' := zm H
    clear H
    go_wp2
    go_loopg [4, 24] kj1 (fun kq v4 v24 w' => ∃ (x4_2 : Int) (x24_2 : Int), v4 = .int .i64 x4_2 ∧ v24 = .int .i64 x24_2 ∧ Aside0 (comb_Index.l0 kq l0 x4_2 l0 (l0.length : Int) x24_2 = some (r1, r2)) ∧ Aside0 (kq ≤ kj1) ∧ Aside0 (Below w.heap.size w w'))
    case atStart => exact ⟨(0), (0), (by first | rfl | (simp; done) | (simp [*]; done)), (by first | rfl | (simp; done) | (simp [*]; done)), H', ⟨Nat.le_refl _⟩, ⟨by repeat (first | (with_reducible first | exact HB.out | apply ze | apply zd | apply zf) | exact HB.out)⟩⟩
    case round =>
     clear H'
     try clear c2
     try clear p2
     try clear c3
     try clear c3b0
     try clear c3b1
     try clear c4
     try clear p2
     obtain ⟨x4_2, x24_2, rfl, rfl, HA, HK2, HB⟩ := hrel
     cases gk with
     | zero => exact absurd HA.out (by simp [comb_Index.l0])
     | succ k2 =>
      have H := HA.out
      clear HA
      simp only [comb_Index.l0] at H
      by_cases c5 : x24_2 < (l0.length : Int)
      ·
       rw [if_pos c5] at H
       have c5b0 : decide (x24_2 < (l0.length : Int)) = true := decide_eq_true c5
       clear c5
       by_cases c6 : 0 ≤ x24_2
       ·
        rw [if_pos c6] at H
        have c6b0 : decide (0 ≤ x24_2) = true := decide_eq_true c6
        clear c6
        by_cases c7 : x24_2 < (l0.length : Int)
        ·
         rw [if_pos c7] at H
         have c7b0 : decide (x24_2 < (l0.length : Int)) = true := decide_eq_true c7
         clear c7
         replace H := Option.bind_eq_some_iff.mp H
         obtain ⟨t148, A80, H⟩ := H
         replace H : (comb_Index.l0 k2 l0 (wrap64 (x4_2 + t148)) l0 (l0.length : Int) (wrap64 (x24_2 + 1))) = some (r1, r2) := H
         have A8 := zm A80
         clear A80
         have H' := zm H
         clear H
         have p147 : 0 ≤ (x24_2 : Int) := of_decide_eq_true (by first | (with_reducible assumption) | assumption)
         have q147 : x24_2 < (l0.length : Int) := of_decide_eq_true (by first | (with_reducible assumption) | assumption)
         obtain ⟨ad147, e147, hx147_0⟩ := Kd.at_int HR0.out x24_2 p147 q147
         cases e147
         replace hx147_0 := (HB.out.cell (zb w _ hx147_0)).trans hx147_0
         replace p147 := eq_true p147
         replace q147 := eq_true q147
         go_wp2_with (first | ((with_reducible refine gate_callee (f := 36) rfl ?_); refine goesL_ (some 30) rfl rfl Try.func36 (by kernel_rfl) rfl #[.int .i64 (rd l0 x24_2)] rfl (by (try simp only [List.map_toArray, List.map_cons, List.map_nil]); first | done | rfl | (simp only [List.length_drop, List.length_take]; rfl)) ?_; (with_reducible refine (comb_size.calls (rd l0 x24_2) t148 _ A8.out).mono ?_); rintro e w9 ⟨rfl, hb⟩; refine ⟨_, rfl, ?_⟩; have n0_ := zm (zJ (by repeat (first | (with_reducible first | exact HB.out | apply ze | apply zd | apply zf) | exact HB.out)) hb); clear HB; have HB := n0_; clear n0_; (try clear hb); (try clear hb2); (try clear hk); (try clear hi)))
         go_roundg k2
         case measure => have := HJ1.out; have := HK2.out; omega
         case rel => exact ⟨(wrap64 (x4_2 + t148)), (wrap64 (x24_2 + 1)), (by first | rfl | (simp; done) | (simp [*]; done)), (by first | rfl | (simp; done) | (simp [*]; done)), H', ⟨by have := HJ1.out; have := HK2.out; omega⟩, ⟨by repeat (first | (with_reducible first | exact HB.out | apply ze | apply zd | apply zf) | exact HB.out)⟩⟩
        ·
         rw [if_neg c7] at H
         exact absurd H (by simp)
       ·
        rw [if_neg c6] at H
        exact absurd H (by simp)
      ·
       rw [if_neg c5] at H
       have c5b0 : decide (x24_2 < (l0.length : Int)) = false := decide_eq_false c5
       clear c5
       by_cases c10 : x4_2 > 12
       ·
        rw [if_pos c10] at H
        have c10b0 : decide (12 < x4_2) = true := decide_eq_true c10
        clear c10
        simp only [Option.some.injEq, Prod.mk.injEq] at H
        obtain ⟨rfl, rfl⟩ := H
        go_wp2
        go_ret2
        exact ⟨by first | rfl | (simp [errW_none, errW_some] <;> rfl) | (simp [*, errW_none, errW_some] <;> rfl), by repeat (first | (with_reducible first | exact HB.out | apply ze | apply zd | apply zf) | exact HB.out)⟩
       ·
        rw [if_neg c10] at H
        have c10b0 : decide (12 < x4_2) = false := decide_eq_false c10
        clear c10
        obtain ⟨y149, hy149⟩ : ∃ y_ : List Int, y_ = (([0] : List Int)) := ⟨_, rfl⟩
        replace H : (comb_Index.l1 k2 l0 x4_2 0 l0 (l0.length : Int) 0) = some (r1, r2) := by first | (rw [hy149]; with_reducible exact H) | (have H2_ := (Option.bind_some _ _).symm.trans H; rw [hy149]; with_reducible exact H2_) | (have H2_ := (Option.bind_some _ _).symm.trans H; with_reducible exact H2_) | with_reducible exact H | (rw [hy149]; exact H) | exact H
        have Ny149 := zm hy149
        clear hy149
        have H' := zm H
        clear H
        obtain ⟨Z, hz, HZs⟩ := comb_table.zsize
        go_wp2_with (first | ((with_reducible refine gate_callee (f := 37) rfl ?_); refine goesL_ (some 35) rfl rfl Try.func37 (by kernel_rfl) rfl #[] rfl (by first | rfl | simp) ?_; (with_reducible refine (comb_table.made _).mono ?_); rintro e w5 ⟨rfl, hb5⟩; refine ⟨_, rfl, ?_⟩; have hst := run_storeCells_new (P := Try.prog) w5 64 Z (ABl (comb_table.T 16)) comb_table.size16 HZs.out (ABl_one _); have n1_ := zm (ze (zJ (by repeat (first | (with_reducible first | exact HB.out | apply ze | apply zd | apply zf) | exact HB.out)) hb5) (.cells (ABl (comb_table.T 16)) 64)); clear HB; have HB := n1_; clear n1_; have hbn := zm (blk_new w5 (.cells (ABl (comb_table.T 16)) 64))))
        have hb0 := HB.out
        obtain ⟨W0, hW0⟩ : ∃ W0, W0 = w5.alloc (.cells (ABl (comb_table.T 16)) 64) := ⟨_, rfl⟩
        rw [← hW0] at hb0 hbn
        rw [← hW0]
        clear hW0 HB hst hz HZs
        generalize w5.heap.size = B at hbn ⊢
        replace HR0 := zm (Kd.C_below HR0.out hb0)
        have HB := zm (Below.refl W0.heap.size W0)
        go_loopg [4, 8, 38] k2 (fun kq v4 v8 v38 w' => ∃ (x4_3 : Int) (x8_3 : Int) (x38_3 : Int), v4 = .int .i64 x4_3 ∧ v8 = .int .u64 x8_3 ∧ v38 = .int .i64 x38_3 ∧ Aside0 (comb_Index.l1 kq l0 x4_3 x8_3 l0 (l0.length : Int) x38_3 = some (r1, r2)) ∧ Aside0 (kq ≤ k2) ∧ Aside0 (Below W0.heap.size W0 w'))
        case atStart => exact ⟨(x4_2), (0), (0), (by first | rfl | (simp; done) | (simp [*]; done)), (by first | rfl | (simp; done) | (simp [*]; done)), (by first | rfl | (simp; done) | (simp [*]; done)), H', ⟨Nat.le_refl _⟩, ⟨by repeat (first | (with_reducible first | exact HB.out | apply ze | apply zd | apply zf) | exact HB.out)⟩⟩
        case round =>
         clear H'
         try clear c1
         try clear p1
         try clear q1
         try clear hx1
         try clear c2
         try clear p2
         try clear c3
         try clear c3b0
         try clear c3b1
         try clear c4
         try clear c5
         try clear c5b0
         try clear c6
         try clear c6b0
         try clear p6
         try clear c7
         try clear c7b0
         try clear c10
         try clear c10b0
         try clear hx147_0
         try clear p147
         try clear p2
         try clear q147
         obtain ⟨x4_3, x8_3, x38_3, rfl, rfl, rfl, HA, HK3, HB⟩ := hrel
         cases gk with
         | zero => exact absurd HA.out (by simp [comb_Index.l1])
         | succ k3 =>
          have H := HA.out
          clear HA
          simp only [comb_Index.l1] at H
          by_cases c13 : x38_3 < (l0.length : Int)
          ·
           rw [if_pos c13] at H
           have c13b0 : decide (x38_3 < (l0.length : Int)) = true := decide_eq_true c13
           clear c13
           by_cases c14 : 0 ≤ x38_3
           ·
            rw [if_pos c14] at H
            have c14b0 : decide (0 ≤ x38_3) = true := decide_eq_true c14
            clear c14
            by_cases c15 : x38_3 < (l0.length : Int)
            ·
             rw [if_pos c15] at H
             have c15b0 : decide (x38_3 < (l0.length : Int)) = true := decide_eq_true c15
             clear c15
             replace H := Option.bind_eq_some_iff.mp H
             obtain ⟨t153, A160, H⟩ := H
             replace H : (if t153 > 0 then ((comb_table.f (wrap64 ((wrap64 ((l0.length : Int) - x38_3)) - 1)) x4_3).bind fun t154 => (comb_Index.j3 k3 l0 x4_3 (IntKind.u64.wrap (x8_3 + t154)) (rd l0 x38_3) (wrap64 ((wrap64 ((l0.length : Int) - x38_3)) - 1)) t153 l0 (l0.length : Int) x38_3)) else (comb_Index.j3 k3 l0 x4_3 x8_3 (rd l0 x38_3) (wrap64 ((wrap64 ((l0.length : Int) - x38_3)) - 1)) t153 l0 (l0.length : Int) x38_3)) = some (r1, r2) := H
             have A16 := zm A160
             clear A160
             have HC17 := zm H
             clear H
             have p152 : 0 ≤ (x38_3 : Int) := of_decide_eq_true (by first | (with_reducible assumption) | assumption)
             have q152 : x38_3 < (l0.length : Int) := of_decide_eq_true (by first | (with_reducible assumption) | assumption)
             obtain ⟨ad152, e152, hx152_0⟩ := Kd.at_int HR0.out x38_3 p152 q152
             cases e152
             replace hx152_0 := (HB.out.cell (zb W0 _ hx152_0)).trans hx152_0
             replace p152 := eq_true p152
             replace q152 := eq_true q152
             go_upto_if 51 with (first | ((with_reducible refine gate_callee (f := 36) rfl ?_); refine goesL_ (some 49) rfl rfl Try.func36 (by kernel_rfl) rfl #[.int .i64 (rd l0 x38_3)] rfl (by (try simp only [List.map_toArray, List.map_cons, List.map_nil]); first | done | rfl | (simp only [List.length_drop, List.length_take]; rfl)) ?_; (with_reducible refine (comb_size.calls (rd l0 x38_3) t153 _ A16.out).mono ?_); rintro e w18 ⟨rfl, hb⟩; refine ⟨_, rfl, ?_⟩; have n0_ := zm (zJ (by repeat (first | (with_reducible first | exact HB.out | apply ze | apply zd | apply zf) | exact HB.out)) hb); clear HB; have HB := n0_; clear n0_; (try clear hb); (try clear hb2); (try clear hk); (try clear hi)))
             (try simp only [Act.put, List.setIfInBounds_toArray, List.set_cons_zero, List.set_cons_succ])
             go_cut [8] (fun v8 wc => ∃ (kq : Nat) (x8_16 : Int), v8 = .int .u64 x8_16 ∧ Aside0 (comb_Index.j3 kq l0 x4_3 x8_16 (rd l0 x38_3) (wrap64 ((wrap64 ((l0.length : Int) - x38_3)) - 1)) t153 l0 (l0.length : Int) x38_3 = some (r1, r2)) ∧ Aside0 (kq ≤ k3) ∧ Aside0 (Below W0.heap.size W0 wc))
             case first =>
              have H := HC17.out
              clear HC17
              by_cases c19 : t153 > 0
              ·
               rw [if_pos c19] at H
               have c19b0 : decide (0 < t153) = true := decide_eq_true c19
               clear c19
               (first | rw [c19b0] | (simp only [i64_w, i32_w]; rw [c19b0]) | skip)
               replace H := Option.bind_eq_some_iff.mp H
               obtain ⟨t154, A200, H⟩ := H
               replace H : (comb_Index.j3 k3 l0 x4_3 (IntKind.u64.wrap (x8_3 + t154)) (rd l0 x38_3) (wrap64 ((wrap64 ((l0.length : Int) - x38_3)) - 1)) t153 l0 (l0.length : Int) x38_3) = some (r1, r2) := H
               have A20 := zm A200
               clear A200
               have H' := zm H
               clear H
               obtain ⟨ia0, ib0, ic0, id0⟩ := comb_table.inn A20.out
               have hcl0 := (HB.out.cell (zb W0 _ (comb_table.look hbn.out A20.out))).trans (comb_table.look hbn.out A20.out)
               go_wp2
               go_meet
               case rel => exact ⟨_, (IntKind.u64.wrap (x8_3 + t154)), (by first | rfl | (simp; done) | (simp [*]; done)), H', ⟨by have := HJ1.out; have := HK2.out; have := HK3.out; first | omega | exact Nat.le_refl _⟩, ⟨by repeat (first | (with_reducible first | exact HB.out | apply ze | apply zd | apply zf) | exact HB.out)⟩⟩
              ·
               rw [if_neg c19] at H
               have c19b0 : decide (0 < t153) = false := decide_eq_false c19
               clear c19
               (first | rw [c19b0] | (simp only [i64_w, i32_w]; rw [c19b0]) | skip)
               have H' := zm H
               clear H
               go_wp2
               go_meet
               case rel => exact ⟨_, (x8_3), (by first | rfl | (simp; done) | (simp [*]; done)), H', ⟨by have := HJ1.out; have := HK2.out; have := HK3.out; first | omega | exact Nat.le_refl _⟩, ⟨by repeat (first | (with_reducible first | exact HB.out | apply ze | apply zd | apply zf) | exact HB.out)⟩⟩
             case rest =>
              clear HC17
              try clear c1
              try clear p1
              try clear q1
              try clear hx1
              try clear c2
              try clear p2
              try clear c3
              try clear c3b0
              try clear c3b1
              try clear c4
              try clear c5
              try clear c5b0
              try clear c6
              try clear c6b0
              try clear p6
              try clear c7
              try clear c7b0
              try clear c10
              try clear c10b0
              try clear c13
              try clear c13b0
              try clear c14
              try clear c14b0
              try clear p14
              try clear q14
              try clear hx14
              try clear c15
              try clear c15b0
              try clear p15
              try clear q15
              try clear hx15
              try clear c19
              try clear c19b0
              try clear hx147_0
              try clear hx152_0
              try clear p1
              try clear p147
              try clear p152
              try clear p2
              try clear p6
              try clear q1
              try clear q147
              try clear q152
              obtain ⟨kq, x8_16, rfl, HA, HJ16, HB⟩ := hcut
              cases kq with
              | zero => exact absurd HA.out (by simp [comb_Index.j3])
              | succ kj16 =>
               have H := HA.out
               clear HA
               simp only [comb_Index.j3] at H
               have H' := zm H
               clear H
               go_wp2
               go_loopg [8, 13] kj16 (fun kq v8 v13 w' => ∃ (x8_5 : Int) (x13_5 : Int), v8 = .int .u64 x8_5 ∧ v13 = .int .i64 x13_5 ∧ Aside0 (comb_Index.l2 kq l0 x4_3 x8_5 (rd l0 x38_3) (wrap64 ((wrap64 ((l0.length : Int) - x38_3)) - 1)) t153 x13_5 l0 (l0.length : Int) x38_3 = some (r1, r2)) ∧ Aside0 (kq ≤ kj16) ∧ Aside0 (Below W0.heap.size W0 w'))
               case atStart => exact ⟨(x8_16), (1), (by first | rfl | (simp; done) | (simp [*]; done)), (by first | rfl | (simp; done) | (simp [*]; done)), H', ⟨Nat.le_refl _⟩, ⟨by repeat (first | (with_reducible first | exact HB.out | apply ze | apply zd | apply zf) | exact HB.out)⟩⟩
               case round =>
                clear H'
                try clear c1
                try clear p1
                try clear q1
                try clear hx1
                try clear c2
                try clear p2
                try clear c3
                try clear c3b0
                try clear c3b1
                try clear c4
                try clear c5
                try clear c5b0
                try clear c6
                try clear c6b0
                try clear p6
                try clear c7
                try clear c7b0
                try clear c10
                try clear c10b0
                try clear c13
                try clear c13b0
                try clear c14
                try clear c14b0
                try clear p14
                try clear q14
                try clear hx14
                try clear c15
                try clear c15b0
                try clear p15
                try clear q15
                try clear hx15
                try clear c19
                try clear c19b0
                try clear hx147_0
                try clear hx152_0
                try clear p1
                try clear p14
                try clear p147
                try clear p15
                try clear p152
                try clear p2
                try clear p6
                try clear q1
                try clear q14
                try clear q147
                try clear q15
                try clear q152
                obtain ⟨x8_5, x13_5, rfl, rfl, HA, HK5, HB⟩ := hrel
                cases gk with
                | zero => exact absurd HA.out (by simp [comb_Index.l2])
                | succ k5 =>
                 have H := HA.out
                 clear HA
                 simp only [comb_Index.l2] at H
                 by_cases c21 : x13_5 < t153
                 ·
                  rw [if_pos c21] at H
                  have c21b0 : decide (x13_5 < t153) = true := decide_eq_true c21
                  clear c21
                  replace H := Option.bind_eq_some_iff.mp H
                  obtain ⟨t155, A220, H⟩ := H
                  replace H : (comb_Index.l2 k5 l0 x4_3 (IntKind.u64.wrap (x8_5 + (IntKind.u64.wrap (2 * t155)))) (rd l0 x38_3) (wrap64 ((wrap64 ((l0.length : Int) - x38_3)) - 1)) t153 (wrap64 (x13_5 + 1)) l0 (l0.length : Int) x38_3) = some (r1, r2) := H
                  have A22 := zm A220
                  clear A220
                  have H' := zm H
                  clear H
                  obtain ⟨ia1, ib1, ic1, id1⟩ := comb_table.inn A22.out
                  have hcl1 := (HB.out.cell (zb W0 _ (comb_table.look hbn.out A22.out))).trans (comb_table.look hbn.out A22.out)
                  go_wp2
                  go_roundg k5
                  case measure => have := HJ1.out; have := HK2.out; have := HK3.out; have := HJ16.out; have := HK5.out; omega
                  case rel => exact ⟨(IntKind.u64.wrap (x8_5 + (IntKind.u64.wrap (2 * t155)))), (wrap64 (x13_5 + 1)), (by first | rfl | (simp; done) | (simp [*]; done)), (by first | rfl | (simp; done) | (simp [*]; done)), H', ⟨by have := HJ1.out; have := HK2.out; have := HK3.out; have := HJ16.out; have := HK5.out; omega⟩, ⟨by repeat (first | (with_reducible first | exact HB.out | apply ze | apply zd | apply zf) | exact HB.out)⟩⟩
                 ·
                  rw [if_neg c21] at H
                  have c21b0 : decide (x13_5 < t153) = false := decide_eq_false c21
                  clear c21
                  by_cases c23 : (rd l0 x38_3) < 0
                  ·
                   rw [if_pos c23] at H
                   have c23b0 : decide ((rd l0 x38_3) < 0) = true := decide_eq_true c23
                   clear c23
                   replace H := Option.bind_eq_some_iff.mp H
                   obtain ⟨t156, A240, H⟩ := H
                   replace H : (comb_Index.l1 k5 l0 (wrap64 (x4_3 - t153)) (IntKind.u64.wrap (x8_5 + t156)) l0 (l0.length : Int) (wrap64 (x38_3 + 1))) = some (r1, r2) := H
                   have A24 := zm A240
                   clear A240
                   have H' := zm H
                   clear H
                   obtain ⟨ia2, ib2, ic2, id2⟩ := comb_table.inn A24.out
                   have hcl2 := (HB.out.cell (zb W0 _ (comb_table.look hbn.out A24.out))).trans (comb_table.look hbn.out A24.out)
                   go_wp2
                   go_roundg k5
                   case measure => have := HJ1.out; have := HK2.out; have := HK3.out; have := HJ16.out; have := HK5.out; omega
                   case rel => exact ⟨(wrap64 (x4_3 - t153)), (IntKind.u64.wrap (x8_5 + t156)), (wrap64 (x38_3 + 1)), (by first | rfl | (simp; done) | (simp [*]; done)), (by first | rfl | (simp; done) | (simp [*]; done)), (by first | rfl | (simp; done) | (simp [*]; done)), H', ⟨by have := HJ1.out; have := HK2.out; have := HK3.out; have := HJ16.out; have := HK5.out; omega⟩, ⟨by repeat (first | (with_reducible first | exact HB.out | apply ze | apply zd | apply zf) | exact HB.out)⟩⟩
                  ·
                   rw [if_neg c23] at H
                   have c23b0 : decide ((rd l0 x38_3) < 0) = false := decide_eq_false c23
                   clear c23
                   have H' := zm H
                   clear H
                   go_wp2
                   go_roundg k5
                   case measure => have := HJ1.out; have := HK2.out; have := HK3.out; have := HJ16.out; have := HK5.out; omega
                   case rel => exact ⟨(wrap64 (x4_3 - t153)), (x8_5), (wrap64 (x38_3 + 1)), (by first | rfl | (simp; done) | (simp [*]; done)), (by first | rfl | (simp; done) | (simp [*]; done)), (by first | rfl | (simp; done) | (simp [*]; done)), H', ⟨by have := HJ1.out; have := HK2.out; have := HK3.out; have := HJ16.out; have := HK5.out; omega⟩, ⟨by repeat (first | (with_reducible first | exact HB.out | apply ze | apply zd | apply zf) | exact HB.out)⟩⟩
            ·
             rw [if_neg c15] at H
             exact absurd H (by simp)
           ·
            rw [if_neg c14] at H
            exact absurd H (by simp)
          ·
           rw [if_neg c13] at H
           have c13b0 : decide (x38_3 < (l0.length : Int)) = false := decide_eq_false c13
           clear c13
           simp only [Option.some.injEq, Prod.mk.injEq] at H
           obtain ⟨rfl, rfl⟩ := H
           go_wp2
           go_ret2
           exact ⟨by first | rfl | (simp [errW_none, errW_some] <;> rfl) | (simp [*, errW_none, errW_some] <;> rfl), zJ hb0 (by repeat (first | (with_reducible first | exact HB.out | apply ze | apply zd | apply zf) | exact HB.out))⟩

end Go.Proofs.Ytllgjhenbchkfaa.Prt

namespace Go.Proofs.Ytllgjhenbchkfaa.Prt
open Go.RowKit Go.Proofs.YtllgjhenbchkfaaW.PrintWords Go.Proofs.YtllgjhenbchkfaaW.PrintLast Go.Proofs.YtllgjhenbchkfaaW.PrintMore
attribute [local go_sem] max2_int min2_int max_two min_two max_three min_three max_four min_four   -- for this text's walks alone
set_option linter.unusedVariables false
set_option linter.unusedSimpArgs false

/-! ### num_size: function 38 -/
def num_size.f (a0 : Int) : Option (Int) := if a0 < 0 then (some (IntKind.u64.wrap (-(IntKind.u64.wrap (a0))))) else (some (IntKind.u64.wrap (a0)))
set_option maxHeartbeats 8000000 in
set_option maxRecDepth 100000 in
theorem num_size.calls (a0 : Int) (r : Int) (w : World) (h : num_size.f a0 = some r) :
  Calls Try.prog 38 #[.int .i64 a0] w fun e w' => e = .returned (.int .u64 r) ∧ Drawn0 w w' := by
 have H : (if a0 < 0 then (some (IntKind.u64.wrap (-(IntKind.u64.wrap (a0))))) else (some (IntKind.u64.wrap (a0)))) = some r := h
 clear h
 by_cases c2 : a0 < 0
 ·
  rw [if_pos c2] at H
  have c2b0 : decide (a0 < 0) = true := decide_eq_true c2
  clear c2
  obtain rfl := Option.some.inj H
  go_enter Try.func38, Try.ntmps38
  go_wp2
  go_ret
  exact ⟨by first | rfl | (simp; done) | (simp [*]; done), by repeat (first | exact Drawn0.refl _ | apply Drawn0.step)⟩
 ·
  rw [if_neg c2] at H
  have c2b0 : decide (a0 < 0) = false := decide_eq_false c2
  clear c2
  obtain rfl := Option.some.inj H
  go_enter Try.func38, Try.ntmps38
  go_wp2
  go_ret
  exact ⟨by first | rfl | (simp; done) | (simp [*]; done), by repeat (first | exact Drawn0.refl _ | apply Drawn0.step)⟩

end Go.Proofs.Ytllgjhenbchkfaa.Prt

namespace Go.Proofs.Ytllgjhenbchkfaa.Prt
open Go.RowKit Go.Proofs.YtllgjhenbchkfaaW.PrintWords Go.Proofs.YtllgjhenbchkfaaW.PrintLast Go.Proofs.YtllgjhenbchkfaaW.PrintMore
attribute [local go_sem] max2_int min2_int max_two min_two max_three min_three max_four min_four   -- for this text's walks alone
set_option linter.unusedVariables false
set_option linter.unusedSimpArgs false

/-! ### num_Div: function 30 -/
def num_Div.f (a0 : Int) (a1 : Int) : Option (Int × Int) := if a1 < 1 then (some (0, 1)) else ((num_size.f a0).bind fun t157 => (if (IntKind.u64.wrap (a1)) = 0 then (none) else (if (Int.tmod t157 (IntKind.u64.wrap (a1))) ≥ (IntKind.u64.wrap ((IntKind.u64.wrap (a1)) - (Int.tmod t157 (IntKind.u64.wrap (a1))))) then (if a0 < 0 then (some (wrap64 (IntKind.u64.wrap (-(IntKind.u64.wrap ((IntKind.u64.wrap (Int.tdiv t157 (IntKind.u64.wrap (a1)))) + 1)))), 0)) else (some (wrap64 (IntKind.u64.wrap ((IntKind.u64.wrap (Int.tdiv t157 (IntKind.u64.wrap (a1)))) + 1)), 0))) else (if a0 < 0 then (some (wrap64 (IntKind.u64.wrap (-(IntKind.u64.wrap (Int.tdiv t157 (IntKind.u64.wrap (a1)))))), 0)) else (some (wrap64 (IntKind.u64.wrap (Int.tdiv t157 (IntKind.u64.wrap (a1)))), 0))))))
set_option maxHeartbeats 8000000 in
set_option maxRecDepth 100000 in
theorem num_Div.calls (a0 : Int) (a1 : Int) (r1 : Int) (r2 : Int) (w : World) (h : num_Div.f a0 a1 = some (r1, r2)) :
  Calls Try.prog 30 #[.int .i64 a0, .int .i64 a1] w fun e w' => e = .returned (.tuple #[.int .i64 r1, .int .i64 r2]) ∧ Drawn0 w w' := by
 have H : (if a1 < 1 then (some (0, 1)) else ((num_size.f a0).bind fun t157 => (if (IntKind.u64.wrap (a1)) = 0 then (none) else (if (Int.tmod t157 (IntKind.u64.wrap (a1))) ≥ (IntKind.u64.wrap ((IntKind.u64.wrap (a1)) - (Int.tmod t157 (IntKind.u64.wrap (a1))))) then (if a0 < 0 then (some (wrap64 (IntKind.u64.wrap (-(IntKind.u64.wrap ((IntKind.u64.wrap (Int.tdiv t157 (IntKind.u64.wrap (a1)))) + 1)))), 0)) else (some (wrap64 (IntKind.u64.wrap ((IntKind.u64.wrap (Int.tdiv t157 (IntKind.u64.wrap (a1)))) + 1)), 0))) else (if a0 < 0 then (some (wrap64 (IntKind.u64.wrap (-(IntKind.u64.wrap (Int.tdiv t157 (IntKind.u64.wrap (a1)))))), 0)) else (some (wrap64 (IntKind.u64.wrap (Int.tdiv t157 (IntKind.u64.wrap (a1)))), 0))))))) = some (r1, r2) := h
 clear h
 by_cases c3 : a1 < 1
 ·
  rw [if_pos c3] at H
  have c3b0 : decide (a1 < 1) = true := decide_eq_true c3
  clear c3
  simp only [Option.some.injEq, Prod.mk.injEq] at H
  obtain ⟨rfl, rfl⟩ := H
  go_enter Try.func30, Try.ntmps30
  go_wp2
  repeat (go_quiet (fail); try go_wp2)
  go_ret2
  exact ⟨by first | rfl | (simp; done) | (simp [*]; done), by repeat (first | exact Drawn0.refl _ | apply Drawn0.step)⟩
 ·
  rw [if_neg c3] at H
  have c3b0 : decide (a1 < 1) = false := decide_eq_false c3
  clear c3
  replace H := Option.bind_eq_some_iff.mp H
  obtain ⟨t157, A40, H⟩ := H
  replace H : (if (IntKind.u64.wrap (a1)) = 0 then (none) else (if (Int.tmod t157 (IntKind.u64.wrap (a1))) ≥ (IntKind.u64.wrap ((IntKind.u64.wrap (a1)) - (Int.tmod t157 (IntKind.u64.wrap (a1))))) then (if a0 < 0 then (some (wrap64 (IntKind.u64.wrap (-(IntKind.u64.wrap ((IntKind.u64.wrap (Int.tdiv t157 (IntKind.u64.wrap (a1)))) + 1)))), 0)) else (some (wrap64 (IntKind.u64.wrap ((IntKind.u64.wrap (Int.tdiv t157 (IntKind.u64.wrap (a1)))) + 1)), 0))) else (if a0 < 0 then (some (wrap64 (IntKind.u64.wrap (-(IntKind.u64.wrap (Int.tdiv t157 (IntKind.u64.wrap (a1)))))), 0)) else (some (wrap64 (IntKind.u64.wrap (Int.tdiv t157 (IntKind.u64.wrap (a1)))), 0))))) = some (r1, r2) := H
  have A4 := zm A40
  clear A40
  by_cases c5 : (IntKind.u64.wrap (a1)) = 0
  ·
   rw [if_pos c5] at H
   exact absurd H (by simp)
  ·
   rw [if_neg c5] at H
   have c5b0 : ((IntKind.u64.wrap (a1)) == 0) = false := beq_eq_false_iff_ne.mpr c5
   have c5b1 : ((IntKind.u64.wrap (a1)) != 0) = true := bne_iff_ne.mpr c5
   by_cases c6 : (Int.tmod t157 (IntKind.u64.wrap (a1))) ≥ (IntKind.u64.wrap ((IntKind.u64.wrap (a1)) - (Int.tmod t157 (IntKind.u64.wrap (a1)))))
   ·
    rw [if_pos c6] at H
    have c6b0 : decide ((IntKind.u64.wrap ((IntKind.u64.wrap (a1)) - (Int.tmod t157 (IntKind.u64.wrap (a1))))) ≤ (Int.tmod t157 (IntKind.u64.wrap (a1)))) = true := decide_eq_true c6
    clear c6
    by_cases c7 : a0 < 0
    ·
     rw [if_pos c7] at H
     have c7b0 : decide (a0 < 0) = true := decide_eq_true c7
     clear c7
     simp only [Option.some.injEq, Prod.mk.injEq] at H
     obtain ⟨rfl, rfl⟩ := H
     go_enter Try.func30, Try.ntmps30
     go_wp2_with (first | (go_at_call 38; (with_reducible refine (num_size.calls a0 t157 _ A4.out).mono ?_); rintro e w' ⟨rfl, ⟨nd, rfl⟩⟩; (try first | exact ⟨rfl, _, World.drewN_drewN _ _ _⟩ | exact ⟨rfl, _, Eq.trans (World.drewN_drewN _ _ _) (congrArg (World.drewN _) (Nat.add_assoc _ _ _))⟩)))
     repeat (go_quiet (first | (go_at_call 38; (with_reducible refine (num_size.calls a0 t157 _ A4.out).mono ?_); rintro e w' ⟨rfl, ⟨nd, rfl⟩⟩; (try first | exact ⟨rfl, _, World.drewN_drewN _ _ _⟩ | exact ⟨rfl, _, Eq.trans (World.drewN_drewN _ _ _) (congrArg (World.drewN _) (Nat.add_assoc _ _ _))⟩))); try go_wp2_with (first | (go_at_call 38; (with_reducible refine (num_size.calls a0 t157 _ A4.out).mono ?_); rintro e w' ⟨rfl, ⟨nd, rfl⟩⟩; (try first | exact ⟨rfl, _, World.drewN_drewN _ _ _⟩ | exact ⟨rfl, _, Eq.trans (World.drewN_drewN _ _ _) (congrArg (World.drewN _) (Nat.add_assoc _ _ _))⟩))))
     go_ret2
     exact ⟨by first | rfl | (simp; done) | (simp [*]; done), by repeat (first | exact Drawn0.refl _ | apply Drawn0.step)⟩
    ·
     rw [if_neg c7] at H
     have c7b0 : decide (a0 < 0) = false := decide_eq_false c7
     clear c7
     simp only [Option.some.injEq, Prod.mk.injEq] at H
     obtain ⟨rfl, rfl⟩ := H
     go_enter Try.func30, Try.ntmps30
     go_wp2_with (first | (go_at_call 38; (with_reducible refine (num_size.calls a0 t157 _ A4.out).mono ?_); rintro e w' ⟨rfl, ⟨nd, rfl⟩⟩; (try first | exact ⟨rfl, _, World.drewN_drewN _ _ _⟩ | exact ⟨rfl, _, Eq.trans (World.drewN_drewN _ _ _) (congrArg (World.drewN _) (Nat.add_assoc _ _ _))⟩)))
     repeat (go_quiet (first | (go_at_call 38; (with_reducible refine (num_size.calls a0 t157 _ A4.out).mono ?_); rintro e w' ⟨rfl, ⟨nd, rfl⟩⟩; (try first | exact ⟨rfl, _, World.drewN_drewN _ _ _⟩ | exact ⟨rfl, _, Eq.trans (World.drewN_drewN _ _ _) (congrArg (World.drewN _) (Nat.add_assoc _ _ _))⟩))); try go_wp2_with (first | (go_at_call 38; (with_reducible refine (num_size.calls a0 t157 _ A4.out).mono ?_); rintro e w' ⟨rfl, ⟨nd, rfl⟩⟩; (try first | exact ⟨rfl, _, World.drewN_drewN _ _ _⟩ | exact ⟨rfl, _, Eq.trans (World.drewN_drewN _ _ _) (congrArg (World.drewN _) (Nat.add_assoc _ _ _))⟩))))
     go_ret2
     exact ⟨by first | rfl | (simp; done) | (simp [*]; done), by repeat (first | exact Drawn0.refl _ | apply Drawn0.step)⟩
   ·
    rw [if_neg c6] at H
    have c6b0 : decide ((IntKind.u64.wrap ((IntKind.u64.wrap (a1)) - (Int.tmod t157 (IntKind.u64.wrap (a1))))) ≤ (Int.tmod t157 (IntKind.u64.wrap (a1)))) = false := decide_eq_false c6
    clear c6
    by_cases c8 : a0 < 0
    ·
     rw [if_pos c8] at H
     have c8b0 : decide (a0 < 0) = true := decide_eq_true c8
     clear c8
     simp only [Option.some.injEq, Prod.mk.injEq] at H
     obtain ⟨rfl, rfl⟩ := H
     go_enter Try.func30, Try.ntmps30
     go_wp2_with (first | (go_at_call 38; (with_reducible refine (num_size.calls a0 t157 _ A4.out).mono ?_); rintro e w' ⟨rfl, ⟨nd, rfl⟩⟩; (try first | exact ⟨rfl, _, World.drewN_drewN _ _ _⟩ | exact ⟨rfl, _, Eq.trans (World.drewN_drewN _ _ _) (congrArg (World.drewN _) (Nat.add_assoc _ _ _))⟩)))
     repeat (go_quiet (first | (go_at_call 38; (with_reducible refine (num_size.calls a0 t157 _ A4.out).mono ?_); rintro e w' ⟨rfl, ⟨nd, rfl⟩⟩; (try first | exact ⟨rfl, _, World.drewN_drewN _ _ _⟩ | exact ⟨rfl, _, Eq.trans (World.drewN_drewN _ _ _) (congrArg (World.drewN _) (Nat.add_assoc _ _ _))⟩))); try go_wp2_with (first | (go_at_call 38; (with_reducible refine (num_size.calls a0 t157 _ A4.out).mono ?_); rintro e w' ⟨rfl, ⟨nd, rfl⟩⟩; (try first | exact ⟨rfl, _, World.drewN_drewN _ _ _⟩ | exact ⟨rfl, _, Eq.trans (World.drewN_drewN _ _ _) (congrArg (World.drewN _) (Nat.add_assoc _ _ _))⟩))))
     go_ret2
     exact ⟨by first | rfl | (simp; done) | (simp [*]; done), by repeat (first | exact Drawn0.refl _ | apply Drawn0.step)⟩
    ·
     rw [if_neg c8] at H
     have c8b0 : decide (a0 < 0) = false := decide_eq_false c8
     clear c8
     simp only [Option.some.injEq, Prod.mk.injEq] at H
     obtain ⟨rfl, rfl⟩ := H
     go_enter Try.func30, Try.ntmps30
     go_wp2_with (first | (go_at_call 38; (with_reducible refine (num_size.calls a0 t157 _ A4.out).mono ?_); rintro e w' ⟨rfl, ⟨nd, rfl⟩⟩; (try first | exact ⟨rfl, _, World.drewN_drewN _ _ _⟩ | exact ⟨rfl, _, Eq.trans (World.drewN_drewN _ _ _) (congrArg (World.drewN _) (Nat.add_assoc _ _ _))⟩)))
     repeat (go_quiet (first | (go_at_call 38; (with_reducible refine (num_size.calls a0 t157 _ A4.out).mono ?_); rintro e w' ⟨rfl, ⟨nd, rfl⟩⟩; (try first | exact ⟨rfl, _, World.drewN_drewN _ _ _⟩ | exact ⟨rfl, _, Eq.trans (World.drewN_drewN _ _ _) (congrArg (World.drewN _) (Nat.add_assoc _ _ _))⟩))); try go_wp2_with (first | (go_at_call 38; (with_reducible refine (num_size.calls a0 t157 _ A4.out).mono ?_); rintro e w' ⟨rfl, ⟨nd, rfl⟩⟩; (try first | exact ⟨rfl, _, World.drewN_drewN _ _ _⟩ | exact ⟨rfl, _, Eq.trans (World.drewN_drewN _ _ _) (congrArg (World.drewN _) (Nat.add_assoc _ _ _))⟩))))
     go_ret2
     exact ⟨by first | rfl | (simp; done) | (simp [*]; done), by repeat (first | exact Drawn0.refl _ | apply Drawn0.step)⟩

end Go.Proofs.Ytllgjhenbchkfaa.Prt
