-- Functions of the program and of the document as plain Lean, each with the proof that the code comes to it. Written by a program of this session (wip/tools/myprint.py, pack.py) over the kit's printer; Lean checks it.
import Derived.Test.YtbaaedpjaanjnaaZAllocApartPrt0
import Derived.Test.YtbaaedpjaanjnaaZAllocApartM2
namespace Go.Proofs.Ytbaaedpjaanjnaa.Prt
open Go.RowKit Go.Proofs.YtbaaedpjaanjnaaW.PrintWords Go.Proofs.YtbaaedpjaanjnaaW.PrintLast Go.Proofs.YtbaaedpjaanjnaaW.PrintMore
attribute [local go_sem] max2_int min2_int max_two min_two max_three min_three max_four min_four   -- for this text's walks alone
set_option linter.unusedVariables false
set_option linter.unusedSimpArgs false

/-! ### psalteryref11_Right: function 27 -/
def psalteryref11_Right.l0 : Nat → List Int → Bool → Int → Option (Bool)
 | 0, _, _, _ => none
 | k + 1, x0, x3, x4 => if x4 < (x0.length : Int) then (if x3 = true then (if 0 ≤ x4 then (if (rd x0 x4) ≥ 0 then (psalteryref11_Right.l0 k x0 (decide ((rd x0 x4) ≤ 44)) (wrap64 (x4 + 1))) else (psalteryref11_Right.l0 k x0 false (wrap64 (x4 + 1)))) else (none)) else (psalteryref11_Right.l0 k x0 false (wrap64 (x4 + 1)))) else (some x3)
def psalteryref11_Right.f (k : Nat) (l0 : List Int) : Option (Bool) := psalteryref11_Right.l0 k l0 ((l0.length : Int) == 5) 0
theorem psalteryref11_Right.mono_l : ∀ k, (∀ y0 y1 y2, LeO (psalteryref11_Right.l0 k y0 y1 y2) (psalteryref11_Right.l0 (k + 1) y0 y1 y2))
 | 0 => fun _ _ _ r h => by simp [psalteryref11_Right.l0] at h
 | k + 1 => by
  have ih0 := psalteryref11_Right.mono_l k
  ·
   intro y0 y1 y2
   unfold psalteryref11_Right.l0
   repeat' first
   | (with_reducible exact ih0 _ _ _)
   | (with_reducible exact LeO.refl _)
   | (with_reducible exact LeO.none _)
   | (with_reducible refine LeO.ite ?_ ?_)
   | (with_reducible refine LeO.bind ?_ (fun _ => ?_))
   | exact ih0 _ _ _
   | exact LeO.none _
   | refine LeO.ite ?_ ?_
   | refine LeO.bind ?_ (fun _ => ?_)
theorem psalteryref11_Right.mono : ∀ a0 k, LeO (psalteryref11_Right.f k a0) (psalteryref11_Right.f (k + 1) a0) := by
 intro a0 k
 have ih0 := psalteryref11_Right.mono_l k
 unfold psalteryref11_Right.f
 repeat' first
   | (with_reducible exact ih0 _ _ _)
   | (with_reducible exact LeO.refl _)
   | (with_reducible exact LeO.none _)
   | (with_reducible refine LeO.ite ?_ ?_)
   | (with_reducible refine LeO.bind ?_ (fun _ => ?_))
   | exact ih0 _ _ _
   | exact LeO.none _
   | refine LeO.ite ?_ ?_
   | refine LeO.bind ?_ (fun _ => ?_)
set_option maxHeartbeats 8000000 in
set_option maxRecDepth 100000 in
theorem psalteryref11_Right.calls (k : Nat) (A0 : Option Addr) (c0 : Nat) (l0 : List Int) (r : Bool) (w : World) (hr0 : Kd.C (Kd.int .i64) w A0 l0.length l0) (hc0 : l0.length ≤ c0) (h : psalteryref11_Right.f k l0 = some r) :
  Calls Try.prog 27 #[.slice A0 l0.length c0] w fun e w' => e = .returned (.bool r) ∧ Drawn0 w w' := by
 have HR0 := zm hr0
 have HC0 := zm hc0
 clear hr0 hc0
 have H : (psalteryref11_Right.l0 k l0 ((l0.length : Int) == 5) 0) = some r := h
 clear h
 have H' := zm H
 clear H
 go_enter Try.func27, Try.ntmps27
 go_wp2
 go_loopg [3, 4] k (fun kq v3 v4 w' => ∃ (x3_1 : Bool) (x4_1 : Int), v3 = .bool x3_1 ∧ v4 = .int .i64 x4_1 ∧ Aside0 (psalteryref11_Right.l0 kq l0 x3_1 x4_1 = some r) ∧ Aside0 (kq ≤ k) ∧ Drawn0 w w')
 case atStart => exact ⟨(((l0.length : Int) == 5)), (0), (by first | rfl | (simp; done) | (simp [*]; done)), (by first | rfl | (simp; done) | (simp [*]; done)), H', ⟨Nat.le_refl _⟩, by repeat (first | exact Drawn0.refl _ | apply Drawn0.step)⟩
 case round =>
  clear H'
  obtain ⟨x3_1, x4_1, rfl, rfl, HA, HK1, ⟨m1, rfl⟩⟩ := hrel
  cases gk with
  | zero => exact absurd HA.out (by simp [psalteryref11_Right.l0])
  | succ k1 =>
   have H := HA.out
   clear HA
   simp only [psalteryref11_Right.l0] at H
   by_cases c2 : x4_1 < (l0.length : Int)
   ·
    rw [if_pos c2] at H
    have c2b0 : decide (x4_1 < (l0.length : Int)) = true := decide_eq_true c2
    clear c2
    by_cases c3 : x3_1 = true
    ·
     subst c3
     have H1 : (if 0 ≤ x4_1 then (if (rd l0 x4_1) ≥ 0 then (psalteryref11_Right.l0 k1 l0 (decide ((rd l0 x4_1) ≤ 44)) (wrap64 (x4_1 + 1))) else (psalteryref11_Right.l0 k1 l0 false (wrap64 (x4_1 + 1)))) else (none)) = some r := by rw [if_pos rfl] at H; exact H
     clear H
     have H := H1
     clear H1
     by_cases c4 : 0 ≤ x4_1
     ·
      rw [if_pos c4] at H
      have c4b0 : decide (0 ≤ x4_1) = true := decide_eq_true c4
      clear c4
      by_cases c5 : (rd l0 x4_1) ≥ 0
      ·
       rw [if_pos c5] at H
       have c5b0 : decide (0 ≤ (rd l0 x4_1)) = true := decide_eq_true c5
       clear c5
       have H' := zm H
       clear H
       have p201 : 0 ≤ (x4_1 : Int) := of_decide_eq_true (by first | (with_reducible assumption) | assumption)
       have q201 : x4_1 < (l0.length : Int) := of_decide_eq_true (by first | (with_reducible assumption) | assumption)
       obtain ⟨ad201, e201, hx201_0⟩ := Kd.at_int HR0.out x4_1 p201 q201
       cases e201
       replace p201 := eq_true p201
       replace q201 := eq_true q201
       have p202 : 0 ≤ (x4_1 : Int) := of_decide_eq_true (by first | (with_reducible assumption) | assumption)
       have q202 : x4_1 < (l0.length : Int) := of_decide_eq_true (by first | (with_reducible assumption) | assumption)
       obtain ⟨ad202, e202, hx202_0⟩ := Kd.at_int HR0.out x4_1 p202 q202
       obtain rfl : ad201 = ad202 := (by injection e202)
       replace p202 := eq_true p202
       replace q202 := eq_true q202
       go_wp2
       go_roundg k1
       case measure => have := HK1.out; omega
       case rel => exact ⟨(decide ((rd l0 x4_1) ≤ 44)), (wrap64 (x4_1 + 1)), (by first | rfl | (simp; done) | (simp [*]; done)), (by first | rfl | (simp; done) | (simp [*]; done)), H', ⟨by have := HK1.out; omega⟩, by repeat (first | exact Drawn0.refl _ | apply Drawn0.step)⟩
      ·
       rw [if_neg c5] at H
       have c5b0 : decide (0 ≤ (rd l0 x4_1)) = false := decide_eq_false c5
       clear c5
       have H' := zm H
       clear H
       have p201 : 0 ≤ (x4_1 : Int) := of_decide_eq_true (by first | (with_reducible assumption) | assumption)
       have q201 : x4_1 < (l0.length : Int) := of_decide_eq_true (by first | (with_reducible assumption) | assumption)
       obtain ⟨ad201, e201, hx201_0⟩ := Kd.at_int HR0.out x4_1 p201 q201
       cases e201
       replace p201 := eq_true p201
       replace q201 := eq_true q201
       go_wp2
       go_roundg k1
       case measure => have := HK1.out; omega
       case rel => exact ⟨(false), (wrap64 (x4_1 + 1)), (by first | rfl | (simp; done) | (simp [*]; done)), (by first | rfl | (simp; done) | (simp [*]; done)), H', ⟨by have := HK1.out; omega⟩, by repeat (first | exact Drawn0.refl _ | apply Drawn0.step)⟩
     ·
      rw [if_neg c4] at H
      exact absurd H (by simp)
    ·
     replace c3 := Bool.eq_false_iff.mpr c3
     subst c3
     have H1 : (psalteryref11_Right.l0 k1 l0 false (wrap64 (x4_1 + 1))) = some r := by rw [if_neg (show ¬ (false = true) by decide)] at H; exact H
     clear H
     have H := H1
     clear H1
     have H' := zm H
     clear H
     go_wp2
     go_roundg k1
     case measure => have := HK1.out; omega
     case rel => exact ⟨(false), (wrap64 (x4_1 + 1)), (by first | rfl | (simp; done) | (simp [*]; done)), (by first | rfl | (simp; done) | (simp [*]; done)), H', ⟨by have := HK1.out; omega⟩, by repeat (first | exact Drawn0.refl _ | apply Drawn0.step)⟩
   ·
    rw [if_neg c2] at H
    have c2b0 : decide (x4_1 < (l0.length : Int)) = false := decide_eq_false c2
    clear c2
    obtain rfl := Option.some.inj H
    go_wp2
    go_ret
    exact ⟨by first | rfl | (simp; done) | (simp [*]; done), by repeat (first | exact Drawn0.refl _ | apply Drawn0.step)⟩

end Go.Proofs.Ytbaaedpjaanjnaa.Prt

namespace Go.Proofs.Ytbaaedpjaanjnaa.Prt
open Go.RowKit Go.Proofs.YtbaaedpjaanjnaaW.PrintWords Go.Proofs.YtbaaedpjaanjnaaW.PrintLast Go.Proofs.YtbaaedpjaanjnaaW.PrintMore
attribute [local go_sem] max2_int min2_int max_two min_two max_three min_three max_four min_four   -- for this text's walks alone
set_option linter.unusedVariables false
set_option linter.unusedSimpArgs false

/-! ### psalteryref12_Fair: function 16 -/
def psalteryref12_Fair.l0 : Nat → List (List Int) → Int → Option (Bool)
 | 0, _, _ => none
 | k + 1, x1, x5 => if x5 < (x1.length : Int) then (if 0 ≤ x5 then ((psalteryref11_Right.f k (rd_L1 x1 x5)).bind fun t204 => (if t204 = true then (psalteryref12_Fair.l0 k x1 (wrap64 (x5 + 1))) else (some false))) else (none)) else (some true)
def psalteryref12_Fair.f (k : Nat) (a0 : Int) (l1 : List (List Int)) : Option (Bool) := if (l1.length : Int) = a0 then (psalteryref12_Fair.l0 k l1 0) else (some false)
theorem psalteryref12_Fair.mono_l : ∀ k, (∀ y0 y1, LeO (psalteryref12_Fair.l0 k y0 y1) (psalteryref12_Fair.l0 (k + 1) y0 y1))
 | 0 => fun _ _ r h => by simp [psalteryref12_Fair.l0] at h
 | k + 1 => by
  have ih0 := psalteryref12_Fair.mono_l k
  ·
   intro y0 y1
   unfold psalteryref12_Fair.l0
   repeat' first
   | (with_reducible exact ih0 _ _)
   | (with_reducible exact psalteryref11_Right.mono _ _)
   | (with_reducible exact LeO.refl _)
   | (with_reducible exact LeO.none _)
   | (with_reducible refine LeO.ite ?_ ?_)
   | (with_reducible refine LeO.bind ?_ (fun _ => ?_))
   | exact ih0 _ _
   | exact psalteryref11_Right.mono _ _
   | exact LeO.none _
   | refine LeO.ite ?_ ?_
   | refine LeO.bind ?_ (fun _ => ?_)
theorem psalteryref12_Fair.mono : ∀ a0 a1 k, LeO (psalteryref12_Fair.f k a0 a1) (psalteryref12_Fair.f (k + 1) a0 a1) := by
 intro a0 a1 k
 have ih0 := psalteryref12_Fair.mono_l k
 unfold psalteryref12_Fair.f
 repeat' first
   | (with_reducible exact ih0 _ _)
   | (with_reducible exact psalteryref11_Right.mono _ _)
   | (with_reducible exact LeO.refl _)
   | (with_reducible exact LeO.none _)
   | (with_reducible refine LeO.ite ?_ ?_)
   | (with_reducible refine LeO.bind ?_ (fun _ => ?_))
   | exact ih0 _ _
   | exact psalteryref11_Right.mono _ _
   | exact LeO.none _
   | refine LeO.ite ?_ ?_
   | refine LeO.bind ?_ (fun _ => ?_)
set_option maxHeartbeats 8000000 in
set_option maxRecDepth 100000 in
theorem psalteryref12_Fair.calls (k : Nat) (a0 : Int) (A1 : Option Addr) (c1 : Nat) (l1 : List (List Int)) (r : Bool) (w : World) (hr1 : Kd.C (Kd.slice 3 (Kd.int .i64)) w A1 l1.length l1) (hc1 : l1.length ≤ c1) (h : psalteryref12_Fair.f k a0 l1 = some r) :
  Calls Try.prog 16 #[.int .i64 a0, .slice A1 l1.length c1] w fun e w' => e = .returned (.bool r) ∧ Drawn0 w w' := by
 have HR1 := zm hr1
 have HC1 := zm hc1
 clear hr1 hc1
 have H : (if (l1.length : Int) = a0 then (psalteryref12_Fair.l0 k l1 0) else (some false)) = some r := h
 clear h
 by_cases c3 : (l1.length : Int) = a0
 ·
  rw [if_pos c3] at H
  have c3b0 : ((l1.length : Int) == a0) = true := beq_iff_eq.mpr c3
  have c3b1 : ((l1.length : Int) != a0) = false := bne_eq_false_iff_eq.mpr c3
  clear c3
  have H' := zm H
  clear H
  go_enter Try.func16, Try.ntmps16
  go_wp2
  go_loopg [5] k (fun kq v5 w' => ∃ (x5_1 : Int), v5 = .int .i64 x5_1 ∧ Aside0 (psalteryref12_Fair.l0 kq l1 x5_1 = some r) ∧ Aside0 (kq ≤ k) ∧ Drawn0 w w')
  case atStart => exact ⟨(0), (by first | rfl | (simp; done) | (simp [*]; done)), H', ⟨Nat.le_refl _⟩, by repeat (first | exact Drawn0.refl _ | apply Drawn0.step)⟩
  case round =>
   clear H'
   try clear c1
   try clear p2
   try clear c3
   try clear c3b0
   try clear c3b1
   obtain ⟨x5_1, rfl, HA, HK1, ⟨m1, rfl⟩⟩ := hrel
   cases gk with
   | zero => exact absurd HA.out (by simp [psalteryref12_Fair.l0])
   | succ k1 =>
    have H := HA.out
    clear HA
    simp only [psalteryref12_Fair.l0] at H
    by_cases c4 : x5_1 < (l1.length : Int)
    ·
     rw [if_pos c4] at H
     have c4b0 : decide (x5_1 < (l1.length : Int)) = true := decide_eq_true c4
     clear c4
     by_cases c5 : 0 ≤ x5_1
     ·
      rw [if_pos c5] at H
      have c5b0 : decide (0 ≤ x5_1) = true := decide_eq_true c5
      clear c5
      replace H := Option.bind_eq_some_iff.mp H
      obtain ⟨t204, A60, H⟩ := H
      replace H : (if t204 = true then (psalteryref12_Fair.l0 k1 l1 (wrap64 (x5_1 + 1))) else (some false)) = some r := H
      have A6 := zm A60
      clear A60
      by_cases c7 : t204 = true
      ·
       subst c7
       have H1 : (psalteryref12_Fair.l0 k1 l1 (wrap64 (x5_1 + 1))) = some r := by rw [if_pos rfl] at H; exact H
       clear H
       have H := H1
       clear H1
       have H' := zm H
       clear H
       have p203 : 0 ≤ (x5_1 : Int) := of_decide_eq_true (by first | (with_reducible assumption) | assumption)
       have q203 : x5_1 < (l1.length : Int) := of_decide_eq_true (by first | (with_reducible assumption) | assumption)
       obtain ⟨ad203, A203_0, c203_0, e203, hx203_0, hl203_0, hi203_0⟩ := at_L1 HR1.out x5_1 p203 q203
       cases e203
       have HR203_0 := zm hi203_0
       have HC203_0 := zm hl203_0
       clear hi203_0 hl203_0
       replace p203 := eq_true p203
       replace q203 := eq_true q203
       go_wp2_with (first | ((with_reducible refine gate_callee (f := 27) rfl ?_); refine goesL_ (some 20) rfl rfl Try.func27 (by kernel_rfl) rfl #[.slice A203_0 (rd_L1 l1 x5_1).length c203_0] rfl (by (try simp only [List.map_toArray, List.map_cons, List.map_nil]); first | done | rfl | (simp only [List.length_drop, List.length_take]; rfl)) ?_; (with_reducible refine (psalteryref11_Right.calls k1 _ _ (rd_L1 l1 x5_1) true _ ?side1 ?side2 A6.out).mono ?_); (case side1 => repeat (first | exact HR203_0.out | (with_reducible refine Kd.C_alloc ?_ _) | (with_reducible refine Kd.C_drewN ?_ _) | (with_reducible refine Kd.C_drew ?_))); (case side2 => exact HC203_0.out); rintro e w' ⟨rfl, ⟨nd, rfl⟩⟩; refine ⟨_, rfl, ?_⟩))
       go_roundg k1
       case measure => have := HK1.out; omega
       case rel => exact ⟨(wrap64 (x5_1 + 1)), (by first | rfl | (simp; done) | (simp [*]; done)), H', ⟨by have := HK1.out; omega⟩, by repeat (first | exact Drawn0.refl _ | apply Drawn0.step)⟩
      ·
       replace c7 := Bool.eq_false_iff.mpr c7
       subst c7
       have H1 : (some false) = some r := by rw [if_neg (show ¬ (false = true) by decide)] at H; exact H
       clear H
       have H := H1
       clear H1
       obtain rfl := Option.some.inj H
       have p203 : 0 ≤ (x5_1 : Int) := of_decide_eq_true (by first | (with_reducible assumption) | assumption)
       have q203 : x5_1 < (l1.length : Int) := of_decide_eq_true (by first | (with_reducible assumption) | assumption)
       obtain ⟨ad203, A203_0, c203_0, e203, hx203_0, hl203_0, hi203_0⟩ := at_L1 HR1.out x5_1 p203 q203
       cases e203
       have HR203_0 := zm hi203_0
       have HC203_0 := zm hl203_0
       clear hi203_0 hl203_0
       replace p203 := eq_true p203
       replace q203 := eq_true q203
       go_wp2_with (first | ((with_reducible refine gate_callee (f := 27) rfl ?_); refine goesL_ (some 20) rfl rfl Try.func27 (by kernel_rfl) rfl #[.slice A203_0 (rd_L1 l1 x5_1).length c203_0] rfl (by (try simp only [List.map_toArray, List.map_cons, List.map_nil]); first | done | rfl | (simp only [List.length_drop, List.length_take]; rfl)) ?_; (with_reducible refine (psalteryref11_Right.calls k1 _ _ (rd_L1 l1 x5_1) false _ ?side1 ?side2 A6.out).mono ?_); (case side1 => repeat (first | exact HR203_0.out | (with_reducible refine Kd.C_alloc ?_ _) | (with_reducible refine Kd.C_drewN ?_ _) | (with_reducible refine Kd.C_drew ?_))); (case side2 => exact HC203_0.out); rintro e w' ⟨rfl, ⟨nd, rfl⟩⟩; refine ⟨_, rfl, ?_⟩))
       go_ret
       exact ⟨by first | rfl | (simp; done) | (simp [*]; done), by repeat (first | exact Drawn0.refl _ | apply Drawn0.step)⟩
     ·
      rw [if_neg c5] at H
      exact absurd H (by simp)
    ·
     rw [if_neg c4] at H
     have c4b0 : decide (x5_1 < (l1.length : Int)) = false := decide_eq_false c4
     clear c4
     obtain rfl := Option.some.inj H
     go_wp2
     go_ret
     exact ⟨by first | rfl | (simp; done) | (simp [*]; done), by repeat (first | exact Drawn0.refl _ | apply Drawn0.step)⟩
 ·
  rw [if_neg c3] at H
  have c3b0 : ((l1.length : Int) == a0) = false := beq_eq_false_iff_ne.mpr c3
  have c3b1 : ((l1.length : Int) != a0) = true := bne_iff_ne.mpr c3
  obtain rfl := Option.some.inj H
  go_enter Try.func16, Try.ntmps16
  go_wp2
  go_ret
  exact ⟨by first | rfl | (simp; done) | (simp [*]; done), by repeat (first | exact Drawn0.refl _ | apply Drawn0.step)⟩

end Go.Proofs.Ytbaaedpjaanjnaa.Prt

namespace Go.Proofs.Ytbaaedpjaanjnaa.Prt
open Go.RowKit Go.Proofs.YtbaaedpjaanjnaaW.PrintWords Go.Proofs.YtbaaedpjaanjnaaW.PrintLast Go.Proofs.YtbaaedpjaanjnaaW.PrintMore
attribute [local go_sem] max2_int min2_int max_two min_two max_three min_three max_four min_four   -- for this text's walks alone
set_option linter.unusedVariables false
set_option linter.unusedSimpArgs false

/-! ### psalteryref12_Pulses: function 18 -/
def psalteryref12_Pulses.l0 : Nat → Int → Int → List (List Int) → List (List Int) → Int → Option ((List (List Int)))
 | 0, _, _, _, _, _ => none
 | k + 1, x0, x1, x2, x7, x8 => if x8 < (x2.length : Int) then (if 0 ≤ x8 then ((psalteryref12_Room.f x0 x1).bind fun t254 => ((psalteryref12_Channel.f k (rd_L1 x2 x8) t254).bind fun t255 => (if x7.length < 5864062014805 then (psalteryref12_Pulses.l0 k x0 x1 x2 (x7 ++ [t255]) (wrap64 (x8 + 1))) else (none)))) else (none)) else (some x7)
def psalteryref12_Pulses.f (k : Nat) (a0 : Int) (a1 : Int) (l2 : List (List Int)) : Option ((List (List Int))) := psalteryref12_Pulses.l0 k a0 a1 l2 ([] : List (List Int)) 0
theorem psalteryref12_Pulses.mono_l : ∀ k, (∀ y0 y1 y2 y3 y4, LeO (psalteryref12_Pulses.l0 k y0 y1 y2 y3 y4) (psalteryref12_Pulses.l0 (k + 1) y0 y1 y2 y3 y4))
 | 0 => fun _ _ _ _ _ r h => by simp [psalteryref12_Pulses.l0] at h
 | k + 1 => by
  have ih0 := psalteryref12_Pulses.mono_l k
  ·
   intro y0 y1 y2 y3 y4
   unfold psalteryref12_Pulses.l0
   repeat' first
   | (with_reducible exact ih0 _ _ _ _ _)
   | (with_reducible exact psalteryref12_Channel.mono _ _ _)
   | (with_reducible exact LeO.refl _)
   | (with_reducible exact LeO.none _)
   | (with_reducible refine LeO.ite ?_ ?_)
   | (with_reducible refine LeO.bind ?_ (fun _ => ?_))
   | exact ih0 _ _ _ _ _
   | exact psalteryref12_Channel.mono _ _ _
   | exact LeO.none _
   | refine LeO.ite ?_ ?_
   | refine LeO.bind ?_ (fun _ => ?_)
theorem psalteryref12_Pulses.mono : ∀ a0 a1 a2 k, LeO (psalteryref12_Pulses.f k a0 a1 a2) (psalteryref12_Pulses.f (k + 1) a0 a1 a2) := by
 intro a0 a1 a2 k
 have ih0 := psalteryref12_Pulses.mono_l k
 unfold psalteryref12_Pulses.f
 repeat' first
   | (with_reducible exact ih0 _ _ _ _ _)
   | (with_reducible exact psalteryref12_Channel.mono _ _ _)
   | (with_reducible exact LeO.refl _)
   | (with_reducible exact LeO.none _)
   | (with_reducible refine LeO.ite ?_ ?_)
   | (with_reducible refine LeO.bind ?_ (fun _ => ?_))
   | exact ih0 _ _ _ _ _
   | exact psalteryref12_Channel.mono _ _ _
   | exact LeO.none _
   | refine LeO.ite ?_ ?_
   | refine LeO.bind ?_ (fun _ => ?_)
def psalteryref12_Pulses.T5 : Bool × List (List Nat × List Nat) := (true, [([], []), ([], []), ([], []), ([1, 2], [1, 2]), ([3], [3]), ([], []), ([], []), ([5, 6], [5, 6]), ([4, 7, 7], [4, 7]), ([8], [8]), ([0, 9, 8], [0, 9]), ([10, 10, 0, 1, 2, 3, 4, 5, 6, 7, 8, 9, 10], [0, 10])])
def psalteryref12_Pulses.B5 : List Nat := [0, 0, 0, 6, 14, 0, 0, 96, 254, 510, 1023, 2047]
theorem psalteryref12_Pulses.tab5 : rtab .any (opsOf Try.f18 5) = psalteryref12_Pulses.T5 := by kernel_rfl
theorem psalteryref12_Pulses.bits5 : waitsOk psalteryref12_Pulses.T5.2 psalteryref12_Pulses.B5 = true := by kernel_rfl
set_option maxHeartbeats 8000000 in
set_option maxRecDepth 100000 in
theorem psalteryref12_Pulses.calls (k : Nat) (a0 : Int) (a1 : Int) (A2 : Option Addr) (c2 : Nat) (l2 : List (List Int)) (r : List (List Int)) (w : World) (hr2 : Kd.C (Kd.slice 3 (Kd.int .i64)) w A2 l2.length l2) (hc2 : l2.length ≤ c2) (h : psalteryref12_Pulses.f k a0 a1 l2 = some r) :
  Calls Try.prog 18 #[.int .i64 a0, .int .i64 a1, .slice A2 l2.length c2] w fun e w' => ∃ v0_ : Value, e = .returned (v0_) ∧ Kd.S (Kd.slice 3 (Kd.int .i64)) 34 w' w.heap.size (fun _ => True) v0_ r ∧ Below w.heap.size w w' := by
 have HR2 := zm hr2
 have HC2 := zm hc2
 clear hr2 hc2
 have HB := zm (Below.refl w.heap.size w)
 have H : (psalteryref12_Pulses.l0 k a0 a1 l2 ([] : List (List Int)) 0) = some r := h
 clear h
 have H' := zm H
 clear H
 go_enter Try.func18, Try.ntmps18
 go_wp2
 go_loopg [7, 8] k (fun kq v7 v8 w' => ∃ (x7_1 : List (List Int)) (x8_1 : Int), v8 = .int .i64 x8_1 ∧ Aside0 (psalteryref12_Pulses.l0 kq a0 a1 l2 x7_1 x8_1 = some r) ∧ Aside0 (kq ≤ k) ∧ Aside0 (Kd.S (Kd.slice 3 (Kd.int .i64)) 34 w' w.heap.size (fun _ => True) v7 x7_1) ∧ Aside0 (Below w.heap.size w w'))
 case atStart => exact ⟨(([] : List (List Int))), (0), (by first | rfl | (simp; done) | (simp [*]; done)), H', ⟨Nat.le_refl _⟩, ⟨by first | exact Kd.S_nil _ _ _ _ _ | exact Kd.N_nil _ _ _ _ _ | exact Kd.V_nil _ _ _ _ _ | exact Kd.Q_nil _ _ _ _ _ | exact Kd.R_nil _ _ _ _ _⟩, ⟨by repeat (first | (with_reducible first | exact HB.out | apply ze | apply zd | apply zf) | exact HB.out)⟩⟩
 case round =>
  clear H'
  try clear c1
  try clear c2
  try clear p2
  obtain ⟨x7_1, x8_1, rfl, HA, HK1, HO_7, HB⟩ := hrel
  cases gk with
  | zero => exact absurd HA.out (by simp [psalteryref12_Pulses.l0])
  | succ k1 =>
   have H := HA.out
   clear HA
   simp only [psalteryref12_Pulses.l0] at H
   by_cases c4 : x8_1 < (l2.length : Int)
   ·
    rw [if_pos c4] at H
    have c4b0 : decide (x8_1 < (l2.length : Int)) = true := decide_eq_true c4
    clear c4
    by_cases c5 : 0 ≤ x8_1
    ·
     rw [if_pos c5] at H
     have c5b0 : decide (0 ≤ x8_1) = true := decide_eq_true c5
     clear c5
     replace H := Option.bind_eq_some_iff.mp H
     obtain ⟨t254, A60, H⟩ := H
     replace H : ((psalteryref12_Channel.f k1 (rd_L1 l2 x8_1) t254).bind fun t255 => (if x7_1.length < 5864062014805 then (psalteryref12_Pulses.l0 k1 a0 a1 l2 (x7_1 ++ [t255]) (wrap64 (x8_1 + 1))) else (none))) = some r := H
     have A6 := zm A60
     clear A60
     replace H := Option.bind_eq_some_iff.mp H
     obtain ⟨t255, A70, H⟩ := H
     replace H : (if x7_1.length < 5864062014805 then (psalteryref12_Pulses.l0 k1 a0 a1 l2 (x7_1 ++ [t255]) (wrap64 (x8_1 + 1))) else (none)) = some r := H
     have A7 := zm A70
     clear A70
     by_cases c8 : x7_1.length < 5864062014805
     ·
      rw [if_pos c8] at H
      have LMc8 := zm c8
      clear c8
      obtain ⟨y258, hy258⟩ : ∃ y_ : List (List Int), y_ = (x7_1 ++ [t255]) := ⟨_, rfl⟩
      replace H : (psalteryref12_Pulses.l0 k1 a0 a1 l2 y258 (wrap64 (x8_1 + 1))) = some r := by first | (rw [hy258]; with_reducible exact H) | (have H2_ := (Option.bind_some _ _).symm.trans H; rw [hy258]; with_reducible exact H2_) | (have H2_ := (Option.bind_some _ _).symm.trans H; with_reducible exact H2_) | with_reducible exact H | (rw [hy258]; exact H) | exact H
      have Ny258 := zm hy258
      clear hy258
      have H' := zm H
      clear H
      try go_wp2
      have n0_ := zm (Kd.S_drew HO_7.out)
      have n1_ := zm (zf HB.out)
      clear HO_7
      clear HB
      have HO_7 := n0_
      have HB := n1_
      clear n0_ n1_
      have p253 : 0 ≤ (x8_1 : Int) := of_decide_eq_true (by first | (with_reducible assumption) | assumption)
      have q253 : x8_1 < (l2.length : Int) := of_decide_eq_true (by first | (with_reducible assumption) | assumption)
      obtain ⟨ad253, A253_0, c253_0, e253, hx253_0, hl253_0, hi253_0⟩ := at_L1 HR2.out x8_1 p253 q253
      have hw253_0 := hx253_0
      cases e253
      replace hx253_0 := (HB.out.cell (zb w _ hx253_0)).trans hx253_0
      have HR253_0 := zm hi253_0
      have HC253_0 := zm hl253_0
      clear hi253_0 hl253_0
      replace p253 := eq_true p253
      replace q253 := eq_true q253
      refine start_ (n := 12) (S := fun w' => w'.cell? (ad253.add (x8_1).toNat) = some (.slice A253_0 (rd_L1 l2 x8_1).length c253_0)) (ds := []) #[false, false, false, false, false, false, false, false, false, false, false, false] (by kernel_rfl) rfl rfl (((HB.out.cell (zb w _ hw253_0)).trans hw253_0)) (fun hHeld => ?_); refine with_tabW psalteryref12_Pulses.tab5 psalteryref12_Pulses.bits5 (fun HT_ HW_ => ?_)
      generalize wr.drew = w9 at HO_7 HB HR253_0 hx253_0 hHeld ⊢
      refine pure_ (i := 0) (N := some 15) (v := ?_) (a' := ?_) #[true, false, false, false, false, false, false, false, false, false, false, false] rfl rfl (any_of HT_.out (by kernel_rfl)) (fun _ _ _ h => h) (Or.inl ⟨by rfl, ?_⟩) ?_ ?_
      rotate_left
      ·
       intro w'
       go_simp
       with_reducible rfl
      rotate_left
      ·
       simp only [Act.put, List.setIfInBounds_toArray, List.set_cons_zero, List.set_cons_succ, i64_w, i32_w]
       rfl
      refine pure_ (i := 1) (N := some 16) (v := ?_) (a' := ?_) #[true, true, false, false, false, false, false, false, false, false, false, false] rfl rfl (any_of HT_.out (by kernel_rfl)) (fun _ _ _ h => h) (Or.inl ⟨by rfl, ?_⟩) ?_ ?_
      rotate_left
      ·
       intro w'
       go_simp
       with_reducible rfl
      rotate_left
      ·
       simp only [Act.put, List.setIfInBounds_toArray, List.set_cons_zero, List.set_cons_succ, i64_w, i32_w]
       rfl
      refine pure_ (i := 2) (N := some 17) (v := ?_) (a' := ?_) #[true, true, true, false, false, false, false, false, false, false, false, false] rfl rfl (any_of HT_.out (by kernel_rfl)) (fun _ _ _ h => h) (Or.inl ⟨by rfl, ?_⟩) ?_ ?_
      rotate_left
      ·
       intro w'
       go_simp
       with_reducible rfl
      rotate_left
      ·
       simp only [Act.put, List.setIfInBounds_toArray, List.set_cons_zero, List.set_cons_succ, i64_w, i32_w]
       rfl
      refine pure_ (i := 3) (N := some 18) (v := ?_) (a' := ?_) #[true, true, true, true, false, false, false, false, false, false, false, false] rfl rfl (any_of HT_.out (by kernel_rfl)) (fun _ _ _ h => h) (Or.inl ⟨by rfl, ?_⟩) ?_ ?_
      rotate_left
      ·
       intro w'
       go_simp
       with_reducible rfl
      rotate_left
      ·
       simp only [Act.put, List.setIfInBounds_toArray, List.set_cons_zero, List.set_cons_succ, i64_w, i32_w]
       rfl
      refine pure_ (i := 5) (N := some 20) (v := ?_) (a' := ?_) #[true, true, true, true, false, true, false, false, false, false, false, false] rfl rfl (any_of HT_.out (by kernel_rfl)) (fun _ _ _ h => h) (Or.inl ⟨by rfl, ?_⟩) ?_ ?_
      rotate_left
      ·
       intro w'
       go_simp
       with_reducible rfl
      rotate_left
      ·
       simp only [Act.put, List.setIfInBounds_toArray, List.set_cons_zero, List.set_cons_succ, i64_w, i32_w]
       rfl
      refine pure_ (i := 6) (N := some 21) (v := ?_) (a' := ?_) #[true, true, true, true, false, true, true, false, false, false, false, false] rfl rfl (any_of HT_.out (by kernel_rfl)) (fun _ _ _ h => h) (Or.inl ⟨by rfl, ?_⟩) ?_ ?_
      rotate_left
      ·
       intro w'
       go_simp
       with_reducible rfl
      rotate_left
      ·
       simp only [Act.put, List.setIfInBounds_toArray, List.set_cons_zero, List.set_cons_succ, i64_w, i32_w]
       rfl
      refine take_ (i := 4) (N := some 19) (v := ?_) (a' := ?_) #[true, true, true, true, true, true, true, false, false, false, false, false] rfl rfl (take_ofW HT_.out HW_.out (by kernel_rfl)) (fun _ _ _ h => h) (Or.inl ⟨by rfl, ?_⟩) hHeld ?_ ?_
      rotate_left
      ·
       intro w' s0
       go_simp
       with_reducible rfl
      rotate_left
      ·
       simp only [Act.put, List.setIfInBounds_toArray, List.set_cons_zero, List.set_cons_succ, i64_w, i32_w]
       rfl
      refine one_ (i := 7) (N := some 22) #[true, true, true, true, true, true, true, true, false, false, false, false] rfl rfl (one_of HT_.out (by kernel_rfl)) (by decide) (fun K hK => ?_)
      refine goes_ Try.func12 (by kernel_rfl) rfl #[.int .i64 a0, .int .i64 a1] (by rfl) rfl rfl (by (try simp only [List.map_toArray, List.map_cons, List.map_nil]); first | done | rfl | (simp only [List.length_drop, List.length_take]; rfl)) ?_
      with_reducible refine (psalteryref12_Room.calls a0 a1 t254 _ A6.out).mono ?_
      rintro e w' ⟨rfl, ⟨nd, rfl⟩⟩
      refine ⟨_, rfl, ?_⟩
      refine hK.out _ _ (((HB.out.cell (zb w _ hw253_0)).trans hw253_0)) (fun hHeld => ?_)
      clear hK K
      refine norm_ (a' := ?_) ?_ ?_
      rotate_left
      ·
       show Act.put _ (some 22) _ = _
       simp only [Act.put, List.setIfInBounds_toArray, List.set_cons_zero, List.set_cons_succ, i64_w, i32_w]
       rfl
      refine one_ (i := 8) (N := some 23) #[true, true, true, true, true, true, true, true, true, false, false, false] rfl rfl (one_of HT_.out (by kernel_rfl)) (by decide) (fun K hK => ?_)
      refine goes_ Try.func28 (by kernel_rfl) rfl #[.slice A253_0 (rd_L1 l2 x8_1).length c253_0, .int .i64 t254] (by rfl) rfl rfl (by (try simp only [List.map_toArray, List.map_cons, List.map_nil]); first | done | rfl | (simp only [List.length_drop, List.length_take]; rfl)) ?_
      with_reducible refine (psalteryref12_Channel.calls k1 _ _ (rd_L1 l2 x8_1) t254 t255 _ ?side1 ?side2 A7.out).mono ?_
      (case side1 => repeat (first | exact (Kd.C_below HR253_0.out (by repeat (first | (with_reducible first | exact HB.out | apply ze | apply zd | apply zf) | exact HB.out))) | (with_reducible refine Kd.C_alloc ?_ _) | (with_reducible refine Kd.C_drewN ?_ _) | (with_reducible refine Kd.C_drew ?_)))
      (case side2 => exact HC253_0.out)
      rintro e w10 ⟨v256, rfl, ho0, hb⟩
      refine ⟨_, rfl, ?_⟩
      have n0_ := zm (Kd.S_elder' (by (with_reducible repeat (first | apply Kd.S_alloc | apply Kd.S_drewN | apply Kd.S_drew)); exact HO_7.out) (Kd.R_base ho0) hb)
      have n1_ := zm (Kd.R_lower ho0 (zE (by repeat (first | (with_reducible first | exact HB.out | apply ze | apply zd | apply zf) | exact HB.out))))
      have n2_ := zm (zJ (by repeat (first | (with_reducible first | exact HB.out | apply ze | apply zd | apply zf) | exact HB.out)) hb)
      clear HO_7
      clear HB
      have HO_7 := n0_
      have HO257 := n1_
      have HB := n2_
      clear n0_ n1_ n2_
      (try clear hb)
      (try clear hb2)
      (try clear hk)
      (try clear hi)
      (try clear ho0)
      obtain ⟨Ao12, co12, eo12⟩ := Kd.R_slice HO257.out
      (first | subst eo12 | (injection eo12 with f1_ f2_ f3_; have f4_ := f1_.symm; have f5_ := f3_.symm; clear f1_ f2_ f3_; subst f4_; subst f5_))
      refine hK.out _ _ (((HB.out.cell (zb w _ hw253_0)).trans hw253_0)) (fun hHeld => ?_)
      clear hK K
      refine norm_ (a' := ?_) ?_ ?_
      rotate_left
      ·
       show Act.put _ (some 23) _ = _
       simp only [Act.put, List.setIfInBounds_toArray, List.set_cons_zero, List.set_cons_succ, i64_w, i32_w]
       rfl
      refine one_ (i := 9) (N := some 24) #[true, true, true, true, true, true, true, true, true, true, false, false] rfl rfl (one_of HT_.out (by kernel_rfl)) (by decide) (fun K hK => ?_)
      refine value_ (w1 := ?_) (v := ?_) (by rfl) rfl ?_ ?_
      rotate_left 2
      ·
       go_simp
       constructor
       ·
        rfl
       ·
        rfl
      refine hK.out _ _ ((World.cell?_alloc_lt _ _ _ (zb _ _ (((HB.out.cell (zb w _ hw253_0)).trans hw253_0)))).trans (((HB.out.cell (zb w _ hw253_0)).trans hw253_0))) (fun hHeld => ?_)
      clear hK K
      refine norm_ (a' := ?_) ?_ ?_
      rotate_left
      ·
       show Act.put _ (some 24) _ = _
       simp only [Act.put, List.setIfInBounds_toArray, List.set_cons_zero, List.set_cons_succ, i64_w, i32_w]
       rfl
      refine one_ (i := 10) (N := some 25) #[true, true, true, true, true, true, true, true, true, true, true, false] rfl rfl (one_of HT_.out (by kernel_rfl)) (by decide) (fun K hK => ?_)
      refine Kd.S_append_step (Kd.slice 3 (Kd.int .i64)) (w0 := w) w.heap.size (by rfl) (.tmp 15) (.tmp 24) 25 34 (.slice none 0 0) 24 rfl Try.underlying25 info34 rfl (by decide) (by omega) u7 x7_1 t255 [.slice Ao12 t255.length co12] (fun _ => True) (fun k_ => some k_ = (.slice Ao12 t255.length co12 : Value).ownBlock) rfl rfl ?aP (fun k_ hk_ => ((zG (ok' := fun k_ => ((fun _ => True)) k_ ∧ some k_ ≠ (u7 : Value).ownBlock) (Kd.R_apart' (HO257.out) (Kd.S_typed HO_7.out) (by decide)) (fun k_ hk => ⟨trivial, hk.2⟩))).1 k_ hk_.symm) ?aF ?aO ?aB ?aS ?aL ?_
      (case aP => exact Kd.M_row (zG (Kd.R_tight rfl (zG (ok' := fun k_ => ((fun _ => True)) k_ ∧ some k_ ≠ (u7 : Value).ownBlock) (Kd.R_apart' (HO257.out) (Kd.S_typed HO_7.out) (by decide)) (fun k_ hk => ⟨trivial, hk.2⟩))) (fun _ h_ => h_)))
      (case aB => exact (by repeat (first | (with_reducible first | exact HB.out | apply ze | apply zd | apply zf) | exact HB.out)))
      (case aF => exact (fun _ _ => trivial))
      (case aO => exact (by (with_reducible repeat (first | apply Kd.S_alloc | apply Kd.S_drewN | apply Kd.S_drew)); exact Kd.S_mono HO_7.out (fun k_ hk => ⟨trivial, fun e_ => hk.2 e_⟩)))
      (case aS => exact (zE (by repeat (first | (with_reducible first | exact HB.out | apply ze | apply zd | apply zf) | exact HB.out))))
      (case aL => have := LMc8.out; omega)
      intro v259 w11 ho hb hg hat
      rw [← Ny258.out] at ho
      have n0_ := zm (hb)
      have n1_ := zm (ho)
      clear HB
      clear HO_7
      clear HO257
      have HB := n0_
      have HO260 := n1_
      clear n0_ n1_
      clear ho hb hg hat
      refine hK.out _ _ (((HB.out.cell (zb w _ hw253_0)).trans hw253_0)) (fun hHeld => ?_)
      clear hK K
      refine norm_ (a' := ?_) ?_ ?_
      rotate_left
      ·
       show Act.put _ (some 25) _ = _
       simp only [Act.put, List.setIfInBounds_toArray, List.set_cons_zero, List.set_cons_succ, i64_w, i32_w]
       rfl
      refine pure_ (i := 11) (N := some 7) (v := ?_) (a' := ?_) #[true, true, true, true, true, true, true, true, true, true, true, true] rfl rfl (any_of HT_.out (by kernel_rfl)) (fun _ _ _ h => h) (Or.inl ⟨by rfl, ?_⟩) ?_ ?_
      rotate_left
      ·
       intro w'
       go_simp
       with_reducible rfl
      rotate_left
      ·
       simp only [Act.put, List.setIfInBounds_toArray, List.set_cons_zero, List.set_cons_succ, i64_w, i32_w]
       rfl
      refine done_ (done_of HT_.out (by kernel_rfl)) ?_
      try go_wp2
      go_roundg k1
      case measure => have := HK1.out; omega
      case rel => exact ⟨(y258), (wrap64 (x8_1 + 1)), (by first | rfl | (simp; done) | (simp [*]; done)), H', ⟨by have := HK1.out; omega⟩, ⟨by (with_reducible repeat (first | apply Kd.S_alloc | apply Kd.S_drewN | apply Kd.S_drew)); exact HO260.out⟩, ⟨by repeat (first | (with_reducible first | exact HB.out | apply ze | apply zd | apply zf) | exact HB.out)⟩⟩
     ·
      rw [if_neg c8] at H
      exact absurd H (by simp)
    ·
     rw [if_neg c5] at H
     exact absurd H (by simp)
   ·
    rw [if_neg c4] at H
    have c4b0 : decide (x8_1 < (l2.length : Int)) = false := decide_eq_false c4
    clear c4
    obtain rfl := Option.some.inj H
    go_wp2
    go_ret
    exact ⟨_, by first | rfl | (simp [errW_none, errW_some] <;> rfl) | (simp [*, errW_none, errW_some] <;> rfl), by (with_reducible repeat (first | apply Kd.S_alloc | apply Kd.S_drewN | apply Kd.S_drew)); exact HO_7.out, by repeat (first | (with_reducible first | exact HB.out | apply ze | apply zd | apply zf) | exact HB.out)⟩

end Go.Proofs.Ytbaaedpjaanjnaa.Prt
