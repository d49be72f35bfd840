-- Functions of the program and of the document as plain Lean, each with the proof that the code comes to it. Written by a program of this session (wip/tools/myprint.py, pack.py) over the kit's printer; Lean checks it.
import Derived.Test.YtllgjhenbchkfaaZPvqAlonePrt0
import Derived.Test.YtllgjhenbchkfaaZPvqAloneM1
namespace Go.Proofs.Ytllgjhenbchkfaa.Prt
open Go.RowKit Go.Proofs.YtllgjhenbchkfaaW.PrintWords Go.Proofs.YtllgjhenbchkfaaW.PrintLast Go.Proofs.YtllgjhenbchkfaaW.PrintMore
attribute [local go_sem] max2_int min2_int max_two min_two max_three min_three max_four min_four   -- for this text's walks alone
set_option linter.unusedVariables false
set_option linter.unusedSimpArgs false

/-! ### num_Sqrt: function 29 -/
def num_Sqrt.l0 : Nat → Int → Int → Int → Option (Int)
 | 0, _, _, _ => none
 | k + 1, x0, x3, x4 => if x4 > 0 then (if (Go.bits .or .u64 x3 x4) = 0 then (none) else (if (Go.bits .or .u64 x3 x4) ≤ (IntKind.u64.wrap (Int.tdiv x0 (Go.bits .or .u64 x3 x4))) then (num_Sqrt.l0 k x0 (Go.bits .or .u64 x3 x4) (x4 / 2)) else (num_Sqrt.l0 k x0 x3 (x4 / 2)))) else (some x3)
def num_Sqrt.f (k : Nat) (a0 : Int) : Option (Int) := num_Sqrt.l0 k a0 0 2147483648
theorem num_Sqrt.mono_l : ∀ k, (∀ y0 y1 y2, LeO (num_Sqrt.l0 k y0 y1 y2) (num_Sqrt.l0 (k + 1) y0 y1 y2))
 | 0 => fun _ _ _ r h => by simp [num_Sqrt.l0] at h
 | k + 1 => by
  have ih0 := num_Sqrt.mono_l k
  ·
   intro y0 y1 y2
   unfold num_Sqrt.l0
   repeat' first
   | (with_reducible exact ih0 _ _ _)
   | (with_reducible exact LeO.refl _)
   | (with_reducible exact LeO.none _)
   | (with_reducible refine LeO.ite ?_ ?_)
   | (with_reducible refine LeO.bind ?_ (fun _ => ?_))
   | exact ih0 _ _ _
   | exact LeO.none _
   | refine LeO.ite ?_ ?_
   | refine LeO.bind ?_ (fun _ => ?_)
theorem num_Sqrt.mono : ∀ a0 k, LeO (num_Sqrt.f k a0) (num_Sqrt.f (k + 1) a0) := by
 intro a0 k
 have ih0 := num_Sqrt.mono_l k
 unfold num_Sqrt.f
 repeat' first
   | (with_reducible exact ih0 _ _ _)
   | (with_reducible exact LeO.refl _)
   | (with_reducible exact LeO.none _)
   | (with_reducible refine LeO.ite ?_ ?_)
   | (with_reducible refine LeO.bind ?_ (fun _ => ?_))
   | exact ih0 _ _ _
   | exact LeO.none _
   | refine LeO.ite ?_ ?_
   | refine LeO.bind ?_ (fun _ => ?_)
set_option maxHeartbeats 8000000 in
set_option maxRecDepth 100000 in
theorem num_Sqrt.calls (k : Nat) (a0 : Int) (r : Int) (w : World) (h : num_Sqrt.f k a0 = some r) :
  Calls Try.prog 29 #[.int .u64 a0] w fun e w' => e = .returned (.int .u64 r) ∧ Drawn0 w w' := by
 have H : (num_Sqrt.l0 k a0 0 2147483648) = some r := h
 clear h
 have H' := zm H
 clear H
 go_enter Try.func29, Try.ntmps29
 go_wp2
 go_loopg [3, 4] k (fun kq v3 v4 w' => ∃ (x3_1 : Int) (x4_1 : Int), v3 = .int .u64 x3_1 ∧ v4 = .int .u64 x4_1 ∧ Aside0 (num_Sqrt.l0 kq a0 x3_1 x4_1 = some r) ∧ Aside0 (kq ≤ k) ∧ Drawn0 w w')
 case atStart => exact ⟨(0), (2147483648), (by first | rfl | (simp; done) | (simp [*]; done)), (by first | rfl | (simp; done) | (simp [*]; done)), H', ⟨Nat.le_refl _⟩, by repeat (first | exact Drawn0.refl _ | apply Drawn0.step)⟩
 case round =>
  clear H'
  obtain ⟨x3_1, x4_1, rfl, rfl, HA, HK1, ⟨m1, rfl⟩⟩ := hrel
  cases gk with
  | zero => exact absurd HA.out (by simp [num_Sqrt.l0])
  | succ k1 =>
   have H := HA.out
   clear HA
   simp only [num_Sqrt.l0] at H
   by_cases c2 : x4_1 > 0
   ·
    rw [if_pos c2] at H
    have c2b0 : decide (0 < x4_1) = true := decide_eq_true c2
    clear c2
    by_cases c3 : (Go.bits .or .u64 x3_1 x4_1) = 0
    ·
     rw [if_pos c3] at H
     exact absurd H (by simp)
    ·
     rw [if_neg c3] at H
     have c3b0 : ((Go.bits .or .u64 x3_1 x4_1) == 0) = false := beq_eq_false_iff_ne.mpr c3
     have c3b1 : ((Go.bits .or .u64 x3_1 x4_1) != 0) = true := bne_iff_ne.mpr c3
     by_cases c4 : (Go.bits .or .u64 x3_1 x4_1) ≤ (IntKind.u64.wrap (Int.tdiv a0 (Go.bits .or .u64 x3_1 x4_1)))
     ·
      rw [if_pos c4] at H
      have c4b0 : decide ((Go.bits .or .u64 x3_1 x4_1) ≤ (IntKind.u64.wrap (Int.tdiv a0 (Go.bits .or .u64 x3_1 x4_1)))) = true := decide_eq_true c4
      clear c4
      have H' := zm H
      clear H
      go_wp2
      go_roundg k1
      case measure => have := HK1.out; omega
      case rel => exact ⟨(Go.bits .or .u64 x3_1 x4_1), (x4_1 / 2), (by first | rfl | (simp; done) | (simp [*]; done)), (by first | rfl | (simp; done) | (simp [*]; done)), H', ⟨by have := HK1.out; omega⟩, by repeat (first | exact Drawn0.refl _ | apply Drawn0.step)⟩
     ·
      rw [if_neg c4] at H
      have c4b0 : decide ((Go.bits .or .u64 x3_1 x4_1) ≤ (IntKind.u64.wrap (Int.tdiv a0 (Go.bits .or .u64 x3_1 x4_1)))) = false := decide_eq_false c4
      clear c4
      have H' := zm H
      clear H
      go_wp2
      go_roundg k1
      case measure => have := HK1.out; omega
      case rel => exact ⟨(x3_1), (x4_1 / 2), (by first | rfl | (simp; done) | (simp [*]; done)), (by first | rfl | (simp; done) | (simp [*]; done)), H', ⟨by have := HK1.out; omega⟩, by repeat (first | exact Drawn0.refl _ | apply Drawn0.step)⟩
   ·
    rw [if_neg c2] at H
    have c2b0 : decide (0 < x4_1) = false := decide_eq_false c2
    clear c2
    obtain rfl := Option.some.inj H
    go_wp2
    go_ret
    exact ⟨by first | rfl | (simp; done) | (simp [*]; done), by repeat (first | exact Drawn0.refl _ | apply Drawn0.step)⟩

end Go.Proofs.Ytllgjhenbchkfaa.Prt

namespace Go.Proofs.Ytllgjhenbchkfaa.Prt
open Go.RowKit Go.Proofs.YtllgjhenbchkfaaW.PrintWords Go.Proofs.YtllgjhenbchkfaaW.PrintLast Go.Proofs.YtllgjhenbchkfaaW.PrintMore
attribute [local go_sem] max2_int min2_int max_two min_two max_three min_three max_four min_four   -- for this text's walks alone
set_option linter.unusedVariables false
set_option linter.unusedSimpArgs false

/-! ### pvq_Shape: function 16 -/
mutual
def pvq_Shape.j0 : Nat → List Int → Int → Bool → Option (List Int × Int)
 | 0, _, _, _ => none
 | k + 1, x0, x1, x29 => if x29 = true then (some (([] : List Int), 1)) else (pvq_Shape.l0 k x0 x1 0 x0 (x0.length : Int) 0)
def pvq_Shape.l0 : Nat → List Int → Int → Int → List Int → Int → Int → Option (List Int × Int)
 | 0, _, _, _, _, _, _ => none
 | k + 1, x0, x1, x8, x30, x31, x32 => if x32 < x31 then (if 0 ≤ x32 then (if x32 < (x30.length : Int) then (pvq_Shape.l0 k x0 x1 (IntKind.u64.wrap (x8 + (IntKind.u64.wrap (wrap64 ((rd x30 x32) * (rd x30 x32)))))) x30 x31 (wrap64 (x32 + 1))) else (none)) else (none)) else (if 0 ≤ (x0.length : Int) then (if ((x0.length : Int) : Int).toNat ≤ 35184372088832 then ((some (List.replicate ((x0.length : Int) : Int).toNat 0 : List Int)).bind fun y161 => (if x8 = 0 then (some (y161, 0)) else ((num_Sqrt.f k (IntKind.u64.wrap ((IntKind.u64.wrap (x8 * 256)) * 256))).bind fun t164 => (pvq_Shape.l1 k x1 y161 (wrap64 (t164)) x0 (x0.length : Int) 0)))) else (none)) else (none))
def pvq_Shape.l1 : Nat → Int → List Int → Int → List Int → Int → Int → Option (List Int × Int)
 | 0, _, _, _, _, _, _ => none
 | k + 1, x1, x11, x12, x54, x55, x56 => if x56 < x55 then (if 0 ≤ x56 then (if x56 < (x54.length : Int) then ((num_Div.f (wrap64 ((wrap64 ((rd x54 x56) * x1)) * 256)) x12).bind fun bt166 => (if x56 < (x11.length : Int) then (pvq_Shape.l1 k x1 (x11.set (x56 : Int).toNat bt166.1) x12 x54 x55 (wrap64 (x56 + 1))) else (none))) else (none)) else (none)) else (some (x11, 0))
end
def pvq_Shape.f (k : Nat) (l0 : List Int) (a1 : Int) : Option (List Int × Int) := (comb_Index.f k l0).bind fun bt158 => (if bt158.2 = 0 then (if a1 < 0 then (pvq_Shape.j0 k l0 a1 true) else (pvq_Shape.j0 k l0 a1 (decide (a1 > 4194304)))) else (pvq_Shape.j0 k l0 a1 true))
theorem pvq_Shape.mono_l : ∀ k, (∀ y0 y1 y2, LeO (pvq_Shape.j0 k y0 y1 y2) (pvq_Shape.j0 (k + 1) y0 y1 y2)) ∧ (∀ y0 y1 y2 y3 y4 y5, LeO (pvq_Shape.l0 k y0 y1 y2 y3 y4 y5) (pvq_Shape.l0 (k + 1) y0 y1 y2 y3 y4 y5)) ∧ (∀ y0 y1 y2 y3 y4 y5, LeO (pvq_Shape.l1 k y0 y1 y2 y3 y4 y5) (pvq_Shape.l1 (k + 1) y0 y1 y2 y3 y4 y5))
 | 0 => ⟨fun _ _ _ r h => by simp [pvq_Shape.j0] at h, fun _ _ _ _ _ _ r h => by simp [pvq_Shape.l0] at h, fun _ _ _ _ _ _ r h => by simp [pvq_Shape.l1] at h⟩
 | k + 1 => by
  obtain ⟨ih0, ih1, ih2⟩ := pvq_Shape.mono_l k
  refine ⟨?_, ?_, ?_⟩
  ·
   intro y0 y1 y2
   unfold pvq_Shape.j0
   repeat' first
   | (with_reducible exact ih0 _ _ _)
   | (with_reducible exact ih1 _ _ _ _ _ _)
   | (with_reducible exact ih2 _ _ _ _ _ _)
   | (with_reducible exact comb_Index.mono _ _)
   | (with_reducible exact num_Sqrt.mono _ _)
   | (with_reducible exact LeO.refl _)
   | (with_reducible exact LeO.none _)
   | (with_reducible refine LeO.ite ?_ ?_)
   | (with_reducible refine LeO.bind ?_ (fun _ => ?_))
   | exact ih0 _ _ _
   | exact ih1 _ _ _ _ _ _
   | exact ih2 _ _ _ _ _ _
   | exact comb_Index.mono _ _
   | exact num_Sqrt.mono _ _
   | exact LeO.none _
   | refine LeO.ite ?_ ?_
   | refine LeO.bind ?_ (fun _ => ?_)
  ·
   intro y0 y1 y2 y3 y4 y5
   unfold pvq_Shape.l0
   repeat' first
   | (with_reducible exact ih0 _ _ _)
   | (with_reducible exact ih1 _ _ _ _ _ _)
   | (with_reducible exact ih2 _ _ _ _ _ _)
   | (with_reducible exact comb_Index.mono _ _)
   | (with_reducible exact num_Sqrt.mono _ _)
   | (with_reducible exact LeO.refl _)
   | (with_reducible exact LeO.none _)
   | (with_reducible refine LeO.ite ?_ ?_)
   | (with_reducible refine LeO.bind ?_ (fun _ => ?_))
   | exact ih0 _ _ _
   | exact ih1 _ _ _ _ _ _
   | exact ih2 _ _ _ _ _ _
   | exact comb_Index.mono _ _
   | exact num_Sqrt.mono _ _
   | exact LeO.none _
   | refine LeO.ite ?_ ?_
   | refine LeO.bind ?_ (fun _ => ?_)
  ·
   intro y0 y1 y2 y3 y4 y5
   unfold pvq_Shape.l1
   repeat' first
   | (with_reducible exact ih0 _ _ _)
   | (with_reducible exact ih1 _ _ _ _ _ _)
   | (with_reducible exact ih2 _ _ _ _ _ _)
   | (with_reducible exact comb_Index.mono _ _)
   | (with_reducible exact num_Sqrt.mono _ _)
   | (with_reducible exact LeO.refl _)
   | (with_reducible exact LeO.none _)
   | (with_reducible refine LeO.ite ?_ ?_)
   | (with_reducible refine LeO.bind ?_ (fun _ => ?_))
   | exact ih0 _ _ _
   | exact ih1 _ _ _ _ _ _
   | exact ih2 _ _ _ _ _ _
   | exact comb_Index.mono _ _
   | exact num_Sqrt.mono _ _
   | exact LeO.none _
   | refine LeO.ite ?_ ?_
   | refine LeO.bind ?_ (fun _ => ?_)
theorem pvq_Shape.mono : ∀ a0 a1 k, LeO (pvq_Shape.f k a0 a1) (pvq_Shape.f (k + 1) a0 a1) := by
 intro a0 a1 k
 obtain ⟨ih0, ih1, ih2⟩ := pvq_Shape.mono_l k
 unfold pvq_Shape.f
 repeat' first
   | (with_reducible exact ih0 _ _ _)
   | (with_reducible exact ih1 _ _ _ _ _ _)
   | (with_reducible exact ih2 _ _ _ _ _ _)
   | (with_reducible exact comb_Index.mono _ _)
   | (with_reducible exact num_Sqrt.mono _ _)
   | (with_reducible exact LeO.refl _)
   | (with_reducible exact LeO.none _)
   | (with_reducible refine LeO.ite ?_ ?_)
   | (with_reducible refine LeO.bind ?_ (fun _ => ?_))
   | exact ih0 _ _ _
   | exact ih1 _ _ _ _ _ _
   | exact ih2 _ _ _ _ _ _
   | exact comb_Index.mono _ _
   | exact num_Sqrt.mono _ _
   | exact LeO.none _
   | refine LeO.ite ?_ ?_
   | refine LeO.bind ?_ (fun _ => ?_)
set_option maxHeartbeats 8000000 in
set_option maxRecDepth 100000 in
theorem pvq_Shape.calls (k : Nat) (A0 : Option Addr) (c0 : Nat) (l0 : List Int) (a1 : Int) (r1 : List Int) (r2 : Int) (w : World) (hr0 : Kd.C (Kd.int .i64) w A0 l0.length l0) (hc0 : l0.length ≤ c0) (h : pvq_Shape.f k l0 a1 = some (r1, r2)) :
  Calls Try.prog 16 #[.slice A0 l0.length c0, .int .i64 a1] w fun e w' => ∃ v0_ : Value, e = .returned (.tuple #[v0_, .int .i64 r2]) ∧ Kd.R (Kd.int .i64) 2 w' w.heap.size (fun _ => True) v0_ r1 ∧ Below w.heap.size w w' := by
 have HR0 := zm hr0
 have HC0 := zm hc0
 clear hr0 hc0
 have HB := zm (Below.refl w.heap.size w)
 have H : ((comb_Index.f k l0).bind fun bt158 => (if bt158.2 = 0 then (if a1 < 0 then (pvq_Shape.j0 k l0 a1 true) else (pvq_Shape.j0 k l0 a1 (decide (a1 > 4194304)))) else (pvq_Shape.j0 k l0 a1 true))) = some (r1, r2) := h
 clear h
 replace H := Option.bind_eq_some_iff.mp H
 obtain ⟨⟨t158, t159⟩, A30, H⟩ := H
 replace H : (if t159 = 0 then (if a1 < 0 then (pvq_Shape.j0 k l0 a1 true) else (pvq_Shape.j0 k l0 a1 (decide (a1 > 4194304)))) else (pvq_Shape.j0 k l0 a1 true)) = some (r1, r2) := H
 have A3 := zm A30
 clear A30
 have HC4 := zm H
 clear H
 go_enter Try.func16, Try.ntmps16
 go_upto_region 2 with (first | ((with_reducible refine gate_callee (f := 28) rfl ?_); refine goesL_ (some 17) rfl rfl Try.func28 (by kernel_rfl) rfl #[.slice A0 l0.length c0] rfl (by (try simp only [List.map_toArray, List.map_cons, List.map_nil]); first | done | rfl | (simp only [List.length_drop, List.length_take]; rfl)) ?_; (with_reducible refine (comb_Index.calls k _ _ l0 t158 t159 _ ?side1 ?side2 A3.out).mono ?_); (case side1 => repeat (first | exact HR0.out | (with_reducible refine Kd.C_alloc ?_ _) | (with_reducible refine Kd.C_drewN ?_ _) | (with_reducible refine Kd.C_drew ?_))); (case side2 => exact HC0.out); rintro e w5 ⟨rfl, hb⟩; refine ⟨_, rfl, ?_⟩; have n0_ := zm (zJ (by repeat (first | (with_reducible first | exact HB.out | apply ze | apply zd | apply zf) | exact HB.out)) hb); clear HB; have HB := n0_; clear n0_; (try clear hb); (try clear hb2); (try clear hk); (try clear hi)))
 (try simp only [Act.put, List.setIfInBounds_toArray, List.set_cons_zero, List.set_cons_succ])
 go_cut [29] (fun v29 wc => ∃ (kq : Nat) (x29_3 : Bool), v29 = .bool x29_3 ∧ Aside0 (pvq_Shape.j0 kq l0 a1 x29_3 = some (r1, r2)) ∧ Aside0 (kq ≤ k) ∧ Aside0 (Below w.heap.size w wc))
 case first =>
  have H := HC4.out
  clear HC4
  by_cases c6 : t159 = 0
  ·
   rw [if_pos c6] at H
   have c6b0 : (t159 == 0) = true := beq_iff_eq.mpr c6
   have c6b1 : (t159 != 0) = false := bne_eq_false_iff_eq.mpr c6
   clear c6
   (first | rw [c6b0] | (simp only [i64_w, i32_w]; rw [c6b0]) | skip)
   by_cases c7 : a1 < 0
   ·
    rw [if_pos c7] at H
    have c7b0 : decide (a1 < 0) = true := decide_eq_true c7
    clear c7
    have H' := zm H
    clear H
    go_wp2
    go_meet
    case rel => exact ⟨_, (true), (by first | rfl | (simp; done) | (simp [*]; done)), H', ⟨by first | omega | exact Nat.le_refl _⟩, ⟨by repeat (first | (with_reducible first | exact HB.out | apply ze | apply zd | apply zf) | exact HB.out)⟩⟩
   ·
    rw [if_neg c7] at H
    have c7b0 : decide (a1 < 0) = false := decide_eq_false c7
    clear c7
    have H' := zm H
    clear H
    go_wp2
    go_meet
    case rel => exact ⟨_, (decide (a1 > 4194304)), (by first | rfl | (simp; done) | (simp [*]; done)), H', ⟨by first | omega | exact Nat.le_refl _⟩, ⟨by repeat (first | (with_reducible first | exact HB.out | apply ze | apply zd | apply zf) | exact HB.out)⟩⟩
  ·
   rw [if_neg c6] at H
   have c6b0 : (t159 == 0) = false := beq_eq_false_iff_ne.mpr c6
   have c6b1 : (t159 != 0) = true := bne_iff_ne.mpr c6
   (first | rw [c6b0] | (simp only [i64_w, i32_w]; rw [c6b0]) | skip)
   have H' := zm H
   clear H
   go_wp2
   go_meet
   case rel => exact ⟨_, (true), (by first | rfl | (simp; done) | (simp [*]; done)), H', ⟨by first | omega | exact Nat.le_refl _⟩, ⟨by repeat (first | (with_reducible first | exact HB.out | apply ze | apply zd | apply zf) | exact HB.out)⟩⟩
 case rest =>
  clear HC4
  try clear c1
  try clear c2
  try clear p2
  try clear c6
  try clear c6b0
  try clear c6b1
  try clear c7
  try clear c7b0
  obtain ⟨kq, x29_3, rfl, HA, HJ3, HB⟩ := hcut
  cases kq with
  | zero => exact absurd HA.out (by simp [pvq_Shape.j0])
  | succ kj3 =>
   have H := HA.out
   clear HA
   simp only [pvq_Shape.j0] at H
   by_cases c8 : x29_3 = true
   ·
    subst c8
    have H1 : (some (([] : List Int), 1)) = some (r1, r2) := by rw [if_pos rfl] at H; exact H
    clear H
    have H := H1
    clear H1
    simp only [Option.some.injEq, Prod.mk.injEq] at H
    obtain ⟨rfl, rfl⟩ := H
    go_wp2
    go_ret2
    exact ⟨_, by first | rfl | (simp [errW_none, errW_some] <;> rfl) | (simp [*, errW_none, errW_some] <;> rfl), by first | exact Kd.R_nil _ _ _ _ _ | exact Kd.N_nil _ _ _ _ _ | exact Kd.V_nil _ _ _ _ _ | exact Kd.Q_nil _ _ _ _ _ | exact Kd.S_nil _ _ _ _ _, by repeat (first | (with_reducible first | exact HB.out | apply ze | apply zd | apply zf) | exact HB.out)⟩
   ·
    replace c8 := Bool.eq_false_iff.mpr c8
    subst c8
    have H1 : (pvq_Shape.l0 kj3 l0 a1 0 l0 (l0.length : Int) 0) = some (r1, r2) := by rw [if_neg (show ¬ (false = true) by decide)] at H; exact H
    clear H
    have H := H1
    clear H1
    have H' := zm H
    clear H
    go_wp2
    go_loopg [8, 32] kj3 (fun kq v8 v32 w' => ∃ (x8_2 : Int) (x32_2 : Int), v8 = .int .u64 x8_2 ∧ v32 = .int .i64 x32_2 ∧ Aside0 (pvq_Shape.l0 kq l0 a1 x8_2 l0 (l0.length : Int) x32_2 = some (r1, r2)) ∧ Aside0 (kq ≤ kj3) ∧ Aside0 (Below w.heap.size w w'))
    case atStart => exact ⟨(0), (0), (by first | rfl | (simp; done) | (simp [*]; done)), (by first | rfl | (simp; done) | (simp [*]; done)), H', ⟨Nat.le_refl _⟩, ⟨by repeat (first | (with_reducible first | exact HB.out | apply ze | apply zd | apply zf) | exact HB.out)⟩⟩
    case round =>
     clear H'
     try clear c1
     try clear c2
     try clear p2
     try clear c6
     try clear c6b0
     try clear c6b1
     try clear c7
     try clear c7b0
     try clear c8
     try clear p2
     obtain ⟨x8_2, x32_2, rfl, rfl, HA, HK2, HB⟩ := hrel
     cases gk with
     | zero => exact absurd HA.out (by simp [pvq_Shape.l0])
     | succ k2 =>
      have H := HA.out
      clear HA
      simp only [pvq_Shape.l0] at H
      by_cases c9 : x32_2 < (l0.length : Int)
      ·
       rw [if_pos c9] at H
       have c9b0 : decide (x32_2 < (l0.length : Int)) = true := decide_eq_true c9
       clear c9
       by_cases c10 : 0 ≤ x32_2
       ·
        rw [if_pos c10] at H
        have c10b0 : decide (0 ≤ x32_2) = true := decide_eq_true c10
        clear c10
        by_cases c11 : x32_2 < (l0.length : Int)
        ·
         rw [if_pos c11] at H
         have c11b0 : decide (x32_2 < (l0.length : Int)) = true := decide_eq_true c11
         clear c11
         have H' := zm H
         clear H
         have p160 : 0 ≤ (x32_2 : Int) := of_decide_eq_true (by first | (with_reducible assumption) | assumption)
         have q160 : x32_2 < (l0.length : Int) := of_decide_eq_true (by first | (with_reducible assumption) | assumption)
         obtain ⟨ad160, e160, hx160_0⟩ := Kd.at_int HR0.out x32_2 p160 q160
         cases e160
         replace hx160_0 := (HB.out.cell (zb w _ hx160_0)).trans hx160_0
         replace p160 := eq_true p160
         replace q160 := eq_true q160
         go_wp2
         go_roundg k2
         case measure => have := HJ3.out; have := HK2.out; omega
         case rel => exact ⟨(IntKind.u64.wrap (x8_2 + (IntKind.u64.wrap (wrap64 ((rd l0 x32_2) * (rd l0 x32_2)))))), (wrap64 (x32_2 + 1)), (by first | rfl | (simp; done) | (simp [*]; done)), (by first | rfl | (simp; done) | (simp [*]; done)), H', ⟨by have := HJ3.out; have := HK2.out; omega⟩, ⟨by repeat (first | (with_reducible first | exact HB.out | apply ze | apply zd | apply zf) | exact HB.out)⟩⟩
        ·
         rw [if_neg c11] at H
         exact absurd H (by simp)
       ·
        rw [if_neg c10] at H
        exact absurd H (by simp)
      ·
       rw [if_neg c9] at H
       have c9b0 : decide (x32_2 < (l0.length : Int)) = false := decide_eq_false c9
       clear c9
       by_cases c12 : 0 ≤ (l0.length : Int)
       ·
        rw [if_pos c12] at H
        have c12b0 := eq_true c12
        have c12b1 : decide (0 ≤ (l0.length : Int)) = true := decide_eq_true c12
        clear c12
        by_cases c13 : ((l0.length : Int) : Int).toNat ≤ 35184372088832
        ·
         rw [if_pos c13] at H
         have c13b0 := eq_true c13
         have c13b1 : decide (((l0.length : Int) : Int).toNat ≤ 35184372088832) = true := decide_eq_true c13
         clear c13
         obtain ⟨y161, hy161⟩ : ∃ y_ : List Int, y_ = (List.replicate ((l0.length : Int) : Int).toNat 0) := ⟨_, rfl⟩
         replace H : (if x8_2 = 0 then (some (y161, 0)) else ((num_Sqrt.f k2 (IntKind.u64.wrap ((IntKind.u64.wrap (x8_2 * 256)) * 256))).bind fun t164 => (pvq_Shape.l1 k2 a1 y161 (wrap64 (t164)) l0 (l0.length : Int) 0))) = some (r1, r2) := by first | (rw [hy161]; with_reducible exact H) | (have H2_ := (Option.bind_some _ _).symm.trans H; rw [hy161]; with_reducible exact H2_) | (have H2_ := (Option.bind_some _ _).symm.trans H; with_reducible exact H2_) | with_reducible exact H | (rw [hy161]; exact H) | exact H
         have Ny161 := zm hy161
         clear hy161
         by_cases c14 : x8_2 = 0
         ·
          rw [if_pos c14] at H
          have c14b0 : (x8_2 == 0) = true := beq_iff_eq.mpr c14
          have c14b1 : (x8_2 != 0) = false := bne_eq_false_iff_eq.mpr c14
          clear c14
          simp only [Option.some.injEq, Prod.mk.injEq] at H
          obtain ⟨rfl, rfl⟩ := H
          go_wp2_with (first | ((with_reducible refine gate_dst (N := 45) rfl ?_); refine Kd.R_make (Kd.int .i64) _ 2 rfl (N := 45) rfl 22 _ _ rfl (l0.length : Int) rfl rfl Try.underlying22 (.int .i64 0) 8 info2 rfl (by decide) (by omega) 0 (ok := fun _ => True) (okp := fun _ => True) rfl (fun _ hk => hk) trivial (of_decide_eq_true (by first | (with_reducible assumption) | assumption)) (Nat.le_trans (Nat.mul_le_mul_right _ (of_decide_eq_true (by first | (with_reducible assumption) | assumption) : (l0.length : Int).toNat ≤ 35184372088832)) (by omega)) (Below.refl _ _) (Nat.le_refl _) ?_; intro v162 w15 ho16 hb hg_ hnew_; clear hg_ hnew_; (first | rw [← Ny161.out] at ho16 | (simp only [Int.reduceToNat] at ho16; rw [← Ny161.out] at ho16)); have n0_ := zm (Kd.R_lower ho16 (zE (by repeat (first | (with_reducible first | exact HB.out | apply ze | apply zd | apply zf) | exact HB.out)))); have n1_ := zm (zJ (by repeat (first | (with_reducible first | exact HB.out | apply ze | apply zd | apply zf) | exact HB.out)) hb); clear HB; have HO163 := n0_; have HB := n1_; clear n0_ n1_; clear hb ho16))
          go_ret2
          exact ⟨_, by first | rfl | (simp [errW_none, errW_some] <;> rfl) | (simp [*, errW_none, errW_some] <;> rfl), by (with_reducible repeat (first | apply zo | apply zp | apply zq)); exact HO163.out, by repeat (first | (with_reducible first | exact HB.out | apply ze | apply zd | apply zf) | exact HB.out)⟩
         ·
          rw [if_neg c14] at H
          have c14b0 : (x8_2 == 0) = false := beq_eq_false_iff_ne.mpr c14
          have c14b1 : (x8_2 != 0) = true := bne_iff_ne.mpr c14
          replace H := Option.bind_eq_some_iff.mp H
          obtain ⟨t164, A170, H⟩ := H
          replace H : (pvq_Shape.l1 k2 a1 y161 (wrap64 (t164)) l0 (l0.length : Int) 0) = some (r1, r2) := H
          have A17 := zm A170
          clear A170
          have H' := zm H
          clear H
          go_wp2_with (first | ((with_reducible refine gate_dst (N := 45) rfl ?_); refine Kd.R_make (Kd.int .i64) _ 2 rfl (N := 45) rfl 22 _ _ rfl (l0.length : Int) rfl rfl Try.underlying22 (.int .i64 0) 8 info2 rfl (by decide) (by omega) 0 (ok := fun _ => True) (okp := fun _ => True) rfl (fun _ hk => hk) trivial (of_decide_eq_true (by first | (with_reducible assumption) | assumption)) (Nat.le_trans (Nat.mul_le_mul_right _ (of_decide_eq_true (by first | (with_reducible assumption) | assumption) : (l0.length : Int).toNat ≤ 35184372088832)) (by omega)) (Below.refl _ _) (Nat.le_refl _) ?_; intro v162 w18 ho19 hb hg_ hnew_; clear hg_ hnew_; (first | rw [← Ny161.out] at ho19 | (simp only [Int.reduceToNat] at ho19; rw [← Ny161.out] at ho19)); have n0_ := zm (Kd.R_lower ho19 (zE (by repeat (first | (with_reducible first | exact HB.out | apply ze | apply zd | apply zf) | exact HB.out)))); have n1_ := zm (zJ (by repeat (first | (with_reducible first | exact HB.out | apply ze | apply zd | apply zf) | exact HB.out)) hb); clear HB; have HO163 := n0_; have HB := n1_; clear n0_ n1_; clear hb ho19) | ((with_reducible refine gate_callee (f := 29) rfl ?_); refine goesL_ (some 52) rfl rfl Try.func29 (by kernel_rfl) rfl #[.int .u64 (IntKind.u64.wrap ((IntKind.u64.wrap (x8_2 * 256)) * 256))] rfl (by (try simp only [List.map_toArray, List.map_cons, List.map_nil]); first | done | rfl | (simp only [List.length_drop, List.length_take]; rfl)) ?_; (with_reducible refine (num_Sqrt.calls k2 (IntKind.u64.wrap ((IntKind.u64.wrap (x8_2 * 256)) * 256)) t164 _ A17.out).mono ?_); rintro e w' ⟨rfl, ⟨nd, rfl⟩⟩; refine ⟨_, rfl, ?_⟩))
          go_loopg [56] k2 (fun kq v56 w' => ∃ (x11_3 : List Int) (x56_3 : Int), v56 = .int .i64 x56_3 ∧ Aside0 (pvq_Shape.l1 kq a1 x11_3 (wrap64 (t164)) l0 (l0.length : Int) x56_3 = some (r1, r2)) ∧ Aside0 (kq ≤ k2) ∧ Aside0 (Kd.R (Kd.int .i64) 2 w' w.heap.size (fun _ => True) v162 x11_3) ∧ Aside0 (Below w.heap.size w w'))
          case atStart => exact ⟨(y161), (0), (by first | rfl | (simp; done) | (simp [*]; done)), H', ⟨Nat.le_refl _⟩, ⟨by (with_reducible repeat (first | apply zo | apply zp | apply zq)); exact HO163.out⟩, ⟨by repeat (first | (with_reducible first | exact HB.out | apply ze | apply zd | apply zf) | exact HB.out)⟩⟩
          case round =>
           clear H'
           try clear c1
           try clear p1
           try clear q1
           try clear hx1
           try clear c2
           try clear p2
           try clear c6
           try clear c6b0
           try clear c6b1
           try clear p6
           try clear c7
           try clear c7b0
           try clear c8
           try clear c9
           try clear c9b0
           try clear c10
           try clear c10b0
           try clear c11
           try clear c11b0
           try clear c12
           try clear c12b0
           try clear c12b1
           try clear c13
           try clear c13b0
           try clear c13b1
           try clear c14
           try clear c14b0
           try clear c14b1
           try clear c16
           try clear p16
           try clear q16
           try clear hx16
           try clear hx160_0
           try clear p160
           try clear p2
           try clear q160
           obtain ⟨x11_3, x56_3, rfl, HA, HK3, HO_11, HB⟩ := hrel
           cases gk with
           | zero => exact absurd HA.out (by simp [pvq_Shape.l1])
           | succ k3 =>
            have H := HA.out
            clear HA
            simp only [pvq_Shape.l1] at H
            by_cases c20 : x56_3 < (l0.length : Int)
            ·
             rw [if_pos c20] at H
             have c20b0 : decide (x56_3 < (l0.length : Int)) = true := decide_eq_true c20
             clear c20
             by_cases c21 : 0 ≤ x56_3
             ·
              rw [if_pos c21] at H
              have c21b0 : decide (0 ≤ x56_3) = true := decide_eq_true c21
              clear c21
              by_cases c22 : x56_3 < (l0.length : Int)
              ·
               rw [if_pos c22] at H
               have c22b0 : decide (x56_3 < (l0.length : Int)) = true := decide_eq_true c22
               clear c22
               replace H := Option.bind_eq_some_iff.mp H
               obtain ⟨⟨t166, t167⟩, A230, H⟩ := H
               replace H : (if x56_3 < (x11_3.length : Int) then (pvq_Shape.l1 k3 a1 (x11_3.set (x56_3 : Int).toNat t166) (wrap64 (t164)) l0 (l0.length : Int) (wrap64 (x56_3 + 1))) else (none)) = some (r1, r2) := H
               have A23 := zm A230
               clear A230
               by_cases c24 : x56_3 < (x11_3.length : Int)
               ·
                rw [if_pos c24] at H
                have c24b0 : decide (x56_3 < (x11_3.length : Int)) = true := decide_eq_true c24
                clear c24
                obtain ⟨y168, hy168⟩ : ∃ y_ : List Int, y_ = (x11_3.set (x56_3 : Int).toNat t166) := ⟨_, rfl⟩
                replace H : (pvq_Shape.l1 k3 a1 y168 (wrap64 (t164)) l0 (l0.length : Int) (wrap64 (x56_3 + 1))) = some (r1, r2) := by first | (rw [hy168]; with_reducible exact H) | (have H2_ := (Option.bind_some _ _).symm.trans H; rw [hy168]; with_reducible exact H2_) | (have H2_ := (Option.bind_some _ _).symm.trans H; with_reducible exact H2_) | with_reducible exact H | (rw [hy168]; exact H) | exact H
                have Ny168 := zm hy168
                clear hy168
                have H' := zm H
                clear H
                have p165 : 0 ≤ (x56_3 : Int) := of_decide_eq_true (by first | (with_reducible assumption) | assumption)
                have q165 : x56_3 < (l0.length : Int) := of_decide_eq_true (by first | (with_reducible assumption) | assumption)
                obtain ⟨ad165, e165, hx165_0⟩ := Kd.at_int HR0.out x56_3 p165 q165
                cases e165
                replace hx165_0 := (HB.out.cell (zb w _ hx165_0)).trans hx165_0
                replace p165 := eq_true p165
                replace q165 := eq_true q165
                go_wp2_with (first | ((with_reducible refine gate_callee (f := 30) rfl ?_); refine goesL_ (some 69) rfl rfl Try.func30 (by kernel_rfl) rfl #[.int .i64 (wrap64 ((wrap64 ((rd l0 x56_3) * a1)) * 256)), .int .i64 (wrap64 (t164))] rfl (by (try simp only [List.map_toArray, List.map_cons, List.map_nil]); first | done | rfl | (simp only [List.length_drop, List.length_take]; rfl)) ?_; (with_reducible refine (num_Div.calls (wrap64 ((wrap64 ((rd l0 x56_3) * a1)) * 256)) (wrap64 (t164)) t166 t167 _ A23.out).mono ?_); rintro e w' ⟨rfl, ⟨nd, rfl⟩⟩; refine ⟨_, rfl, ?_⟩; (try (rw [drewN_self wr]; generalize hq_ : World.drewN wr _ = wr; have n0_ : Aside0 (Kd.R (Kd.int .i64) 2 wr w.heap.size (fun _ => True) v162 x11_3) := ⟨by rw [← hq_]; exact (by (with_reducible repeat (first | apply zo | apply zp | apply zq)); exact HO_11.out)⟩; have n1_ : Aside0 (Below w.heap.size w wr) := ⟨by rw [← hq_]; exact (by repeat (first | (with_reducible first | exact HB.out | apply ze | apply zd | apply zf) | exact HB.out))⟩; clear HO_11 HB hq_; have HO_11 := n0_; have HB := n1_; clear n0_ n1_)); have p25 : 0 ≤ (x56_3 : Int) := of_decide_eq_true (by first | (with_reducible assumption) | assumption); have q25 : (x56_3 : Int) < ((x11_3.length : Int) : Int) := of_decide_eq_true (by first | (with_reducible assumption) | assumption); obtain ⟨go25, co25, eo25, gb25, gl25, cl25, HG25⟩ := Kd.R_form HO_11.out (by omega); (first | cases eo25 | (injection eo25 with ea_ en_ ec_; (first | subst ea_ | (injection ea_ with ea_; subst ea_)); subst ec_; clear en_)); have GB25 := zm gb25; have GG25 := zm HG25; clear gb25 gl25 HG25; obtain ⟨hx25_0, hf25_0⟩ := Kd.R_celln 0 HO_11.out (x56_3 : Int) p25 q25; replace p25 := eq_true p25; replace q25 := eq_true q25; obtain ⟨hy26_, hz26_⟩ := Kd.R_celln 0 HO_11.out (x56_3 : Int) (of_decide_eq_true (by first | (with_reducible assumption) | assumption)) (of_decide_eq_true (by first | (with_reducible assumption) | assumption)); have HP26 := Kd.R_putg HO_11.out (x56_3 : Int) t166) | ((with_reducible refine gate_store (t := 2) (p := 72) rfl ?_); refine store_event (t := 2) (p := 72) (v := ?vo_w27) (w1 := (wr.setCell ⟨go25, (x56_3 : Int).toNat, none⟩ (.int .i64 t166))) ?hg ?ho ?hn ?hr ?_; (case ho => rfl); (case hg => rfl); (case hn => rfl); (case hr => first | (go_simp; done) | (go_simp; rfl)); intro w27 hw; have hg : wr.grownBy w27 (some go25) := (by rw [hw]; exact HP26.2); have hp_ : Kd.R (Kd.int .i64) 2 w27 w.heap.size (fun _ => True) (.slice (some ⟨go25, 0, none⟩) x11_3.length co25) y168 := (by rw [hw, Ny168.out]; exact HP26.1); clear HP26; have n0_ := zm (hp_); have n1_ := zm ((by rw [hw]; exact zk (HB.out) GB25.out : Below w.heap.size w w27)); clear HO_11; clear HB; have HO_11 := n0_; have HB := n1_; clear n0_ n1_; clear hg hw hp_))
                go_roundg k3
                case measure => have := HJ3.out; have := HK2.out; have := HK3.out; omega
                case rel => exact ⟨(y168), (wrap64 (x56_3 + 1)), (by first | rfl | (simp; done) | (simp [*]; done)), H', ⟨by have := HJ3.out; have := HK2.out; have := HK3.out; omega⟩, ⟨by (with_reducible repeat (first | apply zo | apply zp | apply zq)); exact HO_11.out⟩, ⟨by repeat (first | (with_reducible first | exact HB.out | apply ze | apply zd | apply zf) | exact HB.out)⟩⟩
               ·
                rw [if_neg c24] at H
                exact absurd H (by simp)
              ·
               rw [if_neg c22] at H
               exact absurd H (by simp)
             ·
              rw [if_neg c21] at H
              exact absurd H (by simp)
            ·
             rw [if_neg c20] at H
             have c20b0 : decide (x56_3 < (l0.length : Int)) = false := decide_eq_false c20
             clear c20
             simp only [Option.some.injEq, Prod.mk.injEq] at H
             obtain ⟨rfl, rfl⟩ := H
             go_wp2
             go_ret2
             exact ⟨_, by first | rfl | (simp [errW_none, errW_some] <;> rfl) | (simp [*, errW_none, errW_some] <;> rfl), by (with_reducible repeat (first | apply zo | apply zp | apply zq)); exact HO_11.out, by repeat (first | (with_reducible first | exact HB.out | apply ze | apply zd | apply zf) | exact HB.out)⟩
        ·
         rw [if_neg c13] at H
         exact absurd H (by simp)
       ·
        rw [if_neg c12] at H
        exact absurd H (by simp)

end Go.Proofs.Ytllgjhenbchkfaa.Prt

namespace Go.Proofs.Ytllgjhenbchkfaa.Prt
open Go.RowKit Go.Proofs.YtllgjhenbchkfaaW.PrintWords Go.Proofs.YtllgjhenbchkfaaW.PrintLast Go.Proofs.YtllgjhenbchkfaaW.PrintMore
attribute [local go_sem] max2_int min2_int max_two min_two max_three min_three max_four min_four   -- for this text's walks alone
set_option linter.unusedVariables false
set_option linter.unusedSimpArgs false

/-! ### pvq_Square: function 10 -/
def pvq_Square.l0 : Nat → Int → List Int → Int → Int → Option (Int × Int)
 | 0, _, _, _, _ => none
 | k + 1, x4, x10, x11, x12 => if x12 < x11 then (if 0 ≤ x12 then (if x12 < (x10.length : Int) then (pvq_Square.l0 k (IntKind.u64.wrap (x4 + (IntKind.u64.wrap (wrap64 ((rd x10 x12) * (rd x10 x12)))))) x10 x11 (wrap64 (x12 + 1))) else (none)) else (none)) else (some (x4, 0))
def pvq_Square.f (k : Nat) (l0 : List Int) : Option (Int × Int) := (pvq_fair.f k l0).bind fun t103 => (if t103 = true then (pvq_Square.l0 k 0 l0 (l0.length : Int) 0) else (some (0, 1)))
theorem pvq_Square.mono_l : ∀ k, (∀ y0 y1 y2 y3, LeO (pvq_Square.l0 k y0 y1 y2 y3) (pvq_Square.l0 (k + 1) y0 y1 y2 y3))
 | 0 => fun _ _ _ _ r h => by simp [pvq_Square.l0] at h
 | k + 1 => by
  have ih0 := pvq_Square.mono_l k
  ·
   intro y0 y1 y2 y3
   unfold pvq_Square.l0
   repeat' first
   | (with_reducible exact ih0 _ _ _ _)
   | (with_reducible exact pvq_fair.mono _ _)
   | (with_reducible exact LeO.refl _)
   | (with_reducible exact LeO.none _)
   | (with_reducible refine LeO.ite ?_ ?_)
   | (with_reducible refine LeO.bind ?_ (fun _ => ?_))
   | exact ih0 _ _ _ _
   | exact pvq_fair.mono _ _
   | exact LeO.none _
   | refine LeO.ite ?_ ?_
   | refine LeO.bind ?_ (fun _ => ?_)
theorem pvq_Square.mono : ∀ a0 k, LeO (pvq_Square.f k a0) (pvq_Square.f (k + 1) a0) := by
 intro a0 k
 have ih0 := pvq_Square.mono_l k
 unfold pvq_Square.f
 repeat' first
   | (with_reducible exact ih0 _ _ _ _)
   | (with_reducible exact pvq_fair.mono _ _)
   | (with_reducible exact LeO.refl _)
   | (with_reducible exact LeO.none _)
   | (with_reducible refine LeO.ite ?_ ?_)
   | (with_reducible refine LeO.bind ?_ (fun _ => ?_))
   | exact ih0 _ _ _ _
   | exact pvq_fair.mono _ _
   | exact LeO.none _
   | refine LeO.ite ?_ ?_
   | refine LeO.bind ?_ (fun _ => ?_)
set_option maxHeartbeats 8000000 in
set_option maxRecDepth 100000 in
theorem pvq_Square.calls (k : Nat) (A0 : Option Addr) (c0 : Nat) (l0 : List Int) (r1 : Int) (r2 : Int) (w : World) (hr0 : Kd.C (Kd.int .i64) w A0 l0.length l0) (hc0 : l0.length ≤ c0) (h : pvq_Square.f k l0 = some (r1, r2)) :
  Calls Try.prog 10 #[.slice A0 l0.length c0] w fun e w' => e = .returned (.tuple #[.int .u64 r1, .int .i64 r2]) ∧ Drawn0 w w' := by
 have HR0 := zm hr0
 have HC0 := zm hc0
 clear hr0 hc0
 have H : ((pvq_fair.f k l0).bind fun t103 => (if t103 = true then (pvq_Square.l0 k 0 l0 (l0.length : Int) 0) else (some (0, 1)))) = some (r1, r2) := h
 clear h
 replace H := Option.bind_eq_some_iff.mp H
 obtain ⟨t103, A20, H⟩ := H
 replace H : (if t103 = true then (pvq_Square.l0 k 0 l0 (l0.length : Int) 0) else (some (0, 1))) = some (r1, r2) := H
 have A2 := zm A20
 clear A20
 by_cases c3 : t103 = true
 ·
  subst c3
  have H1 : (pvq_Square.l0 k 0 l0 (l0.length : Int) 0) = some (r1, r2) := by rw [if_pos rfl] at H; exact H
  clear H
  have H := H1
  clear H1
  have H' := zm H
  clear H
  go_enter Try.func10, Try.ntmps10
  go_wp2_with (first | ((with_reducible refine gate_callee (f := 21) rfl ?_); refine goesL_ (some 8) rfl rfl Try.func21 (by kernel_rfl) rfl #[.slice A0 l0.length c0] rfl (by (try simp only [List.map_toArray, List.map_cons, List.map_nil]); first | done | rfl | (simp only [List.length_drop, List.length_take]; rfl)) ?_; (with_reducible refine (pvq_fair.calls k _ _ l0 true _ ?side1 ?side2 A2.out).mono ?_); (case side1 => repeat (first | exact HR0.out | (with_reducible refine Kd.C_alloc ?_ _) | (with_reducible refine Kd.C_drewN ?_ _) | (with_reducible refine Kd.C_drew ?_))); (case side2 => exact HC0.out); rintro e w' ⟨rfl, ⟨nd, rfl⟩⟩; refine ⟨_, rfl, ?_⟩))
  go_loopg [4, 12] k (fun kq v4 v12 w' => ∃ (x4_1 : Int) (x12_1 : Int), v4 = .int .u64 x4_1 ∧ v12 = .int .i64 x12_1 ∧ Aside0 (pvq_Square.l0 kq x4_1 l0 (l0.length : Int) x12_1 = some (r1, r2)) ∧ Aside0 (kq ≤ k) ∧ Drawn0 w w')
  case atStart => exact ⟨(0), (0), (by first | rfl | (simp; done) | (simp [*]; done)), (by first | rfl | (simp; done) | (simp [*]; done)), H', ⟨Nat.le_refl _⟩, by repeat (first | exact Drawn0.refl _ | apply Drawn0.step)⟩
  case round =>
   clear H'
   try clear c1
   try clear c2
   try clear p2
   try clear c3
   obtain ⟨x4_1, x12_1, rfl, rfl, HA, HK1, ⟨m1, rfl⟩⟩ := hrel
   cases gk with
   | zero => exact absurd HA.out (by simp [pvq_Square.l0])
   | succ k1 =>
    have H := HA.out
    clear HA
    simp only [pvq_Square.l0] at H
    by_cases c4 : x12_1 < (l0.length : Int)
    ·
     rw [if_pos c4] at H
     have c4b0 : decide (x12_1 < (l0.length : Int)) = true := decide_eq_true c4
     clear c4
     by_cases c5 : 0 ≤ x12_1
     ·
      rw [if_pos c5] at H
      have c5b0 : decide (0 ≤ x12_1) = true := decide_eq_true c5
      clear c5
      by_cases c6 : x12_1 < (l0.length : Int)
      ·
       rw [if_pos c6] at H
       have c6b0 : decide (x12_1 < (l0.length : Int)) = true := decide_eq_true c6
       clear c6
       have H' := zm H
       clear H
       have p104 : 0 ≤ (x12_1 : Int) := of_decide_eq_true (by first | (with_reducible assumption) | assumption)
       have q104 : x12_1 < (l0.length : Int) := of_decide_eq_true (by first | (with_reducible assumption) | assumption)
       obtain ⟨ad104, e104, hx104_0⟩ := Kd.at_int HR0.out x12_1 p104 q104
       cases e104
       replace p104 := eq_true p104
       replace q104 := eq_true q104
       go_wp2
       go_roundg k1
       case measure => have := HK1.out; omega
       case rel => exact ⟨(IntKind.u64.wrap (x4_1 + (IntKind.u64.wrap (wrap64 ((rd l0 x12_1) * (rd l0 x12_1)))))), (wrap64 (x12_1 + 1)), (by first | rfl | (simp; done) | (simp [*]; done)), (by first | rfl | (simp; done) | (simp [*]; done)), H', ⟨by have := HK1.out; omega⟩, by repeat (first | exact Drawn0.refl _ | apply Drawn0.step)⟩
      ·
       rw [if_neg c6] at H
       exact absurd H (by simp)
     ·
      rw [if_neg c5] at H
      exact absurd H (by simp)
    ·
     rw [if_neg c4] at H
     have c4b0 : decide (x12_1 < (l0.length : Int)) = false := decide_eq_false c4
     clear c4
     simp only [Option.some.injEq, Prod.mk.injEq] at H
     obtain ⟨rfl, rfl⟩ := H
     go_wp2
     go_ret2
     exact ⟨by first | rfl | (simp; done) | (simp [*]; done), by repeat (first | exact Drawn0.refl _ | apply Drawn0.step)⟩
 ·
  replace c3 := Bool.eq_false_iff.mpr c3
  subst c3
  have H1 : (some (0, 1)) = some (r1, r2) := by rw [if_neg (show ¬ (false = true) by decide)] at H; exact H
  clear H
  have H := H1
  clear H1
  simp only [Option.some.injEq, Prod.mk.injEq] at H
  obtain ⟨rfl, rfl⟩ := H
  go_enter Try.func10, Try.ntmps10
  go_wp2_with (first | ((with_reducible refine gate_callee (f := 21) rfl ?_); refine goesL_ (some 8) rfl rfl Try.func21 (by kernel_rfl) rfl #[.slice A0 l0.length c0] rfl (by (try simp only [List.map_toArray, List.map_cons, List.map_nil]); first | done | rfl | (simp only [List.length_drop, List.length_take]; rfl)) ?_; (with_reducible refine (pvq_fair.calls k _ _ l0 false _ ?side1 ?side2 A2.out).mono ?_); (case side1 => repeat (first | exact HR0.out | (with_reducible refine Kd.C_alloc ?_ _) | (with_reducible refine Kd.C_drewN ?_ _) | (with_reducible refine Kd.C_drew ?_))); (case side2 => exact HC0.out); rintro e w' ⟨rfl, ⟨nd, rfl⟩⟩; refine ⟨_, rfl, ?_⟩))
  go_ret2
  exact ⟨by first | rfl | (simp; done) | (simp [*]; done), by repeat (first | exact Drawn0.refl _ | apply Drawn0.step)⟩

end Go.Proofs.Ytllgjhenbchkfaa.Prt

namespace Go.Proofs.Ytllgjhenbchkfaa.Prt
open Go.RowKit Go.Proofs.YtllgjhenbchkfaaW.PrintWords Go.Proofs.YtllgjhenbchkfaaW.PrintLast Go.Proofs.YtllgjhenbchkfaaW.PrintMore
attribute [local go_sem] max2_int min2_int max_two min_two max_three min_three max_four min_four   -- for this text's walks alone
set_option linter.unusedVariables false
set_option linter.unusedSimpArgs false

/-! ### psalterylaw07_knows: function 9 -/
def psalterylaw07_knows.f (k : Nat)  : Option (Bool) := (pvq_Square.f k (([3, (-4)] : List Int))).bind fun bt174 => ((pvq_Search.f k (([10, (-1)] : List Int)) 3).bind fun bt179 => ((pvq_Shape.f k (([0, (-2)] : List Int)) 7).bind fun bt186 => ((pvq_Shape.f k (([1, 1] : List Int)) 100).bind fun bt193 => (if bt174.1 = 25 then (if bt174.2 = 0 then ((psalteryref06_Same.f k bt179.1 (([3, 0] : List Int))).bind fun t200 => (if t200 = true then (if bt179.2 = 0 then ((psalteryref07_Same.f k bt186.1 (([0, (-7)] : List Int))).bind fun t204 => (if t204 = true then (if bt186.2 = 0 then ((psalteryref07_Same.f k bt193.1 (([71, 71] : List Int))).bind fun t208 => (if t208 = true then (some (bt193.2 == 0)) else (none))) else (none)) else (none))) else (none)) else (none))) else (none)) else (none)))))
theorem psalterylaw07_knows.mono : ∀ k, LeO (psalterylaw07_knows.f k ) (psalterylaw07_knows.f (k + 1) ) := by
 intro  k
 unfold psalterylaw07_knows.f
 repeat' first
   | (with_reducible exact psalteryref06_Same.mono _ _ _)
   | (with_reducible exact psalteryref07_Same.mono _ _ _)
   | (with_reducible exact pvq_Search.mono _ _ _)
   | (with_reducible exact pvq_Shape.mono _ _ _)
   | (with_reducible exact pvq_Square.mono _ _)
   | (with_reducible exact LeO.refl _)
   | (with_reducible exact LeO.none _)
   | (with_reducible refine LeO.ite ?_ ?_)
   | (with_reducible refine LeO.bind ?_ (fun _ => ?_))
   | exact psalteryref06_Same.mono _ _ _
   | exact psalteryref07_Same.mono _ _ _
   | exact pvq_Search.mono _ _ _
   | exact pvq_Shape.mono _ _ _
   | exact pvq_Square.mono _ _
   | exact LeO.none _
   | refine LeO.ite ?_ ?_
   | refine LeO.bind ?_ (fun _ => ?_)
set_option maxHeartbeats 8000000 in
set_option maxRecDepth 100000 in
theorem psalterylaw07_knows.calls (k : Nat)  (r : Bool) (w : World) (h : psalterylaw07_knows.f k  = some r) :
  Calls Try.prog 9 #[] w fun e w' => e = .returned (.bool r) ∧ Below w.heap.size w w' := by
 have HB := zm (Below.refl w.heap.size w)
 have H : ((pvq_Square.f k (([3, (-4)] : List Int))).bind fun bt174 => ((pvq_Search.f k (([10, (-1)] : List Int)) 3).bind fun bt179 => ((pvq_Shape.f k (([0, (-2)] : List Int)) 7).bind fun bt186 => ((pvq_Shape.f k (([1, 1] : List Int)) 100).bind fun bt193 => (if bt174.1 = 25 then (if bt174.2 = 0 then ((psalteryref06_Same.f k bt179.1 (([3, 0] : List Int))).bind fun t200 => (if t200 = true then (if bt179.2 = 0 then ((psalteryref07_Same.f k bt186.1 (([0, (-7)] : List Int))).bind fun t204 => (if t204 = true then (if bt186.2 = 0 then ((psalteryref07_Same.f k bt193.1 (([71, 71] : List Int))).bind fun t208 => (if t208 = true then (some (bt193.2 == 0)) else (none))) else (none)) else (none))) else (none)) else (none))) else (none)) else (none)))))) = some r := h
 clear h
 obtain ⟨y171, hy171⟩ : ∃ y_ : List Int, y_ = (([3, (-4)] : List Int)) := ⟨_, rfl⟩
 replace H : ((pvq_Square.f k y171).bind fun bt174 => ((pvq_Search.f k (([10, (-1)] : List Int)) 3).bind fun bt179 => ((pvq_Shape.f k (([0, (-2)] : List Int)) 7).bind fun bt186 => ((pvq_Shape.f k (([1, 1] : List Int)) 100).bind fun bt193 => (if bt174.1 = 25 then (if bt174.2 = 0 then ((psalteryref06_Same.f k bt179.1 (([3, 0] : List Int))).bind fun t200 => (if t200 = true then (if bt179.2 = 0 then ((psalteryref07_Same.f k bt186.1 (([0, (-7)] : List Int))).bind fun t204 => (if t204 = true then (if bt186.2 = 0 then ((psalteryref07_Same.f k bt193.1 (([71, 71] : List Int))).bind fun t208 => (if t208 = true then (some (bt193.2 == 0)) else (none))) else (none)) else (none))) else (none)) else (none))) else (none)) else (none)))))) = some r := by first | (rw [hy171]; with_reducible exact H) | (have H2_ := (Option.bind_some _ _).symm.trans H; rw [hy171]; with_reducible exact H2_) | (have H2_ := (Option.bind_some _ _).symm.trans H; with_reducible exact H2_) | with_reducible exact H | (rw [hy171]; exact H) | exact H
 have Ny171 := zm hy171
 clear hy171
 replace H := Option.bind_eq_some_iff.mp H
 obtain ⟨⟨t174, t175⟩, A10, H⟩ := H
 replace H : ((pvq_Search.f k (([10, (-1)] : List Int)) 3).bind fun bt179 => ((pvq_Shape.f k (([0, (-2)] : List Int)) 7).bind fun bt186 => ((pvq_Shape.f k (([1, 1] : List Int)) 100).bind fun bt193 => (if t174 = 25 then (if t175 = 0 then ((psalteryref06_Same.f k bt179.1 (([3, 0] : List Int))).bind fun t200 => (if t200 = true then (if bt179.2 = 0 then ((psalteryref07_Same.f k bt186.1 (([0, (-7)] : List Int))).bind fun t204 => (if t204 = true then (if bt186.2 = 0 then ((psalteryref07_Same.f k bt193.1 (([71, 71] : List Int))).bind fun t208 => (if t208 = true then (some (bt193.2 == 0)) else (none))) else (none)) else (none))) else (none)) else (none))) else (none)) else (none))))) = some r := H
 have A1 := zm A10
 clear A10
 obtain ⟨y176, hy176⟩ : ∃ y_ : List Int, y_ = (([10, (-1)] : List Int)) := ⟨_, rfl⟩
 replace H : ((pvq_Search.f k y176 3).bind fun bt179 => ((pvq_Shape.f k (([0, (-2)] : List Int)) 7).bind fun bt186 => ((pvq_Shape.f k (([1, 1] : List Int)) 100).bind fun bt193 => (if t174 = 25 then (if t175 = 0 then ((psalteryref06_Same.f k bt179.1 (([3, 0] : List Int))).bind fun t200 => (if t200 = true then (if bt179.2 = 0 then ((psalteryref07_Same.f k bt186.1 (([0, (-7)] : List Int))).bind fun t204 => (if t204 = true then (if bt186.2 = 0 then ((psalteryref07_Same.f k bt193.1 (([71, 71] : List Int))).bind fun t208 => (if t208 = true then (some (bt193.2 == 0)) else (none))) else (none)) else (none))) else (none)) else (none))) else (none)) else (none))))) = some r := by first | (rw [hy176]; with_reducible exact H) | (have H2_ := (Option.bind_some _ _).symm.trans H; rw [hy176]; with_reducible exact H2_) | (have H2_ := (Option.bind_some _ _).symm.trans H; with_reducible exact H2_) | with_reducible exact H | (rw [hy176]; exact H) | exact H
 have Ny176 := zm hy176
 clear hy176
 replace H := Option.bind_eq_some_iff.mp H
 obtain ⟨⟨t179, t180⟩, A20, H⟩ := H
 replace H : ((pvq_Shape.f k (([0, (-2)] : List Int)) 7).bind fun bt186 => ((pvq_Shape.f k (([1, 1] : List Int)) 100).bind fun bt193 => (if t174 = 25 then (if t175 = 0 then ((psalteryref06_Same.f k t179 (([3, 0] : List Int))).bind fun t200 => (if t200 = true then (if t180 = 0 then ((psalteryref07_Same.f k bt186.1 (([0, (-7)] : List Int))).bind fun t204 => (if t204 = true then (if bt186.2 = 0 then ((psalteryref07_Same.f k bt193.1 (([71, 71] : List Int))).bind fun t208 => (if t208 = true then (some (bt193.2 == 0)) else (none))) else (none)) else (none))) else (none)) else (none))) else (none)) else (none)))) = some r := H
 have A2 := zm A20
 clear A20
 obtain ⟨y183, hy183⟩ : ∃ y_ : List Int, y_ = (([0, (-2)] : List Int)) := ⟨_, rfl⟩
 replace H : ((pvq_Shape.f k y183 7).bind fun bt186 => ((pvq_Shape.f k (([1, 1] : List Int)) 100).bind fun bt193 => (if t174 = 25 then (if t175 = 0 then ((psalteryref06_Same.f k t179 (([3, 0] : List Int))).bind fun t200 => (if t200 = true then (if t180 = 0 then ((psalteryref07_Same.f k bt186.1 (([0, (-7)] : List Int))).bind fun t204 => (if t204 = true then (if bt186.2 = 0 then ((psalteryref07_Same.f k bt193.1 (([71, 71] : List Int))).bind fun t208 => (if t208 = true then (some (bt193.2 == 0)) else (none))) else (none)) else (none))) else (none)) else (none))) else (none)) else (none)))) = some r := by first | (rw [hy183]; with_reducible exact H) | (have H2_ := (Option.bind_some _ _).symm.trans H; rw [hy183]; with_reducible exact H2_) | (have H2_ := (Option.bind_some _ _).symm.trans H; with_reducible exact H2_) | with_reducible exact H | (rw [hy183]; exact H) | exact H
 have Ny183 := zm hy183
 clear hy183
 replace H := Option.bind_eq_some_iff.mp H
 obtain ⟨⟨t186, t187⟩, A30, H⟩ := H
 replace H : ((pvq_Shape.f k (([1, 1] : List Int)) 100).bind fun bt193 => (if t174 = 25 then (if t175 = 0 then ((psalteryref06_Same.f k t179 (([3, 0] : List Int))).bind fun t200 => (if t200 = true then (if t180 = 0 then ((psalteryref07_Same.f k t186 (([0, (-7)] : List Int))).bind fun t204 => (if t204 = true then (if t187 = 0 then ((psalteryref07_Same.f k bt193.1 (([71, 71] : List Int))).bind fun t208 => (if t208 = true then (some (bt193.2 == 0)) else (none))) else (none)) else (none))) else (none)) else (none))) else (none)) else (none))) = some r := H
 have A3 := zm A30
 clear A30
 obtain ⟨y190, hy190⟩ : ∃ y_ : List Int, y_ = (([1, 1] : List Int)) := ⟨_, rfl⟩
 replace H : ((pvq_Shape.f k y190 100).bind fun bt193 => (if t174 = 25 then (if t175 = 0 then ((psalteryref06_Same.f k t179 (([3, 0] : List Int))).bind fun t200 => (if t200 = true then (if t180 = 0 then ((psalteryref07_Same.f k t186 (([0, (-7)] : List Int))).bind fun t204 => (if t204 = true then (if t187 = 0 then ((psalteryref07_Same.f k bt193.1 (([71, 71] : List Int))).bind fun t208 => (if t208 = true then (some (bt193.2 == 0)) else (none))) else (none)) else (none))) else (none)) else (none))) else (none)) else (none))) = some r := by first | (rw [hy190]; with_reducible exact H) | (have H2_ := (Option.bind_some _ _).symm.trans H; rw [hy190]; with_reducible exact H2_) | (have H2_ := (Option.bind_some _ _).symm.trans H; with_reducible exact H2_) | with_reducible exact H | (rw [hy190]; exact H) | exact H
 have Ny190 := zm hy190
 clear hy190
 replace H := Option.bind_eq_some_iff.mp H
 obtain ⟨⟨t193, t194⟩, A40, H⟩ := H
 replace H : (if t174 = 25 then (if t175 = 0 then ((psalteryref06_Same.f k t179 (([3, 0] : List Int))).bind fun t200 => (if t200 = true then (if t180 = 0 then ((psalteryref07_Same.f k t186 (([0, (-7)] : List Int))).bind fun t204 => (if t204 = true then (if t187 = 0 then ((psalteryref07_Same.f k t193 (([71, 71] : List Int))).bind fun t208 => (if t208 = true then (some (t194 == 0)) else (none))) else (none)) else (none))) else (none)) else (none))) else (none)) else (none)) = some r := H
 have A4 := zm A40
 clear A40
 by_cases c5 : t174 = 25
 ·
  rw [if_pos c5] at H
  have c5b0 : (t174 == 25) = true := beq_iff_eq.mpr c5
  have c5b1 : (t174 != 25) = false := bne_eq_false_iff_eq.mpr c5
  clear c5
  by_cases c6 : t175 = 0
  ·
   rw [if_pos c6] at H
   have c6b0 : (t175 == 0) = true := beq_iff_eq.mpr c6
   have c6b1 : (t175 != 0) = false := bne_eq_false_iff_eq.mpr c6
   clear c6
   obtain ⟨y197, hy197⟩ : ∃ y_ : List Int, y_ = (([3, 0] : List Int)) := ⟨_, rfl⟩
   replace H : ((psalteryref06_Same.f k t179 y197).bind fun t200 => (if t200 = true then (if t180 = 0 then ((psalteryref07_Same.f k t186 (([0, (-7)] : List Int))).bind fun t204 => (if t204 = true then (if t187 = 0 then ((psalteryref07_Same.f k t193 (([71, 71] : List Int))).bind fun t208 => (if t208 = true then (some (t194 == 0)) else (none))) else (none)) else (none))) else (none)) else (none))) = some r := by first | (rw [hy197]; with_reducible exact H) | (have H2_ := (Option.bind_some _ _).symm.trans H; rw [hy197]; with_reducible exact H2_) | (have H2_ := (Option.bind_some _ _).symm.trans H; with_reducible exact H2_) | with_reducible exact H | (rw [hy197]; exact H) | exact H
   have Ny197 := zm hy197
   clear hy197
   replace H := Option.bind_eq_some_iff.mp H
   obtain ⟨t200, A70, H⟩ := H
   replace H : (if t200 = true then (if t180 = 0 then ((psalteryref07_Same.f k t186 (([0, (-7)] : List Int))).bind fun t204 => (if t204 = true then (if t187 = 0 then ((psalteryref07_Same.f k t193 (([71, 71] : List Int))).bind fun t208 => (if t208 = true then (some (t194 == 0)) else (none))) else (none)) else (none))) else (none)) else (none)) = some r := H
   have A7 := zm A70
   clear A70
   by_cases c8 : t200 = true
   ·
    subst c8
    have H1 : (if t180 = 0 then ((psalteryref07_Same.f k t186 (([0, (-7)] : List Int))).bind fun t204 => (if t204 = true then (if t187 = 0 then ((psalteryref07_Same.f k t193 (([71, 71] : List Int))).bind fun t208 => (if t208 = true then (some (t194 == 0)) else (none))) else (none)) else (none))) else (none)) = some r := by rw [if_pos rfl] at H; exact H
    clear H
    have H := H1
    clear H1
    by_cases c9 : t180 = 0
    ·
     rw [if_pos c9] at H
     have c9b0 : (t180 == 0) = true := beq_iff_eq.mpr c9
     have c9b1 : (t180 != 0) = false := bne_eq_false_iff_eq.mpr c9
     clear c9
     obtain ⟨y201, hy201⟩ : ∃ y_ : List Int, y_ = (([0, (-7)] : List Int)) := ⟨_, rfl⟩
     replace H : ((psalteryref07_Same.f k t186 y201).bind fun t204 => (if t204 = true then (if t187 = 0 then ((psalteryref07_Same.f k t193 (([71, 71] : List Int))).bind fun t208 => (if t208 = true then (some (t194 == 0)) else (none))) else (none)) else (none))) = some r := by first | (rw [hy201]; with_reducible exact H) | (have H2_ := (Option.bind_some _ _).symm.trans H; rw [hy201]; with_reducible exact H2_) | (have H2_ := (Option.bind_some _ _).symm.trans H; with_reducible exact H2_) | with_reducible exact H | (rw [hy201]; exact H) | exact H
     have Ny201 := zm hy201
     clear hy201
     replace H := Option.bind_eq_some_iff.mp H
     obtain ⟨t204, A100, H⟩ := H
     replace H : (if t204 = true then (if t187 = 0 then ((psalteryref07_Same.f k t193 (([71, 71] : List Int))).bind fun t208 => (if t208 = true then (some (t194 == 0)) else (none))) else (none)) else (none)) = some r := H
     have A10 := zm A100
     clear A100
     by_cases c11 : t204 = true
     ·
      subst c11
      have H1 : (if t187 = 0 then ((psalteryref07_Same.f k t193 (([71, 71] : List Int))).bind fun t208 => (if t208 = true then (some (t194 == 0)) else (none))) else (none)) = some r := by rw [if_pos rfl] at H; exact H
      clear H
      have H := H1
      clear H1
      by_cases c12 : t187 = 0
      ·
       rw [if_pos c12] at H
       have c12b0 : (t187 == 0) = true := beq_iff_eq.mpr c12
       have c12b1 : (t187 != 0) = false := bne_eq_false_iff_eq.mpr c12
       clear c12
       obtain ⟨y205, hy205⟩ : ∃ y_ : List Int, y_ = (([71, 71] : List Int)) := ⟨_, rfl⟩
       replace H : ((psalteryref07_Same.f k t193 y205).bind fun t208 => (if t208 = true then (some (t194 == 0)) else (none))) = some r := by first | (rw [hy205]; with_reducible exact H) | (have H2_ := (Option.bind_some _ _).symm.trans H; rw [hy205]; with_reducible exact H2_) | (have H2_ := (Option.bind_some _ _).symm.trans H; with_reducible exact H2_) | with_reducible exact H | (rw [hy205]; exact H) | exact H
       have Ny205 := zm hy205
       clear hy205
       replace H := Option.bind_eq_some_iff.mp H
       obtain ⟨t208, A130, H⟩ := H
       replace H : (if t208 = true then (some (t194 == 0)) else (none)) = some r := H
       have A13 := zm A130
       clear A130
       by_cases c14 : t208 = true
       ·
        subst c14
        have H1 : (some (t194 == 0)) = some r := by rw [if_pos rfl] at H; exact H
        clear H
        have H := H1
        clear H1
        obtain rfl := Option.some.inj H
        go_enter Try.func9, Try.ntmps9
        go_wp2_with (first | ((with_reducible refine gate_dst (N := 10) rfl ?_); (try (refine gate_guard (by rfl) ?_; dsimp only)); refine Kd.R_lit (Kd.int .i64) _ 2 ?hg (N := 10) ?hd (xs := ([3, (-4)] : List Int)) (inner := [.int .i64 3, .int .i64 (-4)]) (ok := fun _ => True) (okp := fun _ => True) ?hr ?hp (fun _ hk => hk) trivial (Below.refl _ _) (Nat.le_refl _) (by simp) ?_; (case hd => rfl); (case hg => rfl); (case hr => first | (go_simp; done) | (go_simp; rfl)); (case hp => exact (Reps.one (show Kd.M (Kd.int .i64) _ _ _ 3 [.int .i64 3] from rfl) (Reps.one (show Kd.M (Kd.int .i64) _ _ _ (-4) [.int .i64 (-4)] from rfl) (Reps.none _ _)))); intro v172 w15 ho16 hb hg_ hnew_; clear hg_ hnew_; (first | rw [← Ny171.out] at ho16 | (simp only [Int.reduceToNat] at ho16; rw [← Ny171.out] at ho16)); have n0_ := zm (Kd.R_lower ho16 (zE (by repeat (first | (with_reducible first | exact HB.out | apply ze | apply zd | apply zf) | exact HB.out)))); have n1_ := zm (zJ (by repeat (first | (with_reducible first | exact HB.out | apply ze | apply zd | apply zf) | exact HB.out)) hb); clear HB; have HO173 := n0_; have HB := n1_; clear n0_ n1_; clear hb ho16; obtain ⟨Ao17, co17, eo17⟩ := Kd.R_slice HO173.out; subst eo17) | ((with_reducible refine gate_callee (f := 10) rfl ?_); refine goesL_ (some 11) rfl rfl Try.func10 (by kernel_rfl) rfl #[.slice Ao17 y171.length co17] rfl (by (try simp only [List.map_toArray, List.map_cons, List.map_nil]); first | done | rfl | (simp only [List.length_drop, List.length_take]; rfl)) ?_; (with_reducible refine (pvq_Square.calls k _ _ y171 t174 t175 _ ?side1 ?side2 A1.out).mono ?_); (case side1 => repeat (first | exact (Kd.R_reads' HO173.out).2.2 | (with_reducible refine Kd.C_alloc ?_ _) | (with_reducible refine Kd.C_drewN ?_ _) | (with_reducible refine Kd.C_drew ?_))); (case side2 => exact (Kd.R_reads' HO173.out).2.1); rintro e w' ⟨rfl, ⟨nd, rfl⟩⟩; refine ⟨_, rfl, ?_⟩) | ((with_reducible refine gate_dst (N := 15) rfl ?_); (try (refine gate_guard (by rfl) ?_; dsimp only)); refine Kd.R_lit (Kd.int .i64) _ 2 ?hg (N := 15) ?hd (xs := ([10, (-1)] : List Int)) (inner := [.int .i64 10, .int .i64 (-1)]) (ok := fun _ => True) (okp := fun _ => True) ?hr ?hp (fun _ hk => hk) trivial (Below.refl _ _) (Nat.le_refl _) (by simp) ?_; (case hd => rfl); (case hg => rfl); (case hr => first | (go_simp; done) | (go_simp; rfl)); (case hp => exact (Reps.one (show Kd.M (Kd.int .i64) _ _ _ 10 [.int .i64 10] from rfl) (Reps.one (show Kd.M (Kd.int .i64) _ _ _ (-1) [.int .i64 (-1)] from rfl) (Reps.none _ _)))); intro v177 w18 ho19 hb hg_ hnew_; clear hg_ hnew_; (first | rw [← Ny176.out] at ho19 | (simp only [Int.reduceToNat] at ho19; rw [← Ny176.out] at ho19)); have n0_ := zm (Kd.R_elder' (by (with_reducible repeat (first | apply zo | apply zp | apply zq)); exact HO173.out) (Kd.R_base ho19) hb); have n1_ := zm (Kd.R_lower (Kd.R_new' ho19 (Kd.R_lt (by (with_reducible repeat (first | apply zo | apply zp | apply zq)); exact HO173.out))) (zE (by repeat (first | (with_reducible first | exact HB.out | apply ze | apply zd | apply zf) | exact HB.out)))); have n2_ := zm (zJ (by repeat (first | (with_reducible first | exact HB.out | apply ze | apply zd | apply zf) | exact HB.out)) hb); clear HO173; clear HB; have HO173 := n0_; have HO178 := n1_; have HB := n2_; clear n0_ n1_ n2_; clear hb ho19; obtain ⟨Ao20, co20, eo20⟩ := Kd.R_slice HO178.out; subst eo20) | ((with_reducible refine gate_callee (f := 13) rfl ?_); refine goesL_ (some 16) rfl rfl Try.func13 (by kernel_rfl) rfl #[.slice Ao20 y176.length co20, .int .i64 3] rfl (by (try simp only [List.map_toArray, List.map_cons, List.map_nil]); first | done | rfl | (simp only [List.length_drop, List.length_take]; rfl)) ?_; (with_reducible refine (pvq_Search.calls k _ _ y176 3 t179 t180 _ ?side1 ?side2 A2.out).mono ?_); (case side1 => repeat (first | exact (Kd.R_reads' HO178.out).2.2 | (with_reducible refine Kd.C_alloc ?_ _) | (with_reducible refine Kd.C_drewN ?_ _) | (with_reducible refine Kd.C_drew ?_))); (case side2 => exact (Kd.R_reads' HO178.out).2.1); rintro e w21 ⟨v181, rfl, ho0, hb⟩; refine ⟨_, rfl, ?_⟩; have n0_ := zm (Kd.R_below (by (with_reducible repeat (first | apply zo | apply zp | apply zq)); exact HO173.out) hb); have n1_ := zm (Kd.R_below (by (with_reducible repeat (first | apply zo | apply zp | apply zq)); exact HO178.out) hb); have n2_ := zm (Kd.R_lower ho0 (zE (by repeat (first | (with_reducible first | exact HB.out | apply ze | apply zd | apply zf) | exact HB.out)))); have n3_ := zm (zJ (by repeat (first | (with_reducible first | exact HB.out | apply ze | apply zd | apply zf) | exact HB.out)) hb); clear HO173; clear HO178; clear HB; have HO173 := n0_; have HO178 := n1_; have HO182 := n2_; have HB := n3_; clear n0_ n1_ n2_ n3_; (try clear hb); (try clear hb2); (try clear hk); (try clear hi); (try clear ho0)) | ((with_reducible refine gate_dst (N := 20) rfl ?_); (try (refine gate_guard (by rfl) ?_; dsimp only)); refine Kd.R_lit (Kd.int .i64) _ 3 ?hg (N := 20) ?hd (xs := ([0, (-2)] : List Int)) (inner := [.int .i64 0, .int .i64 (-2)]) (ok := fun _ => True) (okp := fun _ => True) ?hr ?hp (fun _ hk => hk) trivial (Below.refl _ _) (Nat.le_refl _) (by simp) ?_; (case hd => rfl); (case hg => rfl); (case hr => first | (go_simp; done) | (go_simp; rfl)); (case hp => exact (Reps.one (show Kd.M (Kd.int .i64) _ _ _ 0 [.int .i64 0] from rfl) (Reps.one (show Kd.M (Kd.int .i64) _ _ _ (-2) [.int .i64 (-2)] from rfl) (Reps.none _ _)))); intro v184 w22 ho23 hb hg_ hnew_; clear hg_ hnew_; (first | rw [← Ny183.out] at ho23 | (simp only [Int.reduceToNat] at ho23; rw [← Ny183.out] at ho23)); have n0_ := zm (Kd.R_below (by (with_reducible repeat (first | apply zo | apply zp | apply zq)); exact HO173.out) hb); have n1_ := zm (Kd.R_below (by (with_reducible repeat (first | apply zo | apply zp | apply zq)); exact HO178.out) hb); have n2_ := zm (Kd.R_elder' (by (with_reducible repeat (first | apply zo | apply zp | apply zq)); exact HO182.out) (Kd.R_base ho23) hb); have n3_ := zm (Kd.R_lower (Kd.R_new' ho23 (Kd.R_lt (by (with_reducible repeat (first | apply zo | apply zp | apply zq)); exact HO182.out))) (zE (by repeat (first | (with_reducible first | exact HB.out | apply ze | apply zd | apply zf) | exact HB.out)))); have n4_ := zm (zJ (by repeat (first | (with_reducible first | exact HB.out | apply ze | apply zd | apply zf) | exact HB.out)) hb); clear HO173; clear HO178; clear HO182; clear HB; have HO173 := n0_; have HO178 := n1_; have HO182 := n2_; have HO185 := n3_; have HB := n4_; clear n0_ n1_ n2_ n3_ n4_; clear hb ho23; obtain ⟨Ao24, co24, eo24⟩ := Kd.R_slice HO185.out; subst eo24) | ((with_reducible refine gate_callee (f := 16) rfl ?_); refine goesL_ (some 21) rfl rfl Try.func16 (by kernel_rfl) rfl #[.slice Ao24 y183.length co24, .int .i64 7] rfl (by (try simp only [List.map_toArray, List.map_cons, List.map_nil]); first | done | rfl | (simp only [List.length_drop, List.length_take]; rfl)) ?_; (with_reducible refine (pvq_Shape.calls k _ _ y183 7 t186 t187 _ ?side1 ?side2 A3.out).mono ?_); (case side1 => repeat (first | exact (Kd.R_reads' HO185.out).2.2 | (with_reducible refine Kd.C_alloc ?_ _) | (with_reducible refine Kd.C_drewN ?_ _) | (with_reducible refine Kd.C_drew ?_))); (case side2 => exact (Kd.R_reads' HO185.out).2.1); rintro e w25 ⟨v188, rfl, ho0, hb⟩; refine ⟨_, rfl, ?_⟩; have n0_ := zm (Kd.R_elder' (by (with_reducible repeat (first | apply zo | apply zp | apply zq)); exact HO173.out) (Kd.R_base ho0) hb); have n1_ := zm (Kd.R_elder' (by (with_reducible repeat (first | apply zo | apply zp | apply zq)); exact HO178.out) (Kd.R_base ho0) hb); have n2_ := zm (Kd.R_below (by (with_reducible repeat (first | apply zo | apply zp | apply zq)); exact HO182.out) hb); have n3_ := zm (Kd.R_below (by (with_reducible repeat (first | apply zo | apply zp | apply zq)); exact HO185.out) hb); have n4_ := zm (Kd.R_lower (Kd.R_new' (Kd.R_new' ho0 (Kd.R_lt (by (with_reducible repeat (first | apply zo | apply zp | apply zq)); exact HO173.out))) (Kd.R_lt (by (with_reducible repeat (first | apply zo | apply zp | apply zq)); exact HO178.out))) (zE (by repeat (first | (with_reducible first | exact HB.out | apply ze | apply zd | apply zf) | exact HB.out)))); have n5_ := zm (zJ (by repeat (first | (with_reducible first | exact HB.out | apply ze | apply zd | apply zf) | exact HB.out)) hb); clear HO173; clear HO178; clear HO182; clear HO185; clear HB; have HO173 := n0_; have HO178 := n1_; have HO182 := n2_; have HO185 := n3_; have HO189 := n4_; have HB := n5_; clear n0_ n1_ n2_ n3_ n4_ n5_; (try clear hb); (try clear hb2); (try clear hk); (try clear hi); (try clear ho0)) | ((with_reducible refine gate_dst (N := 25) rfl ?_); (try (refine gate_guard (by rfl) ?_; dsimp only)); refine Kd.R_lit (Kd.int .i64) _ 3 ?hg (N := 25) ?hd (xs := ([1, 1] : List Int)) (inner := [.int .i64 1, .int .i64 1]) (ok := fun _ => True) (okp := fun _ => True) ?hr ?hp (fun _ hk => hk) trivial (Below.refl _ _) (Nat.le_refl _) (by simp) ?_; (case hd => rfl); (case hg => rfl); (case hr => first | (go_simp; done) | (go_simp; rfl)); (case hp => exact (Reps.one (show Kd.M (Kd.int .i64) _ _ _ 1 [.int .i64 1] from rfl) (Reps.one (show Kd.M (Kd.int .i64) _ _ _ 1 [.int .i64 1] from rfl) (Reps.none _ _)))); intro v191 w26 ho27 hb hg_ hnew_; clear hg_ hnew_; (first | rw [← Ny190.out] at ho27 | (simp only [Int.reduceToNat] at ho27; rw [← Ny190.out] at ho27)); have n0_ := zm (Kd.R_below (by (with_reducible repeat (first | apply zo | apply zp | apply zq)); exact HO173.out) hb); have n1_ := zm (Kd.R_below (by (with_reducible repeat (first | apply zo | apply zp | apply zq)); exact HO178.out) hb); have n2_ := zm (Kd.R_elder' (by (with_reducible repeat (first | apply zo | apply zp | apply zq)); exact HO182.out) (Kd.R_base ho27) hb); have n3_ := zm (Kd.R_elder' (by (with_reducible repeat (first | apply zo | apply zp | apply zq)); exact HO185.out) (Kd.R_base ho27) hb); have n4_ := zm (Kd.R_below (by (with_reducible repeat (first | apply zo | apply zp | apply zq)); exact HO189.out) hb); have n5_ := zm (Kd.R_lower (Kd.R_new' (Kd.R_new' ho27 (Kd.R_lt (by (with_reducible repeat (first | apply zo | apply zp | apply zq)); exact HO182.out))) (Kd.R_lt (by (with_reducible repeat (first | apply zo | apply zp | apply zq)); exact HO185.out))) (zE (by repeat (first | (with_reducible first | exact HB.out | apply ze | apply zd | apply zf) | exact HB.out)))); have n6_ := zm (zJ (by repeat (first | (with_reducible first | exact HB.out | apply ze | apply zd | apply zf) | exact HB.out)) hb); clear HO173; clear HO178; clear HO182; clear HO185; clear HO189; clear HB; have HO173 := n0_; have HO178 := n1_; have HO182 := n2_; have HO185 := n3_; have HO189 := n4_; have HO192 := n5_; have HB := n6_; clear n0_ n1_ n2_ n3_ n4_ n5_ n6_; clear hb ho27; obtain ⟨Ao28, co28, eo28⟩ := Kd.R_slice HO192.out; subst eo28) | ((with_reducible refine gate_callee (f := 16) rfl ?_); refine goesL_ (some 26) rfl rfl Try.func16 (by kernel_rfl) rfl #[.slice Ao28 y190.length co28, .int .i64 100] rfl (by (try simp only [List.map_toArray, List.map_cons, List.map_nil]); first | done | rfl | (simp only [List.length_drop, List.length_take]; rfl)) ?_; (with_reducible refine (pvq_Shape.calls k _ _ y190 100 t193 t194 _ ?side1 ?side2 A4.out).mono ?_); (case side1 => repeat (first | exact (Kd.R_reads' HO192.out).2.2 | (with_reducible refine Kd.C_alloc ?_ _) | (with_reducible refine Kd.C_drewN ?_ _) | (with_reducible refine Kd.C_drew ?_))); (case side2 => exact (Kd.R_reads' HO192.out).2.1); rintro e w29 ⟨v195, rfl, ho0, hb⟩; refine ⟨_, rfl, ?_⟩; have n0_ := zm (Kd.R_elder' (by (with_reducible repeat (first | apply zo | apply zp | apply zq)); exact HO173.out) (Kd.R_base ho0) hb); have n1_ := zm (Kd.R_elder' (by (with_reducible repeat (first | apply zo | apply zp | apply zq)); exact HO178.out) (Kd.R_base ho0) hb); have n2_ := zm (Kd.R_below (by (with_reducible repeat (first | apply zo | apply zp | apply zq)); exact HO182.out) hb); have n3_ := zm (Kd.R_below (by (with_reducible repeat (first | apply zo | apply zp | apply zq)); exact HO185.out) hb); have n4_ := zm (Kd.R_elder' (by (with_reducible repeat (first | apply zo | apply zp | apply zq)); exact HO189.out) (Kd.R_base ho0) hb); have n5_ := zm (Kd.R_below (by (with_reducible repeat (first | apply zo | apply zp | apply zq)); exact HO192.out) hb); have n6_ := zm (Kd.R_lower (Kd.R_new' (Kd.R_new' (Kd.R_new' ho0 (Kd.R_lt (by (with_reducible repeat (first | apply zo | apply zp | apply zq)); exact HO173.out))) (Kd.R_lt (by (with_reducible repeat (first | apply zo | apply zp | apply zq)); exact HO178.out))) (Kd.R_lt (by (with_reducible repeat (first | apply zo | apply zp | apply zq)); exact HO189.out))) (zE (by repeat (first | (with_reducible first | exact HB.out | apply ze | apply zd | apply zf) | exact HB.out)))); have n7_ := zm (zJ (by repeat (first | (with_reducible first | exact HB.out | apply ze | apply zd | apply zf) | exact HB.out)) hb); clear HO173; clear HO178; clear HO182; clear HO185; clear HO189; clear HO192; clear HB; have HO173 := n0_; have HO178 := n1_; have HO182 := n2_; have HO185 := n3_; have HO189 := n4_; have HO192 := n5_; have HO196 := n6_; have HB := n7_; clear n0_ n1_ n2_ n3_ n4_ n5_ n6_ n7_; (try clear hb); (try clear hb2); (try clear hk); (try clear hi); (try clear ho0)) | ((with_reducible refine gate_dst (N := 37) rfl ?_); (try (refine gate_guard (by rfl) ?_; dsimp only)); refine Kd.R_lit (Kd.int .i64) _ 3 ?hg (N := 37) ?hd (xs := ([3, 0] : List Int)) (inner := [.int .i64 3, .int .i64 0]) (ok := fun _ => True) (okp := fun _ => True) ?hr ?hp (fun _ hk => hk) trivial (Below.refl _ _) (Nat.le_refl _) (by simp) ?_; (case hd => rfl); (case hg => rfl); (case hr => first | (go_simp; done) | (go_simp; rfl)); (case hp => exact (Reps.one (show Kd.M (Kd.int .i64) _ _ _ 3 [.int .i64 3] from rfl) (Reps.one (show Kd.M (Kd.int .i64) _ _ _ 0 [.int .i64 0] from rfl) (Reps.none _ _)))); intro v198 w30 ho31 hb hg_ hnew_; clear hg_ hnew_; (first | rw [← Ny197.out] at ho31 | (simp only [Int.reduceToNat] at ho31; rw [← Ny197.out] at ho31)); have n0_ := zm (Kd.R_below (by (with_reducible repeat (first | apply zo | apply zp | apply zq)); exact HO173.out) hb); have n1_ := zm (Kd.R_below (by (with_reducible repeat (first | apply zo | apply zp | apply zq)); exact HO178.out) hb); have n2_ := zm (Kd.R_elder' (by (with_reducible repeat (first | apply zo | apply zp | apply zq)); exact HO182.out) (Kd.R_base ho31) hb); have n3_ := zm (Kd.R_elder' (by (with_reducible repeat (first | apply zo | apply zp | apply zq)); exact HO185.out) (Kd.R_base ho31) hb); have n4_ := zm (Kd.R_below (by (with_reducible repeat (first | apply zo | apply zp | apply zq)); exact HO189.out) hb); have n5_ := zm (Kd.R_elder' (by (with_reducible repeat (first | apply zo | apply zp | apply zq)); exact HO192.out) (Kd.R_base ho31) hb); have n6_ := zm (Kd.R_below (by (with_reducible repeat (first | apply zo | apply zp | apply zq)); exact HO196.out) hb); have n7_ := zm (Kd.R_lower (Kd.R_new' (Kd.R_new' (Kd.R_new' ho31 (Kd.R_lt (by (with_reducible repeat (first | apply zo | apply zp | apply zq)); exact HO182.out))) (Kd.R_lt (by (with_reducible repeat (first | apply zo | apply zp | apply zq)); exact HO185.out))) (Kd.R_lt (by (with_reducible repeat (first | apply zo | apply zp | apply zq)); exact HO192.out))) (zE (by repeat (first | (with_reducible first | exact HB.out | apply ze | apply zd | apply zf) | exact HB.out)))); have n8_ := zm (zJ (by repeat (first | (with_reducible first | exact HB.out | apply ze | apply zd | apply zf) | exact HB.out)) hb); clear HO173; clear HO178; clear HO182; clear HO185; clear HO189; clear HO192; clear HO196; clear HB; have HO173 := n0_; have HO178 := n1_; have HO182 := n2_; have HO185 := n3_; have HO189 := n4_; have HO192 := n5_; have HO196 := n6_; have HO199 := n7_; have HB := n8_; clear n0_ n1_ n2_ n3_ n4_ n5_ n6_ n7_ n8_; clear hb ho31; obtain ⟨Ao32, co32, eo32⟩ := Kd.R_slice HO182.out; subst eo32; obtain ⟨Ao33, co33, eo33⟩ := Kd.R_slice HO199.out; subst eo33) | (go_at_call 14; (with_reducible refine (psalteryref06_Same.calls k _ _ t179 _ _ y197 true _ ?side1 ?side2 ?side3 ?side4 A7.out).mono ?_); (case side1 => repeat (first | exact (Kd.R_reads' HO182.out).2.2 | (with_reducible refine Kd.C_alloc ?_ _) | (with_reducible refine Kd.C_drewN ?_ _) | (with_reducible refine Kd.C_drew ?_))); (case side2 => exact (Kd.R_reads' HO182.out).2.1); (case side3 => repeat (first | exact (Kd.R_reads' HO199.out).2.2 | (with_reducible refine Kd.C_alloc ?_ _) | (with_reducible refine Kd.C_drewN ?_ _) | (with_reducible refine Kd.C_drew ?_))); (case side4 => exact (Kd.R_reads' HO199.out).2.1); rintro e w' ⟨rfl, ⟨nd, rfl⟩⟩) | ((with_reducible refine gate_dst (N := 46) rfl ?_); (try (refine gate_guard (by rfl) ?_; dsimp only)); refine Kd.R_lit (Kd.int .i64) _ 2 ?hg (N := 46) ?hd (xs := ([0, (-7)] : List Int)) (inner := [.int .i64 0, .int .i64 (-7)]) (ok := fun _ => True) (okp := fun _ => True) ?hr ?hp (fun _ hk => hk) trivial (Below.refl _ _) (Nat.le_refl _) (by simp) ?_; (case hd => rfl); (case hg => rfl); (case hr => first | (go_simp; done) | (go_simp; rfl)); (case hp => exact (Reps.one (show Kd.M (Kd.int .i64) _ _ _ 0 [.int .i64 0] from rfl) (Reps.one (show Kd.M (Kd.int .i64) _ _ _ (-7) [.int .i64 (-7)] from rfl) (Reps.none _ _)))); intro v202 w34 ho35 hb hg_ hnew_; clear hg_ hnew_; (first | rw [← Ny201.out] at ho35 | (simp only [Int.reduceToNat] at ho35; rw [← Ny201.out] at ho35)); have n0_ := zm (Kd.R_elder' (by (with_reducible repeat (first | apply zo | apply zp | apply zq)); exact HO173.out) (Kd.R_base ho35) hb); have n1_ := zm (Kd.R_elder' (by (with_reducible repeat (first | apply zo | apply zp | apply zq)); exact HO178.out) (Kd.R_base ho35) hb); have n2_ := zm (Kd.R_below (by (with_reducible repeat (first | apply zo | apply zp | apply zq)); exact HO182.out) hb); have n3_ := zm (Kd.R_below (by (with_reducible repeat (first | apply zo | apply zp | apply zq)); exact HO185.out) hb); have n4_ := zm (Kd.R_elder' (by (with_reducible repeat (first | apply zo | apply zp | apply zq)); exact HO189.out) (Kd.R_base ho35) hb); have n5_ := zm (Kd.R_below (by (with_reducible repeat (first | apply zo | apply zp | apply zq)); exact HO192.out) hb); have n6_ := zm (Kd.R_elder' (by (with_reducible repeat (first | apply zo | apply zp | apply zq)); exact HO196.out) (Kd.R_base ho35) hb); have n7_ := zm (Kd.R_below (by (with_reducible repeat (first | apply zo | apply zp | apply zq)); exact HO199.out) hb); have n8_ := zm (Kd.R_lower (Kd.R_new' (Kd.R_new' (Kd.R_new' (Kd.R_new' ho35 (Kd.R_lt (by (with_reducible repeat (first | apply zo | apply zp | apply zq)); exact HO173.out))) (Kd.R_lt (by (with_reducible repeat (first | apply zo | apply zp | apply zq)); exact HO178.out))) (Kd.R_lt (by (with_reducible repeat (first | apply zo | apply zp | apply zq)); exact HO189.out))) (Kd.R_lt (by (with_reducible repeat (first | apply zo | apply zp | apply zq)); exact HO196.out))) (zE (by repeat (first | (with_reducible first | exact HB.out | apply ze | apply zd | apply zf) | exact HB.out)))); have n9_ := zm (zJ (by repeat (first | (with_reducible first | exact HB.out | apply ze | apply zd | apply zf) | exact HB.out)) hb); clear HO173; clear HO178; clear HO182; clear HO185; clear HO189; clear HO192; clear HO196; clear HO199; clear HB; have HO173 := n0_; have HO178 := n1_; have HO182 := n2_; have HO185 := n3_; have HO189 := n4_; have HO192 := n5_; have HO196 := n6_; have HO199 := n7_; have HO203 := n8_; have HB := n9_; clear n0_ n1_ n2_ n3_ n4_ n5_ n6_ n7_ n8_ n9_; clear hb ho35; obtain ⟨Ao36, co36, eo36⟩ := Kd.R_slice HO189.out; subst eo36; obtain ⟨Ao37, co37, eo37⟩ := Kd.R_slice HO203.out; subst eo37) | (go_at_call 18; (with_reducible refine (psalteryref07_Same.calls k _ _ t186 _ _ y201 true _ ?side1 ?side2 ?side3 ?side4 A10.out).mono ?_); (case side1 => repeat (first | exact (Kd.R_reads' HO189.out).2.2 | (with_reducible refine Kd.C_alloc ?_ _) | (with_reducible refine Kd.C_drewN ?_ _) | (with_reducible refine Kd.C_drew ?_))); (case side2 => exact (Kd.R_reads' HO189.out).2.1); (case side3 => repeat (first | exact (Kd.R_reads' HO203.out).2.2 | (with_reducible refine Kd.C_alloc ?_ _) | (with_reducible refine Kd.C_drewN ?_ _) | (with_reducible refine Kd.C_drew ?_))); (case side4 => exact (Kd.R_reads' HO203.out).2.1); rintro e w' ⟨rfl, ⟨nd, rfl⟩⟩) | ((with_reducible refine gate_dst (N := 55) rfl ?_); (try (refine gate_guard (by rfl) ?_; dsimp only)); refine Kd.R_lit (Kd.int .i64) _ 2 ?hg (N := 55) ?hd (xs := ([71, 71] : List Int)) (inner := [.int .i64 71, .int .i64 71]) (ok := fun _ => True) (okp := fun _ => True) ?hr ?hp (fun _ hk => hk) trivial (Below.refl _ _) (Nat.le_refl _) (by simp) ?_; (case hd => rfl); (case hg => rfl); (case hr => first | (go_simp; done) | (go_simp; rfl)); (case hp => exact (Reps.one (show Kd.M (Kd.int .i64) _ _ _ 71 [.int .i64 71] from rfl) (Reps.one (show Kd.M (Kd.int .i64) _ _ _ 71 [.int .i64 71] from rfl) (Reps.none _ _)))); intro v206 w38 ho39 hb hg_ hnew_; clear hg_ hnew_; (first | rw [← Ny205.out] at ho39 | (simp only [Int.reduceToNat] at ho39; rw [← Ny205.out] at ho39)); have n0_ := zm (Kd.R_elder' (by (with_reducible repeat (first | apply zo | apply zp | apply zq)); exact HO173.out) (Kd.R_base ho39) hb); have n1_ := zm (Kd.R_elder' (by (with_reducible repeat (first | apply zo | apply zp | apply zq)); exact HO178.out) (Kd.R_base ho39) hb); have n2_ := zm (Kd.R_below (by (with_reducible repeat (first | apply zo | apply zp | apply zq)); exact HO182.out) hb); have n3_ := zm (Kd.R_below (by (with_reducible repeat (first | apply zo | apply zp | apply zq)); exact HO185.out) hb); have n4_ := zm (Kd.R_elder' (by (with_reducible repeat (first | apply zo | apply zp | apply zq)); exact HO189.out) (Kd.R_base ho39) hb); have n5_ := zm (Kd.R_below (by (with_reducible repeat (first | apply zo | apply zp | apply zq)); exact HO192.out) hb); have n6_ := zm (Kd.R_elder' (by (with_reducible repeat (first | apply zo | apply zp | apply zq)); exact HO196.out) (Kd.R_base ho39) hb); have n7_ := zm (Kd.R_below (by (with_reducible repeat (first | apply zo | apply zp | apply zq)); exact HO199.out) hb); have n8_ := zm (Kd.R_elder' (by (with_reducible repeat (first | apply zo | apply zp | apply zq)); exact HO203.out) (Kd.R_base ho39) hb); have n9_ := zm (Kd.R_lower (Kd.R_new' (Kd.R_new' (Kd.R_new' (Kd.R_new' (Kd.R_new' ho39 (Kd.R_lt (by (with_reducible repeat (first | apply zo | apply zp | apply zq)); exact HO173.out))) (Kd.R_lt (by (with_reducible repeat (first | apply zo | apply zp | apply zq)); exact HO178.out))) (Kd.R_lt (by (with_reducible repeat (first | apply zo | apply zp | apply zq)); exact HO189.out))) (Kd.R_lt (by (with_reducible repeat (first | apply zo | apply zp | apply zq)); exact HO196.out))) (Kd.R_lt (by (with_reducible repeat (first | apply zo | apply zp | apply zq)); exact HO203.out))) (zE (by repeat (first | (with_reducible first | exact HB.out | apply ze | apply zd | apply zf) | exact HB.out)))); have n10_ := zm (zJ (by repeat (first | (with_reducible first | exact HB.out | apply ze | apply zd | apply zf) | exact HB.out)) hb); clear HO173; clear HO178; clear HO182; clear HO185; clear HO189; clear HO192; clear HO196; clear HO199; clear HO203; clear HB; have HO173 := n0_; have HO178 := n1_; have HO182 := n2_; have HO185 := n3_; have HO189 := n4_; have HO192 := n5_; have HO196 := n6_; have HO199 := n7_; have HO203 := n8_; have HO207 := n9_; have HB := n10_; clear n0_ n1_ n2_ n3_ n4_ n5_ n6_ n7_ n8_ n9_ n10_; clear hb ho39; obtain ⟨Ao40, co40, eo40⟩ := Kd.R_slice HO196.out; subst eo40; obtain ⟨Ao41, co41, eo41⟩ := Kd.R_slice HO207.out; subst eo41) | (go_at_call 18; (with_reducible refine (psalteryref07_Same.calls k _ _ t193 _ _ y205 true _ ?side1 ?side2 ?side3 ?side4 A13.out).mono ?_); (case side1 => repeat (first | exact (Kd.R_reads' HO196.out).2.2 | (with_reducible refine Kd.C_alloc ?_ _) | (with_reducible refine Kd.C_drewN ?_ _) | (with_reducible refine Kd.C_drew ?_))); (case side2 => exact (Kd.R_reads' HO196.out).2.1); (case side3 => repeat (first | exact (Kd.R_reads' HO207.out).2.2 | (with_reducible refine Kd.C_alloc ?_ _) | (with_reducible refine Kd.C_drewN ?_ _) | (with_reducible refine Kd.C_drew ?_))); (case side4 => exact (Kd.R_reads' HO207.out).2.1); rintro e w' ⟨rfl, ⟨nd, rfl⟩⟩))
        go_ret
        exact ⟨by first | rfl | (simp [errW_none, errW_some] <;> rfl) | (simp [*, errW_none, errW_some] <;> rfl), by repeat (first | (with_reducible first | exact HB.out | apply ze | apply zd | apply zf) | exact HB.out)⟩
       ·
        replace c14 := Bool.eq_false_iff.mpr c14
        subst c14
        have H1 : (none) = some r := by rw [if_neg (show ¬ (false = true) by decide)] at H; exact H
        clear H
        have H := H1
        clear H1
        exact absurd H (by simp)
      ·
       rw [if_neg c12] at H
       exact absurd H (by simp)
     ·
      replace c11 := Bool.eq_false_iff.mpr c11
      subst c11
      have H1 : (none) = some r := by rw [if_neg (show ¬ (false = true) by decide)] at H; exact H
      clear H
      have H := H1
      clear H1
      exact absurd H (by simp)
    ·
     rw [if_neg c9] at H
     exact absurd H (by simp)
   ·
    replace c8 := Bool.eq_false_iff.mpr c8
    subst c8
    have H1 : (none) = some r := by rw [if_neg (show ¬ (false = true) by decide)] at H; exact H
    clear H
    have H := H1
    clear H1
    exact absurd H (by simp)
  ·
   rw [if_neg c6] at H
   exact absurd H (by simp)
 ·
  rw [if_neg c5] at H
  exact absurd H (by simp)

end Go.Proofs.Ytllgjhenbchkfaa.Prt

namespace Go.Proofs.Ytllgjhenbchkfaa.Prt
open Go.RowKit Go.Proofs.YtllgjhenbchkfaaW.PrintWords Go.Proofs.YtllgjhenbchkfaaW.PrintLast Go.Proofs.YtllgjhenbchkfaaW.PrintMore
attribute [local go_sem] max2_int min2_int max_two min_two max_three min_three max_four min_four   -- for this text's walks alone
set_option linter.unusedVariables false
set_option linter.unusedSimpArgs false

/-! ### psalterylaw07_PvqAlone: function 8 -/
mutual
def psalterylaw07_PvqAlone.j0 : Nat → Int → Int → Int → Int → Bool → Option (Bool)
 | 0, _, _, _, _, _ => none
 | k + 1, x0, x1, x2, x3, x52 => if x52 = true then ((psalterylaw07_knows.f k).bind fun t355 => (some t355)) else (if 0 ≤ x0 then (if (x0 : Int).toNat ≤ 35184372088832 then ((some (List.replicate (x0 : Int).toNat 0 : List Int)).bind fun y356 => (if 0 ≤ x1 then (if x1 < (y356.length : Int) then ((pvq_Search.f k (y356.set (x1 : Int).toNat x2) x3).bind fun bt360 => (if bt360.2 = 0 then (psalterylaw07_PvqAlone.j1 k x0 x1 x2 x3 bt360.1 ((bt360.1.length : Int) != x0)) else (psalterylaw07_PvqAlone.j1 k x0 x1 x2 x3 bt360.1 true))) else (none)) else (none))) else (none)) else (none))
def psalterylaw07_PvqAlone.j1 : Nat → Int → Int → Int → Int → List Int → Bool → Option (Bool)
 | 0, _, _, _, _, _, _ => none
 | k + 1, x0, x1, x2, x3, x10, x73 => if x73 = true then (none) else (if x2 < 0 then (psalterylaw07_PvqAlone.j2 k x0 x1 x2 x10 (wrap64 (-x2)) (wrap64 (-x3))) else (psalterylaw07_PvqAlone.j2 k x0 x1 x2 x10 x2 x3))
def psalterylaw07_PvqAlone.j2 : Nat → Int → Int → Int → List Int → Int → Int → Option (Bool)
 | 0, _, _, _, _, _, _ => none
 | k + 1, x0, x1, x2, x10, x12, x13 => (pvq_Shape.f k x10 x12).bind fun bt364 => (if bt364.2 = 0 then (psalterylaw07_PvqAlone.j3 k x0 x1 x2 x10 x12 x13 bt364.1 ((bt364.1.length : Int) != x0)) else (psalterylaw07_PvqAlone.j3 k x0 x1 x2 x10 x12 x13 bt364.1 true))
def psalterylaw07_PvqAlone.j3 : Nat → Int → Int → Int → List Int → Int → Int → List Int → Bool → Option (Bool)
 | 0, _, _, _, _, _, _, _, _ => none
 | k + 1, x0, x1, x2, x10, x12, x13, x14, x95 => if x95 = true then (none) else (psalterylaw07_PvqAlone.l0 k x0 x1 x2 x10 x12 x13 x14 0)
def psalterylaw07_PvqAlone.l0 : Nat → Int → Int → Int → List Int → Int → Int → List Int → Int → Option (Bool)
 | 0, _, _, _, _, _, _, _, _ => none
 | k + 1, x0, x1, x2, x10, x12, x13, x14, x16 => if x16 < x0 then (if x16 = x1 then (psalterylaw07_PvqAlone.l0 k x0 x1 x2 x10 x12 x13 x14 (wrap64 (x16 + 1))) else (if 0 ≤ x16 then (if x16 < (x10.length : Int) then (if (rd x10 x16) = 0 then (if x16 < (x14.length : Int) then (if (rd x14 x16) = 0 then (psalterylaw07_PvqAlone.l0 k x0 x1 x2 x10 x12 x13 x14 (wrap64 (x16 + 1))) else (none)) else (none)) else (none)) else (none)) else (none))) else (if 0 ≤ x1 then (if x1 < (x14.length : Int) then (if (wrap64 ((rd x14 x1) - x2)) < 0 then (if x1 < (x10.length : Int) then (if (rd x10 x1) = x13 then (if (wrap64 (-(wrap64 ((rd x14 x1) - x2)))) ≤ (wrap64 ((wrap64 (Int.tdiv x12 255)) + 1)) then ((psalterylaw07_knows.f k).bind fun t372 => (some t372)) else (none)) else (none)) else (none)) else (if x1 < (x10.length : Int) then (if (rd x10 x1) = x13 then (if (wrap64 ((rd x14 x1) - x2)) ≤ (wrap64 ((wrap64 (Int.tdiv x12 255)) + 1)) then ((psalterylaw07_knows.f k).bind fun t374 => (some t374)) else (none)) else (none)) else (none))) else (none)) else (none))
end
def psalterylaw07_PvqAlone.f (k : Nat) (a0 : Int) (a1 : Int) (a2 : Int) (a3 : Int) : Option (Bool) := if a0 < 1 then (psalterylaw07_PvqAlone.j0 k a0 a1 a2 a3 true) else (if a0 > 16 then (psalterylaw07_PvqAlone.j0 k a0 a1 a2 a3 true) else (if a1 < 0 then (psalterylaw07_PvqAlone.j0 k a0 a1 a2 a3 true) else (if a1 ≥ a0 then (psalterylaw07_PvqAlone.j0 k a0 a1 a2 a3 true) else (if a2 = 0 then (psalterylaw07_PvqAlone.j0 k a0 a1 a2 a3 true) else (if a2 < (-1048576) then (psalterylaw07_PvqAlone.j0 k a0 a1 a2 a3 true) else (if a2 > 1048576 then (psalterylaw07_PvqAlone.j0 k a0 a1 a2 a3 true) else (if a3 < 1 then (psalterylaw07_PvqAlone.j0 k a0 a1 a2 a3 true) else (psalterylaw07_PvqAlone.j0 k a0 a1 a2 a3 (decide (a3 > 12))))))))))
theorem psalterylaw07_PvqAlone.mono_l : ∀ k, (∀ y0 y1 y2 y3 y4, LeO (psalterylaw07_PvqAlone.j0 k y0 y1 y2 y3 y4) (psalterylaw07_PvqAlone.j0 (k + 1) y0 y1 y2 y3 y4)) ∧ (∀ y0 y1 y2 y3 y4 y5, LeO (psalterylaw07_PvqAlone.j1 k y0 y1 y2 y3 y4 y5) (psalterylaw07_PvqAlone.j1 (k + 1) y0 y1 y2 y3 y4 y5)) ∧ (∀ y0 y1 y2 y3 y4 y5, LeO (psalterylaw07_PvqAlone.j2 k y0 y1 y2 y3 y4 y5) (psalterylaw07_PvqAlone.j2 (k + 1) y0 y1 y2 y3 y4 y5)) ∧ (∀ y0 y1 y2 y3 y4 y5 y6 y7, LeO (psalterylaw07_PvqAlone.j3 k y0 y1 y2 y3 y4 y5 y6 y7) (psalterylaw07_PvqAlone.j3 (k + 1) y0 y1 y2 y3 y4 y5 y6 y7)) ∧ (∀ y0 y1 y2 y3 y4 y5 y6 y7, LeO (psalterylaw07_PvqAlone.l0 k y0 y1 y2 y3 y4 y5 y6 y7) (psalterylaw07_PvqAlone.l0 (k + 1) y0 y1 y2 y3 y4 y5 y6 y7))
 | 0 => ⟨fun _ _ _ _ _ r h => by simp [psalterylaw07_PvqAlone.j0] at h, fun _ _ _ _ _ _ r h => by simp [psalterylaw07_PvqAlone.j1] at h, fun _ _ _ _ _ _ r h => by simp [psalterylaw07_PvqAlone.j2] at h, fun _ _ _ _ _ _ _ _ r h => by simp [psalterylaw07_PvqAlone.j3] at h, fun _ _ _ _ _ _ _ _ r h => by simp [psalterylaw07_PvqAlone.l0] at h⟩
 | k + 1 => by
  obtain ⟨ih0, ih1, ih2, ih3, ih4⟩ := psalterylaw07_PvqAlone.mono_l k
  refine ⟨?_, ?_, ?_, ?_, ?_⟩
  ·
   intro y0 y1 y2 y3 y4
   unfold psalterylaw07_PvqAlone.j0
   repeat' first
   | (with_reducible exact ih0 _ _ _ _ _)
   | (with_reducible exact ih1 _ _ _ _ _ _)
   | (with_reducible exact ih2 _ _ _ _ _ _)
   | (with_reducible exact ih3 _ _ _ _ _ _ _ _)
   | (with_reducible exact ih4 _ _ _ _ _ _ _ _)
   | (with_reducible exact psalterylaw07_knows.mono _)
   | (with_reducible exact pvq_Search.mono _ _ _)
   | (with_reducible exact pvq_Shape.mono _ _ _)
   | (with_reducible exact LeO.refl _)
   | (with_reducible exact LeO.none _)
   | (with_reducible refine LeO.ite ?_ ?_)
   | (with_reducible refine LeO.bind ?_ (fun _ => ?_))
   | exact ih0 _ _ _ _ _
   | exact ih1 _ _ _ _ _ _
   | exact ih2 _ _ _ _ _ _
   | exact ih3 _ _ _ _ _ _ _ _
   | exact ih4 _ _ _ _ _ _ _ _
   | exact psalterylaw07_knows.mono _
   | exact pvq_Search.mono _ _ _
   | exact pvq_Shape.mono _ _ _
   | exact LeO.none _
   | refine LeO.ite ?_ ?_
   | refine LeO.bind ?_ (fun _ => ?_)
  ·
   intro y0 y1 y2 y3 y4 y5
   unfold psalterylaw07_PvqAlone.j1
   repeat' first
   | (with_reducible exact ih0 _ _ _ _ _)
   | (with_reducible exact ih1 _ _ _ _ _ _)
   | (with_reducible exact ih2 _ _ _ _ _ _)
   | (with_reducible exact ih3 _ _ _ _ _ _ _ _)
   | (with_reducible exact ih4 _ _ _ _ _ _ _ _)
   | (with_reducible exact psalterylaw07_knows.mono _)
   | (with_reducible exact pvq_Search.mono _ _ _)
   | (with_reducible exact pvq_Shape.mono _ _ _)
   | (with_reducible exact LeO.refl _)
   | (with_reducible exact LeO.none _)
   | (with_reducible refine LeO.ite ?_ ?_)
   | (with_reducible refine LeO.bind ?_ (fun _ => ?_))
   | exact ih0 _ _ _ _ _
   | exact ih1 _ _ _ _ _ _
   | exact ih2 _ _ _ _ _ _
   | exact ih3 _ _ _ _ _ _ _ _
   | exact ih4 _ _ _ _ _ _ _ _
   | exact psalterylaw07_knows.mono _
   | exact pvq_Search.mono _ _ _
   | exact pvq_Shape.mono _ _ _
   | exact LeO.none _
   | refine LeO.ite ?_ ?_
   | refine LeO.bind ?_ (fun _ => ?_)
  ·
   intro y0 y1 y2 y3 y4 y5
   unfold psalterylaw07_PvqAlone.j2
   repeat' first
   | (with_reducible exact ih0 _ _ _ _ _)
   | (with_reducible exact ih1 _ _ _ _ _ _)
   | (with_reducible exact ih2 _ _ _ _ _ _)
   | (with_reducible exact ih3 _ _ _ _ _ _ _ _)
   | (with_reducible exact ih4 _ _ _ _ _ _ _ _)
   | (with_reducible exact psalterylaw07_knows.mono _)
   | (with_reducible exact pvq_Search.mono _ _ _)
   | (with_reducible exact pvq_Shape.mono _ _ _)
   | (with_reducible exact LeO.refl _)
   | (with_reducible exact LeO.none _)
   | (with_reducible refine LeO.ite ?_ ?_)
   | (with_reducible refine LeO.bind ?_ (fun _ => ?_))
   | exact ih0 _ _ _ _ _
   | exact ih1 _ _ _ _ _ _
   | exact ih2 _ _ _ _ _ _
   | exact ih3 _ _ _ _ _ _ _ _
   | exact ih4 _ _ _ _ _ _ _ _
   | exact psalterylaw07_knows.mono _
   | exact pvq_Search.mono _ _ _
   | exact pvq_Shape.mono _ _ _
   | exact LeO.none _
   | refine LeO.ite ?_ ?_
   | refine LeO.bind ?_ (fun _ => ?_)
  ·
   intro y0 y1 y2 y3 y4 y5 y6 y7
   unfold psalterylaw07_PvqAlone.j3
   repeat' first
   | (with_reducible exact ih0 _ _ _ _ _)
   | (with_reducible exact ih1 _ _ _ _ _ _)
   | (with_reducible exact ih2 _ _ _ _ _ _)
   | (with_reducible exact ih3 _ _ _ _ _ _ _ _)
   | (with_reducible exact ih4 _ _ _ _ _ _ _ _)
   | (with_reducible exact psalterylaw07_knows.mono _)
   | (with_reducible exact pvq_Search.mono _ _ _)
   | (with_reducible exact pvq_Shape.mono _ _ _)
   | (with_reducible exact LeO.refl _)
   | (with_reducible exact LeO.none _)
   | (with_reducible refine LeO.ite ?_ ?_)
   | (with_reducible refine LeO.bind ?_ (fun _ => ?_))
   | exact ih0 _ _ _ _ _
   | exact ih1 _ _ _ _ _ _
   | exact ih2 _ _ _ _ _ _
   | exact ih3 _ _ _ _ _ _ _ _
   | exact ih4 _ _ _ _ _ _ _ _
   | exact psalterylaw07_knows.mono _
   | exact pvq_Search.mono _ _ _
   | exact pvq_Shape.mono _ _ _
   | exact LeO.none _
   | refine LeO.ite ?_ ?_
   | refine LeO.bind ?_ (fun _ => ?_)
  ·
   intro y0 y1 y2 y3 y4 y5 y6 y7
   unfold psalterylaw07_PvqAlone.l0
   repeat' first
   | (with_reducible exact ih0 _ _ _ _ _)
   | (with_reducible exact ih1 _ _ _ _ _ _)
   | (with_reducible exact ih2 _ _ _ _ _ _)
   | (with_reducible exact ih3 _ _ _ _ _ _ _ _)
   | (with_reducible exact ih4 _ _ _ _ _ _ _ _)
   | (with_reducible exact psalterylaw07_knows.mono _)
   | (with_reducible exact pvq_Search.mono _ _ _)
   | (with_reducible exact pvq_Shape.mono _ _ _)
   | (with_reducible exact LeO.refl _)
   | (with_reducible exact LeO.none _)
   | (with_reducible refine LeO.ite ?_ ?_)
   | (with_reducible refine LeO.bind ?_ (fun _ => ?_))
   | exact ih0 _ _ _ _ _
   | exact ih1 _ _ _ _ _ _
   | exact ih2 _ _ _ _ _ _
   | exact ih3 _ _ _ _ _ _ _ _
   | exact ih4 _ _ _ _ _ _ _ _
   | exact psalterylaw07_knows.mono _
   | exact pvq_Search.mono _ _ _
   | exact pvq_Shape.mono _ _ _
   | exact LeO.none _
   | refine LeO.ite ?_ ?_
   | refine LeO.bind ?_ (fun _ => ?_)
theorem psalterylaw07_PvqAlone.mono : ∀ a0 a1 a2 a3 k, LeO (psalterylaw07_PvqAlone.f k a0 a1 a2 a3) (psalterylaw07_PvqAlone.f (k + 1) a0 a1 a2 a3) := by
 intro a0 a1 a2 a3 k
 obtain ⟨ih0, ih1, ih2, ih3, ih4⟩ := psalterylaw07_PvqAlone.mono_l k
 unfold psalterylaw07_PvqAlone.f
 repeat' first
   | (with_reducible exact ih0 _ _ _ _ _)
   | (with_reducible exact ih1 _ _ _ _ _ _)
   | (with_reducible exact ih2 _ _ _ _ _ _)
   | (with_reducible exact ih3 _ _ _ _ _ _ _ _)
   | (with_reducible exact ih4 _ _ _ _ _ _ _ _)
   | (with_reducible exact psalterylaw07_knows.mono _)
   | (with_reducible exact pvq_Search.mono _ _ _)
   | (with_reducible exact pvq_Shape.mono _ _ _)
   | (with_reducible exact LeO.refl _)
   | (with_reducible exact LeO.none _)
   | (with_reducible refine LeO.ite ?_ ?_)
   | (with_reducible refine LeO.bind ?_ (fun _ => ?_))
   | exact ih0 _ _ _ _ _
   | exact ih1 _ _ _ _ _ _
   | exact ih2 _ _ _ _ _ _
   | exact ih3 _ _ _ _ _ _ _ _
   | exact ih4 _ _ _ _ _ _ _ _
   | exact psalterylaw07_knows.mono _
   | exact pvq_Search.mono _ _ _
   | exact pvq_Shape.mono _ _ _
   | exact LeO.none _
   | refine LeO.ite ?_ ?_
   | refine LeO.bind ?_ (fun _ => ?_)
set_option maxHeartbeats 8000000 in
set_option maxRecDepth 100000 in
theorem psalterylaw07_PvqAlone.calls (k : Nat) (a0 : Int) (a1 : Int) (a2 : Int) (a3 : Int) (r : Bool) (w : World) (h : psalterylaw07_PvqAlone.f k a0 a1 a2 a3 = some r) :
  Calls Try.prog 8 #[.int .i64 a0, .int .i64 a1, .int .i64 a2, .int .i64 a3] w fun e w' => e = .returned (.bool r) ∧ Below w.heap.size w w' := by
 have HB := zm (Below.refl w.heap.size w)
 have H : (if a0 < 1 then (psalterylaw07_PvqAlone.j0 k a0 a1 a2 a3 true) else (if a0 > 16 then (psalterylaw07_PvqAlone.j0 k a0 a1 a2 a3 true) else (if a1 < 0 then (psalterylaw07_PvqAlone.j0 k a0 a1 a2 a3 true) else (if a1 ≥ a0 then (psalterylaw07_PvqAlone.j0 k a0 a1 a2 a3 true) else (if a2 = 0 then (psalterylaw07_PvqAlone.j0 k a0 a1 a2 a3 true) else (if a2 < (-1048576) then (psalterylaw07_PvqAlone.j0 k a0 a1 a2 a3 true) else (if a2 > 1048576 then (psalterylaw07_PvqAlone.j0 k a0 a1 a2 a3 true) else (if a3 < 1 then (psalterylaw07_PvqAlone.j0 k a0 a1 a2 a3 true) else (psalterylaw07_PvqAlone.j0 k a0 a1 a2 a3 (decide (a3 > 12))))))))))) = some r := h
 clear h
 have HC5 := zm H
 clear H
 go_enter Try.func8, Try.ntmps8
 go_upto_region 1 with (fail)
 go_cut [52] (fun v52 wc => ∃ (kq : Nat) (x52_4 : Bool), v52 = .bool x52_4 ∧ Aside0 (psalterylaw07_PvqAlone.j0 kq a0 a1 a2 a3 x52_4 = some r) ∧ Aside0 (kq ≤ k) ∧ Aside0 (Below w.heap.size w wc))
 case first =>
  have H := HC5.out
  clear HC5
  by_cases c6 : a0 < 1
  ·
   rw [if_pos c6] at H
   have c6b0 : decide (a0 < 1) = true := decide_eq_true c6
   clear c6
   (first | rw [c6b0] | (simp only [i64_w, i32_w]; rw [c6b0]) | skip)
   have H' := zm H
   clear H
   go_wp2
   go_meet
   case rel => exact ⟨_, (true), (by first | rfl | (simp; done) | (simp [*]; done)), H', ⟨by first | omega | exact Nat.le_refl _⟩, ⟨by repeat (first | (with_reducible first | exact HB.out | apply ze | apply zd | apply zf) | exact HB.out)⟩⟩
  ·
   rw [if_neg c6] at H
   have c6b0 : decide (a0 < 1) = false := decide_eq_false c6
   clear c6
   (first | rw [c6b0] | (simp only [i64_w, i32_w]; rw [c6b0]) | skip)
   by_cases c7 : a0 > 16
   ·
    rw [if_pos c7] at H
    have c7b0 : decide (16 < a0) = true := decide_eq_true c7
    clear c7
    have H' := zm H
    clear H
    go_wp2
    go_meet
    case rel => exact ⟨_, (true), (by first | rfl | (simp; done) | (simp [*]; done)), H', ⟨by first | omega | exact Nat.le_refl _⟩, ⟨by repeat (first | (with_reducible first | exact HB.out | apply ze | apply zd | apply zf) | exact HB.out)⟩⟩
   ·
    rw [if_neg c7] at H
    have c7b0 : decide (16 < a0) = false := decide_eq_false c7
    clear c7
    by_cases c8 : a1 < 0
    ·
     rw [if_pos c8] at H
     have c8b0 : decide (a1 < 0) = true := decide_eq_true c8
     clear c8
     have H' := zm H
     clear H
     go_wp2
     go_meet
     case rel => exact ⟨_, (true), (by first | rfl | (simp; done) | (simp [*]; done)), H', ⟨by first | omega | exact Nat.le_refl _⟩, ⟨by repeat (first | (with_reducible first | exact HB.out | apply ze | apply zd | apply zf) | exact HB.out)⟩⟩
    ·
     rw [if_neg c8] at H
     have c8b0 : decide (a1 < 0) = false := decide_eq_false c8
     clear c8
     by_cases c9 : a1 ≥ a0
     ·
      rw [if_pos c9] at H
      have c9b0 : decide (a0 ≤ a1) = true := decide_eq_true c9
      clear c9
      have H' := zm H
      clear H
      go_wp2
      go_meet
      case rel => exact ⟨_, (true), (by first | rfl | (simp; done) | (simp [*]; done)), H', ⟨by first | omega | exact Nat.le_refl _⟩, ⟨by repeat (first | (with_reducible first | exact HB.out | apply ze | apply zd | apply zf) | exact HB.out)⟩⟩
     ·
      rw [if_neg c9] at H
      have c9b0 : decide (a0 ≤ a1) = false := decide_eq_false c9
      clear c9
      by_cases c10 : a2 = 0
      ·
       rw [if_pos c10] at H
       have c10b0 : (a2 == 0) = true := beq_iff_eq.mpr c10
       have c10b1 : (a2 != 0) = false := bne_eq_false_iff_eq.mpr c10
       clear c10
       have H' := zm H
       clear H
       go_wp2
       go_meet
       case rel => exact ⟨_, (true), (by first | rfl | (simp; done) | (simp [*]; done)), H', ⟨by first | omega | exact Nat.le_refl _⟩, ⟨by repeat (first | (with_reducible first | exact HB.out | apply ze | apply zd | apply zf) | exact HB.out)⟩⟩
      ·
       rw [if_neg c10] at H
       have c10b0 : (a2 == 0) = false := beq_eq_false_iff_ne.mpr c10
       have c10b1 : (a2 != 0) = true := bne_iff_ne.mpr c10
       by_cases c11 : a2 < (-1048576)
       ·
        rw [if_pos c11] at H
        have c11b0 : decide (a2 < (-1048576)) = true := decide_eq_true c11
        clear c11
        have H' := zm H
        clear H
        go_wp2
        go_meet
        case rel => exact ⟨_, (true), (by first | rfl | (simp; done) | (simp [*]; done)), H', ⟨by first | omega | exact Nat.le_refl _⟩, ⟨by repeat (first | (with_reducible first | exact HB.out | apply ze | apply zd | apply zf) | exact HB.out)⟩⟩
       ·
        rw [if_neg c11] at H
        have c11b0 : decide (a2 < (-1048576)) = false := decide_eq_false c11
        clear c11
        by_cases c12 : a2 > 1048576
        ·
         rw [if_pos c12] at H
         have c12b0 : decide (1048576 < a2) = true := decide_eq_true c12
         clear c12
         have H' := zm H
         clear H
         go_wp2
         go_meet
         case rel => exact ⟨_, (true), (by first | rfl | (simp; done) | (simp [*]; done)), H', ⟨by first | omega | exact Nat.le_refl _⟩, ⟨by repeat (first | (with_reducible first | exact HB.out | apply ze | apply zd | apply zf) | exact HB.out)⟩⟩
        ·
         rw [if_neg c12] at H
         have c12b0 : decide (1048576 < a2) = false := decide_eq_false c12
         clear c12
         by_cases c13 : a3 < 1
         ·
          rw [if_pos c13] at H
          have c13b0 : decide (a3 < 1) = true := decide_eq_true c13
          clear c13
          have H' := zm H
          clear H
          go_wp2
          go_meet
          case rel => exact ⟨_, (true), (by first | rfl | (simp; done) | (simp [*]; done)), H', ⟨by first | omega | exact Nat.le_refl _⟩, ⟨by repeat (first | (with_reducible first | exact HB.out | apply ze | apply zd | apply zf) | exact HB.out)⟩⟩
         ·
          rw [if_neg c13] at H
          have c13b0 : decide (a3 < 1) = false := decide_eq_false c13
          clear c13
          have H' := zm H
          clear H
          go_wp2
          go_meet
          case rel => exact ⟨_, (decide (a3 > 12)), (by first | rfl | (simp; done) | (simp [*]; done)), H', ⟨by first | omega | exact Nat.le_refl _⟩, ⟨by repeat (first | (with_reducible first | exact HB.out | apply ze | apply zd | apply zf) | exact HB.out)⟩⟩
 case rest =>
  clear HC5
  try clear c1
  try clear p2
  try clear c6
  try clear c6b0
  try clear c7
  try clear c7b0
  try clear c8
  try clear c8b0
  try clear c9
  try clear c9b0
  try clear c10
  try clear c10b0
  try clear c10b1
  try clear c11
  try clear c11b0
  try clear c12
  try clear c12b0
  try clear c13
  try clear c13b0
  obtain ⟨kq, x52_4, rfl, HA, HJ4, HB⟩ := hcut
  cases kq with
  | zero => exact absurd HA.out (by simp [psalterylaw07_PvqAlone.j0])
  | succ kj4 =>
   have H := HA.out
   clear HA
   simp only [psalterylaw07_PvqAlone.j0] at H
   by_cases c14 : x52_4 = true
   ·
    subst c14
    have H1 : ((psalterylaw07_knows.f kj4).bind fun t355 => (some t355)) = some r := by rw [if_pos rfl] at H; exact H
    clear H
    have H := H1
    clear H1
    replace H := Option.bind_eq_some_iff.mp H
    obtain ⟨t355, A150, H⟩ := H
    replace H : (some t355) = some r := H
    have A15 := zm A150
    clear A150
    obtain rfl := Option.some.inj H
    go_wp2_with (first | ((with_reducible refine gate_callee (f := 9) rfl ?_); refine goesL_ (some 53) rfl rfl Try.func9 (by kernel_rfl) rfl #[] rfl (by (try simp only [List.map_toArray, List.map_cons, List.map_nil]); first | done | rfl | (simp only [List.length_drop, List.length_take]; rfl)) ?_; (with_reducible refine (psalterylaw07_knows.calls kj4  t355 _ A15.out).mono ?_); rintro e w16 ⟨rfl, hb⟩; refine ⟨_, rfl, ?_⟩; have n0_ := zm (zJ (by repeat (first | (with_reducible first | exact HB.out | apply ze | apply zd | apply zf) | exact HB.out)) hb); clear HB; have HB := n0_; clear n0_; (try clear hb); (try clear hb2); (try clear hk); (try clear hi)))
    go_ret
    exact ⟨by first | rfl | (simp [errW_none, errW_some] <;> rfl) | (simp [*, errW_none, errW_some] <;> rfl), by repeat (first | (with_reducible first | exact HB.out | apply ze | apply zd | apply zf) | exact HB.out)⟩
   ·
    replace c14 := Bool.eq_false_iff.mpr c14
    subst c14
    have H1 : (if 0 ≤ a0 then (if (a0 : Int).toNat ≤ 35184372088832 then ((some (List.replicate (a0 : Int).toNat 0 : List Int)).bind fun y356 => (if 0 ≤ a1 then (if a1 < (y356.length : Int) then ((pvq_Search.f kj4 (y356.set (a1 : Int).toNat a2) a3).bind fun bt360 => (if bt360.2 = 0 then (psalterylaw07_PvqAlone.j1 kj4 a0 a1 a2 a3 bt360.1 ((bt360.1.length : Int) != a0)) else (psalterylaw07_PvqAlone.j1 kj4 a0 a1 a2 a3 bt360.1 true))) else (none)) else (none))) else (none)) else (none)) = some r := by rw [if_neg (show ¬ (false = true) by decide)] at H; exact H
    clear H
    have H := H1
    clear H1
    by_cases c17 : 0 ≤ a0
    ·
     rw [if_pos c17] at H
     have c17b0 := eq_true c17
     have c17b1 : decide (0 ≤ a0) = true := decide_eq_true c17
     clear c17
     by_cases c18 : (a0 : Int).toNat ≤ 35184372088832
     ·
      rw [if_pos c18] at H
      have c18b0 := eq_true c18
      have c18b1 : decide ((a0 : Int).toNat ≤ 35184372088832) = true := decide_eq_true c18
      clear c18
      obtain ⟨y356, hy356⟩ : ∃ y_ : List Int, y_ = (List.replicate (a0 : Int).toNat 0) := ⟨_, rfl⟩
      replace H : (if 0 ≤ a1 then (if a1 < (y356.length : Int) then ((pvq_Search.f kj4 (y356.set (a1 : Int).toNat a2) a3).bind fun bt360 => (if bt360.2 = 0 then (psalterylaw07_PvqAlone.j1 kj4 a0 a1 a2 a3 bt360.1 ((bt360.1.length : Int) != a0)) else (psalterylaw07_PvqAlone.j1 kj4 a0 a1 a2 a3 bt360.1 true))) else (none)) else (none)) = some r := by first | (rw [hy356]; with_reducible exact H) | (have H2_ := (Option.bind_some _ _).symm.trans H; rw [hy356]; with_reducible exact H2_) | (have H2_ := (Option.bind_some _ _).symm.trans H; with_reducible exact H2_) | with_reducible exact H | (rw [hy356]; exact H) | exact H
      have Ny356 := zm hy356
      clear hy356
      by_cases c19 : 0 ≤ a1
      ·
       rw [if_pos c19] at H
       have c19b0 : decide (0 ≤ a1) = true := decide_eq_true c19
       clear c19
       by_cases c20 : a1 < (y356.length : Int)
       ·
        rw [if_pos c20] at H
        have c20b0 : decide (a1 < (y356.length : Int)) = true := decide_eq_true c20
        clear c20
        obtain ⟨y359, hy359⟩ : ∃ y_ : List Int, y_ = (y356.set (a1 : Int).toNat a2) := ⟨_, rfl⟩
        replace H : ((pvq_Search.f kj4 y359 a3).bind fun bt360 => (if bt360.2 = 0 then (psalterylaw07_PvqAlone.j1 kj4 a0 a1 a2 a3 bt360.1 ((bt360.1.length : Int) != a0)) else (psalterylaw07_PvqAlone.j1 kj4 a0 a1 a2 a3 bt360.1 true))) = some r := by first | (rw [hy359]; with_reducible exact H) | (have H2_ := (Option.bind_some _ _).symm.trans H; rw [hy359]; with_reducible exact H2_) | (have H2_ := (Option.bind_some _ _).symm.trans H; with_reducible exact H2_) | with_reducible exact H | (rw [hy359]; exact H) | exact H
        have Ny359 := zm hy359
        clear hy359
        replace H := Option.bind_eq_some_iff.mp H
        obtain ⟨⟨t360, t361⟩, A220, H⟩ := H
        replace H : (if t361 = 0 then (psalterylaw07_PvqAlone.j1 kj4 a0 a1 a2 a3 t360 ((t360.length : Int) != a0)) else (psalterylaw07_PvqAlone.j1 kj4 a0 a1 a2 a3 t360 true)) = some r := H
        have A22 := zm A220
        clear A220
        have HC23 := zm H
        clear H
        go_upto_region 6 with (first | ((with_reducible refine gate_dst (N := 55) rfl ?_); (try (refine gate_guard (by rfl) ?_; dsimp only)); refine Kd.R_make (Kd.int .i64) _ 2 rfl (N := 55) rfl 22 _ _ rfl a0 rfl rfl Try.underlying22 (.int .i64 0) 8 info2 rfl (by decide) (by omega) 0 (ok := fun _ => True) (okp := fun _ => True) rfl (fun _ hk => hk) trivial (of_decide_eq_true (by first | (with_reducible assumption) | assumption)) (Nat.le_trans (Nat.mul_le_mul_right _ (of_decide_eq_true (by first | (with_reducible assumption) | assumption) : a0.toNat ≤ 35184372088832)) (by omega)) (Below.refl _ _) (Nat.le_refl _) ?_; intro v357 w24 ho25 hb hg_ hnew_; clear hg_ hnew_; (first | rw [← Ny356.out] at ho25 | (simp only [Int.reduceToNat] at ho25; rw [← Ny356.out] at ho25)); have n0_ := zm (Kd.R_lower ho25 (zE (by repeat (first | (with_reducible first | exact HB.out | apply ze | apply zd | apply zf) | exact HB.out)))); have n1_ := zm (zJ (by repeat (first | (with_reducible first | exact HB.out | apply ze | apply zd | apply zf) | exact HB.out)) hb); clear HB; have HO358 := n0_; have HB := n1_; clear n0_ n1_; clear hb ho25; have p21 : 0 ≤ (a1 : Int) := of_decide_eq_true (by first | (with_reducible assumption) | assumption); have q21 : (a1 : Int) < ((y356.length : Int) : Int) := of_decide_eq_true (by first | (with_reducible assumption) | assumption); obtain ⟨go21, co21, eo21, gb21, gl21, cl21, HG21⟩ := Kd.R_form HO358.out (by omega); (first | cases eo21 | (injection eo21 with ea_ en_ ec_; (first | subst ea_ | (injection ea_ with ea_; subst ea_)); subst ec_; clear en_)); have GB21 := zm gb21; have GG21 := zm HG21; clear gb21 gl21 HG21; obtain ⟨hx21_0, hf21_0⟩ := Kd.R_celln 0 HO358.out (a1 : Int) p21 q21; replace p21 := eq_true p21; replace q21 := eq_true q21; obtain ⟨hy26_, hz26_⟩ := Kd.R_celln 0 HO358.out (a1 : Int) (of_decide_eq_true (by first | (with_reducible assumption) | assumption)) (of_decide_eq_true (by first | (with_reducible assumption) | assumption)); have HP26 := Kd.R_putg HO358.out (a1 : Int) a2) | ((with_reducible refine gate_store (t := 2) (p := 59) rfl ?_); refine store_event (t := 2) (p := 59) (v := ?vo_w27) (w1 := (w24.setCell ⟨go21, (a1 : Int).toNat, none⟩ (.int .i64 a2))) ?hg ?ho ?hn ?hr ?_; (case ho => rfl); (case hg => rfl); (case hn => rfl); (case hr => first | (go_simp; done) | (go_simp; rfl)); intro w27 hw; have hg : w24.grownBy w27 (some go21) := (by rw [hw]; exact HP26.2); have hp_ : Kd.R (Kd.int .i64) 2 w27 w.heap.size (fun _ => True) (.slice (some ⟨go21, 0, none⟩) y356.length co21) y359 := (by rw [hw, Ny359.out]; exact HP26.1); clear HP26; have n0_ := zm (hp_); have n1_ := zm ((by rw [hw]; exact zk (HB.out) GB21.out : Below w.heap.size w w27)); clear HO358; clear HB; have HO358 := n0_; have HB := n1_; clear n0_ n1_; clear hg hw hp_) | ((with_reducible refine gate_callee (f := 13) rfl ?_); refine goesL_ (some 63) rfl rfl Try.func13 (by kernel_rfl) rfl #[.slice (some ⟨go21, 0, none⟩) y359.length co21, .int .i64 a3] rfl (by (try simp only [List.map_toArray, List.map_cons, List.map_nil]); first | done | (rw [show y359.length = y356.length from (Kd.R_reads' HO358.out).1.symm] <;> rfl) | rfl | (simp only [List.length_drop, List.length_take]; rfl)) ?_; (with_reducible refine (pvq_Search.calls kj4 _ _ y359 a3 t360 t361 _ ?side1 ?side2 A22.out).mono ?_); (case side1 => repeat (first | exact (Kd.R_reads' HO358.out).2.2 | (with_reducible refine Kd.C_alloc ?_ _) | (with_reducible refine Kd.C_drewN ?_ _) | (with_reducible refine Kd.C_drew ?_))); (case side2 => rw [show y359.length = y356.length from (Kd.R_reads' HO358.out).1.symm]; exact (Kd.R_reads' HO358.out).2.1); rintro e w28 ⟨v362, rfl, ho0, hb⟩; refine ⟨_, rfl, ?_⟩; have n0_ := zm (Kd.R_below (by (with_reducible repeat (first | apply zo | apply zp | apply zq)); exact HO358.out) hb); have n1_ := zm (Kd.R_lower ho0 (zE (by repeat (first | (with_reducible first | exact HB.out | apply ze | apply zd | apply zf) | exact HB.out)))); have n2_ := zm (zJ (by repeat (first | (with_reducible first | exact HB.out | apply ze | apply zd | apply zf) | exact HB.out)) hb); clear HO358; clear HB; have HO358 := n0_; have HO363 := n1_; have HB := n2_; clear n0_ n1_ n2_; (try clear hb); (try clear hb2); (try clear hk); (try clear hi); (try clear ho0)))
        (try simp only [Act.put, List.setIfInBounds_toArray, List.set_cons_zero, List.set_cons_succ])
        go_cut [73] (fun v73 wc => ∃ (kq : Nat) (x73_22 : Bool), v73 = .bool x73_22 ∧ Aside0 (psalterylaw07_PvqAlone.j1 kq a0 a1 a2 a3 t360 x73_22 = some r) ∧ Aside0 (kq ≤ kj4) ∧ Aside0 (Kd.R (Kd.int .i64) 3 wc w.heap.size (fun _ => True) v362 t360) ∧ Aside0 (Below w.heap.size w wc))
        case first =>
         have H := HC23.out
         clear HC23
         by_cases c29 : t361 = 0
         ·
          rw [if_pos c29] at H
          have c29b0 : (t361 == 0) = true := beq_iff_eq.mpr c29
          have c29b1 : (t361 != 0) = false := bne_eq_false_iff_eq.mpr c29
          clear c29
          (first | rw [c29b0] | (simp only [i64_w, i32_w]; rw [c29b0]) | skip)
          have H' := zm H
          clear H
          obtain ⟨Ao30, co30, eo30⟩ := Kd.R_slice HO363.out
          subst eo30
          go_wp2
          go_meet
          case rel => exact ⟨_, (((t360.length : Int) != a0)), (by first | rfl | (simp; done) | (simp [*]; done)), H', ⟨by have := HJ4.out; first | omega | exact Nat.le_refl _⟩, ⟨by (with_reducible repeat (first | apply zo | apply zp | apply zq)); exact HO363.out⟩, ⟨by repeat (first | (with_reducible first | exact HB.out | apply ze | apply zd | apply zf) | exact HB.out)⟩⟩
         ·
          rw [if_neg c29] at H
          have c29b0 : (t361 == 0) = false := beq_eq_false_iff_ne.mpr c29
          have c29b1 : (t361 != 0) = true := bne_iff_ne.mpr c29
          (first | rw [c29b0] | (simp only [i64_w, i32_w]; rw [c29b0]) | skip)
          have H' := zm H
          clear H
          go_wp2
          go_meet
          case rel => exact ⟨_, (true), (by first | rfl | (simp; done) | (simp [*]; done)), H', ⟨by have := HJ4.out; first | omega | exact Nat.le_refl _⟩, ⟨by (with_reducible repeat (first | apply zo | apply zp | apply zq)); exact HO363.out⟩, ⟨by repeat (first | (with_reducible first | exact HB.out | apply ze | apply zd | apply zf) | exact HB.out)⟩⟩
        case rest =>
         clear HC23
         try clear c1
         try clear c2
         try clear p2
         try clear q2
         try clear hx2
         try clear c6
         try clear c6b0
         try clear c7
         try clear c7b0
         try clear c8
         try clear c8b0
         try clear c9
         try clear c9b0
         try clear c10
         try clear c10b0
         try clear c10b1
         try clear c11
         try clear c11b0
         try clear c12
         try clear c12b0
         try clear c13
         try clear c13b0
         try clear c14
         try clear c17
         try clear c17b0
         try clear c17b1
         try clear c18
         try clear c18b0
         try clear c18b1
         try clear c19
         try clear c19b0
         try clear c20
         try clear c20b0
         try clear p21
         try clear q21
         try clear hx21
         try clear hf21
         try clear c29
         try clear c29b0
         try clear c29b1
         try clear hx21_0
         try clear p2
         try clear p21
         try clear q21
         obtain ⟨kq, x73_22, rfl, HA, HJ22, HO_10, HB⟩ := hcut
         cases kq with
         | zero => exact absurd HA.out (by simp [psalterylaw07_PvqAlone.j1])
         | succ kj22 =>
          have H := HA.out
          clear HA
          simp only [psalterylaw07_PvqAlone.j1] at H
          by_cases c31 : x73_22 = true
          ·
           subst c31
           have H1 : (none) = some r := by rw [if_pos rfl] at H; exact H
           clear H
           have H := H1
           clear H1
           exact absurd H (by simp)
          ·
           replace c31 := Bool.eq_false_iff.mpr c31
           subst c31
           have H1 : (if a2 < 0 then (psalterylaw07_PvqAlone.j2 kj22 a0 a1 a2 t360 (wrap64 (-a2)) (wrap64 (-a3))) else (psalterylaw07_PvqAlone.j2 kj22 a0 a1 a2 t360 a2 a3)) = some r := by rw [if_neg (show ¬ (false = true) by decide)] at H; exact H
           clear H
           have H := H1
           clear H1
           have HC32 := zm H
           clear H
           go_upto_if 77 with (fail)
           go_cut [12, 13] (fun v12 v13 wc => ∃ (kq : Nat) (x12_31 : Int) (x13_31 : Int), v12 = .int .i64 x12_31 ∧ v13 = .int .i64 x13_31 ∧ Aside0 (psalterylaw07_PvqAlone.j2 kq a0 a1 a2 t360 x12_31 x13_31 = some r) ∧ Aside0 (kq ≤ kj22) ∧ Aside0 (Kd.R (Kd.int .i64) 3 wc w.heap.size (fun _ => True) v362 t360) ∧ Aside0 (Below w.heap.size w wc))
           case first =>
            have H := HC32.out
            clear HC32
            by_cases c33 : a2 < 0
            ·
             rw [if_pos c33] at H
             have c33b0 : decide (a2 < 0) = true := decide_eq_true c33
             clear c33
             (first | rw [c33b0] | (simp only [i64_w, i32_w]; rw [c33b0]) | skip)
             have H' := zm H
             clear H
             go_wp2
             go_meet
             case rel => exact ⟨_, (wrap64 (-a2)), (wrap64 (-a3)), (by first | rfl | (simp; done) | (simp [*]; done)), (by first | rfl | (simp; done) | (simp [*]; done)), H', ⟨by have := HJ4.out; have := HJ22.out; first | omega | exact Nat.le_refl _⟩, ⟨by (with_reducible repeat (first | apply zo | apply zp | apply zq)); exact HO_10.out⟩, ⟨by repeat (first | (with_reducible first | exact HB.out | apply ze | apply zd | apply zf) | exact HB.out)⟩⟩
            ·
             rw [if_neg c33] at H
             have c33b0 : decide (a2 < 0) = false := decide_eq_false c33
             clear c33
             (first | rw [c33b0] | (simp only [i64_w, i32_w]; rw [c33b0]) | skip)
             have H' := zm H
             clear H
             go_wp2
             go_meet
             case rel => exact ⟨_, (a2), (a3), (by first | rfl | (simp; done) | (simp [*]; done)), (by first | rfl | (simp; done) | (simp [*]; done)), H', ⟨by have := HJ4.out; have := HJ22.out; first | omega | exact Nat.le_refl _⟩, ⟨by (with_reducible repeat (first | apply zo | apply zp | apply zq)); exact HO_10.out⟩, ⟨by repeat (first | (with_reducible first | exact HB.out | apply ze | apply zd | apply zf) | exact HB.out)⟩⟩
           case rest =>
            clear HC32
            try clear c1
            try clear c2
            try clear p2
            try clear q2
            try clear hx2
            try clear c3
            try clear c6
            try clear c6b0
            try clear p6
            try clear c7
            try clear c7b0
            try clear c8
            try clear c8b0
            try clear c9
            try clear c9b0
            try clear c10
            try clear c10b0
            try clear c10b1
            try clear c11
            try clear c11b0
            try clear c12
            try clear c12b0
            try clear c13
            try clear c13b0
            try clear c14
            try clear c17
            try clear c17b0
            try clear c17b1
            try clear c18
            try clear c18b0
            try clear c18b1
            try clear c19
            try clear c19b0
            try clear c20
            try clear c20b0
            try clear p21
            try clear q21
            try clear hx21
            try clear hf21
            try clear c29
            try clear c29b0
            try clear c29b1
            try clear c31
            try clear c33
            try clear c33b0
            try clear hx21_0
            try clear p2
            try clear p21
            try clear q2
            try clear q21
            obtain ⟨kq, x12_31, x13_31, rfl, rfl, HA, HJ31, HO_10, HB⟩ := hcut
            cases kq with
            | zero => exact absurd HA.out (by simp [psalterylaw07_PvqAlone.j2])
            | succ kj31 =>
             have H := HA.out
             clear HA
             simp only [psalterylaw07_PvqAlone.j2] at H
             replace H := Option.bind_eq_some_iff.mp H
             obtain ⟨⟨t364, t365⟩, A340, H⟩ := H
             replace H : (if t365 = 0 then (psalterylaw07_PvqAlone.j3 kj31 a0 a1 a2 t360 x12_31 x13_31 t364 ((t364.length : Int) != a0)) else (psalterylaw07_PvqAlone.j3 kj31 a0 a1 a2 t360 x12_31 x13_31 t364 true)) = some r := H
             have A34 := zm A340
             clear A340
             have HC35 := zm H
             clear H
             obtain ⟨Ao36, co36, eo36⟩ := Kd.R_slice HO_10.out
             subst eo36
             go_upto_region 13 with (first | ((with_reducible refine gate_callee (f := 16) rfl ?_); refine goesL_ (some 85) rfl rfl Try.func16 (by kernel_rfl) rfl #[.slice Ao36 t360.length co36, .int .i64 x12_31] rfl (by (try simp only [List.map_toArray, List.map_cons, List.map_nil]); first | done | rfl | (simp only [List.length_drop, List.length_take]; rfl)) ?_; (with_reducible refine (pvq_Shape.calls kj31 _ _ t360 x12_31 t364 t365 _ ?side1 ?side2 A34.out).mono ?_); (case side1 => repeat (first | exact (Kd.R_reads' HO_10.out).2.2 | (with_reducible refine Kd.C_alloc ?_ _) | (with_reducible refine Kd.C_drewN ?_ _) | (with_reducible refine Kd.C_drew ?_))); (case side2 => exact (Kd.R_reads' HO_10.out).2.1); rintro e w37 ⟨v366, rfl, ho0, hb⟩; refine ⟨_, rfl, ?_⟩; have n0_ := zm (Kd.R_below (by (with_reducible repeat (first | apply zo | apply zp | apply zq)); exact HO_10.out) hb); have n1_ := zm (Kd.R_lower ho0 (zE (by repeat (first | (with_reducible first | exact HB.out | apply ze | apply zd | apply zf) | exact HB.out)))); have n2_ := zm (zJ (by repeat (first | (with_reducible first | exact HB.out | apply ze | apply zd | apply zf) | exact HB.out)) hb); clear HO_10; clear HB; have HO_10 := n0_; have HO367 := n1_; have HB := n2_; clear n0_ n1_ n2_; (try clear hb); (try clear hb2); (try clear hk); (try clear hi); (try clear ho0)))
             (try simp only [Act.put, List.setIfInBounds_toArray, List.set_cons_zero, List.set_cons_succ])
             go_cut [95] (fun v95 wc => ∃ (kq : Nat) (x95_34 : Bool), v95 = .bool x95_34 ∧ Aside0 (psalterylaw07_PvqAlone.j3 kq a0 a1 a2 t360 x12_31 x13_31 t364 x95_34 = some r) ∧ Aside0 (kq ≤ kj31) ∧ Aside0 (Kd.R (Kd.int .i64) 3 wc w.heap.size (fun _ => True) (.slice Ao36 t360.length co36) t360) ∧ Aside0 (Kd.R (Kd.int .i64) 2 wc w.heap.size (fun _ => True) v366 t364) ∧ Aside0 (Below w.heap.size w wc))
             case first =>
              have H := HC35.out
              clear HC35
              by_cases c38 : t365 = 0
              ·
               rw [if_pos c38] at H
               have c38b0 : (t365 == 0) = true := beq_iff_eq.mpr c38
               have c38b1 : (t365 != 0) = false := bne_eq_false_iff_eq.mpr c38
               clear c38
               (first | rw [c38b0] | (simp only [i64_w, i32_w]; rw [c38b0]) | skip)
               have H' := zm H
               clear H
               obtain ⟨Ao39, co39, eo39⟩ := Kd.R_slice HO367.out
               subst eo39
               go_wp2
               go_meet
               case rel => exact ⟨_, (((t364.length : Int) != a0)), (by first | rfl | (simp; done) | (simp [*]; done)), H', ⟨by have := HJ4.out; have := HJ22.out; have := HJ31.out; first | omega | exact Nat.le_refl _⟩, ⟨by (with_reducible repeat (first | apply zo | apply zp | apply zq)); exact HO_10.out⟩, ⟨by (with_reducible repeat (first | apply zo | apply zp | apply zq)); exact HO367.out⟩, ⟨by repeat (first | (with_reducible first | exact HB.out | apply ze | apply zd | apply zf) | exact HB.out)⟩⟩
              ·
               rw [if_neg c38] at H
               have c38b0 : (t365 == 0) = false := beq_eq_false_iff_ne.mpr c38
               have c38b1 : (t365 != 0) = true := bne_iff_ne.mpr c38
               (first | rw [c38b0] | (simp only [i64_w, i32_w]; rw [c38b0]) | skip)
               have H' := zm H
               clear H
               go_wp2
               go_meet
               case rel => exact ⟨_, (true), (by first | rfl | (simp; done) | (simp [*]; done)), H', ⟨by have := HJ4.out; have := HJ22.out; have := HJ31.out; first | omega | exact Nat.le_refl _⟩, ⟨by (with_reducible repeat (first | apply zo | apply zp | apply zq)); exact HO_10.out⟩, ⟨by (with_reducible repeat (first | apply zo | apply zp | apply zq)); exact HO367.out⟩, ⟨by repeat (first | (with_reducible first | exact HB.out | apply ze | apply zd | apply zf) | exact HB.out)⟩⟩
             case rest =>
              clear HC35
              try clear c1
              try clear c2
              try clear p2
              try clear q2
              try clear hx2
              try clear c3
              try clear c6
              try clear c6b0
              try clear p6
              try clear c7
              try clear c7b0
              try clear c8
              try clear c8b0
              try clear c9
              try clear c9b0
              try clear c10
              try clear c10b0
              try clear c10b1
              try clear c11
              try clear c11b0
              try clear c12
              try clear c12b0
              try clear c13
              try clear c13b0
              try clear c14
              try clear c16
              try clear c17
              try clear c17b0
              try clear c17b1
              try clear c18
              try clear c18b0
              try clear c18b1
              try clear c19
              try clear c19b0
              try clear c20
              try clear c20b0
              try clear p21
              try clear q21
              try clear hx21
              try clear hf21
              try clear c29
              try clear c29b0
              try clear c29b1
              try clear c31
              try clear c33
              try clear c33b0
              try clear c38
              try clear c38b0
              try clear c38b1
              try clear hx21_0
              try clear p2
              try clear p21
              try clear p6
              try clear q2
              try clear q21
              obtain ⟨kq, x95_34, rfl, HA, HJ34, HO_10, HO_14, HB⟩ := hcut
              cases kq with
              | zero => exact absurd HA.out (by simp [psalterylaw07_PvqAlone.j3])
              | succ kj34 =>
               have H := HA.out
               clear HA
               simp only [psalterylaw07_PvqAlone.j3] at H
               by_cases c40 : x95_34 = true
               ·
                subst c40
                have H1 : (none) = some r := by rw [if_pos rfl] at H; exact H
                clear H
                have H := H1
                clear H1
                exact absurd H (by simp)
               ·
                replace c40 := Bool.eq_false_iff.mpr c40
                subst c40
                have H1 : (psalterylaw07_PvqAlone.l0 kj34 a0 a1 a2 t360 x12_31 x13_31 t364 0) = some r := by rw [if_neg (show ¬ (false = true) by decide)] at H; exact H
                clear H
                have H := H1
                clear H1
                have H' := zm H
                clear H
                go_wp2
                go_loopg [16] kj34 (fun kq v16 w' => ∃ (x16_5 : Int), v16 = .int .i64 x16_5 ∧ Aside0 (psalterylaw07_PvqAlone.l0 kq a0 a1 a2 t360 x12_31 x13_31 t364 x16_5 = some r) ∧ Aside0 (kq ≤ kj34) ∧ Aside0 (Kd.R (Kd.int .i64) 3 w' w.heap.size (fun _ => True) (.slice Ao36 t360.length co36) t360) ∧ Aside0 (Kd.R (Kd.int .i64) 2 w' w.heap.size (fun _ => True) v366 t364) ∧ Aside0 (Below w.heap.size w w'))
                case atStart => exact ⟨(0), (by first | rfl | (simp; done) | (simp [*]; done)), H', ⟨Nat.le_refl _⟩, ⟨by (with_reducible repeat (first | apply zo | apply zp | apply zq)); exact HO_10.out⟩, ⟨by (with_reducible repeat (first | apply zo | apply zp | apply zq)); exact HO_14.out⟩, ⟨by repeat (first | (with_reducible first | exact HB.out | apply ze | apply zd | apply zf) | exact HB.out)⟩⟩
                case round =>
                 clear H'
                 try clear c1
                 try clear c2
                 try clear p2
                 try clear q2
                 try clear hx2
                 try clear c3
                 try clear c4
                 try clear c6
                 try clear c6b0
                 try clear p6
                 try clear c7
                 try clear c7b0
                 try clear c8
                 try clear c8b0
                 try clear c9
                 try clear c9b0
                 try clear c10
                 try clear c10b0
                 try clear c10b1
                 try clear c11
                 try clear c11b0
                 try clear c12
                 try clear c12b0
                 try clear c13
                 try clear c13b0
                 try clear c14
                 try clear c16
                 try clear c17
                 try clear c17b0
                 try clear c17b1
                 try clear c18
                 try clear c18b0
                 try clear c18b1
                 try clear c19
                 try clear c19b0
                 try clear c20
                 try clear c20b0
                 try clear p21
                 try clear q21
                 try clear hx21
                 try clear hf21
                 try clear c29
                 try clear c29b0
                 try clear c29b1
                 try clear c31
                 try clear c33
                 try clear c33b0
                 try clear c38
                 try clear c38b0
                 try clear c38b1
                 try clear c40
                 try clear hx21_0
                 try clear p2
                 try clear p21
                 try clear p6
                 try clear q2
                 try clear q21
                 obtain ⟨x16_5, rfl, HA, HK5, HO_10, HO_14, HB⟩ := hrel
                 cases gk with
                 | zero => exact absurd HA.out (by simp [psalterylaw07_PvqAlone.l0])
                 | succ k5 =>
                  have H := HA.out
                  clear HA
                  simp only [psalterylaw07_PvqAlone.l0] at H
                  by_cases c41 : x16_5 < a0
                  ·
                   rw [if_pos c41] at H
                   have c41b0 : decide (x16_5 < a0) = true := decide_eq_true c41
                   clear c41
                   by_cases c42 : x16_5 = a1
                   ·
                    rw [if_pos c42] at H
                    have c42b0 : (x16_5 == a1) = true := beq_iff_eq.mpr c42
                    have c42b1 : (x16_5 != a1) = false := bne_eq_false_iff_eq.mpr c42
                    clear c42
                    have H' := zm H
                    clear H
                    go_wp2
                    go_roundg k5
                    case measure => have := HJ4.out; have := HJ22.out; have := HJ31.out; have := HJ34.out; have := HK5.out; omega
                    case rel => exact ⟨(wrap64 (x16_5 + 1)), (by first | rfl | (simp; done) | (simp [*]; done)), H', ⟨by have := HJ4.out; have := HJ22.out; have := HJ31.out; have := HJ34.out; have := HK5.out; omega⟩, ⟨by (with_reducible repeat (first | apply zo | apply zp | apply zq)); exact HO_10.out⟩, ⟨by (with_reducible repeat (first | apply zo | apply zp | apply zq)); exact HO_14.out⟩, ⟨by repeat (first | (with_reducible first | exact HB.out | apply ze | apply zd | apply zf) | exact HB.out)⟩⟩
                   ·
                    rw [if_neg c42] at H
                    have c42b0 : (x16_5 == a1) = false := beq_eq_false_iff_ne.mpr c42
                    have c42b1 : (x16_5 != a1) = true := bne_iff_ne.mpr c42
                    by_cases c43 : 0 ≤ x16_5
                    ·
                     rw [if_pos c43] at H
                     have c43b0 : decide (0 ≤ x16_5) = true := decide_eq_true c43
                     clear c43
                     by_cases c44 : x16_5 < (t360.length : Int)
                     ·
                      rw [if_pos c44] at H
                      have c44b0 : decide (x16_5 < (t360.length : Int)) = true := decide_eq_true c44
                      clear c44
                      by_cases c45 : (rd t360 x16_5) = 0
                      ·
                       rw [if_pos c45] at H
                       have c45b0 : ((rd t360 x16_5) == 0) = true := beq_iff_eq.mpr c45
                       have c45b1 : ((rd t360 x16_5) != 0) = false := bne_eq_false_iff_eq.mpr c45
                       clear c45
                       by_cases c46 : x16_5 < (t364.length : Int)
                       ·
                        rw [if_pos c46] at H
                        have c46b0 : decide (x16_5 < (t364.length : Int)) = true := decide_eq_true c46
                        clear c46
                        by_cases c47 : (rd t364 x16_5) = 0
                        ·
                         rw [if_pos c47] at H
                         have c47b0 : ((rd t364 x16_5) == 0) = true := beq_iff_eq.mpr c47
                         have c47b1 : ((rd t364 x16_5) != 0) = false := bne_eq_false_iff_eq.mpr c47
                         clear c47
                         have H' := zm H
                         clear H
                         have p368 : 0 ≤ (x16_5 : Int) := of_decide_eq_true (by first | (with_reducible assumption) | assumption)
                         have q368 : x16_5 < (t360.length : Int) := of_decide_eq_true (by first | (with_reducible assumption) | assumption)
                         obtain ⟨ad368, e368, hx368_0⟩ := Kd.at_int (Kd.R_reads' HO_10.out).2.2 x16_5 p368 q368
                         cases e368
                         replace p368 := eq_true p368
                         replace q368 := eq_true q368
                         obtain ⟨Ao48, co48, eo48⟩ := Kd.R_slice HO_14.out
                         subst eo48
                         have p369 : 0 ≤ (x16_5 : Int) := of_decide_eq_true (by first | (with_reducible assumption) | assumption)
                         have q369 : x16_5 < (t364.length : Int) := of_decide_eq_true (by first | (with_reducible assumption) | assumption)
                         obtain ⟨ad369, e369, hx369_0⟩ := Kd.at_int (Kd.R_reads' HO_14.out).2.2 x16_5 p369 q369
                         cases e369
                         replace p369 := eq_true p369
                         replace q369 := eq_true q369
                         go_wp2
                         go_roundg k5
                         case measure => have := HJ4.out; have := HJ22.out; have := HJ31.out; have := HJ34.out; have := HK5.out; omega
                         case rel => exact ⟨(wrap64 (x16_5 + 1)), (by first | rfl | (simp; done) | (simp [*]; done)), H', ⟨by have := HJ4.out; have := HJ22.out; have := HJ31.out; have := HJ34.out; have := HK5.out; omega⟩, ⟨by (with_reducible repeat (first | apply zo | apply zp | apply zq)); exact HO_10.out⟩, ⟨by (with_reducible repeat (first | apply zo | apply zp | apply zq)); exact HO_14.out⟩, ⟨by repeat (first | (with_reducible first | exact HB.out | apply ze | apply zd | apply zf) | exact HB.out)⟩⟩
                        ·
                         rw [if_neg c47] at H
                         exact absurd H (by simp)
                       ·
                        rw [if_neg c46] at H
                        exact absurd H (by simp)
                      ·
                       rw [if_neg c45] at H
                       exact absurd H (by simp)
                     ·
                      rw [if_neg c44] at H
                      exact absurd H (by simp)
                    ·
                     rw [if_neg c43] at H
                     exact absurd H (by simp)
                  ·
                   rw [if_neg c41] at H
                   have c41b0 : decide (x16_5 < a0) = false := decide_eq_false c41
                   clear c41
                   by_cases c49 : 0 ≤ a1
                   ·
                    rw [if_pos c49] at H
                    have c49b0 : decide (0 ≤ a1) = true := decide_eq_true c49
                    clear c49
                    by_cases c50 : a1 < (t364.length : Int)
                    ·
                     rw [if_pos c50] at H
                     have c50b0 : decide (a1 < (t364.length : Int)) = true := decide_eq_true c50
                     clear c50
                     by_cases c51 : (wrap64 ((rd t364 a1) - a2)) < 0
                     ·
                      rw [if_pos c51] at H
                      have c51b0 : decide ((wrap64 ((rd t364 a1) - a2)) < 0) = true := decide_eq_true c51
                      clear c51
                      by_cases c52 : a1 < (t360.length : Int)
                      ·
                       rw [if_pos c52] at H
                       have c52b0 : decide (a1 < (t360.length : Int)) = true := decide_eq_true c52
                       clear c52
                       by_cases c53 : (rd t360 a1) = x13_31
                       ·
                        rw [if_pos c53] at H
                        have c53b0 : ((rd t360 a1) == x13_31) = true := beq_iff_eq.mpr c53
                        have c53b1 : ((rd t360 a1) != x13_31) = false := bne_eq_false_iff_eq.mpr c53
                        clear c53
                        by_cases c54 : (wrap64 (-(wrap64 ((rd t364 a1) - a2)))) ≤ (wrap64 ((wrap64 (Int.tdiv x12_31 255)) + 1))
                        ·
                         rw [if_pos c54] at H
                         have c54b0 : decide ((wrap64 (-(wrap64 ((rd t364 a1) - a2)))) ≤ (wrap64 ((wrap64 (Int.tdiv x12_31 255)) + 1))) = true := decide_eq_true c54
                         clear c54
                         replace H := Option.bind_eq_some_iff.mp H
                         obtain ⟨t372, A550, H⟩ := H
                         replace H : (some t372) = some r := H
                         have A55 := zm A550
                         clear A550
                         obtain rfl := Option.some.inj H
                         obtain ⟨Ao56, co56, eo56⟩ := Kd.R_slice HO_14.out
                         subst eo56
                         have p370 : 0 ≤ (a1 : Int) := of_decide_eq_true (by first | (with_reducible assumption) | assumption)
                         have q370 : a1 < (t364.length : Int) := of_decide_eq_true (by first | (with_reducible assumption) | assumption)
                         obtain ⟨ad370, e370, hx370_0⟩ := Kd.at_int (Kd.R_reads' HO_14.out).2.2 a1 p370 q370
                         cases e370
                         replace p370 := eq_true p370
                         replace q370 := eq_true q370
                         have p371 : 0 ≤ (a1 : Int) := of_decide_eq_true (by first | (with_reducible assumption) | assumption)
                         have q371 : a1 < (t360.length : Int) := of_decide_eq_true (by first | (with_reducible assumption) | assumption)
                         obtain ⟨ad371, e371, hx371_0⟩ := Kd.at_int (Kd.R_reads' HO_10.out).2.2 a1 p371 q371
                         cases e371
                         replace p371 := eq_true p371
                         replace q371 := eq_true q371
                         go_wp2_with (first | (go_at_call 9; (with_reducible refine (psalterylaw07_knows.calls k5  t372 _ A55.out).mono ?_); rintro e w57 ⟨rfl, hb⟩; have n0_ := zm (Kd.R_below (by (with_reducible repeat (first | apply zo | apply zp | apply zq)); exact HO_10.out) hb); have n1_ := zm (Kd.R_below (by (with_reducible repeat (first | apply zo | apply zp | apply zq)); exact HO_14.out) hb); have n2_ := zm (zJ (by repeat (first | (with_reducible first | exact HB.out | apply ze | apply zd | apply zf) | exact HB.out)) hb); clear HO_10; clear HO_14; clear HB; have HO_10 := n0_; have HO_14 := n1_; have HB := n2_; clear n0_ n1_ n2_; (try clear hb); (try clear hb2); (try clear hk); (try clear hi)))
                         go_ret
                         exact ⟨by first | rfl | (simp [errW_none, errW_some] <;> rfl) | (simp [*, errW_none, errW_some] <;> rfl), by repeat (first | (with_reducible first | exact HB.out | apply ze | apply zd | apply zf) | exact HB.out)⟩
                        ·
                         rw [if_neg c54] at H
                         exact absurd H (by simp)
                       ·
                        rw [if_neg c53] at H
                        exact absurd H (by simp)
                      ·
                       rw [if_neg c52] at H
                       exact absurd H (by simp)
                     ·
                      rw [if_neg c51] at H
                      have c51b0 : decide ((wrap64 ((rd t364 a1) - a2)) < 0) = false := decide_eq_false c51
                      clear c51
                      by_cases c58 : a1 < (t360.length : Int)
                      ·
                       rw [if_pos c58] at H
                       have c58b0 : decide (a1 < (t360.length : Int)) = true := decide_eq_true c58
                       clear c58
                       by_cases c59 : (rd t360 a1) = x13_31
                       ·
                        rw [if_pos c59] at H
                        have c59b0 : ((rd t360 a1) == x13_31) = true := beq_iff_eq.mpr c59
                        have c59b1 : ((rd t360 a1) != x13_31) = false := bne_eq_false_iff_eq.mpr c59
                        clear c59
                        by_cases c60 : (wrap64 ((rd t364 a1) - a2)) ≤ (wrap64 ((wrap64 (Int.tdiv x12_31 255)) + 1))
                        ·
                         rw [if_pos c60] at H
                         have c60b0 : decide ((wrap64 ((rd t364 a1) - a2)) ≤ (wrap64 ((wrap64 (Int.tdiv x12_31 255)) + 1))) = true := decide_eq_true c60
                         clear c60
                         replace H := Option.bind_eq_some_iff.mp H
                         obtain ⟨t374, A610, H⟩ := H
                         replace H : (some t374) = some r := H
                         have A61 := zm A610
                         clear A610
                         obtain rfl := Option.some.inj H
                         obtain ⟨Ao62, co62, eo62⟩ := Kd.R_slice HO_14.out
                         subst eo62
                         have p370 : 0 ≤ (a1 : Int) := of_decide_eq_true (by first | (with_reducible assumption) | assumption)
                         have q370 : a1 < (t364.length : Int) := of_decide_eq_true (by first | (with_reducible assumption) | assumption)
                         obtain ⟨ad370, e370, hx370_0⟩ := Kd.at_int (Kd.R_reads' HO_14.out).2.2 a1 p370 q370
                         cases e370
                         replace p370 := eq_true p370
                         replace q370 := eq_true q370
                         have p373 : 0 ≤ (a1 : Int) := of_decide_eq_true (by first | (with_reducible assumption) | assumption)
                         have q373 : a1 < (t360.length : Int) := of_decide_eq_true (by first | (with_reducible assumption) | assumption)
                         obtain ⟨ad373, e373, hx373_0⟩ := Kd.at_int (Kd.R_reads' HO_10.out).2.2 a1 p373 q373
                         cases e373
                         replace p373 := eq_true p373
                         replace q373 := eq_true q373
                         go_wp2_with (first | (go_at_call 9; (with_reducible refine (psalterylaw07_knows.calls k5  t374 _ A61.out).mono ?_); rintro e w63 ⟨rfl, hb⟩; have n0_ := zm (Kd.R_below (by (with_reducible repeat (first | apply zo | apply zp | apply zq)); exact HO_10.out) hb); have n1_ := zm (Kd.R_below (by (with_reducible repeat (first | apply zo | apply zp | apply zq)); exact HO_14.out) hb); have n2_ := zm (zJ (by repeat (first | (with_reducible first | exact HB.out | apply ze | apply zd | apply zf) | exact HB.out)) hb); clear HO_10; clear HO_14; clear HB; have HO_10 := n0_; have HO_14 := n1_; have HB := n2_; clear n0_ n1_ n2_; (try clear hb); (try clear hb2); (try clear hk); (try clear hi)))
                         go_ret
                         exact ⟨by first | rfl | (simp [errW_none, errW_some] <;> rfl) | (simp [*, errW_none, errW_some] <;> rfl), by repeat (first | (with_reducible first | exact HB.out | apply ze | apply zd | apply zf) | exact HB.out)⟩
                        ·
                         rw [if_neg c60] at H
                         exact absurd H (by simp)
                       ·
                        rw [if_neg c59] at H
                        exact absurd H (by simp)
                      ·
                       rw [if_neg c58] at H
                       exact absurd H (by simp)
                    ·
                     rw [if_neg c50] at H
                     exact absurd H (by simp)
                   ·
                    rw [if_neg c49] at H
                    exact absurd H (by simp)
       ·
        rw [if_neg c20] at H
        exact absurd H (by simp)
      ·
       rw [if_neg c19] at H
       exact absurd H (by simp)
     ·
      rw [if_neg c18] at H
      exact absurd H (by simp)
    ·
     rw [if_neg c17] at H
     exact absurd H (by simp)

/-- THE ONE PURE STATEMENT of psalterylaw07_PvqAlone: yours. -/
def psalterylaw07_PvqAlone.Pure : Prop := ∀ (a0 : Int) (a1 : Int) (a2 : Int) (a3 : Int), (Lit.int .i64 a0).wf = true → (Lit.int .i64 a1).wf = true → (Lit.int .i64 a2).wf = true → (Lit.int .i64 a3).wf = true → ∃ k, psalterylaw07_PvqAlone.f k a0 a1 a2 a3 = some true
theorem psalterylaw07_PvqAlone.walk (P : psalterylaw07_PvqAlone.Pure) (a0 : Int) (a1 : Int) (a2 : Int) (a3 : Int) (w : World) (w0 : (Lit.int .i64 a0).wf = true) (w1 : (Lit.int .i64 a1).wf = true) (w2 : (Lit.int .i64 a2).wf = true) (w3 : (Lit.int .i64 a3).wf = true) :
  Calls Try.prog 8 #[.int .i64 a0, .int .i64 a1, .int .i64 a2, .int .i64 a3] w fun e w' => e = .returned (.bool true) ∧ Below w.heap.size w w' := by
 obtain ⟨k, h⟩ := P a0 a1 a2 a3 w0 w1 w2 w3
 refine (psalterylaw07_PvqAlone.calls k a0 a1 a2 a3 true w h).mono ?_
 rintro e w' ⟨rfl, hd⟩
 exact ⟨rfl, hd⟩

end Go.Proofs.Ytllgjhenbchkfaa.Prt

namespace Go.Proofs.Ytllgjhenbchkfaa.Prt
open Go.RowKit Go.Proofs.YtllgjhenbchkfaaW.PrintWords Go.Proofs.YtllgjhenbchkfaaW.PrintLast Go.Proofs.YtllgjhenbchkfaaW.PrintMore
attribute [local go_sem] max2_int min2_int max_two min_two max_three min_three max_four min_four   -- for this text's walks alone
set_option linter.unusedVariables false
set_option linter.unusedSimpArgs false

/-! ### psalteryref06_Size: function 31 -/
def psalteryref06_Size.l0 : Nat → Int → Int → Option (Int)
 | 0, _, _ => none
 | k + 1, x0, x3 => if x3 ≤ 12 then (if x0 = x3 then (some x3) else (if x0 = (wrap64 (-x3)) then (some x3) else (psalteryref06_Size.l0 k x0 (wrap64 (x3 + 1))))) else (some 13)
def psalteryref06_Size.f (k : Nat) (a0 : Int) : Option (Int) := psalteryref06_Size.l0 k a0 0
theorem psalteryref06_Size.mono_l : ∀ k, (∀ y0 y1, LeO (psalteryref06_Size.l0 k y0 y1) (psalteryref06_Size.l0 (k + 1) y0 y1))
 | 0 => fun _ _ r h => by simp [psalteryref06_Size.l0] at h
 | k + 1 => by
  have ih0 := psalteryref06_Size.mono_l k
  ·
   intro y0 y1
   unfold psalteryref06_Size.l0
   repeat' first
   | (with_reducible exact ih0 _ _)
   | (with_reducible exact LeO.refl _)
   | (with_reducible exact LeO.none _)
   | (with_reducible refine LeO.ite ?_ ?_)
   | (with_reducible refine LeO.bind ?_ (fun _ => ?_))
   | exact ih0 _ _
   | exact LeO.none _
   | refine LeO.ite ?_ ?_
   | refine LeO.bind ?_ (fun _ => ?_)
theorem psalteryref06_Size.mono : ∀ a0 k, LeO (psalteryref06_Size.f k a0) (psalteryref06_Size.f (k + 1) a0) := by
 intro a0 k
 have ih0 := psalteryref06_Size.mono_l k
 unfold psalteryref06_Size.f
 repeat' first
   | (with_reducible exact ih0 _ _)
   | (with_reducible exact LeO.refl _)
   | (with_reducible exact LeO.none _)
   | (with_reducible refine LeO.ite ?_ ?_)
   | (with_reducible refine LeO.bind ?_ (fun _ => ?_))
   | exact ih0 _ _
   | exact LeO.none _
   | refine LeO.ite ?_ ?_
   | refine LeO.bind ?_ (fun _ => ?_)
set_option maxHeartbeats 8000000 in
set_option maxRecDepth 100000 in
theorem psalteryref06_Size.calls (k : Nat) (a0 : Int) (r : Int) (w : World) (h : psalteryref06_Size.f k a0 = some r) :
  Calls Try.prog 31 #[.int .i64 a0] w fun e w' => e = .returned (.int .i64 r) ∧ Drawn0 w w' := by
 have H : (psalteryref06_Size.l0 k a0 0) = some r := h
 clear h
 have H' := zm H
 clear H
 go_enter Try.func31, Try.ntmps31
 go_wp2
 go_loopg [3] k (fun kq v3 w' => ∃ (x3_1 : Int), v3 = .int .i64 x3_1 ∧ Aside0 (psalteryref06_Size.l0 kq a0 x3_1 = some r) ∧ Aside0 (kq ≤ k) ∧ Drawn0 w w')
 case atStart => exact ⟨(0), (by first | rfl | (simp; done) | (simp [*]; done)), H', ⟨Nat.le_refl _⟩, by repeat (first | exact Drawn0.refl _ | apply Drawn0.step)⟩
 case round =>
  clear H'
  obtain ⟨x3_1, rfl, HA, HK1, ⟨m1, rfl⟩⟩ := hrel
  cases gk with
  | zero => exact absurd HA.out (by simp [psalteryref06_Size.l0])
  | succ k1 =>
   have H := HA.out
   clear HA
   simp only [psalteryref06_Size.l0] at H
   by_cases c2 : x3_1 ≤ 12
   ·
    rw [if_pos c2] at H
    have c2b0 : decide (x3_1 ≤ 12) = true := decide_eq_true c2
    clear c2
    by_cases c3 : a0 = x3_1
    ·
     rw [if_pos c3] at H
     have c3b0 : (a0 == x3_1) = true := beq_iff_eq.mpr c3
     have c3b1 : (a0 != x3_1) = false := bne_eq_false_iff_eq.mpr c3
     clear c3
     obtain rfl := Option.some.inj H
     go_wp2
     go_ret
     exact ⟨by first | rfl | (simp; done) | (simp [*]; done), by repeat (first | exact Drawn0.refl _ | apply Drawn0.step)⟩
    ·
     rw [if_neg c3] at H
     have c3b0 : (a0 == x3_1) = false := beq_eq_false_iff_ne.mpr c3
     have c3b1 : (a0 != x3_1) = true := bne_iff_ne.mpr c3
     by_cases c4 : a0 = (wrap64 (-x3_1))
     ·
      rw [if_pos c4] at H
      have c4b0 : (a0 == (wrap64 (-x3_1))) = true := beq_iff_eq.mpr c4
      have c4b1 : (a0 != (wrap64 (-x3_1))) = false := bne_eq_false_iff_eq.mpr c4
      clear c4
      obtain rfl := Option.some.inj H
      go_wp2
      go_ret
      exact ⟨by first | rfl | (simp; done) | (simp [*]; done), by repeat (first | exact Drawn0.refl _ | apply Drawn0.step)⟩
     ·
      rw [if_neg c4] at H
      have c4b0 : (a0 == (wrap64 (-x3_1))) = false := beq_eq_false_iff_ne.mpr c4
      have c4b1 : (a0 != (wrap64 (-x3_1))) = true := bne_iff_ne.mpr c4
      have H' := zm H
      clear H
      go_wp2
      go_roundg k1
      case measure => have := HK1.out; omega
      case rel => exact ⟨(wrap64 (x3_1 + 1)), (by first | rfl | (simp; done) | (simp [*]; done)), H', ⟨by have := HK1.out; omega⟩, by repeat (first | exact Drawn0.refl _ | apply Drawn0.step)⟩
   ·
    rw [if_neg c2] at H
    have c2b0 : decide (x3_1 ≤ 12) = false := decide_eq_false c2
    clear c2
    obtain rfl := Option.some.inj H
    go_wp2
    go_ret
    exact ⟨by first | rfl | (simp; done) | (simp [*]; done), by repeat (first | exact Drawn0.refl _ | apply Drawn0.step)⟩

end Go.Proofs.Ytllgjhenbchkfaa.Prt

namespace Go.Proofs.Ytllgjhenbchkfaa.Prt
open Go.RowKit Go.Proofs.YtllgjhenbchkfaaW.PrintWords Go.Proofs.YtllgjhenbchkfaaW.PrintLast Go.Proofs.YtllgjhenbchkfaaW.PrintMore
attribute [local go_sem] max2_int min2_int max_two min_two max_three min_three max_four min_four   -- for this text's walks alone
set_option linter.unusedVariables false
set_option linter.unusedSimpArgs false

/-! ### psalteryref03_Div: function 32 -/
def psalteryref03_Div.j0 : Nat → Int → Int → Int → Bool → Option (Int)
 | 0, _, _, _, _ => none
 | k + 1, x1, x5, x6, x23 => if x23 = true then (some (wrap64 (x5 + 1))) else (if x6 < 0 then (if (wrap64 (-x6)) ≥ (wrap64 (x1 + x6)) then (some (wrap64 (x5 - 1))) else (some x5)) else (some x5))
def psalteryref03_Div.f (k : Nat) (a0 : Int) (a1 : Int) : Option (Int) := if a1 = 0 then (none) else (if (wrap64 (a0 - (wrap64 ((wrap64 (Int.tdiv a0 a1)) * a1)))) ≥ 0 then (psalteryref03_Div.j0 k a1 (wrap64 (Int.tdiv a0 a1)) (wrap64 (a0 - (wrap64 ((wrap64 (Int.tdiv a0 a1)) * a1)))) (decide ((wrap64 (a0 - (wrap64 ((wrap64 (Int.tdiv a0 a1)) * a1)))) ≥ (wrap64 (a1 - (wrap64 (a0 - (wrap64 ((wrap64 (Int.tdiv a0 a1)) * a1))))))))) else (psalteryref03_Div.j0 k a1 (wrap64 (Int.tdiv a0 a1)) (wrap64 (a0 - (wrap64 ((wrap64 (Int.tdiv a0 a1)) * a1)))) false))
theorem psalteryref03_Div.mono_l : ∀ k, (∀ y0 y1 y2 y3, LeO (psalteryref03_Div.j0 k y0 y1 y2 y3) (psalteryref03_Div.j0 (k + 1) y0 y1 y2 y3))
 | 0 => fun _ _ _ _ r h => by simp [psalteryref03_Div.j0] at h
 | k + 1 => by
  have ih0 := psalteryref03_Div.mono_l k
  ·
   intro y0 y1 y2 y3
   unfold psalteryref03_Div.j0
   repeat' first
   | (with_reducible exact ih0 _ _ _ _)
   | (with_reducible exact LeO.refl _)
   | (with_reducible exact LeO.none _)
   | (with_reducible refine LeO.ite ?_ ?_)
   | (with_reducible refine LeO.bind ?_ (fun _ => ?_))
   | exact ih0 _ _ _ _
   | exact LeO.none _
   | refine LeO.ite ?_ ?_
   | refine LeO.bind ?_ (fun _ => ?_)
theorem psalteryref03_Div.mono : ∀ a0 a1 k, LeO (psalteryref03_Div.f k a0 a1) (psalteryref03_Div.f (k + 1) a0 a1) := by
 intro a0 a1 k
 have ih0 := psalteryref03_Div.mono_l k
 unfold psalteryref03_Div.f
 repeat' first
   | (with_reducible exact ih0 _ _ _ _)
   | (with_reducible exact LeO.refl _)
   | (with_reducible exact LeO.none _)
   | (with_reducible refine LeO.ite ?_ ?_)
   | (with_reducible refine LeO.bind ?_ (fun _ => ?_))
   | exact ih0 _ _ _ _
   | exact LeO.none _
   | refine LeO.ite ?_ ?_
   | refine LeO.bind ?_ (fun _ => ?_)
set_option maxHeartbeats 8000000 in
set_option maxRecDepth 100000 in
theorem psalteryref03_Div.calls (k : Nat) (a0 : Int) (a1 : Int) (r : Int) (w : World) (h : psalteryref03_Div.f k a0 a1 = some r) :
  Calls Try.prog 32 #[.int .i64 a0, .int .i64 a1] w fun e w' => e = .returned (.int .i64 r) ∧ Drawn0 w w' := by
 have H : (if a1 = 0 then (none) else (if (wrap64 (a0 - (wrap64 ((wrap64 (Int.tdiv a0 a1)) * a1)))) ≥ 0 then (psalteryref03_Div.j0 k a1 (wrap64 (Int.tdiv a0 a1)) (wrap64 (a0 - (wrap64 ((wrap64 (Int.tdiv a0 a1)) * a1)))) (decide ((wrap64 (a0 - (wrap64 ((wrap64 (Int.tdiv a0 a1)) * a1)))) ≥ (wrap64 (a1 - (wrap64 (a0 - (wrap64 ((wrap64 (Int.tdiv a0 a1)) * a1))))))))) else (psalteryref03_Div.j0 k a1 (wrap64 (Int.tdiv a0 a1)) (wrap64 (a0 - (wrap64 ((wrap64 (Int.tdiv a0 a1)) * a1)))) false))) = some r := h
 clear h
 by_cases c3 : a1 = 0
 ·
  rw [if_pos c3] at H
  exact absurd H (by simp)
 ·
  rw [if_neg c3] at H
  have c3b0 : (a1 == 0) = false := beq_eq_false_iff_ne.mpr c3
  have c3b1 : (a1 != 0) = true := bne_iff_ne.mpr c3
  have HC4 := zm H
  clear H
  go_enter Try.func32, Try.ntmps32
  go_upto_region 3 with (fail)
  go_cut [23] (fun v23 wc => ∃ (kq : Nat) (x23_3 : Bool), v23 = .bool x23_3 ∧ Aside0 (psalteryref03_Div.j0 kq a1 (wrap64 (Int.tdiv a0 a1)) (wrap64 (a0 - (wrap64 ((wrap64 (Int.tdiv a0 a1)) * a1)))) x23_3 = some r) ∧ Aside0 (kq ≤ k) ∧ Drawn0 w wc)
  case first =>
   have H := HC4.out
   clear HC4
   by_cases c5 : (wrap64 (a0 - (wrap64 ((wrap64 (Int.tdiv a0 a1)) * a1)))) ≥ 0
   ·
    rw [if_pos c5] at H
    have c5b0 : decide (0 ≤ (wrap64 (a0 - (wrap64 ((wrap64 (Int.tdiv a0 a1)) * a1))))) = true := decide_eq_true c5
    clear c5
    (first | rw [c5b0] | (simp only [i64_w, i32_w]; rw [c5b0]) | skip)
    have H' := zm H
    clear H
    go_wp2
    go_meet
    case rel => exact ⟨_, (decide ((wrap64 (a0 - (wrap64 ((wrap64 (Int.tdiv a0 a1)) * a1)))) ≥ (wrap64 (a1 - (wrap64 (a0 - (wrap64 ((wrap64 (Int.tdiv a0 a1)) * a1)))))))), (by first | rfl | (simp; done) | (simp [*]; done)), H', ⟨by first | omega | exact Nat.le_refl _⟩, by repeat (first | exact Drawn0.refl _ | apply Drawn0.step)⟩
   ·
    rw [if_neg c5] at H
    have c5b0 : decide (0 ≤ (wrap64 (a0 - (wrap64 ((wrap64 (Int.tdiv a0 a1)) * a1))))) = false := decide_eq_false c5
    clear c5
    (first | rw [c5b0] | (simp only [i64_w, i32_w]; rw [c5b0]) | skip)
    have H' := zm H
    clear H
    go_wp2
    go_meet
    case rel => exact ⟨_, (false), (by first | rfl | (simp; done) | (simp [*]; done)), H', ⟨by first | omega | exact Nat.le_refl _⟩, by repeat (first | exact Drawn0.refl _ | apply Drawn0.step)⟩
  case rest =>
   clear HC4
   try clear p2
   try clear c3
   try clear c3b0
   try clear c3b1
   try clear c5
   try clear c5b0
   obtain ⟨kq, x23_3, rfl, HA, HJ3, ⟨mc3, rfl⟩⟩ := hcut
   cases kq with
   | zero => exact absurd HA.out (by simp [psalteryref03_Div.j0])
   | succ kj3 =>
    have H := HA.out
    clear HA
    simp only [psalteryref03_Div.j0] at H
    by_cases c6 : x23_3 = true
    ·
     subst c6
     have H1 : (some (wrap64 ((wrap64 (Int.tdiv a0 a1)) + 1))) = some r := by rw [if_pos rfl] at H; exact H
     clear H
     have H := H1
     clear H1
     obtain rfl := Option.some.inj H
     go_wp2
     go_ret
     exact ⟨by first | rfl | (simp; done) | (simp [*]; done), by repeat (first | exact Drawn0.refl _ | apply Drawn0.step)⟩
    ·
     replace c6 := Bool.eq_false_iff.mpr c6
     subst c6
     have H1 : (if (wrap64 (a0 - (wrap64 ((wrap64 (Int.tdiv a0 a1)) * a1)))) < 0 then (if (wrap64 (-(wrap64 (a0 - (wrap64 ((wrap64 (Int.tdiv a0 a1)) * a1)))))) ≥ (wrap64 (a1 + (wrap64 (a0 - (wrap64 ((wrap64 (Int.tdiv a0 a1)) * a1)))))) then (some (wrap64 ((wrap64 (Int.tdiv a0 a1)) - 1))) else (some (wrap64 (Int.tdiv a0 a1)))) else (some (wrap64 (Int.tdiv a0 a1)))) = some r := by rw [if_neg (show ¬ (false = true) by decide)] at H; exact H
     clear H
     have H := H1
     clear H1
     by_cases c7 : (wrap64 (a0 - (wrap64 ((wrap64 (Int.tdiv a0 a1)) * a1)))) < 0
     ·
      rw [if_pos c7] at H
      have c7b0 : decide ((wrap64 (a0 - (wrap64 ((wrap64 (Int.tdiv a0 a1)) * a1)))) < 0) = true := decide_eq_true c7
      clear c7
      by_cases c8 : (wrap64 (-(wrap64 (a0 - (wrap64 ((wrap64 (Int.tdiv a0 a1)) * a1)))))) ≥ (wrap64 (a1 + (wrap64 (a0 - (wrap64 ((wrap64 (Int.tdiv a0 a1)) * a1))))))
      ·
       rw [if_pos c8] at H
       have c8b0 : decide ((wrap64 (a1 + (wrap64 (a0 - (wrap64 ((wrap64 (Int.tdiv a0 a1)) * a1)))))) ≤ (wrap64 (-(wrap64 (a0 - (wrap64 ((wrap64 (Int.tdiv a0 a1)) * a1))))))) = true := decide_eq_true c8
       clear c8
       obtain rfl := Option.some.inj H
       go_wp2
       go_ret
       exact ⟨by first | rfl | (simp; done) | (simp [*]; done), by repeat (first | exact Drawn0.refl _ | apply Drawn0.step)⟩
      ·
       rw [if_neg c8] at H
       have c8b0 : decide ((wrap64 (a1 + (wrap64 (a0 - (wrap64 ((wrap64 (Int.tdiv a0 a1)) * a1)))))) ≤ (wrap64 (-(wrap64 (a0 - (wrap64 ((wrap64 (Int.tdiv a0 a1)) * a1))))))) = false := decide_eq_false c8
       clear c8
       obtain rfl := Option.some.inj H
       go_wp2
       go_ret
       exact ⟨by first | rfl | (simp; done) | (simp [*]; done), by repeat (first | exact Drawn0.refl _ | apply Drawn0.step)⟩
     ·
      rw [if_neg c7] at H
      have c7b0 : decide ((wrap64 (a0 - (wrap64 ((wrap64 (Int.tdiv a0 a1)) * a1)))) < 0) = false := decide_eq_false c7
      clear c7
      obtain rfl := Option.some.inj H
      go_wp2
      go_ret
      exact ⟨by first | rfl | (simp; done) | (simp [*]; done), by repeat (first | exact Drawn0.refl _ | apply Drawn0.step)⟩

end Go.Proofs.Ytllgjhenbchkfaa.Prt

namespace Go.Proofs.Ytllgjhenbchkfaa.Prt
open Go.RowKit Go.Proofs.YtllgjhenbchkfaaW.PrintWords Go.Proofs.YtllgjhenbchkfaaW.PrintLast Go.Proofs.YtllgjhenbchkfaaW.PrintMore
attribute [local go_sem] max2_int min2_int max_two min_two max_three min_three max_four min_four   -- for this text's walks alone
set_option linter.unusedVariables false
set_option linter.unusedSimpArgs false

/-! ### psalteryref03_Sqrt: function 20 -/
def psalteryref03_Sqrt.l0 : Nat → Int → Int → Int → Option (Int)
 | 0, _, _, _ => none
 | k + 1, x0, x3, x4 => if (IntKind.u64.wrap (x4 - x3)) > 1 then (if (IntKind.u64.wrap ((IntKind.u64.wrap (Int.tdiv (IntKind.u64.wrap (x3 + x4)) 2)) * (IntKind.u64.wrap (Int.tdiv (IntKind.u64.wrap (x3 + x4)) 2)))) ≤ x0 then (psalteryref03_Sqrt.l0 k x0 (IntKind.u64.wrap (Int.tdiv (IntKind.u64.wrap (x3 + x4)) 2)) x4) else (psalteryref03_Sqrt.l0 k x0 x3 (IntKind.u64.wrap (Int.tdiv (IntKind.u64.wrap (x3 + x4)) 2)))) else (some x3)
def psalteryref03_Sqrt.f (k : Nat) (a0 : Int) : Option (Int) := psalteryref03_Sqrt.l0 k a0 0 4294967296
theorem psalteryref03_Sqrt.mono_l : ∀ k, (∀ y0 y1 y2, LeO (psalteryref03_Sqrt.l0 k y0 y1 y2) (psalteryref03_Sqrt.l0 (k + 1) y0 y1 y2))
 | 0 => fun _ _ _ r h => by simp [psalteryref03_Sqrt.l0] at h
 | k + 1 => by
  have ih0 := psalteryref03_Sqrt.mono_l k
  ·
   intro y0 y1 y2
   unfold psalteryref03_Sqrt.l0
   repeat' first
   | (with_reducible exact ih0 _ _ _)
   | (with_reducible exact LeO.refl _)
   | (with_reducible exact LeO.none _)
   | (with_reducible refine LeO.ite ?_ ?_)
   | (with_reducible refine LeO.bind ?_ (fun _ => ?_))
   | exact ih0 _ _ _
   | exact LeO.none _
   | refine LeO.ite ?_ ?_
   | refine LeO.bind ?_ (fun _ => ?_)
theorem psalteryref03_Sqrt.mono : ∀ a0 k, LeO (psalteryref03_Sqrt.f k a0) (psalteryref03_Sqrt.f (k + 1) a0) := by
 intro a0 k
 have ih0 := psalteryref03_Sqrt.mono_l k
 unfold psalteryref03_Sqrt.f
 repeat' first
   | (with_reducible exact ih0 _ _ _)
   | (with_reducible exact LeO.refl _)
   | (with_reducible exact LeO.none _)
   | (with_reducible refine LeO.ite ?_ ?_)
   | (with_reducible refine LeO.bind ?_ (fun _ => ?_))
   | exact ih0 _ _ _
   | exact LeO.none _
   | refine LeO.ite ?_ ?_
   | refine LeO.bind ?_ (fun _ => ?_)
set_option maxHeartbeats 8000000 in
set_option maxRecDepth 100000 in
theorem psalteryref03_Sqrt.calls (k : Nat) (a0 : Int) (r : Int) (w : World) (h : psalteryref03_Sqrt.f k a0 = some r) :
  Calls Try.prog 20 #[.int .u64 a0] w fun e w' => e = .returned (.int .u64 r) ∧ Drawn0 w w' := by
 have H : (psalteryref03_Sqrt.l0 k a0 0 4294967296) = some r := h
 clear h
 have H' := zm H
 clear H
 go_enter Try.func20, Try.ntmps20
 go_wp2
 go_loopg [3, 4] k (fun kq v3 v4 w' => ∃ (x3_1 : Int) (x4_1 : Int), v3 = .int .u64 x3_1 ∧ v4 = .int .u64 x4_1 ∧ Aside0 (psalteryref03_Sqrt.l0 kq a0 x3_1 x4_1 = some r) ∧ Aside0 (kq ≤ k) ∧ Drawn0 w w')
 case atStart => exact ⟨(0), (4294967296), (by first | rfl | (simp; done) | (simp [*]; done)), (by first | rfl | (simp; done) | (simp [*]; done)), H', ⟨Nat.le_refl _⟩, by repeat (first | exact Drawn0.refl _ | apply Drawn0.step)⟩
 case round =>
  clear H'
  obtain ⟨x3_1, x4_1, rfl, rfl, HA, HK1, ⟨m1, rfl⟩⟩ := hrel
  cases gk with
  | zero => exact absurd HA.out (by simp [psalteryref03_Sqrt.l0])
  | succ k1 =>
   have H := HA.out
   clear HA
   simp only [psalteryref03_Sqrt.l0] at H
   by_cases c2 : (IntKind.u64.wrap (x4_1 - x3_1)) > 1
   ·
    rw [if_pos c2] at H
    have c2b0 : decide (1 < (IntKind.u64.wrap (x4_1 - x3_1))) = true := decide_eq_true c2
    clear c2
    by_cases c3 : (IntKind.u64.wrap ((IntKind.u64.wrap (Int.tdiv (IntKind.u64.wrap (x3_1 + x4_1)) 2)) * (IntKind.u64.wrap (Int.tdiv (IntKind.u64.wrap (x3_1 + x4_1)) 2)))) ≤ a0
    ·
     rw [if_pos c3] at H
     have c3b0 : decide ((IntKind.u64.wrap ((IntKind.u64.wrap (Int.tdiv (IntKind.u64.wrap (x3_1 + x4_1)) 2)) * (IntKind.u64.wrap (Int.tdiv (IntKind.u64.wrap (x3_1 + x4_1)) 2)))) ≤ a0) = true := decide_eq_true c3
     clear c3
     have H' := zm H
     clear H
     go_wp2
     go_roundg k1
     case measure => have := HK1.out; omega
     case rel => exact ⟨(IntKind.u64.wrap (Int.tdiv (IntKind.u64.wrap (x3_1 + x4_1)) 2)), (x4_1), (by first | rfl | (simp; done) | (simp [*]; done)), (by first | rfl | (simp; done) | (simp [*]; done)), H', ⟨by have := HK1.out; omega⟩, by repeat (first | exact Drawn0.refl _ | apply Drawn0.step)⟩
    ·
     rw [if_neg c3] at H
     have c3b0 : decide ((IntKind.u64.wrap ((IntKind.u64.wrap (Int.tdiv (IntKind.u64.wrap (x3_1 + x4_1)) 2)) * (IntKind.u64.wrap (Int.tdiv (IntKind.u64.wrap (x3_1 + x4_1)) 2)))) ≤ a0) = false := decide_eq_false c3
     clear c3
     have H' := zm H
     clear H
     go_wp2
     go_roundg k1
     case measure => have := HK1.out; omega
     case rel => exact ⟨(x3_1), (IntKind.u64.wrap (Int.tdiv (IntKind.u64.wrap (x3_1 + x4_1)) 2)), (by first | rfl | (simp; done) | (simp [*]; done)), (by first | rfl | (simp; done) | (simp [*]; done)), H', ⟨by have := HK1.out; omega⟩, by repeat (first | exact Drawn0.refl _ | apply Drawn0.step)⟩
   ·
    rw [if_neg c2] at H
    have c2b0 : decide (1 < (IntKind.u64.wrap (x4_1 - x3_1))) = false := decide_eq_false c2
    clear c2
    obtain rfl := Option.some.inj H
    go_wp2
    go_ret
    exact ⟨by first | rfl | (simp; done) | (simp [*]; done), by repeat (first | exact Drawn0.refl _ | apply Drawn0.step)⟩

end Go.Proofs.Ytllgjhenbchkfaa.Prt

namespace Go.Proofs.Ytllgjhenbchkfaa.Prt
open Go.RowKit Go.Proofs.YtllgjhenbchkfaaW.PrintWords Go.Proofs.YtllgjhenbchkfaaW.PrintLast Go.Proofs.YtllgjhenbchkfaaW.PrintMore
attribute [local go_sem] max2_int min2_int max_two min_two max_three min_three max_four min_four   -- for this text's walks alone
set_option linter.unusedVariables false
set_option linter.unusedSimpArgs false

/-! ### psalteryref07_Shape: function 19 -/
mutual
def psalteryref07_Shape.l0 : Nat → List Int → Int → Int → Int → Option (List Int)
 | 0, _, _, _, _ => none
 | k + 1, x0, x1, x5, x6 => if x6 < (x0.length : Int) then (if 0 ≤ x6 then ((psalteryref06_Size.f k (rd x0 x6)).bind fun t261 => (psalteryref07_Shape.l0 k x0 x1 (IntKind.u64.wrap (x5 + (IntKind.u64.wrap ((IntKind.u64.wrap (t261)) * (IntKind.u64.wrap (t261)))))) (wrap64 (x6 + 1)))) else (none)) else (psalteryref07_Shape.l1 k x0 x1 x5 ([] : List Int) 0)
def psalteryref07_Shape.l1 : Nat → List Int → Int → Int → List Int → Int → Option (List Int)
 | 0, _, _, _, _, _ => none
 | k + 1, x0, x1, x5, x8, x9 => if x9 < (x0.length : Int) then (if x5 > 0 then (if 0 ≤ x9 then ((psalteryref06_Size.f k (rd x0 x9)).bind fun t263 => ((psalteryref03_Sqrt.f k (IntKind.u64.wrap (x5 * 65536))).bind fun t264 => ((psalteryref03_Div.f k (wrap64 ((wrap64 (t263 * x1)) * 256)) (wrap64 (t264))).bind fun t265 => (if (rd x0 x9) < 0 then (if x8.length < 17592186044416 then (psalteryref07_Shape.l1 k x0 x1 x5 (x8 ++ [wrap64 (-t265)]) (wrap64 (x9 + 1))) else (none)) else (if x8.length < 17592186044416 then (psalteryref07_Shape.l1 k x0 x1 x5 (x8 ++ [t265]) (wrap64 (x9 + 1))) else (none)))))) else (none)) else (if 0 ≤ x9 then (if (rd x0 x9) < 0 then (if x8.length < 17592186044416 then (psalteryref07_Shape.l1 k x0 x1 x5 (x8 ++ [0]) (wrap64 (x9 + 1))) else (none)) else (if x8.length < 17592186044416 then (psalteryref07_Shape.l1 k x0 x1 x5 (x8 ++ [0]) (wrap64 (x9 + 1))) else (none))) else (none))) else (some x8)
end
def psalteryref07_Shape.f (k : Nat) (l0 : List Int) (a1 : Int) : Option (List Int) := psalteryref07_Shape.l0 k l0 a1 0 0
theorem psalteryref07_Shape.mono_l : ∀ k, (∀ y0 y1 y2 y3, LeO (psalteryref07_Shape.l0 k y0 y1 y2 y3) (psalteryref07_Shape.l0 (k + 1) y0 y1 y2 y3)) ∧ (∀ y0 y1 y2 y3 y4, LeO (psalteryref07_Shape.l1 k y0 y1 y2 y3 y4) (psalteryref07_Shape.l1 (k + 1) y0 y1 y2 y3 y4))
 | 0 => ⟨fun _ _ _ _ r h => by simp [psalteryref07_Shape.l0] at h, fun _ _ _ _ _ r h => by simp [psalteryref07_Shape.l1] at h⟩
 | k + 1 => by
  obtain ⟨ih0, ih1⟩ := psalteryref07_Shape.mono_l k
  refine ⟨?_, ?_⟩
  ·
   intro y0 y1 y2 y3
   unfold psalteryref07_Shape.l0
   repeat' first
   | (with_reducible exact ih0 _ _ _ _)
   | (with_reducible exact ih1 _ _ _ _ _)
   | (with_reducible exact psalteryref03_Div.mono _ _ _)
   | (with_reducible exact psalteryref03_Sqrt.mono _ _)
   | (with_reducible exact psalteryref06_Size.mono _ _)
   | (with_reducible exact LeO.refl _)
   | (with_reducible exact LeO.none _)
   | (with_reducible refine LeO.ite ?_ ?_)
   | (with_reducible refine LeO.bind ?_ (fun _ => ?_))
   | exact ih0 _ _ _ _
   | exact ih1 _ _ _ _ _
   | exact psalteryref03_Div.mono _ _ _
   | exact psalteryref03_Sqrt.mono _ _
   | exact psalteryref06_Size.mono _ _
   | exact LeO.none _
   | refine LeO.ite ?_ ?_
   | refine LeO.bind ?_ (fun _ => ?_)
  ·
   intro y0 y1 y2 y3 y4
   unfold psalteryref07_Shape.l1
   repeat' first
   | (with_reducible exact ih0 _ _ _ _)
   | (with_reducible exact ih1 _ _ _ _ _)
   | (with_reducible exact psalteryref03_Div.mono _ _ _)
   | (with_reducible exact psalteryref03_Sqrt.mono _ _)
   | (with_reducible exact psalteryref06_Size.mono _ _)
   | (with_reducible exact LeO.refl _)
   | (with_reducible exact LeO.none _)
   | (with_reducible refine LeO.ite ?_ ?_)
   | (with_reducible refine LeO.bind ?_ (fun _ => ?_))
   | exact ih0 _ _ _ _
   | exact ih1 _ _ _ _ _
   | exact psalteryref03_Div.mono _ _ _
   | exact psalteryref03_Sqrt.mono _ _
   | exact psalteryref06_Size.mono _ _
   | exact LeO.none _
   | refine LeO.ite ?_ ?_
   | refine LeO.bind ?_ (fun _ => ?_)
theorem psalteryref07_Shape.mono : ∀ a0 a1 k, LeO (psalteryref07_Shape.f k a0 a1) (psalteryref07_Shape.f (k + 1) a0 a1) := by
 intro a0 a1 k
 obtain ⟨ih0, ih1⟩ := psalteryref07_Shape.mono_l k
 unfold psalteryref07_Shape.f
 repeat' first
   | (with_reducible exact ih0 _ _ _ _)
   | (with_reducible exact ih1 _ _ _ _ _)
   | (with_reducible exact psalteryref03_Div.mono _ _ _)
   | (with_reducible exact psalteryref03_Sqrt.mono _ _)
   | (with_reducible exact psalteryref06_Size.mono _ _)
   | (with_reducible exact LeO.refl _)
   | (with_reducible exact LeO.none _)
   | (with_reducible refine LeO.ite ?_ ?_)
   | (with_reducible refine LeO.bind ?_ (fun _ => ?_))
   | exact ih0 _ _ _ _
   | exact ih1 _ _ _ _ _
   | exact psalteryref03_Div.mono _ _ _
   | exact psalteryref03_Sqrt.mono _ _
   | exact psalteryref06_Size.mono _ _
   | exact LeO.none _
   | refine LeO.ite ?_ ?_
   | refine LeO.bind ?_ (fun _ => ?_)
set_option maxHeartbeats 8000000 in
set_option maxRecDepth 100000 in
theorem psalteryref07_Shape.calls (k : Nat) (A0 : Option Addr) (c0 : Nat) (l0 : List Int) (a1 : Int) (r : List Int) (w : World) (hr0 : Kd.C (Kd.int .i64) w A0 l0.length l0) (hc0 : l0.length ≤ c0) (h : psalteryref07_Shape.f k l0 a1 = some r) :
  Calls Try.prog 19 #[.slice A0 l0.length c0, .int .i64 a1] w fun e w' => ∃ v0_ : Value, e = .returned (v0_) ∧ Kd.R (Kd.int .i64) 2 w' w.heap.size (fun _ => True) v0_ r ∧ Below w.heap.size w w' := by
 have HR0 := zm hr0
 have HC0 := zm hc0
 clear hr0 hc0
 have HB := zm (Below.refl w.heap.size w)
 have H : (psalteryref07_Shape.l0 k l0 a1 0 0) = some r := h
 clear h
 have H' := zm H
 clear H
 go_enter Try.func19, Try.ntmps19
 go_wp2
 go_loopg [5, 6] k (fun kq v5 v6 w' => ∃ (x5_1 : Int) (x6_1 : Int), v5 = .int .u64 x5_1 ∧ v6 = .int .i64 x6_1 ∧ Aside0 (psalteryref07_Shape.l0 kq l0 a1 x5_1 x6_1 = some r) ∧ Aside0 (kq ≤ k) ∧ Aside0 (Below w.heap.size w w'))
 case atStart => exact ⟨(0), (0), (by first | rfl | (simp; done) | (simp [*]; done)), (by first | rfl | (simp; done) | (simp [*]; done)), H', ⟨Nat.le_refl _⟩, ⟨by repeat (first | (with_reducible first | exact HB.out | apply ze | apply zd | apply zf) | exact HB.out)⟩⟩
 case round =>
  clear H'
  try clear c1
  try clear p2
  obtain ⟨x5_1, x6_1, rfl, rfl, HA, HK1, HB⟩ := hrel
  cases gk with
  | zero => exact absurd HA.out (by simp [psalteryref07_Shape.l0])
  | succ k1 =>
   have H := HA.out
   clear HA
   simp only [psalteryref07_Shape.l0] at H
   by_cases c3 : x6_1 < (l0.length : Int)
   ·
    rw [if_pos c3] at H
    have c3b0 : decide (x6_1 < (l0.length : Int)) = true := decide_eq_true c3
    clear c3
    by_cases c4 : 0 ≤ x6_1
    ·
     rw [if_pos c4] at H
     have c4b0 : decide (0 ≤ x6_1) = true := decide_eq_true c4
     clear c4
     replace H := Option.bind_eq_some_iff.mp H
     obtain ⟨t261, A50, H⟩ := H
     replace H : (psalteryref07_Shape.l0 k1 l0 a1 (IntKind.u64.wrap (x5_1 + (IntKind.u64.wrap ((IntKind.u64.wrap (t261)) * (IntKind.u64.wrap (t261)))))) (wrap64 (x6_1 + 1))) = some r := H
     have A5 := zm A50
     clear A50
     have H' := zm H
     clear H
     have p260 : 0 ≤ (x6_1 : Int) := of_decide_eq_true (by first | (with_reducible assumption) | assumption)
     have q260 : x6_1 < (l0.length : Int) := of_decide_eq_true (by first | (with_reducible assumption) | assumption)
     obtain ⟨ad260, e260, hx260_0⟩ := Kd.at_int HR0.out x6_1 p260 q260
     cases e260
     replace hx260_0 := (HB.out.cell (zb w _ hx260_0)).trans hx260_0
     replace p260 := eq_true p260
     replace q260 := eq_true q260
     go_wp2_with (first | ((with_reducible refine gate_callee (f := 31) rfl ?_); refine goesL_ (some 21) rfl rfl Try.func31 (by kernel_rfl) rfl #[.int .i64 (rd l0 x6_1)] rfl (by (try simp only [List.map_toArray, List.map_cons, List.map_nil]); first | done | rfl | (simp only [List.length_drop, List.length_take]; rfl)) ?_; (with_reducible refine (psalteryref06_Size.calls k1 (rd l0 x6_1) t261 _ A5.out).mono ?_); rintro e w' ⟨rfl, ⟨nd, rfl⟩⟩; refine ⟨_, rfl, ?_⟩))
     go_roundg k1
     case measure => have := HK1.out; omega
     case rel => exact ⟨(IntKind.u64.wrap (x5_1 + (IntKind.u64.wrap ((IntKind.u64.wrap (t261)) * (IntKind.u64.wrap (t261)))))), (wrap64 (x6_1 + 1)), (by first | rfl | (simp; done) | (simp [*]; done)), (by first | rfl | (simp; done) | (simp [*]; done)), H', ⟨by have := HK1.out; omega⟩, ⟨by repeat (first | (with_reducible first | exact HB.out | apply ze | apply zd | apply zf) | exact HB.out)⟩⟩
    ·
     rw [if_neg c4] at H
     exact absurd H (by simp)
   ·
    rw [if_neg c3] at H
    have c3b0 : decide (x6_1 < (l0.length : Int)) = false := decide_eq_false c3
    clear c3
    have H' := zm H
    clear H
    go_wp2
    go_loopg [8, 9] k1 (fun kq v8 v9 w' => ∃ (x8_2 : List Int) (x9_2 : Int), v9 = .int .i64 x9_2 ∧ Aside0 (psalteryref07_Shape.l1 kq l0 a1 x5_1 x8_2 x9_2 = some r) ∧ Aside0 (kq ≤ k1) ∧ Aside0 (Kd.R (Kd.int .i64) 2 w' w.heap.size (fun _ => True) v8 x8_2) ∧ Aside0 (Below w.heap.size w w'))
    case atStart => exact ⟨(([] : List Int)), (0), (by first | rfl | (simp; done) | (simp [*]; done)), H', ⟨Nat.le_refl _⟩, ⟨by first | exact Kd.R_nil _ _ _ _ _ | exact Kd.N_nil _ _ _ _ _ | exact Kd.V_nil _ _ _ _ _ | exact Kd.Q_nil _ _ _ _ _ | exact Kd.S_nil _ _ _ _ _⟩, ⟨by repeat (first | (with_reducible first | exact HB.out | apply ze | apply zd | apply zf) | exact HB.out)⟩⟩
    case round =>
     clear H'
     try clear c1
     try clear p2
     try clear q2
     try clear hx2
     try clear c3
     try clear c3b0
     try clear c4
     try clear c4b0
     try clear hx260_0
     try clear p2
     try clear p260
     try clear q260
     obtain ⟨x8_2, x9_2, rfl, HA, HK2, HO_8, HB⟩ := hrel
     cases gk with
     | zero => exact absurd HA.out (by simp [psalteryref07_Shape.l1])
     | succ k2 =>
      have H := HA.out
      clear HA
      simp only [psalteryref07_Shape.l1] at H
      by_cases c6 : x9_2 < (l0.length : Int)
      ·
       rw [if_pos c6] at H
       have c6b0 : decide (x9_2 < (l0.length : Int)) = true := decide_eq_true c6
       clear c6
       by_cases c7 : x5_1 > 0
       ·
        rw [if_pos c7] at H
        have c7b0 : decide (0 < x5_1) = true := decide_eq_true c7
        clear c7
        by_cases c8 : 0 ≤ x9_2
        ·
         rw [if_pos c8] at H
         have c8b0 : decide (0 ≤ x9_2) = true := decide_eq_true c8
         clear c8
         replace H := Option.bind_eq_some_iff.mp H
         obtain ⟨t263, A90, H⟩ := H
         replace H : ((psalteryref03_Sqrt.f k2 (IntKind.u64.wrap (x5_1 * 65536))).bind fun t264 => ((psalteryref03_Div.f k2 (wrap64 ((wrap64 (t263 * a1)) * 256)) (wrap64 (t264))).bind fun t265 => (if (rd l0 x9_2) < 0 then (if x8_2.length < 17592186044416 then (psalteryref07_Shape.l1 k2 l0 a1 x5_1 (x8_2 ++ [wrap64 (-t265)]) (wrap64 (x9_2 + 1))) else (none)) else (if x8_2.length < 17592186044416 then (psalteryref07_Shape.l1 k2 l0 a1 x5_1 (x8_2 ++ [t265]) (wrap64 (x9_2 + 1))) else (none))))) = some r := H
         have A9 := zm A90
         clear A90
         replace H := Option.bind_eq_some_iff.mp H
         obtain ⟨t264, A100, H⟩ := H
         replace H : ((psalteryref03_Div.f k2 (wrap64 ((wrap64 (t263 * a1)) * 256)) (wrap64 (t264))).bind fun t265 => (if (rd l0 x9_2) < 0 then (if x8_2.length < 17592186044416 then (psalteryref07_Shape.l1 k2 l0 a1 x5_1 (x8_2 ++ [wrap64 (-t265)]) (wrap64 (x9_2 + 1))) else (none)) else (if x8_2.length < 17592186044416 then (psalteryref07_Shape.l1 k2 l0 a1 x5_1 (x8_2 ++ [t265]) (wrap64 (x9_2 + 1))) else (none)))) = some r := H
         have A10 := zm A100
         clear A100
         replace H := Option.bind_eq_some_iff.mp H
         obtain ⟨t265, A110, H⟩ := H
         replace H : (if (rd l0 x9_2) < 0 then (if x8_2.length < 17592186044416 then (psalteryref07_Shape.l1 k2 l0 a1 x5_1 (x8_2 ++ [wrap64 (-t265)]) (wrap64 (x9_2 + 1))) else (none)) else (if x8_2.length < 17592186044416 then (psalteryref07_Shape.l1 k2 l0 a1 x5_1 (x8_2 ++ [t265]) (wrap64 (x9_2 + 1))) else (none))) = some r := H
         have A11 := zm A110
         clear A110
         by_cases c12 : (rd l0 x9_2) < 0
         ·
          rw [if_pos c12] at H
          have c12b0 : decide ((rd l0 x9_2) < 0) = true := decide_eq_true c12
          clear c12
          by_cases c13 : x8_2.length < 17592186044416
          ·
           rw [if_pos c13] at H
           have LMc13 := zm c13
           clear c13
           obtain ⟨y267, hy267⟩ : ∃ y_ : List Int, y_ = (x8_2 ++ [wrap64 (-t265)]) := ⟨_, rfl⟩
           replace H : (psalteryref07_Shape.l1 k2 l0 a1 x5_1 y267 (wrap64 (x9_2 + 1))) = some r := by first | (rw [hy267]; with_reducible exact H) | (have H2_ := (Option.bind_some _ _).symm.trans H; rw [hy267]; with_reducible exact H2_) | (have H2_ := (Option.bind_some _ _).symm.trans H; with_reducible exact H2_) | with_reducible exact H | (rw [hy267]; exact H) | exact H
           have Ny267 := zm hy267
           clear hy267
           have H' := zm H
           clear H
           have p262 : 0 ≤ (x9_2 : Int) := of_decide_eq_true (by first | (with_reducible assumption) | assumption)
           have q262 : x9_2 < (l0.length : Int) := of_decide_eq_true (by first | (with_reducible assumption) | assumption)
           obtain ⟨ad262, e262, hx262_0⟩ := Kd.at_int HR0.out x9_2 p262 q262
           cases e262
           replace hx262_0 := (HB.out.cell (zb w _ hx262_0)).trans hx262_0
           replace p262 := eq_true p262
           replace q262 := eq_true q262
           go_wp2_with (first | ((with_reducible refine gate_callee (f := 31) rfl ?_); refine goesL_ (some 40) rfl rfl Try.func31 (by kernel_rfl) rfl #[.int .i64 (rd l0 x9_2)] rfl (by (try simp only [List.map_toArray, List.map_cons, List.map_nil]); first | done | rfl | (simp only [List.length_drop, List.length_take]; rfl)) ?_; (with_reducible refine (psalteryref06_Size.calls k2 (rd l0 x9_2) t263 _ A9.out).mono ?_); rintro e w' ⟨rfl, ⟨nd, rfl⟩⟩; refine ⟨_, rfl, ?_⟩) | ((with_reducible refine gate_callee (f := 20) rfl ?_); refine goesL_ (some 46) rfl rfl Try.func20 (by kernel_rfl) rfl #[.int .u64 (IntKind.u64.wrap (x5_1 * 65536))] rfl (by (try simp only [List.map_toArray, List.map_cons, List.map_nil]); first | done | rfl | (simp only [List.length_drop, List.length_take]; rfl)) ?_; (with_reducible refine (psalteryref03_Sqrt.calls k2 (IntKind.u64.wrap (x5_1 * 65536)) t264 _ A10.out).mono ?_); rintro e w' ⟨rfl, ⟨nd, rfl⟩⟩; refine ⟨_, rfl, ?_⟩) | ((with_reducible refine gate_callee (f := 32) rfl ?_); refine goesL_ (some 48) rfl rfl Try.func32 (by kernel_rfl) rfl #[.int .i64 (wrap64 ((wrap64 (t263 * a1)) * 256)), .int .i64 (wrap64 (t264))] rfl (by (try simp only [List.map_toArray, List.map_cons, List.map_nil]); first | done | rfl | (simp only [List.length_drop, List.length_take]; rfl)) ?_; (with_reducible refine (psalteryref03_Div.calls k2 (wrap64 ((wrap64 (t263 * a1)) * 256)) (wrap64 (t264)) t265 _ A11.out).mono ?_); rintro e w' ⟨rfl, ⟨nd, rfl⟩⟩; refine ⟨_, rfl, ?_⟩; have p266 : 0 ≤ (x9_2 : Int) := of_decide_eq_true (by first | (with_reducible assumption) | assumption); have q266 : x9_2 < (l0.length : Int) := of_decide_eq_true (by first | (with_reducible assumption) | assumption); obtain ⟨ad266, e266, hx266_0⟩ := Kd.at_int HR0.out x9_2 p266 q266; obtain rfl : ad262 = ad266 := (by injection e266); replace hx266_0 := (HB.out.cell (zb w _ hx266_0)).trans hx266_0; replace p266 := eq_true p266; replace q266 := eq_true q266) | ((with_reducible refine gate_builtin (b := .append) (xs := #[.tmp 56, .tmp 58]) rfl ?_); at_builtin; refine Kd.R_append (Kd.int .i64) (w0 := w) w.heap.size rfl (.tmp 56) (.tmp 58) 22 2 (.int .i64 0) 8 rfl Try.underlying22 info2 rfl (by decide) (by omega) u8 x8_2 (wrap64 (-t265)) [.int .i64 (wrap64 (-t265))] (fun _ => True) (fun _ => False) rfl rfl ?aP (fun _ hk => hk.elim) ?aF ?aO ?aB ?aS ?aL ?_; (case aP => exact rfl); (case aB => exact (by repeat (first | (with_reducible first | exact HB.out | apply ze | apply zd | apply zf) | exact HB.out))); (case aF => exact (fun _ _ => trivial)); (case aO => exact (by (with_reducible repeat (first | apply zo | apply zp | apply zq)); exact HO_8.out)); (case aS => exact (zE (by repeat (first | (with_reducible first | exact HB.out | apply ze | apply zd | apply zf) | exact HB.out)))); (case aL => have := LMc13.out; omega); intro v268 w14 ho hb hg hat; rw [← Ny267.out] at ho; have n0_ := zm (hb); have n1_ := zm (ho); clear HB; clear HO_8; have HB := n0_; have HO269 := n1_; clear n0_ n1_; clear ho hb hg hat))
           go_roundg k2
           case measure => have := HK1.out; have := HK2.out; omega
           case rel => exact ⟨(y267), (wrap64 (x9_2 + 1)), (by first | rfl | (simp; done) | (simp [*]; done)), H', ⟨by have := HK1.out; have := HK2.out; omega⟩, ⟨by (with_reducible repeat (first | apply zo | apply zp | apply zq)); exact HO269.out⟩, ⟨by repeat (first | (with_reducible first | exact HB.out | apply ze | apply zd | apply zf) | exact HB.out)⟩⟩
          ·
           rw [if_neg c13] at H
           exact absurd H (by simp)
         ·
          rw [if_neg c12] at H
          have c12b0 : decide ((rd l0 x9_2) < 0) = false := decide_eq_false c12
          clear c12
          by_cases c15 : x8_2.length < 17592186044416
          ·
           rw [if_pos c15] at H
           have LMc15 := zm c15
           clear c15
           obtain ⟨y270, hy270⟩ : ∃ y_ : List Int, y_ = (x8_2 ++ [t265]) := ⟨_, rfl⟩
           replace H : (psalteryref07_Shape.l1 k2 l0 a1 x5_1 y270 (wrap64 (x9_2 + 1))) = some r := by first | (rw [hy270]; with_reducible exact H) | (have H2_ := (Option.bind_some _ _).symm.trans H; rw [hy270]; with_reducible exact H2_) | (have H2_ := (Option.bind_some _ _).symm.trans H; with_reducible exact H2_) | with_reducible exact H | (rw [hy270]; exact H) | exact H
           have Ny270 := zm hy270
           clear hy270
           have H' := zm H
           clear H
           have p262 : 0 ≤ (x9_2 : Int) := of_decide_eq_true (by first | (with_reducible assumption) | assumption)
           have q262 : x9_2 < (l0.length : Int) := of_decide_eq_true (by first | (with_reducible assumption) | assumption)
           obtain ⟨ad262, e262, hx262_0⟩ := Kd.at_int HR0.out x9_2 p262 q262
           cases e262
           replace hx262_0 := (HB.out.cell (zb w _ hx262_0)).trans hx262_0
           replace p262 := eq_true p262
           replace q262 := eq_true q262
           go_wp2_with (first | ((with_reducible refine gate_callee (f := 31) rfl ?_); refine goesL_ (some 40) rfl rfl Try.func31 (by kernel_rfl) rfl #[.int .i64 (rd l0 x9_2)] rfl (by (try simp only [List.map_toArray, List.map_cons, List.map_nil]); first | done | rfl | (simp only [List.length_drop, List.length_take]; rfl)) ?_; (with_reducible refine (psalteryref06_Size.calls k2 (rd l0 x9_2) t263 _ A9.out).mono ?_); rintro e w' ⟨rfl, ⟨nd, rfl⟩⟩; refine ⟨_, rfl, ?_⟩) | ((with_reducible refine gate_callee (f := 20) rfl ?_); refine goesL_ (some 46) rfl rfl Try.func20 (by kernel_rfl) rfl #[.int .u64 (IntKind.u64.wrap (x5_1 * 65536))] rfl (by (try simp only [List.map_toArray, List.map_cons, List.map_nil]); first | done | rfl | (simp only [List.length_drop, List.length_take]; rfl)) ?_; (with_reducible refine (psalteryref03_Sqrt.calls k2 (IntKind.u64.wrap (x5_1 * 65536)) t264 _ A10.out).mono ?_); rintro e w' ⟨rfl, ⟨nd, rfl⟩⟩; refine ⟨_, rfl, ?_⟩) | ((with_reducible refine gate_callee (f := 32) rfl ?_); refine goesL_ (some 48) rfl rfl Try.func32 (by kernel_rfl) rfl #[.int .i64 (wrap64 ((wrap64 (t263 * a1)) * 256)), .int .i64 (wrap64 (t264))] rfl (by (try simp only [List.map_toArray, List.map_cons, List.map_nil]); first | done | rfl | (simp only [List.length_drop, List.length_take]; rfl)) ?_; (with_reducible refine (psalteryref03_Div.calls k2 (wrap64 ((wrap64 (t263 * a1)) * 256)) (wrap64 (t264)) t265 _ A11.out).mono ?_); rintro e w' ⟨rfl, ⟨nd, rfl⟩⟩; refine ⟨_, rfl, ?_⟩; have p266 : 0 ≤ (x9_2 : Int) := of_decide_eq_true (by first | (with_reducible assumption) | assumption); have q266 : x9_2 < (l0.length : Int) := of_decide_eq_true (by first | (with_reducible assumption) | assumption); obtain ⟨ad266, e266, hx266_0⟩ := Kd.at_int HR0.out x9_2 p266 q266; obtain rfl : ad262 = ad266 := (by injection e266); replace hx266_0 := (HB.out.cell (zb w _ hx266_0)).trans hx266_0; replace p266 := eq_true p266; replace q266 := eq_true q266) | ((with_reducible refine gate_builtin (b := .append) (xs := #[.tmp 56, .tmp 58]) rfl ?_); at_builtin; refine Kd.R_append (Kd.int .i64) (w0 := w) w.heap.size rfl (.tmp 56) (.tmp 58) 22 2 (.int .i64 0) 8 rfl Try.underlying22 info2 rfl (by decide) (by omega) u8 x8_2 t265 [.int .i64 t265] (fun _ => True) (fun _ => False) rfl rfl ?aP (fun _ hk => hk.elim) ?aF ?aO ?aB ?aS ?aL ?_; (case aP => exact rfl); (case aB => exact (by repeat (first | (with_reducible first | exact HB.out | apply ze | apply zd | apply zf) | exact HB.out))); (case aF => exact (fun _ _ => trivial)); (case aO => exact (by (with_reducible repeat (first | apply zo | apply zp | apply zq)); exact HO_8.out)); (case aS => exact (zE (by repeat (first | (with_reducible first | exact HB.out | apply ze | apply zd | apply zf) | exact HB.out)))); (case aL => have := LMc15.out; omega); intro v271 w16 ho hb hg hat; rw [← Ny270.out] at ho; have n0_ := zm (hb); have n1_ := zm (ho); clear HB; clear HO_8; have HB := n0_; have HO272 := n1_; clear n0_ n1_; clear ho hb hg hat))
           go_roundg k2
           case measure => have := HK1.out; have := HK2.out; omega
           case rel => exact ⟨(y270), (wrap64 (x9_2 + 1)), (by first | rfl | (simp; done) | (simp [*]; done)), H', ⟨by have := HK1.out; have := HK2.out; omega⟩, ⟨by (with_reducible repeat (first | apply zo | apply zp | apply zq)); exact HO272.out⟩, ⟨by repeat (first | (with_reducible first | exact HB.out | apply ze | apply zd | apply zf) | exact HB.out)⟩⟩
          ·
           rw [if_neg c15] at H
           exact absurd H (by simp)
        ·
         rw [if_neg c8] at H
         exact absurd H (by simp)
       ·
        rw [if_neg c7] at H
        have c7b0 : decide (0 < x5_1) = false := decide_eq_false c7
        clear c7
        by_cases c17 : 0 ≤ x9_2
        ·
         rw [if_pos c17] at H
         have c17b0 : decide (0 ≤ x9_2) = true := decide_eq_true c17
         clear c17
         by_cases c18 : (rd l0 x9_2) < 0
         ·
          rw [if_pos c18] at H
          have c18b0 : decide ((rd l0 x9_2) < 0) = true := decide_eq_true c18
          clear c18
          by_cases c19 : x8_2.length < 17592186044416
          ·
           rw [if_pos c19] at H
           have LMc19 := zm c19
           clear c19
           obtain ⟨y274, hy274⟩ : ∃ y_ : List Int, y_ = (x8_2 ++ [0]) := ⟨_, rfl⟩
           replace H : (psalteryref07_Shape.l1 k2 l0 a1 x5_1 y274 (wrap64 (x9_2 + 1))) = some r := by first | (rw [hy274]; with_reducible exact H) | (have H2_ := (Option.bind_some _ _).symm.trans H; rw [hy274]; with_reducible exact H2_) | (have H2_ := (Option.bind_some _ _).symm.trans H; with_reducible exact H2_) | with_reducible exact H | (rw [hy274]; exact H) | exact H
           have Ny274 := zm hy274
           clear hy274
           have H' := zm H
           clear H
           have p273 : 0 ≤ (x9_2 : Int) := of_decide_eq_true (by first | (with_reducible assumption) | assumption)
           have q273 : x9_2 < (l0.length : Int) := of_decide_eq_true (by first | (with_reducible assumption) | assumption)
           obtain ⟨ad273, e273, hx273_0⟩ := Kd.at_int HR0.out x9_2 p273 q273
           cases e273
           replace hx273_0 := (HB.out.cell (zb w _ hx273_0)).trans hx273_0
           replace p273 := eq_true p273
           replace q273 := eq_true q273
           go_wp2_with (first | ((with_reducible refine gate_builtin (b := .append) (xs := #[.tmp 56, .tmp 58]) rfl ?_); at_builtin; refine Kd.R_append (Kd.int .i64) (w0 := w) w.heap.size rfl (.tmp 56) (.tmp 58) 22 2 (.int .i64 0) 8 rfl Try.underlying22 info2 rfl (by decide) (by omega) u8 x8_2 0 [.int .i64 0] (fun _ => True) (fun _ => False) rfl rfl ?aP (fun _ hk => hk.elim) ?aF ?aO ?aB ?aS ?aL ?_; (case aP => exact rfl); (case aB => exact (by repeat (first | (with_reducible first | exact HB.out | apply ze | apply zd | apply zf) | exact HB.out))); (case aF => exact (fun _ _ => trivial)); (case aO => exact (by (with_reducible repeat (first | apply zo | apply zp | apply zq)); exact HO_8.out)); (case aS => exact (zE (by repeat (first | (with_reducible first | exact HB.out | apply ze | apply zd | apply zf) | exact HB.out)))); (case aL => have := LMc19.out; omega); intro v275 w20 ho hb hg hat; rw [← Ny274.out] at ho; have n0_ := zm (hb); have n1_ := zm (ho); clear HB; clear HO_8; have HB := n0_; have HO276 := n1_; clear n0_ n1_; clear ho hb hg hat))
           go_roundg k2
           case measure => have := HK1.out; have := HK2.out; omega
           case rel => exact ⟨(y274), (wrap64 (x9_2 + 1)), (by first | rfl | (simp; done) | (simp [*]; done)), H', ⟨by have := HK1.out; have := HK2.out; omega⟩, ⟨by (with_reducible repeat (first | apply zo | apply zp | apply zq)); exact HO276.out⟩, ⟨by repeat (first | (with_reducible first | exact HB.out | apply ze | apply zd | apply zf) | exact HB.out)⟩⟩
          ·
           rw [if_neg c19] at H
           exact absurd H (by simp)
         ·
          rw [if_neg c18] at H
          have c18b0 : decide ((rd l0 x9_2) < 0) = false := decide_eq_false c18
          clear c18
          by_cases c21 : x8_2.length < 17592186044416
          ·
           rw [if_pos c21] at H
           have LMc21 := zm c21
           clear c21
           obtain ⟨y277, hy277⟩ : ∃ y_ : List Int, y_ = (x8_2 ++ [0]) := ⟨_, rfl⟩
           replace H : (psalteryref07_Shape.l1 k2 l0 a1 x5_1 y277 (wrap64 (x9_2 + 1))) = some r := by first | (rw [hy277]; with_reducible exact H) | (have H2_ := (Option.bind_some _ _).symm.trans H; rw [hy277]; with_reducible exact H2_) | (have H2_ := (Option.bind_some _ _).symm.trans H; with_reducible exact H2_) | with_reducible exact H | (rw [hy277]; exact H) | exact H
           have Ny277 := zm hy277
           clear hy277
           have H' := zm H
           clear H
           have p273 : 0 ≤ (x9_2 : Int) := of_decide_eq_true (by first | (with_reducible assumption) | assumption)
           have q273 : x9_2 < (l0.length : Int) := of_decide_eq_true (by first | (with_reducible assumption) | assumption)
           obtain ⟨ad273, e273, hx273_0⟩ := Kd.at_int HR0.out x9_2 p273 q273
           cases e273
           replace hx273_0 := (HB.out.cell (zb w _ hx273_0)).trans hx273_0
           replace p273 := eq_true p273
           replace q273 := eq_true q273
           go_wp2_with (first | ((with_reducible refine gate_builtin (b := .append) (xs := #[.tmp 56, .tmp 58]) rfl ?_); at_builtin; refine Kd.R_append (Kd.int .i64) (w0 := w) w.heap.size rfl (.tmp 56) (.tmp 58) 22 2 (.int .i64 0) 8 rfl Try.underlying22 info2 rfl (by decide) (by omega) u8 x8_2 0 [.int .i64 0] (fun _ => True) (fun _ => False) rfl rfl ?aP (fun _ hk => hk.elim) ?aF ?aO ?aB ?aS ?aL ?_; (case aP => exact rfl); (case aB => exact (by repeat (first | (with_reducible first | exact HB.out | apply ze | apply zd | apply zf) | exact HB.out))); (case aF => exact (fun _ _ => trivial)); (case aO => exact (by (with_reducible repeat (first | apply zo | apply zp | apply zq)); exact HO_8.out)); (case aS => exact (zE (by repeat (first | (with_reducible first | exact HB.out | apply ze | apply zd | apply zf) | exact HB.out)))); (case aL => have := LMc21.out; omega); intro v278 w22 ho hb hg hat; rw [← Ny277.out] at ho; have n0_ := zm (hb); have n1_ := zm (ho); clear HB; clear HO_8; have HB := n0_; have HO279 := n1_; clear n0_ n1_; clear ho hb hg hat))
           go_roundg k2
           case measure => have := HK1.out; have := HK2.out; omega
           case rel => exact ⟨(y277), (wrap64 (x9_2 + 1)), (by first | rfl | (simp; done) | (simp [*]; done)), H', ⟨by have := HK1.out; have := HK2.out; omega⟩, ⟨by (with_reducible repeat (first | apply zo | apply zp | apply zq)); exact HO279.out⟩, ⟨by repeat (first | (with_reducible first | exact HB.out | apply ze | apply zd | apply zf) | exact HB.out)⟩⟩
          ·
           rw [if_neg c21] at H
           exact absurd H (by simp)
        ·
         rw [if_neg c17] at H
         exact absurd H (by simp)
      ·
       rw [if_neg c6] at H
       have c6b0 : decide (x9_2 < (l0.length : Int)) = false := decide_eq_false c6
       clear c6
       obtain rfl := Option.some.inj H
       go_wp2
       go_ret
       exact ⟨_, by first | rfl | (simp [errW_none, errW_some] <;> rfl) | (simp [*, errW_none, errW_some] <;> rfl), by (with_reducible repeat (first | apply zo | apply zp | apply zq)); exact HO_8.out, by repeat (first | (with_reducible first | exact HB.out | apply ze | apply zd | apply zf) | exact HB.out)⟩

end Go.Proofs.Ytllgjhenbchkfaa.Prt
