-- Functions of the program and of the document as plain Lean, each with the proof that the code comes to it. Written by a program of this session (wip/tools/myprint.py, pack.py) over the kit's printer; Lean checks it.
import Derived.Test.YtllgjhenbchkfaaZPvqSignsPrt0
import Derived.Test.YtllgjhenbchkfaaZPvqSignsM1
namespace Go.Proofs.Ytllgjhenbchkfaa.Prt
open Go.RowKit Go.Proofs.YtllgjhenbchkfaaW.PrintWords Go.Proofs.YtllgjhenbchkfaaW.PrintLast Go.Proofs.YtllgjhenbchkfaaW.PrintMore
attribute [local go_sem] max2_int min2_int max_two min_two max_three min_three max_four min_four   -- for this text's walks alone
set_option linter.unusedVariables false
set_option linter.unusedSimpArgs false

/-! ### num_Sqrt: function 29 -/
def num_Sqrt.l0 : Nat → Int → Int → Int → Option (Int)
 | 0, _, _, _ => none
 | k + 1, x0, x3, x4 => if x4 > 0 then (if (Go.bits .or .u64 x3 x4) = 0 then (none) else (if (Go.bits .or .u64 x3 x4) ≤ (IntKind.u64.wrap (Int.tdiv x0 (Go.bits .or .u64 x3 x4))) then (num_Sqrt.l0 k x0 (Go.bits .or .u64 x3 x4) (x4 / 2)) else (num_Sqrt.l0 k x0 x3 (x4 / 2)))) else (some x3)
def num_Sqrt.f (k : Nat) (a0 : Int) : Option (Int) := num_Sqrt.l0 k a0 0 2147483648
theorem num_Sqrt.mono_l : ∀ k, (∀ y0 y1 y2, LeO (num_Sqrt.l0 k y0 y1 y2) (num_Sqrt.l0 (k + 1) y0 y1 y2))
 | 0 => fun _ _ _ r h => by simp [num_Sqrt.l0] at h
 | k + 1 => by
  have ih0 := num_Sqrt.mono_l k
  ·
   intro y0 y1 y2
   unfold num_Sqrt.l0
   repeat' first
   | (with_reducible exact ih0 _ _ _)
   | (with_reducible exact LeO.refl _)
   | (with_reducible exact LeO.none _)
   | (with_reducible refine LeO.ite ?_ ?_)
   | (with_reducible refine LeO.bind ?_ (fun _ => ?_))
   | exact ih0 _ _ _
   | exact LeO.none _
   | refine LeO.ite ?_ ?_
   | refine LeO.bind ?_ (fun _ => ?_)
theorem num_Sqrt.mono : ∀ a0 k, LeO (num_Sqrt.f k a0) (num_Sqrt.f (k + 1) a0) := by
 intro a0 k
 have ih0 := num_Sqrt.mono_l k
 unfold num_Sqrt.f
 repeat' first
   | (with_reducible exact ih0 _ _ _)
   | (with_reducible exact LeO.refl _)
   | (with_reducible exact LeO.none _)
   | (with_reducible refine LeO.ite ?_ ?_)
   | (with_reducible refine LeO.bind ?_ (fun _ => ?_))
   | exact ih0 _ _ _
   | exact LeO.none _
   | refine LeO.ite ?_ ?_
   | refine LeO.bind ?_ (fun _ => ?_)
set_option maxHeartbeats 8000000 in
set_option maxRecDepth 100000 in
theorem num_Sqrt.calls (k : Nat) (a0 : Int) (r : Int) (w : World) (h : num_Sqrt.f k a0 = some r) :
  Calls Try.prog 29 #[.int .u64 a0] w fun e w' => e = .returned (.int .u64 r) ∧ Drawn0 w w' := by
 have H : (num_Sqrt.l0 k a0 0 2147483648) = some r := h
 clear h
 have H' := zm H
 clear H
 go_enter Try.func29, Try.ntmps29
 go_wp2
 go_loopg [3, 4] k (fun kq v3 v4 w' => ∃ (x3_1 : Int) (x4_1 : Int), v3 = .int .u64 x3_1 ∧ v4 = .int .u64 x4_1 ∧ Aside0 (num_Sqrt.l0 kq a0 x3_1 x4_1 = some r) ∧ Aside0 (kq ≤ k) ∧ Drawn0 w w')
 case atStart => exact ⟨(0), (2147483648), (by first | rfl | (simp; done) | (simp [*]; done)), (by first | rfl | (simp; done) | (simp [*]; done)), H', ⟨Nat.le_refl _⟩, by repeat (first | exact Drawn0.refl _ | apply Drawn0.step)⟩
 case round =>
  clear H'
  obtain ⟨x3_1, x4_1, rfl, rfl, HA, HK1, ⟨m1, rfl⟩⟩ := hrel
  cases gk with
  | zero => exact absurd HA.out (by simp [num_Sqrt.l0])
  | succ k1 =>
   have H := HA.out
   clear HA
   simp only [num_Sqrt.l0] at H
   by_cases c2 : x4_1 > 0
   ·
    rw [if_pos c2] at H
    have c2b0 : decide (0 < x4_1) = true := decide_eq_true c2
    clear c2
    by_cases c3 : (Go.bits .or .u64 x3_1 x4_1) = 0
    ·
     rw [if_pos c3] at H
     exact absurd H (by simp)
    ·
     rw [if_neg c3] at H
     have c3b0 : ((Go.bits .or .u64 x3_1 x4_1) == 0) = false := beq_eq_false_iff_ne.mpr c3
     have c3b1 : ((Go.bits .or .u64 x3_1 x4_1) != 0) = true := bne_iff_ne.mpr c3
     by_cases c4 : (Go.bits .or .u64 x3_1 x4_1) ≤ (IntKind.u64.wrap (Int.tdiv a0 (Go.bits .or .u64 x3_1 x4_1)))
     ·
      rw [if_pos c4] at H
      have c4b0 : decide ((Go.bits .or .u64 x3_1 x4_1) ≤ (IntKind.u64.wrap (Int.tdiv a0 (Go.bits .or .u64 x3_1 x4_1)))) = true := decide_eq_true c4
      clear c4
      have H' := zm H
      clear H
      go_wp2
      go_roundg k1
      case measure => have := HK1.out; omega
      case rel => exact ⟨(Go.bits .or .u64 x3_1 x4_1), (x4_1 / 2), (by first | rfl | (simp; done) | (simp [*]; done)), (by first | rfl | (simp; done) | (simp [*]; done)), H', ⟨by have := HK1.out; omega⟩, by repeat (first | exact Drawn0.refl _ | apply Drawn0.step)⟩
     ·
      rw [if_neg c4] at H
      have c4b0 : decide ((Go.bits .or .u64 x3_1 x4_1) ≤ (IntKind.u64.wrap (Int.tdiv a0 (Go.bits .or .u64 x3_1 x4_1)))) = false := decide_eq_false c4
      clear c4
      have H' := zm H
      clear H
      go_wp2
      go_roundg k1
      case measure => have := HK1.out; omega
      case rel => exact ⟨(x3_1), (x4_1 / 2), (by first | rfl | (simp; done) | (simp [*]; done)), (by first | rfl | (simp; done) | (simp [*]; done)), H', ⟨by have := HK1.out; omega⟩, by repeat (first | exact Drawn0.refl _ | apply Drawn0.step)⟩
   ·
    rw [if_neg c2] at H
    have c2b0 : decide (0 < x4_1) = false := decide_eq_false c2
    clear c2
    obtain rfl := Option.some.inj H
    go_wp2
    go_ret
    exact ⟨by first | rfl | (simp; done) | (simp [*]; done), by repeat (first | exact Drawn0.refl _ | apply Drawn0.step)⟩

end Go.Proofs.Ytllgjhenbchkfaa.Prt

namespace Go.Proofs.Ytllgjhenbchkfaa.Prt
open Go.RowKit Go.Proofs.YtllgjhenbchkfaaW.PrintWords Go.Proofs.YtllgjhenbchkfaaW.PrintLast Go.Proofs.YtllgjhenbchkfaaW.PrintMore
attribute [local go_sem] max2_int min2_int max_two min_two max_three min_three max_four min_four   -- for this text's walks alone
set_option linter.unusedVariables false
set_option linter.unusedSimpArgs false

/-! ### pvq_Shape: function 16 -/
mutual
def pvq_Shape.j0 : Nat → List Int → Int → Bool → Option (List Int × Int)
 | 0, _, _, _ => none
 | k + 1, x0, x1, x29 => if x29 = true then (some (([] : List Int), 1)) else (pvq_Shape.l0 k x0 x1 0 x0 (x0.length : Int) 0)
def pvq_Shape.l0 : Nat → List Int → Int → Int → List Int → Int → Int → Option (List Int × Int)
 | 0, _, _, _, _, _, _ => none
 | k + 1, x0, x1, x8, x30, x31, x32 => if x32 < x31 then (if 0 ≤ x32 then (if x32 < (x30.length : Int) then (pvq_Shape.l0 k x0 x1 (IntKind.u64.wrap (x8 + (IntKind.u64.wrap (wrap64 ((rd x30 x32) * (rd x30 x32)))))) x30 x31 (wrap64 (x32 + 1))) else (none)) else (none)) else (if 0 ≤ (x0.length : Int) then (if ((x0.length : Int) : Int).toNat ≤ 35184372088832 then ((some (List.replicate ((x0.length : Int) : Int).toNat 0 : List Int)).bind fun y161 => (if x8 = 0 then (some (y161, 0)) else ((num_Sqrt.f k (IntKind.u64.wrap ((IntKind.u64.wrap (x8 * 256)) * 256))).bind fun t164 => (pvq_Shape.l1 k x1 y161 (wrap64 (t164)) x0 (x0.length : Int) 0)))) else (none)) else (none))
def pvq_Shape.l1 : Nat → Int → List Int → Int → List Int → Int → Int → Option (List Int × Int)
 | 0, _, _, _, _, _, _ => none
 | k + 1, x1, x11, x12, x54, x55, x56 => if x56 < x55 then (if 0 ≤ x56 then (if x56 < (x54.length : Int) then ((num_Div.f (wrap64 ((wrap64 ((rd x54 x56) * x1)) * 256)) x12).bind fun bt166 => (if x56 < (x11.length : Int) then (pvq_Shape.l1 k x1 (x11.set (x56 : Int).toNat bt166.1) x12 x54 x55 (wrap64 (x56 + 1))) else (none))) else (none)) else (none)) else (some (x11, 0))
end
def pvq_Shape.f (k : Nat) (l0 : List Int) (a1 : Int) : Option (List Int × Int) := (comb_Index.f k l0).bind fun bt158 => (if bt158.2 = 0 then (if a1 < 0 then (pvq_Shape.j0 k l0 a1 true) else (pvq_Shape.j0 k l0 a1 (decide (a1 > 4194304)))) else (pvq_Shape.j0 k l0 a1 true))
theorem pvq_Shape.mono_l : ∀ k, (∀ y0 y1 y2, LeO (pvq_Shape.j0 k y0 y1 y2) (pvq_Shape.j0 (k + 1) y0 y1 y2)) ∧ (∀ y0 y1 y2 y3 y4 y5, LeO (pvq_Shape.l0 k y0 y1 y2 y3 y4 y5) (pvq_Shape.l0 (k + 1) y0 y1 y2 y3 y4 y5)) ∧ (∀ y0 y1 y2 y3 y4 y5, LeO (pvq_Shape.l1 k y0 y1 y2 y3 y4 y5) (pvq_Shape.l1 (k + 1) y0 y1 y2 y3 y4 y5))
 | 0 => ⟨fun _ _ _ r h => by simp [pvq_Shape.j0] at h, fun _ _ _ _ _ _ r h => by simp [pvq_Shape.l0] at h, fun _ _ _ _ _ _ r h => by simp [pvq_Shape.l1] at h⟩
 | k + 1 => by
  obtain ⟨ih0, ih1, ih2⟩ := pvq_Shape.mono_l k
  refine ⟨?_, ?_, ?_⟩
  ·
   intro y0 y1 y2
   unfold pvq_Shape.j0
   repeat' first
   | (with_reducible exact ih0 _ _ _)
   | (with_reducible exact ih1 _ _ _ _ _ _)
   | (with_reducible exact ih2 _ _ _ _ _ _)
   | (with_reducible exact comb_Index.mono _ _)
   | (with_reducible exact num_Sqrt.mono _ _)
   | (with_reducible exact LeO.refl _)
   | (with_reducible exact LeO.none _)
   | (with_reducible refine LeO.ite ?_ ?_)
   | (with_reducible refine LeO.bind ?_ (fun _ => ?_))
   | exact ih0 _ _ _
   | exact ih1 _ _ _ _ _ _
   | exact ih2 _ _ _ _ _ _
   | exact comb_Index.mono _ _
   | exact num_Sqrt.mono _ _
   | exact LeO.none _
   | refine LeO.ite ?_ ?_
   | refine LeO.bind ?_ (fun _ => ?_)
  ·
   intro y0 y1 y2 y3 y4 y5
   unfold pvq_Shape.l0
   repeat' first
   | (with_reducible exact ih0 _ _ _)
   | (with_reducible exact ih1 _ _ _ _ _ _)
   | (with_reducible exact ih2 _ _ _ _ _ _)
   | (with_reducible exact comb_Index.mono _ _)
   | (with_reducible exact num_Sqrt.mono _ _)
   | (with_reducible exact LeO.refl _)
   | (with_reducible exact LeO.none _)
   | (with_reducible refine LeO.ite ?_ ?_)
   | (with_reducible refine LeO.bind ?_ (fun _ => ?_))
   | exact ih0 _ _ _
   | exact ih1 _ _ _ _ _ _
   | exact ih2 _ _ _ _ _ _
   | exact comb_Index.mono _ _
   | exact num_Sqrt.mono _ _
   | exact LeO.none _
   | refine LeO.ite ?_ ?_
   | refine LeO.bind ?_ (fun _ => ?_)
  ·
   intro y0 y1 y2 y3 y4 y5
   unfold pvq_Shape.l1
   repeat' first
   | (with_reducible exact ih0 _ _ _)
   | (with_reducible exact ih1 _ _ _ _ _ _)
   | (with_reducible exact ih2 _ _ _ _ _ _)
   | (with_reducible exact comb_Index.mono _ _)
   | (with_reducible exact num_Sqrt.mono _ _)
   | (with_reducible exact LeO.refl _)
   | (with_reducible exact LeO.none _)
   | (with_reducible refine LeO.ite ?_ ?_)
   | (with_reducible refine LeO.bind ?_ (fun _ => ?_))
   | exact ih0 _ _ _
   | exact ih1 _ _ _ _ _ _
   | exact ih2 _ _ _ _ _ _
   | exact comb_Index.mono _ _
   | exact num_Sqrt.mono _ _
   | exact LeO.none _
   | refine LeO.ite ?_ ?_
   | refine LeO.bind ?_ (fun _ => ?_)
theorem pvq_Shape.mono : ∀ a0 a1 k, LeO (pvq_Shape.f k a0 a1) (pvq_Shape.f (k + 1) a0 a1) := by
 intro a0 a1 k
 obtain ⟨ih0, ih1, ih2⟩ := pvq_Shape.mono_l k
 unfold pvq_Shape.f
 repeat' first
   | (with_reducible exact ih0 _ _ _)
   | (with_reducible exact ih1 _ _ _ _ _ _)
   | (with_reducible exact ih2 _ _ _ _ _ _)
   | (with_reducible exact comb_Index.mono _ _)
   | (with_reducible exact num_Sqrt.mono _ _)
   | (with_reducible exact LeO.refl _)
   | (with_reducible exact LeO.none _)
   | (with_reducible refine LeO.ite ?_ ?_)
   | (with_reducible refine LeO.bind ?_ (fun _ => ?_))
   | exact ih0 _ _ _
   | exact ih1 _ _ _ _ _ _
   | exact ih2 _ _ _ _ _ _
   | exact comb_Index.mono _ _
   | exact num_Sqrt.mono _ _
   | exact LeO.none _
   | refine LeO.ite ?_ ?_
   | refine LeO.bind ?_ (fun _ => ?_)
set_option maxHeartbeats 8000000 in
set_option maxRecDepth 100000 in
theorem pvq_Shape.calls (k : Nat) (A0 : Option Addr) (c0 : Nat) (l0 : List Int) (a1 : Int) (r1 : List Int) (r2 : Int) (w : World) (hr0 : Kd.C (Kd.int .i64) w A0 l0.length l0) (hc0 : l0.length ≤ c0) (h : pvq_Shape.f k l0 a1 = some (r1, r2)) :
  Calls Try.prog 16 #[.slice A0 l0.length c0, .int .i64 a1] w fun e w' => ∃ v0_ : Value, e = .returned (.tuple #[v0_, .int .i64 r2]) ∧ Kd.R (Kd.int .i64) 2 w' w.heap.size (fun _ => True) v0_ r1 ∧ Below w.heap.size w w' := by
 have HR0 := zm hr0
 have HC0 := zm hc0
 clear hr0 hc0
 have HB := zm (Below.refl w.heap.size w)
 have H : ((comb_Index.f k l0).bind fun bt158 => (if bt158.2 = 0 then (if a1 < 0 then (pvq_Shape.j0 k l0 a1 true) else (pvq_Shape.j0 k l0 a1 (decide (a1 > 4194304)))) else (pvq_Shape.j0 k l0 a1 true))) = some (r1, r2) := h
 clear h
 replace H := Option.bind_eq_some_iff.mp H
 obtain ⟨⟨t158, t159⟩, A30, H⟩ := H
 replace H : (if t159 = 0 then (if a1 < 0 then (pvq_Shape.j0 k l0 a1 true) else (pvq_Shape.j0 k l0 a1 (decide (a1 > 4194304)))) else (pvq_Shape.j0 k l0 a1 true)) = some (r1, r2) := H
 have A3 := zm A30
 clear A30
 have HC4 := zm H
 clear H
 go_enter Try.func16, Try.ntmps16
 go_upto_region 2 with (first | ((with_reducible refine gate_callee (f := 28) rfl ?_); refine goesL_ (some 17) rfl rfl Try.func28 (by kernel_rfl) rfl #[.slice A0 l0.length c0] rfl (by (try simp only [List.map_toArray, List.map_cons, List.map_nil]); first | done | rfl | (simp only [List.length_drop, List.length_take]; rfl)) ?_; (with_reducible refine (comb_Index.calls k _ _ l0 t158 t159 _ ?side1 ?side2 A3.out).mono ?_); (case side1 => repeat (first | exact HR0.out | (with_reducible refine Kd.C_alloc ?_ _) | (with_reducible refine Kd.C_drewN ?_ _) | (with_reducible refine Kd.C_drew ?_))); (case side2 => exact HC0.out); rintro e w5 ⟨rfl, hb⟩; refine ⟨_, rfl, ?_⟩; have n0_ := zm (zJ (by repeat (first | (with_reducible first | exact HB.out | apply ze | apply zd | apply zf) | exact HB.out)) hb); clear HB; have HB := n0_; clear n0_; (try clear hb); (try clear hb2); (try clear hk); (try clear hi)))
 (try simp only [Act.put, List.setIfInBounds_toArray, List.set_cons_zero, List.set_cons_succ])
 go_cut [29] (fun v29 wc => ∃ (kq : Nat) (x29_3 : Bool), v29 = .bool x29_3 ∧ Aside0 (pvq_Shape.j0 kq l0 a1 x29_3 = some (r1, r2)) ∧ Aside0 (kq ≤ k) ∧ Aside0 (Below w.heap.size w wc))
 case first =>
  have H := HC4.out
  clear HC4
  by_cases c6 : t159 = 0
  ·
   rw [if_pos c6] at H
   have c6b0 : (t159 == 0) = true := beq_iff_eq.mpr c6
   have c6b1 : (t159 != 0) = false := bne_eq_false_iff_eq.mpr c6
   clear c6
   (first | rw [c6b0] | (simp only [i64_w, i32_w]; rw [c6b0]) | skip)
   by_cases c7 : a1 < 0
   ·
    rw [if_pos c7] at H
    have c7b0 : decide (a1 < 0) = true := decide_eq_true c7
    clear c7
    have H' := zm H
    clear H
    go_wp2
    go_meet
    case rel => exact ⟨_, (true), (by first | rfl | (simp; done) | (simp [*]; done)), H', ⟨by first | omega | exact Nat.le_refl _⟩, ⟨by repeat (first | (with_reducible first | exact HB.out | apply ze | apply zd | apply zf) | exact HB.out)⟩⟩
   ·
    rw [if_neg c7] at H
    have c7b0 : decide (a1 < 0) = false := decide_eq_false c7
    clear c7
    have H' := zm H
    clear H
    go_wp2
    go_meet
    case rel => exact ⟨_, (decide (a1 > 4194304)), (by first | rfl | (simp; done) | (simp [*]; done)), H', ⟨by first | omega | exact Nat.le_refl _⟩, ⟨by repeat (first | (with_reducible first | exact HB.out | apply ze | apply zd | apply zf) | exact HB.out)⟩⟩
  ·
   rw [if_neg c6] at H
   have c6b0 : (t159 == 0) = false := beq_eq_false_iff_ne.mpr c6
   have c6b1 : (t159 != 0) = true := bne_iff_ne.mpr c6
   (first | rw [c6b0] | (simp only [i64_w, i32_w]; rw [c6b0]) | skip)
   have H' := zm H
   clear H
   go_wp2
   go_meet
   case rel => exact ⟨_, (true), (by first | rfl | (simp; done) | (simp [*]; done)), H', ⟨by first | omega | exact Nat.le_refl _⟩, ⟨by repeat (first | (with_reducible first | exact HB.out | apply ze | apply zd | apply zf) | exact HB.out)⟩⟩
 case rest =>
  clear HC4
  try clear c1
  try clear c2
  try clear p2
  try clear c6
  try clear c6b0
  try clear c6b1
  try clear c7
  try clear c7b0
  obtain ⟨kq, x29_3, rfl, HA, HJ3, HB⟩ := hcut
  cases kq with
  | zero => exact absurd HA.out (by simp [pvq_Shape.j0])
  | succ kj3 =>
   have H := HA.out
   clear HA
   simp only [pvq_Shape.j0] at H
   by_cases c8 : x29_3 = true
   ·
    subst c8
    have H1 : (some (([] : List Int), 1)) = some (r1, r2) := by rw [if_pos rfl] at H; exact H
    clear H
    have H := H1
    clear H1
    simp only [Option.some.injEq, Prod.mk.injEq] at H
    obtain ⟨rfl, rfl⟩ := H
    go_wp2
    go_ret2
    exact ⟨_, by first | rfl | (simp [errW_none, errW_some] <;> rfl) | (simp [*, errW_none, errW_some] <;> rfl), by first | exact Kd.R_nil _ _ _ _ _ | exact Kd.N_nil _ _ _ _ _ | exact Kd.V_nil _ _ _ _ _ | exact Kd.Q_nil _ _ _ _ _ | exact Kd.S_nil _ _ _ _ _, by repeat (first | (with_reducible first | exact HB.out | apply ze | apply zd | apply zf) | exact HB.out)⟩
   ·
    replace c8 := Bool.eq_false_iff.mpr c8
    subst c8
    have H1 : (pvq_Shape.l0 kj3 l0 a1 0 l0 (l0.length : Int) 0) = some (r1, r2) := by rw [if_neg (show ¬ (false = true) by decide)] at H; exact H
    clear H
    have H := H1
    clear H1
    have H' := zm H
    clear H
    go_wp2
    go_loopg [8, 32] kj3 (fun kq v8 v32 w' => ∃ (x8_2 : Int) (x32_2 : Int), v8 = .int .u64 x8_2 ∧ v32 = .int .i64 x32_2 ∧ Aside0 (pvq_Shape.l0 kq l0 a1 x8_2 l0 (l0.length : Int) x32_2 = some (r1, r2)) ∧ Aside0 (kq ≤ kj3) ∧ Aside0 (Below w.heap.size w w'))
    case atStart => exact ⟨(0), (0), (by first | rfl | (simp; done) | (simp [*]; done)), (by first | rfl | (simp; done) | (simp [*]; done)), H', ⟨Nat.le_refl _⟩, ⟨by repeat (first | (with_reducible first | exact HB.out | apply ze | apply zd | apply zf) | exact HB.out)⟩⟩
    case round =>
     clear H'
     try clear c1
     try clear c2
     try clear p2
     try clear c6
     try clear c6b0
     try clear c6b1
     try clear c7
     try clear c7b0
     try clear c8
     try clear p2
     obtain ⟨x8_2, x32_2, rfl, rfl, HA, HK2, HB⟩ := hrel
     cases gk with
     | zero => exact absurd HA.out (by simp [pvq_Shape.l0])
     | succ k2 =>
      have H := HA.out
      clear HA
      simp only [pvq_Shape.l0] at H
      by_cases c9 : x32_2 < (l0.length : Int)
      ·
       rw [if_pos c9] at H
       have c9b0 : decide (x32_2 < (l0.length : Int)) = true := decide_eq_true c9
       clear c9
       by_cases c10 : 0 ≤ x32_2
       ·
        rw [if_pos c10] at H
        have c10b0 : decide (0 ≤ x32_2) = true := decide_eq_true c10
        clear c10
        by_cases c11 : x32_2 < (l0.length : Int)
        ·
         rw [if_pos c11] at H
         have c11b0 : decide (x32_2 < (l0.length : Int)) = true := decide_eq_true c11
         clear c11
         have H' := zm H
         clear H
         have p160 : 0 ≤ (x32_2 : Int) := of_decide_eq_true (by first | (with_reducible assumption) | assumption)
         have q160 : x32_2 < (l0.length : Int) := of_decide_eq_true (by first | (with_reducible assumption) | assumption)
         obtain ⟨ad160, e160, hx160_0⟩ := Kd.at_int HR0.out x32_2 p160 q160
         cases e160
         replace hx160_0 := (HB.out.cell (zb w _ hx160_0)).trans hx160_0
         replace p160 := eq_true p160
         replace q160 := eq_true q160
         go_wp2
         go_roundg k2
         case measure => have := HJ3.out; have := HK2.out; omega
         case rel => exact ⟨(IntKind.u64.wrap (x8_2 + (IntKind.u64.wrap (wrap64 ((rd l0 x32_2) * (rd l0 x32_2)))))), (wrap64 (x32_2 + 1)), (by first | rfl | (simp; done) | (simp [*]; done)), (by first | rfl | (simp; done) | (simp [*]; done)), H', ⟨by have := HJ3.out; have := HK2.out; omega⟩, ⟨by repeat (first | (with_reducible first | exact HB.out | apply ze | apply zd | apply zf) | exact HB.out)⟩⟩
        ·
         rw [if_neg c11] at H
         exact absurd H (by simp)
       ·
        rw [if_neg c10] at H
        exact absurd H (by simp)
      ·
       rw [if_neg c9] at H
       have c9b0 : decide (x32_2 < (l0.length : Int)) = false := decide_eq_false c9
       clear c9
       by_cases c12 : 0 ≤ (l0.length : Int)
       ·
        rw [if_pos c12] at H
        have c12b0 := eq_true c12
        have c12b1 : decide (0 ≤ (l0.length : Int)) = true := decide_eq_true c12
        clear c12
        by_cases c13 : ((l0.length : Int) : Int).toNat ≤ 35184372088832
        ·
         rw [if_pos c13] at H
         have c13b0 := eq_true c13
         have c13b1 : decide (((l0.length : Int) : Int).toNat ≤ 35184372088832) = true := decide_eq_true c13
         clear c13
         obtain ⟨y161, hy161⟩ : ∃ y_ : List Int, y_ = (List.replicate ((l0.length : Int) : Int).toNat 0) := ⟨_, rfl⟩
         replace H : (if x8_2 = 0 then (some (y161, 0)) else ((num_Sqrt.f k2 (IntKind.u64.wrap ((IntKind.u64.wrap (x8_2 * 256)) * 256))).bind fun t164 => (pvq_Shape.l1 k2 a1 y161 (wrap64 (t164)) l0 (l0.length : Int) 0))) = some (r1, r2) := by first | (rw [hy161]; with_reducible exact H) | (have H2_ := (Option.bind_some _ _).symm.trans H; rw [hy161]; with_reducible exact H2_) | (have H2_ := (Option.bind_some _ _).symm.trans H; with_reducible exact H2_) | with_reducible exact H | (rw [hy161]; exact H) | exact H
         have Ny161 := zm hy161
         clear hy161
         by_cases c14 : x8_2 = 0
         ·
          rw [if_pos c14] at H
          have c14b0 : (x8_2 == 0) = true := beq_iff_eq.mpr c14
          have c14b1 : (x8_2 != 0) = false := bne_eq_false_iff_eq.mpr c14
          clear c14
          simp only [Option.some.injEq, Prod.mk.injEq] at H
          obtain ⟨rfl, rfl⟩ := H
          go_wp2_with (first | ((with_reducible refine gate_dst (N := 45) rfl ?_); refine Kd.R_make (Kd.int .i64) _ 2 rfl (N := 45) rfl 22 _ _ rfl (l0.length : Int) rfl rfl Try.underlying22 (.int .i64 0) 8 info2 rfl (by decide) (by omega) 0 (ok := fun _ => True) (okp := fun _ => True) rfl (fun _ hk => hk) trivial (of_decide_eq_true (by first | (with_reducible assumption) | assumption)) (Nat.le_trans (Nat.mul_le_mul_right _ (of_decide_eq_true (by first | (with_reducible assumption) | assumption) : (l0.length : Int).toNat ≤ 35184372088832)) (by omega)) (Below.refl _ _) (Nat.le_refl _) ?_; intro v162 w15 ho16 hb hg_ hnew_; clear hg_ hnew_; (first | rw [← Ny161.out] at ho16 | (simp only [Int.reduceToNat] at ho16; rw [← Ny161.out] at ho16)); have n0_ := zm (Kd.R_lower ho16 (zE (by repeat (first | (with_reducible first | exact HB.out | apply ze | apply zd | apply zf) | exact HB.out)))); have n1_ := zm (zJ (by repeat (first | (with_reducible first | exact HB.out | apply ze | apply zd | apply zf) | exact HB.out)) hb); clear HB; have HO163 := n0_; have HB := n1_; clear n0_ n1_; clear hb ho16))
          go_ret2
          exact ⟨_, by first | rfl | (simp [errW_none, errW_some] <;> rfl) | (simp [*, errW_none, errW_some] <;> rfl), by (with_reducible repeat (first | apply zo | apply zp | apply zq)); exact HO163.out, by repeat (first | (with_reducible first | exact HB.out | apply ze | apply zd | apply zf) | exact HB.out)⟩
         ·
          rw [if_neg c14] at H
          have c14b0 : (x8_2 == 0) = false := beq_eq_false_iff_ne.mpr c14
          have c14b1 : (x8_2 != 0) = true := bne_iff_ne.mpr c14
          replace H := Option.bind_eq_some_iff.mp H
          obtain ⟨t164, A170, H⟩ := H
          replace H : (pvq_Shape.l1 k2 a1 y161 (wrap64 (t164)) l0 (l0.length : Int) 0) = some (r1, r2) := H
          have A17 := zm A170
          clear A170
          have H' := zm H
          clear H
          go_wp2_with (first | ((with_reducible refine gate_dst (N := 45) rfl ?_); refine Kd.R_make (Kd.int .i64) _ 2 rfl (N := 45) rfl 22 _ _ rfl (l0.length : Int) rfl rfl Try.underlying22 (.int .i64 0) 8 info2 rfl (by decide) (by omega) 0 (ok := fun _ => True) (okp := fun _ => True) rfl (fun _ hk => hk) trivial (of_decide_eq_true (by first | (with_reducible assumption) | assumption)) (Nat.le_trans (Nat.mul_le_mul_right _ (of_decide_eq_true (by first | (with_reducible assumption) | assumption) : (l0.length : Int).toNat ≤ 35184372088832)) (by omega)) (Below.refl _ _) (Nat.le_refl _) ?_; intro v162 w18 ho19 hb hg_ hnew_; clear hg_ hnew_; (first | rw [← Ny161.out] at ho19 | (simp only [Int.reduceToNat] at ho19; rw [← Ny161.out] at ho19)); have n0_ := zm (Kd.R_lower ho19 (zE (by repeat (first | (with_reducible first | exact HB.out | apply ze | apply zd | apply zf) | exact HB.out)))); have n1_ := zm (zJ (by repeat (first | (with_reducible first | exact HB.out | apply ze | apply zd | apply zf) | exact HB.out)) hb); clear HB; have HO163 := n0_; have HB := n1_; clear n0_ n1_; clear hb ho19) | ((with_reducible refine gate_callee (f := 29) rfl ?_); refine goesL_ (some 52) rfl rfl Try.func29 (by kernel_rfl) rfl #[.int .u64 (IntKind.u64.wrap ((IntKind.u64.wrap (x8_2 * 256)) * 256))] rfl (by (try simp only [List.map_toArray, List.map_cons, List.map_nil]); first | done | rfl | (simp only [List.length_drop, List.length_take]; rfl)) ?_; (with_reducible refine (num_Sqrt.calls k2 (IntKind.u64.wrap ((IntKind.u64.wrap (x8_2 * 256)) * 256)) t164 _ A17.out).mono ?_); rintro e w' ⟨rfl, ⟨nd, rfl⟩⟩; refine ⟨_, rfl, ?_⟩))
          go_loopg [56] k2 (fun kq v56 w' => ∃ (x11_3 : List Int) (x56_3 : Int), v56 = .int .i64 x56_3 ∧ Aside0 (pvq_Shape.l1 kq a1 x11_3 (wrap64 (t164)) l0 (l0.length : Int) x56_3 = some (r1, r2)) ∧ Aside0 (kq ≤ k2) ∧ Aside0 (Kd.R (Kd.int .i64) 2 w' w.heap.size (fun _ => True) v162 x11_3) ∧ Aside0 (Below w.heap.size w w'))
          case atStart => exact ⟨(y161), (0), (by first | rfl | (simp; done) | (simp [*]; done)), H', ⟨Nat.le_refl _⟩, ⟨by (with_reducible repeat (first | apply zo | apply zp | apply zq)); exact HO163.out⟩, ⟨by repeat (first | (with_reducible first | exact HB.out | apply ze | apply zd | apply zf) | exact HB.out)⟩⟩
          case round =>
           clear H'
           try clear c1
           try clear p1
           try clear q1
           try clear hx1
           try clear c2
           try clear p2
           try clear c6
           try clear c6b0
           try clear c6b1
           try clear p6
           try clear c7
           try clear c7b0
           try clear c8
           try clear c9
           try clear c9b0
           try clear c10
           try clear c10b0
           try clear c11
           try clear c11b0
           try clear c12
           try clear c12b0
           try clear c12b1
           try clear c13
           try clear c13b0
           try clear c13b1
           try clear c14
           try clear c14b0
           try clear c14b1
           try clear c16
           try clear p16
           try clear q16
           try clear hx16
           try clear hx160_0
           try clear p160
           try clear p2
           try clear q160
           obtain ⟨x11_3, x56_3, rfl, HA, HK3, HO_11, HB⟩ := hrel
           cases gk with
           | zero => exact absurd HA.out (by simp [pvq_Shape.l1])
           | succ k3 =>
            have H := HA.out
            clear HA
            simp only [pvq_Shape.l1] at H
            by_cases c20 : x56_3 < (l0.length : Int)
            ·
             rw [if_pos c20] at H
             have c20b0 : decide (x56_3 < (l0.length : Int)) = true := decide_eq_true c20
             clear c20
             by_cases c21 : 0 ≤ x56_3
             ·
              rw [if_pos c21] at H
              have c21b0 : decide (0 ≤ x56_3) = true := decide_eq_true c21
              clear c21
              by_cases c22 : x56_3 < (l0.length : Int)
              ·
               rw [if_pos c22] at H
               have c22b0 : decide (x56_3 < (l0.length : Int)) = true := decide_eq_true c22
               clear c22
               replace H := Option.bind_eq_some_iff.mp H
               obtain ⟨⟨t166, t167⟩, A230, H⟩ := H
               replace H : (if x56_3 < (x11_3.length : Int) then (pvq_Shape.l1 k3 a1 (x11_3.set (x56_3 : Int).toNat t166) (wrap64 (t164)) l0 (l0.length : Int) (wrap64 (x56_3 + 1))) else (none)) = some (r1, r2) := H
               have A23 := zm A230
               clear A230
               by_cases c24 : x56_3 < (x11_3.length : Int)
               ·
                rw [if_pos c24] at H
                have c24b0 : decide (x56_3 < (x11_3.length : Int)) = true := decide_eq_true c24
                clear c24
                obtain ⟨y168, hy168⟩ : ∃ y_ : List Int, y_ = (x11_3.set (x56_3 : Int).toNat t166) := ⟨_, rfl⟩
                replace H : (pvq_Shape.l1 k3 a1 y168 (wrap64 (t164)) l0 (l0.length : Int) (wrap64 (x56_3 + 1))) = some (r1, r2) := by first | (rw [hy168]; with_reducible exact H) | (have H2_ := (Option.bind_some _ _).symm.trans H; rw [hy168]; with_reducible exact H2_) | (have H2_ := (Option.bind_some _ _).symm.trans H; with_reducible exact H2_) | with_reducible exact H | (rw [hy168]; exact H) | exact H
                have Ny168 := zm hy168
                clear hy168
                have H' := zm H
                clear H
                have p165 : 0 ≤ (x56_3 : Int) := of_decide_eq_true (by first | (with_reducible assumption) | assumption)
                have q165 : x56_3 < (l0.length : Int) := of_decide_eq_true (by first | (with_reducible assumption) | assumption)
                obtain ⟨ad165, e165, hx165_0⟩ := Kd.at_int HR0.out x56_3 p165 q165
                cases e165
                replace hx165_0 := (HB.out.cell (zb w _ hx165_0)).trans hx165_0
                replace p165 := eq_true p165
                replace q165 := eq_true q165
                go_wp2_with (first | ((with_reducible refine gate_callee (f := 30) rfl ?_); refine goesL_ (some 69) rfl rfl Try.func30 (by kernel_rfl) rfl #[.int .i64 (wrap64 ((wrap64 ((rd l0 x56_3) * a1)) * 256)), .int .i64 (wrap64 (t164))] rfl (by (try simp only [List.map_toArray, List.map_cons, List.map_nil]); first | done | rfl | (simp only [List.length_drop, List.length_take]; rfl)) ?_; (with_reducible refine (num_Div.calls (wrap64 ((wrap64 ((rd l0 x56_3) * a1)) * 256)) (wrap64 (t164)) t166 t167 _ A23.out).mono ?_); rintro e w' ⟨rfl, ⟨nd, rfl⟩⟩; refine ⟨_, rfl, ?_⟩; (try (rw [drewN_self wr]; generalize hq_ : World.drewN wr _ = wr; have n0_ : Aside0 (Kd.R (Kd.int .i64) 2 wr w.heap.size (fun _ => True) v162 x11_3) := ⟨by rw [← hq_]; exact (by (with_reducible repeat (first | apply zo | apply zp | apply zq)); exact HO_11.out)⟩; have n1_ : Aside0 (Below w.heap.size w wr) := ⟨by rw [← hq_]; exact (by repeat (first | (with_reducible first | exact HB.out | apply ze | apply zd | apply zf) | exact HB.out))⟩; clear HO_11 HB hq_; have HO_11 := n0_; have HB := n1_; clear n0_ n1_)); have p25 : 0 ≤ (x56_3 : Int) := of_decide_eq_true (by first | (with_reducible assumption) | assumption); have q25 : (x56_3 : Int) < ((x11_3.length : Int) : Int) := of_decide_eq_true (by first | (with_reducible assumption) | assumption); obtain ⟨go25, co25, eo25, gb25, gl25, cl25, HG25⟩ := Kd.R_form HO_11.out (by omega); (first | cases eo25 | (injection eo25 with ea_ en_ ec_; (first | subst ea_ | (injection ea_ with ea_; subst ea_)); subst ec_; clear en_)); have GB25 := zm gb25; have GG25 := zm HG25; clear gb25 gl25 HG25; obtain ⟨hx25_0, hf25_0⟩ := Kd.R_celln 0 HO_11.out (x56_3 : Int) p25 q25; replace p25 := eq_true p25; replace q25 := eq_true q25; obtain ⟨hy26_, hz26_⟩ := Kd.R_celln 0 HO_11.out (x56_3 : Int) (of_decide_eq_true (by first | (with_reducible assumption) | assumption)) (of_decide_eq_true (by first | (with_reducible assumption) | assumption)); have HP26 := Kd.R_putg HO_11.out (x56_3 : Int) t166) | ((with_reducible refine gate_store (t := 2) (p := 72) rfl ?_); refine store_event (t := 2) (p := 72) (v := ?vo_w27) (w1 := (wr.setCell ⟨go25, (x56_3 : Int).toNat, none⟩ (.int .i64 t166))) ?hg ?ho ?hn ?hr ?_; (case ho => rfl); (case hg => rfl); (case hn => rfl); (case hr => first | (go_simp; done) | (go_simp; rfl)); intro w27 hw; have hg : wr.grownBy w27 (some go25) := (by rw [hw]; exact HP26.2); have hp_ : Kd.R (Kd.int .i64) 2 w27 w.heap.size (fun _ => True) (.slice (some ⟨go25, 0, none⟩) x11_3.length co25) y168 := (by rw [hw, Ny168.out]; exact HP26.1); clear HP26; have n0_ := zm (hp_); have n1_ := zm ((by rw [hw]; exact zk (HB.out) GB25.out : Below w.heap.size w w27)); clear HO_11; clear HB; have HO_11 := n0_; have HB := n1_; clear n0_ n1_; clear hg hw hp_))
                go_roundg k3
                case measure => have := HJ3.out; have := HK2.out; have := HK3.out; omega
                case rel => exact ⟨(y168), (wrap64 (x56_3 + 1)), (by first | rfl | (simp; done) | (simp [*]; done)), H', ⟨by have := HJ3.out; have := HK2.out; have := HK3.out; omega⟩, ⟨by (with_reducible repeat (first | apply zo | apply zp | apply zq)); exact HO_11.out⟩, ⟨by repeat (first | (with_reducible first | exact HB.out | apply ze | apply zd | apply zf) | exact HB.out)⟩⟩
               ·
                rw [if_neg c24] at H
                exact absurd H (by simp)
              ·
               rw [if_neg c22] at H
               exact absurd H (by simp)
             ·
              rw [if_neg c21] at H
              exact absurd H (by simp)
            ·
             rw [if_neg c20] at H
             have c20b0 : decide (x56_3 < (l0.length : Int)) = false := decide_eq_false c20
             clear c20
             simp only [Option.some.injEq, Prod.mk.injEq] at H
             obtain ⟨rfl, rfl⟩ := H
             go_wp2
             go_ret2
             exact ⟨_, by first | rfl | (simp [errW_none, errW_some] <;> rfl) | (simp [*, errW_none, errW_some] <;> rfl), by (with_reducible repeat (first | apply zo | apply zp | apply zq)); exact HO_11.out, by repeat (first | (with_reducible first | exact HB.out | apply ze | apply zd | apply zf) | exact HB.out)⟩
        ·
         rw [if_neg c13] at H
         exact absurd H (by simp)
       ·
        rw [if_neg c12] at H
        exact absurd H (by simp)

end Go.Proofs.Ytllgjhenbchkfaa.Prt

namespace Go.Proofs.Ytllgjhenbchkfaa.Prt
open Go.RowKit Go.Proofs.YtllgjhenbchkfaaW.PrintWords Go.Proofs.YtllgjhenbchkfaaW.PrintLast Go.Proofs.YtllgjhenbchkfaaW.PrintMore
attribute [local go_sem] max2_int min2_int max_two min_two max_three min_three max_four min_four   -- for this text's walks alone
set_option linter.unusedVariables false
set_option linter.unusedSimpArgs false

/-! ### pvq_Square: function 10 -/
def pvq_Square.l0 : Nat → Int → List Int → Int → Int → Option (Int × Int)
 | 0, _, _, _, _ => none
 | k + 1, x4, x10, x11, x12 => if x12 < x11 then (if 0 ≤ x12 then (if x12 < (x10.length : Int) then (pvq_Square.l0 k (IntKind.u64.wrap (x4 + (IntKind.u64.wrap (wrap64 ((rd x10 x12) * (rd x10 x12)))))) x10 x11 (wrap64 (x12 + 1))) else (none)) else (none)) else (some (x4, 0))
def pvq_Square.f (k : Nat) (l0 : List Int) : Option (Int × Int) := (pvq_fair.f k l0).bind fun t103 => (if t103 = true then (pvq_Square.l0 k 0 l0 (l0.length : Int) 0) else (some (0, 1)))
theorem pvq_Square.mono_l : ∀ k, (∀ y0 y1 y2 y3, LeO (pvq_Square.l0 k y0 y1 y2 y3) (pvq_Square.l0 (k + 1) y0 y1 y2 y3))
 | 0 => fun _ _ _ _ r h => by simp [pvq_Square.l0] at h
 | k + 1 => by
  have ih0 := pvq_Square.mono_l k
  ·
   intro y0 y1 y2 y3
   unfold pvq_Square.l0
   repeat' first
   | (with_reducible exact ih0 _ _ _ _)
   | (with_reducible exact pvq_fair.mono _ _)
   | (with_reducible exact LeO.refl _)
   | (with_reducible exact LeO.none _)
   | (with_reducible refine LeO.ite ?_ ?_)
   | (with_reducible refine LeO.bind ?_ (fun _ => ?_))
   | exact ih0 _ _ _ _
   | exact pvq_fair.mono _ _
   | exact LeO.none _
   | refine LeO.ite ?_ ?_
   | refine LeO.bind ?_ (fun _ => ?_)
theorem pvq_Square.mono : ∀ a0 k, LeO (pvq_Square.f k a0) (pvq_Square.f (k + 1) a0) := by
 intro a0 k
 have ih0 := pvq_Square.mono_l k
 unfold pvq_Square.f
 repeat' first
   | (with_reducible exact ih0 _ _ _ _)
   | (with_reducible exact pvq_fair.mono _ _)
   | (with_reducible exact LeO.refl _)
   | (with_reducible exact LeO.none _)
   | (with_reducible refine LeO.ite ?_ ?_)
   | (with_reducible refine LeO.bind ?_ (fun _ => ?_))
   | exact ih0 _ _ _ _
   | exact pvq_fair.mono _ _
   | exact LeO.none _
   | refine LeO.ite ?_ ?_
   | refine LeO.bind ?_ (fun _ => ?_)
set_option maxHeartbeats 8000000 in
set_option maxRecDepth 100000 in
theorem pvq_Square.calls (k : Nat) (A0 : Option Addr) (c0 : Nat) (l0 : List Int) (r1 : Int) (r2 : Int) (w : World) (hr0 : Kd.C (Kd.int .i64) w A0 l0.length l0) (hc0 : l0.length ≤ c0) (h : pvq_Square.f k l0 = some (r1, r2)) :
  Calls Try.prog 10 #[.slice A0 l0.length c0] w fun e w' => e = .returned (.tuple #[.int .u64 r1, .int .i64 r2]) ∧ Drawn0 w w' := by
 have HR0 := zm hr0
 have HC0 := zm hc0
 clear hr0 hc0
 have H : ((pvq_fair.f k l0).bind fun t103 => (if t103 = true then (pvq_Square.l0 k 0 l0 (l0.length : Int) 0) else (some (0, 1)))) = some (r1, r2) := h
 clear h
 replace H := Option.bind_eq_some_iff.mp H
 obtain ⟨t103, A20, H⟩ := H
 replace H : (if t103 = true then (pvq_Square.l0 k 0 l0 (l0.length : Int) 0) else (some (0, 1))) = some (r1, r2) := H
 have A2 := zm A20
 clear A20
 by_cases c3 : t103 = true
 ·
  subst c3
  have H1 : (pvq_Square.l0 k 0 l0 (l0.length : Int) 0) = some (r1, r2) := by rw [if_pos rfl] at H; exact H
  clear H
  have H := H1
  clear H1
  have H' := zm H
  clear H
  go_enter Try.func10, Try.ntmps10
  go_wp2_with (first | ((with_reducible refine gate_callee (f := 21) rfl ?_); refine goesL_ (some 8) rfl rfl Try.func21 (by kernel_rfl) rfl #[.slice A0 l0.length c0] rfl (by (try simp only [List.map_toArray, List.map_cons, List.map_nil]); first | done | rfl | (simp only [List.length_drop, List.length_take]; rfl)) ?_; (with_reducible refine (pvq_fair.calls k _ _ l0 true _ ?side1 ?side2 A2.out).mono ?_); (case side1 => repeat (first | exact HR0.out | (with_reducible refine Kd.C_alloc ?_ _) | (with_reducible refine Kd.C_drewN ?_ _) | (with_reducible refine Kd.C_drew ?_))); (case side2 => exact HC0.out); rintro e w' ⟨rfl, ⟨nd, rfl⟩⟩; refine ⟨_, rfl, ?_⟩))
  go_loopg [4, 12] k (fun kq v4 v12 w' => ∃ (x4_1 : Int) (x12_1 : Int), v4 = .int .u64 x4_1 ∧ v12 = .int .i64 x12_1 ∧ Aside0 (pvq_Square.l0 kq x4_1 l0 (l0.length : Int) x12_1 = some (r1, r2)) ∧ Aside0 (kq ≤ k) ∧ Drawn0 w w')
  case atStart => exact ⟨(0), (0), (by first | rfl | (simp; done) | (simp [*]; done)), (by first | rfl | (simp; done) | (simp [*]; done)), H', ⟨Nat.le_refl _⟩, by repeat (first | exact Drawn0.refl _ | apply Drawn0.step)⟩
  case round =>
   clear H'
   try clear c1
   try clear c2
   try clear p2
   try clear c3
   obtain ⟨x4_1, x12_1, rfl, rfl, HA, HK1, ⟨m1, rfl⟩⟩ := hrel
   cases gk with
   | zero => exact absurd HA.out (by simp [pvq_Square.l0])
   | succ k1 =>
    have H := HA.out
    clear HA
    simp only [pvq_Square.l0] at H
    by_cases c4 : x12_1 < (l0.length : Int)
    ·
     rw [if_pos c4] at H
     have c4b0 : decide (x12_1 < (l0.length : Int)) = true := decide_eq_true c4
     clear c4
     by_cases c5 : 0 ≤ x12_1
     ·
      rw [if_pos c5] at H
      have c5b0 : decide (0 ≤ x12_1) = true := decide_eq_true c5
      clear c5
      by_cases c6 : x12_1 < (l0.length : Int)
      ·
       rw [if_pos c6] at H
       have c6b0 : decide (x12_1 < (l0.length : Int)) = true := decide_eq_true c6
       clear c6
       have H' := zm H
       clear H
       have p104 : 0 ≤ (x12_1 : Int) := of_decide_eq_true (by first | (with_reducible assumption) | assumption)
       have q104 : x12_1 < (l0.length : Int) := of_decide_eq_true (by first | (with_reducible assumption) | assumption)
       obtain ⟨ad104, e104, hx104_0⟩ := Kd.at_int HR0.out x12_1 p104 q104
       cases e104
       replace p104 := eq_true p104
       replace q104 := eq_true q104
       go_wp2
       go_roundg k1
       case measure => have := HK1.out; omega
       case rel => exact ⟨(IntKind.u64.wrap (x4_1 + (IntKind.u64.wrap (wrap64 ((rd l0 x12_1) * (rd l0 x12_1)))))), (wrap64 (x12_1 + 1)), (by first | rfl | (simp; done) | (simp [*]; done)), (by first | rfl | (simp; done) | (simp [*]; done)), H', ⟨by have := HK1.out; omega⟩, by repeat (first | exact Drawn0.refl _ | apply Drawn0.step)⟩
      ·
       rw [if_neg c6] at H
       exact absurd H (by simp)
     ·
      rw [if_neg c5] at H
      exact absurd H (by simp)
    ·
     rw [if_neg c4] at H
     have c4b0 : decide (x12_1 < (l0.length : Int)) = false := decide_eq_false c4
     clear c4
     simp only [Option.some.injEq, Prod.mk.injEq] at H
     obtain ⟨rfl, rfl⟩ := H
     go_wp2
     go_ret2
     exact ⟨by first | rfl | (simp; done) | (simp [*]; done), by repeat (first | exact Drawn0.refl _ | apply Drawn0.step)⟩
 ·
  replace c3 := Bool.eq_false_iff.mpr c3
  subst c3
  have H1 : (some (0, 1)) = some (r1, r2) := by rw [if_neg (show ¬ (false = true) by decide)] at H; exact H
  clear H
  have H := H1
  clear H1
  simp only [Option.some.injEq, Prod.mk.injEq] at H
  obtain ⟨rfl, rfl⟩ := H
  go_enter Try.func10, Try.ntmps10
  go_wp2_with (first | ((with_reducible refine gate_callee (f := 21) rfl ?_); refine goesL_ (some 8) rfl rfl Try.func21 (by kernel_rfl) rfl #[.slice A0 l0.length c0] rfl (by (try simp only [List.map_toArray, List.map_cons, List.map_nil]); first | done | rfl | (simp only [List.length_drop, List.length_take]; rfl)) ?_; (with_reducible refine (pvq_fair.calls k _ _ l0 false _ ?side1 ?side2 A2.out).mono ?_); (case side1 => repeat (first | exact HR0.out | (with_reducible refine Kd.C_alloc ?_ _) | (with_reducible refine Kd.C_drewN ?_ _) | (with_reducible refine Kd.C_drew ?_))); (case side2 => exact HC0.out); rintro e w' ⟨rfl, ⟨nd, rfl⟩⟩; refine ⟨_, rfl, ?_⟩))
  go_ret2
  exact ⟨by first | rfl | (simp; done) | (simp [*]; done), by repeat (first | exact Drawn0.refl _ | apply Drawn0.step)⟩

end Go.Proofs.Ytllgjhenbchkfaa.Prt

namespace Go.Proofs.Ytllgjhenbchkfaa.Prt
open Go.RowKit Go.Proofs.YtllgjhenbchkfaaW.PrintWords Go.Proofs.YtllgjhenbchkfaaW.PrintLast Go.Proofs.YtllgjhenbchkfaaW.PrintMore
attribute [local go_sem] max2_int min2_int max_two min_two max_three min_three max_four min_four   -- for this text's walks alone
set_option linter.unusedVariables false
set_option linter.unusedSimpArgs false

/-! ### psalterylaw07_knows: function 9 -/
def psalterylaw07_knows.f (k : Nat)  : Option (Bool) := (pvq_Square.f k (([3, (-4)] : List Int))).bind fun bt174 => ((pvq_Search.f k (([10, (-1)] : List Int)) 3).bind fun bt179 => ((pvq_Shape.f k (([0, (-2)] : List Int)) 7).bind fun bt186 => ((pvq_Shape.f k (([1, 1] : List Int)) 100).bind fun bt193 => (if bt174.1 = 25 then (if bt174.2 = 0 then ((psalteryref06_Same.f k bt179.1 (([3, 0] : List Int))).bind fun t200 => (if t200 = true then (if bt179.2 = 0 then ((psalteryref07_Same.f k bt186.1 (([0, (-7)] : List Int))).bind fun t204 => (if t204 = true then (if bt186.2 = 0 then ((psalteryref07_Same.f k bt193.1 (([71, 71] : List Int))).bind fun t208 => (if t208 = true then (some (bt193.2 == 0)) else (none))) else (none)) else (none))) else (none)) else (none))) else (none)) else (none)))))
theorem psalterylaw07_knows.mono : ∀ k, LeO (psalterylaw07_knows.f k ) (psalterylaw07_knows.f (k + 1) ) := by
 intro  k
 unfold psalterylaw07_knows.f
 repeat' first
   | (with_reducible exact psalteryref06_Same.mono _ _ _)
   | (with_reducible exact psalteryref07_Same.mono _ _ _)
   | (with_reducible exact pvq_Search.mono _ _ _)
   | (with_reducible exact pvq_Shape.mono _ _ _)
   | (with_reducible exact pvq_Square.mono _ _)
   | (with_reducible exact LeO.refl _)
   | (with_reducible exact LeO.none _)
   | (with_reducible refine LeO.ite ?_ ?_)
   | (with_reducible refine LeO.bind ?_ (fun _ => ?_))
   | exact psalteryref06_Same.mono _ _ _
   | exact psalteryref07_Same.mono _ _ _
   | exact pvq_Search.mono _ _ _
   | exact pvq_Shape.mono _ _ _
   | exact pvq_Square.mono _ _
   | exact LeO.none _
   | refine LeO.ite ?_ ?_
   | refine LeO.bind ?_ (fun _ => ?_)
set_option maxHeartbeats 8000000 in
set_option maxRecDepth 100000 in
theorem psalterylaw07_knows.calls (k : Nat)  (r : Bool) (w : World) (h : psalterylaw07_knows.f k  = some r) :
  Calls Try.prog 9 #[] w fun e w' => e = .returned (.bool r) ∧ Below w.heap.size w w' := by
 have HB := zm (Below.refl w.heap.size w)
 have H : ((pvq_Square.f k (([3, (-4)] : List Int))).bind fun bt174 => ((pvq_Search.f k (([10, (-1)] : List Int)) 3).bind fun bt179 => ((pvq_Shape.f k (([0, (-2)] : List Int)) 7).bind fun bt186 => ((pvq_Shape.f k (([1, 1] : List Int)) 100).bind fun bt193 => (if bt174.1 = 25 then (if bt174.2 = 0 then ((psalteryref06_Same.f k bt179.1 (([3, 0] : List Int))).bind fun t200 => (if t200 = true then (if bt179.2 = 0 then ((psalteryref07_Same.f k bt186.1 (([0, (-7)] : List Int))).bind fun t204 => (if t204 = true then (if bt186.2 = 0 then ((psalteryref07_Same.f k bt193.1 (([71, 71] : List Int))).bind fun t208 => (if t208 = true then (some (bt193.2 == 0)) else (none))) else (none)) else (none))) else (none)) else (none))) else (none)) else (none)))))) = some r := h
 clear h
 obtain ⟨y171, hy171⟩ : ∃ y_ : List Int, y_ = (([3, (-4)] : List Int)) := ⟨_, rfl⟩
 replace H : ((pvq_Square.f k y171).bind fun bt174 => ((pvq_Search.f k (([10, (-1)] : List Int)) 3).bind fun bt179 => ((pvq_Shape.f k (([0, (-2)] : List Int)) 7).bind fun bt186 => ((pvq_Shape.f k (([1, 1] : List Int)) 100).bind fun bt193 => (if bt174.1 = 25 then (if bt174.2 = 0 then ((psalteryref06_Same.f k bt179.1 (([3, 0] : List Int))).bind fun t200 => (if t200 = true then (if bt179.2 = 0 then ((psalteryref07_Same.f k bt186.1 (([0, (-7)] : List Int))).bind fun t204 => (if t204 = true then (if bt186.2 = 0 then ((psalteryref07_Same.f k bt193.1 (([71, 71] : List Int))).bind fun t208 => (if t208 = true then (some (bt193.2 == 0)) else (none))) else (none)) else (none))) else (none)) else (none))) else (none)) else (none)))))) = some r := by first | (rw [hy171]; with_reducible exact H) | (have H2_ := (Option.bind_some _ _).symm.trans H; rw [hy171]; with_reducible exact H2_) | (have H2_ := (Option.bind_some _ _).symm.trans H; with_reducible exact H2_) | with_reducible exact H | (rw [hy171]; exact H) | exact H
 have Ny171 := zm hy171
 clear hy171
 replace H := Option.bind_eq_some_iff.mp H
 obtain ⟨⟨t174, t175⟩, A10, H⟩ := H
 replace H : ((pvq_Search.f k (([10, (-1)] : List Int)) 3).bind fun bt179 => ((pvq_Shape.f k (([0, (-2)] : List Int)) 7).bind fun bt186 => ((pvq_Shape.f k (([1, 1] : List Int)) 100).bind fun bt193 => (if t174 = 25 then (if t175 = 0 then ((psalteryref06_Same.f k bt179.1 (([3, 0] : List Int))).bind fun t200 => (if t200 = true then (if bt179.2 = 0 then ((psalteryref07_Same.f k bt186.1 (([0, (-7)] : List Int))).bind fun t204 => (if t204 = true then (if bt186.2 = 0 then ((psalteryref07_Same.f k bt193.1 (([71, 71] : List Int))).bind fun t208 => (if t208 = true then (some (bt193.2 == 0)) else (none))) else (none)) else (none))) else (none)) else (none))) else (none)) else (none))))) = some r := H
 have A1 := zm A10
 clear A10
 obtain ⟨y176, hy176⟩ : ∃ y_ : List Int, y_ = (([10, (-1)] : List Int)) := ⟨_, rfl⟩
 replace H : ((pvq_Search.f k y176 3).bind fun bt179 => ((pvq_Shape.f k (([0, (-2)] : List Int)) 7).bind fun bt186 => ((pvq_Shape.f k (([1, 1] : List Int)) 100).bind fun bt193 => (if t174 = 25 then (if t175 = 0 then ((psalteryref06_Same.f k bt179.1 (([3, 0] : List Int))).bind fun t200 => (if t200 = true then (if bt179.2 = 0 then ((psalteryref07_Same.f k bt186.1 (([0, (-7)] : List Int))).bind fun t204 => (if t204 = true then (if bt186.2 = 0 then ((psalteryref07_Same.f k bt193.1 (([71, 71] : List Int))).bind fun t208 => (if t208 = true then (some (bt193.2 == 0)) else (none))) else (none)) else (none))) else (none)) else (none))) else (none)) else (none))))) = some r := by first | (rw [hy176]; with_reducible exact H) | (have H2_ := (Option.bind_some _ _).symm.trans H; rw [hy176]; with_reducible exact H2_) | (have H2_ := (Option.bind_some _ _).symm.trans H; with_reducible exact H2_) | with_reducible exact H | (rw [hy176]; exact H) | exact H
 have Ny176 := zm hy176
 clear hy176
 replace H := Option.bind_eq_some_iff.mp H
 obtain ⟨⟨t179, t180⟩, A20, H⟩ := H
 replace H : ((pvq_Shape.f k (([0, (-2)] : List Int)) 7).bind fun bt186 => ((pvq_Shape.f k (([1, 1] : List Int)) 100).bind fun bt193 => (if t174 = 25 then (if t175 = 0 then ((psalteryref06_Same.f k t179 (([3, 0] : List Int))).bind fun t200 => (if t200 = true then (if t180 = 0 then ((psalteryref07_Same.f k bt186.1 (([0, (-7)] : List Int))).bind fun t204 => (if t204 = true then (if bt186.2 = 0 then ((psalteryref07_Same.f k bt193.1 (([71, 71] : List Int))).bind fun t208 => (if t208 = true then (some (bt193.2 == 0)) else (none))) else (none)) else (none))) else (none)) else (none))) else (none)) else (none)))) = some r := H
 have A2 := zm A20
 clear A20
 obtain ⟨y183, hy183⟩ : ∃ y_ : List Int, y_ = (([0, (-2)] : List Int)) := ⟨_, rfl⟩
 replace H : ((pvq_Shape.f k y183 7).bind fun bt186 => ((pvq_Shape.f k (([1, 1] : List Int)) 100).bind fun bt193 => (if t174 = 25 then (if t175 = 0 then ((psalteryref06_Same.f k t179 (([3, 0] : List Int))).bind fun t200 => (if t200 = true then (if t180 = 0 then ((psalteryref07_Same.f k bt186.1 (([0, (-7)] : List Int))).bind fun t204 => (if t204 = true then (if bt186.2 = 0 then ((psalteryref07_Same.f k bt193.1 (([71, 71] : List Int))).bind fun t208 => (if t208 = true then (some (bt193.2 == 0)) else (none))) else (none)) else (none))) else (none)) else (none))) else (none)) else (none)))) = some r := by first | (rw [hy183]; with_reducible exact H) | (have H2_ := (Option.bind_some _ _).symm.trans H; rw [hy183]; with_reducible exact H2_) | (have H2_ := (Option.bind_some _ _).symm.trans H; with_reducible exact H2_) | with_reducible exact H | (rw [hy183]; exact H) | exact H
 have Ny183 := zm hy183
 clear hy183
 replace H := Option.bind_eq_some_iff.mp H
 obtain ⟨⟨t186, t187⟩, A30, H⟩ := H
 replace H : ((pvq_Shape.f k (([1, 1] : List Int)) 100).bind fun bt193 => (if t174 = 25 then (if t175 = 0 then ((psalteryref06_Same.f k t179 (([3, 0] : List Int))).bind fun t200 => (if t200 = true then (if t180 = 0 then ((psalteryref07_Same.f k t186 (([0, (-7)] : List Int))).bind fun t204 => (if t204 = true then (if t187 = 0 then ((psalteryref07_Same.f k bt193.1 (([71, 71] : List Int))).bind fun t208 => (if t208 = true then (some (bt193.2 == 0)) else (none))) else (none)) else (none))) else (none)) else (none))) else (none)) else (none))) = some r := H
 have A3 := zm A30
 clear A30
 obtain ⟨y190, hy190⟩ : ∃ y_ : List Int, y_ = (([1, 1] : List Int)) := ⟨_, rfl⟩
 replace H : ((pvq_Shape.f k y190 100).bind fun bt193 => (if t174 = 25 then (if t175 = 0 then ((psalteryref06_Same.f k t179 (([3, 0] : List Int))).bind fun t200 => (if t200 = true then (if t180 = 0 then ((psalteryref07_Same.f k t186 (([0, (-7)] : List Int))).bind fun t204 => (if t204 = true then (if t187 = 0 then ((psalteryref07_Same.f k bt193.1 (([71, 71] : List Int))).bind fun t208 => (if t208 = true then (some (bt193.2 == 0)) else (none))) else (none)) else (none))) else (none)) else (none))) else (none)) else (none))) = some r := by first | (rw [hy190]; with_reducible exact H) | (have H2_ := (Option.bind_some _ _).symm.trans H; rw [hy190]; with_reducible exact H2_) | (have H2_ := (Option.bind_some _ _).symm.trans H; with_reducible exact H2_) | with_reducible exact H | (rw [hy190]; exact H) | exact H
 have Ny190 := zm hy190
 clear hy190
 replace H := Option.bind_eq_some_iff.mp H
 obtain ⟨⟨t193, t194⟩, A40, H⟩ := H
 replace H : (if t174 = 25 then (if t175 = 0 then ((psalteryref06_Same.f k t179 (([3, 0] : List Int))).bind fun t200 => (if t200 = true then (if t180 = 0 then ((psalteryref07_Same.f k t186 (([0, (-7)] : List Int))).bind fun t204 => (if t204 = true then (if t187 = 0 then ((psalteryref07_Same.f k t193 (([71, 71] : List Int))).bind fun t208 => (if t208 = true then (some (t194 == 0)) else (none))) else (none)) else (none))) else (none)) else (none))) else (none)) else (none)) = some r := H
 have A4 := zm A40
 clear A40
 by_cases c5 : t174 = 25
 ·
  rw [if_pos c5] at H
  have c5b0 : (t174 == 25) = true := beq_iff_eq.mpr c5
  have c5b1 : (t174 != 25) = false := bne_eq_false_iff_eq.mpr c5
  clear c5
  by_cases c6 : t175 = 0
  ·
   rw [if_pos c6] at H
   have c6b0 : (t175 == 0) = true := beq_iff_eq.mpr c6
   have c6b1 : (t175 != 0) = false := bne_eq_false_iff_eq.mpr c6
   clear c6
   obtain ⟨y197, hy197⟩ : ∃ y_ : List Int, y_ = (([3, 0] : List Int)) := ⟨_, rfl⟩
   replace H : ((psalteryref06_Same.f k t179 y197).bind fun t200 => (if t200 = true then (if t180 = 0 then ((psalteryref07_Same.f k t186 (([0, (-7)] : List Int))).bind fun t204 => (if t204 = true then (if t187 = 0 then ((psalteryref07_Same.f k t193 (([71, 71] : List Int))).bind fun t208 => (if t208 = true then (some (t194 == 0)) else (none))) else (none)) else (none))) else (none)) else (none))) = some r := by first | (rw [hy197]; with_reducible exact H) | (have H2_ := (Option.bind_some _ _).symm.trans H; rw [hy197]; with_reducible exact H2_) | (have H2_ := (Option.bind_some _ _).symm.trans H; with_reducible exact H2_) | with_reducible exact H | (rw [hy197]; exact H) | exact H
   have Ny197 := zm hy197
   clear hy197
   replace H := Option.bind_eq_some_iff.mp H
   obtain ⟨t200, A70, H⟩ := H
   replace H : (if t200 = true then (if t180 = 0 then ((psalteryref07_Same.f k t186 (([0, (-7)] : List Int))).bind fun t204 => (if t204 = true then (if t187 = 0 then ((psalteryref07_Same.f k t193 (([71, 71] : List Int))).bind fun t208 => (if t208 = true then (some (t194 == 0)) else (none))) else (none)) else (none))) else (none)) else (none)) = some r := H
   have A7 := zm A70
   clear A70
   by_cases c8 : t200 = true
   ·
    subst c8
    have H1 : (if t180 = 0 then ((psalteryref07_Same.f k t186 (([0, (-7)] : List Int))).bind fun t204 => (if t204 = true then (if t187 = 0 then ((psalteryref07_Same.f k t193 (([71, 71] : List Int))).bind fun t208 => (if t208 = true then (some (t194 == 0)) else (none))) else (none)) else (none))) else (none)) = some r := by rw [if_pos rfl] at H; exact H
    clear H
    have H := H1
    clear H1
    by_cases c9 : t180 = 0
    ·
     rw [if_pos c9] at H
     have c9b0 : (t180 == 0) = true := beq_iff_eq.mpr c9
     have c9b1 : (t180 != 0) = false := bne_eq_false_iff_eq.mpr c9
     clear c9
     obtain ⟨y201, hy201⟩ : ∃ y_ : List Int, y_ = (([0, (-7)] : List Int)) := ⟨_, rfl⟩
     replace H : ((psalteryref07_Same.f k t186 y201).bind fun t204 => (if t204 = true then (if t187 = 0 then ((psalteryref07_Same.f k t193 (([71, 71] : List Int))).bind fun t208 => (if t208 = true then (some (t194 == 0)) else (none))) else (none)) else (none))) = some r := by first | (rw [hy201]; with_reducible exact H) | (have H2_ := (Option.bind_some _ _).symm.trans H; rw [hy201]; with_reducible exact H2_) | (have H2_ := (Option.bind_some _ _).symm.trans H; with_reducible exact H2_) | with_reducible exact H | (rw [hy201]; exact H) | exact H
     have Ny201 := zm hy201
     clear hy201
     replace H := Option.bind_eq_some_iff.mp H
     obtain ⟨t204, A100, H⟩ := H
     replace H : (if t204 = true then (if t187 = 0 then ((psalteryref07_Same.f k t193 (([71, 71] : List Int))).bind fun t208 => (if t208 = true then (some (t194 == 0)) else (none))) else (none)) else (none)) = some r := H
     have A10 := zm A100
     clear A100
     by_cases c11 : t204 = true
     ·
      subst c11
      have H1 : (if t187 = 0 then ((psalteryref07_Same.f k t193 (([71, 71] : List Int))).bind fun t208 => (if t208 = true then (some (t194 == 0)) else (none))) else (none)) = some r := by rw [if_pos rfl] at H; exact H
      clear H
      have H := H1
      clear H1
      by_cases c12 : t187 = 0
      ·
       rw [if_pos c12] at H
       have c12b0 : (t187 == 0) = true := beq_iff_eq.mpr c12
       have c12b1 : (t187 != 0) = false := bne_eq_false_iff_eq.mpr c12
       clear c12
       obtain ⟨y205, hy205⟩ : ∃ y_ : List Int, y_ = (([71, 71] : List Int)) := ⟨_, rfl⟩
       replace H : ((psalteryref07_Same.f k t193 y205).bind fun t208 => (if t208 = true then (some (t194 == 0)) else (none))) = some r := by first | (rw [hy205]; with_reducible exact H) | (have H2_ := (Option.bind_some _ _).symm.trans H; rw [hy205]; with_reducible exact H2_) | (have H2_ := (Option.bind_some _ _).symm.trans H; with_reducible exact H2_) | with_reducible exact H | (rw [hy205]; exact H) | exact H
       have Ny205 := zm hy205
       clear hy205
       replace H := Option.bind_eq_some_iff.mp H
       obtain ⟨t208, A130, H⟩ := H
       replace H : (if t208 = true then (some (t194 == 0)) else (none)) = some r := H
       have A13 := zm A130
       clear A130
       by_cases c14 : t208 = true
       ·
        subst c14
        have H1 : (some (t194 == 0)) = some r := by rw [if_pos rfl] at H; exact H
        clear H
        have H := H1
        clear H1
        obtain rfl := Option.some.inj H
        go_enter Try.func9, Try.ntmps9
        go_wp2_with (first | ((with_reducible refine gate_dst (N := 10) rfl ?_); (try (refine gate_guard (by rfl) ?_; dsimp only)); refine Kd.R_lit (Kd.int .i64) _ 2 ?hg (N := 10) ?hd (xs := ([3, (-4)] : List Int)) (inner := [.int .i64 3, .int .i64 (-4)]) (ok := fun _ => True) (okp := fun _ => True) ?hr ?hp (fun _ hk => hk) trivial (Below.refl _ _) (Nat.le_refl _) (by simp) ?_; (case hd => rfl); (case hg => rfl); (case hr => first | (go_simp; done) | (go_simp; rfl)); (case hp => exact (Reps.one (show Kd.M (Kd.int .i64) _ _ _ 3 [.int .i64 3] from rfl) (Reps.one (show Kd.M (Kd.int .i64) _ _ _ (-4) [.int .i64 (-4)] from rfl) (Reps.none _ _)))); intro v172 w15 ho16 hb hg_ hnew_; clear hg_ hnew_; (first | rw [← Ny171.out] at ho16 | (simp only [Int.reduceToNat] at ho16; rw [← Ny171.out] at ho16)); have n0_ := zm (Kd.R_lower ho16 (zE (by repeat (first | (with_reducible first | exact HB.out | apply ze | apply zd | apply zf) | exact HB.out)))); have n1_ := zm (zJ (by repeat (first | (with_reducible first | exact HB.out | apply ze | apply zd | apply zf) | exact HB.out)) hb); clear HB; have HO173 := n0_; have HB := n1_; clear n0_ n1_; clear hb ho16; obtain ⟨Ao17, co17, eo17⟩ := Kd.R_slice HO173.out; subst eo17) | ((with_reducible refine gate_callee (f := 10) rfl ?_); refine goesL_ (some 11) rfl rfl Try.func10 (by kernel_rfl) rfl #[.slice Ao17 y171.length co17] rfl (by (try simp only [List.map_toArray, List.map_cons, List.map_nil]); first | done | rfl | (simp only [List.length_drop, List.length_take]; rfl)) ?_; (with_reducible refine (pvq_Square.calls k _ _ y171 t174 t175 _ ?side1 ?side2 A1.out).mono ?_); (case side1 => repeat (first | exact (Kd.R_reads' HO173.out).2.2 | (with_reducible refine Kd.C_alloc ?_ _) | (with_reducible refine Kd.C_drewN ?_ _) | (with_reducible refine Kd.C_drew ?_))); (case side2 => exact (Kd.R_reads' HO173.out).2.1); rintro e w' ⟨rfl, ⟨nd, rfl⟩⟩; refine ⟨_, rfl, ?_⟩) | ((with_reducible refine gate_dst (N := 15) rfl ?_); (try (refine gate_guard (by rfl) ?_; dsimp only)); refine Kd.R_lit (Kd.int .i64) _ 2 ?hg (N := 15) ?hd (xs := ([10, (-1)] : List Int)) (inner := [.int .i64 10, .int .i64 (-1)]) (ok := fun _ => True) (okp := fun _ => True) ?hr ?hp (fun _ hk => hk) trivial (Below.refl _ _) (Nat.le_refl _) (by simp) ?_; (case hd => rfl); (case hg => rfl); (case hr => first | (go_simp; done) | (go_simp; rfl)); (case hp => exact (Reps.one (show Kd.M (Kd.int .i64) _ _ _ 10 [.int .i64 10] from rfl) (Reps.one (show Kd.M (Kd.int .i64) _ _ _ (-1) [.int .i64 (-1)] from rfl) (Reps.none _ _)))); intro v177 w18 ho19 hb hg_ hnew_; clear hg_ hnew_; (first | rw [← Ny176.out] at ho19 | (simp only [Int.reduceToNat] at ho19; rw [← Ny176.out] at ho19)); have n0_ := zm (Kd.R_elder' (by (with_reducible repeat (first | apply zo | apply zp | apply zq)); exact HO173.out) (Kd.R_base ho19) hb); have n1_ := zm (Kd.R_lower (Kd.R_new' ho19 (Kd.R_lt (by (with_reducible repeat (first | apply zo | apply zp | apply zq)); exact HO173.out))) (zE (by repeat (first | (with_reducible first | exact HB.out | apply ze | apply zd | apply zf) | exact HB.out)))); have n2_ := zm (zJ (by repeat (first | (with_reducible first | exact HB.out | apply ze | apply zd | apply zf) | exact HB.out)) hb); clear HO173; clear HB; have HO173 := n0_; have HO178 := n1_; have HB := n2_; clear n0_ n1_ n2_; clear hb ho19; obtain ⟨Ao20, co20, eo20⟩ := Kd.R_slice HO178.out; subst eo20) | ((with_reducible refine gate_callee (f := 13) rfl ?_); refine goesL_ (some 16) rfl rfl Try.func13 (by kernel_rfl) rfl #[.slice Ao20 y176.length co20, .int .i64 3] rfl (by (try simp only [List.map_toArray, List.map_cons, List.map_nil]); first | done | rfl | (simp only [List.length_drop, List.length_take]; rfl)) ?_; (with_reducible refine (pvq_Search.calls k _ _ y176 3 t179 t180 _ ?side1 ?side2 A2.out).mono ?_); (case side1 => repeat (first | exact (Kd.R_reads' HO178.out).2.2 | (with_reducible refine Kd.C_alloc ?_ _) | (with_reducible refine Kd.C_drewN ?_ _) | (with_reducible refine Kd.C_drew ?_))); (case side2 => exact (Kd.R_reads' HO178.out).2.1); rintro e w21 ⟨v181, rfl, ho0, hb⟩; refine ⟨_, rfl, ?_⟩; have n0_ := zm (Kd.R_below (by (with_reducible repeat (first | apply zo | apply zp | apply zq)); exact HO173.out) hb); have n1_ := zm (Kd.R_below (by (with_reducible repeat (first | apply zo | apply zp | apply zq)); exact HO178.out) hb); have n2_ := zm (Kd.R_lower ho0 (zE (by repeat (first | (with_reducible first | exact HB.out | apply ze | apply zd | apply zf) | exact HB.out)))); have n3_ := zm (zJ (by repeat (first | (with_reducible first | exact HB.out | apply ze | apply zd | apply zf) | exact HB.out)) hb); clear HO173; clear HO178; clear HB; have HO173 := n0_; have HO178 := n1_; have HO182 := n2_; have HB := n3_; clear n0_ n1_ n2_ n3_; (try clear hb); (try clear hb2); (try clear hk); (try clear hi); (try clear ho0)) | ((with_reducible refine gate_dst (N := 20) rfl ?_); (try (refine gate_guard (by rfl) ?_; dsimp only)); refine Kd.R_lit (Kd.int .i64) _ 3 ?hg (N := 20) ?hd (xs := ([0, (-2)] : List Int)) (inner := [.int .i64 0, .int .i64 (-2)]) (ok := fun _ => True) (okp := fun _ => True) ?hr ?hp (fun _ hk => hk) trivial (Below.refl _ _) (Nat.le_refl _) (by simp) ?_; (case hd => rfl); (case hg => rfl); (case hr => first | (go_simp; done) | (go_simp; rfl)); (case hp => exact (Reps.one (show Kd.M (Kd.int .i64) _ _ _ 0 [.int .i64 0] from rfl) (Reps.one (show Kd.M (Kd.int .i64) _ _ _ (-2) [.int .i64 (-2)] from rfl) (Reps.none _ _)))); intro v184 w22 ho23 hb hg_ hnew_; clear hg_ hnew_; (first | rw [← Ny183.out] at ho23 | (simp only [Int.reduceToNat] at ho23; rw [← Ny183.out] at ho23)); have n0_ := zm (Kd.R_below (by (with_reducible repeat (first | apply zo | apply zp | apply zq)); exact HO173.out) hb); have n1_ := zm (Kd.R_below (by (with_reducible repeat (first | apply zo | apply zp | apply zq)); exact HO178.out) hb); have n2_ := zm (Kd.R_elder' (by (with_reducible repeat (first | apply zo | apply zp | apply zq)); exact HO182.out) (Kd.R_base ho23) hb); have n3_ := zm (Kd.R_lower (Kd.R_new' ho23 (Kd.R_lt (by (with_reducible repeat (first | apply zo | apply zp | apply zq)); exact HO182.out))) (zE (by repeat (first | (with_reducible first | exact HB.out | apply ze | apply zd | apply zf) | exact HB.out)))); have n4_ := zm (zJ (by repeat (first | (with_reducible first | exact HB.out | apply ze | apply zd | apply zf) | exact HB.out)) hb); clear HO173; clear HO178; clear HO182; clear HB; have HO173 := n0_; have HO178 := n1_; have HO182 := n2_; have HO185 := n3_; have HB := n4_; clear n0_ n1_ n2_ n3_ n4_; clear hb ho23; obtain ⟨Ao24, co24, eo24⟩ := Kd.R_slice HO185.out; subst eo24) | ((with_reducible refine gate_callee (f := 16) rfl ?_); refine goesL_ (some 21) rfl rfl Try.func16 (by kernel_rfl) rfl #[.slice Ao24 y183.length co24, .int .i64 7] rfl (by (try simp only [List.map_toArray, List.map_cons, List.map_nil]); first | done | rfl | (simp only [List.length_drop, List.length_take]; rfl)) ?_; (with_reducible refine (pvq_Shape.calls k _ _ y183 7 t186 t187 _ ?side1 ?side2 A3.out).mono ?_); (case side1 => repeat (first | exact (Kd.R_reads' HO185.out).2.2 | (with_reducible refine Kd.C_alloc ?_ _) | (with_reducible refine Kd.C_drewN ?_ _) | (with_reducible refine Kd.C_drew ?_))); (case side2 => exact (Kd.R_reads' HO185.out).2.1); rintro e w25 ⟨v188, rfl, ho0, hb⟩; refine ⟨_, rfl, ?_⟩; have n0_ := zm (Kd.R_elder' (by (with_reducible repeat (first | apply zo | apply zp | apply zq)); exact HO173.out) (Kd.R_base ho0) hb); have n1_ := zm (Kd.R_elder' (by (with_reducible repeat (first | apply zo | apply zp | apply zq)); exact HO178.out) (Kd.R_base ho0) hb); have n2_ := zm (Kd.R_below (by (with_reducible repeat (first | apply zo | apply zp | apply zq)); exact HO182.out) hb); have n3_ := zm (Kd.R_below (by (with_reducible repeat (first | apply zo | apply zp | apply zq)); exact HO185.out) hb); have n4_ := zm (Kd.R_lower (Kd.R_new' (Kd.R_new' ho0 (Kd.R_lt (by (with_reducible repeat (first | apply zo | apply zp | apply zq)); exact HO173.out))) (Kd.R_lt (by (with_reducible repeat (first | apply zo | apply zp | apply zq)); exact HO178.out))) (zE (by repeat (first | (with_reducible first | exact HB.out | apply ze | apply zd | apply zf) | exact HB.out)))); have n5_ := zm (zJ (by repeat (first | (with_reducible first | exact HB.out | apply ze | apply zd | apply zf) | exact HB.out)) hb); clear HO173; clear HO178; clear HO182; clear HO185; clear HB; have HO173 := n0_; have HO178 := n1_; have HO182 := n2_; have HO185 := n3_; have HO189 := n4_; have HB := n5_; clear n0_ n1_ n2_ n3_ n4_ n5_; (try clear hb); (try clear hb2); (try clear hk); (try clear hi); (try clear ho0)) | ((with_reducible refine gate_dst (N := 25) rfl ?_); (try (refine gate_guard (by rfl) ?_; dsimp only)); refine Kd.R_lit (Kd.int .i64) _ 3 ?hg (N := 25) ?hd (xs := ([1, 1] : List Int)) (inner := [.int .i64 1, .int .i64 1]) (ok := fun _ => True) (okp := fun _ => True) ?hr ?hp (fun _ hk => hk) trivial (Below.refl _ _) (Nat.le_refl _) (by simp) ?_; (case hd => rfl); (case hg => rfl); (case hr => first | (go_simp; done) | (go_simp; rfl)); (case hp => exact (Reps.one (show Kd.M (Kd.int .i64) _ _ _ 1 [.int .i64 1] from rfl) (Reps.one (show Kd.M (Kd.int .i64) _ _ _ 1 [.int .i64 1] from rfl) (Reps.none _ _)))); intro v191 w26 ho27 hb hg_ hnew_; clear hg_ hnew_; (first | rw [← Ny190.out] at ho27 | (simp only [Int.reduceToNat] at ho27; rw [← Ny190.out] at ho27)); have n0_ := zm (Kd.R_below (by (with_reducible repeat (first | apply zo | apply zp | apply zq)); exact HO173.out) hb); have n1_ := zm (Kd.R_below (by (with_reducible repeat (first | apply zo | apply zp | apply zq)); exact HO178.out) hb); have n2_ := zm (Kd.R_elder' (by (with_reducible repeat (first | apply zo | apply zp | apply zq)); exact HO182.out) (Kd.R_base ho27) hb); have n3_ := zm (Kd.R_elder' (by (with_reducible repeat (first | apply zo | apply zp | apply zq)); exact HO185.out) (Kd.R_base ho27) hb); have n4_ := zm (Kd.R_below (by (with_reducible repeat (first | apply zo | apply zp | apply zq)); exact HO189.out) hb); have n5_ := zm (Kd.R_lower (Kd.R_new' (Kd.R_new' ho27 (Kd.R_lt (by (with_reducible repeat (first | apply zo | apply zp | apply zq)); exact HO182.out))) (Kd.R_lt (by (with_reducible repeat (first | apply zo | apply zp | apply zq)); exact HO185.out))) (zE (by repeat (first | (with_reducible first | exact HB.out | apply ze | apply zd | apply zf) | exact HB.out)))); have n6_ := zm (zJ (by repeat (first | (with_reducible first | exact HB.out | apply ze | apply zd | apply zf) | exact HB.out)) hb); clear HO173; clear HO178; clear HO182; clear HO185; clear HO189; clear HB; have HO173 := n0_; have HO178 := n1_; have HO182 := n2_; have HO185 := n3_; have HO189 := n4_; have HO192 := n5_; have HB := n6_; clear n0_ n1_ n2_ n3_ n4_ n5_ n6_; clear hb ho27; obtain ⟨Ao28, co28, eo28⟩ := Kd.R_slice HO192.out; subst eo28) | ((with_reducible refine gate_callee (f := 16) rfl ?_); refine goesL_ (some 26) rfl rfl Try.func16 (by kernel_rfl) rfl #[.slice Ao28 y190.length co28, .int .i64 100] rfl (by (try simp only [List.map_toArray, List.map_cons, List.map_nil]); first | done | rfl | (simp only [List.length_drop, List.length_take]; rfl)) ?_; (with_reducible refine (pvq_Shape.calls k _ _ y190 100 t193 t194 _ ?side1 ?side2 A4.out).mono ?_); (case side1 => repeat (first | exact (Kd.R_reads' HO192.out).2.2 | (with_reducible refine Kd.C_alloc ?_ _) | (with_reducible refine Kd.C_drewN ?_ _) | (with_reducible refine Kd.C_drew ?_))); (case side2 => exact (Kd.R_reads' HO192.out).2.1); rintro e w29 ⟨v195, rfl, ho0, hb⟩; refine ⟨_, rfl, ?_⟩; have n0_ := zm (Kd.R_elder' (by (with_reducible repeat (first | apply zo | apply zp | apply zq)); exact HO173.out) (Kd.R_base ho0) hb); have n1_ := zm (Kd.R_elder' (by (with_reducible repeat (first | apply zo | apply zp | apply zq)); exact HO178.out) (Kd.R_base ho0) hb); have n2_ := zm (Kd.R_below (by (with_reducible repeat (first | apply zo | apply zp | apply zq)); exact HO182.out) hb); have n3_ := zm (Kd.R_below (by (with_reducible repeat (first | apply zo | apply zp | apply zq)); exact HO185.out) hb); have n4_ := zm (Kd.R_elder' (by (with_reducible repeat (first | apply zo | apply zp | apply zq)); exact HO189.out) (Kd.R_base ho0) hb); have n5_ := zm (Kd.R_below (by (with_reducible repeat (first | apply zo | apply zp | apply zq)); exact HO192.out) hb); have n6_ := zm (Kd.R_lower (Kd.R_new' (Kd.R_new' (Kd.R_new' ho0 (Kd.R_lt (by (with_reducible repeat (first | apply zo | apply zp | apply zq)); exact HO173.out))) (Kd.R_lt (by (with_reducible repeat (first | apply zo | apply zp | apply zq)); exact HO178.out))) (Kd.R_lt (by (with_reducible repeat (first | apply zo | apply zp | apply zq)); exact HO189.out))) (zE (by repeat (first | (with_reducible first | exact HB.out | apply ze | apply zd | apply zf) | exact HB.out)))); have n7_ := zm (zJ (by repeat (first | (with_reducible first | exact HB.out | apply ze | apply zd | apply zf) | exact HB.out)) hb); clear HO173; clear HO178; clear HO182; clear HO185; clear HO189; clear HO192; clear HB; have HO173 := n0_; have HO178 := n1_; have HO182 := n2_; have HO185 := n3_; have HO189 := n4_; have HO192 := n5_; have HO196 := n6_; have HB := n7_; clear n0_ n1_ n2_ n3_ n4_ n5_ n6_ n7_; (try clear hb); (try clear hb2); (try clear hk); (try clear hi); (try clear ho0)) | ((with_reducible refine gate_dst (N := 37) rfl ?_); (try (refine gate_guard (by rfl) ?_; dsimp only)); refine Kd.R_lit (Kd.int .i64) _ 3 ?hg (N := 37) ?hd (xs := ([3, 0] : List Int)) (inner := [.int .i64 3, .int .i64 0]) (ok := fun _ => True) (okp := fun _ => True) ?hr ?hp (fun _ hk => hk) trivial (Below.refl _ _) (Nat.le_refl _) (by simp) ?_; (case hd => rfl); (case hg => rfl); (case hr => first | (go_simp; done) | (go_simp; rfl)); (case hp => exact (Reps.one (show Kd.M (Kd.int .i64) _ _ _ 3 [.int .i64 3] from rfl) (Reps.one (show Kd.M (Kd.int .i64) _ _ _ 0 [.int .i64 0] from rfl) (Reps.none _ _)))); intro v198 w30 ho31 hb hg_ hnew_; clear hg_ hnew_; (first | rw [← Ny197.out] at ho31 | (simp only [Int.reduceToNat] at ho31; rw [← Ny197.out] at ho31)); have n0_ := zm (Kd.R_below (by (with_reducible repeat (first | apply zo | apply zp | apply zq)); exact HO173.out) hb); have n1_ := zm (Kd.R_below (by (with_reducible repeat (first | apply zo | apply zp | apply zq)); exact HO178.out) hb); have n2_ := zm (Kd.R_elder' (by (with_reducible repeat (first | apply zo | apply zp | apply zq)); exact HO182.out) (Kd.R_base ho31) hb); have n3_ := zm (Kd.R_elder' (by (with_reducible repeat (first | apply zo | apply zp | apply zq)); exact HO185.out) (Kd.R_base ho31) hb); have n4_ := zm (Kd.R_below (by (with_reducible repeat (first | apply zo | apply zp | apply zq)); exact HO189.out) hb); have n5_ := zm (Kd.R_elder' (by (with_reducible repeat (first | apply zo | apply zp | apply zq)); exact HO192.out) (Kd.R_base ho31) hb); have n6_ := zm (Kd.R_below (by (with_reducible repeat (first | apply zo | apply zp | apply zq)); exact HO196.out) hb); have n7_ := zm (Kd.R_lower (Kd.R_new' (Kd.R_new' (Kd.R_new' ho31 (Kd.R_lt (by (with_reducible repeat (first | apply zo | apply zp | apply zq)); exact HO182.out))) (Kd.R_lt (by (with_reducible repeat (first | apply zo | apply zp | apply zq)); exact HO185.out))) (Kd.R_lt (by (with_reducible repeat (first | apply zo | apply zp | apply zq)); exact HO192.out))) (zE (by repeat (first | (with_reducible first | exact HB.out | apply ze | apply zd | apply zf) | exact HB.out)))); have n8_ := zm (zJ (by repeat (first | (with_reducible first | exact HB.out | apply ze | apply zd | apply zf) | exact HB.out)) hb); clear HO173; clear HO178; clear HO182; clear HO185; clear HO189; clear HO192; clear HO196; clear HB; have HO173 := n0_; have HO178 := n1_; have HO182 := n2_; have HO185 := n3_; have HO189 := n4_; have HO192 := n5_; have HO196 := n6_; have HO199 := n7_; have HB := n8_; clear n0_ n1_ n2_ n3_ n4_ n5_ n6_ n7_ n8_; clear hb ho31; obtain ⟨Ao32, co32, eo32⟩ := Kd.R_slice HO182.out; subst eo32; obtain ⟨Ao33, co33, eo33⟩ := Kd.R_slice HO199.out; subst eo33) | (go_at_call 14; (with_reducible refine (psalteryref06_Same.calls k _ _ t179 _ _ y197 true _ ?side1 ?side2 ?side3 ?side4 A7.out).mono ?_); (case side1 => repeat (first | exact (Kd.R_reads' HO182.out).2.2 | (with_reducible refine Kd.C_alloc ?_ _) | (with_reducible refine Kd.C_drewN ?_ _) | (with_reducible refine Kd.C_drew ?_))); (case side2 => exact (Kd.R_reads' HO182.out).2.1); (case side3 => repeat (first | exact (Kd.R_reads' HO199.out).2.2 | (with_reducible refine Kd.C_alloc ?_ _) | (with_reducible refine Kd.C_drewN ?_ _) | (with_reducible refine Kd.C_drew ?_))); (case side4 => exact (Kd.R_reads' HO199.out).2.1); rintro e w' ⟨rfl, ⟨nd, rfl⟩⟩) | ((with_reducible refine gate_dst (N := 46) rfl ?_); (try (refine gate_guard (by rfl) ?_; dsimp only)); refine Kd.R_lit (Kd.int .i64) _ 2 ?hg (N := 46) ?hd (xs := ([0, (-7)] : List Int)) (inner := [.int .i64 0, .int .i64 (-7)]) (ok := fun _ => True) (okp := fun _ => True) ?hr ?hp (fun _ hk => hk) trivial (Below.refl _ _) (Nat.le_refl _) (by simp) ?_; (case hd => rfl); (case hg => rfl); (case hr => first | (go_simp; done) | (go_simp; rfl)); (case hp => exact (Reps.one (show Kd.M (Kd.int .i64) _ _ _ 0 [.int .i64 0] from rfl) (Reps.one (show Kd.M (Kd.int .i64) _ _ _ (-7) [.int .i64 (-7)] from rfl) (Reps.none _ _)))); intro v202 w34 ho35 hb hg_ hnew_; clear hg_ hnew_; (first | rw [← Ny201.out] at ho35 | (simp only [Int.reduceToNat] at ho35; rw [← Ny201.out] at ho35)); have n0_ := zm (Kd.R_elder' (by (with_reducible repeat (first | apply zo | apply zp | apply zq)); exact HO173.out) (Kd.R_base ho35) hb); have n1_ := zm (Kd.R_elder' (by (with_reducible repeat (first | apply zo | apply zp | apply zq)); exact HO178.out) (Kd.R_base ho35) hb); have n2_ := zm (Kd.R_below (by (with_reducible repeat (first | apply zo | apply zp | apply zq)); exact HO182.out) hb); have n3_ := zm (Kd.R_below (by (with_reducible repeat (first | apply zo | apply zp | apply zq)); exact HO185.out) hb); have n4_ := zm (Kd.R_elder' (by (with_reducible repeat (first | apply zo | apply zp | apply zq)); exact HO189.out) (Kd.R_base ho35) hb); have n5_ := zm (Kd.R_below (by (with_reducible repeat (first | apply zo | apply zp | apply zq)); exact HO192.out) hb); have n6_ := zm (Kd.R_elder' (by (with_reducible repeat (first | apply zo | apply zp | apply zq)); exact HO196.out) (Kd.R_base ho35) hb); have n7_ := zm (Kd.R_below (by (with_reducible repeat (first | apply zo | apply zp | apply zq)); exact HO199.out) hb); have n8_ := zm (Kd.R_lower (Kd.R_new' (Kd.R_new' (Kd.R_new' (Kd.R_new' ho35 (Kd.R_lt (by (with_reducible repeat (first | apply zo | apply zp | apply zq)); exact HO173.out))) (Kd.R_lt (by (with_reducible repeat (first | apply zo | apply zp | apply zq)); exact HO178.out))) (Kd.R_lt (by (with_reducible repeat (first | apply zo | apply zp | apply zq)); exact HO189.out))) (Kd.R_lt (by (with_reducible repeat (first | apply zo | apply zp | apply zq)); exact HO196.out))) (zE (by repeat (first | (with_reducible first | exact HB.out | apply ze | apply zd | apply zf) | exact HB.out)))); have n9_ := zm (zJ (by repeat (first | (with_reducible first | exact HB.out | apply ze | apply zd | apply zf) | exact HB.out)) hb); clear HO173; clear HO178; clear HO182; clear HO185; clear HO189; clear HO192; clear HO196; clear HO199; clear HB; have HO173 := n0_; have HO178 := n1_; have HO182 := n2_; have HO185 := n3_; have HO189 := n4_; have HO192 := n5_; have HO196 := n6_; have HO199 := n7_; have HO203 := n8_; have HB := n9_; clear n0_ n1_ n2_ n3_ n4_ n5_ n6_ n7_ n8_ n9_; clear hb ho35; obtain ⟨Ao36, co36, eo36⟩ := Kd.R_slice HO189.out; subst eo36; obtain ⟨Ao37, co37, eo37⟩ := Kd.R_slice HO203.out; subst eo37) | (go_at_call 18; (with_reducible refine (psalteryref07_Same.calls k _ _ t186 _ _ y201 true _ ?side1 ?side2 ?side3 ?side4 A10.out).mono ?_); (case side1 => repeat (first | exact (Kd.R_reads' HO189.out).2.2 | (with_reducible refine Kd.C_alloc ?_ _) | (with_reducible refine Kd.C_drewN ?_ _) | (with_reducible refine Kd.C_drew ?_))); (case side2 => exact (Kd.R_reads' HO189.out).2.1); (case side3 => repeat (first | exact (Kd.R_reads' HO203.out).2.2 | (with_reducible refine Kd.C_alloc ?_ _) | (with_reducible refine Kd.C_drewN ?_ _) | (with_reducible refine Kd.C_drew ?_))); (case side4 => exact (Kd.R_reads' HO203.out).2.1); rintro e w' ⟨rfl, ⟨nd, rfl⟩⟩) | ((with_reducible refine gate_dst (N := 55) rfl ?_); (try (refine gate_guard (by rfl) ?_; dsimp only)); refine Kd.R_lit (Kd.int .i64) _ 2 ?hg (N := 55) ?hd (xs := ([71, 71] : List Int)) (inner := [.int .i64 71, .int .i64 71]) (ok := fun _ => True) (okp := fun _ => True) ?hr ?hp (fun _ hk => hk) trivial (Below.refl _ _) (Nat.le_refl _) (by simp) ?_; (case hd => rfl); (case hg => rfl); (case hr => first | (go_simp; done) | (go_simp; rfl)); (case hp => exact (Reps.one (show Kd.M (Kd.int .i64) _ _ _ 71 [.int .i64 71] from rfl) (Reps.one (show Kd.M (Kd.int .i64) _ _ _ 71 [.int .i64 71] from rfl) (Reps.none _ _)))); intro v206 w38 ho39 hb hg_ hnew_; clear hg_ hnew_; (first | rw [← Ny205.out] at ho39 | (simp only [Int.reduceToNat] at ho39; rw [← Ny205.out] at ho39)); have n0_ := zm (Kd.R_elder' (by (with_reducible repeat (first | apply zo | apply zp | apply zq)); exact HO173.out) (Kd.R_base ho39) hb); have n1_ := zm (Kd.R_elder' (by (with_reducible repeat (first | apply zo | apply zp | apply zq)); exact HO178.out) (Kd.R_base ho39) hb); have n2_ := zm (Kd.R_below (by (with_reducible repeat (first | apply zo | apply zp | apply zq)); exact HO182.out) hb); have n3_ := zm (Kd.R_below (by (with_reducible repeat (first | apply zo | apply zp | apply zq)); exact HO185.out) hb); have n4_ := zm (Kd.R_elder' (by (with_reducible repeat (first | apply zo | apply zp | apply zq)); exact HO189.out) (Kd.R_base ho39) hb); have n5_ := zm (Kd.R_below (by (with_reducible repeat (first | apply zo | apply zp | apply zq)); exact HO192.out) hb); have n6_ := zm (Kd.R_elder' (by (with_reducible repeat (first | apply zo | apply zp | apply zq)); exact HO196.out) (Kd.R_base ho39) hb); have n7_ := zm (Kd.R_below (by (with_reducible repeat (first | apply zo | apply zp | apply zq)); exact HO199.out) hb); have n8_ := zm (Kd.R_elder' (by (with_reducible repeat (first | apply zo | apply zp | apply zq)); exact HO203.out) (Kd.R_base ho39) hb); have n9_ := zm (Kd.R_lower (Kd.R_new' (Kd.R_new' (Kd.R_new' (Kd.R_new' (Kd.R_new' ho39 (Kd.R_lt (by (with_reducible repeat (first | apply zo | apply zp | apply zq)); exact HO173.out))) (Kd.R_lt (by (with_reducible repeat (first | apply zo | apply zp | apply zq)); exact HO178.out))) (Kd.R_lt (by (with_reducible repeat (first | apply zo | apply zp | apply zq)); exact HO189.out))) (Kd.R_lt (by (with_reducible repeat (first | apply zo | apply zp | apply zq)); exact HO196.out))) (Kd.R_lt (by (with_reducible repeat (first | apply zo | apply zp | apply zq)); exact HO203.out))) (zE (by repeat (first | (with_reducible first | exact HB.out | apply ze | apply zd | apply zf) | exact HB.out)))); have n10_ := zm (zJ (by repeat (first | (with_reducible first | exact HB.out | apply ze | apply zd | apply zf) | exact HB.out)) hb); clear HO173; clear HO178; clear HO182; clear HO185; clear HO189; clear HO192; clear HO196; clear HO199; clear HO203; clear HB; have HO173 := n0_; have HO178 := n1_; have HO182 := n2_; have HO185 := n3_; have HO189 := n4_; have HO192 := n5_; have HO196 := n6_; have HO199 := n7_; have HO203 := n8_; have HO207 := n9_; have HB := n10_; clear n0_ n1_ n2_ n3_ n4_ n5_ n6_ n7_ n8_ n9_ n10_; clear hb ho39; obtain ⟨Ao40, co40, eo40⟩ := Kd.R_slice HO196.out; subst eo40; obtain ⟨Ao41, co41, eo41⟩ := Kd.R_slice HO207.out; subst eo41) | (go_at_call 18; (with_reducible refine (psalteryref07_Same.calls k _ _ t193 _ _ y205 true _ ?side1 ?side2 ?side3 ?side4 A13.out).mono ?_); (case side1 => repeat (first | exact (Kd.R_reads' HO196.out).2.2 | (with_reducible refine Kd.C_alloc ?_ _) | (with_reducible refine Kd.C_drewN ?_ _) | (with_reducible refine Kd.C_drew ?_))); (case side2 => exact (Kd.R_reads' HO196.out).2.1); (case side3 => repeat (first | exact (Kd.R_reads' HO207.out).2.2 | (with_reducible refine Kd.C_alloc ?_ _) | (with_reducible refine Kd.C_drewN ?_ _) | (with_reducible refine Kd.C_drew ?_))); (case side4 => exact (Kd.R_reads' HO207.out).2.1); rintro e w' ⟨rfl, ⟨nd, rfl⟩⟩))
        go_ret
        exact ⟨by first | rfl | (simp [errW_none, errW_some] <;> rfl) | (simp [*, errW_none, errW_some] <;> rfl), by repeat (first | (with_reducible first | exact HB.out | apply ze | apply zd | apply zf) | exact HB.out)⟩
       ·
        replace c14 := Bool.eq_false_iff.mpr c14
        subst c14
        have H1 : (none) = some r := by rw [if_neg (show ¬ (false = true) by decide)] at H; exact H
        clear H
        have H := H1
        clear H1
        exact absurd H (by simp)
      ·
       rw [if_neg c12] at H
       exact absurd H (by simp)
     ·
      replace c11 := Bool.eq_false_iff.mpr c11
      subst c11
      have H1 : (none) = some r := by rw [if_neg (show ¬ (false = true) by decide)] at H; exact H
      clear H
      have H := H1
      clear H1
      exact absurd H (by simp)
    ·
     rw [if_neg c9] at H
     exact absurd H (by simp)
   ·
    replace c8 := Bool.eq_false_iff.mpr c8
    subst c8
    have H1 : (none) = some r := by rw [if_neg (show ¬ (false = true) by decide)] at H; exact H
    clear H
    have H := H1
    clear H1
    exact absurd H (by simp)
  ·
   rw [if_neg c6] at H
   exact absurd H (by simp)
 ·
  rw [if_neg c5] at H
  exact absurd H (by simp)

end Go.Proofs.Ytllgjhenbchkfaa.Prt

namespace Go.Proofs.Ytllgjhenbchkfaa.Prt
open Go.RowKit Go.Proofs.YtllgjhenbchkfaaW.PrintWords Go.Proofs.YtllgjhenbchkfaaW.PrintLast Go.Proofs.YtllgjhenbchkfaaW.PrintMore
attribute [local go_sem] max2_int min2_int max_two min_two max_three min_three max_four min_four   -- for this text's walks alone
set_option linter.unusedVariables false
set_option linter.unusedSimpArgs false

/-! ### psalteryref06_Size: function 31 -/
def psalteryref06_Size.l0 : Nat → Int → Int → Option (Int)
 | 0, _, _ => none
 | k + 1, x0, x3 => if x3 ≤ 12 then (if x0 = x3 then (some x3) else (if x0 = (wrap64 (-x3)) then (some x3) else (psalteryref06_Size.l0 k x0 (wrap64 (x3 + 1))))) else (some 13)
def psalteryref06_Size.f (k : Nat) (a0 : Int) : Option (Int) := psalteryref06_Size.l0 k a0 0
theorem psalteryref06_Size.mono_l : ∀ k, (∀ y0 y1, LeO (psalteryref06_Size.l0 k y0 y1) (psalteryref06_Size.l0 (k + 1) y0 y1))
 | 0 => fun _ _ r h => by simp [psalteryref06_Size.l0] at h
 | k + 1 => by
  have ih0 := psalteryref06_Size.mono_l k
  ·
   intro y0 y1
   unfold psalteryref06_Size.l0
   repeat' first
   | (with_reducible exact ih0 _ _)
   | (with_reducible exact LeO.refl _)
   | (with_reducible exact LeO.none _)
   | (with_reducible refine LeO.ite ?_ ?_)
   | (with_reducible refine LeO.bind ?_ (fun _ => ?_))
   | exact ih0 _ _
   | exact LeO.none _
   | refine LeO.ite ?_ ?_
   | refine LeO.bind ?_ (fun _ => ?_)
theorem psalteryref06_Size.mono : ∀ a0 k, LeO (psalteryref06_Size.f k a0) (psalteryref06_Size.f (k + 1) a0) := by
 intro a0 k
 have ih0 := psalteryref06_Size.mono_l k
 unfold psalteryref06_Size.f
 repeat' first
   | (with_reducible exact ih0 _ _)
   | (with_reducible exact LeO.refl _)
   | (with_reducible exact LeO.none _)
   | (with_reducible refine LeO.ite ?_ ?_)
   | (with_reducible refine LeO.bind ?_ (fun _ => ?_))
   | exact ih0 _ _
   | exact LeO.none _
   | refine LeO.ite ?_ ?_
   | refine LeO.bind ?_ (fun _ => ?_)
set_option maxHeartbeats 8000000 in
set_option maxRecDepth 100000 in
theorem psalteryref06_Size.calls (k : Nat) (a0 : Int) (r : Int) (w : World) (h : psalteryref06_Size.f k a0 = some r) :
  Calls Try.prog 31 #[.int .i64 a0] w fun e w' => e = .returned (.int .i64 r) ∧ Drawn0 w w' := by
 have H : (psalteryref06_Size.l0 k a0 0) = some r := h
 clear h
 have H' := zm H
 clear H
 go_enter Try.func31, Try.ntmps31
 go_wp2
 go_loopg [3] k (fun kq v3 w' => ∃ (x3_1 : Int), v3 = .int .i64 x3_1 ∧ Aside0 (psalteryref06_Size.l0 kq a0 x3_1 = some r) ∧ Aside0 (kq ≤ k) ∧ Drawn0 w w')
 case atStart => exact ⟨(0), (by first | rfl | (simp; done) | (simp [*]; done)), H', ⟨Nat.le_refl _⟩, by repeat (first | exact Drawn0.refl _ | apply Drawn0.step)⟩
 case round =>
  clear H'
  obtain ⟨x3_1, rfl, HA, HK1, ⟨m1, rfl⟩⟩ := hrel
  cases gk with
  | zero => exact absurd HA.out (by simp [psalteryref06_Size.l0])
  | succ k1 =>
   have H := HA.out
   clear HA
   simp only [psalteryref06_Size.l0] at H
   by_cases c2 : x3_1 ≤ 12
   ·
    rw [if_pos c2] at H
    have c2b0 : decide (x3_1 ≤ 12) = true := decide_eq_true c2
    clear c2
    by_cases c3 : a0 = x3_1
    ·
     rw [if_pos c3] at H
     have c3b0 : (a0 == x3_1) = true := beq_iff_eq.mpr c3
     have c3b1 : (a0 != x3_1) = false := bne_eq_false_iff_eq.mpr c3
     clear c3
     obtain rfl := Option.some.inj H
     go_wp2
     go_ret
     exact ⟨by first | rfl | (simp; done) | (simp [*]; done), by repeat (first | exact Drawn0.refl _ | apply Drawn0.step)⟩
    ·
     rw [if_neg c3] at H
     have c3b0 : (a0 == x3_1) = false := beq_eq_false_iff_ne.mpr c3
     have c3b1 : (a0 != x3_1) = true := bne_iff_ne.mpr c3
     by_cases c4 : a0 = (wrap64 (-x3_1))
     ·
      rw [if_pos c4] at H
      have c4b0 : (a0 == (wrap64 (-x3_1))) = true := beq_iff_eq.mpr c4
      have c4b1 : (a0 != (wrap64 (-x3_1))) = false := bne_eq_false_iff_eq.mpr c4
      clear c4
      obtain rfl := Option.some.inj H
      go_wp2
      go_ret
      exact ⟨by first | rfl | (simp; done) | (simp [*]; done), by repeat (first | exact Drawn0.refl _ | apply Drawn0.step)⟩
     ·
      rw [if_neg c4] at H
      have c4b0 : (a0 == (wrap64 (-x3_1))) = false := beq_eq_false_iff_ne.mpr c4
      have c4b1 : (a0 != (wrap64 (-x3_1))) = true := bne_iff_ne.mpr c4
      have H' := zm H
      clear H
      go_wp2
      go_roundg k1
      case measure => have := HK1.out; omega
      case rel => exact ⟨(wrap64 (x3_1 + 1)), (by first | rfl | (simp; done) | (simp [*]; done)), H', ⟨by have := HK1.out; omega⟩, by repeat (first | exact Drawn0.refl _ | apply Drawn0.step)⟩
   ·
    rw [if_neg c2] at H
    have c2b0 : decide (x3_1 ≤ 12) = false := decide_eq_false c2
    clear c2
    obtain rfl := Option.some.inj H
    go_wp2
    go_ret
    exact ⟨by first | rfl | (simp; done) | (simp [*]; done), by repeat (first | exact Drawn0.refl _ | apply Drawn0.step)⟩

end Go.Proofs.Ytllgjhenbchkfaa.Prt

namespace Go.Proofs.Ytllgjhenbchkfaa.Prt
open Go.RowKit Go.Proofs.YtllgjhenbchkfaaW.PrintWords Go.Proofs.YtllgjhenbchkfaaW.PrintLast Go.Proofs.YtllgjhenbchkfaaW.PrintMore
attribute [local go_sem] max2_int min2_int max_two min_two max_three min_three max_four min_four   -- for this text's walks alone
set_option linter.unusedVariables false
set_option linter.unusedSimpArgs false

/-! ### psalteryref06_Pulses: function 17 -/
def psalteryref06_Pulses.l0 : Nat → List Int → Int → Int → Option (Int)
 | 0, _, _, _ => none
 | k + 1, x0, x3, x4 => if x4 < (x0.length : Int) then (if 0 ≤ x4 then ((psalteryref06_Size.f k (rd x0 x4)).bind fun t259 => (psalteryref06_Pulses.l0 k x0 (wrap64 (x3 + t259)) (wrap64 (x4 + 1)))) else (none)) else (some x3)
def psalteryref06_Pulses.f (k : Nat) (l0 : List Int) : Option (Int) := psalteryref06_Pulses.l0 k l0 0 0
theorem psalteryref06_Pulses.mono_l : ∀ k, (∀ y0 y1 y2, LeO (psalteryref06_Pulses.l0 k y0 y1 y2) (psalteryref06_Pulses.l0 (k + 1) y0 y1 y2))
 | 0 => fun _ _ _ r h => by simp [psalteryref06_Pulses.l0] at h
 | k + 1 => by
  have ih0 := psalteryref06_Pulses.mono_l k
  ·
   intro y0 y1 y2
   unfold psalteryref06_Pulses.l0
   repeat' first
   | (with_reducible exact ih0 _ _ _)
   | (with_reducible exact psalteryref06_Size.mono _ _)
   | (with_reducible exact LeO.refl _)
   | (with_reducible exact LeO.none _)
   | (with_reducible refine LeO.ite ?_ ?_)
   | (with_reducible refine LeO.bind ?_ (fun _ => ?_))
   | exact ih0 _ _ _
   | exact psalteryref06_Size.mono _ _
   | exact LeO.none _
   | refine LeO.ite ?_ ?_
   | refine LeO.bind ?_ (fun _ => ?_)
theorem psalteryref06_Pulses.mono : ∀ a0 k, LeO (psalteryref06_Pulses.f k a0) (psalteryref06_Pulses.f (k + 1) a0) := by
 intro a0 k
 have ih0 := psalteryref06_Pulses.mono_l k
 unfold psalteryref06_Pulses.f
 repeat' first
   | (with_reducible exact ih0 _ _ _)
   | (with_reducible exact psalteryref06_Size.mono _ _)
   | (with_reducible exact LeO.refl _)
   | (with_reducible exact LeO.none _)
   | (with_reducible refine LeO.ite ?_ ?_)
   | (with_reducible refine LeO.bind ?_ (fun _ => ?_))
   | exact ih0 _ _ _
   | exact psalteryref06_Size.mono _ _
   | exact LeO.none _
   | refine LeO.ite ?_ ?_
   | refine LeO.bind ?_ (fun _ => ?_)
set_option maxHeartbeats 8000000 in
set_option maxRecDepth 100000 in
theorem psalteryref06_Pulses.calls (k : Nat) (A0 : Option Addr) (c0 : Nat) (l0 : List Int) (r : Int) (w : World) (hr0 : Kd.C (Kd.int .i64) w A0 l0.length l0) (hc0 : l0.length ≤ c0) (h : psalteryref06_Pulses.f k l0 = some r) :
  Calls Try.prog 17 #[.slice A0 l0.length c0] w fun e w' => e = .returned (.int .i64 r) ∧ Drawn0 w w' := by
 have HR0 := zm hr0
 have HC0 := zm hc0
 clear hr0 hc0
 have H : (psalteryref06_Pulses.l0 k l0 0 0) = some r := h
 clear h
 have H' := zm H
 clear H
 go_enter Try.func17, Try.ntmps17
 go_wp2
 go_loopg [3, 4] k (fun kq v3 v4 w' => ∃ (x3_1 : Int) (x4_1 : Int), v3 = .int .i64 x3_1 ∧ v4 = .int .i64 x4_1 ∧ Aside0 (psalteryref06_Pulses.l0 kq l0 x3_1 x4_1 = some r) ∧ Aside0 (kq ≤ k) ∧ Drawn0 w w')
 case atStart => exact ⟨(0), (0), (by first | rfl | (simp; done) | (simp [*]; done)), (by first | rfl | (simp; done) | (simp [*]; done)), H', ⟨Nat.le_refl _⟩, by repeat (first | exact Drawn0.refl _ | apply Drawn0.step)⟩
 case round =>
  clear H'
  try clear c1
  obtain ⟨x3_1, x4_1, rfl, rfl, HA, HK1, ⟨m1, rfl⟩⟩ := hrel
  cases gk with
  | zero => exact absurd HA.out (by simp [psalteryref06_Pulses.l0])
  | succ k1 =>
   have H := HA.out
   clear HA
   simp only [psalteryref06_Pulses.l0] at H
   by_cases c2 : x4_1 < (l0.length : Int)
   ·
    rw [if_pos c2] at H
    have c2b0 : decide (x4_1 < (l0.length : Int)) = true := decide_eq_true c2
    clear c2
    by_cases c3 : 0 ≤ x4_1
    ·
     rw [if_pos c3] at H
     have c3b0 : decide (0 ≤ x4_1) = true := decide_eq_true c3
     clear c3
     replace H := Option.bind_eq_some_iff.mp H
     obtain ⟨t259, A40, H⟩ := H
     replace H : (psalteryref06_Pulses.l0 k1 l0 (wrap64 (x3_1 + t259)) (wrap64 (x4_1 + 1))) = some r := H
     have A4 := zm A40
     clear A40
     have H' := zm H
     clear H
     have p258 : 0 ≤ (x4_1 : Int) := of_decide_eq_true (by first | (with_reducible assumption) | assumption)
     have q258 : x4_1 < (l0.length : Int) := of_decide_eq_true (by first | (with_reducible assumption) | assumption)
     obtain ⟨ad258, e258, hx258_0⟩ := Kd.at_int HR0.out x4_1 p258 q258
     cases e258
     replace p258 := eq_true p258
     replace q258 := eq_true q258
     go_wp2_with (first | ((with_reducible refine gate_callee (f := 31) rfl ?_); refine goesL_ (some 16) rfl rfl Try.func31 (by kernel_rfl) rfl #[.int .i64 (rd l0 x4_1)] rfl (by (try simp only [List.map_toArray, List.map_cons, List.map_nil]); first | done | rfl | (simp only [List.length_drop, List.length_take]; rfl)) ?_; (with_reducible refine (psalteryref06_Size.calls k1 (rd l0 x4_1) t259 _ A4.out).mono ?_); rintro e w' ⟨rfl, ⟨nd, rfl⟩⟩; refine ⟨_, rfl, ?_⟩))
     go_roundg k1
     case measure => have := HK1.out; omega
     case rel => exact ⟨(wrap64 (x3_1 + t259)), (wrap64 (x4_1 + 1)), (by first | rfl | (simp; done) | (simp [*]; done)), (by first | rfl | (simp; done) | (simp [*]; done)), H', ⟨by have := HK1.out; omega⟩, by repeat (first | exact Drawn0.refl _ | apply Drawn0.step)⟩
    ·
     rw [if_neg c3] at H
     exact absurd H (by simp)
   ·
    rw [if_neg c2] at H
    have c2b0 : decide (x4_1 < (l0.length : Int)) = false := decide_eq_false c2
    clear c2
    obtain rfl := Option.some.inj H
    go_wp2
    go_ret
    exact ⟨by first | rfl | (simp; done) | (simp [*]; done), by repeat (first | exact Drawn0.refl _ | apply Drawn0.step)⟩

end Go.Proofs.Ytllgjhenbchkfaa.Prt

namespace Go.Proofs.Ytllgjhenbchkfaa.Prt
open Go.RowKit Go.Proofs.YtllgjhenbchkfaaW.PrintWords Go.Proofs.YtllgjhenbchkfaaW.PrintLast Go.Proofs.YtllgjhenbchkfaaW.PrintMore
attribute [local go_sem] max2_int min2_int max_two min_two max_three min_three max_four min_four   -- for this text's walks alone
set_option linter.unusedVariables false
set_option linter.unusedSimpArgs false

/-! ### psalterylaw07_PvqSigns: function 6 -/
mutual
def psalterylaw07_PvqSigns.l0 : Nat → List Int → Int → List Int → List Int → Int → Option (Bool)
 | 0, _, _, _, _, _ => none
 | k + 1, x0, x1, x5, x7, x8 => if x8 < (x0.length : Int) then (if 0 ≤ x8 then (if x7.length < 17592186044416 then (psalterylaw07_PvqSigns.l0 k x0 x1 x5 (x7 ++ [wrap64 (-(rd x0 x8))]) (wrap64 (x8 + 1))) else (none)) else (none)) else ((pvq_Search.f k x7 x1).bind fun bt302 => (if bt302.2 = 0 then (if (x5.length : Int) = (x0.length : Int) then (if (bt302.1.length : Int) = (x0.length : Int) then ((psalteryref06_Pulses.f k x5).bind fun t306 => (psalterylaw07_PvqSigns.j1 k x0 x5 bt302.1 (t306 != x1))) else (psalterylaw07_PvqSigns.j1 k x0 x5 bt302.1 true)) else (psalterylaw07_PvqSigns.j1 k x0 x5 bt302.1 true)) else (psalterylaw07_PvqSigns.j1 k x0 x5 bt302.1 true)))
def psalterylaw07_PvqSigns.j1 : Nat → List Int → List Int → List Int → Bool → Option (Bool)
 | 0, _, _, _, _ => none
 | k + 1, x0, x5, x9, x71 => if x71 = true then (none) else (psalterylaw07_PvqSigns.l1 k x0 x5 x9 0)
def psalterylaw07_PvqSigns.l1 : Nat → List Int → List Int → List Int → Int → Option (Bool)
 | 0, _, _, _, _ => none
 | k + 1, x0, x5, x9, x11 => if x11 < (x0.length : Int) then (if 0 ≤ x11 then (if (rd x0 x11) > 0 then (if x11 < (x5.length : Int) then (if (rd x5 x11) < 0 then (none) else (if (rd x0 x11) < 0 then (if (rd x5 x11) > 0 then (none) else (if (rd x0 x11) = 0 then (if x11 < (x9.length : Int) then (if (rd x9 x11) = (rd x5 x11) then (psalterylaw07_PvqSigns.l1 k x0 x5 x9 (wrap64 (x11 + 1))) else (none)) else (none)) else (if x11 < (x9.length : Int) then (if (rd x9 x11) = (wrap64 (-(rd x5 x11))) then (psalterylaw07_PvqSigns.l1 k x0 x5 x9 (wrap64 (x11 + 1))) else (none)) else (none)))) else (if (rd x0 x11) = 0 then (if x11 < (x9.length : Int) then (if (rd x9 x11) = (rd x5 x11) then (psalterylaw07_PvqSigns.l1 k x0 x5 x9 (wrap64 (x11 + 1))) else (none)) else (none)) else (if x11 < (x9.length : Int) then (if (rd x9 x11) = (wrap64 (-(rd x5 x11))) then (psalterylaw07_PvqSigns.l1 k x0 x5 x9 (wrap64 (x11 + 1))) else (none)) else (none))))) else (none)) else (if (rd x0 x11) < 0 then (if x11 < (x5.length : Int) then (if (rd x5 x11) > 0 then (none) else (if (rd x0 x11) = 0 then (if x11 < (x9.length : Int) then (if (rd x9 x11) = (rd x5 x11) then (psalterylaw07_PvqSigns.l1 k x0 x5 x9 (wrap64 (x11 + 1))) else (none)) else (none)) else (if x11 < (x9.length : Int) then (if (rd x9 x11) = (wrap64 (-(rd x5 x11))) then (psalterylaw07_PvqSigns.l1 k x0 x5 x9 (wrap64 (x11 + 1))) else (none)) else (none)))) else (none)) else (if (rd x0 x11) = 0 then (if x11 < (x9.length : Int) then (if x11 < (x5.length : Int) then (if (rd x9 x11) = (rd x5 x11) then (psalterylaw07_PvqSigns.l1 k x0 x5 x9 (wrap64 (x11 + 1))) else (none)) else (none)) else (none)) else (if x11 < (x9.length : Int) then (if x11 < (x5.length : Int) then (if (rd x9 x11) = (wrap64 (-(rd x5 x11))) then (psalterylaw07_PvqSigns.l1 k x0 x5 x9 (wrap64 (x11 + 1))) else (none)) else (none)) else (none))))) else (none)) else ((psalterylaw07_knows.f k).bind fun t341 => (some t341))
end
def psalterylaw07_PvqSigns.f (k : Nat) (l0 : List Int) (a1 : Int) : Option (Bool) := if (l0.length : Int) > 100 then ((psalterylaw07_knows.f k).bind fun t292 => (some t292)) else ((pvq_Search.f k l0 a1).bind fun bt293 => (if bt293.2 = 0 then (psalterylaw07_PvqSigns.l0 k l0 a1 bt293.1 ([] : List Int) 0) else (if (bt293.1.length : Int) = 0 then ((psalterylaw07_knows.f k).bind fun t297 => (some t297)) else (none))))
theorem psalterylaw07_PvqSigns.mono_l : ∀ k, (∀ y0 y1 y2 y3 y4, LeO (psalterylaw07_PvqSigns.l0 k y0 y1 y2 y3 y4) (psalterylaw07_PvqSigns.l0 (k + 1) y0 y1 y2 y3 y4)) ∧ (∀ y0 y1 y2 y3, LeO (psalterylaw07_PvqSigns.j1 k y0 y1 y2 y3) (psalterylaw07_PvqSigns.j1 (k + 1) y0 y1 y2 y3)) ∧ (∀ y0 y1 y2 y3, LeO (psalterylaw07_PvqSigns.l1 k y0 y1 y2 y3) (psalterylaw07_PvqSigns.l1 (k + 1) y0 y1 y2 y3))
 | 0 => ⟨fun _ _ _ _ _ r h => by simp [psalterylaw07_PvqSigns.l0] at h, fun _ _ _ _ r h => by simp [psalterylaw07_PvqSigns.j1] at h, fun _ _ _ _ r h => by simp [psalterylaw07_PvqSigns.l1] at h⟩
 | k + 1 => by
  obtain ⟨ih0, ih1, ih2⟩ := psalterylaw07_PvqSigns.mono_l k
  refine ⟨?_, ?_, ?_⟩
  ·
   intro y0 y1 y2 y3 y4
   unfold psalterylaw07_PvqSigns.l0
   repeat' first
   | (with_reducible exact ih0 _ _ _ _ _)
   | (with_reducible exact ih1 _ _ _ _)
   | (with_reducible exact ih2 _ _ _ _)
   | (with_reducible exact psalterylaw07_knows.mono _)
   | (with_reducible exact psalteryref06_Pulses.mono _ _)
   | (with_reducible exact pvq_Search.mono _ _ _)
   | (with_reducible exact LeO.refl _)
   | (with_reducible exact LeO.none _)
   | (with_reducible refine LeO.ite ?_ ?_)
   | (with_reducible refine LeO.bind ?_ (fun _ => ?_))
   | exact ih0 _ _ _ _ _
   | exact ih1 _ _ _ _
   | exact ih2 _ _ _ _
   | exact psalterylaw07_knows.mono _
   | exact psalteryref06_Pulses.mono _ _
   | exact pvq_Search.mono _ _ _
   | exact LeO.none _
   | refine LeO.ite ?_ ?_
   | refine LeO.bind ?_ (fun _ => ?_)
  ·
   intro y0 y1 y2 y3
   unfold psalterylaw07_PvqSigns.j1
   repeat' first
   | (with_reducible exact ih0 _ _ _ _ _)
   | (with_reducible exact ih1 _ _ _ _)
   | (with_reducible exact ih2 _ _ _ _)
   | (with_reducible exact psalterylaw07_knows.mono _)
   | (with_reducible exact psalteryref06_Pulses.mono _ _)
   | (with_reducible exact pvq_Search.mono _ _ _)
   | (with_reducible exact LeO.refl _)
   | (with_reducible exact LeO.none _)
   | (with_reducible refine LeO.ite ?_ ?_)
   | (with_reducible refine LeO.bind ?_ (fun _ => ?_))
   | exact ih0 _ _ _ _ _
   | exact ih1 _ _ _ _
   | exact ih2 _ _ _ _
   | exact psalterylaw07_knows.mono _
   | exact psalteryref06_Pulses.mono _ _
   | exact pvq_Search.mono _ _ _
   | exact LeO.none _
   | refine LeO.ite ?_ ?_
   | refine LeO.bind ?_ (fun _ => ?_)
  ·
   intro y0 y1 y2 y3
   unfold psalterylaw07_PvqSigns.l1
   repeat' first
   | (with_reducible exact ih0 _ _ _ _ _)
   | (with_reducible exact ih1 _ _ _ _)
   | (with_reducible exact ih2 _ _ _ _)
   | (with_reducible exact psalterylaw07_knows.mono _)
   | (with_reducible exact psalteryref06_Pulses.mono _ _)
   | (with_reducible exact pvq_Search.mono _ _ _)
   | (with_reducible exact LeO.refl _)
   | (with_reducible exact LeO.none _)
   | (with_reducible refine LeO.ite ?_ ?_)
   | (with_reducible refine LeO.bind ?_ (fun _ => ?_))
   | exact ih0 _ _ _ _ _
   | exact ih1 _ _ _ _
   | exact ih2 _ _ _ _
   | exact psalterylaw07_knows.mono _
   | exact psalteryref06_Pulses.mono _ _
   | exact pvq_Search.mono _ _ _
   | exact LeO.none _
   | refine LeO.ite ?_ ?_
   | refine LeO.bind ?_ (fun _ => ?_)
theorem psalterylaw07_PvqSigns.mono : ∀ a0 a1 k, LeO (psalterylaw07_PvqSigns.f k a0 a1) (psalterylaw07_PvqSigns.f (k + 1) a0 a1) := by
 intro a0 a1 k
 obtain ⟨ih0, ih1, ih2⟩ := psalterylaw07_PvqSigns.mono_l k
 unfold psalterylaw07_PvqSigns.f
 repeat' first
   | (with_reducible exact ih0 _ _ _ _ _)
   | (with_reducible exact ih1 _ _ _ _)
   | (with_reducible exact ih2 _ _ _ _)
   | (with_reducible exact psalterylaw07_knows.mono _)
   | (with_reducible exact psalteryref06_Pulses.mono _ _)
   | (with_reducible exact pvq_Search.mono _ _ _)
   | (with_reducible exact LeO.refl _)
   | (with_reducible exact LeO.none _)
   | (with_reducible refine LeO.ite ?_ ?_)
   | (with_reducible refine LeO.bind ?_ (fun _ => ?_))
   | exact ih0 _ _ _ _ _
   | exact ih1 _ _ _ _
   | exact ih2 _ _ _ _
   | exact psalterylaw07_knows.mono _
   | exact psalteryref06_Pulses.mono _ _
   | exact pvq_Search.mono _ _ _
   | exact LeO.none _
   | refine LeO.ite ?_ ?_
   | refine LeO.bind ?_ (fun _ => ?_)
set_option maxHeartbeats 8000000 in
set_option maxRecDepth 100000 in
theorem psalterylaw07_PvqSigns.calls (k : Nat) (A0 : Option Addr) (c0 : Nat) (l0 : List Int) (a1 : Int) (r : Bool) (w : World) (hr0 : Kd.C (Kd.int .i64) w A0 l0.length l0) (hc0 : l0.length ≤ c0) (h : psalterylaw07_PvqSigns.f k l0 a1 = some r) :
  Calls Try.prog 6 #[.slice A0 l0.length c0, .int .i64 a1] w fun e w' => e = .returned (.bool r) ∧ Below w.heap.size w w' := by
 have HR0 := zm hr0
 have HC0 := zm hc0
 clear hr0 hc0
 have HB := zm (Below.refl w.heap.size w)
 have H : (if (l0.length : Int) > 100 then ((psalterylaw07_knows.f k).bind fun t292 => (some t292)) else ((pvq_Search.f k l0 a1).bind fun bt293 => (if bt293.2 = 0 then (psalterylaw07_PvqSigns.l0 k l0 a1 bt293.1 ([] : List Int) 0) else (if (bt293.1.length : Int) = 0 then ((psalterylaw07_knows.f k).bind fun t297 => (some t297)) else (none))))) = some r := h
 clear h
 by_cases c3 : (l0.length : Int) > 100
 ·
  rw [if_pos c3] at H
  have c3b0 : decide (100 < (l0.length : Int)) = true := decide_eq_true c3
  have c3b1 : decide (100 < l0.length) = true := decide_eq_true (by omega)
  clear c3
  replace H := Option.bind_eq_some_iff.mp H
  obtain ⟨t292, A40, H⟩ := H
  replace H : (some t292) = some r := H
  have A4 := zm A40
  clear A40
  obtain rfl := Option.some.inj H
  go_enter Try.func6, Try.ntmps6
  go_wp2_with (first | (go_at_call 9; (with_reducible refine (psalterylaw07_knows.calls k  t292 _ A4.out).mono ?_); rintro e w5 ⟨rfl, hb⟩; have n0_ := zm (zJ (by repeat (first | (with_reducible first | exact HB.out | apply ze | apply zd | apply zf) | exact HB.out)) hb); clear HB; have HB := n0_; clear n0_; (try clear hb); (try clear hb2); (try clear hk); (try clear hi)))
  repeat (go_quiet (first | (go_at_call 9; (with_reducible refine (psalterylaw07_knows.calls k  t292 _ A4.out).mono ?_); rintro e w5 ⟨rfl, hb⟩; have n0_ := zm (zJ (by repeat (first | (with_reducible first | exact HB.out | apply ze | apply zd | apply zf) | exact HB.out)) hb); clear HB; have HB := n0_; clear n0_; (try clear hb); (try clear hb2); (try clear hk); (try clear hi))); try go_wp2_with (first | (go_at_call 9; (with_reducible refine (psalterylaw07_knows.calls k  t292 _ A4.out).mono ?_); rintro e w5 ⟨rfl, hb⟩; have n0_ := zm (zJ (by repeat (first | (with_reducible first | exact HB.out | apply ze | apply zd | apply zf) | exact HB.out)) hb); clear HB; have HB := n0_; clear n0_; (try clear hb); (try clear hb2); (try clear hk); (try clear hi))))
  go_ret
  exact ⟨by first | rfl | (simp [errW_none, errW_some] <;> rfl) | (simp [*, errW_none, errW_some] <;> rfl), by repeat (first | (with_reducible first | exact HB.out | apply ze | apply zd | apply zf) | exact HB.out)⟩
 ·
  rw [if_neg c3] at H
  have c3b0 : decide (100 < (l0.length : Int)) = false := decide_eq_false c3
  have c3b1 : decide (100 < l0.length) = false := decide_eq_false (by omega)
  clear c3
  replace H := Option.bind_eq_some_iff.mp H
  obtain ⟨⟨t293, t294⟩, A60, H⟩ := H
  replace H : (if t294 = 0 then (psalterylaw07_PvqSigns.l0 k l0 a1 t293 ([] : List Int) 0) else (if (t293.length : Int) = 0 then ((psalterylaw07_knows.f k).bind fun t297 => (some t297)) else (none))) = some r := H
  have A6 := zm A60
  clear A60
  by_cases c7 : t294 = 0
  ·
   rw [if_pos c7] at H
   have c7b0 : (t294 == 0) = true := beq_iff_eq.mpr c7
   have c7b1 : (t294 != 0) = false := bne_eq_false_iff_eq.mpr c7
   clear c7
   have H' := zm H
   clear H
   go_enter Try.func6, Try.ntmps6
   go_wp2_with (first | (go_at_call 13; (with_reducible refine (pvq_Search.calls k _ _ l0 a1 t293 t294 _ ?side1 ?side2 A6.out).mono ?_); (case side1 => repeat (first | exact HR0.out | (with_reducible refine Kd.C_alloc ?_ _) | (with_reducible refine Kd.C_drewN ?_ _) | (with_reducible refine Kd.C_drew ?_))); (case side2 => exact HC0.out); rintro e w8 ⟨v295, rfl, ho0, hb⟩; have n0_ := zm (Kd.R_lower ho0 (zE (by repeat (first | (with_reducible first | exact HB.out | apply ze | apply zd | apply zf) | exact HB.out)))); have n1_ := zm (zJ (by repeat (first | (with_reducible first | exact HB.out | apply ze | apply zd | apply zf) | exact HB.out)) hb); clear HB; have HO296 := n0_; have HB := n1_; clear n0_ n1_; (try clear hb); (try clear hb2); (try clear hk); (try clear hi); (try clear ho0)))
   repeat (go_quiet (first | (go_at_call 13; (with_reducible refine (pvq_Search.calls k _ _ l0 a1 t293 t294 _ ?side1 ?side2 A6.out).mono ?_); (case side1 => repeat (first | exact HR0.out | (with_reducible refine Kd.C_alloc ?_ _) | (with_reducible refine Kd.C_drewN ?_ _) | (with_reducible refine Kd.C_drew ?_))); (case side2 => exact HC0.out); rintro e w8 ⟨v295, rfl, ho0, hb⟩; have n0_ := zm (Kd.R_lower ho0 (zE (by repeat (first | (with_reducible first | exact HB.out | apply ze | apply zd | apply zf) | exact HB.out)))); have n1_ := zm (zJ (by repeat (first | (with_reducible first | exact HB.out | apply ze | apply zd | apply zf) | exact HB.out)) hb); clear HB; have HO296 := n0_; have HB := n1_; clear n0_ n1_; (try clear hb); (try clear hb2); (try clear hk); (try clear hi); (try clear ho0))); try go_wp2_with (first | (go_at_call 13; (with_reducible refine (pvq_Search.calls k _ _ l0 a1 t293 t294 _ ?side1 ?side2 A6.out).mono ?_); (case side1 => repeat (first | exact HR0.out | (with_reducible refine Kd.C_alloc ?_ _) | (with_reducible refine Kd.C_drewN ?_ _) | (with_reducible refine Kd.C_drew ?_))); (case side2 => exact HC0.out); rintro e w8 ⟨v295, rfl, ho0, hb⟩; have n0_ := zm (Kd.R_lower ho0 (zE (by repeat (first | (with_reducible first | exact HB.out | apply ze | apply zd | apply zf) | exact HB.out)))); have n1_ := zm (zJ (by repeat (first | (with_reducible first | exact HB.out | apply ze | apply zd | apply zf) | exact HB.out)) hb); clear HB; have HO296 := n0_; have HB := n1_; clear n0_ n1_; (try clear hb); (try clear hb2); (try clear hk); (try clear hi); (try clear ho0))))
   go_loopg [7, 8] k (fun kq v7 v8 w' => ∃ (x7_1 : List Int) (x8_1 : Int), v8 = .int .i64 x8_1 ∧ Aside0 (psalterylaw07_PvqSigns.l0 kq l0 a1 t293 x7_1 x8_1 = some r) ∧ Aside0 (kq ≤ k) ∧ Aside0 (Kd.R (Kd.int .i64) 3 w' w.heap.size (fun _ => True) v295 t293) ∧ Aside0 (Kd.R (Kd.int .i64) 2 w' w.heap.size (fun _ => True) v7 x7_1) ∧ Aside0 (Below w.heap.size w w'))
   case atStart => exact ⟨(([] : List Int)), (0), (by first | rfl | (simp; done) | (simp [*]; done)), H', ⟨Nat.le_refl _⟩, ⟨by (with_reducible repeat (first | apply zo | apply zp | apply zq)); exact HO296.out⟩, ⟨by first | exact Kd.R_nil _ _ _ _ _ | exact Kd.N_nil _ _ _ _ _ | exact Kd.V_nil _ _ _ _ _ | exact Kd.Q_nil _ _ _ _ _ | exact Kd.S_nil _ _ _ _ _⟩, ⟨by repeat (first | (with_reducible first | exact HB.out | apply ze | apply zd | apply zf) | exact HB.out)⟩⟩
   case round =>
    clear H'
    try clear p2
    try clear c3
    try clear c3b0
    try clear c3b1
    try clear c6
    try clear c7
    try clear c7b0
    try clear c7b1
    obtain ⟨x7_1, x8_1, rfl, HA, HK1, HO_5, HO_7, HB⟩ := hrel
    cases gk with
    | zero => exact absurd HA.out (by simp [psalterylaw07_PvqSigns.l0])
    | succ k1 =>
     have H := HA.out
     clear HA
     simp only [psalterylaw07_PvqSigns.l0] at H
     by_cases c9 : x8_1 < (l0.length : Int)
     ·
      rw [if_pos c9] at H
      have c9b0 : decide (x8_1 < (l0.length : Int)) = true := decide_eq_true c9
      clear c9
      by_cases c10 : 0 ≤ x8_1
      ·
       rw [if_pos c10] at H
       have c10b0 : decide (0 ≤ x8_1) = true := decide_eq_true c10
       clear c10
       by_cases c11 : x7_1.length < 17592186044416
       ·
        rw [if_pos c11] at H
        have LMc11 := zm c11
        clear c11
        obtain ⟨y299, hy299⟩ : ∃ y_ : List Int, y_ = (x7_1 ++ [wrap64 (-(rd l0 x8_1))]) := ⟨_, rfl⟩
        replace H : (psalterylaw07_PvqSigns.l0 k1 l0 a1 t293 y299 (wrap64 (x8_1 + 1))) = some r := by first | (rw [hy299]; with_reducible exact H) | (have H2_ := (Option.bind_some _ _).symm.trans H; rw [hy299]; with_reducible exact H2_) | (have H2_ := (Option.bind_some _ _).symm.trans H; with_reducible exact H2_) | with_reducible exact H | (rw [hy299]; exact H) | exact H
        have Ny299 := zm hy299
        clear hy299
        have H' := zm H
        clear H
        have p298 : 0 ≤ (x8_1 : Int) := of_decide_eq_true (by first | (with_reducible assumption) | assumption)
        have q298 : x8_1 < (l0.length : Int) := of_decide_eq_true (by first | (with_reducible assumption) | assumption)
        obtain ⟨ad298, e298, hx298_0⟩ := Kd.at_int HR0.out x8_1 p298 q298
        cases e298
        replace hx298_0 := (HB.out.cell (zb w _ hx298_0)).trans hx298_0
        replace p298 := eq_true p298
        replace q298 := eq_true q298
        go_wp2_with (first | ((with_reducible refine gate_builtin (b := .append) (xs := #[.tmp 36, .tmp 42]) rfl ?_); (try (refine gate_guard (by rfl) ?_; dsimp only)); at_builtin; refine Kd.R_append (Kd.int .i64) (w0 := w) w.heap.size rfl (.tmp 36) (.tmp 42) 22 2 (.int .i64 0) 8 rfl Try.underlying22 info2 rfl (by decide) (by omega) u7 x7_1 (wrap64 (-(rd l0 x8_1))) [.int .i64 (wrap64 (-(rd l0 x8_1)))] (fun _ => True) (fun _ => False) rfl rfl ?aP (fun _ hk => hk.elim) ?aF ?aO ?aB ?aS ?aL ?_; (case aP => exact rfl); (case aB => exact (by repeat (first | (with_reducible first | exact HB.out | apply ze | apply zd | apply zf) | exact HB.out))); (case aF => exact (fun _ _ => trivial)); (case aO => exact (by (with_reducible repeat (first | apply zo | apply zp | apply zq)); exact HO_7.out)); (case aS => exact (zE (by repeat (first | (with_reducible first | exact HB.out | apply ze | apply zd | apply zf) | exact HB.out)))); (case aL => have := LMc11.out; omega); intro v300 w12 ho hb hg hat; rw [← Ny299.out] at ho; have n0_ := zm (Kd.R_over' (by (with_reducible repeat (first | apply zo | apply zp | apply zq)); exact HO_5.out) (Kd.R_typed (by (with_reducible repeat (first | apply zo | apply zp | apply zq)); exact HO_7.out)) (by decide) hg); have n1_ := zm (hb); have n2_ := zm (ho); clear HO_5; clear HB; clear HO_7; have HO_5 := n0_; have HB := n1_; have HO301 := n2_; clear n0_ n1_ n2_; clear ho hb hg hat))
        repeat (go_quiet (first | ((with_reducible refine gate_builtin (b := .append) (xs := #[.tmp 36, .tmp 42]) rfl ?_); (try (refine gate_guard (by rfl) ?_; dsimp only)); at_builtin; refine Kd.R_append (Kd.int .i64) (w0 := w) w.heap.size rfl (.tmp 36) (.tmp 42) 22 2 (.int .i64 0) 8 rfl Try.underlying22 info2 rfl (by decide) (by omega) u7 x7_1 (wrap64 (-(rd l0 x8_1))) [.int .i64 (wrap64 (-(rd l0 x8_1)))] (fun _ => True) (fun _ => False) rfl rfl ?aP (fun _ hk => hk.elim) ?aF ?aO ?aB ?aS ?aL ?_; (case aP => exact rfl); (case aB => exact (by repeat (first | (with_reducible first | exact HB.out | apply ze | apply zd | apply zf) | exact HB.out))); (case aF => exact (fun _ _ => trivial)); (case aO => exact (by (with_reducible repeat (first | apply zo | apply zp | apply zq)); exact HO_7.out)); (case aS => exact (zE (by repeat (first | (with_reducible first | exact HB.out | apply ze | apply zd | apply zf) | exact HB.out)))); (case aL => have := LMc11.out; omega); intro v300 w12 ho hb hg hat; rw [← Ny299.out] at ho; have n0_ := zm (Kd.R_over' (by (with_reducible repeat (first | apply zo | apply zp | apply zq)); exact HO_5.out) (Kd.R_typed (by (with_reducible repeat (first | apply zo | apply zp | apply zq)); exact HO_7.out)) (by decide) hg); have n1_ := zm (hb); have n2_ := zm (ho); clear HO_5; clear HB; clear HO_7; have HO_5 := n0_; have HB := n1_; have HO301 := n2_; clear n0_ n1_ n2_; clear ho hb hg hat)); try go_wp2_with (first | ((with_reducible refine gate_builtin (b := .append) (xs := #[.tmp 36, .tmp 42]) rfl ?_); (try (refine gate_guard (by rfl) ?_; dsimp only)); at_builtin; refine Kd.R_append (Kd.int .i64) (w0 := w) w.heap.size rfl (.tmp 36) (.tmp 42) 22 2 (.int .i64 0) 8 rfl Try.underlying22 info2 rfl (by decide) (by omega) u7 x7_1 (wrap64 (-(rd l0 x8_1))) [.int .i64 (wrap64 (-(rd l0 x8_1)))] (fun _ => True) (fun _ => False) rfl rfl ?aP (fun _ hk => hk.elim) ?aF ?aO ?aB ?aS ?aL ?_; (case aP => exact rfl); (case aB => exact (by repeat (first | (with_reducible first | exact HB.out | apply ze | apply zd | apply zf) | exact HB.out))); (case aF => exact (fun _ _ => trivial)); (case aO => exact (by (with_reducible repeat (first | apply zo | apply zp | apply zq)); exact HO_7.out)); (case aS => exact (zE (by repeat (first | (with_reducible first | exact HB.out | apply ze | apply zd | apply zf) | exact HB.out)))); (case aL => have := LMc11.out; omega); intro v300 w12 ho hb hg hat; rw [← Ny299.out] at ho; have n0_ := zm (Kd.R_over' (by (with_reducible repeat (first | apply zo | apply zp | apply zq)); exact HO_5.out) (Kd.R_typed (by (with_reducible repeat (first | apply zo | apply zp | apply zq)); exact HO_7.out)) (by decide) hg); have n1_ := zm (hb); have n2_ := zm (ho); clear HO_5; clear HB; clear HO_7; have HO_5 := n0_; have HB := n1_; have HO301 := n2_; clear n0_ n1_ n2_; clear ho hb hg hat)))
        go_roundg k1
        case measure => have := HK1.out; omega
        case rel => exact ⟨(y299), (wrap64 (x8_1 + 1)), (by first | rfl | (simp; done) | (simp [*]; done)), H', ⟨by have := HK1.out; omega⟩, ⟨by (with_reducible repeat (first | apply zo | apply zp | apply zq)); exact HO_5.out⟩, ⟨by (with_reducible repeat (first | apply zo | apply zp | apply zq)); exact HO301.out⟩, ⟨by repeat (first | (with_reducible first | exact HB.out | apply ze | apply zd | apply zf) | exact HB.out)⟩⟩
       ·
        rw [if_neg c11] at H
        exact absurd H (by simp)
      ·
       rw [if_neg c10] at H
       exact absurd H (by simp)
     ·
      rw [if_neg c9] at H
      have c9b0 : decide (x8_1 < (l0.length : Int)) = false := decide_eq_false c9
      clear c9
      replace H := Option.bind_eq_some_iff.mp H
      obtain ⟨⟨t302, t303⟩, A130, H⟩ := H
      replace H : (if t303 = 0 then (if (t293.length : Int) = (l0.length : Int) then (if (t302.length : Int) = (l0.length : Int) then ((psalteryref06_Pulses.f k1 t293).bind fun t306 => (psalterylaw07_PvqSigns.j1 k1 l0 t293 t302 (t306 != a1))) else (psalterylaw07_PvqSigns.j1 k1 l0 t293 t302 true)) else (psalterylaw07_PvqSigns.j1 k1 l0 t293 t302 true)) else (psalterylaw07_PvqSigns.j1 k1 l0 t293 t302 true)) = some r := H
      have A13 := zm A130
      clear A130
      have HC14 := zm H
      clear H
      obtain ⟨Ao15, co15, eo15⟩ := Kd.R_slice HO_7.out
      subst eo15
      go_upto_region 12 with (first | (go_at_call 13; (with_reducible refine (pvq_Search.calls k1 _ _ x7_1 a1 t302 t303 _ ?side1 ?side2 A13.out).mono ?_); (case side1 => repeat (first | exact (Kd.R_reads' HO_7.out).2.2 | (with_reducible refine Kd.C_alloc ?_ _) | (with_reducible refine Kd.C_drewN ?_ _) | (with_reducible refine Kd.C_drew ?_))); (case side2 => exact (Kd.R_reads' HO_7.out).2.1); rintro e w16 ⟨v304, rfl, ho0, hb⟩; have n0_ := zm (Kd.R_elder' (by (with_reducible repeat (first | apply zo | apply zp | apply zq)); exact HO_5.out) (Kd.R_base ho0) hb); have n1_ := zm (Kd.R_below (by (with_reducible repeat (first | apply zo | apply zp | apply zq)); exact HO_7.out) hb); have n2_ := zm (Kd.R_lower (Kd.R_new' ho0 (Kd.R_lt (by (with_reducible repeat (first | apply zo | apply zp | apply zq)); exact HO_5.out))) (zE (by repeat (first | (with_reducible first | exact HB.out | apply ze | apply zd | apply zf) | exact HB.out)))); have n3_ := zm (zJ (by repeat (first | (with_reducible first | exact HB.out | apply ze | apply zd | apply zf) | exact HB.out)) hb); clear HO_5; clear HO_7; clear HB; have HO_5 := n0_; have HO_7 := n1_; have HO305 := n2_; have HB := n3_; clear n0_ n1_ n2_ n3_; (try clear hb); (try clear hb2); (try clear hk); (try clear hi); (try clear ho0)))
      repeat (go_quiet (first | (go_at_call 13; (with_reducible refine (pvq_Search.calls k1 _ _ x7_1 a1 t302 t303 _ ?side1 ?side2 A13.out).mono ?_); (case side1 => repeat (first | exact (Kd.R_reads' HO_7.out).2.2 | (with_reducible refine Kd.C_alloc ?_ _) | (with_reducible refine Kd.C_drewN ?_ _) | (with_reducible refine Kd.C_drew ?_))); (case side2 => exact (Kd.R_reads' HO_7.out).2.1); rintro e w16 ⟨v304, rfl, ho0, hb⟩; have n0_ := zm (Kd.R_elder' (by (with_reducible repeat (first | apply zo | apply zp | apply zq)); exact HO_5.out) (Kd.R_base ho0) hb); have n1_ := zm (Kd.R_below (by (with_reducible repeat (first | apply zo | apply zp | apply zq)); exact HO_7.out) hb); have n2_ := zm (Kd.R_lower (Kd.R_new' ho0 (Kd.R_lt (by (with_reducible repeat (first | apply zo | apply zp | apply zq)); exact HO_5.out))) (zE (by repeat (first | (with_reducible first | exact HB.out | apply ze | apply zd | apply zf) | exact HB.out)))); have n3_ := zm (zJ (by repeat (first | (with_reducible first | exact HB.out | apply ze | apply zd | apply zf) | exact HB.out)) hb); clear HO_5; clear HO_7; clear HB; have HO_5 := n0_; have HO_7 := n1_; have HO305 := n2_; have HB := n3_; clear n0_ n1_ n2_ n3_; (try clear hb); (try clear hb2); (try clear hk); (try clear hi); (try clear ho0))); go_upto_region 12 with (first | (go_at_call 13; (with_reducible refine (pvq_Search.calls k1 _ _ x7_1 a1 t302 t303 _ ?side1 ?side2 A13.out).mono ?_); (case side1 => repeat (first | exact (Kd.R_reads' HO_7.out).2.2 | (with_reducible refine Kd.C_alloc ?_ _) | (with_reducible refine Kd.C_drewN ?_ _) | (with_reducible refine Kd.C_drew ?_))); (case side2 => exact (Kd.R_reads' HO_7.out).2.1); rintro e w16 ⟨v304, rfl, ho0, hb⟩; have n0_ := zm (Kd.R_elder' (by (with_reducible repeat (first | apply zo | apply zp | apply zq)); exact HO_5.out) (Kd.R_base ho0) hb); have n1_ := zm (Kd.R_below (by (with_reducible repeat (first | apply zo | apply zp | apply zq)); exact HO_7.out) hb); have n2_ := zm (Kd.R_lower (Kd.R_new' ho0 (Kd.R_lt (by (with_reducible repeat (first | apply zo | apply zp | apply zq)); exact HO_5.out))) (zE (by repeat (first | (with_reducible first | exact HB.out | apply ze | apply zd | apply zf) | exact HB.out)))); have n3_ := zm (zJ (by repeat (first | (with_reducible first | exact HB.out | apply ze | apply zd | apply zf) | exact HB.out)) hb); clear HO_5; clear HO_7; clear HB; have HO_5 := n0_; have HO_7 := n1_; have HO305 := n2_; have HB := n3_; clear n0_ n1_ n2_ n3_; (try clear hb); (try clear hb2); (try clear hk); (try clear hi); (try clear ho0))))
      (try simp only [Act.put, List.setIfInBounds_toArray, List.set_cons_zero, List.set_cons_succ])
      go_cut [71] (fun v71 wc => ∃ (kq : Nat) (x71_13 : Bool), v71 = .bool x71_13 ∧ Aside0 (psalterylaw07_PvqSigns.j1 kq l0 t293 t302 x71_13 = some r) ∧ Aside0 (kq ≤ k1) ∧ Aside0 (Kd.R (Kd.int .i64) 3 wc w.heap.size (fun k_ => some k_ ≠ (v304 : Value).ownBlock) v295 t293) ∧ Aside0 (Kd.R (Kd.int .i64) 3 wc w.heap.size (fun k_ => some k_ ≠ (v295 : Value).ownBlock) v304 t302) ∧ Aside0 (Below w.heap.size w wc))
      case first =>
       have H := HC14.out
       clear HC14
       by_cases c17 : t303 = 0
       ·
        rw [if_pos c17] at H
        have c17b0 : (t303 == 0) = true := beq_iff_eq.mpr c17
        have c17b1 : (t303 != 0) = false := bne_eq_false_iff_eq.mpr c17
        clear c17
        (first | rw [c17b0] | (simp only [i64_w, i32_w]; rw [c17b0]) | skip)
        by_cases c18 : (t293.length : Int) = (l0.length : Int)
        ·
         rw [if_pos c18] at H
         have c18b0 : ((t293.length : Int) == (l0.length : Int)) = true := beq_iff_eq.mpr c18
         have c18b1 : ((t293.length : Int) != (l0.length : Int)) = false := bne_eq_false_iff_eq.mpr c18
         have c18b2 : (t293.length == l0.length) = true := by first | simpa using c18 | (simp at c18 ⊢; omega)
         clear c18
         by_cases c19 : (t302.length : Int) = (l0.length : Int)
         ·
          rw [if_pos c19] at H
          have c19b0 : ((t302.length : Int) == (l0.length : Int)) = true := beq_iff_eq.mpr c19
          have c19b1 : ((t302.length : Int) != (l0.length : Int)) = false := bne_eq_false_iff_eq.mpr c19
          have c19b2 : (t302.length == l0.length) = true := by first | simpa using c19 | (simp at c19 ⊢; omega)
          clear c19
          replace H := Option.bind_eq_some_iff.mp H
          obtain ⟨t306, A200, H⟩ := H
          replace H : (psalterylaw07_PvqSigns.j1 k1 l0 t293 t302 (t306 != a1)) = some r := H
          have A20 := zm A200
          clear A200
          have H' := zm H
          clear H
          obtain ⟨Ao21, co21, eo21⟩ := Kd.R_slice HO_5.out
          subst eo21
          obtain ⟨Ao22, co22, eo22⟩ := Kd.R_slice HO305.out
          subst eo22
          go_wp2_with (first | (go_at_call 17; (with_reducible refine (psalteryref06_Pulses.calls k1 _ _ t293 t306 _ ?side1 ?side2 A20.out).mono ?_); (case side1 => repeat (first | exact (Kd.R_reads' HO_5.out).2.2 | (with_reducible refine Kd.C_alloc ?_ _) | (with_reducible refine Kd.C_drewN ?_ _) | (with_reducible refine Kd.C_drew ?_))); (case side2 => exact (Kd.R_reads' HO_5.out).2.1); rintro e w' ⟨rfl, ⟨nd, rfl⟩⟩; (try first | exact ⟨rfl, _, World.drewN_drewN _ _ _⟩ | exact ⟨rfl, _, Eq.trans (World.drewN_drewN _ _ _) (congrArg (World.drewN _) (Nat.add_assoc _ _ _))⟩)))
          repeat (go_quiet (first | (go_at_call 17; (with_reducible refine (psalteryref06_Pulses.calls k1 _ _ t293 t306 _ ?side1 ?side2 A20.out).mono ?_); (case side1 => repeat (first | exact (Kd.R_reads' HO_5.out).2.2 | (with_reducible refine Kd.C_alloc ?_ _) | (with_reducible refine Kd.C_drewN ?_ _) | (with_reducible refine Kd.C_drew ?_))); (case side2 => exact (Kd.R_reads' HO_5.out).2.1); rintro e w' ⟨rfl, ⟨nd, rfl⟩⟩; (try first | exact ⟨rfl, _, World.drewN_drewN _ _ _⟩ | exact ⟨rfl, _, Eq.trans (World.drewN_drewN _ _ _) (congrArg (World.drewN _) (Nat.add_assoc _ _ _))⟩))); try go_wp2_with (first | (go_at_call 17; (with_reducible refine (psalteryref06_Pulses.calls k1 _ _ t293 t306 _ ?side1 ?side2 A20.out).mono ?_); (case side1 => repeat (first | exact (Kd.R_reads' HO_5.out).2.2 | (with_reducible refine Kd.C_alloc ?_ _) | (with_reducible refine Kd.C_drewN ?_ _) | (with_reducible refine Kd.C_drew ?_))); (case side2 => exact (Kd.R_reads' HO_5.out).2.1); rintro e w' ⟨rfl, ⟨nd, rfl⟩⟩; (try first | exact ⟨rfl, _, World.drewN_drewN _ _ _⟩ | exact ⟨rfl, _, Eq.trans (World.drewN_drewN _ _ _) (congrArg (World.drewN _) (Nat.add_assoc _ _ _))⟩))))
          go_meet
          case rel => exact ⟨_, ((t306 != a1)), (by first | rfl | (simp; done) | (simp [*]; done)), H', ⟨by have := HK1.out; first | omega | exact Nat.le_refl _⟩, ⟨by (with_reducible repeat (first | apply zo | apply zp | apply zq)); exact zG HO_5.out (fun _ hk => hk.2)⟩, ⟨by (with_reducible repeat (first | apply zo | apply zp | apply zq)); exact zG HO305.out (fun _ hk => hk.2)⟩, ⟨by repeat (first | (with_reducible first | exact HB.out | apply ze | apply zd | apply zf) | exact HB.out)⟩⟩
         ·
          rw [if_neg c19] at H
          have c19b0 : ((t302.length : Int) == (l0.length : Int)) = false := beq_eq_false_iff_ne.mpr c19
          have c19b1 : ((t302.length : Int) != (l0.length : Int)) = true := bne_iff_ne.mpr c19
          have c19b2 : (t302.length == l0.length) = false := by first | simpa using c19 | (simp at c19 ⊢; omega)
          have H' := zm H
          clear H
          obtain ⟨Ao23, co23, eo23⟩ := Kd.R_slice HO_5.out
          subst eo23
          obtain ⟨Ao24, co24, eo24⟩ := Kd.R_slice HO305.out
          subst eo24
          go_wp2
          repeat (go_quiet (fail); try go_wp2)
          go_meet
          case rel => exact ⟨_, (true), (by first | rfl | (simp; done) | (simp [*]; done)), H', ⟨by have := HK1.out; first | omega | exact Nat.le_refl _⟩, ⟨by (with_reducible repeat (first | apply zo | apply zp | apply zq)); exact zG HO_5.out (fun _ hk => hk.2)⟩, ⟨by (with_reducible repeat (first | apply zo | apply zp | apply zq)); exact zG HO305.out (fun _ hk => hk.2)⟩, ⟨by repeat (first | (with_reducible first | exact HB.out | apply ze | apply zd | apply zf) | exact HB.out)⟩⟩
        ·
         rw [if_neg c18] at H
         have c18b0 : ((t293.length : Int) == (l0.length : Int)) = false := beq_eq_false_iff_ne.mpr c18
         have c18b1 : ((t293.length : Int) != (l0.length : Int)) = true := bne_iff_ne.mpr c18
         have c18b2 : (t293.length == l0.length) = false := by first | simpa using c18 | (simp at c18 ⊢; omega)
         have H' := zm H
         clear H
         obtain ⟨Ao25, co25, eo25⟩ := Kd.R_slice HO_5.out
         subst eo25
         go_wp2
         repeat (go_quiet (fail); try go_wp2)
         go_meet
         case rel => exact ⟨_, (true), (by first | rfl | (simp; done) | (simp [*]; done)), H', ⟨by have := HK1.out; first | omega | exact Nat.le_refl _⟩, ⟨by (with_reducible repeat (first | apply zo | apply zp | apply zq)); exact zG HO_5.out (fun _ hk => hk.2)⟩, ⟨by (with_reducible repeat (first | apply zo | apply zp | apply zq)); exact zG HO305.out (fun _ hk => hk.2)⟩, ⟨by repeat (first | (with_reducible first | exact HB.out | apply ze | apply zd | apply zf) | exact HB.out)⟩⟩
       ·
        rw [if_neg c17] at H
        have c17b0 : (t303 == 0) = false := beq_eq_false_iff_ne.mpr c17
        have c17b1 : (t303 != 0) = true := bne_iff_ne.mpr c17
        (first | rw [c17b0] | (simp only [i64_w, i32_w]; rw [c17b0]) | skip)
        have H' := zm H
        clear H
        go_wp2
        repeat (go_quiet (fail); try go_wp2)
        go_meet
        case rel => exact ⟨_, (true), (by first | rfl | (simp; done) | (simp [*]; done)), H', ⟨by have := HK1.out; first | omega | exact Nat.le_refl _⟩, ⟨by (with_reducible repeat (first | apply zo | apply zp | apply zq)); exact zG HO_5.out (fun _ hk => hk.2)⟩, ⟨by (with_reducible repeat (first | apply zo | apply zp | apply zq)); exact zG HO305.out (fun _ hk => hk.2)⟩, ⟨by repeat (first | (with_reducible first | exact HB.out | apply ze | apply zd | apply zf) | exact HB.out)⟩⟩
      case rest =>
       clear HC14
       try clear c1
       try clear p2
       try clear q2
       try clear hx2
       try clear c3
       try clear c3b0
       try clear c3b1
       try clear c6
       try clear p6
       try clear c7
       try clear c7b0
       try clear c7b1
       try clear c9
       try clear c9b0
       try clear c10
       try clear c10b0
       try clear c11
       try clear c17
       try clear c17b0
       try clear c17b1
       try clear c18
       try clear c18b0
       try clear c18b1
       try clear c18b2
       try clear c19
       try clear c19b0
       try clear c19b1
       try clear c19b2
       try clear hx298_0
       try clear p2
       try clear p298
       try clear q298
       obtain ⟨kq, x71_13, rfl, HA, HJ13, HO_5, HO_9, HB⟩ := hcut
       cases kq with
       | zero => exact absurd HA.out (by simp [psalterylaw07_PvqSigns.j1])
       | succ kj13 =>
        have H := HA.out
        clear HA
        simp only [psalterylaw07_PvqSigns.j1] at H
        by_cases c26 : x71_13 = true
        ·
         subst c26
         have H1 : (none) = some r := by rw [if_pos rfl] at H; exact H
         clear H
         have H := H1
         clear H1
         exact absurd H (by simp)
        ·
         replace c26 := Bool.eq_false_iff.mpr c26
         subst c26
         have H1 : (psalterylaw07_PvqSigns.l1 kj13 l0 t293 t302 0) = some r := by rw [if_neg (show ¬ (false = true) by decide)] at H; exact H
         clear H
         have H := H1
         clear H1
         have H' := zm H
         clear H
         go_wp2
         repeat (go_quiet (fail); try go_wp2)
         go_loopg [11] kj13 (fun kq v11 w' => ∃ (x11_3 : Int), v11 = .int .i64 x11_3 ∧ Aside0 (psalterylaw07_PvqSigns.l1 kq l0 t293 t302 x11_3 = some r) ∧ Aside0 (kq ≤ kj13) ∧ Aside0 (Kd.R (Kd.int .i64) 3 w' w.heap.size (fun k_ => some k_ ≠ (v304 : Value).ownBlock) v295 t293) ∧ Aside0 (Kd.R (Kd.int .i64) 3 w' w.heap.size (fun k_ => some k_ ≠ (v295 : Value).ownBlock) v304 t302) ∧ Aside0 (Below w.heap.size w w'))
         case atStart => exact ⟨(0), (by first | rfl | (simp; done) | (simp [*]; done)), H', ⟨Nat.le_refl _⟩, ⟨by (with_reducible repeat (first | apply zo | apply zp | apply zq)); exact HO_5.out⟩, ⟨by (with_reducible repeat (first | apply zo | apply zp | apply zq)); exact HO_9.out⟩, ⟨by repeat (first | (with_reducible first | exact HB.out | apply ze | apply zd | apply zf) | exact HB.out)⟩⟩
         case round =>
          clear H'
          try clear c1
          try clear c2
          try clear p2
          try clear q2
          try clear hx2
          try clear c3
          try clear c3b0
          try clear c3b1
          try clear c6
          try clear p6
          try clear c7
          try clear c7b0
          try clear c7b1
          try clear c9
          try clear c9b0
          try clear c10
          try clear c10b0
          try clear c11
          try clear c17
          try clear c17b0
          try clear c17b1
          try clear c18
          try clear c18b0
          try clear c18b1
          try clear c18b2
          try clear c19
          try clear c19b0
          try clear c19b1
          try clear c19b2
          try clear c26
          try clear hx298_0
          try clear p2
          try clear p298
          try clear p6
          try clear q2
          try clear q298
          obtain ⟨x11_3, rfl, HA, HK3, HO_5, HO_9, HB⟩ := hrel
          cases gk with
          | zero => exact absurd HA.out (by simp [psalterylaw07_PvqSigns.l1])
          | succ k3 =>
           have H := HA.out
           clear HA
           simp only [psalterylaw07_PvqSigns.l1] at H
           by_cases c27 : x11_3 < (l0.length : Int)
           ·
            rw [if_pos c27] at H
            have c27b0 : decide (x11_3 < (l0.length : Int)) = true := decide_eq_true c27
            clear c27
            by_cases c28 : 0 ≤ x11_3
            ·
             rw [if_pos c28] at H
             have c28b0 : decide (0 ≤ x11_3) = true := decide_eq_true c28
             clear c28
             by_cases c29 : (rd l0 x11_3) > 0
             ·
              rw [if_pos c29] at H
              have c29b0 : decide (0 < (rd l0 x11_3)) = true := decide_eq_true c29
              clear c29
              by_cases c30 : x11_3 < (t293.length : Int)
              ·
               rw [if_pos c30] at H
               have c30b0 : decide (x11_3 < (t293.length : Int)) = true := decide_eq_true c30
               clear c30
               by_cases c31 : (rd t293 x11_3) < 0
               ·
                rw [if_pos c31] at H
                exact absurd H (by simp)
               ·
                rw [if_neg c31] at H
                have c31b0 : decide ((rd t293 x11_3) < 0) = false := decide_eq_false c31
                clear c31
                by_cases c32 : (rd l0 x11_3) < 0
                ·
                 rw [if_pos c32] at H
                 have c32b0 : decide ((rd l0 x11_3) < 0) = true := decide_eq_true c32
                 clear c32
                 by_cases c33 : (rd t293 x11_3) > 0
                 ·
                  rw [if_pos c33] at H
                  exact absurd H (by simp)
                 ·
                  rw [if_neg c33] at H
                  have c33b0 : decide (0 < (rd t293 x11_3)) = false := decide_eq_false c33
                  clear c33
                  by_cases c34 : (rd l0 x11_3) = 0
                  ·
                   rw [if_pos c34] at H
                   have c34b0 : ((rd l0 x11_3) == 0) = true := beq_iff_eq.mpr c34
                   have c34b1 : ((rd l0 x11_3) != 0) = false := bne_eq_false_iff_eq.mpr c34
                   clear c34
                   by_cases c35 : x11_3 < (t302.length : Int)
                   ·
                    rw [if_pos c35] at H
                    have c35b0 : decide (x11_3 < (t302.length : Int)) = true := decide_eq_true c35
                    clear c35
                    by_cases c36 : (rd t302 x11_3) = (rd t293 x11_3)
                    ·
                     rw [if_pos c36] at H
                     have c36b0 : ((rd t302 x11_3) == (rd t293 x11_3)) = true := beq_iff_eq.mpr c36
                     have c36b1 : ((rd t302 x11_3) != (rd t293 x11_3)) = false := bne_eq_false_iff_eq.mpr c36
                     clear c36
                     have H' := zm H
                     clear H
                     have p307 : 0 ≤ (x11_3 : Int) := of_decide_eq_true (by first | (with_reducible assumption) | assumption)
                     have q307 : x11_3 < (l0.length : Int) := of_decide_eq_true (by first | (with_reducible assumption) | assumption)
                     obtain ⟨ad307, e307, hx307_0⟩ := Kd.at_int HR0.out x11_3 p307 q307
                     cases e307
                     replace hx307_0 := (HB.out.cell (zb w _ hx307_0)).trans hx307_0
                     replace p307 := eq_true p307
                     replace q307 := eq_true q307
                     obtain ⟨Ao37, co37, eo37⟩ := Kd.R_slice HO_5.out
                     subst eo37
                     have p308 : 0 ≤ (x11_3 : Int) := of_decide_eq_true (by first | (with_reducible assumption) | assumption)
                     have q308 : x11_3 < (t293.length : Int) := of_decide_eq_true (by first | (with_reducible assumption) | assumption)
                     obtain ⟨ad308, e308, hx308_0⟩ := Kd.at_int (Kd.R_reads' HO_5.out).2.2 x11_3 p308 q308
                     cases e308
                     replace p308 := eq_true p308
                     replace q308 := eq_true q308
                     have p309 : 0 ≤ (x11_3 : Int) := of_decide_eq_true (by first | (with_reducible assumption) | assumption)
                     have q309 : x11_3 < (l0.length : Int) := of_decide_eq_true (by first | (with_reducible assumption) | assumption)
                     obtain ⟨ad309, e309, hx309_0⟩ := Kd.at_int HR0.out x11_3 p309 q309
                     obtain rfl : ad307 = ad309 := (by injection e309)
                     replace hx309_0 := (HB.out.cell (zb w _ hx309_0)).trans hx309_0
                     replace p309 := eq_true p309
                     replace q309 := eq_true q309
                     have p310 : 0 ≤ (x11_3 : Int) := of_decide_eq_true (by first | (with_reducible assumption) | assumption)
                     have q310 : x11_3 < (t293.length : Int) := of_decide_eq_true (by first | (with_reducible assumption) | assumption)
                     obtain ⟨ad310, e310, hx310_0⟩ := Kd.at_int (Kd.R_reads' HO_5.out).2.2 x11_3 p310 q310
                     obtain rfl : ad308 = ad310 := (by injection e310)
                     replace p310 := eq_true p310
                     replace q310 := eq_true q310
                     have p311 : 0 ≤ (x11_3 : Int) := of_decide_eq_true (by first | (with_reducible assumption) | assumption)
                     have q311 : x11_3 < (l0.length : Int) := of_decide_eq_true (by first | (with_reducible assumption) | assumption)
                     obtain ⟨ad311, e311, hx311_0⟩ := Kd.at_int HR0.out x11_3 p311 q311
                     obtain rfl : ad307 = ad311 := (by injection e311)
                     replace hx311_0 := (HB.out.cell (zb w _ hx311_0)).trans hx311_0
                     replace p311 := eq_true p311
                     replace q311 := eq_true q311
                     have p312 : 0 ≤ (x11_3 : Int) := of_decide_eq_true (by first | (with_reducible assumption) | assumption)
                     have q312 : x11_3 < (l0.length : Int) := of_decide_eq_true (by first | (with_reducible assumption) | assumption)
                     obtain ⟨ad312, e312, hx312_0⟩ := Kd.at_int HR0.out x11_3 p312 q312
                     obtain rfl : ad307 = ad312 := (by injection e312)
                     replace hx312_0 := (HB.out.cell (zb w _ hx312_0)).trans hx312_0
                     replace p312 := eq_true p312
                     replace q312 := eq_true q312
                     obtain ⟨Ao38, co38, eo38⟩ := Kd.R_slice HO_9.out
                     subst eo38
                     have p313 : 0 ≤ (x11_3 : Int) := of_decide_eq_true (by first | (with_reducible assumption) | assumption)
                     have q313 : x11_3 < (t302.length : Int) := of_decide_eq_true (by first | (with_reducible assumption) | assumption)
                     obtain ⟨ad313, e313, hx313_0⟩ := Kd.at_int (Kd.R_reads' HO_9.out).2.2 x11_3 p313 q313
                     cases e313
                     replace p313 := eq_true p313
                     replace q313 := eq_true q313
                     have p314 : 0 ≤ (x11_3 : Int) := of_decide_eq_true (by first | (with_reducible assumption) | assumption)
                     have q314 : x11_3 < (t293.length : Int) := of_decide_eq_true (by first | (with_reducible assumption) | assumption)
                     obtain ⟨ad314, e314, hx314_0⟩ := Kd.at_int (Kd.R_reads' HO_5.out).2.2 x11_3 p314 q314
                     obtain rfl : ad308 = ad314 := (by injection e314)
                     replace p314 := eq_true p314
                     replace q314 := eq_true q314
                     go_wp2
                     repeat (go_quiet (fail); try go_wp2)
                     go_roundg k3
                     case measure => have := HK1.out; have := HJ13.out; have := HK3.out; omega
                     case rel => exact ⟨(wrap64 (x11_3 + 1)), (by first | rfl | (simp; done) | (simp [*]; done)), H', ⟨by have := HK1.out; have := HJ13.out; have := HK3.out; omega⟩, ⟨by (with_reducible repeat (first | apply zo | apply zp | apply zq)); exact HO_5.out⟩, ⟨by (with_reducible repeat (first | apply zo | apply zp | apply zq)); exact HO_9.out⟩, ⟨by repeat (first | (with_reducible first | exact HB.out | apply ze | apply zd | apply zf) | exact HB.out)⟩⟩
                    ·
                     rw [if_neg c36] at H
                     exact absurd H (by simp)
                   ·
                    rw [if_neg c35] at H
                    exact absurd H (by simp)
                  ·
                   rw [if_neg c34] at H
                   have c34b0 : ((rd l0 x11_3) == 0) = false := beq_eq_false_iff_ne.mpr c34
                   have c34b1 : ((rd l0 x11_3) != 0) = true := bne_iff_ne.mpr c34
                   by_cases c39 : x11_3 < (t302.length : Int)
                   ·
                    rw [if_pos c39] at H
                    have c39b0 : decide (x11_3 < (t302.length : Int)) = true := decide_eq_true c39
                    clear c39
                    by_cases c40 : (rd t302 x11_3) = (wrap64 (-(rd t293 x11_3)))
                    ·
                     rw [if_pos c40] at H
                     have c40b0 : ((rd t302 x11_3) == (wrap64 (-(rd t293 x11_3)))) = true := beq_iff_eq.mpr c40
                     have c40b1 : ((rd t302 x11_3) != (wrap64 (-(rd t293 x11_3)))) = false := bne_eq_false_iff_eq.mpr c40
                     clear c40
                     have H' := zm H
                     clear H
                     have p307 : 0 ≤ (x11_3 : Int) := of_decide_eq_true (by first | (with_reducible assumption) | assumption)
                     have q307 : x11_3 < (l0.length : Int) := of_decide_eq_true (by first | (with_reducible assumption) | assumption)
                     obtain ⟨ad307, e307, hx307_0⟩ := Kd.at_int HR0.out x11_3 p307 q307
                     cases e307
                     replace hx307_0 := (HB.out.cell (zb w _ hx307_0)).trans hx307_0
                     replace p307 := eq_true p307
                     replace q307 := eq_true q307
                     obtain ⟨Ao41, co41, eo41⟩ := Kd.R_slice HO_5.out
                     subst eo41
                     have p308 : 0 ≤ (x11_3 : Int) := of_decide_eq_true (by first | (with_reducible assumption) | assumption)
                     have q308 : x11_3 < (t293.length : Int) := of_decide_eq_true (by first | (with_reducible assumption) | assumption)
                     obtain ⟨ad308, e308, hx308_0⟩ := Kd.at_int (Kd.R_reads' HO_5.out).2.2 x11_3 p308 q308
                     cases e308
                     replace p308 := eq_true p308
                     replace q308 := eq_true q308
                     have p309 : 0 ≤ (x11_3 : Int) := of_decide_eq_true (by first | (with_reducible assumption) | assumption)
                     have q309 : x11_3 < (l0.length : Int) := of_decide_eq_true (by first | (with_reducible assumption) | assumption)
                     obtain ⟨ad309, e309, hx309_0⟩ := Kd.at_int HR0.out x11_3 p309 q309
                     obtain rfl : ad307 = ad309 := (by injection e309)
                     replace hx309_0 := (HB.out.cell (zb w _ hx309_0)).trans hx309_0
                     replace p309 := eq_true p309
                     replace q309 := eq_true q309
                     have p310 : 0 ≤ (x11_3 : Int) := of_decide_eq_true (by first | (with_reducible assumption) | assumption)
                     have q310 : x11_3 < (t293.length : Int) := of_decide_eq_true (by first | (with_reducible assumption) | assumption)
                     obtain ⟨ad310, e310, hx310_0⟩ := Kd.at_int (Kd.R_reads' HO_5.out).2.2 x11_3 p310 q310
                     obtain rfl : ad308 = ad310 := (by injection e310)
                     replace p310 := eq_true p310
                     replace q310 := eq_true q310
                     have p311 : 0 ≤ (x11_3 : Int) := of_decide_eq_true (by first | (with_reducible assumption) | assumption)
                     have q311 : x11_3 < (l0.length : Int) := of_decide_eq_true (by first | (with_reducible assumption) | assumption)
                     obtain ⟨ad311, e311, hx311_0⟩ := Kd.at_int HR0.out x11_3 p311 q311
                     obtain rfl : ad307 = ad311 := (by injection e311)
                     replace hx311_0 := (HB.out.cell (zb w _ hx311_0)).trans hx311_0
                     replace p311 := eq_true p311
                     replace q311 := eq_true q311
                     obtain ⟨Ao42, co42, eo42⟩ := Kd.R_slice HO_9.out
                     subst eo42
                     have p315 : 0 ≤ (x11_3 : Int) := of_decide_eq_true (by first | (with_reducible assumption) | assumption)
                     have q315 : x11_3 < (t302.length : Int) := of_decide_eq_true (by first | (with_reducible assumption) | assumption)
                     obtain ⟨ad315, e315, hx315_0⟩ := Kd.at_int (Kd.R_reads' HO_9.out).2.2 x11_3 p315 q315
                     cases e315
                     replace p315 := eq_true p315
                     replace q315 := eq_true q315
                     have p316 : 0 ≤ (x11_3 : Int) := of_decide_eq_true (by first | (with_reducible assumption) | assumption)
                     have q316 : x11_3 < (t293.length : Int) := of_decide_eq_true (by first | (with_reducible assumption) | assumption)
                     obtain ⟨ad316, e316, hx316_0⟩ := Kd.at_int (Kd.R_reads' HO_5.out).2.2 x11_3 p316 q316
                     obtain rfl : ad308 = ad316 := (by injection e316)
                     replace p316 := eq_true p316
                     replace q316 := eq_true q316
                     have p317 : 0 ≤ (x11_3 : Int) := of_decide_eq_true (by first | (with_reducible assumption) | assumption)
                     have q317 : x11_3 < (l0.length : Int) := of_decide_eq_true (by first | (with_reducible assumption) | assumption)
                     obtain ⟨ad317, e317, hx317_0⟩ := Kd.at_int HR0.out x11_3 p317 q317
                     obtain rfl : ad307 = ad317 := (by injection e317)
                     replace hx317_0 := (HB.out.cell (zb w _ hx317_0)).trans hx317_0
                     replace p317 := eq_true p317
                     replace q317 := eq_true q317
                     go_wp2
                     repeat (go_quiet (fail); try go_wp2)
                     go_roundg k3
                     case measure => have := HK1.out; have := HJ13.out; have := HK3.out; omega
                     case rel => exact ⟨(wrap64 (x11_3 + 1)), (by first | rfl | (simp; done) | (simp [*]; done)), H', ⟨by have := HK1.out; have := HJ13.out; have := HK3.out; omega⟩, ⟨by (with_reducible repeat (first | apply zo | apply zp | apply zq)); exact HO_5.out⟩, ⟨by (with_reducible repeat (first | apply zo | apply zp | apply zq)); exact HO_9.out⟩, ⟨by repeat (first | (with_reducible first | exact HB.out | apply ze | apply zd | apply zf) | exact HB.out)⟩⟩
                    ·
                     rw [if_neg c40] at H
                     exact absurd H (by simp)
                   ·
                    rw [if_neg c39] at H
                    exact absurd H (by simp)
                ·
                 rw [if_neg c32] at H
                 have c32b0 : decide ((rd l0 x11_3) < 0) = false := decide_eq_false c32
                 clear c32
                 by_cases c43 : (rd l0 x11_3) = 0
                 ·
                  rw [if_pos c43] at H
                  have c43b0 : ((rd l0 x11_3) == 0) = true := beq_iff_eq.mpr c43
                  have c43b1 : ((rd l0 x11_3) != 0) = false := bne_eq_false_iff_eq.mpr c43
                  clear c43
                  by_cases c44 : x11_3 < (t302.length : Int)
                  ·
                   rw [if_pos c44] at H
                   have c44b0 : decide (x11_3 < (t302.length : Int)) = true := decide_eq_true c44
                   clear c44
                   by_cases c45 : (rd t302 x11_3) = (rd t293 x11_3)
                   ·
                    rw [if_pos c45] at H
                    have c45b0 : ((rd t302 x11_3) == (rd t293 x11_3)) = true := beq_iff_eq.mpr c45
                    have c45b1 : ((rd t302 x11_3) != (rd t293 x11_3)) = false := bne_eq_false_iff_eq.mpr c45
                    clear c45
                    have H' := zm H
                    clear H
                    have p307 : 0 ≤ (x11_3 : Int) := of_decide_eq_true (by first | (with_reducible assumption) | assumption)
                    have q307 : x11_3 < (l0.length : Int) := of_decide_eq_true (by first | (with_reducible assumption) | assumption)
                    obtain ⟨ad307, e307, hx307_0⟩ := Kd.at_int HR0.out x11_3 p307 q307
                    cases e307
                    replace hx307_0 := (HB.out.cell (zb w _ hx307_0)).trans hx307_0
                    replace p307 := eq_true p307
                    replace q307 := eq_true q307
                    obtain ⟨Ao46, co46, eo46⟩ := Kd.R_slice HO_5.out
                    subst eo46
                    have p308 : 0 ≤ (x11_3 : Int) := of_decide_eq_true (by first | (with_reducible assumption) | assumption)
                    have q308 : x11_3 < (t293.length : Int) := of_decide_eq_true (by first | (with_reducible assumption) | assumption)
                    obtain ⟨ad308, e308, hx308_0⟩ := Kd.at_int (Kd.R_reads' HO_5.out).2.2 x11_3 p308 q308
                    cases e308
                    replace p308 := eq_true p308
                    replace q308 := eq_true q308
                    have p309 : 0 ≤ (x11_3 : Int) := of_decide_eq_true (by first | (with_reducible assumption) | assumption)
                    have q309 : x11_3 < (l0.length : Int) := of_decide_eq_true (by first | (with_reducible assumption) | assumption)
                    obtain ⟨ad309, e309, hx309_0⟩ := Kd.at_int HR0.out x11_3 p309 q309
                    obtain rfl : ad307 = ad309 := (by injection e309)
                    replace hx309_0 := (HB.out.cell (zb w _ hx309_0)).trans hx309_0
                    replace p309 := eq_true p309
                    replace q309 := eq_true q309
                    have p318 : 0 ≤ (x11_3 : Int) := of_decide_eq_true (by first | (with_reducible assumption) | assumption)
                    have q318 : x11_3 < (l0.length : Int) := of_decide_eq_true (by first | (with_reducible assumption) | assumption)
                    obtain ⟨ad318, e318, hx318_0⟩ := Kd.at_int HR0.out x11_3 p318 q318
                    obtain rfl : ad307 = ad318 := (by injection e318)
                    replace hx318_0 := (HB.out.cell (zb w _ hx318_0)).trans hx318_0
                    replace p318 := eq_true p318
                    replace q318 := eq_true q318
                    have p319 : 0 ≤ (x11_3 : Int) := of_decide_eq_true (by first | (with_reducible assumption) | assumption)
                    have q319 : x11_3 < (l0.length : Int) := of_decide_eq_true (by first | (with_reducible assumption) | assumption)
                    obtain ⟨ad319, e319, hx319_0⟩ := Kd.at_int HR0.out x11_3 p319 q319
                    obtain rfl : ad307 = ad319 := (by injection e319)
                    replace hx319_0 := (HB.out.cell (zb w _ hx319_0)).trans hx319_0
                    replace p319 := eq_true p319
                    replace q319 := eq_true q319
                    obtain ⟨Ao47, co47, eo47⟩ := Kd.R_slice HO_9.out
                    subst eo47
                    have p320 : 0 ≤ (x11_3 : Int) := of_decide_eq_true (by first | (with_reducible assumption) | assumption)
                    have q320 : x11_3 < (t302.length : Int) := of_decide_eq_true (by first | (with_reducible assumption) | assumption)
                    obtain ⟨ad320, e320, hx320_0⟩ := Kd.at_int (Kd.R_reads' HO_9.out).2.2 x11_3 p320 q320
                    cases e320
                    replace p320 := eq_true p320
                    replace q320 := eq_true q320
                    have p321 : 0 ≤ (x11_3 : Int) := of_decide_eq_true (by first | (with_reducible assumption) | assumption)
                    have q321 : x11_3 < (t293.length : Int) := of_decide_eq_true (by first | (with_reducible assumption) | assumption)
                    obtain ⟨ad321, e321, hx321_0⟩ := Kd.at_int (Kd.R_reads' HO_5.out).2.2 x11_3 p321 q321
                    obtain rfl : ad308 = ad321 := (by injection e321)
                    replace p321 := eq_true p321
                    replace q321 := eq_true q321
                    go_wp2
                    repeat (go_quiet (fail); try go_wp2)
                    go_roundg k3
                    case measure => have := HK1.out; have := HJ13.out; have := HK3.out; omega
                    case rel => exact ⟨(wrap64 (x11_3 + 1)), (by first | rfl | (simp; done) | (simp [*]; done)), H', ⟨by have := HK1.out; have := HJ13.out; have := HK3.out; omega⟩, ⟨by (with_reducible repeat (first | apply zo | apply zp | apply zq)); exact HO_5.out⟩, ⟨by (with_reducible repeat (first | apply zo | apply zp | apply zq)); exact HO_9.out⟩, ⟨by repeat (first | (with_reducible first | exact HB.out | apply ze | apply zd | apply zf) | exact HB.out)⟩⟩
                   ·
                    rw [if_neg c45] at H
                    exact absurd H (by simp)
                  ·
                   rw [if_neg c44] at H
                   exact absurd H (by simp)
                 ·
                  rw [if_neg c43] at H
                  have c43b0 : ((rd l0 x11_3) == 0) = false := beq_eq_false_iff_ne.mpr c43
                  have c43b1 : ((rd l0 x11_3) != 0) = true := bne_iff_ne.mpr c43
                  by_cases c48 : x11_3 < (t302.length : Int)
                  ·
                   rw [if_pos c48] at H
                   have c48b0 : decide (x11_3 < (t302.length : Int)) = true := decide_eq_true c48
                   clear c48
                   by_cases c49 : (rd t302 x11_3) = (wrap64 (-(rd t293 x11_3)))
                   ·
                    rw [if_pos c49] at H
                    have c49b0 : ((rd t302 x11_3) == (wrap64 (-(rd t293 x11_3)))) = true := beq_iff_eq.mpr c49
                    have c49b1 : ((rd t302 x11_3) != (wrap64 (-(rd t293 x11_3)))) = false := bne_eq_false_iff_eq.mpr c49
                    clear c49
                    have H' := zm H
                    clear H
                    have p307 : 0 ≤ (x11_3 : Int) := of_decide_eq_true (by first | (with_reducible assumption) | assumption)
                    have q307 : x11_3 < (l0.length : Int) := of_decide_eq_true (by first | (with_reducible assumption) | assumption)
                    obtain ⟨ad307, e307, hx307_0⟩ := Kd.at_int HR0.out x11_3 p307 q307
                    cases e307
                    replace hx307_0 := (HB.out.cell (zb w _ hx307_0)).trans hx307_0
                    replace p307 := eq_true p307
                    replace q307 := eq_true q307
                    obtain ⟨Ao50, co50, eo50⟩ := Kd.R_slice HO_5.out
                    subst eo50
                    have p308 : 0 ≤ (x11_3 : Int) := of_decide_eq_true (by first | (with_reducible assumption) | assumption)
                    have q308 : x11_3 < (t293.length : Int) := of_decide_eq_true (by first | (with_reducible assumption) | assumption)
                    obtain ⟨ad308, e308, hx308_0⟩ := Kd.at_int (Kd.R_reads' HO_5.out).2.2 x11_3 p308 q308
                    cases e308
                    replace p308 := eq_true p308
                    replace q308 := eq_true q308
                    have p309 : 0 ≤ (x11_3 : Int) := of_decide_eq_true (by first | (with_reducible assumption) | assumption)
                    have q309 : x11_3 < (l0.length : Int) := of_decide_eq_true (by first | (with_reducible assumption) | assumption)
                    obtain ⟨ad309, e309, hx309_0⟩ := Kd.at_int HR0.out x11_3 p309 q309
                    obtain rfl : ad307 = ad309 := (by injection e309)
                    replace hx309_0 := (HB.out.cell (zb w _ hx309_0)).trans hx309_0
                    replace p309 := eq_true p309
                    replace q309 := eq_true q309
                    have p318 : 0 ≤ (x11_3 : Int) := of_decide_eq_true (by first | (with_reducible assumption) | assumption)
                    have q318 : x11_3 < (l0.length : Int) := of_decide_eq_true (by first | (with_reducible assumption) | assumption)
                    obtain ⟨ad318, e318, hx318_0⟩ := Kd.at_int HR0.out x11_3 p318 q318
                    obtain rfl : ad307 = ad318 := (by injection e318)
                    replace hx318_0 := (HB.out.cell (zb w _ hx318_0)).trans hx318_0
                    replace p318 := eq_true p318
                    replace q318 := eq_true q318
                    obtain ⟨Ao51, co51, eo51⟩ := Kd.R_slice HO_9.out
                    subst eo51
                    have p322 : 0 ≤ (x11_3 : Int) := of_decide_eq_true (by first | (with_reducible assumption) | assumption)
                    have q322 : x11_3 < (t302.length : Int) := of_decide_eq_true (by first | (with_reducible assumption) | assumption)
                    obtain ⟨ad322, e322, hx322_0⟩ := Kd.at_int (Kd.R_reads' HO_9.out).2.2 x11_3 p322 q322
                    cases e322
                    replace p322 := eq_true p322
                    replace q322 := eq_true q322
                    have p323 : 0 ≤ (x11_3 : Int) := of_decide_eq_true (by first | (with_reducible assumption) | assumption)
                    have q323 : x11_3 < (t293.length : Int) := of_decide_eq_true (by first | (with_reducible assumption) | assumption)
                    obtain ⟨ad323, e323, hx323_0⟩ := Kd.at_int (Kd.R_reads' HO_5.out).2.2 x11_3 p323 q323
                    obtain rfl : ad308 = ad323 := (by injection e323)
                    replace p323 := eq_true p323
                    replace q323 := eq_true q323
                    have p324 : 0 ≤ (x11_3 : Int) := of_decide_eq_true (by first | (with_reducible assumption) | assumption)
                    have q324 : x11_3 < (l0.length : Int) := of_decide_eq_true (by first | (with_reducible assumption) | assumption)
                    obtain ⟨ad324, e324, hx324_0⟩ := Kd.at_int HR0.out x11_3 p324 q324
                    obtain rfl : ad307 = ad324 := (by injection e324)
                    replace hx324_0 := (HB.out.cell (zb w _ hx324_0)).trans hx324_0
                    replace p324 := eq_true p324
                    replace q324 := eq_true q324
                    go_wp2
                    repeat (go_quiet (fail); try go_wp2)
                    go_roundg k3
                    case measure => have := HK1.out; have := HJ13.out; have := HK3.out; omega
                    case rel => exact ⟨(wrap64 (x11_3 + 1)), (by first | rfl | (simp; done) | (simp [*]; done)), H', ⟨by have := HK1.out; have := HJ13.out; have := HK3.out; omega⟩, ⟨by (with_reducible repeat (first | apply zo | apply zp | apply zq)); exact HO_5.out⟩, ⟨by (with_reducible repeat (first | apply zo | apply zp | apply zq)); exact HO_9.out⟩, ⟨by repeat (first | (with_reducible first | exact HB.out | apply ze | apply zd | apply zf) | exact HB.out)⟩⟩
                   ·
                    rw [if_neg c49] at H
                    exact absurd H (by simp)
                  ·
                   rw [if_neg c48] at H
                   exact absurd H (by simp)
              ·
               rw [if_neg c30] at H
               exact absurd H (by simp)
             ·
              rw [if_neg c29] at H
              have c29b0 : decide (0 < (rd l0 x11_3)) = false := decide_eq_false c29
              clear c29
              by_cases c52 : (rd l0 x11_3) < 0
              ·
               rw [if_pos c52] at H
               have c52b0 : decide ((rd l0 x11_3) < 0) = true := decide_eq_true c52
               clear c52
               by_cases c53 : x11_3 < (t293.length : Int)
               ·
                rw [if_pos c53] at H
                have c53b0 : decide (x11_3 < (t293.length : Int)) = true := decide_eq_true c53
                clear c53
                by_cases c54 : (rd t293 x11_3) > 0
                ·
                 rw [if_pos c54] at H
                 exact absurd H (by simp)
                ·
                 rw [if_neg c54] at H
                 have c54b0 : decide (0 < (rd t293 x11_3)) = false := decide_eq_false c54
                 clear c54
                 by_cases c55 : (rd l0 x11_3) = 0
                 ·
                  rw [if_pos c55] at H
                  have c55b0 : ((rd l0 x11_3) == 0) = true := beq_iff_eq.mpr c55
                  have c55b1 : ((rd l0 x11_3) != 0) = false := bne_eq_false_iff_eq.mpr c55
                  clear c55
                  by_cases c56 : x11_3 < (t302.length : Int)
                  ·
                   rw [if_pos c56] at H
                   have c56b0 : decide (x11_3 < (t302.length : Int)) = true := decide_eq_true c56
                   clear c56
                   by_cases c57 : (rd t302 x11_3) = (rd t293 x11_3)
                   ·
                    rw [if_pos c57] at H
                    have c57b0 : ((rd t302 x11_3) == (rd t293 x11_3)) = true := beq_iff_eq.mpr c57
                    have c57b1 : ((rd t302 x11_3) != (rd t293 x11_3)) = false := bne_eq_false_iff_eq.mpr c57
                    clear c57
                    have H' := zm H
                    clear H
                    have p307 : 0 ≤ (x11_3 : Int) := of_decide_eq_true (by first | (with_reducible assumption) | assumption)
                    have q307 : x11_3 < (l0.length : Int) := of_decide_eq_true (by first | (with_reducible assumption) | assumption)
                    obtain ⟨ad307, e307, hx307_0⟩ := Kd.at_int HR0.out x11_3 p307 q307
                    cases e307
                    replace hx307_0 := (HB.out.cell (zb w _ hx307_0)).trans hx307_0
                    replace p307 := eq_true p307
                    replace q307 := eq_true q307
                    have p325 : 0 ≤ (x11_3 : Int) := of_decide_eq_true (by first | (with_reducible assumption) | assumption)
                    have q325 : x11_3 < (l0.length : Int) := of_decide_eq_true (by first | (with_reducible assumption) | assumption)
                    obtain ⟨ad325, e325, hx325_0⟩ := Kd.at_int HR0.out x11_3 p325 q325
                    obtain rfl : ad307 = ad325 := (by injection e325)
                    replace hx325_0 := (HB.out.cell (zb w _ hx325_0)).trans hx325_0
                    replace p325 := eq_true p325
                    replace q325 := eq_true q325
                    obtain ⟨Ao58, co58, eo58⟩ := Kd.R_slice HO_5.out
                    subst eo58
                    have p326 : 0 ≤ (x11_3 : Int) := of_decide_eq_true (by first | (with_reducible assumption) | assumption)
                    have q326 : x11_3 < (t293.length : Int) := of_decide_eq_true (by first | (with_reducible assumption) | assumption)
                    obtain ⟨ad326, e326, hx326_0⟩ := Kd.at_int (Kd.R_reads' HO_5.out).2.2 x11_3 p326 q326
                    cases e326
                    replace p326 := eq_true p326
                    replace q326 := eq_true q326
                    have p327 : 0 ≤ (x11_3 : Int) := of_decide_eq_true (by first | (with_reducible assumption) | assumption)
                    have q327 : x11_3 < (l0.length : Int) := of_decide_eq_true (by first | (with_reducible assumption) | assumption)
                    obtain ⟨ad327, e327, hx327_0⟩ := Kd.at_int HR0.out x11_3 p327 q327
                    obtain rfl : ad307 = ad327 := (by injection e327)
                    replace hx327_0 := (HB.out.cell (zb w _ hx327_0)).trans hx327_0
                    replace p327 := eq_true p327
                    replace q327 := eq_true q327
                    have p328 : 0 ≤ (x11_3 : Int) := of_decide_eq_true (by first | (with_reducible assumption) | assumption)
                    have q328 : x11_3 < (l0.length : Int) := of_decide_eq_true (by first | (with_reducible assumption) | assumption)
                    obtain ⟨ad328, e328, hx328_0⟩ := Kd.at_int HR0.out x11_3 p328 q328
                    obtain rfl : ad307 = ad328 := (by injection e328)
                    replace hx328_0 := (HB.out.cell (zb w _ hx328_0)).trans hx328_0
                    replace p328 := eq_true p328
                    replace q328 := eq_true q328
                    obtain ⟨Ao59, co59, eo59⟩ := Kd.R_slice HO_9.out
                    subst eo59
                    have p329 : 0 ≤ (x11_3 : Int) := of_decide_eq_true (by first | (with_reducible assumption) | assumption)
                    have q329 : x11_3 < (t302.length : Int) := of_decide_eq_true (by first | (with_reducible assumption) | assumption)
                    obtain ⟨ad329, e329, hx329_0⟩ := Kd.at_int (Kd.R_reads' HO_9.out).2.2 x11_3 p329 q329
                    cases e329
                    replace p329 := eq_true p329
                    replace q329 := eq_true q329
                    have p330 : 0 ≤ (x11_3 : Int) := of_decide_eq_true (by first | (with_reducible assumption) | assumption)
                    have q330 : x11_3 < (t293.length : Int) := of_decide_eq_true (by first | (with_reducible assumption) | assumption)
                    obtain ⟨ad330, e330, hx330_0⟩ := Kd.at_int (Kd.R_reads' HO_5.out).2.2 x11_3 p330 q330
                    obtain rfl : ad326 = ad330 := (by injection e330)
                    replace p330 := eq_true p330
                    replace q330 := eq_true q330
                    go_wp2
                    repeat (go_quiet (fail); try go_wp2)
                    go_roundg k3
                    case measure => have := HK1.out; have := HJ13.out; have := HK3.out; omega
                    case rel => exact ⟨(wrap64 (x11_3 + 1)), (by first | rfl | (simp; done) | (simp [*]; done)), H', ⟨by have := HK1.out; have := HJ13.out; have := HK3.out; omega⟩, ⟨by (with_reducible repeat (first | apply zo | apply zp | apply zq)); exact HO_5.out⟩, ⟨by (with_reducible repeat (first | apply zo | apply zp | apply zq)); exact HO_9.out⟩, ⟨by repeat (first | (with_reducible first | exact HB.out | apply ze | apply zd | apply zf) | exact HB.out)⟩⟩
                   ·
                    rw [if_neg c57] at H
                    exact absurd H (by simp)
                  ·
                   rw [if_neg c56] at H
                   exact absurd H (by simp)
                 ·
                  rw [if_neg c55] at H
                  have c55b0 : ((rd l0 x11_3) == 0) = false := beq_eq_false_iff_ne.mpr c55
                  have c55b1 : ((rd l0 x11_3) != 0) = true := bne_iff_ne.mpr c55
                  by_cases c60 : x11_3 < (t302.length : Int)
                  ·
                   rw [if_pos c60] at H
                   have c60b0 : decide (x11_3 < (t302.length : Int)) = true := decide_eq_true c60
                   clear c60
                   by_cases c61 : (rd t302 x11_3) = (wrap64 (-(rd t293 x11_3)))
                   ·
                    rw [if_pos c61] at H
                    have c61b0 : ((rd t302 x11_3) == (wrap64 (-(rd t293 x11_3)))) = true := beq_iff_eq.mpr c61
                    have c61b1 : ((rd t302 x11_3) != (wrap64 (-(rd t293 x11_3)))) = false := bne_eq_false_iff_eq.mpr c61
                    clear c61
                    have H' := zm H
                    clear H
                    have p307 : 0 ≤ (x11_3 : Int) := of_decide_eq_true (by first | (with_reducible assumption) | assumption)
                    have q307 : x11_3 < (l0.length : Int) := of_decide_eq_true (by first | (with_reducible assumption) | assumption)
                    obtain ⟨ad307, e307, hx307_0⟩ := Kd.at_int HR0.out x11_3 p307 q307
                    cases e307
                    replace hx307_0 := (HB.out.cell (zb w _ hx307_0)).trans hx307_0
                    replace p307 := eq_true p307
                    replace q307 := eq_true q307
                    have p325 : 0 ≤ (x11_3 : Int) := of_decide_eq_true (by first | (with_reducible assumption) | assumption)
                    have q325 : x11_3 < (l0.length : Int) := of_decide_eq_true (by first | (with_reducible assumption) | assumption)
                    obtain ⟨ad325, e325, hx325_0⟩ := Kd.at_int HR0.out x11_3 p325 q325
                    obtain rfl : ad307 = ad325 := (by injection e325)
                    replace hx325_0 := (HB.out.cell (zb w _ hx325_0)).trans hx325_0
                    replace p325 := eq_true p325
                    replace q325 := eq_true q325
                    obtain ⟨Ao62, co62, eo62⟩ := Kd.R_slice HO_5.out
                    subst eo62
                    have p326 : 0 ≤ (x11_3 : Int) := of_decide_eq_true (by first | (with_reducible assumption) | assumption)
                    have q326 : x11_3 < (t293.length : Int) := of_decide_eq_true (by first | (with_reducible assumption) | assumption)
                    obtain ⟨ad326, e326, hx326_0⟩ := Kd.at_int (Kd.R_reads' HO_5.out).2.2 x11_3 p326 q326
                    cases e326
                    replace p326 := eq_true p326
                    replace q326 := eq_true q326
                    have p327 : 0 ≤ (x11_3 : Int) := of_decide_eq_true (by first | (with_reducible assumption) | assumption)
                    have q327 : x11_3 < (l0.length : Int) := of_decide_eq_true (by first | (with_reducible assumption) | assumption)
                    obtain ⟨ad327, e327, hx327_0⟩ := Kd.at_int HR0.out x11_3 p327 q327
                    obtain rfl : ad307 = ad327 := (by injection e327)
                    replace hx327_0 := (HB.out.cell (zb w _ hx327_0)).trans hx327_0
                    replace p327 := eq_true p327
                    replace q327 := eq_true q327
                    obtain ⟨Ao63, co63, eo63⟩ := Kd.R_slice HO_9.out
                    subst eo63
                    have p331 : 0 ≤ (x11_3 : Int) := of_decide_eq_true (by first | (with_reducible assumption) | assumption)
                    have q331 : x11_3 < (t302.length : Int) := of_decide_eq_true (by first | (with_reducible assumption) | assumption)
                    obtain ⟨ad331, e331, hx331_0⟩ := Kd.at_int (Kd.R_reads' HO_9.out).2.2 x11_3 p331 q331
                    cases e331
                    replace p331 := eq_true p331
                    replace q331 := eq_true q331
                    have p332 : 0 ≤ (x11_3 : Int) := of_decide_eq_true (by first | (with_reducible assumption) | assumption)
                    have q332 : x11_3 < (t293.length : Int) := of_decide_eq_true (by first | (with_reducible assumption) | assumption)
                    obtain ⟨ad332, e332, hx332_0⟩ := Kd.at_int (Kd.R_reads' HO_5.out).2.2 x11_3 p332 q332
                    obtain rfl : ad326 = ad332 := (by injection e332)
                    replace p332 := eq_true p332
                    replace q332 := eq_true q332
                    have p333 : 0 ≤ (x11_3 : Int) := of_decide_eq_true (by first | (with_reducible assumption) | assumption)
                    have q333 : x11_3 < (l0.length : Int) := of_decide_eq_true (by first | (with_reducible assumption) | assumption)
                    obtain ⟨ad333, e333, hx333_0⟩ := Kd.at_int HR0.out x11_3 p333 q333
                    obtain rfl : ad307 = ad333 := (by injection e333)
                    replace hx333_0 := (HB.out.cell (zb w _ hx333_0)).trans hx333_0
                    replace p333 := eq_true p333
                    replace q333 := eq_true q333
                    go_wp2
                    repeat (go_quiet (fail); try go_wp2)
                    go_roundg k3
                    case measure => have := HK1.out; have := HJ13.out; have := HK3.out; omega
                    case rel => exact ⟨(wrap64 (x11_3 + 1)), (by first | rfl | (simp; done) | (simp [*]; done)), H', ⟨by have := HK1.out; have := HJ13.out; have := HK3.out; omega⟩, ⟨by (with_reducible repeat (first | apply zo | apply zp | apply zq)); exact HO_5.out⟩, ⟨by (with_reducible repeat (first | apply zo | apply zp | apply zq)); exact HO_9.out⟩, ⟨by repeat (first | (with_reducible first | exact HB.out | apply ze | apply zd | apply zf) | exact HB.out)⟩⟩
                   ·
                    rw [if_neg c61] at H
                    exact absurd H (by simp)
                  ·
                   rw [if_neg c60] at H
                   exact absurd H (by simp)
               ·
                rw [if_neg c53] at H
                exact absurd H (by simp)
              ·
               rw [if_neg c52] at H
               have c52b0 : decide ((rd l0 x11_3) < 0) = false := decide_eq_false c52
               clear c52
               by_cases c64 : (rd l0 x11_3) = 0
               ·
                rw [if_pos c64] at H
                have c64b0 : ((rd l0 x11_3) == 0) = true := beq_iff_eq.mpr c64
                have c64b1 : ((rd l0 x11_3) != 0) = false := bne_eq_false_iff_eq.mpr c64
                clear c64
                by_cases c65 : x11_3 < (t302.length : Int)
                ·
                 rw [if_pos c65] at H
                 have c65b0 : decide (x11_3 < (t302.length : Int)) = true := decide_eq_true c65
                 clear c65
                 by_cases c66 : x11_3 < (t293.length : Int)
                 ·
                  rw [if_pos c66] at H
                  have c66b0 : decide (x11_3 < (t293.length : Int)) = true := decide_eq_true c66
                  clear c66
                  by_cases c67 : (rd t302 x11_3) = (rd t293 x11_3)
                  ·
                   rw [if_pos c67] at H
                   have c67b0 : ((rd t302 x11_3) == (rd t293 x11_3)) = true := beq_iff_eq.mpr c67
                   have c67b1 : ((rd t302 x11_3) != (rd t293 x11_3)) = false := bne_eq_false_iff_eq.mpr c67
                   clear c67
                   have H' := zm H
                   clear H
                   have p307 : 0 ≤ (x11_3 : Int) := of_decide_eq_true (by first | (with_reducible assumption) | assumption)
                   have q307 : x11_3 < (l0.length : Int) := of_decide_eq_true (by first | (with_reducible assumption) | assumption)
                   obtain ⟨ad307, e307, hx307_0⟩ := Kd.at_int HR0.out x11_3 p307 q307
                   cases e307
                   replace hx307_0 := (HB.out.cell (zb w _ hx307_0)).trans hx307_0
                   replace p307 := eq_true p307
                   replace q307 := eq_true q307
                   have p325 : 0 ≤ (x11_3 : Int) := of_decide_eq_true (by first | (with_reducible assumption) | assumption)
                   have q325 : x11_3 < (l0.length : Int) := of_decide_eq_true (by first | (with_reducible assumption) | assumption)
                   obtain ⟨ad325, e325, hx325_0⟩ := Kd.at_int HR0.out x11_3 p325 q325
                   obtain rfl : ad307 = ad325 := (by injection e325)
                   replace hx325_0 := (HB.out.cell (zb w _ hx325_0)).trans hx325_0
                   replace p325 := eq_true p325
                   replace q325 := eq_true q325
                   have p334 : 0 ≤ (x11_3 : Int) := of_decide_eq_true (by first | (with_reducible assumption) | assumption)
                   have q334 : x11_3 < (l0.length : Int) := of_decide_eq_true (by first | (with_reducible assumption) | assumption)
                   obtain ⟨ad334, e334, hx334_0⟩ := Kd.at_int HR0.out x11_3 p334 q334
                   obtain rfl : ad307 = ad334 := (by injection e334)
                   replace hx334_0 := (HB.out.cell (zb w _ hx334_0)).trans hx334_0
                   replace p334 := eq_true p334
                   replace q334 := eq_true q334
                   have p335 : 0 ≤ (x11_3 : Int) := of_decide_eq_true (by first | (with_reducible assumption) | assumption)
                   have q335 : x11_3 < (l0.length : Int) := of_decide_eq_true (by first | (with_reducible assumption) | assumption)
                   obtain ⟨ad335, e335, hx335_0⟩ := Kd.at_int HR0.out x11_3 p335 q335
                   obtain rfl : ad307 = ad335 := (by injection e335)
                   replace hx335_0 := (HB.out.cell (zb w _ hx335_0)).trans hx335_0
                   replace p335 := eq_true p335
                   replace q335 := eq_true q335
                   obtain ⟨Ao68, co68, eo68⟩ := Kd.R_slice HO_9.out
                   subst eo68
                   have p336 : 0 ≤ (x11_3 : Int) := of_decide_eq_true (by first | (with_reducible assumption) | assumption)
                   have q336 : x11_3 < (t302.length : Int) := of_decide_eq_true (by first | (with_reducible assumption) | assumption)
                   obtain ⟨ad336, e336, hx336_0⟩ := Kd.at_int (Kd.R_reads' HO_9.out).2.2 x11_3 p336 q336
                   cases e336
                   replace p336 := eq_true p336
                   replace q336 := eq_true q336
                   obtain ⟨Ao69, co69, eo69⟩ := Kd.R_slice HO_5.out
                   subst eo69
                   have p337 : 0 ≤ (x11_3 : Int) := of_decide_eq_true (by first | (with_reducible assumption) | assumption)
                   have q337 : x11_3 < (t293.length : Int) := of_decide_eq_true (by first | (with_reducible assumption) | assumption)
                   obtain ⟨ad337, e337, hx337_0⟩ := Kd.at_int (Kd.R_reads' HO_5.out).2.2 x11_3 p337 q337
                   cases e337
                   replace p337 := eq_true p337
                   replace q337 := eq_true q337
                   go_wp2
                   repeat (go_quiet (fail); try go_wp2)
                   go_roundg k3
                   case measure => have := HK1.out; have := HJ13.out; have := HK3.out; omega
                   case rel => exact ⟨(wrap64 (x11_3 + 1)), (by first | rfl | (simp; done) | (simp [*]; done)), H', ⟨by have := HK1.out; have := HJ13.out; have := HK3.out; omega⟩, ⟨by (with_reducible repeat (first | apply zo | apply zp | apply zq)); exact HO_5.out⟩, ⟨by (with_reducible repeat (first | apply zo | apply zp | apply zq)); exact HO_9.out⟩, ⟨by repeat (first | (with_reducible first | exact HB.out | apply ze | apply zd | apply zf) | exact HB.out)⟩⟩
                  ·
                   rw [if_neg c67] at H
                   exact absurd H (by simp)
                 ·
                  rw [if_neg c66] at H
                  exact absurd H (by simp)
                ·
                 rw [if_neg c65] at H
                 exact absurd H (by simp)
               ·
                rw [if_neg c64] at H
                have c64b0 : ((rd l0 x11_3) == 0) = false := beq_eq_false_iff_ne.mpr c64
                have c64b1 : ((rd l0 x11_3) != 0) = true := bne_iff_ne.mpr c64
                by_cases c70 : x11_3 < (t302.length : Int)
                ·
                 rw [if_pos c70] at H
                 have c70b0 : decide (x11_3 < (t302.length : Int)) = true := decide_eq_true c70
                 clear c70
                 by_cases c71 : x11_3 < (t293.length : Int)
                 ·
                  rw [if_pos c71] at H
                  have c71b0 : decide (x11_3 < (t293.length : Int)) = true := decide_eq_true c71
                  clear c71
                  by_cases c72 : (rd t302 x11_3) = (wrap64 (-(rd t293 x11_3)))
                  ·
                   rw [if_pos c72] at H
                   have c72b0 : ((rd t302 x11_3) == (wrap64 (-(rd t293 x11_3)))) = true := beq_iff_eq.mpr c72
                   have c72b1 : ((rd t302 x11_3) != (wrap64 (-(rd t293 x11_3)))) = false := bne_eq_false_iff_eq.mpr c72
                   clear c72
                   have H' := zm H
                   clear H
                   have p307 : 0 ≤ (x11_3 : Int) := of_decide_eq_true (by first | (with_reducible assumption) | assumption)
                   have q307 : x11_3 < (l0.length : Int) := of_decide_eq_true (by first | (with_reducible assumption) | assumption)
                   obtain ⟨ad307, e307, hx307_0⟩ := Kd.at_int HR0.out x11_3 p307 q307
                   cases e307
                   replace hx307_0 := (HB.out.cell (zb w _ hx307_0)).trans hx307_0
                   replace p307 := eq_true p307
                   replace q307 := eq_true q307
                   have p325 : 0 ≤ (x11_3 : Int) := of_decide_eq_true (by first | (with_reducible assumption) | assumption)
                   have q325 : x11_3 < (l0.length : Int) := of_decide_eq_true (by first | (with_reducible assumption) | assumption)
                   obtain ⟨ad325, e325, hx325_0⟩ := Kd.at_int HR0.out x11_3 p325 q325
                   obtain rfl : ad307 = ad325 := (by injection e325)
                   replace hx325_0 := (HB.out.cell (zb w _ hx325_0)).trans hx325_0
                   replace p325 := eq_true p325
                   replace q325 := eq_true q325
                   have p334 : 0 ≤ (x11_3 : Int) := of_decide_eq_true (by first | (with_reducible assumption) | assumption)
                   have q334 : x11_3 < (l0.length : Int) := of_decide_eq_true (by first | (with_reducible assumption) | assumption)
                   obtain ⟨ad334, e334, hx334_0⟩ := Kd.at_int HR0.out x11_3 p334 q334
                   obtain rfl : ad307 = ad334 := (by injection e334)
                   replace hx334_0 := (HB.out.cell (zb w _ hx334_0)).trans hx334_0
                   replace p334 := eq_true p334
                   replace q334 := eq_true q334
                   obtain ⟨Ao73, co73, eo73⟩ := Kd.R_slice HO_9.out
                   subst eo73
                   have p338 : 0 ≤ (x11_3 : Int) := of_decide_eq_true (by first | (with_reducible assumption) | assumption)
                   have q338 : x11_3 < (t302.length : Int) := of_decide_eq_true (by first | (with_reducible assumption) | assumption)
                   obtain ⟨ad338, e338, hx338_0⟩ := Kd.at_int (Kd.R_reads' HO_9.out).2.2 x11_3 p338 q338
                   cases e338
                   replace p338 := eq_true p338
                   replace q338 := eq_true q338
                   obtain ⟨Ao74, co74, eo74⟩ := Kd.R_slice HO_5.out
                   subst eo74
                   have p339 : 0 ≤ (x11_3 : Int) := of_decide_eq_true (by first | (with_reducible assumption) | assumption)
                   have q339 : x11_3 < (t293.length : Int) := of_decide_eq_true (by first | (with_reducible assumption) | assumption)
                   obtain ⟨ad339, e339, hx339_0⟩ := Kd.at_int (Kd.R_reads' HO_5.out).2.2 x11_3 p339 q339
                   cases e339
                   replace p339 := eq_true p339
                   replace q339 := eq_true q339
                   have p340 : 0 ≤ (x11_3 : Int) := of_decide_eq_true (by first | (with_reducible assumption) | assumption)
                   have q340 : x11_3 < (l0.length : Int) := of_decide_eq_true (by first | (with_reducible assumption) | assumption)
                   obtain ⟨ad340, e340, hx340_0⟩ := Kd.at_int HR0.out x11_3 p340 q340
                   obtain rfl : ad307 = ad340 := (by injection e340)
                   replace hx340_0 := (HB.out.cell (zb w _ hx340_0)).trans hx340_0
                   replace p340 := eq_true p340
                   replace q340 := eq_true q340
                   go_wp2
                   repeat (go_quiet (fail); try go_wp2)
                   go_roundg k3
                   case measure => have := HK1.out; have := HJ13.out; have := HK3.out; omega
                   case rel => exact ⟨(wrap64 (x11_3 + 1)), (by first | rfl | (simp; done) | (simp [*]; done)), H', ⟨by have := HK1.out; have := HJ13.out; have := HK3.out; omega⟩, ⟨by (with_reducible repeat (first | apply zo | apply zp | apply zq)); exact HO_5.out⟩, ⟨by (with_reducible repeat (first | apply zo | apply zp | apply zq)); exact HO_9.out⟩, ⟨by repeat (first | (with_reducible first | exact HB.out | apply ze | apply zd | apply zf) | exact HB.out)⟩⟩
                  ·
                   rw [if_neg c72] at H
                   exact absurd H (by simp)
                 ·
                  rw [if_neg c71] at H
                  exact absurd H (by simp)
                ·
                 rw [if_neg c70] at H
                 exact absurd H (by simp)
            ·
             rw [if_neg c28] at H
             exact absurd H (by simp)
           ·
            rw [if_neg c27] at H
            have c27b0 : decide (x11_3 < (l0.length : Int)) = false := decide_eq_false c27
            clear c27
            replace H := Option.bind_eq_some_iff.mp H
            obtain ⟨t341, A750, H⟩ := H
            replace H : (some t341) = some r := H
            have A75 := zm A750
            clear A750
            obtain rfl := Option.some.inj H
            go_wp2_with (first | (go_at_call 9; (with_reducible refine (psalterylaw07_knows.calls k3  t341 _ A75.out).mono ?_); rintro e w76 ⟨rfl, hb⟩; have n0_ := zm (Kd.R_below (by (with_reducible repeat (first | apply zo | apply zp | apply zq)); exact HO_5.out) hb); have n1_ := zm (Kd.R_below (by (with_reducible repeat (first | apply zo | apply zp | apply zq)); exact HO_9.out) hb); have n2_ := zm (zJ (by repeat (first | (with_reducible first | exact HB.out | apply ze | apply zd | apply zf) | exact HB.out)) hb); clear HO_5; clear HO_9; clear HB; have HO_5 := n0_; have HO_9 := n1_; have HB := n2_; clear n0_ n1_ n2_; (try clear hb); (try clear hb2); (try clear hk); (try clear hi)))
            repeat (go_quiet (first | (go_at_call 9; (with_reducible refine (psalterylaw07_knows.calls k3  t341 _ A75.out).mono ?_); rintro e w76 ⟨rfl, hb⟩; have n0_ := zm (Kd.R_below (by (with_reducible repeat (first | apply zo | apply zp | apply zq)); exact HO_5.out) hb); have n1_ := zm (Kd.R_below (by (with_reducible repeat (first | apply zo | apply zp | apply zq)); exact HO_9.out) hb); have n2_ := zm (zJ (by repeat (first | (with_reducible first | exact HB.out | apply ze | apply zd | apply zf) | exact HB.out)) hb); clear HO_5; clear HO_9; clear HB; have HO_5 := n0_; have HO_9 := n1_; have HB := n2_; clear n0_ n1_ n2_; (try clear hb); (try clear hb2); (try clear hk); (try clear hi))); try go_wp2_with (first | (go_at_call 9; (with_reducible refine (psalterylaw07_knows.calls k3  t341 _ A75.out).mono ?_); rintro e w76 ⟨rfl, hb⟩; have n0_ := zm (Kd.R_below (by (with_reducible repeat (first | apply zo | apply zp | apply zq)); exact HO_5.out) hb); have n1_ := zm (Kd.R_below (by (with_reducible repeat (first | apply zo | apply zp | apply zq)); exact HO_9.out) hb); have n2_ := zm (zJ (by repeat (first | (with_reducible first | exact HB.out | apply ze | apply zd | apply zf) | exact HB.out)) hb); clear HO_5; clear HO_9; clear HB; have HO_5 := n0_; have HO_9 := n1_; have HB := n2_; clear n0_ n1_ n2_; (try clear hb); (try clear hb2); (try clear hk); (try clear hi))))
            go_ret
            exact ⟨by first | rfl | (simp [errW_none, errW_some] <;> rfl) | (simp [*, errW_none, errW_some] <;> rfl), by repeat (first | (with_reducible first | exact HB.out | apply ze | apply zd | apply zf) | exact HB.out)⟩
  ·
   rw [if_neg c7] at H
   have c7b0 : (t294 == 0) = false := beq_eq_false_iff_ne.mpr c7
   have c7b1 : (t294 != 0) = true := bne_iff_ne.mpr c7
   by_cases c77 : (t293.length : Int) = 0
   ·
    rw [if_pos c77] at H
    have c77b0 : ((t293.length : Int) == 0) = true := beq_iff_eq.mpr c77
    have c77b1 : ((t293.length : Int) != 0) = false := bne_eq_false_iff_eq.mpr c77
    clear c77
    replace H := Option.bind_eq_some_iff.mp H
    obtain ⟨t297, A780, H⟩ := H
    replace H : (some t297) = some r := H
    have A78 := zm A780
    clear A780
    obtain rfl := Option.some.inj H
    go_enter Try.func6, Try.ntmps6
    go_wp2_with (first | (go_at_call 13; (with_reducible refine (pvq_Search.calls k _ _ l0 a1 t293 t294 _ ?side1 ?side2 A6.out).mono ?_); (case side1 => repeat (first | exact HR0.out | (with_reducible refine Kd.C_alloc ?_ _) | (with_reducible refine Kd.C_drewN ?_ _) | (with_reducible refine Kd.C_drew ?_))); (case side2 => exact HC0.out); rintro e w79 ⟨v295, rfl, ho0, hb⟩; have n0_ := zm (Kd.R_lower ho0 (zE (by repeat (first | (with_reducible first | exact HB.out | apply ze | apply zd | apply zf) | exact HB.out)))); have n1_ := zm (zJ (by repeat (first | (with_reducible first | exact HB.out | apply ze | apply zd | apply zf) | exact HB.out)) hb); clear HB; have HO296 := n0_; have HB := n1_; clear n0_ n1_; (try clear hb); (try clear hb2); (try clear hk); (try clear hi); (try clear ho0); obtain ⟨Ao80, co80, eo80⟩ := Kd.R_slice HO296.out; subst eo80) | (go_at_call 9; (with_reducible refine (psalterylaw07_knows.calls k  t297 _ A78.out).mono ?_); rintro e w81 ⟨rfl, hb⟩; have n0_ := zm (Kd.R_below (by (with_reducible repeat (first | apply zo | apply zp | apply zq)); exact HO296.out) hb); have n1_ := zm (zJ (by repeat (first | (with_reducible first | exact HB.out | apply ze | apply zd | apply zf) | exact HB.out)) hb); clear HO296; clear HB; have HO296 := n0_; have HB := n1_; clear n0_ n1_; (try clear hb); (try clear hb2); (try clear hk); (try clear hi)))
    repeat (go_quiet (first | (go_at_call 13; (with_reducible refine (pvq_Search.calls k _ _ l0 a1 t293 t294 _ ?side1 ?side2 A6.out).mono ?_); (case side1 => repeat (first | exact HR0.out | (with_reducible refine Kd.C_alloc ?_ _) | (with_reducible refine Kd.C_drewN ?_ _) | (with_reducible refine Kd.C_drew ?_))); (case side2 => exact HC0.out); rintro e w79 ⟨v295, rfl, ho0, hb⟩; have n0_ := zm (Kd.R_lower ho0 (zE (by repeat (first | (with_reducible first | exact HB.out | apply ze | apply zd | apply zf) | exact HB.out)))); have n1_ := zm (zJ (by repeat (first | (with_reducible first | exact HB.out | apply ze | apply zd | apply zf) | exact HB.out)) hb); clear HB; have HO296 := n0_; have HB := n1_; clear n0_ n1_; (try clear hb); (try clear hb2); (try clear hk); (try clear hi); (try clear ho0); obtain ⟨Ao80, co80, eo80⟩ := Kd.R_slice HO296.out; subst eo80) | (go_at_call 9; (with_reducible refine (psalterylaw07_knows.calls k  t297 _ A78.out).mono ?_); rintro e w81 ⟨rfl, hb⟩; have n0_ := zm (Kd.R_below (by (with_reducible repeat (first | apply zo | apply zp | apply zq)); exact HO296.out) hb); have n1_ := zm (zJ (by repeat (first | (with_reducible first | exact HB.out | apply ze | apply zd | apply zf) | exact HB.out)) hb); clear HO296; clear HB; have HO296 := n0_; have HB := n1_; clear n0_ n1_; (try clear hb); (try clear hb2); (try clear hk); (try clear hi))); try go_wp2_with (first | (go_at_call 13; (with_reducible refine (pvq_Search.calls k _ _ l0 a1 t293 t294 _ ?side1 ?side2 A6.out).mono ?_); (case side1 => repeat (first | exact HR0.out | (with_reducible refine Kd.C_alloc ?_ _) | (with_reducible refine Kd.C_drewN ?_ _) | (with_reducible refine Kd.C_drew ?_))); (case side2 => exact HC0.out); rintro e w79 ⟨v295, rfl, ho0, hb⟩; have n0_ := zm (Kd.R_lower ho0 (zE (by repeat (first | (with_reducible first | exact HB.out | apply ze | apply zd | apply zf) | exact HB.out)))); have n1_ := zm (zJ (by repeat (first | (with_reducible first | exact HB.out | apply ze | apply zd | apply zf) | exact HB.out)) hb); clear HB; have HO296 := n0_; have HB := n1_; clear n0_ n1_; (try clear hb); (try clear hb2); (try clear hk); (try clear hi); (try clear ho0); obtain ⟨Ao80, co80, eo80⟩ := Kd.R_slice HO296.out; subst eo80) | (go_at_call 9; (with_reducible refine (psalterylaw07_knows.calls k  t297 _ A78.out).mono ?_); rintro e w81 ⟨rfl, hb⟩; have n0_ := zm (Kd.R_below (by (with_reducible repeat (first | apply zo | apply zp | apply zq)); exact HO296.out) hb); have n1_ := zm (zJ (by repeat (first | (with_reducible first | exact HB.out | apply ze | apply zd | apply zf) | exact HB.out)) hb); clear HO296; clear HB; have HO296 := n0_; have HB := n1_; clear n0_ n1_; (try clear hb); (try clear hb2); (try clear hk); (try clear hi))))
    go_ret
    exact ⟨by first | rfl | (simp [errW_none, errW_some] <;> rfl) | (simp [*, errW_none, errW_some] <;> rfl), by repeat (first | (with_reducible first | exact HB.out | apply ze | apply zd | apply zf) | exact HB.out)⟩
   ·
    rw [if_neg c77] at H
    exact absurd H (by simp)

/-- THE ONE PURE STATEMENT of psalterylaw07_PvqSigns: yours. -/
def psalterylaw07_PvqSigns.Pure : Prop := ∀ (l0 : List Int) (a1 : Int), l0.length ≤ maxLen → l0.length * 8 ≤ 140737488351232 → (∀ x ∈ l0, (Lit.int .i64 x).wf = true) → (Lit.int .i64 a1).wf = true → ∃ k, psalterylaw07_PvqSigns.f k l0 a1 = some true
theorem psalterylaw07_PvqSigns.walk (P : psalterylaw07_PvqSigns.Pure) (a0 : Option Addr) (len0 cap0 : Nat) (z0 : List Int) (a1 : Int) (w : World) (w0 : (a0 = none ∧ len0 = 0 ∧ cap0 = 0 ∧ z0 = []) ∨ ∃ x, a0 = some x ∧ len0 ≤ cap0 ∧ cap0 ≤ maxLen ∧ z0.length = cap0 ∧ (∀ i, i < z0.length → w.cell? (x.add i) = some (.int .i64 (z0.getD i 0))) ∧ ∀ n ∈ z0, (Lit.int .i64 n).wf = true) (y0 : len0 * 8 ≤ 140737488351232) (w1 : (Lit.int .i64 a1).wf = true) :
  Calls Try.prog 6 #[.slice a0 len0 cap0, .int .i64 a1] w fun e w' => e = .returned (.bool true) ∧ Below w.heap.size w w' := by
 obtain ⟨l0, rfl, hr0, hm0, hw0, hc0⟩ := ReadsInt.ofRowC w0
 obtain ⟨k, h⟩ := P l0 a1 hm0 y0 hw0 w1
 refine (psalterylaw07_PvqSigns.calls k _ _ l0 a1 true w (Kd.C_of_reads (d := (0 : Int)) (h1 := fun _ => rfl) hr0) hc0 h).mono ?_
 rintro e w' ⟨rfl, hd⟩
 exact ⟨rfl, hd⟩

end Go.Proofs.Ytllgjhenbchkfaa.Prt
