-- Functions of the program and of the document as plain Lean, each with the proof that the code comes to it. Written by a program of this session (wip/tools/myprint.py, pack.py) over the kit's printer; Lean checks it.
import Derived.Test.YtllchhcdpfiodaaDoorZLapFramesPrt0
import Derived.Test.YtllchhcdpfiodaaDoorZLapFramesM1
import Derived.Test.YtllchhcdpfiodaaDoorZLapFramesM2
namespace Go.Proofs.YtllchhcdpfiodaaDoor.Prt
open Go.RowKit Go.Proofs.YtllchhcdpfiodaaDoorW.PrintWords Go.Proofs.YtllchhcdpfiodaaDoorW.PrintLast Go.Proofs.YtllchhcdpfiodaaDoorW.PrintMore
attribute [local go_sem] max2_int min2_int max_two min_two max_three min_three max_four min_four   -- for this text's walks alone
set_option linter.unusedVariables false
set_option linter.unusedSimpArgs false

/-! ### psalterylaw09_LapFrames: function 5 -/
def psalterylaw09_LapFrames.j0 : Nat → List Int → Int → List (List Int) → Int → Bool → Option (Bool)
 | 0, _, _, _, _, _ => none
 | k + 1, x0, x1, x5, x6, x30 => if x30 = true then (if (x5.length : Int) = 0 then (if x6 = 1 then ((psalterylaw09_knows.f k).bind fun t387 => (some t387)) else (none)) else (none)) else ((psalteryref09_Frames.f k x0 x1).bind fun t388 => ((psalteryref09_SameFrames.f k x5 t388).bind fun t391 => (if t391 = true then (if x6 = 0 then ((psalterylaw09_knows.f k).bind fun t392 => (some t392)) else (none)) else (none))))
def psalterylaw09_LapFrames.f (k : Nat) (l0 : List Int) (a1 : Int) : Option (Bool) := (psalterylaw09_great.f l0).bind fun t380 => (if t380 = true then ((psalterylaw09_knows.f k).bind fun t381 => (some t381)) else ((lap_Frames.f k l0 a1).bind fun bt382 => ((psalteryref09_Within.f k l0 262144).bind fun t386 => (if t386 = true then (if a1 = 8 then (psalterylaw09_LapFrames.j0 k l0 a1 bt382.1 bt382.2 false) else (if a1 = 16 then (psalterylaw09_LapFrames.j0 k l0 a1 bt382.1 bt382.2 false) else (psalterylaw09_LapFrames.j0 k l0 a1 bt382.1 bt382.2 (a1 != 32)))) else (psalterylaw09_LapFrames.j0 k l0 a1 bt382.1 bt382.2 true)))))
theorem psalterylaw09_LapFrames.mono_l : ∀ k, (∀ y0 y1 y2 y3 y4, LeO (psalterylaw09_LapFrames.j0 k y0 y1 y2 y3 y4) (psalterylaw09_LapFrames.j0 (k + 1) y0 y1 y2 y3 y4))
 | 0 => fun _ _ _ _ _ r h => by simp [psalterylaw09_LapFrames.j0] at h
 | k + 1 => by
  have ih0 := psalterylaw09_LapFrames.mono_l k
  ·
   intro y0 y1 y2 y3 y4
   unfold psalterylaw09_LapFrames.j0
   repeat' first
   | (with_reducible exact ih0 _ _ _ _ _)
   | (with_reducible exact lap_Frames.mono _ _ _)
   | (with_reducible exact psalterylaw09_knows.mono _)
   | (with_reducible exact psalteryref09_Frames.mono _ _ _)
   | (with_reducible exact psalteryref09_SameFrames.mono _ _ _)
   | (with_reducible exact psalteryref09_Within.mono _ _ _)
   | (with_reducible exact LeO.refl _)
   | (with_reducible exact LeO.none _)
   | (with_reducible refine LeO.ite ?_ ?_)
   | (with_reducible refine LeO.bind ?_ (fun _ => ?_))
   | exact ih0 _ _ _ _ _
   | exact lap_Frames.mono _ _ _
   | exact psalterylaw09_knows.mono _
   | exact psalteryref09_Frames.mono _ _ _
   | exact psalteryref09_SameFrames.mono _ _ _
   | exact psalteryref09_Within.mono _ _ _
   | exact LeO.none _
   | refine LeO.ite ?_ ?_
   | refine LeO.bind ?_ (fun _ => ?_)
theorem psalterylaw09_LapFrames.mono : ∀ a0 a1 k, LeO (psalterylaw09_LapFrames.f k a0 a1) (psalterylaw09_LapFrames.f (k + 1) a0 a1) := by
 intro a0 a1 k
 have ih0 := psalterylaw09_LapFrames.mono_l k
 unfold psalterylaw09_LapFrames.f
 repeat' first
   | (with_reducible exact ih0 _ _ _ _ _)
   | (with_reducible exact lap_Frames.mono _ _ _)
   | (with_reducible exact psalterylaw09_knows.mono _)
   | (with_reducible exact psalteryref09_Frames.mono _ _ _)
   | (with_reducible exact psalteryref09_SameFrames.mono _ _ _)
   | (with_reducible exact psalteryref09_Within.mono _ _ _)
   | (with_reducible exact LeO.refl _)
   | (with_reducible exact LeO.none _)
   | (with_reducible refine LeO.ite ?_ ?_)
   | (with_reducible refine LeO.bind ?_ (fun _ => ?_))
   | exact ih0 _ _ _ _ _
   | exact lap_Frames.mono _ _ _
   | exact psalterylaw09_knows.mono _
   | exact psalteryref09_Frames.mono _ _ _
   | exact psalteryref09_SameFrames.mono _ _ _
   | exact psalteryref09_Within.mono _ _ _
   | exact LeO.none _
   | refine LeO.ite ?_ ?_
   | refine LeO.bind ?_ (fun _ => ?_)
set_option maxHeartbeats 8000000 in
set_option maxRecDepth 100000 in
theorem psalterylaw09_LapFrames.calls (k : Nat) (A0 : Option Addr) (c0 : Nat) (l0 : List Int) (a1 : Int) (r : Bool) (w : World) (hr0 : Kd.C (Kd.int .i64) w A0 l0.length l0) (hc0 : l0.length ≤ c0) (hg : GW w) (h : psalterylaw09_LapFrames.f k l0 a1 = some r) :
  Calls Tryd.prog 5 #[.slice A0 l0.length c0, .int .i64 a1] w fun e w' => e = .returned (.bool r) ∧ Below w.heap.size w w' := by
 have HG := zm hg
 clear hg
 have HR0 := zm hr0
 have HC0 := zm hc0
 clear hr0 hc0
 have HB := zm (Below.refl w.heap.size w)
 have H : ((psalterylaw09_great.f l0).bind fun t380 => (if t380 = true then ((psalterylaw09_knows.f k).bind fun t381 => (some t381)) else ((lap_Frames.f k l0 a1).bind fun bt382 => ((psalteryref09_Within.f k l0 262144).bind fun t386 => (if t386 = true then (if a1 = 8 then (psalterylaw09_LapFrames.j0 k l0 a1 bt382.1 bt382.2 false) else (if a1 = 16 then (psalterylaw09_LapFrames.j0 k l0 a1 bt382.1 bt382.2 false) else (psalterylaw09_LapFrames.j0 k l0 a1 bt382.1 bt382.2 (a1 != 32)))) else (psalterylaw09_LapFrames.j0 k l0 a1 bt382.1 bt382.2 true)))))) = some r := h
 clear h
 replace H := Option.bind_eq_some_iff.mp H
 obtain ⟨t380, A30, H⟩ := H
 replace H : (if t380 = true then ((psalterylaw09_knows.f k).bind fun t381 => (some t381)) else ((lap_Frames.f k l0 a1).bind fun bt382 => ((psalteryref09_Within.f k l0 262144).bind fun t386 => (if t386 = true then (if a1 = 8 then (psalterylaw09_LapFrames.j0 k l0 a1 bt382.1 bt382.2 false) else (if a1 = 16 then (psalterylaw09_LapFrames.j0 k l0 a1 bt382.1 bt382.2 false) else (psalterylaw09_LapFrames.j0 k l0 a1 bt382.1 bt382.2 (a1 != 32)))) else (psalterylaw09_LapFrames.j0 k l0 a1 bt382.1 bt382.2 true))))) = some r := H
 have A3 := zm A30
 clear A30
 by_cases c4 : t380 = true
 ·
  subst c4
  have H1 : ((psalterylaw09_knows.f k).bind fun t381 => (some t381)) = some r := by rw [if_pos rfl] at H; exact H
  clear H
  have H := H1
  clear H1
  replace H := Option.bind_eq_some_iff.mp H
  obtain ⟨t381, A50, H⟩ := H
  replace H : (some t381) = some r := H
  have A5 := zm A50
  clear A50
  obtain rfl := Option.some.inj H
  go_enter Tryd.func5, Tryd.ntmps5
  go_wp2_with (first | ((with_reducible refine gate_callee (f := 10) rfl ?_); refine goesL_ (some 8) rfl rfl Tryd.func10 (by kernel_rfl) rfl #[.slice A0 l0.length c0] rfl (by (try simp only [List.map_toArray, List.map_cons, List.map_nil]); first | done | rfl | (simp only [List.length_drop, List.length_take]; rfl)) ?_; (with_reducible refine (psalterylaw09_great.calls _ _ l0 true _ ?side1 ?side2 A3.out).mono ?_); (case side1 => repeat (first | exact HR0.out | (with_reducible refine Kd.C_alloc ?_ _) | (with_reducible refine Kd.C_drewN ?_ _) | (with_reducible refine Kd.C_drew ?_))); (case side2 => exact HC0.out); rintro e w' ⟨rfl, ⟨nd, rfl⟩⟩; refine ⟨_, rfl, ?_⟩) | ((with_reducible refine gate_callee (f := 11) rfl ?_); refine goesL_ (some 9) rfl rfl Tryd.func11 (by kernel_rfl) rfl #[] rfl (by (try simp only [List.map_toArray, List.map_cons, List.map_nil]); first | done | rfl | (simp only [List.length_drop, List.length_take]; rfl)) ?_; (with_reducible refine (psalterylaw09_knows.calls k  t381 _ ?sideg A5.out).mono ?_); (case sideg => exact HG.out.below (by repeat (first | (with_reducible first | exact HB.out | apply ze | apply zd | apply zf) | exact HB.out))); rintro e w6 ⟨rfl, hb⟩; refine ⟨_, rfl, ?_⟩; have n0_ := zm (zJ (by repeat (first | (with_reducible first | exact HB.out | apply ze | apply zd | apply zf) | exact HB.out)) hb); clear HB; have HB := n0_; clear n0_; (try clear hb); (try clear hb2); (try clear hk); (try clear hi)))
  go_ret
  exact ⟨by first | rfl | (simp [errW_none, errW_some] <;> rfl) | (simp [*, errW_none, errW_some] <;> rfl), by repeat (first | (with_reducible first | exact HB.out | apply ze | apply zd | apply zf) | exact HB.out)⟩
 ·
  replace c4 := Bool.eq_false_iff.mpr c4
  subst c4
  have H1 : ((lap_Frames.f k l0 a1).bind fun bt382 => ((psalteryref09_Within.f k l0 262144).bind fun t386 => (if t386 = true then (if a1 = 8 then (psalterylaw09_LapFrames.j0 k l0 a1 bt382.1 bt382.2 false) else (if a1 = 16 then (psalterylaw09_LapFrames.j0 k l0 a1 bt382.1 bt382.2 false) else (psalterylaw09_LapFrames.j0 k l0 a1 bt382.1 bt382.2 (a1 != 32)))) else (psalterylaw09_LapFrames.j0 k l0 a1 bt382.1 bt382.2 true)))) = some r := by rw [if_neg (show ¬ (false = true) by decide)] at H; exact H
  clear H
  have H := H1
  clear H1
  replace H := Option.bind_eq_some_iff.mp H
  obtain ⟨⟨t382, t383⟩, A70, H⟩ := H
  replace H : ((psalteryref09_Within.f k l0 262144).bind fun t386 => (if t386 = true then (if a1 = 8 then (psalterylaw09_LapFrames.j0 k l0 a1 t382 t383 false) else (if a1 = 16 then (psalterylaw09_LapFrames.j0 k l0 a1 t382 t383 false) else (psalterylaw09_LapFrames.j0 k l0 a1 t382 t383 (a1 != 32)))) else (psalterylaw09_LapFrames.j0 k l0 a1 t382 t383 true))) = some r := H
  have A7 := zm A70
  clear A70
  have HC8 := zm H
  clear H
  go_enter Tryd.func5, Tryd.ntmps5
  go_upto_region 4 with (first | ((with_reducible refine gate_callee (f := 10) rfl ?_); refine goesL_ (some 8) rfl rfl Tryd.func10 (by kernel_rfl) rfl #[.slice A0 l0.length c0] rfl (by (try simp only [List.map_toArray, List.map_cons, List.map_nil]); first | done | rfl | (simp only [List.length_drop, List.length_take]; rfl)) ?_; (with_reducible refine (psalterylaw09_great.calls _ _ l0 false _ ?side1 ?side2 A3.out).mono ?_); (case side1 => repeat (first | exact HR0.out | (with_reducible refine Kd.C_alloc ?_ _) | (with_reducible refine Kd.C_drewN ?_ _) | (with_reducible refine Kd.C_drew ?_))); (case side2 => exact HC0.out); rintro e w' ⟨rfl, ⟨nd, rfl⟩⟩; refine ⟨_, rfl, ?_⟩) | ((with_reducible refine gate_callee (f := 20) rfl ?_); refine goesL_ (some 13) rfl rfl Tryd.func20 (by kernel_rfl) rfl #[.slice A0 l0.length c0, .int .i64 a1] rfl (by (try simp only [List.map_toArray, List.map_cons, List.map_nil]); first | done | rfl | (simp only [List.length_drop, List.length_take]; rfl)) ?_; (with_reducible refine (lap_Frames.calls k _ _ l0 a1 t382 t383 _ ?side1 ?side2 ?sideg A7.out).mono ?_); (case sideg => exact HG.out.below (by repeat (first | (with_reducible first | exact HB.out | apply ze | apply zd | apply zf) | exact HB.out))); (case side1 => repeat (first | exact HR0.out | (with_reducible refine Kd.C_alloc ?_ _) | (with_reducible refine Kd.C_drewN ?_ _) | (with_reducible refine Kd.C_drew ?_))); (case side2 => exact HC0.out); rintro e w9 ⟨v384, rfl, ho0, hb⟩; refine ⟨_, rfl, ?_⟩; have n0_ := zm (Kd.S_lower ho0 (zE (by repeat (first | (with_reducible first | exact HB.out | apply ze | apply zd | apply zf) | exact HB.out)))); have n1_ := zm (zJ (by repeat (first | (with_reducible first | exact HB.out | apply ze | apply zd | apply zf) | exact HB.out)) hb); clear HB; have HO385 := n0_; have HB := n1_; clear n0_ n1_; (try clear hb); (try clear hb2); (try clear hk); (try clear hi); (try clear ho0)))
  (try simp only [Act.put, List.setIfInBounds_toArray, List.set_cons_zero, List.set_cons_succ])
  go_cut [30] (fun v30 wc => ∃ (kq : Nat) (x30_7 : Bool), v30 = .bool x30_7 ∧ Aside0 (psalterylaw09_LapFrames.j0 kq l0 a1 t382 t383 x30_7 = some r) ∧ Aside0 (kq ≤ k) ∧ Aside0 (Kd.S (Kd.slice 2 (Kd.int .i64)) 22 wc w.heap.size (fun _ => True) v384 t382) ∧ Aside0 (Below w.heap.size w wc))
  case first =>
   have H := HC8.out
   clear HC8
   replace H := Option.bind_eq_some_iff.mp H
   obtain ⟨t386, A100, H⟩ := H
   replace H : (if t386 = true then (if a1 = 8 then (psalterylaw09_LapFrames.j0 k l0 a1 t382 t383 false) else (if a1 = 16 then (psalterylaw09_LapFrames.j0 k l0 a1 t382 t383 false) else (psalterylaw09_LapFrames.j0 k l0 a1 t382 t383 (a1 != 32)))) else (psalterylaw09_LapFrames.j0 k l0 a1 t382 t383 true)) = some r := H
   have A10 := zm A100
   clear A100
   by_cases c11 : t386 = true
   ·
    subst c11
    have H1 : (if a1 = 8 then (psalterylaw09_LapFrames.j0 k l0 a1 t382 t383 false) else (if a1 = 16 then (psalterylaw09_LapFrames.j0 k l0 a1 t382 t383 false) else (psalterylaw09_LapFrames.j0 k l0 a1 t382 t383 (a1 != 32)))) = some r := by rw [if_pos rfl] at H; exact H
    clear H
    have H := H1
    clear H1
    by_cases c12 : a1 = 8
    ·
     rw [if_pos c12] at H
     have c12b0 : (a1 == 8) = true := beq_iff_eq.mpr c12
     have c12b1 : (a1 != 8) = false := bne_eq_false_iff_eq.mpr c12
     clear c12
     (first | rw [c12b0] | (simp only [i64_w, i32_w]; rw [c12b0]) | skip)
     have H' := zm H
     clear H
     go_wp2_with (first | ((with_reducible refine gate_callee (f := 13) rfl ?_); refine goesL_ (some 17) rfl rfl Tryd.func13 (by kernel_rfl) rfl #[.slice A0 l0.length c0, .int .i64 262144] rfl (by (try simp only [List.map_toArray, List.map_cons, List.map_nil]); first | done | rfl | (simp only [List.length_drop, List.length_take]; rfl)) ?_; (with_reducible refine (psalteryref09_Within.calls k _ _ l0 262144 true _ ?side1 ?side2 A10.out).mono ?_); (case side1 => repeat (first | exact (Kd.C_below HR0.out HB.out) | (with_reducible refine Kd.C_alloc ?_ _) | (with_reducible refine Kd.C_drewN ?_ _) | (with_reducible refine Kd.C_drew ?_))); (case side2 => exact HC0.out); rintro e w' ⟨rfl, ⟨nd, rfl⟩⟩; refine ⟨_, rfl, ?_⟩))
     go_meet
     case rel => exact ⟨_, (false), (by first | rfl | (simp; done) | (simp [*]; done)), H', ⟨by first | omega | exact Nat.le_refl _⟩, ⟨by (with_reducible repeat (first | apply Kd.S_alloc | apply Kd.S_drewN | apply Kd.S_drew)); exact HO385.out⟩, ⟨by repeat (first | (with_reducible first | exact HB.out | apply ze | apply zd | apply zf) | exact HB.out)⟩⟩
    ·
     rw [if_neg c12] at H
     have c12b0 : (a1 == 8) = false := beq_eq_false_iff_ne.mpr c12
     have c12b1 : (a1 != 8) = true := bne_iff_ne.mpr c12
     (first | rw [c12b0] | (simp only [i64_w, i32_w]; rw [c12b0]) | skip)
     by_cases c13 : a1 = 16
     ·
      rw [if_pos c13] at H
      have c13b0 : (a1 == 16) = true := beq_iff_eq.mpr c13
      have c13b1 : (a1 != 16) = false := bne_eq_false_iff_eq.mpr c13
      clear c13
      have H' := zm H
      clear H
      go_wp2_with (first | ((with_reducible refine gate_callee (f := 13) rfl ?_); refine goesL_ (some 17) rfl rfl Tryd.func13 (by kernel_rfl) rfl #[.slice A0 l0.length c0, .int .i64 262144] rfl (by (try simp only [List.map_toArray, List.map_cons, List.map_nil]); first | done | rfl | (simp only [List.length_drop, List.length_take]; rfl)) ?_; (with_reducible refine (psalteryref09_Within.calls k _ _ l0 262144 true _ ?side1 ?side2 A10.out).mono ?_); (case side1 => repeat (first | exact (Kd.C_below HR0.out HB.out) | (with_reducible refine Kd.C_alloc ?_ _) | (with_reducible refine Kd.C_drewN ?_ _) | (with_reducible refine Kd.C_drew ?_))); (case side2 => exact HC0.out); rintro e w' ⟨rfl, ⟨nd, rfl⟩⟩; refine ⟨_, rfl, ?_⟩))
      go_meet
      case rel => exact ⟨_, (false), (by first | rfl | (simp; done) | (simp [*]; done)), H', ⟨by first | omega | exact Nat.le_refl _⟩, ⟨by (with_reducible repeat (first | apply Kd.S_alloc | apply Kd.S_drewN | apply Kd.S_drew)); exact HO385.out⟩, ⟨by repeat (first | (with_reducible first | exact HB.out | apply ze | apply zd | apply zf) | exact HB.out)⟩⟩
     ·
      rw [if_neg c13] at H
      have c13b0 : (a1 == 16) = false := beq_eq_false_iff_ne.mpr c13
      have c13b1 : (a1 != 16) = true := bne_iff_ne.mpr c13
      have H' := zm H
      clear H
      go_wp2_with (first | ((with_reducible refine gate_callee (f := 13) rfl ?_); refine goesL_ (some 17) rfl rfl Tryd.func13 (by kernel_rfl) rfl #[.slice A0 l0.length c0, .int .i64 262144] rfl (by (try simp only [List.map_toArray, List.map_cons, List.map_nil]); first | done | rfl | (simp only [List.length_drop, List.length_take]; rfl)) ?_; (with_reducible refine (psalteryref09_Within.calls k _ _ l0 262144 true _ ?side1 ?side2 A10.out).mono ?_); (case side1 => repeat (first | exact (Kd.C_below HR0.out HB.out) | (with_reducible refine Kd.C_alloc ?_ _) | (with_reducible refine Kd.C_drewN ?_ _) | (with_reducible refine Kd.C_drew ?_))); (case side2 => exact HC0.out); rintro e w' ⟨rfl, ⟨nd, rfl⟩⟩; refine ⟨_, rfl, ?_⟩))
      go_meet
      case rel => exact ⟨_, ((a1 != 32)), (by first | rfl | (simp; done) | (simp [*]; done)), H', ⟨by first | omega | exact Nat.le_refl _⟩, ⟨by (with_reducible repeat (first | apply Kd.S_alloc | apply Kd.S_drewN | apply Kd.S_drew)); exact HO385.out⟩, ⟨by repeat (first | (with_reducible first | exact HB.out | apply ze | apply zd | apply zf) | exact HB.out)⟩⟩
   ·
    replace c11 := Bool.eq_false_iff.mpr c11
    subst c11
    have H1 : (psalterylaw09_LapFrames.j0 k l0 a1 t382 t383 true) = some r := by rw [if_neg (show ¬ (false = true) by decide)] at H; exact H
    clear H
    have H := H1
    clear H1
    have H' := zm H
    clear H
    go_wp2_with (first | ((with_reducible refine gate_callee (f := 13) rfl ?_); refine goesL_ (some 17) rfl rfl Tryd.func13 (by kernel_rfl) rfl #[.slice A0 l0.length c0, .int .i64 262144] rfl (by (try simp only [List.map_toArray, List.map_cons, List.map_nil]); first | done | rfl | (simp only [List.length_drop, List.length_take]; rfl)) ?_; (with_reducible refine (psalteryref09_Within.calls k _ _ l0 262144 false _ ?side1 ?side2 A10.out).mono ?_); (case side1 => repeat (first | exact (Kd.C_below HR0.out HB.out) | (with_reducible refine Kd.C_alloc ?_ _) | (with_reducible refine Kd.C_drewN ?_ _) | (with_reducible refine Kd.C_drew ?_))); (case side2 => exact HC0.out); rintro e w' ⟨rfl, ⟨nd, rfl⟩⟩; refine ⟨_, rfl, ?_⟩))
    go_meet
    case rel => exact ⟨_, (true), (by first | rfl | (simp; done) | (simp [*]; done)), H', ⟨by first | omega | exact Nat.le_refl _⟩, ⟨by (with_reducible repeat (first | apply Kd.S_alloc | apply Kd.S_drewN | apply Kd.S_drew)); exact HO385.out⟩, ⟨by repeat (first | (with_reducible first | exact HB.out | apply ze | apply zd | apply zf) | exact HB.out)⟩⟩
  case rest =>
   clear HC8
   try clear c1
   try clear c2
   try clear p2
   try clear c4
   try clear c5
   try clear c10
   try clear c11
   try clear c12
   try clear c12b0
   try clear c12b1
   try clear c13
   try clear c13b0
   try clear c13b1
   obtain ⟨kq, x30_7, rfl, HA, HJ7, HO_5, HB⟩ := hcut
   cases kq with
   | zero => exact absurd HA.out (by simp [psalterylaw09_LapFrames.j0])
   | succ kj7 =>
    have H := HA.out
    clear HA
    simp only [psalterylaw09_LapFrames.j0] at H
    by_cases c14 : x30_7 = true
    ·
     subst c14
     have H1 : (if (t382.length : Int) = 0 then (if t383 = 1 then ((psalterylaw09_knows.f kj7).bind fun t387 => (some t387)) else (none)) else (none)) = some r := by rw [if_pos rfl] at H; exact H
     clear H
     have H := H1
     clear H1
     by_cases c15 : (t382.length : Int) = 0
     ·
      rw [if_pos c15] at H
      have c15b0 : ((t382.length : Int) == 0) = true := beq_iff_eq.mpr c15
      have c15b1 : ((t382.length : Int) != 0) = false := bne_eq_false_iff_eq.mpr c15
      clear c15
      by_cases c16 : t383 = 1
      ·
       rw [if_pos c16] at H
       have c16b0 : (t383 == 1) = true := beq_iff_eq.mpr c16
       have c16b1 : (t383 != 1) = false := bne_eq_false_iff_eq.mpr c16
       clear c16
       replace H := Option.bind_eq_some_iff.mp H
       obtain ⟨t387, A170, H⟩ := H
       replace H : (some t387) = some r := H
       have A17 := zm A170
       clear A170
       obtain rfl := Option.some.inj H
       obtain ⟨Ao18, co18, eo18⟩ := Kd.S_slice HO_5.out
       subst eo18
       go_wp2_with (first | (go_at_call 11; (with_reducible refine (psalterylaw09_knows.calls kj7  t387 _ ?sideg A17.out).mono ?_); (case sideg => exact HG.out.below (by repeat (first | (with_reducible first | exact HB.out | apply ze | apply zd | apply zf) | exact HB.out))); rintro e w19 ⟨rfl, hb⟩; have n0_ := zm (Kd.S_below (by (with_reducible repeat (first | apply Kd.S_alloc | apply Kd.S_drewN | apply Kd.S_drew)); exact HO_5.out) hb); have n1_ := zm (zJ (by repeat (first | (with_reducible first | exact HB.out | apply ze | apply zd | apply zf) | exact HB.out)) hb); clear HO_5; clear HB; have HO_5 := n0_; have HB := n1_; clear n0_ n1_; (try clear hb); (try clear hb2); (try clear hk); (try clear hi)))
       go_ret
       exact ⟨by first | rfl | (simp [errW_none, errW_some] <;> rfl) | (simp [*, errW_none, errW_some] <;> rfl), by repeat (first | (with_reducible first | exact HB.out | apply ze | apply zd | apply zf) | exact HB.out)⟩
      ·
       rw [if_neg c16] at H
       exact absurd H (by simp)
     ·
      rw [if_neg c15] at H
      exact absurd H (by simp)
    ·
     replace c14 := Bool.eq_false_iff.mpr c14
     subst c14
     have H1 : ((psalteryref09_Frames.f kj7 l0 a1).bind fun t388 => ((psalteryref09_SameFrames.f kj7 t382 t388).bind fun t391 => (if t391 = true then (if t383 = 0 then ((psalterylaw09_knows.f kj7).bind fun t392 => (some t392)) else (none)) else (none)))) = some r := by rw [if_neg (show ¬ (false = true) by decide)] at H; exact H
     clear H
     have H := H1
     clear H1
     replace H := Option.bind_eq_some_iff.mp H
     obtain ⟨t388, A200, H⟩ := H
     replace H : ((psalteryref09_SameFrames.f kj7 t382 t388).bind fun t391 => (if t391 = true then (if t383 = 0 then ((psalterylaw09_knows.f kj7).bind fun t392 => (some t392)) else (none)) else (none))) = some r := H
     have A20 := zm A200
     clear A200
     replace H := Option.bind_eq_some_iff.mp H
     obtain ⟨t391, A210, H⟩ := H
     replace H : (if t391 = true then (if t383 = 0 then ((psalterylaw09_knows.f kj7).bind fun t392 => (some t392)) else (none)) else (none)) = some r := H
     have A21 := zm A210
     clear A210
     by_cases c22 : t391 = true
     ·
      subst c22
      have H1 : (if t383 = 0 then ((psalterylaw09_knows.f kj7).bind fun t392 => (some t392)) else (none)) = some r := by rw [if_pos rfl] at H; exact H
      clear H
      have H := H1
      clear H1
      by_cases c23 : t383 = 0
      ·
       rw [if_pos c23] at H
       have c23b0 : (t383 == 0) = true := beq_iff_eq.mpr c23
       have c23b1 : (t383 != 0) = false := bne_eq_false_iff_eq.mpr c23
       clear c23
       replace H := Option.bind_eq_some_iff.mp H
       obtain ⟨t392, A240, H⟩ := H
       replace H : (some t392) = some r := H
       have A24 := zm A240
       clear A240
       obtain rfl := Option.some.inj H
       go_wp2_with (first | ((with_reducible refine gate_callee (f := 22) rfl ?_); refine goesL_ (some 44) rfl rfl Tryd.func22 (by kernel_rfl) rfl #[.slice A0 l0.length c0, .int .i64 a1] rfl (by (try simp only [List.map_toArray, List.map_cons, List.map_nil]); first | done | rfl | (simp only [List.length_drop, List.length_take]; rfl)) ?_; (with_reducible refine (psalteryref09_Frames.calls kj7 _ _ l0 a1 t388 _ ?side1 ?side2 A20.out).mono ?_); (case side1 => repeat (first | exact (Kd.C_below HR0.out HB.out) | (with_reducible refine Kd.C_alloc ?_ _) | (with_reducible refine Kd.C_drewN ?_ _) | (with_reducible refine Kd.C_drew ?_))); (case side2 => exact HC0.out); rintro e w25 ⟨v389, rfl, ho0, hb⟩; refine ⟨_, rfl, ?_⟩; have n0_ := zm (Kd.S_elder' (by (with_reducible repeat (first | apply Kd.S_alloc | apply Kd.S_drewN | apply Kd.S_drew)); exact HO_5.out) (Kd.S_base ho0) hb); have n1_ := zm (Kd.S_lower (Kd.S_new' ho0 (Kd.S_lt (by (with_reducible repeat (first | apply Kd.S_alloc | apply Kd.S_drewN | apply Kd.S_drew)); exact HO_5.out))) (zE (by repeat (first | (with_reducible first | exact HB.out | apply ze | apply zd | apply zf) | exact HB.out)))); have n2_ := zm (zJ (by repeat (first | (with_reducible first | exact HB.out | apply ze | apply zd | apply zf) | exact HB.out)) hb); clear HO_5; clear HB; have HO_5 := n0_; have HO390 := n1_; have HB := n2_; clear n0_ n1_ n2_; (try clear hb); (try clear hb2); (try clear hk); (try clear hi); (try clear ho0); obtain ⟨Ao26, co26, eo26⟩ := Kd.S_slice HO_5.out; subst eo26; obtain ⟨Ao27, co27, eo27⟩ := Kd.S_slice HO390.out; subst eo27) | ((with_reducible refine gate_callee (f := 21) rfl ?_); refine goesL_ (some 45) rfl rfl Tryd.func21 (by kernel_rfl) rfl #[.slice Ao26 t382.length co26, .slice Ao27 t388.length co27] rfl (by (try simp only [List.map_toArray, List.map_cons, List.map_nil]); first | done | rfl | (simp only [List.length_drop, List.length_take]; rfl)) ?_; (with_reducible refine (psalteryref09_SameFrames.calls kj7 _ _ t382 _ _ t388 true _ ?side1 ?side2 ?side3 ?side4 A21.out).mono ?_); (case side1 => repeat (first | exact (Kd.S_reads' HO_5.out).2.2 | (with_reducible refine Kd.C_alloc ?_ _) | (with_reducible refine Kd.C_drewN ?_ _) | (with_reducible refine Kd.C_drew ?_))); (case side2 => exact (Kd.S_reads' HO_5.out).2.1); (case side3 => repeat (first | exact (Kd.S_reads' HO390.out).2.2 | (with_reducible refine Kd.C_alloc ?_ _) | (with_reducible refine Kd.C_drewN ?_ _) | (with_reducible refine Kd.C_drew ?_))); (case side4 => exact (Kd.S_reads' HO390.out).2.1); rintro e w' ⟨rfl, ⟨nd, rfl⟩⟩; refine ⟨_, rfl, ?_⟩) | (go_at_call 11; (with_reducible refine (psalterylaw09_knows.calls kj7  t392 _ ?sideg A24.out).mono ?_); (case sideg => exact HG.out.below (by repeat (first | (with_reducible first | exact HB.out | apply ze | apply zd | apply zf) | exact HB.out))); rintro e w28 ⟨rfl, hb⟩; have n0_ := zm (Kd.S_below (by (with_reducible repeat (first | apply Kd.S_alloc | apply Kd.S_drewN | apply Kd.S_drew)); exact HO_5.out) hb); have n1_ := zm (Kd.S_below (by (with_reducible repeat (first | apply Kd.S_alloc | apply Kd.S_drewN | apply Kd.S_drew)); exact HO390.out) hb); have n2_ := zm (zJ (by repeat (first | (with_reducible first | exact HB.out | apply ze | apply zd | apply zf) | exact HB.out)) hb); clear HO_5; clear HO390; clear HB; have HO_5 := n0_; have HO390 := n1_; have HB := n2_; clear n0_ n1_ n2_; (try clear hb); (try clear hb2); (try clear hk); (try clear hi)))
       go_ret
       exact ⟨by first | rfl | (simp [errW_none, errW_some] <;> rfl) | (simp [*, errW_none, errW_some] <;> rfl), by repeat (first | (with_reducible first | exact HB.out | apply ze | apply zd | apply zf) | exact HB.out)⟩
      ·
       rw [if_neg c23] at H
       exact absurd H (by simp)
     ·
      replace c22 := Bool.eq_false_iff.mpr c22
      subst c22
      have H1 : (none) = some r := by rw [if_neg (show ¬ (false = true) by decide)] at H; exact H
      clear H
      have H := H1
      clear H1
      exact absurd H (by simp)


end Go.Proofs.YtllchhcdpfiodaaDoor.Prt
