-- Functions of the program and of the document as plain Lean, each with the proof that the code comes to it. Written by a program of this session (wip/tools/myprint.py, pack.py) over the kit's printer; Lean checks it.
import Derived.Test.YtllchhcdpfiodaaDoorZLapNearPrt0
import Derived.Test.YtllchhcdpfiodaaDoorZLapNearM2
namespace Go.Proofs.YtllchhcdpfiodaaDoor.Prt
open Go.RowKit Go.Proofs.YtllchhcdpfiodaaDoorW.PrintWords Go.Proofs.YtllchhcdpfiodaaDoorW.PrintLast Go.Proofs.YtllchhcdpfiodaaDoorW.PrintMore
attribute [local go_sem] max2_int min2_int max_two min_two max_three min_three max_four min_four   -- for this text's walks alone
set_option linter.unusedVariables false
set_option linter.unusedSimpArgs false

/-! ### psalteryref09_Turn: function 17 -/
def psalteryref09_Turn.l0 : Nat → List Int → Int → List Int → Int → Option (List Int)
 | 0, _, _, _, _ => none
 | k + 1, x0, x1, x5, x6 => if x6 < 4 then (if 0 ≤ (wrap64 ((wrap64 (x1 - 1)) - x6)) then (if (wrap64 ((wrap64 (x1 - 1)) - x6)) < (x0.length : Int) then (if 0 ≤ (wrap64 (x1 + x6)) then (if (wrap64 (x1 + x6)) < (x0.length : Int) then ((psalteryref09_part.f k (rd x0 (wrap64 ((wrap64 (x1 - 1)) - x6))) x6).bind fun t269 => ((psalteryref09_part.f k (wrap64 ((rd x0 (wrap64 (x1 + x6))) - t269)) x6).bind fun t270 => (if (wrap64 ((wrap64 (x1 - 1)) - x6)) < (x5.length : Int) then (if (wrap64 (x1 + x6)) < (x5.length : Int) then (psalteryref09_Turn.l0 k x0 x1 ((x5.set ((wrap64 ((wrap64 (x1 - 1)) - x6)) : Int).toNat (wrap64 ((rd x0 (wrap64 ((wrap64 (x1 - 1)) - x6))) + t270))).set ((wrap64 (x1 + x6)) : Int).toNat (wrap64 ((rd x0 (wrap64 (x1 + x6))) - t269))) (wrap64 (x6 + 1))) else (none)) else (none)))) else (none)) else (none)) else (none)) else (none)) else (some x5)
def psalteryref09_Turn.f (k : Nat) (l0 : List Int) (a1 : Int) : Option (List Int) := (some (([] : List Int) : List Int)).bind fun y261 => (if y261.length + l0.length < 17592186044416 then (psalteryref09_Turn.l0 k l0 a1 (y261 ++ l0) 0) else (none))
theorem psalteryref09_Turn.mono_l : ∀ k, (∀ y0 y1 y2 y3, LeO (psalteryref09_Turn.l0 k y0 y1 y2 y3) (psalteryref09_Turn.l0 (k + 1) y0 y1 y2 y3))
 | 0 => fun _ _ _ _ r h => by simp [psalteryref09_Turn.l0] at h
 | k + 1 => by
  have ih0 := psalteryref09_Turn.mono_l k
  ·
   intro y0 y1 y2 y3
   unfold psalteryref09_Turn.l0
   repeat' first
   | (with_reducible exact ih0 _ _ _ _)
   | (with_reducible exact psalteryref09_part.mono _ _ _)
   | (with_reducible exact LeO.refl _)
   | (with_reducible exact LeO.none _)
   | (with_reducible refine LeO.ite ?_ ?_)
   | (with_reducible refine LeO.bind ?_ (fun _ => ?_))
   | exact ih0 _ _ _ _
   | exact psalteryref09_part.mono _ _ _
   | exact LeO.none _
   | refine LeO.ite ?_ ?_
   | refine LeO.bind ?_ (fun _ => ?_)
theorem psalteryref09_Turn.mono : ∀ a0 a1 k, LeO (psalteryref09_Turn.f k a0 a1) (psalteryref09_Turn.f (k + 1) a0 a1) := by
 intro a0 a1 k
 have ih0 := psalteryref09_Turn.mono_l k
 unfold psalteryref09_Turn.f
 repeat' first
   | (with_reducible exact ih0 _ _ _ _)
   | (with_reducible exact psalteryref09_part.mono _ _ _)
   | (with_reducible exact LeO.refl _)
   | (with_reducible exact LeO.none _)
   | (with_reducible refine LeO.ite ?_ ?_)
   | (with_reducible refine LeO.bind ?_ (fun _ => ?_))
   | exact ih0 _ _ _ _
   | exact psalteryref09_part.mono _ _ _
   | exact LeO.none _
   | refine LeO.ite ?_ ?_
   | refine LeO.bind ?_ (fun _ => ?_)
set_option maxHeartbeats 8000000 in
set_option maxRecDepth 100000 in
theorem psalteryref09_Turn.calls (k : Nat) (A0 : Option Addr) (c0 : Nat) (l0 : List Int) (a1 : Int) (r : List Int) (w : World) (hr0 : Kd.C (Kd.int .i64) w A0 l0.length l0) (hc0 : l0.length ≤ c0) (h : psalteryref09_Turn.f k l0 a1 = some r) :
  Calls Tryd.prog 17 #[.slice A0 l0.length c0, .int .i64 a1] w fun e w' => ∃ v0_ : Value, e = .returned (v0_) ∧ Kd.R (Kd.int .i64) 2 w' w.heap.size (fun _ => True) v0_ r ∧ Below w.heap.size w w' := by
 have HR0 := zm hr0
 have HC0 := zm hc0
 clear hr0 hc0
 have HB := zm (Below.refl w.heap.size w)
 have H : ((some (([] : List Int) : List Int)).bind fun y261 => (if y261.length + l0.length < 17592186044416 then (psalteryref09_Turn.l0 k l0 a1 (y261 ++ l0) 0) else (none))) = some r := h
 clear h
 obtain ⟨y261, hy261⟩ : ∃ y_ : List Int, y_ = (([] : List Int)) := ⟨_, rfl⟩
 replace H : (if y261.length + l0.length < 17592186044416 then (psalteryref09_Turn.l0 k l0 a1 (y261 ++ l0) 0) else (none)) = some r := by first | (rw [hy261]; with_reducible exact H) | (have H2_ := (Option.bind_some _ _).symm.trans H; rw [hy261]; with_reducible exact H2_) | (have H2_ := (Option.bind_some _ _).symm.trans H; with_reducible exact H2_) | with_reducible exact H | (rw [hy261]; exact H) | exact H
 have Ny261 := zm hy261
 clear hy261
 by_cases c3 : y261.length + l0.length < 17592186044416
 ·
  rw [if_pos c3] at H
  have LMc3 := zm c3
  clear c3
  obtain ⟨y264, hy264⟩ : ∃ y_ : List Int, y_ = (y261 ++ l0) := ⟨_, rfl⟩
  replace H : (psalteryref09_Turn.l0 k l0 a1 y264 0) = some r := by first | (rw [hy264]; with_reducible exact H) | (have H2_ := (Option.bind_some _ _).symm.trans H; rw [hy264]; with_reducible exact H2_) | (have H2_ := (Option.bind_some _ _).symm.trans H; with_reducible exact H2_) | with_reducible exact H | (rw [hy264]; exact H) | exact H
  have Ny264 := zm hy264
  clear hy264
  have H' := zm H
  clear H
  go_enter Tryd.func17, Tryd.ntmps17
  go_wp2_with (first | ((with_reducible refine gate_dst (N := 9) rfl ?_); refine Kd.R_lit (Kd.int .i64) _ 2 ?hg (N := 9) ?hd (xs := ([] : List Int)) (inner := []) (ok := fun _ => True) (okp := fun _ => True) ?hr ?hp (fun _ hk => hk) trivial (Below.refl _ _) (Nat.le_refl _) (by simp) ?_; (case hd => rfl); (case hg => rfl); (case hr => first | (go_simp; done) | (go_simp; rfl)); (case hp => exact (Reps.none _ _)); intro v262 w4 ho5 hb hg_ hnew_; clear hg_ hnew_; (first | rw [← Ny261.out] at ho5 | (simp only [Int.reduceToNat] at ho5; rw [← Ny261.out] at ho5)); have n0_ := zm (Kd.R_lower ho5 (zE (by repeat (first | (with_reducible first | exact HB.out | apply ze | apply zd | apply zf) | exact HB.out)))); have n1_ := zm (zJ (by repeat (first | (with_reducible first | exact HB.out | apply ze | apply zd | apply zf) | exact HB.out)) hb); clear HB; have HO263 := n0_; have HB := n1_; clear n0_ n1_; clear hb ho5) | ((with_reducible refine gate_builtin (b := .append) (xs := #[.tmp 9, .tmp 10]) rfl ?_); at_builtin; refine Kd.R_append_rows (Kd.int .i64) (w0 := w) w.heap.size rfl (.tmp 9) (.tmp 10) 22 2 (.int .i64 0) 8 rfl Tryd.underlying22 info2 rfl (by decide) (by omega) v262 y261 l0 _ _ _ (fun _ => True) (fun _ => False) rfl rfl ?aO ?aR (fun _ _ h => h) (fun _ h => h.elim) ?aF ?aB ?aS ?aL ?_; (case aR => repeat (first | exact (Kd.C_below HR0.out HB.out) | (with_reducible refine Kd.C_alloc ?_ _) | (with_reducible refine Kd.C_drewN ?_ _) | (with_reducible refine Kd.C_drew ?_))); (case aB => exact (by repeat (first | (with_reducible first | exact HB.out | apply ze | apply zd | apply zf) | exact HB.out))); (case aF => exact (fun _ _ => trivial)); (case aO => exact (by (with_reducible repeat (first | apply zo | apply zp | apply zq)); exact HO263.out)); (case aS => exact (zE (by repeat (first | (with_reducible first | exact HB.out | apply ze | apply zd | apply zf) | exact HB.out)))); (case aL => have := LMc3.out; omega); intro v265 w6 ho hb hg hat; rw [← Ny264.out] at ho; have n0_ := zm (hb); have n1_ := zm (ho); clear HB; clear HO263; have HB := n0_; have HO266 := n1_; clear n0_ n1_; clear ho hb hg hat))
  repeat (go_quiet (first | ((with_reducible refine gate_dst (N := 9) rfl ?_); refine Kd.R_lit (Kd.int .i64) _ 2 ?hg (N := 9) ?hd (xs := ([] : List Int)) (inner := []) (ok := fun _ => True) (okp := fun _ => True) ?hr ?hp (fun _ hk => hk) trivial (Below.refl _ _) (Nat.le_refl _) (by simp) ?_; (case hd => rfl); (case hg => rfl); (case hr => first | (go_simp; done) | (go_simp; rfl)); (case hp => exact (Reps.none _ _)); intro v262 w4 ho5 hb hg_ hnew_; clear hg_ hnew_; (first | rw [← Ny261.out] at ho5 | (simp only [Int.reduceToNat] at ho5; rw [← Ny261.out] at ho5)); have n0_ := zm (Kd.R_lower ho5 (zE (by repeat (first | (with_reducible first | exact HB.out | apply ze | apply zd | apply zf) | exact HB.out)))); have n1_ := zm (zJ (by repeat (first | (with_reducible first | exact HB.out | apply ze | apply zd | apply zf) | exact HB.out)) hb); clear HB; have HO263 := n0_; have HB := n1_; clear n0_ n1_; clear hb ho5) | ((with_reducible refine gate_builtin (b := .append) (xs := #[.tmp 9, .tmp 10]) rfl ?_); at_builtin; refine Kd.R_append_rows (Kd.int .i64) (w0 := w) w.heap.size rfl (.tmp 9) (.tmp 10) 22 2 (.int .i64 0) 8 rfl Tryd.underlying22 info2 rfl (by decide) (by omega) v262 y261 l0 _ _ _ (fun _ => True) (fun _ => False) rfl rfl ?aO ?aR (fun _ _ h => h) (fun _ h => h.elim) ?aF ?aB ?aS ?aL ?_; (case aR => repeat (first | exact (Kd.C_below HR0.out HB.out) | (with_reducible refine Kd.C_alloc ?_ _) | (with_reducible refine Kd.C_drewN ?_ _) | (with_reducible refine Kd.C_drew ?_))); (case aB => exact (by repeat (first | (with_reducible first | exact HB.out | apply ze | apply zd | apply zf) | exact HB.out))); (case aF => exact (fun _ _ => trivial)); (case aO => exact (by (with_reducible repeat (first | apply zo | apply zp | apply zq)); exact HO263.out)); (case aS => exact (zE (by repeat (first | (with_reducible first | exact HB.out | apply ze | apply zd | apply zf) | exact HB.out)))); (case aL => have := LMc3.out; omega); intro v265 w6 ho hb hg hat; rw [← Ny264.out] at ho; have n0_ := zm (hb); have n1_ := zm (ho); clear HB; clear HO263; have HB := n0_; have HO266 := n1_; clear n0_ n1_; clear ho hb hg hat)); try go_wp2_with (first | ((with_reducible refine gate_dst (N := 9) rfl ?_); refine Kd.R_lit (Kd.int .i64) _ 2 ?hg (N := 9) ?hd (xs := ([] : List Int)) (inner := []) (ok := fun _ => True) (okp := fun _ => True) ?hr ?hp (fun _ hk => hk) trivial (Below.refl _ _) (Nat.le_refl _) (by simp) ?_; (case hd => rfl); (case hg => rfl); (case hr => first | (go_simp; done) | (go_simp; rfl)); (case hp => exact (Reps.none _ _)); intro v262 w4 ho5 hb hg_ hnew_; clear hg_ hnew_; (first | rw [← Ny261.out] at ho5 | (simp only [Int.reduceToNat] at ho5; rw [← Ny261.out] at ho5)); have n0_ := zm (Kd.R_lower ho5 (zE (by repeat (first | (with_reducible first | exact HB.out | apply ze | apply zd | apply zf) | exact HB.out)))); have n1_ := zm (zJ (by repeat (first | (with_reducible first | exact HB.out | apply ze | apply zd | apply zf) | exact HB.out)) hb); clear HB; have HO263 := n0_; have HB := n1_; clear n0_ n1_; clear hb ho5) | ((with_reducible refine gate_builtin (b := .append) (xs := #[.tmp 9, .tmp 10]) rfl ?_); at_builtin; refine Kd.R_append_rows (Kd.int .i64) (w0 := w) w.heap.size rfl (.tmp 9) (.tmp 10) 22 2 (.int .i64 0) 8 rfl Tryd.underlying22 info2 rfl (by decide) (by omega) v262 y261 l0 _ _ _ (fun _ => True) (fun _ => False) rfl rfl ?aO ?aR (fun _ _ h => h) (fun _ h => h.elim) ?aF ?aB ?aS ?aL ?_; (case aR => repeat (first | exact (Kd.C_below HR0.out HB.out) | (with_reducible refine Kd.C_alloc ?_ _) | (with_reducible refine Kd.C_drewN ?_ _) | (with_reducible refine Kd.C_drew ?_))); (case aB => exact (by repeat (first | (with_reducible first | exact HB.out | apply ze | apply zd | apply zf) | exact HB.out))); (case aF => exact (fun _ _ => trivial)); (case aO => exact (by (with_reducible repeat (first | apply zo | apply zp | apply zq)); exact HO263.out)); (case aS => exact (zE (by repeat (first | (with_reducible first | exact HB.out | apply ze | apply zd | apply zf) | exact HB.out)))); (case aL => have := LMc3.out; omega); intro v265 w6 ho hb hg hat; rw [← Ny264.out] at ho; have n0_ := zm (hb); have n1_ := zm (ho); clear HB; clear HO263; have HB := n0_; have HO266 := n1_; clear n0_ n1_; clear ho hb hg hat)))
  go_loopg [6] k (fun kq v6 w' => ∃ (x5_1 : List Int) (x6_1 : Int), v6 = .int .i64 x6_1 ∧ Aside0 (psalteryref09_Turn.l0 kq l0 a1 x5_1 x6_1 = some r) ∧ Aside0 (kq ≤ k) ∧ Aside0 (Kd.R (Kd.int .i64) 2 w' w.heap.size (fun _ => True) v265 x5_1) ∧ Aside0 (Below w.heap.size w w'))
  case atStart => exact ⟨(y264), (0), (by first | rfl | (simp; done) | (simp [*]; done)), H', ⟨Nat.le_refl _⟩, ⟨by (with_reducible repeat (first | apply zo | apply zp | apply zq)); exact HO266.out⟩, ⟨by repeat (first | (with_reducible first | exact HB.out | apply ze | apply zd | apply zf) | exact HB.out)⟩⟩
  case round =>
   clear H'
   try clear c1
   try clear p2
   try clear c3
   obtain ⟨x5_1, x6_1, rfl, HA, HK1, HO_5, HB⟩ := hrel
   cases gk with
   | zero => exact absurd HA.out (by simp [psalteryref09_Turn.l0])
   | succ k1 =>
    have H := HA.out
    clear HA
    simp only [psalteryref09_Turn.l0] at H
    by_cases c7 : x6_1 < 4
    ·
     rw [if_pos c7] at H
     have c7b0 : decide (x6_1 < 4) = true := decide_eq_true c7
     clear c7
     obtain ⟨ji8, hji8⟩ : ∃ j_ : Int, (wrap64 ((wrap64 (a1 - 1)) - x6_1)) = j_ := ⟨_, rfl⟩
     replace H : (if 0 ≤ (ji8) then (if (ji8) < (l0.length : Int) then (if 0 ≤ (wrap64 (a1 + x6_1)) then (if (wrap64 (a1 + x6_1)) < (l0.length : Int) then ((psalteryref09_part.f k1 (rd l0 (ji8)) x6_1).bind fun t269 => ((psalteryref09_part.f k1 (wrap64 ((rd l0 (wrap64 (a1 + x6_1))) - t269)) x6_1).bind fun t270 => (if (ji8) < (x5_1.length : Int) then (if (wrap64 (a1 + x6_1)) < (x5_1.length : Int) then (psalteryref09_Turn.l0 k1 l0 a1 ((x5_1.set ((ji8) : Int).toNat (wrap64 ((rd l0 (ji8)) + t270))).set ((wrap64 (a1 + x6_1)) : Int).toNat (wrap64 ((rd l0 (wrap64 (a1 + x6_1))) - t269))) (wrap64 (x6_1 + 1))) else (none)) else (none)))) else (none)) else (none)) else (none)) else (none)) = some r := by first | (rw [hji8] at H; exact H) | (simp only [hji8] at H ⊢; exact H)
     have hji8w : (IntKind.i64.wrap ((wrap64 (a1 - 1)) - x6_1)) = ji8 := (i64_w _).trans hji8
     by_cases c9 : 0 ≤ (ji8)
     ·
      rw [if_pos c9] at H
      have c9b0 : decide (0 ≤ (ji8)) = true := decide_eq_true c9
      clear c9
      by_cases c10 : (ji8) < (l0.length : Int)
      ·
       rw [if_pos c10] at H
       have c10b0 : decide ((ji8) < (l0.length : Int)) = true := decide_eq_true c10
       clear c10
       obtain ⟨ji11, hji11⟩ : ∃ j_ : Int, (wrap64 (a1 + x6_1)) = j_ := ⟨_, rfl⟩
       replace H : (if 0 ≤ (ji11) then (if (ji11) < (l0.length : Int) then ((psalteryref09_part.f k1 (rd l0 (ji8)) x6_1).bind fun t269 => ((psalteryref09_part.f k1 (wrap64 ((rd l0 (ji11)) - t269)) x6_1).bind fun t270 => (if (ji8) < (x5_1.length : Int) then (if (ji11) < (x5_1.length : Int) then (psalteryref09_Turn.l0 k1 l0 a1 ((x5_1.set ((ji8) : Int).toNat (wrap64 ((rd l0 (ji8)) + t270))).set ((ji11) : Int).toNat (wrap64 ((rd l0 (ji11)) - t269))) (wrap64 (x6_1 + 1))) else (none)) else (none)))) else (none)) else (none)) = some r := by first | (rw [hji11] at H; exact H) | (simp only [hji11] at H ⊢; exact H)
       have hji11w : (IntKind.i64.wrap (a1 + x6_1)) = ji11 := (i64_w _).trans hji11
       by_cases c12 : 0 ≤ (ji11)
       ·
        rw [if_pos c12] at H
        have c12b0 : decide (0 ≤ (ji11)) = true := decide_eq_true c12
        clear c12
        by_cases c13 : (ji11) < (l0.length : Int)
        ·
         rw [if_pos c13] at H
         have c13b0 : decide ((ji11) < (l0.length : Int)) = true := decide_eq_true c13
         clear c13
         replace H := Option.bind_eq_some_iff.mp H
         obtain ⟨t269, A140, H⟩ := H
         replace H : ((psalteryref09_part.f k1 (wrap64 ((rd l0 (ji11)) - t269)) x6_1).bind fun t270 => (if (ji8) < (x5_1.length : Int) then (if (ji11) < (x5_1.length : Int) then (psalteryref09_Turn.l0 k1 l0 a1 ((x5_1.set ((ji8) : Int).toNat (wrap64 ((rd l0 (ji8)) + t270))).set ((ji11) : Int).toNat (wrap64 ((rd l0 (ji11)) - t269))) (wrap64 (x6_1 + 1))) else (none)) else (none))) = some r := H
         have A14 := zm A140
         clear A140
         replace H := Option.bind_eq_some_iff.mp H
         obtain ⟨t270, A150, H⟩ := H
         replace H : (if (ji8) < (x5_1.length : Int) then (if (ji11) < (x5_1.length : Int) then (psalteryref09_Turn.l0 k1 l0 a1 ((x5_1.set ((ji8) : Int).toNat (wrap64 ((rd l0 (ji8)) + t270))).set ((ji11) : Int).toNat (wrap64 ((rd l0 (ji11)) - t269))) (wrap64 (x6_1 + 1))) else (none)) else (none)) = some r := H
         have A15 := zm A150
         clear A150
         by_cases c16 : (ji8) < (x5_1.length : Int)
         ·
          rw [if_pos c16] at H
          have c16b0 : decide ((ji8) < (x5_1.length : Int)) = true := decide_eq_true c16
          clear c16
          obtain ⟨y271, hy271⟩ : ∃ y_ : List Int, y_ = (x5_1.set ((ji8) : Int).toNat (wrap64 ((rd l0 (ji8)) + t270))) := ⟨_, rfl⟩
          replace H : (if (ji11) < (x5_1.length : Int) then (psalteryref09_Turn.l0 k1 l0 a1 (y271.set ((ji11) : Int).toNat (wrap64 ((rd l0 (ji11)) - t269))) (wrap64 (x6_1 + 1))) else (none)) = some r := by first | (rw [hy271]; with_reducible exact H) | (have H2_ := (Option.bind_some _ _).symm.trans H; rw [hy271]; with_reducible exact H2_) | (have H2_ := (Option.bind_some _ _).symm.trans H; with_reducible exact H2_) | with_reducible exact H | (rw [hy271]; exact H) | exact H
          have Ny271 := zm hy271
          clear hy271
          by_cases c18 : (ji11) < (x5_1.length : Int)
          ·
           rw [if_pos c18] at H
           have c18b0 : decide ((ji11) < (x5_1.length : Int)) = true := decide_eq_true c18
           clear c18
           obtain ⟨y272, hy272⟩ : ∃ y_ : List Int, y_ = (y271.set ((ji11) : Int).toNat (wrap64 ((rd l0 (ji11)) - t269))) := ⟨_, rfl⟩
           replace H : (psalteryref09_Turn.l0 k1 l0 a1 y272 (wrap64 (x6_1 + 1))) = some r := by first | (rw [hy272]; with_reducible exact H) | (have H2_ := (Option.bind_some _ _).symm.trans H; rw [hy272]; with_reducible exact H2_) | (have H2_ := (Option.bind_some _ _).symm.trans H; with_reducible exact H2_) | with_reducible exact H | (rw [hy272]; exact H) | exact H
           have Ny272 := zm hy272
           clear hy272
           have H' := zm H
           clear H
           have p267 : 0 ≤ ((ji8) : Int) := of_decide_eq_true (by first | (with_reducible assumption) | assumption)
           have q267 : (ji8) < (l0.length : Int) := of_decide_eq_true (by first | (with_reducible assumption) | assumption)
           obtain ⟨ad267, e267, hx267_0⟩ := Kd.at_int HR0.out (ji8) p267 q267
           cases e267
           replace hx267_0 := (HB.out.cell (zb w _ hx267_0)).trans hx267_0
           replace p267 := eq_true p267
           replace q267 := eq_true q267
           have p268 : 0 ≤ ((ji11) : Int) := of_decide_eq_true (by first | (with_reducible assumption) | assumption)
           have q268 : (ji11) < (l0.length : Int) := of_decide_eq_true (by first | (with_reducible assumption) | assumption)
           obtain ⟨ad268, e268, hx268_0⟩ := Kd.at_int HR0.out (ji11) p268 q268
           obtain rfl : ad267 = ad268 := (by injection e268)
           replace hx268_0 := (HB.out.cell (zb w _ hx268_0)).trans hx268_0
           replace p268 := eq_true p268
           replace q268 := eq_true q268
           go_wp2_with (first | (go_at_call 31; (with_reducible refine (psalteryref09_part.calls k1 (rd l0 (ji8)) x6_1 t269 _ A14.out).mono ?_); rintro e w' ⟨rfl, ⟨nd, rfl⟩⟩; (try first | exact ⟨rfl, _, World.drewN_drewN _ _ _⟩ | exact ⟨rfl, _, Eq.trans (World.drewN_drewN _ _ _) (congrArg (World.drewN _) (Nat.add_assoc _ _ _))⟩)) | (go_at_call 31; (with_reducible refine (psalteryref09_part.calls k1 (wrap64 ((rd l0 (ji11)) - t269)) x6_1 t270 _ A15.out).mono ?_); rintro e w' ⟨rfl, ⟨nd, rfl⟩⟩; (try first | exact ⟨rfl, _, World.drewN_drewN _ _ _⟩ | exact ⟨rfl, _, Eq.trans (World.drewN_drewN _ _ _) (congrArg (World.drewN _) (Nat.add_assoc _ _ _))⟩); have p17 : 0 ≤ ((ji8) : Int) := of_decide_eq_true (by first | (with_reducible assumption) | assumption); have q17 : ((ji8) : Int) < ((x5_1.length : Int) : Int) := of_decide_eq_true (by first | (with_reducible assumption) | assumption); obtain ⟨go17, co17, eo17, gb17, gl17, cl17, HG17⟩ := Kd.R_form HO_5.out (by omega); (first | cases eo17 | (injection eo17 with ea_ en_ ec_; (first | subst ea_ | (injection ea_ with ea_; subst ea_)); subst ec_; clear en_)); have GB17 := zm gb17; have GG17 := zm HG17; clear gb17 gl17 HG17; obtain ⟨hx17_0, hf17_0⟩ := Kd.R_celln 0 HO_5.out ((ji8) : Int) p17 q17; replace p17 := eq_true p17; replace q17 := eq_true q17; obtain ⟨hy20_, hz20_⟩ := Kd.R_celln 0 HO_5.out ((ji8) : Int) (of_decide_eq_true (by first | (with_reducible assumption) | assumption)) (of_decide_eq_true (by first | (with_reducible assumption) | assumption)); have HP20 := Kd.R_putg HO_5.out ((ji8) : Int) (wrap64 ((rd l0 (ji8)) + t270))) | ((with_reducible refine gate_store (t := 2) (p := 45) rfl ?_); (try (rw [drewN_self wr]; generalize hq_ : World.drewN wr _ = wr; have n0_ := zm (Kd.R_at hq_ HO_5.out); have n1_ := zm (below_at hq_ HB.out); clear hq_ HO_5 HB; have HO_5 := n0_; have HB := n1_; clear n0_ n1_; (try (obtain ⟨hy20_, hz20_⟩ := Kd.R_celln 0 HO_5.out ((ji8) : Int) (of_decide_eq_true (by first | (with_reducible assumption) | assumption)) (of_decide_eq_true (by first | (with_reducible assumption) | assumption)))); (try (have HP20 := Kd.R_putg HO_5.out ((ji8) : Int) (wrap64 ((rd l0 (ji8)) + t270)))))); refine store_event (t := 2) (p := 45) (v := ?vo_w21) (w1 := (wr.setCell ⟨go17, ((ji8) : Int).toNat, none⟩ (.int .i64 (wrap64 ((rd l0 (ji8)) + t270))))) ?hg ?ho ?hn ?hr ?_; (case ho => rfl); (case hg => rfl); (case hn => rfl); (case hr => first | (go_simp; done) | (go_simp; rfl)); intro w21 hw; have hg : wr.grownBy w21 (some go17) := (by rw [hw]; exact HP20.2); have hp_ : Kd.R (Kd.int .i64) 2 w21 w.heap.size (fun _ => True) (.slice (some ⟨go17, 0, none⟩) x5_1.length co17) y271 := (by rw [hw, Ny271.out]; exact HP20.1); clear HP20; have n0_ := zm (hp_); have n1_ := zm ((by rw [hw]; exact zk (HB.out) GB17.out : Below w.heap.size w w21)); clear HO_5; clear HB; have HO_5 := n0_; have HB := n1_; clear n0_ n1_; clear hg hw hp_; have p19 : 0 ≤ ((ji11) : Int) := of_decide_eq_true (by first | (with_reducible assumption) | assumption); have q19 : ((ji11) : Int) < ((x5_1.length : Int) : Int) := of_decide_eq_true (by first | (with_reducible assumption) | assumption); obtain ⟨hx19_0, hf19_0⟩ := Kd.R_celln 0 HO_5.out ((ji11) : Int) p19 q19; replace p19 := eq_true p19; replace q19 := eq_true q19; obtain ⟨hy22_, hz22_⟩ := Kd.R_celln 0 HO_5.out ((ji11) : Int) (of_decide_eq_true (by first | (with_reducible assumption) | assumption)) (of_decide_eq_true (by first | (with_reducible assumption) | assumption)); have HP22 := Kd.R_putg HO_5.out ((ji11) : Int) (wrap64 ((rd l0 (ji11)) - t269))) | ((with_reducible refine gate_store (t := 2) (p := 51) rfl ?_); (try (rw [drewN_self w21]; generalize hq_ : World.drewN w21 _ = w21; have n0_ := zm (Kd.R_at hq_ HO_5.out); have n1_ := zm (below_at hq_ HB.out); clear hq_ HO_5 HB; have HO_5 := n0_; have HB := n1_; clear n0_ n1_; (try (obtain ⟨hy22_, hz22_⟩ := Kd.R_celln 0 HO_5.out ((ji11) : Int) (of_decide_eq_true (by first | (with_reducible assumption) | assumption)) (of_decide_eq_true (by first | (with_reducible assumption) | assumption)))); (try (have HP22 := Kd.R_putg HO_5.out ((ji11) : Int) (wrap64 ((rd l0 (ji11)) - t269)))))); refine store_event (t := 2) (p := 51) (v := ?vo_w23) (w1 := (w21.setCell ⟨go17, ((ji11) : Int).toNat, none⟩ (.int .i64 (wrap64 ((rd l0 (ji11)) - t269))))) ?hg ?ho ?hn ?hr ?_; (case ho => rfl); (case hg => rfl); (case hn => rfl); (case hr => first | (go_simp; done) | (go_simp; rfl)); intro w23 hw; have hg : w21.grownBy w23 (some go17) := (by rw [hw]; exact HP22.2); have hp_ : Kd.R (Kd.int .i64) 2 w23 w.heap.size (fun _ => True) (.slice (some ⟨go17, 0, none⟩) x5_1.length co17) y272 := (by rw [hw, Ny272.out]; exact HP22.1); clear HP22; have n0_ := zm (hp_); have n1_ := zm ((by rw [hw]; exact zk (HB.out) GB17.out : Below w.heap.size w w23)); clear HO_5; clear HB; have HO_5 := n0_; have HB := n1_; clear n0_ n1_; clear hg hw hp_))
           repeat (go_quiet (first | (go_at_call 31; (with_reducible refine (psalteryref09_part.calls k1 (rd l0 (ji8)) x6_1 t269 _ A14.out).mono ?_); rintro e w' ⟨rfl, ⟨nd, rfl⟩⟩; (try first | exact ⟨rfl, _, World.drewN_drewN _ _ _⟩ | exact ⟨rfl, _, Eq.trans (World.drewN_drewN _ _ _) (congrArg (World.drewN _) (Nat.add_assoc _ _ _))⟩)) | (go_at_call 31; (with_reducible refine (psalteryref09_part.calls k1 (wrap64 ((rd l0 (ji11)) - t269)) x6_1 t270 _ A15.out).mono ?_); rintro e w' ⟨rfl, ⟨nd, rfl⟩⟩; (try first | exact ⟨rfl, _, World.drewN_drewN _ _ _⟩ | exact ⟨rfl, _, Eq.trans (World.drewN_drewN _ _ _) (congrArg (World.drewN _) (Nat.add_assoc _ _ _))⟩); have p17 : 0 ≤ ((ji8) : Int) := of_decide_eq_true (by first | (with_reducible assumption) | assumption); have q17 : ((ji8) : Int) < ((x5_1.length : Int) : Int) := of_decide_eq_true (by first | (with_reducible assumption) | assumption); obtain ⟨go17, co17, eo17, gb17, gl17, cl17, HG17⟩ := Kd.R_form HO_5.out (by omega); (first | cases eo17 | (injection eo17 with ea_ en_ ec_; (first | subst ea_ | (injection ea_ with ea_; subst ea_)); subst ec_; clear en_)); have GB17 := zm gb17; have GG17 := zm HG17; clear gb17 gl17 HG17; obtain ⟨hx17_0, hf17_0⟩ := Kd.R_celln 0 HO_5.out ((ji8) : Int) p17 q17; replace p17 := eq_true p17; replace q17 := eq_true q17; obtain ⟨hy20_, hz20_⟩ := Kd.R_celln 0 HO_5.out ((ji8) : Int) (of_decide_eq_true (by first | (with_reducible assumption) | assumption)) (of_decide_eq_true (by first | (with_reducible assumption) | assumption)); have HP20 := Kd.R_putg HO_5.out ((ji8) : Int) (wrap64 ((rd l0 (ji8)) + t270))) | ((with_reducible refine gate_store (t := 2) (p := 45) rfl ?_); (try (rw [drewN_self wr]; generalize hq_ : World.drewN wr _ = wr; have n0_ := zm (Kd.R_at hq_ HO_5.out); have n1_ := zm (below_at hq_ HB.out); clear hq_ HO_5 HB; have HO_5 := n0_; have HB := n1_; clear n0_ n1_; (try (obtain ⟨hy20_, hz20_⟩ := Kd.R_celln 0 HO_5.out ((ji8) : Int) (of_decide_eq_true (by first | (with_reducible assumption) | assumption)) (of_decide_eq_true (by first | (with_reducible assumption) | assumption)))); (try (have HP20 := Kd.R_putg HO_5.out ((ji8) : Int) (wrap64 ((rd l0 (ji8)) + t270)))))); refine store_event (t := 2) (p := 45) (v := ?vo_w21) (w1 := (wr.setCell ⟨go17, ((ji8) : Int).toNat, none⟩ (.int .i64 (wrap64 ((rd l0 (ji8)) + t270))))) ?hg ?ho ?hn ?hr ?_; (case ho => rfl); (case hg => rfl); (case hn => rfl); (case hr => first | (go_simp; done) | (go_simp; rfl)); intro w21 hw; have hg : wr.grownBy w21 (some go17) := (by rw [hw]; exact HP20.2); have hp_ : Kd.R (Kd.int .i64) 2 w21 w.heap.size (fun _ => True) (.slice (some ⟨go17, 0, none⟩) x5_1.length co17) y271 := (by rw [hw, Ny271.out]; exact HP20.1); clear HP20; have n0_ := zm (hp_); have n1_ := zm ((by rw [hw]; exact zk (HB.out) GB17.out : Below w.heap.size w w21)); clear HO_5; clear HB; have HO_5 := n0_; have HB := n1_; clear n0_ n1_; clear hg hw hp_; have p19 : 0 ≤ ((ji11) : Int) := of_decide_eq_true (by first | (with_reducible assumption) | assumption); have q19 : ((ji11) : Int) < ((x5_1.length : Int) : Int) := of_decide_eq_true (by first | (with_reducible assumption) | assumption); obtain ⟨hx19_0, hf19_0⟩ := Kd.R_celln 0 HO_5.out ((ji11) : Int) p19 q19; replace p19 := eq_true p19; replace q19 := eq_true q19; obtain ⟨hy22_, hz22_⟩ := Kd.R_celln 0 HO_5.out ((ji11) : Int) (of_decide_eq_true (by first | (with_reducible assumption) | assumption)) (of_decide_eq_true (by first | (with_reducible assumption) | assumption)); have HP22 := Kd.R_putg HO_5.out ((ji11) : Int) (wrap64 ((rd l0 (ji11)) - t269))) | ((with_reducible refine gate_store (t := 2) (p := 51) rfl ?_); (try (rw [drewN_self w21]; generalize hq_ : World.drewN w21 _ = w21; have n0_ := zm (Kd.R_at hq_ HO_5.out); have n1_ := zm (below_at hq_ HB.out); clear hq_ HO_5 HB; have HO_5 := n0_; have HB := n1_; clear n0_ n1_; (try (obtain ⟨hy22_, hz22_⟩ := Kd.R_celln 0 HO_5.out ((ji11) : Int) (of_decide_eq_true (by first | (with_reducible assumption) | assumption)) (of_decide_eq_true (by first | (with_reducible assumption) | assumption)))); (try (have HP22 := Kd.R_putg HO_5.out ((ji11) : Int) (wrap64 ((rd l0 (ji11)) - t269)))))); refine store_event (t := 2) (p := 51) (v := ?vo_w23) (w1 := (w21.setCell ⟨go17, ((ji11) : Int).toNat, none⟩ (.int .i64 (wrap64 ((rd l0 (ji11)) - t269))))) ?hg ?ho ?hn ?hr ?_; (case ho => rfl); (case hg => rfl); (case hn => rfl); (case hr => first | (go_simp; done) | (go_simp; rfl)); intro w23 hw; have hg : w21.grownBy w23 (some go17) := (by rw [hw]; exact HP22.2); have hp_ : Kd.R (Kd.int .i64) 2 w23 w.heap.size (fun _ => True) (.slice (some ⟨go17, 0, none⟩) x5_1.length co17) y272 := (by rw [hw, Ny272.out]; exact HP22.1); clear HP22; have n0_ := zm (hp_); have n1_ := zm ((by rw [hw]; exact zk (HB.out) GB17.out : Below w.heap.size w w23)); clear HO_5; clear HB; have HO_5 := n0_; have HB := n1_; clear n0_ n1_; clear hg hw hp_)); try go_wp2_with (first | (go_at_call 31; (with_reducible refine (psalteryref09_part.calls k1 (rd l0 (ji8)) x6_1 t269 _ A14.out).mono ?_); rintro e w' ⟨rfl, ⟨nd, rfl⟩⟩; (try first | exact ⟨rfl, _, World.drewN_drewN _ _ _⟩ | exact ⟨rfl, _, Eq.trans (World.drewN_drewN _ _ _) (congrArg (World.drewN _) (Nat.add_assoc _ _ _))⟩)) | (go_at_call 31; (with_reducible refine (psalteryref09_part.calls k1 (wrap64 ((rd l0 (ji11)) - t269)) x6_1 t270 _ A15.out).mono ?_); rintro e w' ⟨rfl, ⟨nd, rfl⟩⟩; (try first | exact ⟨rfl, _, World.drewN_drewN _ _ _⟩ | exact ⟨rfl, _, Eq.trans (World.drewN_drewN _ _ _) (congrArg (World.drewN _) (Nat.add_assoc _ _ _))⟩); have p17 : 0 ≤ ((ji8) : Int) := of_decide_eq_true (by first | (with_reducible assumption) | assumption); have q17 : ((ji8) : Int) < ((x5_1.length : Int) : Int) := of_decide_eq_true (by first | (with_reducible assumption) | assumption); obtain ⟨go17, co17, eo17, gb17, gl17, cl17, HG17⟩ := Kd.R_form HO_5.out (by omega); (first | cases eo17 | (injection eo17 with ea_ en_ ec_; (first | subst ea_ | (injection ea_ with ea_; subst ea_)); subst ec_; clear en_)); have GB17 := zm gb17; have GG17 := zm HG17; clear gb17 gl17 HG17; obtain ⟨hx17_0, hf17_0⟩ := Kd.R_celln 0 HO_5.out ((ji8) : Int) p17 q17; replace p17 := eq_true p17; replace q17 := eq_true q17; obtain ⟨hy20_, hz20_⟩ := Kd.R_celln 0 HO_5.out ((ji8) : Int) (of_decide_eq_true (by first | (with_reducible assumption) | assumption)) (of_decide_eq_true (by first | (with_reducible assumption) | assumption)); have HP20 := Kd.R_putg HO_5.out ((ji8) : Int) (wrap64 ((rd l0 (ji8)) + t270))) | ((with_reducible refine gate_store (t := 2) (p := 45) rfl ?_); (try (rw [drewN_self wr]; generalize hq_ : World.drewN wr _ = wr; have n0_ := zm (Kd.R_at hq_ HO_5.out); have n1_ := zm (below_at hq_ HB.out); clear hq_ HO_5 HB; have HO_5 := n0_; have HB := n1_; clear n0_ n1_; (try (obtain ⟨hy20_, hz20_⟩ := Kd.R_celln 0 HO_5.out ((ji8) : Int) (of_decide_eq_true (by first | (with_reducible assumption) | assumption)) (of_decide_eq_true (by first | (with_reducible assumption) | assumption)))); (try (have HP20 := Kd.R_putg HO_5.out ((ji8) : Int) (wrap64 ((rd l0 (ji8)) + t270)))))); refine store_event (t := 2) (p := 45) (v := ?vo_w21) (w1 := (wr.setCell ⟨go17, ((ji8) : Int).toNat, none⟩ (.int .i64 (wrap64 ((rd l0 (ji8)) + t270))))) ?hg ?ho ?hn ?hr ?_; (case ho => rfl); (case hg => rfl); (case hn => rfl); (case hr => first | (go_simp; done) | (go_simp; rfl)); intro w21 hw; have hg : wr.grownBy w21 (some go17) := (by rw [hw]; exact HP20.2); have hp_ : Kd.R (Kd.int .i64) 2 w21 w.heap.size (fun _ => True) (.slice (some ⟨go17, 0, none⟩) x5_1.length co17) y271 := (by rw [hw, Ny271.out]; exact HP20.1); clear HP20; have n0_ := zm (hp_); have n1_ := zm ((by rw [hw]; exact zk (HB.out) GB17.out : Below w.heap.size w w21)); clear HO_5; clear HB; have HO_5 := n0_; have HB := n1_; clear n0_ n1_; clear hg hw hp_; have p19 : 0 ≤ ((ji11) : Int) := of_decide_eq_true (by first | (with_reducible assumption) | assumption); have q19 : ((ji11) : Int) < ((x5_1.length : Int) : Int) := of_decide_eq_true (by first | (with_reducible assumption) | assumption); obtain ⟨hx19_0, hf19_0⟩ := Kd.R_celln 0 HO_5.out ((ji11) : Int) p19 q19; replace p19 := eq_true p19; replace q19 := eq_true q19; obtain ⟨hy22_, hz22_⟩ := Kd.R_celln 0 HO_5.out ((ji11) : Int) (of_decide_eq_true (by first | (with_reducible assumption) | assumption)) (of_decide_eq_true (by first | (with_reducible assumption) | assumption)); have HP22 := Kd.R_putg HO_5.out ((ji11) : Int) (wrap64 ((rd l0 (ji11)) - t269))) | ((with_reducible refine gate_store (t := 2) (p := 51) rfl ?_); (try (rw [drewN_self w21]; generalize hq_ : World.drewN w21 _ = w21; have n0_ := zm (Kd.R_at hq_ HO_5.out); have n1_ := zm (below_at hq_ HB.out); clear hq_ HO_5 HB; have HO_5 := n0_; have HB := n1_; clear n0_ n1_; (try (obtain ⟨hy22_, hz22_⟩ := Kd.R_celln 0 HO_5.out ((ji11) : Int) (of_decide_eq_true (by first | (with_reducible assumption) | assumption)) (of_decide_eq_true (by first | (with_reducible assumption) | assumption)))); (try (have HP22 := Kd.R_putg HO_5.out ((ji11) : Int) (wrap64 ((rd l0 (ji11)) - t269)))))); refine store_event (t := 2) (p := 51) (v := ?vo_w23) (w1 := (w21.setCell ⟨go17, ((ji11) : Int).toNat, none⟩ (.int .i64 (wrap64 ((rd l0 (ji11)) - t269))))) ?hg ?ho ?hn ?hr ?_; (case ho => rfl); (case hg => rfl); (case hn => rfl); (case hr => first | (go_simp; done) | (go_simp; rfl)); intro w23 hw; have hg : w21.grownBy w23 (some go17) := (by rw [hw]; exact HP22.2); have hp_ : Kd.R (Kd.int .i64) 2 w23 w.heap.size (fun _ => True) (.slice (some ⟨go17, 0, none⟩) x5_1.length co17) y272 := (by rw [hw, Ny272.out]; exact HP22.1); clear HP22; have n0_ := zm (hp_); have n1_ := zm ((by rw [hw]; exact zk (HB.out) GB17.out : Below w.heap.size w w23)); clear HO_5; clear HB; have HO_5 := n0_; have HB := n1_; clear n0_ n1_; clear hg hw hp_)))
           go_roundg k1
           case measure => have := HK1.out; omega
           case rel => exact ⟨(y272), (wrap64 (x6_1 + 1)), (by first | rfl | (simp; done) | (simp [*]; done)), H', ⟨by have := HK1.out; omega⟩, ⟨by (with_reducible repeat (first | apply zo | apply zp | apply zq)); exact HO_5.out⟩, ⟨by repeat (first | (with_reducible first | exact HB.out | apply ze | apply zd | apply zf) | exact HB.out)⟩⟩
          ·
           rw [if_neg c18] at H
           exact absurd H (by simp)
         ·
          rw [if_neg c16] at H
          exact absurd H (by simp)
        ·
         rw [if_neg c13] at H
         exact absurd H (by simp)
       ·
        rw [if_neg c12] at H
        exact absurd H (by simp)
      ·
       rw [if_neg c10] at H
       exact absurd H (by simp)
     ·
      rw [if_neg c9] at H
      exact absurd H (by simp)
    ·
     rw [if_neg c7] at H
     have c7b0 : decide (x6_1 < 4) = false := decide_eq_false c7
     clear c7
     obtain rfl := Option.some.inj H
     go_wp2
     repeat (go_quiet (fail); try go_wp2)
     go_ret
     exact ⟨_, by first | rfl | (simp [errW_none, errW_some] <;> rfl) | (simp [*, errW_none, errW_some] <;> rfl), by (with_reducible repeat (first | apply zo | apply zp | apply zq)); exact HO_5.out, by repeat (first | (with_reducible first | exact HB.out | apply ze | apply zd | apply zf) | exact HB.out)⟩
 ·
  rw [if_neg c3] at H
  exact absurd H (by simp)

end Go.Proofs.YtllchhcdpfiodaaDoor.Prt

namespace Go.Proofs.YtllchhcdpfiodaaDoor.Prt
open Go.RowKit Go.Proofs.YtllchhcdpfiodaaDoorW.PrintWords Go.Proofs.YtllchhcdpfiodaaDoorW.PrintLast Go.Proofs.YtllchhcdpfiodaaDoorW.PrintMore
attribute [local go_sem] max2_int min2_int max_two min_two max_three min_three max_four min_four   -- for this text's walks alone
set_option linter.unusedVariables false
set_option linter.unusedSimpArgs false

/-! ### psalteryref09_Full: function 27 -/
def psalteryref09_Full.l0 : Nat → Int → List Int → Option (List Int)
 | 0, _, _ => none
 | k + 1, x1, x5 => if x1 = 0 then (none) else (if ((x5.length : Int) % x1) = 0 then (some x5) else (if x5.length < 17592186044416 then (psalteryref09_Full.l0 k x1 (x5 ++ [0])) else (none)))
def psalteryref09_Full.f (k : Nat) (l0 : List Int) (a1 : Int) : Option (List Int) := (some (([] : List Int) : List Int)).bind fun y321 => (if y321.length + l0.length < 17592186044416 then (psalteryref09_Full.l0 k a1 (y321 ++ l0)) else (none))
theorem psalteryref09_Full.mono_l : ∀ k, (∀ y0 y1, LeO (psalteryref09_Full.l0 k y0 y1) (psalteryref09_Full.l0 (k + 1) y0 y1))
 | 0 => fun _ _ r h => by simp [psalteryref09_Full.l0] at h
 | k + 1 => by
  have ih0 := psalteryref09_Full.mono_l k
  ·
   intro y0 y1
   unfold psalteryref09_Full.l0
   repeat' first
   | (with_reducible exact ih0 _ _)
   | (with_reducible exact LeO.refl _)
   | (with_reducible exact LeO.none _)
   | (with_reducible refine LeO.ite ?_ ?_)
   | (with_reducible refine LeO.bind ?_ (fun _ => ?_))
   | exact ih0 _ _
   | exact LeO.none _
   | refine LeO.ite ?_ ?_
   | refine LeO.bind ?_ (fun _ => ?_)
theorem psalteryref09_Full.mono : ∀ a0 a1 k, LeO (psalteryref09_Full.f k a0 a1) (psalteryref09_Full.f (k + 1) a0 a1) := by
 intro a0 a1 k
 have ih0 := psalteryref09_Full.mono_l k
 unfold psalteryref09_Full.f
 repeat' first
   | (with_reducible exact ih0 _ _)
   | (with_reducible exact LeO.refl _)
   | (with_reducible exact LeO.none _)
   | (with_reducible refine LeO.ite ?_ ?_)
   | (with_reducible refine LeO.bind ?_ (fun _ => ?_))
   | exact ih0 _ _
   | exact LeO.none _
   | refine LeO.ite ?_ ?_
   | refine LeO.bind ?_ (fun _ => ?_)
set_option maxHeartbeats 8000000 in
set_option maxRecDepth 100000 in
theorem psalteryref09_Full.calls (k : Nat) (A0 : Option Addr) (c0 : Nat) (l0 : List Int) (a1 : Int) (r : List Int) (w : World) (hr0 : Kd.C (Kd.int .i64) w A0 l0.length l0) (hc0 : l0.length ≤ c0) (h : psalteryref09_Full.f k l0 a1 = some r) :
  Calls Tryd.prog 27 #[.slice A0 l0.length c0, .int .i64 a1] w fun e w' => ∃ v0_ : Value, e = .returned (v0_) ∧ Kd.R (Kd.int .i64) 2 w' w.heap.size (fun _ => True) v0_ r ∧ Below w.heap.size w w' := by
 have HR0 := zm hr0
 have HC0 := zm hc0
 clear hr0 hc0
 have HB := zm (Below.refl w.heap.size w)
 have H : ((some (([] : List Int) : List Int)).bind fun y321 => (if y321.length + l0.length < 17592186044416 then (psalteryref09_Full.l0 k a1 (y321 ++ l0)) else (none))) = some r := h
 clear h
 obtain ⟨y321, hy321⟩ : ∃ y_ : List Int, y_ = (([] : List Int)) := ⟨_, rfl⟩
 replace H : (if y321.length + l0.length < 17592186044416 then (psalteryref09_Full.l0 k a1 (y321 ++ l0)) else (none)) = some r := by first | (rw [hy321]; with_reducible exact H) | (have H2_ := (Option.bind_some _ _).symm.trans H; rw [hy321]; with_reducible exact H2_) | (have H2_ := (Option.bind_some _ _).symm.trans H; with_reducible exact H2_) | with_reducible exact H | (rw [hy321]; exact H) | exact H
 have Ny321 := zm hy321
 clear hy321
 by_cases c3 : y321.length + l0.length < 17592186044416
 ·
  rw [if_pos c3] at H
  have LMc3 := zm c3
  clear c3
  obtain ⟨y324, hy324⟩ : ∃ y_ : List Int, y_ = (y321 ++ l0) := ⟨_, rfl⟩
  replace H : (psalteryref09_Full.l0 k a1 y324) = some r := by first | (rw [hy324]; with_reducible exact H) | (have H2_ := (Option.bind_some _ _).symm.trans H; rw [hy324]; with_reducible exact H2_) | (have H2_ := (Option.bind_some _ _).symm.trans H; with_reducible exact H2_) | with_reducible exact H | (rw [hy324]; exact H) | exact H
  have Ny324 := zm hy324
  clear hy324
  have H' := zm H
  clear H
  go_enter Tryd.func27, Tryd.ntmps27
  go_wp2_with (first | ((with_reducible refine gate_dst (N := 6) rfl ?_); refine Kd.R_lit (Kd.int .i64) _ 2 ?hg (N := 6) ?hd (xs := ([] : List Int)) (inner := []) (ok := fun _ => True) (okp := fun _ => True) ?hr ?hp (fun _ hk => hk) trivial (Below.refl _ _) (Nat.le_refl _) (by simp) ?_; (case hd => rfl); (case hg => rfl); (case hr => first | (go_simp; done) | (go_simp; rfl)); (case hp => exact (Reps.none _ _)); intro v322 w4 ho5 hb hg_ hnew_; clear hg_ hnew_; (first | rw [← Ny321.out] at ho5 | (simp only [Int.reduceToNat] at ho5; rw [← Ny321.out] at ho5)); have n0_ := zm (Kd.R_lower ho5 (zE (by repeat (first | (with_reducible first | exact HB.out | apply ze | apply zd | apply zf) | exact HB.out)))); have n1_ := zm (zJ (by repeat (first | (with_reducible first | exact HB.out | apply ze | apply zd | apply zf) | exact HB.out)) hb); clear HB; have HO323 := n0_; have HB := n1_; clear n0_ n1_; clear hb ho5) | ((with_reducible refine gate_builtin (b := .append) (xs := #[.tmp 6, .tmp 7]) rfl ?_); at_builtin; refine Kd.R_append_rows (Kd.int .i64) (w0 := w) w.heap.size rfl (.tmp 6) (.tmp 7) 22 2 (.int .i64 0) 8 rfl Tryd.underlying22 info2 rfl (by decide) (by omega) v322 y321 l0 _ _ _ (fun _ => True) (fun _ => False) rfl rfl ?aO ?aR (fun _ _ h => h) (fun _ h => h.elim) ?aF ?aB ?aS ?aL ?_; (case aR => repeat (first | exact (Kd.C_below HR0.out HB.out) | (with_reducible refine Kd.C_alloc ?_ _) | (with_reducible refine Kd.C_drewN ?_ _) | (with_reducible refine Kd.C_drew ?_))); (case aB => exact (by repeat (first | (with_reducible first | exact HB.out | apply ze | apply zd | apply zf) | exact HB.out))); (case aF => exact (fun _ _ => trivial)); (case aO => exact (by (with_reducible repeat (first | apply zo | apply zp | apply zq)); exact HO323.out)); (case aS => exact (zE (by repeat (first | (with_reducible first | exact HB.out | apply ze | apply zd | apply zf) | exact HB.out)))); (case aL => have := LMc3.out; omega); intro v325 w6 ho hb hg hat; rw [← Ny324.out] at ho; have n0_ := zm (hb); have n1_ := zm (ho); clear HB; clear HO323; have HB := n0_; have HO326 := n1_; clear n0_ n1_; clear ho hb hg hat))
  go_loopg [5] k (fun kq v5 w' => ∃ (x5_1 : List Int), Aside0 (psalteryref09_Full.l0 kq a1 x5_1 = some r) ∧ Aside0 (kq ≤ k) ∧ Aside0 (Kd.R (Kd.int .i64) 2 w' w.heap.size (fun _ => True) v5 x5_1) ∧ Aside0 (Below w.heap.size w w'))
  case atStart => exact ⟨(y324), H', ⟨Nat.le_refl _⟩, ⟨by (with_reducible repeat (first | apply zo | apply zp | apply zq)); exact HO326.out⟩, ⟨by repeat (first | (with_reducible first | exact HB.out | apply ze | apply zd | apply zf) | exact HB.out)⟩⟩
  case round =>
   clear H'
   try clear c2
   try clear p2
   try clear c3
   obtain ⟨x5_1, HA, HK1, HO_5, HB⟩ := hrel
   cases gk with
   | zero => exact absurd HA.out (by simp [psalteryref09_Full.l0])
   | succ k1 =>
    have H := HA.out
    clear HA
    simp only [psalteryref09_Full.l0] at H
    by_cases c7 : a1 = 0
    ·
     rw [if_pos c7] at H
     exact absurd H (by simp)
    ·
     rw [if_neg c7] at H
     have c7b0 : (a1 == 0) = false := beq_eq_false_iff_ne.mpr c7
     have c7b1 : (a1 != 0) = true := bne_iff_ne.mpr c7
     by_cases c8 : ((x5_1.length : Int) % a1) = 0
     ·
      rw [if_pos c8] at H
      have c8b0 : (((x5_1.length : Int) % a1) == 0) = true := beq_iff_eq.mpr c8
      have c8b1 : (((x5_1.length : Int) % a1) != 0) = false := bne_eq_false_iff_eq.mpr c8
      clear c8
      obtain rfl := Option.some.inj H
      obtain ⟨Ao9, co9, eo9⟩ := Kd.R_slice HO_5.out
      subst eo9
      go_wp2
      go_ret
      exact ⟨_, by first | rfl | (simp [errW_none, errW_some] <;> rfl) | (simp [*, errW_none, errW_some] <;> rfl), by (with_reducible repeat (first | apply zo | apply zp | apply zq)); exact HO_5.out, by repeat (first | (with_reducible first | exact HB.out | apply ze | apply zd | apply zf) | exact HB.out)⟩
     ·
      rw [if_neg c8] at H
      have c8b0 : (((x5_1.length : Int) % a1) == 0) = false := beq_eq_false_iff_ne.mpr c8
      have c8b1 : (((x5_1.length : Int) % a1) != 0) = true := bne_iff_ne.mpr c8
      by_cases c10 : x5_1.length < 17592186044416
      ·
       rw [if_pos c10] at H
       have LMc10 := zm c10
       clear c10
       obtain ⟨y327, hy327⟩ : ∃ y_ : List Int, y_ = (x5_1 ++ [0]) := ⟨_, rfl⟩
       replace H : (psalteryref09_Full.l0 k1 a1 y327) = some r := by first | (rw [hy327]; with_reducible exact H) | (have H2_ := (Option.bind_some _ _).symm.trans H; rw [hy327]; with_reducible exact H2_) | (have H2_ := (Option.bind_some _ _).symm.trans H; with_reducible exact H2_) | with_reducible exact H | (rw [hy327]; exact H) | exact H
       have Ny327 := zm hy327
       clear hy327
       have H' := zm H
       clear H
       obtain ⟨Ao11, co11, eo11⟩ := Kd.R_slice HO_5.out
       subst eo11
       go_wp2_with (first | ((with_reducible refine gate_builtin (b := .append) (xs := #[.tmp 14, .tmp 15]) rfl ?_); at_builtin; refine Kd.R_append (Kd.int .i64) (w0 := w) w.heap.size rfl (.tmp 14) (.tmp 15) 22 2 (.int .i64 0) 8 rfl Tryd.underlying22 info2 rfl (by decide) (by omega) (.slice Ao11 x5_1.length co11) x5_1 0 [.int .i64 0] (fun _ => True) (fun _ => False) rfl rfl ?aP (fun _ hk => hk.elim) ?aF ?aO ?aB ?aS ?aL ?_; (case aP => exact rfl); (case aB => exact (by repeat (first | (with_reducible first | exact HB.out | apply ze | apply zd | apply zf) | exact HB.out))); (case aF => exact (fun _ _ => trivial)); (case aO => exact (by (with_reducible repeat (first | apply zo | apply zp | apply zq)); exact HO_5.out)); (case aS => exact (zE (by repeat (first | (with_reducible first | exact HB.out | apply ze | apply zd | apply zf) | exact HB.out)))); (case aL => have := LMc10.out; omega); intro v328 w12 ho hb hg hat; rw [← Ny327.out] at ho; have n0_ := zm (hb); have n1_ := zm (ho); clear HB; clear HO_5; have HB := n0_; have HO329 := n1_; clear n0_ n1_; clear ho hb hg hat))
       go_roundg k1
       case measure => have := HK1.out; omega
       case rel => exact ⟨(y327), H', ⟨by have := HK1.out; omega⟩, ⟨by (with_reducible repeat (first | apply zo | apply zp | apply zq)); exact HO329.out⟩, ⟨by repeat (first | (with_reducible first | exact HB.out | apply ze | apply zd | apply zf) | exact HB.out)⟩⟩
      ·
       rw [if_neg c10] at H
       exact absurd H (by simp)
 ·
  rw [if_neg c3] at H
  exact absurd H (by simp)

end Go.Proofs.YtllchhcdpfiodaaDoor.Prt

namespace Go.Proofs.YtllchhcdpfiodaaDoor.Prt
open Go.RowKit Go.Proofs.YtllchhcdpfiodaaDoorW.PrintWords Go.Proofs.YtllchhcdpfiodaaDoorW.PrintLast Go.Proofs.YtllchhcdpfiodaaDoorW.PrintMore
attribute [local go_sem] max2_int min2_int max_two min_two max_three min_three max_four min_four   -- for this text's walks alone
set_option linter.unusedVariables false
set_option linter.unusedSimpArgs false

/-! ### psalteryref09_Frames: function 22 -/
mutual
def psalteryref09_Frames.l0 : Nat → Int → List Int → Int → Option ((List (List Int)))
 | 0, _, _, _ => none
 | k + 1, x1, x5, x6 => if x6 < (x5.length : Int) then ((psalteryref09_Turn.f k x5 x6).bind fun t367 => (psalteryref09_Frames.l0 k x1 t367 (wrap64 (x6 + x1)))) else (psalteryref09_Frames.l1 k x1 x5 ([] : List (List Int)) 0)
def psalteryref09_Frames.l1 : Nat → Int → List Int → List (List Int) → Int → Option ((List (List Int)))
 | 0, _, _, _, _ => none
 | k + 1, x1, x5, x7, x8 => if (wrap64 (x8 + x1)) ≤ (x5.length : Int) then (if 0 ≤ x8 then (if x8 ≤ (wrap64 (x8 + x1)) then ((psalteryref08_Forward.f k ((x5.take ((wrap64 (x8 + x1)) : Int).toNat).drop (x8 : Int).toNat)).bind fun t374 => (if x7.length < 5864062014805 then (psalteryref09_Frames.l1 k x1 x5 (x7 ++ [t374]) (wrap64 (x8 + x1))) else (none))) else (none)) else (none)) else (some x7)
end
def psalteryref09_Frames.f (k : Nat) (l0 : List Int) (a1 : Int) : Option ((List (List Int))) := (psalteryref09_Full.f k l0 a1).bind fun t364 => (psalteryref09_Frames.l0 k a1 t364 a1)
theorem psalteryref09_Frames.mono_l : ∀ k, (∀ y0 y1 y2, LeO (psalteryref09_Frames.l0 k y0 y1 y2) (psalteryref09_Frames.l0 (k + 1) y0 y1 y2)) ∧ (∀ y0 y1 y2 y3, LeO (psalteryref09_Frames.l1 k y0 y1 y2 y3) (psalteryref09_Frames.l1 (k + 1) y0 y1 y2 y3))
 | 0 => ⟨fun _ _ _ r h => by simp [psalteryref09_Frames.l0] at h, fun _ _ _ _ r h => by simp [psalteryref09_Frames.l1] at h⟩
 | k + 1 => by
  obtain ⟨ih0, ih1⟩ := psalteryref09_Frames.mono_l k
  refine ⟨?_, ?_⟩
  ·
   intro y0 y1 y2
   unfold psalteryref09_Frames.l0
   repeat' first
   | (with_reducible exact ih0 _ _ _)
   | (with_reducible exact ih1 _ _ _ _)
   | (with_reducible exact psalteryref08_Forward.mono _ _)
   | (with_reducible exact psalteryref09_Full.mono _ _ _)
   | (with_reducible exact psalteryref09_Turn.mono _ _ _)
   | (with_reducible exact LeO.refl _)
   | (with_reducible exact LeO.none _)
   | (with_reducible refine LeO.ite ?_ ?_)
   | (with_reducible refine LeO.bind ?_ (fun _ => ?_))
   | exact ih0 _ _ _
   | exact ih1 _ _ _ _
   | exact psalteryref08_Forward.mono _ _
   | exact psalteryref09_Full.mono _ _ _
   | exact psalteryref09_Turn.mono _ _ _
   | exact LeO.none _
   | refine LeO.ite ?_ ?_
   | refine LeO.bind ?_ (fun _ => ?_)
  ·
   intro y0 y1 y2 y3
   unfold psalteryref09_Frames.l1
   repeat' first
   | (with_reducible exact ih0 _ _ _)
   | (with_reducible exact ih1 _ _ _ _)
   | (with_reducible exact psalteryref08_Forward.mono _ _)
   | (with_reducible exact psalteryref09_Full.mono _ _ _)
   | (with_reducible exact psalteryref09_Turn.mono _ _ _)
   | (with_reducible exact LeO.refl _)
   | (with_reducible exact LeO.none _)
   | (with_reducible refine LeO.ite ?_ ?_)
   | (with_reducible refine LeO.bind ?_ (fun _ => ?_))
   | exact ih0 _ _ _
   | exact ih1 _ _ _ _
   | exact psalteryref08_Forward.mono _ _
   | exact psalteryref09_Full.mono _ _ _
   | exact psalteryref09_Turn.mono _ _ _
   | exact LeO.none _
   | refine LeO.ite ?_ ?_
   | refine LeO.bind ?_ (fun _ => ?_)
theorem psalteryref09_Frames.mono : ∀ a0 a1 k, LeO (psalteryref09_Frames.f k a0 a1) (psalteryref09_Frames.f (k + 1) a0 a1) := by
 intro a0 a1 k
 obtain ⟨ih0, ih1⟩ := psalteryref09_Frames.mono_l k
 unfold psalteryref09_Frames.f
 repeat' first
   | (with_reducible exact ih0 _ _ _)
   | (with_reducible exact ih1 _ _ _ _)
   | (with_reducible exact psalteryref08_Forward.mono _ _)
   | (with_reducible exact psalteryref09_Full.mono _ _ _)
   | (with_reducible exact psalteryref09_Turn.mono _ _ _)
   | (with_reducible exact LeO.refl _)
   | (with_reducible exact LeO.none _)
   | (with_reducible refine LeO.ite ?_ ?_)
   | (with_reducible refine LeO.bind ?_ (fun _ => ?_))
   | exact ih0 _ _ _
   | exact ih1 _ _ _ _
   | exact psalteryref08_Forward.mono _ _
   | exact psalteryref09_Full.mono _ _ _
   | exact psalteryref09_Turn.mono _ _ _
   | exact LeO.none _
   | refine LeO.ite ?_ ?_
   | refine LeO.bind ?_ (fun _ => ?_)
set_option maxHeartbeats 8000000 in
set_option maxRecDepth 100000 in
theorem psalteryref09_Frames.calls (k : Nat) (A0 : Option Addr) (c0 : Nat) (l0 : List Int) (a1 : Int) (r : List (List Int)) (w : World) (hr0 : Kd.C (Kd.int .i64) w A0 l0.length l0) (hc0 : l0.length ≤ c0) (h : psalteryref09_Frames.f k l0 a1 = some r) :
  Calls Tryd.prog 22 #[.slice A0 l0.length c0, .int .i64 a1] w fun e w' => ∃ v0_ : Value, e = .returned (v0_) ∧ Kd.S (Kd.slice 2 (Kd.int .i64)) 22 w' w.heap.size (fun _ => True) v0_ r ∧ Below w.heap.size w w' := by
 have HR0 := zm hr0
 have HC0 := zm hc0
 clear hr0 hc0
 have HB := zm (Below.refl w.heap.size w)
 have H : ((psalteryref09_Full.f k l0 a1).bind fun t364 => (psalteryref09_Frames.l0 k a1 t364 a1)) = some r := h
 clear h
 replace H := Option.bind_eq_some_iff.mp H
 obtain ⟨t364, A30, H⟩ := H
 replace H : (psalteryref09_Frames.l0 k a1 t364 a1) = some r := H
 have A3 := zm A30
 clear A30
 have H' := zm H
 clear H
 go_enter Tryd.func22, Tryd.ntmps22
 go_wp2_with (first | ((with_reducible refine gate_callee (f := 27) rfl ?_); refine goesL_ (some 11) rfl rfl Tryd.func27 (by kernel_rfl) rfl #[.slice A0 l0.length c0, .int .i64 a1] rfl (by (try simp only [List.map_toArray, List.map_cons, List.map_nil]); first | done | rfl | (simp only [List.length_drop, List.length_take]; rfl)) ?_; (with_reducible refine (psalteryref09_Full.calls k _ _ l0 a1 t364 _ ?side1 ?side2 A3.out).mono ?_); (case side1 => repeat (first | exact HR0.out | (with_reducible refine Kd.C_alloc ?_ _) | (with_reducible refine Kd.C_drewN ?_ _) | (with_reducible refine Kd.C_drew ?_))); (case side2 => exact HC0.out); rintro e w4 ⟨v365, rfl, ho0, hb⟩; refine ⟨_, rfl, ?_⟩; have n0_ := zm (Kd.R_lower ho0 (zE (by repeat (first | (with_reducible first | exact HB.out | apply ze | apply zd | apply zf) | exact HB.out)))); have n1_ := zm (zJ (by repeat (first | (with_reducible first | exact HB.out | apply ze | apply zd | apply zf) | exact HB.out)) hb); clear HB; have HO366 := n0_; have HB := n1_; clear n0_ n1_; (try clear hb); (try clear hb2); (try clear hk); (try clear hi); (try clear ho0)))
 go_loopg [5, 6] k (fun kq v5 v6 w' => ∃ (x5_1 : List Int) (x6_1 : Int), v6 = .int .i64 x6_1 ∧ Aside0 (psalteryref09_Frames.l0 kq a1 x5_1 x6_1 = some r) ∧ Aside0 (kq ≤ k) ∧ Aside0 (Kd.R (Kd.int .i64) 2 w' w.heap.size (fun _ => True) v5 x5_1) ∧ Aside0 (Below w.heap.size w w'))
 case atStart => exact ⟨(t364), (a1), (by first | rfl | (simp; done) | (simp [*]; done)), H', ⟨Nat.le_refl _⟩, ⟨by (with_reducible repeat (first | apply zo | apply zp | apply zq)); exact HO366.out⟩, ⟨by repeat (first | (with_reducible first | exact HB.out | apply ze | apply zd | apply zf) | exact HB.out)⟩⟩
 case round =>
  clear H'
  try clear c2
  try clear p2
  obtain ⟨x5_1, x6_1, rfl, HA, HK1, HO_5, HB⟩ := hrel
  cases gk with
  | zero => exact absurd HA.out (by simp [psalteryref09_Frames.l0])
  | succ k1 =>
   have H := HA.out
   clear HA
   simp only [psalteryref09_Frames.l0] at H
   by_cases c5 : x6_1 < (x5_1.length : Int)
   ·
    rw [if_pos c5] at H
    have c5b0 : decide (x6_1 < (x5_1.length : Int)) = true := decide_eq_true c5
    clear c5
    replace H := Option.bind_eq_some_iff.mp H
    obtain ⟨t367, A60, H⟩ := H
    replace H : (psalteryref09_Frames.l0 k1 a1 t367 (wrap64 (x6_1 + a1))) = some r := H
    have A6 := zm A60
    clear A60
    have H' := zm H
    clear H
    obtain ⟨Ao7, co7, eo7⟩ := Kd.R_slice HO_5.out
    subst eo7
    go_wp2_with (first | ((with_reducible refine gate_callee (f := 17) rfl ?_); refine goesL_ (some 22) rfl rfl Tryd.func17 (by kernel_rfl) rfl #[.slice Ao7 x5_1.length co7, .int .i64 x6_1] rfl (by (try simp only [List.map_toArray, List.map_cons, List.map_nil]); first | done | rfl | (simp only [List.length_drop, List.length_take]; rfl)) ?_; (with_reducible refine (psalteryref09_Turn.calls k1 _ _ x5_1 x6_1 t367 _ ?side1 ?side2 A6.out).mono ?_); (case side1 => repeat (first | exact (Kd.R_reads' HO_5.out).2.2 | (with_reducible refine Kd.C_alloc ?_ _) | (with_reducible refine Kd.C_drewN ?_ _) | (with_reducible refine Kd.C_drew ?_))); (case side2 => exact (Kd.R_reads' HO_5.out).2.1); rintro e w8 ⟨v368, rfl, ho0, hb⟩; refine ⟨_, rfl, ?_⟩; have n0_ := zm (Kd.R_elder' (by (with_reducible repeat (first | apply zo | apply zp | apply zq)); exact HO_5.out) (Kd.R_base ho0) hb); have n1_ := zm (Kd.R_lower (Kd.R_new' ho0 (Kd.R_lt (by (with_reducible repeat (first | apply zo | apply zp | apply zq)); exact HO_5.out))) (zE (by repeat (first | (with_reducible first | exact HB.out | apply ze | apply zd | apply zf) | exact HB.out)))); have n2_ := zm (zJ (by repeat (first | (with_reducible first | exact HB.out | apply ze | apply zd | apply zf) | exact HB.out)) hb); clear HO_5; clear HB; have HO_5 := n0_; have HO369 := n1_; have HB := n2_; clear n0_ n1_ n2_; (try clear hb); (try clear hb2); (try clear hk); (try clear hi); (try clear ho0)))
    go_roundg k1
    case measure => have := HK1.out; omega
    case rel => exact ⟨(t367), (wrap64 (x6_1 + a1)), (by first | rfl | (simp; done) | (simp [*]; done)), H', ⟨by have := HK1.out; omega⟩, ⟨by (with_reducible repeat (first | apply zo | apply zp | apply zq)); exact zG HO369.out (fun _ hk => trivial)⟩, ⟨by repeat (first | (with_reducible first | exact HB.out | apply ze | apply zd | apply zf) | exact HB.out)⟩⟩
   ·
    rw [if_neg c5] at H
    have c5b0 : decide (x6_1 < (x5_1.length : Int)) = false := decide_eq_false c5
    clear c5
    have H' := zm H
    clear H
    obtain ⟨Ao9, co9, eo9⟩ := Kd.R_slice HO_5.out
    subst eo9
    go_wp2
    go_loopg [7, 8] k1 (fun kq v7 v8 w' => ∃ (x7_2 : List (List Int)) (x8_2 : Int), v8 = .int .i64 x8_2 ∧ Aside0 (psalteryref09_Frames.l1 kq a1 x5_1 x7_2 x8_2 = some r) ∧ Aside0 (kq ≤ k1) ∧ Aside0 (Kd.R (Kd.int .i64) 2 w' w.heap.size (fun _ => True) (.slice Ao9 x5_1.length co9) x5_1) ∧ Aside0 (Kd.S (Kd.slice 2 (Kd.int .i64)) 22 w' w.heap.size (fun k_ => some k_ ≠ ((.slice Ao9 x5_1.length co9) : Value).ownBlock) v7 x7_2) ∧ Aside0 (Below w.heap.size w w'))
    case atStart => exact ⟨(([] : List (List Int))), (0), (by first | rfl | (simp; done) | (simp [*]; done)), H', ⟨Nat.le_refl _⟩, ⟨by (with_reducible repeat (first | apply zo | apply zp | apply zq)); exact HO_5.out⟩, ⟨by first | exact Kd.S_nil _ _ _ _ _ | exact Kd.N_nil _ _ _ _ _ | exact Kd.V_nil _ _ _ _ _ | exact Kd.Q_nil _ _ _ _ _ | exact Kd.R_nil _ _ _ _ _⟩, ⟨by repeat (first | (with_reducible first | exact HB.out | apply ze | apply zd | apply zf) | exact HB.out)⟩⟩
    case round =>
     clear H'
     try clear c1
     try clear c2
     try clear p2
     try clear c5
     try clear c5b0
     try clear p6
     try clear p2
     obtain ⟨x7_2, x8_2, rfl, HA, HK2, HO_5, HO_7, HB⟩ := hrel
     cases gk with
     | zero => exact absurd HA.out (by simp [psalteryref09_Frames.l1])
     | succ k2 =>
      have H := HA.out
      clear HA
      simp only [psalteryref09_Frames.l1] at H
      by_cases c10 : (wrap64 (x8_2 + a1)) ≤ (x5_1.length : Int)
      ·
       rw [if_pos c10] at H
       have c10b0 : decide ((wrap64 (x8_2 + a1)) ≤ (x5_1.length : Int)) = true := decide_eq_true c10
       clear c10
       by_cases c11 : 0 ≤ x8_2
       ·
        rw [if_pos c11] at H
        have c11b0 := eq_true c11
        have c11b1 : decide (0 ≤ x8_2) = true := decide_eq_true c11
        clear c11
        by_cases c12 : x8_2 ≤ (wrap64 (x8_2 + a1))
        ·
         rw [if_pos c12] at H
         have c12b0 := eq_true c12
         have c12b1 : decide (x8_2 ≤ (wrap64 (x8_2 + a1))) = true := decide_eq_true c12
         have c13b0 := eq_true (of_decide_eq_true (by first | (with_reducible assumption) | assumption) : (wrap64 (x8_2 + a1)) ≤ (x5_1.length : Int))
         obtain ⟨y370, hy370⟩ : ∃ y_ : List Int, y_ = ((x5_1.take ((wrap64 (x8_2 + a1)) : Int).toNat).drop (x8_2 : Int).toNat) := ⟨_, rfl⟩
         replace H : ((psalteryref08_Forward.f k2 y370).bind fun t374 => (if x7_2.length < 5864062014805 then (psalteryref09_Frames.l1 k2 a1 x5_1 (x7_2 ++ [t374]) (wrap64 (x8_2 + a1))) else (none))) = some r := by first | (rw [hy370]; with_reducible exact H) | (have H2_ := (Option.bind_some _ _).symm.trans H; rw [hy370]; with_reducible exact H2_) | (have H2_ := (Option.bind_some _ _).symm.trans H; with_reducible exact H2_) | with_reducible exact H | (rw [hy370]; exact H) | exact H
         have Ny370 := zm hy370
         clear hy370
         replace H := Option.bind_eq_some_iff.mp H
         obtain ⟨t374, A140, H⟩ := H
         replace H : (if x7_2.length < 5864062014805 then (psalteryref09_Frames.l1 k2 a1 x5_1 (x7_2 ++ [t374]) (wrap64 (x8_2 + a1))) else (none)) = some r := H
         have A14 := zm A140
         clear A140
         by_cases c15 : x7_2.length < 5864062014805
         ·
          rw [if_pos c15] at H
          have LMc15 := zm c15
          clear c15
          obtain ⟨y377, hy377⟩ : ∃ y_ : List (List Int), y_ = (x7_2 ++ [t374]) := ⟨_, rfl⟩
          replace H : (psalteryref09_Frames.l1 k2 a1 x5_1 y377 (wrap64 (x8_2 + a1))) = some r := by first | (rw [hy377]; with_reducible exact H) | (have H2_ := (Option.bind_some _ _).symm.trans H; rw [hy377]; with_reducible exact H2_) | (have H2_ := (Option.bind_some _ _).symm.trans H; with_reducible exact H2_) | with_reducible exact H | (rw [hy377]; exact H) | exact H
          have Ny377 := zm hy377
          clear hy377
          have H' := zm H
          clear H
          have q16 : ((wrap64 (x8_2 + a1)) : Int) ≤ ((x5_1.length : Int) : Int) := of_decide_eq_true (by first | (with_reducible assumption) | assumption)
          obtain ⟨i016, hi016, _, hsz16, _⟩ := info_parts info2
          have hroom16 : x5_1.length ≤ co9 := (Kd.R_reads' HO_5.out).2.1
          have hC16 : Kd.C (Kd.int .i64) _ Ao9 x5_1.length x5_1 := (Kd.R_reads' HO_5.out).2.2
          have ql16 : (x8_2 : Int) ≤ ((wrap64 (x8_2 + a1)) : Int) := of_decide_eq_true (by first | (with_reducible assumption) | assumption)
          have q016 : (0 : Int) ≤ (x8_2 : Int) := of_decide_eq_true (by first | (with_reducible assumption) | assumption)
          have hcut16 := cut_mid (P := Tryd.prog) 22 2 .i64 .i64 Tryd.underlying22 hi016 1 hsz16 Ao9 x5_1.length co9 x8_2 (wrap64 (x8_2 + a1)) q016 ql16 q16 hroom16
          have hr16 := Kd.C_mid (lo := (x8_2 : Int).toNat) (hi := ((wrap64 (x8_2 + a1)) : Int).toNat) (c := co9) hC16 (by omega) (by omega) hroom16
          obtain ⟨A16, hA16⟩ : ∃ A1, A1 = (if co9 = (x8_2 : Int).toNat then Ao9 else (Ao9 : Option Addr).map (·.add ((x8_2 : Int).toNat * 1))) := ⟨_, rfl⟩
          obtain ⟨c16, hc16⟩ : ∃ c1, c1 = co9 - (x8_2 : Int).toNat := ⟨_, rfl⟩
          have hy16 : y370.length = ((wrap64 (x8_2 + a1)) : Int).toNat - (x8_2 : Int).toNat := (by rw [Ny370.out, List.length_drop, List.length_take] <;> omega)
          rw [show ((x5_1).take ((wrap64 (x8_2 + a1)) : Int).toNat).drop (x8_2 : Int).toNat = y370 from Ny370.out.symm] at hr16
          replace hr16 : Kd.C (Kd.int .i64) _ A16 y370.length y370 := (by rw [hA16]; exact hr16)
          rw [← hy16, ← hA16, ← hc16] at hcut16
          have HR373 := zm hr16
          have HC373 := zm (show y370.length ≤ c16 from by rw [hy16, hc16]; exact Nat.sub_le_sub_right (Nat.le_trans (by omega) hroom16) _)
          clear hr16 hC16 hroom16 hi016 hsz16 hc16
          have KY16 := zm hy16
          have KA16 := zm hA16
          clear hy16 hA16
          have KL16 := zm (show ((wrap64 (x8_2 + a1)) : Int).toNat ≤ x5_1.length from by omega)
          have KM16 := zm (show (x8_2 : Int).toNat ≤ ((wrap64 (x8_2 + a1)) : Int).toNat from by omega)
          replace q16 := eq_true q16
          go_wp2_with (first | ((with_reducible refine gate_callee (f := 35) rfl ?_); refine goesL_ (some 39) rfl rfl Tryd.func35 (by kernel_rfl) rfl #[.slice A16 y370.length c16] rfl (by (try simp only [List.map_toArray, List.map_cons, List.map_nil]); first | done | rfl | (simp only [List.length_drop, List.length_take]; rfl)) ?_; (with_reducible refine (psalteryref08_Forward.calls k2 _ _ y370 t374 _ ?side1 ?side2 A14.out).mono ?_); (case side1 => repeat (first | exact (by repeat (first | (with_reducible exact HR373.out) | (with_reducible refine Kd.C_alloc ?_ _) | (with_reducible refine Kd.C_drewN ?_ _) | (with_reducible refine Kd.C_drew ?_) | exact HR373.out)) | (with_reducible refine Kd.C_alloc ?_ _) | (with_reducible refine Kd.C_drewN ?_ _) | (with_reducible refine Kd.C_drew ?_))); (case side2 => exact HC373.out); rintro e w17 ⟨v375, rfl, ho0, hb⟩; refine ⟨_, rfl, ?_⟩; have n0_ := zm (Kd.R_elder' (by (with_reducible repeat (first | apply zo | apply zp | apply zq)); exact HO_5.out) (Kd.R_base ho0) hb); have n1_ := zm (Kd.S_elder' (by (with_reducible repeat (first | apply Kd.S_alloc | apply Kd.S_drewN | apply Kd.S_drew)); exact HO_7.out) (Kd.R_base ho0) hb); have n2_ := zm (Kd.R_lower (Kd.R_new' ho0 (Kd.R_lt (by (with_reducible repeat (first | apply zo | apply zp | apply zq)); exact HO_5.out))) (zE (by repeat (first | (with_reducible first | exact HB.out | apply ze | apply zd | apply zf) | exact HB.out)))); have n3_ := zm (Kd.C_below (by repeat (first | (with_reducible exact HR373.out) | (with_reducible refine Kd.C_alloc ?_ _) | (with_reducible refine Kd.C_drewN ?_ _) | (with_reducible refine Kd.C_drew ?_) | exact HR373.out)) hb); have n4_ := zm (zJ (by repeat (first | (with_reducible first | exact HB.out | apply ze | apply zd | apply zf) | exact HB.out)) hb); clear HO_5; clear HO_7; clear HR373; clear HB; have HO_5 := n0_; have HO_7 := n1_; have HO376 := n2_; have HR373 := n3_; have HB := n4_; clear n0_ n1_ n2_ n3_ n4_; (try clear hb); (try clear hb2); (try clear hk); (try clear hi); (try clear ho0); obtain ⟨Ao19, co19, eo19⟩ := Kd.R_slice HO376.out; subst eo19) | ((with_reducible refine gate_builtin (b := .append) (xs := #[.tmp 32, .tmp 40]) rfl ?_); at_builtin; refine Kd.S_append (Kd.slice 2 (Kd.int .i64)) (w0 := w) w.heap.size rfl (.tmp 32) (.tmp 40) 32 22 (.slice none 0 0) 24 rfl Tryd.underlying32 info22 rfl (by decide) (by omega) u7 x7_2 t374 [.slice Ao19 t374.length co19] (fun k_ => some k_ ≠ (.slice Ao9 x5_1.length co9 : Value).ownBlock) (fun k_ => some k_ = (.slice Ao19 t374.length co19 : Value).ownBlock) rfl rfl ?aP (fun k_ hk_ => ((zG (ok' := fun k_ => ((fun k_ => some k_ ≠ (.slice Ao9 x5_1.length co9 : Value).ownBlock)) k_ ∧ some k_ ≠ (u7 : Value).ownBlock) (Kd.R_apart' (HO376.out) (Kd.S_typed HO_7.out) (by decide)) (fun k_ hk => ⟨hk.1.2, hk.2⟩))).1 k_ hk_.symm) ?aF ?aO ?aB ?aS ?aL ?_; (case aP => exact Kd.M_row (zG (Kd.R_tight rfl (zG (ok' := fun k_ => ((fun k_ => some k_ ≠ (.slice Ao9 x5_1.length co9 : Value).ownBlock)) k_ ∧ some k_ ≠ (u7 : Value).ownBlock) (Kd.R_apart' (HO376.out) (Kd.S_typed HO_7.out) (by decide)) (fun k_ hk => ⟨hk.1.2, hk.2⟩))) (fun _ h_ => h_))); (case aB => exact (by repeat (first | (with_reducible first | exact HB.out | apply ze | apply zd | apply zf) | exact HB.out))); (case aF => exact (fun k_ hk => Kd.fresh' (Kd.R_lt (by (with_reducible repeat (first | apply zo | apply zp | apply zq)); exact HO_5.out)) k_ hk)); (case aO => exact (by (with_reducible repeat (first | apply Kd.S_alloc | apply Kd.S_drewN | apply Kd.S_drew)); exact Kd.S_mono HO_7.out (fun k_ hk => ⟨hk.1, fun e_ => hk.2 e_⟩))); (case aS => exact (zE (by repeat (first | (with_reducible first | exact HB.out | apply ze | apply zd | apply zf) | exact HB.out)))); (case aL => have := LMc15.out; omega); intro v378 w18 ho hb hg hat; rw [← Ny377.out] at ho; have n0_ := zm (Kd.R_over' (by (with_reducible repeat (first | apply zo | apply zp | apply zq)); exact HO_5.out) (Kd.S_typed (by (with_reducible repeat (first | apply Kd.S_alloc | apply Kd.S_drewN | apply Kd.S_drew)); exact HO_7.out)) (by decide) hg); have n1_ := zm (hb); have n2_ := zm ((show Kd.C (Kd.int .i64) w18 A16 y370.length y370 from by rw [Ny370.out, KA16.out]; exact Kd.C_mid (lo := (x8_2 : Int).toNat) (hi := ((wrap64 (x8_2 + a1)) : Int).toNat) (c := co9) ((Kd.R_reads' (Kd.R_over' (by (with_reducible repeat (first | apply zo | apply zp | apply zq)); exact HO_5.out) (Kd.S_typed (by (with_reducible repeat (first | apply Kd.S_alloc | apply Kd.S_drewN | apply Kd.S_drew)); exact HO_7.out)) (by decide) hg)).2.2) KM16.out KL16.out ((Kd.R_reads' (Kd.R_over' (by (with_reducible repeat (first | apply zo | apply zp | apply zq)); exact HO_5.out) (Kd.S_typed (by (with_reducible repeat (first | apply Kd.S_alloc | apply Kd.S_drewN | apply Kd.S_drew)); exact HO_7.out)) (by decide) hg)).2.1))); have n3_ := zm (ho); clear HO_5; clear HB; clear HR373; clear HO_7; clear HO376; have HO_5 := n0_; have HB := n1_; have HR373 := n2_; have HO379 := n3_; clear n0_ n1_ n2_ n3_; clear ho hb hg hat))
          go_roundg k2
          case measure => have := HK1.out; have := HK2.out; omega
          case rel => exact ⟨(y377), (wrap64 (x8_2 + a1)), (by first | rfl | (simp; done) | (simp [*]; done)), H', ⟨by have := HK1.out; have := HK2.out; omega⟩, ⟨by (with_reducible repeat (first | apply zo | apply zp | apply zq)); exact zG HO_5.out (fun _ hk => trivial)⟩, ⟨by (with_reducible repeat (first | apply Kd.S_alloc | apply Kd.S_drewN | apply Kd.S_drew)); exact HO379.out⟩, ⟨by repeat (first | (with_reducible first | exact HB.out | apply ze | apply zd | apply zf) | exact HB.out)⟩⟩
         ·
          rw [if_neg c15] at H
          exact absurd H (by simp)
        ·
         rw [if_neg c12] at H
         exact absurd H (by simp)
       ·
        rw [if_neg c11] at H
        exact absurd H (by simp)
      ·
       rw [if_neg c10] at H
       have c10b0 : decide ((wrap64 (x8_2 + a1)) ≤ (x5_1.length : Int)) = false := decide_eq_false c10
       clear c10
       obtain rfl := Option.some.inj H
       go_wp2
       go_ret
       exact ⟨_, by first | rfl | (simp [errW_none, errW_some] <;> rfl) | (simp [*, errW_none, errW_some] <;> rfl), by (with_reducible repeat (first | apply Kd.S_alloc | apply Kd.S_drewN | apply Kd.S_drew)); exact Kd.S_mono HO_7.out (fun _ hk => trivial), by repeat (first | (with_reducible first | exact HB.out | apply ze | apply zd | apply zf) | exact HB.out)⟩

end Go.Proofs.YtllchhcdpfiodaaDoor.Prt
