-- Functions of the program and of the document as plain Lean, each with the proof that the code comes to it. Written by a program of this session (wip/tools/myprint.py, pack.py) over the kit's printer; Lean checks it.
import Derived.Test.YtllchhcdpfiodaaDoorZLapNearPrt0
import Derived.Test.YtllchhcdpfiodaaDoorZLapNearM1
namespace Go.Proofs.YtllchhcdpfiodaaDoor.Prt
open Go.RowKit Go.Proofs.YtllchhcdpfiodaaDoorW.PrintWords Go.Proofs.YtllchhcdpfiodaaDoorW.PrintLast Go.Proofs.YtllchhcdpfiodaaDoorW.PrintMore
attribute [local go_sem] max2_int min2_int max_two min_two max_three min_three max_four min_four   -- for this text's walks alone
set_option linter.unusedVariables false
set_option linter.unusedSimpArgs false

/-! ### wave_Inverse: function 36 -/
mutual
def wave_Inverse.l0 : Nat → List Int → List Int → Option (List Int × Int)
 | 0, _, _ => none
 | k + 1, x0, x4 => if (x4.length : Int) < (x0.length : Int) then (if 0 ≤ (x4.length : Int) then (if (x4.length : Int) ≤ (wrap64 (2 * (x4.length : Int))) then (if (wrap64 (2 * (x4.length : Int))) ≤ (x0.length : Int) then (wave_Inverse.l1 k x0 ((x0.take ((wrap64 (2 * (x4.length : Int))) : Int).toNat).drop ((x4.length : Int) : Int).toNat) ([] : List Int) x4 (x4.length : Int) 0) else (none)) else (none)) else (none)) else (some (x4, 0))
def wave_Inverse.l1 : Nat → List Int → List Int → List Int → List Int → Int → Int → Option (List Int × Int)
 | 0, _, _, _, _, _, _ => none
 | k + 1, x0, x5, x6, x29, x30, x31 => if x31 < x30 then (if 0 ≤ x31 then (if x31 < (x29.length : Int) then (if x31 < (x5.length : Int) then ((wave_half.f (rd x5 x31)).bind fun t214 => ((some (([wrap64 ((rd x29 x31) - t214), wrap64 ((wrap64 ((rd x29 x31) - t214)) + (rd x5 x31))] : List Int) : List Int)).bind fun y216 => (if x6.length + y216.length < 17592186044416 then (wave_Inverse.l1 k x0 x5 (x6 ++ y216) x29 x30 (wrap64 (x31 + 1))) else (none)))) else (none)) else (none)) else (none)) else (wave_Inverse.l0 k x0 x6)
end
def wave_Inverse.f (k : Nat) (l0 : List Int) : Option (List Int × Int) := (wave_sized.f k l0 67108864).bind fun t206 => (if t206 = true then (if 0 < (l0.length : Int) then (wave_Inverse.l0 k l0 (([rd l0 0] : List Int))) else (none)) else (some (([] : List Int), 1)))
theorem wave_Inverse.mono_l : ∀ k, (∀ y0 y1, LeO (wave_Inverse.l0 k y0 y1) (wave_Inverse.l0 (k + 1) y0 y1)) ∧ (∀ y0 y1 y2 y3 y4 y5, LeO (wave_Inverse.l1 k y0 y1 y2 y3 y4 y5) (wave_Inverse.l1 (k + 1) y0 y1 y2 y3 y4 y5))
 | 0 => ⟨fun _ _ r h => by simp [wave_Inverse.l0] at h, fun _ _ _ _ _ _ r h => by simp [wave_Inverse.l1] at h⟩
 | k + 1 => by
  obtain ⟨ih0, ih1⟩ := wave_Inverse.mono_l k
  refine ⟨?_, ?_⟩
  ·
   intro y0 y1
   unfold wave_Inverse.l0
   repeat' first
   | (with_reducible exact ih0 _ _)
   | (with_reducible exact ih1 _ _ _ _ _ _)
   | (with_reducible exact wave_sized.mono _ _ _)
   | (with_reducible exact LeO.refl _)
   | (with_reducible exact LeO.none _)
   | (with_reducible refine LeO.ite ?_ ?_)
   | (with_reducible refine LeO.bind ?_ (fun _ => ?_))
   | exact ih0 _ _
   | exact ih1 _ _ _ _ _ _
   | exact wave_sized.mono _ _ _
   | exact LeO.none _
   | refine LeO.ite ?_ ?_
   | refine LeO.bind ?_ (fun _ => ?_)
  ·
   intro y0 y1 y2 y3 y4 y5
   unfold wave_Inverse.l1
   repeat' first
   | (with_reducible exact ih0 _ _)
   | (with_reducible exact ih1 _ _ _ _ _ _)
   | (with_reducible exact wave_sized.mono _ _ _)
   | (with_reducible exact LeO.refl _)
   | (with_reducible exact LeO.none _)
   | (with_reducible refine LeO.ite ?_ ?_)
   | (with_reducible refine LeO.bind ?_ (fun _ => ?_))
   | exact ih0 _ _
   | exact ih1 _ _ _ _ _ _
   | exact wave_sized.mono _ _ _
   | exact LeO.none _
   | refine LeO.ite ?_ ?_
   | refine LeO.bind ?_ (fun _ => ?_)
theorem wave_Inverse.mono : ∀ a0 k, LeO (wave_Inverse.f k a0) (wave_Inverse.f (k + 1) a0) := by
 intro a0 k
 obtain ⟨ih0, ih1⟩ := wave_Inverse.mono_l k
 unfold wave_Inverse.f
 repeat' first
   | (with_reducible exact ih0 _ _)
   | (with_reducible exact ih1 _ _ _ _ _ _)
   | (with_reducible exact wave_sized.mono _ _ _)
   | (with_reducible exact LeO.refl _)
   | (with_reducible exact LeO.none _)
   | (with_reducible refine LeO.ite ?_ ?_)
   | (with_reducible refine LeO.bind ?_ (fun _ => ?_))
   | exact ih0 _ _
   | exact ih1 _ _ _ _ _ _
   | exact wave_sized.mono _ _ _
   | exact LeO.none _
   | refine LeO.ite ?_ ?_
   | refine LeO.bind ?_ (fun _ => ?_)
set_option maxHeartbeats 8000000 in
set_option maxRecDepth 100000 in
theorem wave_Inverse.calls (k : Nat) (A0 : Option Addr) (c0 : Nat) (l0 : List Int) (r1 : List Int) (r2 : Int) (w : World) (hr0 : Kd.C (Kd.int .i64) w A0 l0.length l0) (hc0 : l0.length ≤ c0) (h : wave_Inverse.f k l0 = some (r1, r2)) :
  Calls Tryd.prog 36 #[.slice A0 l0.length c0] w fun e w' => ∃ v0_ : Value, e = .returned (.tuple #[v0_, .int .i64 r2]) ∧ Kd.R (Kd.int .i64) 2 w' w.heap.size (fun _ => True) v0_ r1 ∧ Below w.heap.size w w' := by
 have HR0 := zm hr0
 have HC0 := zm hc0
 clear hr0 hc0
 have HB := zm (Below.refl w.heap.size w)
 have H : ((wave_sized.f k l0 67108864).bind fun t206 => (if t206 = true then (if 0 < (l0.length : Int) then (wave_Inverse.l0 k l0 (([rd l0 0] : List Int))) else (none)) else (some (([] : List Int), 1)))) = some (r1, r2) := h
 clear h
 replace H := Option.bind_eq_some_iff.mp H
 obtain ⟨t206, A20, H⟩ := H
 replace H : (if t206 = true then (if 0 < (l0.length : Int) then (wave_Inverse.l0 k l0 (([rd l0 0] : List Int))) else (none)) else (some (([] : List Int), 1))) = some (r1, r2) := H
 have A2 := zm A20
 clear A20
 by_cases c3 : t206 = true
 ·
  subst c3
  have H1 : (if 0 < (l0.length : Int) then (wave_Inverse.l0 k l0 (([rd l0 0] : List Int))) else (none)) = some (r1, r2) := by rw [if_pos rfl] at H; exact H
  clear H
  have H := H1
  clear H1
  by_cases c4 : 0 < (l0.length : Int)
  ·
   rw [if_pos c4] at H
   have c4b0 : decide (0 < (l0.length : Int)) = true := decide_eq_true c4
   have c4b1 : decide (0 < l0.length) = true := decide_eq_true (by omega)
   clear c4
   obtain ⟨y208, hy208⟩ : ∃ y_ : List Int, y_ = (([rd l0 0] : List Int)) := ⟨_, rfl⟩
   replace H : (wave_Inverse.l0 k l0 y208) = some (r1, r2) := by first | (rw [hy208]; with_reducible exact H) | (have H2_ := (Option.bind_some _ _).symm.trans H; rw [hy208]; with_reducible exact H2_) | (have H2_ := (Option.bind_some _ _).symm.trans H; with_reducible exact H2_) | with_reducible exact H | (rw [hy208]; exact H) | exact H
   have Ny208 := zm hy208
   clear hy208
   have H' := zm H
   clear H
   go_enter Tryd.func36, Tryd.ntmps36
   go_wp2_with (first | ((with_reducible refine gate_callee (f := 45) rfl ?_); refine goesL_ (some 11) rfl rfl Tryd.func45 (by kernel_rfl) rfl #[.slice A0 l0.length c0, .int .i64 67108864] rfl (by (try simp only [List.map_toArray, List.map_cons, List.map_nil]); first | done | rfl | (simp only [List.length_drop, List.length_take]; rfl)) ?_; (with_reducible refine (wave_sized.calls k _ _ l0 67108864 true _ ?side1 ?side2 A2.out).mono ?_); (case side1 => repeat (first | exact HR0.out | (with_reducible refine Kd.C_alloc ?_ _) | (with_reducible refine Kd.C_drewN ?_ _) | (with_reducible refine Kd.C_drew ?_))); (case side2 => exact HC0.out); rintro e w' ⟨rfl, ⟨nd, rfl⟩⟩; refine ⟨_, rfl, ?_⟩; have p207 : 0 ≤ (0 : Int) := (by omega); have q207 : 0 < (l0.length : Int) := of_decide_eq_true (by first | (with_reducible assumption) | assumption); obtain ⟨ad207, e207, hx207_0⟩ := Kd.at_int HR0.out 0 p207 q207; cases e207; have qi207 : (0 < l0.length) = True := eq_true (by omega); (try rw [show ((0 : Int)).toNat = 0 from rfl] at hx207_0); (try rw [Addr.add_zero'] at hx207_0); replace p207 := eq_true p207; replace q207 := eq_true q207) | ((with_reducible refine gate_dst (N := 16) rfl ?_); refine Kd.R_lit (Kd.int .i64) _ 2 ?hg (N := 16) ?hd (xs := ([rd l0 0] : List Int)) (inner := [.int .i64 (rd l0 0)]) (ok := fun _ => True) (okp := fun _ => True) ?hr ?hp (fun _ hk => hk) trivial (Below.refl _ _) (Nat.le_refl _) (by simp) ?_; (case hd => rfl); (case hg => rfl); (case hr => first | (go_simp; done) | (go_simp; rfl)); (case hp => exact (Reps.one (show Kd.M (Kd.int .i64) _ _ _ (rd l0 0) [.int .i64 (rd l0 0)] from rfl) (Reps.none _ _))); intro v209 w5 ho6 hb hg_ hnew_; clear hg_ hnew_; (first | rw [← Ny208.out] at ho6 | (simp only [Int.reduceToNat] at ho6; rw [← Ny208.out] at ho6)); have n0_ := zm (Kd.R_lower ho6 (zE (by repeat (first | (with_reducible first | exact HB.out | apply ze | apply zd | apply zf) | exact HB.out)))); have n1_ := zm (zJ (by repeat (first | (with_reducible first | exact HB.out | apply ze | apply zd | apply zf) | exact HB.out)) hb); clear HB; have HO210 := n0_; have HB := n1_; clear n0_ n1_; clear hb ho6))
   go_loopg [4] k (fun kq v4 w' => ∃ (x4_1 : List Int), Aside0 (wave_Inverse.l0 kq l0 x4_1 = some (r1, r2)) ∧ Aside0 (kq ≤ k) ∧ Aside0 (Kd.R (Kd.int .i64) 2 w' w.heap.size (fun _ => True) v4 x4_1) ∧ Aside0 (Below w.heap.size w w'))
   case atStart => exact ⟨(y208), H', ⟨Nat.le_refl _⟩, ⟨by (with_reducible repeat (first | apply zo | apply zp | apply zq)); exact HO210.out⟩, ⟨by repeat (first | (with_reducible first | exact HB.out | apply ze | apply zd | apply zf) | exact HB.out)⟩⟩
   case round =>
    clear H'
    try clear p2
    try clear q2
    try clear hx2
    try clear qi2
    try clear c3
    try clear c4
    try clear c4b0
    try clear c4b1
    try clear hx207_0
    try clear p207
    try clear q207
    obtain ⟨x4_1, HA, HK1, HO_4, HB⟩ := hrel
    cases gk with
    | zero => exact absurd HA.out (by simp [wave_Inverse.l0])
    | succ k1 =>
     have H := HA.out
     clear HA
     simp only [wave_Inverse.l0] at H
     by_cases c7 : (x4_1.length : Int) < (l0.length : Int)
     ·
      rw [if_pos c7] at H
      have c7b0 : decide ((x4_1.length : Int) < (l0.length : Int)) = true := decide_eq_true c7
      have c7b1 : decide (x4_1.length < l0.length) = true := decide_eq_true (Int.ofNat_lt.mp c7)
      clear c7
      by_cases c8 : 0 ≤ (x4_1.length : Int)
      ·
       rw [if_pos c8] at H
       have c8b0 := eq_true c8
       have c8b1 : decide (0 ≤ (x4_1.length : Int)) = true := decide_eq_true c8
       clear c8
       by_cases c9 : (x4_1.length : Int) ≤ (wrap64 (2 * (x4_1.length : Int)))
       ·
        rw [if_pos c9] at H
        have c9b0 := eq_true c9
        have c9b1 : decide ((x4_1.length : Int) ≤ (wrap64 (2 * (x4_1.length : Int)))) = true := decide_eq_true c9
        clear c9
        by_cases c10 : (wrap64 (2 * (x4_1.length : Int))) ≤ (l0.length : Int)
        ·
         rw [if_pos c10] at H
         have c10b0 := eq_true c10
         have c10b1 : decide ((wrap64 (2 * (x4_1.length : Int))) ≤ (l0.length : Int)) = true := decide_eq_true c10
         clear c10
         have H' := zm H
         clear H
         obtain ⟨Ao11, co11, eo11⟩ := Kd.R_slice HO_4.out
         subst eo11
         obtain ⟨i012, hi012, _, hsz12, _⟩ := info_parts info2
         obtain ⟨A12, hcut12, hA12, hC12⟩ := print_mid_of (P := Tryd.prog) (Value.int .i64) 0 22 2 .i64 .i64 Tryd.underlying22 hi012 hsz12 (some ad207) c0 l0 (x4_1.length : Int) (wrap64 (2 * (x4_1.length : Int))) (of_decide_eq_true (by first | (with_reducible assumption) | assumption)) (by first | omega | exact of_decide_eq_true (by first | (with_reducible assumption) | assumption)) (of_decide_eq_true (by first | (with_reducible assumption) | assumption)) HC0.out
         have HR211 := zm (Kd.C_of_reads (h1 := fun _ => rfl) (hA12 _ (Kd.reads_of_C HR0.out)))
         have HC211 := zm hC12
         clear hA12 hC12 hi012 hsz12
         generalize hDD_ : ((l0.take ((wrap64 (2 * (x4_1.length : Int))) : Int).toNat).drop ((x4_1.length : Int) : Int).toNat) = DD_ at hcut12 HR211 HC211 H'
         clear hDD_
         go_wp2
         go_loopg [6, 31] k1 (fun kq v6 v31 w' => ∃ (x6_2 : List Int) (x31_2 : Int), v31 = .int .i64 x31_2 ∧ Aside0 (wave_Inverse.l1 kq l0 DD_ x6_2 x4_1 (x4_1.length : Int) x31_2 = some (r1, r2)) ∧ Aside0 (kq ≤ k1) ∧ Aside0 (Kd.R (Kd.int .i64) 2 w' w.heap.size (fun k_ => some k_ ≠ ((.slice Ao11 x4_1.length co11) : Value).ownBlock) v6 x6_2) ∧ Aside0 (Kd.R (Kd.int .i64) 2 w' w.heap.size (fun k_ => some k_ ≠ (v6 : Value).ownBlock) (.slice Ao11 x4_1.length co11) x4_1) ∧ Aside0 (Below w.heap.size w w'))
         case atStart => exact ⟨(([] : List Int)), (0), (by first | rfl | (simp; done) | (simp [*]; done)), H', ⟨Nat.le_refl _⟩, ⟨by first | exact Kd.R_nil _ _ _ _ _ | exact Kd.N_nil _ _ _ _ _ | exact Kd.V_nil _ _ _ _ _ | exact Kd.Q_nil _ _ _ _ _ | exact Kd.S_nil _ _ _ _ _⟩, ⟨by (with_reducible repeat (first | apply zo | apply zp | apply zq)); exact zG HO_4.out (fun _ hk => (by simp [Value.ownBlock]))⟩, ⟨by repeat (first | (with_reducible first | exact HB.out | apply ze | apply zd | apply zf) | exact HB.out)⟩⟩
         case round =>
          clear H'
          try clear c1
          try clear p2
          try clear q2
          try clear hx2
          try clear qi2
          try clear c3
          try clear c4
          try clear c4b0
          try clear c4b1
          try clear p6
          try clear c7
          try clear c7b0
          try clear c7b1
          try clear c8
          try clear c8b0
          try clear c8b1
          try clear c9
          try clear c9b0
          try clear c9b1
          try clear c10
          try clear c10b0
          try clear c10b1
          try clear hx207_0
          try clear p2
          try clear p207
          try clear q2
          try clear q207
          obtain ⟨x6_2, x31_2, rfl, HA, HK2, HO_6, HO_29, HB⟩ := hrel
          cases gk with
          | zero => exact absurd HA.out (by simp [wave_Inverse.l1])
          | succ k2 =>
           have H := HA.out
           clear HA
           simp only [wave_Inverse.l1] at H
           by_cases c13 : x31_2 < (x4_1.length : Int)
           ·
            rw [if_pos c13] at H
            have c13b0 : decide (x31_2 < (x4_1.length : Int)) = true := decide_eq_true c13
            clear c13
            by_cases c14 : 0 ≤ x31_2
            ·
             rw [if_pos c14] at H
             have c14b0 : decide (0 ≤ x31_2) = true := decide_eq_true c14
             clear c14
             by_cases c15 : x31_2 < (x4_1.length : Int)
             ·
              rw [if_pos c15] at H
              have c15b0 : decide (x31_2 < (x4_1.length : Int)) = true := decide_eq_true c15
              clear c15
              by_cases c16 : x31_2 < (DD_.length : Int)
              ·
               rw [if_pos c16] at H
               have c16b0 : decide (x31_2 < (DD_.length : Int)) = true := decide_eq_true c16
               clear c16
               replace H := Option.bind_eq_some_iff.mp H
               obtain ⟨t214, A170, H⟩ := H
               replace H : ((some (([wrap64 ((rd x4_1 x31_2) - t214), wrap64 ((wrap64 ((rd x4_1 x31_2) - t214)) + (rd DD_ x31_2))] : List Int) : List Int)).bind fun y216 => (if x6_2.length + y216.length < 17592186044416 then (wave_Inverse.l1 k2 l0 DD_ (x6_2 ++ y216) x4_1 (x4_1.length : Int) (wrap64 (x31_2 + 1))) else (none))) = some (r1, r2) := H
               have A17 := zm A170
               clear A170
               obtain ⟨y216, hy216⟩ : ∃ y_ : List Int, y_ = (([wrap64 ((rd x4_1 x31_2) - t214), wrap64 ((wrap64 ((rd x4_1 x31_2) - t214)) + (rd DD_ x31_2))] : List Int)) := ⟨_, rfl⟩
               replace H : (if x6_2.length + y216.length < 17592186044416 then (wave_Inverse.l1 k2 l0 DD_ (x6_2 ++ y216) x4_1 (x4_1.length : Int) (wrap64 (x31_2 + 1))) else (none)) = some (r1, r2) := by first | (rw [hy216]; with_reducible exact H) | (have H2_ := (Option.bind_some _ _).symm.trans H; rw [hy216]; with_reducible exact H2_) | (have H2_ := (Option.bind_some _ _).symm.trans H; with_reducible exact H2_) | with_reducible exact H | (rw [hy216]; exact H) | exact H
               have Ny216 := zm hy216
               clear hy216
               by_cases c18 : x6_2.length + y216.length < 17592186044416
               ·
                rw [if_pos c18] at H
                have LMc18 := zm c18
                clear c18
                obtain ⟨y219, hy219⟩ : ∃ y_ : List Int, y_ = (x6_2 ++ y216) := ⟨_, rfl⟩
                replace H : (wave_Inverse.l1 k2 l0 DD_ y219 x4_1 (x4_1.length : Int) (wrap64 (x31_2 + 1))) = some (r1, r2) := by first | (rw [hy219]; with_reducible exact H) | (have H2_ := (Option.bind_some _ _).symm.trans H; rw [hy219]; with_reducible exact H2_) | (have H2_ := (Option.bind_some _ _).symm.trans H; with_reducible exact H2_) | with_reducible exact H | (rw [hy219]; exact H) | exact H
                have Ny219 := zm hy219
                clear hy219
                have H' := zm H
                clear H
                have p212 : 0 ≤ (x31_2 : Int) := of_decide_eq_true (by first | (with_reducible assumption) | assumption)
                have q212 : x31_2 < (x4_1.length : Int) := of_decide_eq_true (by first | (with_reducible assumption) | assumption)
                obtain ⟨ad212, e212, hx212_0⟩ := Kd.at_int (Kd.R_reads' HO_29.out).2.2 x31_2 p212 q212
                cases e212
                replace p212 := eq_true p212
                replace q212 := eq_true q212
                have p213 : 0 ≤ (x31_2 : Int) := of_decide_eq_true (by first | (with_reducible assumption) | assumption)
                have q213 : x31_2 < (DD_.length : Int) := of_decide_eq_true (by first | (with_reducible assumption) | assumption)
                obtain ⟨ad213, e213, hx213_0⟩ := Kd.at_int HR211.out x31_2 p213 q213
                cases e213
                replace hx213_0 := (HB.out.cell (zb w _ hx213_0)).trans hx213_0
                replace p213 := eq_true p213
                replace q213 := eq_true q213
                go_wp2_with (first | ((with_reducible refine gate_callee (f := 44) rfl ?_); refine goesL_ (some 41) rfl rfl Tryd.func44 (by kernel_rfl) rfl #[.int .i64 (rd DD_ x31_2)] rfl (by (try simp only [List.map_toArray, List.map_cons, List.map_nil]); first | done | rfl | (simp only [List.length_drop, List.length_take]; rfl)) ?_; (with_reducible refine (wave_half.calls (rd DD_ x31_2) t214 _ A17.out).mono ?_); rintro e w' ⟨rfl, ⟨nd, rfl⟩⟩; refine ⟨_, rfl, ?_⟩; have p215 : 0 ≤ (x31_2 : Int) := of_decide_eq_true (by first | (with_reducible assumption) | assumption); have q215 : x31_2 < (DD_.length : Int) := of_decide_eq_true (by first | (with_reducible assumption) | assumption); obtain ⟨ad215, e215, hx215_0⟩ := Kd.at_int HR211.out x31_2 p215 q215; obtain rfl : ad213 = ad215 := (by injection e215); replace hx215_0 := (HB.out.cell (zb w _ hx215_0)).trans hx215_0; replace p215 := eq_true p215; replace q215 := eq_true q215) | ((with_reducible refine gate_dst (N := 51) rfl ?_); refine Kd.R_lit (Kd.int .i64) _ 2 ?hg (N := 51) ?hd (xs := ([wrap64 ((rd x4_1 x31_2) - t214), wrap64 ((wrap64 ((rd x4_1 x31_2) - t214)) + (rd DD_ x31_2))] : List Int)) (inner := [.int .i64 (wrap64 ((rd x4_1 x31_2) - t214)), .int .i64 (wrap64 ((wrap64 ((rd x4_1 x31_2) - t214)) + (rd DD_ x31_2)))]) (ok := fun _ => True) (okp := fun _ => True) ?hr ?hp (fun _ hk => hk) trivial (Below.refl _ _) (Nat.le_refl _) (by simp) ?_; (case hd => rfl); (case hg => rfl); (case hr => first | (go_simp; done) | (go_simp; rfl)); (case hp => exact (Reps.one (show Kd.M (Kd.int .i64) _ _ _ (wrap64 ((rd x4_1 x31_2) - t214)) [.int .i64 (wrap64 ((rd x4_1 x31_2) - t214))] from rfl) (Reps.one (show Kd.M (Kd.int .i64) _ _ _ (wrap64 ((wrap64 ((rd x4_1 x31_2) - t214)) + (rd DD_ x31_2))) [.int .i64 (wrap64 ((wrap64 ((rd x4_1 x31_2) - t214)) + (rd DD_ x31_2)))] from rfl) (Reps.none _ _)))); intro v217 w19 ho20 hb hg_ hnew_; clear hg_ hnew_; (first | rw [← Ny216.out] at ho20 | (simp only [Int.reduceToNat] at ho20; rw [← Ny216.out] at ho20)); have n0_ := zm (Kd.R_elder' (by (with_reducible repeat (first | apply zo | apply zp | apply zq)); exact HO_6.out) (Kd.R_base ho20) hb); have n1_ := zm (Kd.R_elder' (by (with_reducible repeat (first | apply zo | apply zp | apply zq)); exact HO_29.out) (Kd.R_base ho20) hb); have n2_ := zm (Kd.R_lower (Kd.R_new' (Kd.R_new' ho20 (Kd.R_lt (by (with_reducible repeat (first | apply zo | apply zp | apply zq)); exact HO_6.out))) (Kd.R_lt (by (with_reducible repeat (first | apply zo | apply zp | apply zq)); exact HO_29.out))) (zE (by repeat (first | (with_reducible first | exact HB.out | apply ze | apply zd | apply zf) | exact HB.out)))); have n3_ := zm (zJ (by repeat (first | (with_reducible first | exact HB.out | apply ze | apply zd | apply zf) | exact HB.out)) hb); clear HO_6; clear HO_29; clear HB; have HO_6 := n0_; have HO_29 := n1_; have HO218 := n2_; have HB := n3_; clear n0_ n1_ n2_ n3_; clear hb ho20; obtain ⟨Ao22, co22, eo22⟩ := Kd.R_slice HO218.out; subst eo22) | ((with_reducible refine gate_builtin (b := .append) (xs := #[.tmp 43, .tmp 51]) rfl ?_); at_builtin; refine Kd.R_append_rows (Kd.int .i64) (w0 := w) w.heap.size rfl (.tmp 43) (.tmp 51) 22 2 (.int .i64 0) 8 rfl Tryd.underlying22 info2 rfl (by decide) (by omega) u6 x6_2 y216 _ _ _ (fun k_ => some k_ ≠ (.slice (some ad212) x4_1.length co11 : Value).ownBlock ∧ some k_ ≠ (.slice Ao22 y216.length co22 : Value).ownBlock) (fun _ => False) rfl rfl ?aO ?aR (fun _ _ h => h) (fun _ h => h.elim) ?aF ?aB ?aS ?aL ?_; (case aR => repeat (first | exact (Kd.R_reads' HO218.out).2.2 | (with_reducible refine Kd.C_alloc ?_ _) | (with_reducible refine Kd.C_drewN ?_ _) | (with_reducible refine Kd.C_drew ?_))); (case aB => exact (by repeat (first | (with_reducible first | exact HB.out | apply ze | apply zd | apply zf) | exact HB.out))); (case aF => exact (fun k_ hk => ⟨Kd.fresh' (Kd.R_lt (by (with_reducible repeat (first | apply zo | apply zp | apply zq)); exact HO_29.out)) k_ hk, Kd.fresh' (Kd.R_lt (by (with_reducible repeat (first | apply zo | apply zp | apply zq)); exact HO218.out)) k_ hk⟩)); (case aO => exact (by (with_reducible repeat (first | apply zo | apply zp | apply zq)); exact HO_6.out)); (case aS => exact (zE (by repeat (first | (with_reducible first | exact HB.out | apply ze | apply zd | apply zf) | exact HB.out)))); (case aL => have := LMc18.out; omega); intro v220 w21 ho hb hg hat; rw [← Ny219.out] at ho; have n0_ := zm (Kd.R_after (ok := (fun k_ => some k_ ≠ (.slice Ao22 y216.length co22 : Value).ownBlock)) (by (with_reducible repeat (first | apply zo | apply zp | apply zq)); exact zG HO_29.out (fun _ hk => ⟨hk.2, hk.1⟩)) hg hat); have n1_ := zm (Kd.R_after (ok := (fun k_ => some k_ ≠ (.slice (some ad212) x4_1.length co11 : Value).ownBlock)) (by (with_reducible repeat (first | apply zo | apply zp | apply zq)); exact zG HO218.out (fun _ hk => ⟨hk.2, hk.1.2⟩)) hg hat); have n2_ := zm (hb); have n3_ := zm (ho); clear HO_29; clear HO218; clear HB; clear HO_6; have HO_29 := n0_; have HO218 := n1_; have HB := n2_; have HO221 := n3_; clear n0_ n1_ n2_ n3_; clear ho hb hg hat))
                go_roundg k2
                case measure => have := HK1.out; have := HK2.out; omega
                case rel => exact ⟨(y219), (wrap64 (x31_2 + 1)), (by first | rfl | (simp; done) | (simp [*]; done)), H', ⟨by have := HK1.out; have := HK2.out; omega⟩, ⟨by (with_reducible repeat (first | apply zo | apply zp | apply zq)); exact zG HO221.out (fun _ hk => hk.1)⟩, ⟨by (with_reducible repeat (first | apply zo | apply zp | apply zq)); exact zG HO_29.out (fun _ hk => hk.2)⟩, ⟨by repeat (first | (with_reducible first | exact HB.out | apply ze | apply zd | apply zf) | exact HB.out)⟩⟩
               ·
                rw [if_neg c18] at H
                exact absurd H (by simp)
              ·
               rw [if_neg c16] at H
               exact absurd H (by simp)
             ·
              rw [if_neg c15] at H
              exact absurd H (by simp)
            ·
             rw [if_neg c14] at H
             exact absurd H (by simp)
           ·
            rw [if_neg c13] at H
            have c13b0 : decide (x31_2 < (x4_1.length : Int)) = false := decide_eq_false c13
            clear c13
            have H' := zm H
            clear H
            go_wp2
            go_roundg k2
            case measure => have := HK1.out; have := HK2.out; omega
            case rel => exact ⟨(x6_2), H', ⟨by have := HK1.out; have := HK2.out; omega⟩, ⟨by (with_reducible repeat (first | apply zo | apply zp | apply zq)); exact zG HO_6.out (fun _ hk => trivial)⟩, ⟨by repeat (first | (with_reducible first | exact HB.out | apply ze | apply zd | apply zf) | exact HB.out)⟩⟩
        ·
         rw [if_neg c10] at H
         exact absurd H (by simp)
       ·
        rw [if_neg c9] at H
        exact absurd H (by simp)
      ·
       rw [if_neg c8] at H
       exact absurd H (by simp)
     ·
      rw [if_neg c7] at H
      have c7b0 : decide ((x4_1.length : Int) < (l0.length : Int)) = false := decide_eq_false c7
      have c7b1 : decide (x4_1.length < l0.length) = false := decide_eq_false (fun h => c7 (Int.ofNat_lt.mpr h))
      clear c7
      simp only [Option.some.injEq, Prod.mk.injEq] at H
      obtain ⟨rfl, rfl⟩ := H
      obtain ⟨Ao23, co23, eo23⟩ := Kd.R_slice HO_4.out
      subst eo23
      go_wp2
      go_ret2
      exact ⟨_, by first | rfl | (simp [errW_none, errW_some] <;> rfl) | (simp [*, errW_none, errW_some] <;> rfl), by (with_reducible repeat (first | apply zo | apply zp | apply zq)); exact HO_4.out, by repeat (first | (with_reducible first | exact HB.out | apply ze | apply zd | apply zf) | exact HB.out)⟩
  ·
   rw [if_neg c4] at H
   exact absurd H (by simp)
 ·
  replace c3 := Bool.eq_false_iff.mpr c3
  subst c3
  have H1 : (some (([] : List Int), 1)) = some (r1, r2) := by rw [if_neg (show ¬ (false = true) by decide)] at H; exact H
  clear H
  have H := H1
  clear H1
  simp only [Option.some.injEq, Prod.mk.injEq] at H
  obtain ⟨rfl, rfl⟩ := H
  go_enter Tryd.func36, Tryd.ntmps36
  go_wp2_with (first | ((with_reducible refine gate_callee (f := 45) rfl ?_); refine goesL_ (some 11) rfl rfl Tryd.func45 (by kernel_rfl) rfl #[.slice A0 l0.length c0, .int .i64 67108864] rfl (by (try simp only [List.map_toArray, List.map_cons, List.map_nil]); first | done | rfl | (simp only [List.length_drop, List.length_take]; rfl)) ?_; (with_reducible refine (wave_sized.calls k _ _ l0 67108864 false _ ?side1 ?side2 A2.out).mono ?_); (case side1 => repeat (first | exact HR0.out | (with_reducible refine Kd.C_alloc ?_ _) | (with_reducible refine Kd.C_drewN ?_ _) | (with_reducible refine Kd.C_drew ?_))); (case side2 => exact HC0.out); rintro e w' ⟨rfl, ⟨nd, rfl⟩⟩; refine ⟨_, rfl, ?_⟩))
  go_ret2
  exact ⟨_, by first | rfl | (simp [errW_none, errW_some] <;> rfl) | (simp [*, errW_none, errW_some] <;> rfl), by first | exact Kd.R_nil _ _ _ _ _ | exact Kd.N_nil _ _ _ _ _ | exact Kd.V_nil _ _ _ _ _ | exact Kd.Q_nil _ _ _ _ _ | exact Kd.S_nil _ _ _ _ _, by repeat (first | (with_reducible first | exact HB.out | apply ze | apply zd | apply zf) | exact HB.out)⟩

end Go.Proofs.YtllchhcdpfiodaaDoor.Prt

namespace Go.Proofs.YtllchhcdpfiodaaDoor.Prt
open Go.RowKit Go.Proofs.YtllchhcdpfiodaaDoorW.PrintWords Go.Proofs.YtllchhcdpfiodaaDoorW.PrintLast Go.Proofs.YtllchhcdpfiodaaDoorW.PrintMore
attribute [local go_sem] max2_int min2_int max_two min_two max_three min_three max_four min_four   -- for this text's walks alone
set_option linter.unusedVariables false
set_option linter.unusedSimpArgs false

/-! ### lap_Signal: function 24 -/
mutual
def lap_Signal.j0 : Nat → List (List Int) → Int → Bool → Option (List Int × Int)
 | 0, _, _, _ => none
 | k + 1, x0, x1, x21 => if x21 = true then (some (([] : List Int), 1)) else (lap_Signal.l0 k x1 ([] : List Int) x0 (x0.length : Int) 0)
def lap_Signal.l0 : Nat → Int → List Int → List (List Int) → Int → Int → Option (List Int × Int)
 | 0, _, _, _, _, _ => none
 | k + 1, x1, x6, x22, x23, x24 => if x24 < x23 then (if 0 ≤ x24 then (if x24 < (x22.length : Int) then ((wave_Inverse.f k (rd_L1 x22 x24)).bind fun bt224 => (if bt224.2 = 0 then (if ((rd_L1 x22 x24).length : Int) = x1 then (if x6.length + bt224.1.length < 17592186044416 then (lap_Signal.l0 k x1 (x6 ++ bt224.1) x22 x23 (wrap64 (x24 + 1))) else (none)) else (some (([] : List Int), 1))) else (some (([] : List Int), 1)))) else (none)) else (none)) else (lap_Signal.l1 k x1 x6 (wrap64 ((x6.length : Int) - x1)))
def lap_Signal.l1 : Nat → Int → List Int → Int → Option (List Int × Int)
 | 0, _, _, _ => none
 | k + 1, x1, x6, x11 => if x11 > 0 then ((lap_back.f k x6 x11).bind fun t231 => (lap_Signal.l1 k x1 t231 (wrap64 (x11 - x1)))) else (some (x6, 0))
end
def lap_Signal.f (k : Nat) (l0 : List (List Int)) (a1 : Int) : Option (List Int × Int) := (lap_sized.f a1).bind fun t222 => (if t222 = true then (if a1 = 0 then (none) else (lap_Signal.j0 k l0 a1 (decide ((l0.length : Int) > (wrap64 ((4000 : Int) / a1)))))) else (lap_Signal.j0 k l0 a1 true))
theorem lap_Signal.mono_l : ∀ k, (∀ y0 y1 y2, LeO (lap_Signal.j0 k y0 y1 y2) (lap_Signal.j0 (k + 1) y0 y1 y2)) ∧ (∀ y0 y1 y2 y3 y4, LeO (lap_Signal.l0 k y0 y1 y2 y3 y4) (lap_Signal.l0 (k + 1) y0 y1 y2 y3 y4)) ∧ (∀ y0 y1 y2, LeO (lap_Signal.l1 k y0 y1 y2) (lap_Signal.l1 (k + 1) y0 y1 y2))
 | 0 => ⟨fun _ _ _ r h => by simp [lap_Signal.j0] at h, fun _ _ _ _ _ r h => by simp [lap_Signal.l0] at h, fun _ _ _ r h => by simp [lap_Signal.l1] at h⟩
 | k + 1 => by
  obtain ⟨ih0, ih1, ih2⟩ := lap_Signal.mono_l k
  refine ⟨?_, ?_, ?_⟩
  ·
   intro y0 y1 y2
   unfold lap_Signal.j0
   repeat' first
   | (with_reducible exact ih0 _ _ _)
   | (with_reducible exact ih1 _ _ _ _ _)
   | (with_reducible exact ih2 _ _ _)
   | (with_reducible exact lap_back.mono _ _ _)
   | (with_reducible exact wave_Inverse.mono _ _)
   | (with_reducible exact LeO.refl _)
   | (with_reducible exact LeO.none _)
   | (with_reducible refine LeO.ite ?_ ?_)
   | (with_reducible refine LeO.bind ?_ (fun _ => ?_))
   | exact ih0 _ _ _
   | exact ih1 _ _ _ _ _
   | exact ih2 _ _ _
   | exact lap_back.mono _ _ _
   | exact wave_Inverse.mono _ _
   | exact LeO.none _
   | refine LeO.ite ?_ ?_
   | refine LeO.bind ?_ (fun _ => ?_)
  ·
   intro y0 y1 y2 y3 y4
   unfold lap_Signal.l0
   repeat' first
   | (with_reducible exact ih0 _ _ _)
   | (with_reducible exact ih1 _ _ _ _ _)
   | (with_reducible exact ih2 _ _ _)
   | (with_reducible exact lap_back.mono _ _ _)
   | (with_reducible exact wave_Inverse.mono _ _)
   | (with_reducible exact LeO.refl _)
   | (with_reducible exact LeO.none _)
   | (with_reducible refine LeO.ite ?_ ?_)
   | (with_reducible refine LeO.bind ?_ (fun _ => ?_))
   | exact ih0 _ _ _
   | exact ih1 _ _ _ _ _
   | exact ih2 _ _ _
   | exact lap_back.mono _ _ _
   | exact wave_Inverse.mono _ _
   | exact LeO.none _
   | refine LeO.ite ?_ ?_
   | refine LeO.bind ?_ (fun _ => ?_)
  ·
   intro y0 y1 y2
   unfold lap_Signal.l1
   repeat' first
   | (with_reducible exact ih0 _ _ _)
   | (with_reducible exact ih1 _ _ _ _ _)
   | (with_reducible exact ih2 _ _ _)
   | (with_reducible exact lap_back.mono _ _ _)
   | (with_reducible exact wave_Inverse.mono _ _)
   | (with_reducible exact LeO.refl _)
   | (with_reducible exact LeO.none _)
   | (with_reducible refine LeO.ite ?_ ?_)
   | (with_reducible refine LeO.bind ?_ (fun _ => ?_))
   | exact ih0 _ _ _
   | exact ih1 _ _ _ _ _
   | exact ih2 _ _ _
   | exact lap_back.mono _ _ _
   | exact wave_Inverse.mono _ _
   | exact LeO.none _
   | refine LeO.ite ?_ ?_
   | refine LeO.bind ?_ (fun _ => ?_)
theorem lap_Signal.mono : ∀ a0 a1 k, LeO (lap_Signal.f k a0 a1) (lap_Signal.f (k + 1) a0 a1) := by
 intro a0 a1 k
 obtain ⟨ih0, ih1, ih2⟩ := lap_Signal.mono_l k
 unfold lap_Signal.f
 repeat' first
   | (with_reducible exact ih0 _ _ _)
   | (with_reducible exact ih1 _ _ _ _ _)
   | (with_reducible exact ih2 _ _ _)
   | (with_reducible exact lap_back.mono _ _ _)
   | (with_reducible exact wave_Inverse.mono _ _)
   | (with_reducible exact LeO.refl _)
   | (with_reducible exact LeO.none _)
   | (with_reducible refine LeO.ite ?_ ?_)
   | (with_reducible refine LeO.bind ?_ (fun _ => ?_))
   | exact ih0 _ _ _
   | exact ih1 _ _ _ _ _
   | exact ih2 _ _ _
   | exact lap_back.mono _ _ _
   | exact wave_Inverse.mono _ _
   | exact LeO.none _
   | refine LeO.ite ?_ ?_
   | refine LeO.bind ?_ (fun _ => ?_)
set_option maxHeartbeats 8000000 in
set_option maxRecDepth 100000 in
theorem lap_Signal.calls (k : Nat) (A0 : Option Addr) (c0 : Nat) (l0 : List (List Int)) (a1 : Int) (r1 : List Int) (r2 : Int) (w : World) (hr0 : Kd.C (Kd.slice 2 (Kd.int .i64)) w A0 l0.length l0) (hc0 : l0.length ≤ c0) (hg : GW w) (h : lap_Signal.f k l0 a1 = some (r1, r2)) :
  Calls Tryd.prog 24 #[.slice A0 l0.length c0, .int .i64 a1] w fun e w' => ∃ v0_ : Value, e = .returned (.tuple #[v0_, .int .i64 r2]) ∧ Kd.R (Kd.int .i64) 2 w' w.heap.size (fun _ => True) v0_ r1 ∧ Below w.heap.size w w' := by
 have HG := zm hg
 clear hg
 have HR0 := zm hr0
 have HC0 := zm hc0
 clear hr0 hc0
 have HB := zm (Below.refl w.heap.size w)
 have H : ((lap_sized.f a1).bind fun t222 => (if t222 = true then (if a1 = 0 then (none) else (lap_Signal.j0 k l0 a1 (decide ((l0.length : Int) > (wrap64 ((4000 : Int) / a1)))))) else (lap_Signal.j0 k l0 a1 true))) = some (r1, r2) := h
 clear h
 have HC3 := zm H
 clear H
 go_enter Tryd.func24, Tryd.ntmps24
 go_upto_region 1 with (fail)
 go_cut [21] (fun v21 wc => ∃ (kq : Nat) (x21_2 : Bool), v21 = .bool x21_2 ∧ Aside0 (lap_Signal.j0 kq l0 a1 x21_2 = some (r1, r2)) ∧ Aside0 (kq ≤ k) ∧ Aside0 (Below w.heap.size w wc))
 case first =>
  have H := HC3.out
  clear HC3
  replace H := Option.bind_eq_some_iff.mp H
  obtain ⟨t222, A40, H⟩ := H
  replace H : (if t222 = true then (if a1 = 0 then (none) else (lap_Signal.j0 k l0 a1 (decide ((l0.length : Int) > (wrap64 ((4000 : Int) / a1)))))) else (lap_Signal.j0 k l0 a1 true)) = some (r1, r2) := H
  have A4 := zm A40
  clear A40
  by_cases c5 : t222 = true
  ·
   subst c5
   have H1 : (if a1 = 0 then (none) else (lap_Signal.j0 k l0 a1 (decide ((l0.length : Int) > (wrap64 ((4000 : Int) / a1)))))) = some (r1, r2) := by rw [if_pos rfl] at H; exact H
   clear H
   have H := H1
   clear H1
   by_cases c6 : a1 = 0
   ·
    rw [if_pos c6] at H
    exact absurd H (by simp)
   ·
    rw [if_neg c6] at H
    have c6b0 : (a1 == 0) = false := beq_eq_false_iff_ne.mpr c6
    have c6b1 : (a1 != 0) = true := bne_iff_ne.mpr c6
    (first | rw [c6b0] | (simp only [i64_w, i32_w]; rw [c6b0]) | skip)
    have H' := zm H
    clear H
    go_wp2_with (first | ((with_reducible refine gate_callee (f := 33) rfl ?_); refine goesL_ (some 13) rfl rfl Tryd.func33 (by kernel_rfl) rfl #[.int .i64 a1] rfl (by (try simp only [List.map_toArray, List.map_cons, List.map_nil]); first | done | rfl | (simp only [List.length_drop, List.length_take]; rfl)) ?_; (with_reducible refine (lap_sized.calls a1 true _ A4.out).mono ?_); rintro e w' ⟨rfl, ⟨nd, rfl⟩⟩; refine ⟨_, rfl, ?_⟩))
    go_meet
    case rel => exact ⟨_, (decide ((l0.length : Int) > (wrap64 ((4000 : Int) / a1)))), (by first | rfl | (simp; done) | (simp [show Int.tdiv 4000 a1 = 4000 / a1 from Int.tdiv_eq_ediv_of_nonneg (by decide)]; done) | (simp [*]; done)), H', ⟨by first | omega | exact Nat.le_refl _⟩, ⟨by repeat (first | (with_reducible first | exact HB.out | apply ze | apply zd | apply zf) | exact HB.out)⟩⟩
  ·
   replace c5 := Bool.eq_false_iff.mpr c5
   subst c5
   have H1 : (lap_Signal.j0 k l0 a1 true) = some (r1, r2) := by rw [if_neg (show ¬ (false = true) by decide)] at H; exact H
   clear H
   have H := H1
   clear H1
   have H' := zm H
   clear H
   go_wp2_with (first | ((with_reducible refine gate_callee (f := 33) rfl ?_); refine goesL_ (some 13) rfl rfl Tryd.func33 (by kernel_rfl) rfl #[.int .i64 a1] rfl (by (try simp only [List.map_toArray, List.map_cons, List.map_nil]); first | done | rfl | (simp only [List.length_drop, List.length_take]; rfl)) ?_; (with_reducible refine (lap_sized.calls a1 false _ A4.out).mono ?_); rintro e w' ⟨rfl, ⟨nd, rfl⟩⟩; refine ⟨_, rfl, ?_⟩))
   go_meet
   case rel => exact ⟨_, (true), (by first | rfl | (simp; done) | (simp [*]; done)), H', ⟨by first | omega | exact Nat.le_refl _⟩, ⟨by repeat (first | (with_reducible first | exact HB.out | apply ze | apply zd | apply zf) | exact HB.out)⟩⟩
 case rest =>
  clear HC3
  try clear c2
  try clear p2
  try clear c3
  try clear c5
  try clear c6
  try clear c6b0
  try clear c6b1
  try clear p6
  obtain ⟨kq, x21_2, rfl, HA, HJ2, HB⟩ := hcut
  cases kq with
  | zero => exact absurd HA.out (by simp [lap_Signal.j0])
  | succ kj2 =>
   have H := HA.out
   clear HA
   simp only [lap_Signal.j0] at H
   by_cases c7 : x21_2 = true
   ·
    subst c7
    have H1 : (some (([] : List Int), 1)) = some (r1, r2) := by rw [if_pos rfl] at H; exact H
    clear H
    have H := H1
    clear H1
    simp only [Option.some.injEq, Prod.mk.injEq] at H
    obtain ⟨rfl, rfl⟩ := H
    go_wp2
    go_ret2
    exact ⟨_, by first | rfl | (simp [errW_none, errW_some] <;> rfl) | (simp [*, errW_none, errW_some] <;> rfl), by first | exact Kd.R_nil _ _ _ _ _ | exact Kd.N_nil _ _ _ _ _ | exact Kd.V_nil _ _ _ _ _ | exact Kd.Q_nil _ _ _ _ _ | exact Kd.S_nil _ _ _ _ _, by repeat (first | (with_reducible first | exact HB.out | apply ze | apply zd | apply zf) | exact HB.out)⟩
   ·
    replace c7 := Bool.eq_false_iff.mpr c7
    subst c7
    have H1 : (lap_Signal.l0 kj2 a1 ([] : List Int) l0 (l0.length : Int) 0) = some (r1, r2) := by rw [if_neg (show ¬ (false = true) by decide)] at H; exact H
    clear H
    have H := H1
    clear H1
    have H' := zm H
    clear H
    go_wp2
    go_loopg [6, 24] kj2 (fun kq v6 v24 w' => ∃ (x6_2 : List Int) (x24_2 : Int), v24 = .int .i64 x24_2 ∧ Aside0 (lap_Signal.l0 kq a1 x6_2 l0 (l0.length : Int) x24_2 = some (r1, r2)) ∧ Aside0 (kq ≤ kj2) ∧ Aside0 (Kd.R (Kd.int .i64) 2 w' w.heap.size (fun _ => True) v6 x6_2) ∧ Aside0 (Below w.heap.size w w'))
    case atStart => exact ⟨(([] : List Int)), (0), (by first | rfl | (simp; done) | (simp [*]; done)), H', ⟨Nat.le_refl _⟩, ⟨by first | exact Kd.R_nil _ _ _ _ _ | exact Kd.N_nil _ _ _ _ _ | exact Kd.V_nil _ _ _ _ _ | exact Kd.Q_nil _ _ _ _ _ | exact Kd.S_nil _ _ _ _ _⟩, ⟨by repeat (first | (with_reducible first | exact HB.out | apply ze | apply zd | apply zf) | exact HB.out)⟩⟩
    case round =>
     clear H'
     try clear c2
     try clear p2
     try clear c3
     try clear c5
     try clear c6
     try clear c6b0
     try clear c6b1
     try clear p6
     try clear c7
     try clear p2
     try clear p6
     obtain ⟨x6_2, x24_2, rfl, HA, HK2, HO_6, HB⟩ := hrel
     cases gk with
     | zero => exact absurd HA.out (by simp [lap_Signal.l0])
     | succ k2 =>
      have H := HA.out
      clear HA
      simp only [lap_Signal.l0] at H
      by_cases c8 : x24_2 < (l0.length : Int)
      ·
       rw [if_pos c8] at H
       have c8b0 : decide (x24_2 < (l0.length : Int)) = true := decide_eq_true c8
       clear c8
       by_cases c9 : 0 ≤ x24_2
       ·
        rw [if_pos c9] at H
        have c9b0 : decide (0 ≤ x24_2) = true := decide_eq_true c9
        clear c9
        by_cases c10 : x24_2 < (l0.length : Int)
        ·
         rw [if_pos c10] at H
         have c10b0 : decide (x24_2 < (l0.length : Int)) = true := decide_eq_true c10
         clear c10
         replace H := Option.bind_eq_some_iff.mp H
         obtain ⟨⟨t224, t225⟩, A110, H⟩ := H
         replace H : (if t225 = 0 then (if ((rd_L1 l0 x24_2).length : Int) = a1 then (if x6_2.length + t224.length < 17592186044416 then (lap_Signal.l0 k2 a1 (x6_2 ++ t224) l0 (l0.length : Int) (wrap64 (x24_2 + 1))) else (none)) else (some (([] : List Int), 1))) else (some (([] : List Int), 1))) = some (r1, r2) := H
         have A11 := zm A110
         clear A110
         by_cases c12 : t225 = 0
         ·
          rw [if_pos c12] at H
          have c12b0 : (t225 == 0) = true := beq_iff_eq.mpr c12
          have c12b1 : (t225 != 0) = false := bne_eq_false_iff_eq.mpr c12
          clear c12
          by_cases c13 : ((rd_L1 l0 x24_2).length : Int) = a1
          ·
           rw [if_pos c13] at H
           have c13b0 : (((rd_L1 l0 x24_2).length : Int) == a1) = true := beq_iff_eq.mpr c13
           have c13b1 : (((rd_L1 l0 x24_2).length : Int) != a1) = false := bne_eq_false_iff_eq.mpr c13
           clear c13
           by_cases c14 : x6_2.length + t224.length < 17592186044416
           ·
            rw [if_pos c14] at H
            have LMc14 := zm c14
            clear c14
            obtain ⟨y228, hy228⟩ : ∃ y_ : List Int, y_ = (x6_2 ++ t224) := ⟨_, rfl⟩
            replace H : (lap_Signal.l0 k2 a1 y228 l0 (l0.length : Int) (wrap64 (x24_2 + 1))) = some (r1, r2) := by first | (rw [hy228]; with_reducible exact H) | (have H2_ := (Option.bind_some _ _).symm.trans H; rw [hy228]; with_reducible exact H2_) | (have H2_ := (Option.bind_some _ _).symm.trans H; with_reducible exact H2_) | with_reducible exact H | (rw [hy228]; exact H) | exact H
            have Ny228 := zm hy228
            clear hy228
            have H' := zm H
            clear H
            have p223 : 0 ≤ (x24_2 : Int) := of_decide_eq_true (by first | (with_reducible assumption) | assumption)
            have q223 : x24_2 < (l0.length : Int) := of_decide_eq_true (by first | (with_reducible assumption) | assumption)
            obtain ⟨ad223, A223_0, c223_0, e223, hx223_0, hl223_0, hi223_0⟩ := at_L1 HR0.out x24_2 p223 q223
            cases e223
            replace hx223_0 := (HB.out.cell (zb w _ hx223_0)).trans hx223_0
            have HR223_0 := zm hi223_0
            have HC223_0 := zm hl223_0
            clear hi223_0 hl223_0
            replace p223 := eq_true p223
            replace q223 := eq_true q223
            go_wp2_with (first | ((with_reducible refine gate_callee (f := 36) rfl ?_); refine goesL_ (some 30) rfl rfl Tryd.func36 (by kernel_rfl) rfl #[.slice A223_0 (rd_L1 l0 x24_2).length c223_0] rfl (by (try simp only [List.map_toArray, List.map_cons, List.map_nil]); first | done | rfl | (simp only [List.length_drop, List.length_take]; rfl)) ?_; (with_reducible refine (wave_Inverse.calls k2 _ _ (rd_L1 l0 x24_2) t224 t225 _ ?side1 ?side2 A11.out).mono ?_); (case side1 => repeat (first | exact (Kd.C_below HR223_0.out HB.out) | (with_reducible refine Kd.C_alloc ?_ _) | (with_reducible refine Kd.C_drewN ?_ _) | (with_reducible refine Kd.C_drew ?_))); (case side2 => exact HC223_0.out); rintro e w15 ⟨v226, rfl, ho0, hb⟩; refine ⟨_, rfl, ?_⟩; have n0_ := zm (Kd.R_elder' (by (with_reducible repeat (first | apply zo | apply zp | apply zq)); exact HO_6.out) (Kd.R_base ho0) hb); have n1_ := zm (Kd.R_lower (Kd.R_new' ho0 (Kd.R_lt (by (with_reducible repeat (first | apply zo | apply zp | apply zq)); exact HO_6.out))) (zE (by repeat (first | (with_reducible first | exact HB.out | apply ze | apply zd | apply zf) | exact HB.out)))); have n2_ := zm (zJ (by repeat (first | (with_reducible first | exact HB.out | apply ze | apply zd | apply zf) | exact HB.out)) hb); clear HO_6; clear HB; have HO_6 := n0_; have HO227 := n1_; have HB := n2_; clear n0_ n1_ n2_; (try clear hb); (try clear hb2); (try clear hk); (try clear hi); (try clear ho0); obtain ⟨Ao17, co17, eo17⟩ := Kd.R_slice HO227.out; subst eo17) | ((with_reducible refine gate_builtin (b := .append) (xs := #[.tmp 41, .tmp 42]) rfl ?_); (try (refine gate_guard (by rfl) ?_; dsimp only)); at_builtin; refine Kd.R_append_rows (Kd.int .i64) (w0 := w) w.heap.size rfl (.tmp 41) (.tmp 42) 22 2 (.int .i64 0) 8 rfl Tryd.underlying22 info2 rfl (by decide) (by omega) u6 x6_2 t224 _ _ _ (fun k_ => some k_ ≠ (.slice Ao17 t224.length co17 : Value).ownBlock) (fun _ => False) rfl rfl ?aO ?aR (fun _ _ h => h) (fun _ h => h.elim) ?aF ?aB ?aS ?aL ?_; (case aR => repeat (first | exact (Kd.R_reads' HO227.out).2.2 | (with_reducible refine Kd.C_alloc ?_ _) | (with_reducible refine Kd.C_drewN ?_ _) | (with_reducible refine Kd.C_drew ?_))); (case aB => exact (by repeat (first | (with_reducible first | exact HB.out | apply ze | apply zd | apply zf) | exact HB.out))); (case aF => exact (fun k_ hk => Kd.fresh' (Kd.R_lt (by (with_reducible repeat (first | apply zo | apply zp | apply zq)); exact HO227.out)) k_ hk)); (case aO => exact (by (with_reducible repeat (first | apply zo | apply zp | apply zq)); exact zG HO_6.out (fun _ hk => hk.2))); (case aS => exact (zE (by repeat (first | (with_reducible first | exact HB.out | apply ze | apply zd | apply zf) | exact HB.out)))); (case aL => have := LMc14.out; omega); intro v229 w16 ho hb hg hat; rw [← Ny228.out] at ho; have n0_ := zm (Kd.R_after (ok := (fun _ => True)) (by (with_reducible repeat (first | apply zo | apply zp | apply zq)); exact HO227.out) hg hat); have n1_ := zm (hb); have n2_ := zm (ho); clear HO227; clear HB; clear HO_6; have HO227 := n0_; have HB := n1_; have HO230 := n2_; clear n0_ n1_ n2_; clear ho hb hg hat))
            go_roundg k2
            case measure => have := HJ2.out; have := HK2.out; omega
            case rel => exact ⟨(y228), (wrap64 (x24_2 + 1)), (by first | rfl | (simp; done) | (simp [*]; done)), H', ⟨by have := HJ2.out; have := HK2.out; omega⟩, ⟨by (with_reducible repeat (first | apply zo | apply zp | apply zq)); exact zG HO230.out (fun _ hk => trivial)⟩, ⟨by repeat (first | (with_reducible first | exact HB.out | apply ze | apply zd | apply zf) | exact HB.out)⟩⟩
           ·
            rw [if_neg c14] at H
            exact absurd H (by simp)
          ·
           rw [if_neg c13] at H
           have c13b0 : (((rd_L1 l0 x24_2).length : Int) == a1) = false := beq_eq_false_iff_ne.mpr c13
           have c13b1 : (((rd_L1 l0 x24_2).length : Int) != a1) = true := bne_iff_ne.mpr c13
           simp only [Option.some.injEq, Prod.mk.injEq] at H
           obtain ⟨rfl, rfl⟩ := H
           have p223 : 0 ≤ (x24_2 : Int) := of_decide_eq_true (by first | (with_reducible assumption) | assumption)
           have q223 : x24_2 < (l0.length : Int) := of_decide_eq_true (by first | (with_reducible assumption) | assumption)
           obtain ⟨ad223, A223_0, c223_0, e223, hx223_0, hl223_0, hi223_0⟩ := at_L1 HR0.out x24_2 p223 q223
           cases e223
           replace hx223_0 := (HB.out.cell (zb w _ hx223_0)).trans hx223_0
           have HR223_0 := zm hi223_0
           have HC223_0 := zm hl223_0
           clear hi223_0 hl223_0
           replace p223 := eq_true p223
           replace q223 := eq_true q223
           go_wp2_with (first | ((with_reducible refine gate_callee (f := 36) rfl ?_); refine goesL_ (some 30) rfl rfl Tryd.func36 (by kernel_rfl) rfl #[.slice A223_0 (rd_L1 l0 x24_2).length c223_0] rfl (by (try simp only [List.map_toArray, List.map_cons, List.map_nil]); first | done | rfl | (simp only [List.length_drop, List.length_take]; rfl)) ?_; (with_reducible refine (wave_Inverse.calls k2 _ _ (rd_L1 l0 x24_2) t224 t225 _ ?side1 ?side2 A11.out).mono ?_); (case side1 => repeat (first | exact (Kd.C_below HR223_0.out HB.out) | (with_reducible refine Kd.C_alloc ?_ _) | (with_reducible refine Kd.C_drewN ?_ _) | (with_reducible refine Kd.C_drew ?_))); (case side2 => exact HC223_0.out); rintro e w18 ⟨v226, rfl, ho0, hb⟩; refine ⟨_, rfl, ?_⟩; have n0_ := zm (Kd.R_elder' (by (with_reducible repeat (first | apply zo | apply zp | apply zq)); exact HO_6.out) (Kd.R_base ho0) hb); have n1_ := zm (Kd.R_lower (Kd.R_new' ho0 (Kd.R_lt (by (with_reducible repeat (first | apply zo | apply zp | apply zq)); exact HO_6.out))) (zE (by repeat (first | (with_reducible first | exact HB.out | apply ze | apply zd | apply zf) | exact HB.out)))); have n2_ := zm (zJ (by repeat (first | (with_reducible first | exact HB.out | apply ze | apply zd | apply zf) | exact HB.out)) hb); clear HO_6; clear HB; have HO_6 := n0_; have HO227 := n1_; have HB := n2_; clear n0_ n1_ n2_; (try clear hb); (try clear hb2); (try clear hk); (try clear hi); (try clear ho0)))
           go_ret2
           exact ⟨_, by first | rfl | (simp [errW_none, errW_some] <;> rfl) | (simp [*, errW_none, errW_some] <;> rfl), by first | exact Kd.R_nil _ _ _ _ _ | exact Kd.N_nil _ _ _ _ _ | exact Kd.V_nil _ _ _ _ _ | exact Kd.Q_nil _ _ _ _ _ | exact Kd.S_nil _ _ _ _ _, by repeat (first | (with_reducible first | exact HB.out | apply ze | apply zd | apply zf) | exact HB.out)⟩
         ·
          rw [if_neg c12] at H
          have c12b0 : (t225 == 0) = false := beq_eq_false_iff_ne.mpr c12
          have c12b1 : (t225 != 0) = true := bne_iff_ne.mpr c12
          simp only [Option.some.injEq, Prod.mk.injEq] at H
          obtain ⟨rfl, rfl⟩ := H
          have p223 : 0 ≤ (x24_2 : Int) := of_decide_eq_true (by first | (with_reducible assumption) | assumption)
          have q223 : x24_2 < (l0.length : Int) := of_decide_eq_true (by first | (with_reducible assumption) | assumption)
          obtain ⟨ad223, A223_0, c223_0, e223, hx223_0, hl223_0, hi223_0⟩ := at_L1 HR0.out x24_2 p223 q223
          cases e223
          replace hx223_0 := (HB.out.cell (zb w _ hx223_0)).trans hx223_0
          have HR223_0 := zm hi223_0
          have HC223_0 := zm hl223_0
          clear hi223_0 hl223_0
          replace p223 := eq_true p223
          replace q223 := eq_true q223
          go_wp2_with (first | ((with_reducible refine gate_callee (f := 36) rfl ?_); refine goesL_ (some 30) rfl rfl Tryd.func36 (by kernel_rfl) rfl #[.slice A223_0 (rd_L1 l0 x24_2).length c223_0] rfl (by (try simp only [List.map_toArray, List.map_cons, List.map_nil]); first | done | rfl | (simp only [List.length_drop, List.length_take]; rfl)) ?_; (with_reducible refine (wave_Inverse.calls k2 _ _ (rd_L1 l0 x24_2) t224 t225 _ ?side1 ?side2 A11.out).mono ?_); (case side1 => repeat (first | exact (Kd.C_below HR223_0.out HB.out) | (with_reducible refine Kd.C_alloc ?_ _) | (with_reducible refine Kd.C_drewN ?_ _) | (with_reducible refine Kd.C_drew ?_))); (case side2 => exact HC223_0.out); rintro e w19 ⟨v226, rfl, ho0, hb⟩; refine ⟨_, rfl, ?_⟩; have n0_ := zm (Kd.R_elder' (by (with_reducible repeat (first | apply zo | apply zp | apply zq)); exact HO_6.out) (Kd.R_base ho0) hb); have n1_ := zm (Kd.R_lower (Kd.R_new' ho0 (Kd.R_lt (by (with_reducible repeat (first | apply zo | apply zp | apply zq)); exact HO_6.out))) (zE (by repeat (first | (with_reducible first | exact HB.out | apply ze | apply zd | apply zf) | exact HB.out)))); have n2_ := zm (zJ (by repeat (first | (with_reducible first | exact HB.out | apply ze | apply zd | apply zf) | exact HB.out)) hb); clear HO_6; clear HB; have HO_6 := n0_; have HO227 := n1_; have HB := n2_; clear n0_ n1_ n2_; (try clear hb); (try clear hb2); (try clear hk); (try clear hi); (try clear ho0)))
          go_ret2
          exact ⟨_, by first | rfl | (simp [errW_none, errW_some] <;> rfl) | (simp [*, errW_none, errW_some] <;> rfl), by first | exact Kd.R_nil _ _ _ _ _ | exact Kd.N_nil _ _ _ _ _ | exact Kd.V_nil _ _ _ _ _ | exact Kd.Q_nil _ _ _ _ _ | exact Kd.S_nil _ _ _ _ _, by repeat (first | (with_reducible first | exact HB.out | apply ze | apply zd | apply zf) | exact HB.out)⟩
        ·
         rw [if_neg c10] at H
         exact absurd H (by simp)
       ·
        rw [if_neg c9] at H
        exact absurd H (by simp)
      ·
       rw [if_neg c8] at H
       have c8b0 : decide (x24_2 < (l0.length : Int)) = false := decide_eq_false c8
       clear c8
       have H' := zm H
       clear H
       obtain ⟨Ao20, co20, eo20⟩ := Kd.R_slice HO_6.out
       subst eo20
       go_wp2
       go_loopg [11] k2 (fun kq v11 w' => ∃ (x6_3 : List Int) (x11_3 : Int), v11 = .int .i64 x11_3 ∧ Aside0 (lap_Signal.l1 kq a1 x6_3 x11_3 = some (r1, r2)) ∧ Aside0 (kq ≤ k2) ∧ Aside0 (Kd.R (Kd.int .i64) 2 w' w.heap.size (fun _ => True) (.slice Ao20 x6_2.length co20) x6_3) ∧ Aside0 (Below w.heap.size w w'))
       case atStart => exact ⟨(x6_2), (wrap64 ((x6_2.length : Int) - a1)), (by first | rfl | (simp; done) | (simp [*]; done)), H', ⟨Nat.le_refl _⟩, ⟨by (with_reducible repeat (first | apply zo | apply zp | apply zq)); exact HO_6.out⟩, ⟨by repeat (first | (with_reducible first | exact HB.out | apply ze | apply zd | apply zf) | exact HB.out)⟩⟩
       case round =>
        clear H'
        try clear c1
        try clear c2
        try clear p2
        try clear q2
        try clear hx2
        try clear c3
        try clear c5
        try clear c6
        try clear c6b0
        try clear c6b1
        try clear p6
        try clear c7
        try clear c8
        try clear c8b0
        try clear c9
        try clear c9b0
        try clear c10
        try clear c10b0
        try clear c12
        try clear c12b0
        try clear c12b1
        try clear c13
        try clear c13b0
        try clear c13b1
        try clear c14
        try clear hx223_0
        try clear p2
        try clear p223
        try clear p6
        try clear q223
        obtain ⟨x6_3, x11_3, rfl, HA, HK3, HO_6, HB⟩ := hrel
        have hl6_3 := (Kd.R_reads' HO_6.out).1
        rw [hl6_3] at HO_6
        (try simp only [hl6_3])
        cases gk with
        | zero => exact absurd HA.out (by simp [lap_Signal.l1])
        | succ k3 =>
         have H := HA.out
         clear HA
         simp only [lap_Signal.l1] at H
         by_cases c21 : x11_3 > 0
         ·
          rw [if_pos c21] at H
          have c21b0 : decide (0 < x11_3) = true := decide_eq_true c21
          clear c21
          replace H := Option.bind_eq_some_iff.mp H
          obtain ⟨t231, A220, H⟩ := H
          replace H : (lap_Signal.l1 k3 a1 t231 (wrap64 (x11_3 - a1))) = some (r1, r2) := H
          have A22 := zm A220
          clear A220
          have H' := zm H
          clear H
          go_wp2_with (first | ((with_reducible refine gate_callee (f := 32) rfl ?_); refine goesL_ (some 56) rfl rfl Tryd.func32 (by kernel_rfl) rfl #[.slice Ao20 x6_3.length co20, .int .i64 x11_3] rfl (by (try simp only [List.map_toArray, List.map_cons, List.map_nil]); first | done | rfl | (simp only [List.length_drop, List.length_take]; rfl)) ?_; (with_reducible refine (lap_back.calls k3 (fun k_ => some k_ = (.slice Ao20 x6_3.length co20 : Value).ownBlock) (.slice Ao20 x6_3.length co20) x6_3 x11_3 t231 w _ ?side1 ?side2 ?sideg A22.out).mono ?_); (case sideg => exact HG.out); (case side1 => repeat (first | (with_reducible first | exact HB.out | apply ze | apply zd | apply zf) | exact HB.out)); (case side2 => exact Kd.R_tight rfl HO_6.out); rintro e w23 ⟨rfl, hy0, hb, hkp⟩; refine ⟨_, rfl, ?_⟩; have n0_ := zm (Kd.R_reok rfl hy0 (fun k_ e_ => HO_6.out.1 k_ e_)); have n1_ := zm (hb); clear HO_6; clear HB; have HO_6 := n0_; have HB := n1_; clear n0_ n1_; (try clear hb); (try clear hkp); (try clear hy0)))
          (try simp only [← hl6_3])
          go_roundg k3
          case measure => have := HJ2.out; have := HK2.out; have := HK3.out; omega
          case rel => exact ⟨(t231), (wrap64 (x11_3 - a1)), (by first | rfl | (simp; done) | (simp [*]; done)), H', ⟨by have := HJ2.out; have := HK2.out; have := HK3.out; omega⟩, ⟨by (try simp only [hl6_3]); (with_reducible repeat (first | apply zo | apply zp | apply zq)); exact HO_6.out⟩, ⟨by repeat (first | (with_reducible first | exact HB.out | apply ze | apply zd | apply zf) | exact HB.out)⟩⟩
         ·
          rw [if_neg c21] at H
          have c21b0 : decide (0 < x11_3) = false := decide_eq_false c21
          clear c21
          simp only [Option.some.injEq, Prod.mk.injEq] at H
          obtain ⟨rfl, rfl⟩ := H
          go_wp2
          go_ret2
          exact ⟨_, by first | rfl | (simp [errW_none, errW_some] <;> rfl) | (simp [*, errW_none, errW_some] <;> rfl), by (with_reducible repeat (first | apply zo | apply zp | apply zq)); exact HO_6.out, by repeat (first | (with_reducible first | exact HB.out | apply ze | apply zd | apply zf) | exact HB.out)⟩

end Go.Proofs.YtllchhcdpfiodaaDoor.Prt

namespace Go.Proofs.YtllchhcdpfiodaaDoor.Prt
open Go.RowKit Go.Proofs.YtllchhcdpfiodaaDoorW.PrintWords Go.Proofs.YtllchhcdpfiodaaDoorW.PrintLast Go.Proofs.YtllchhcdpfiodaaDoorW.PrintMore
attribute [local go_sem] max2_int min2_int max_two min_two max_three min_three max_four min_four   -- for this text's walks alone
set_option linter.unusedVariables false
set_option linter.unusedSimpArgs false

/-! ### lap_Turn: function 12 -/
def lap_Turn.f (k : Nat) (l0 : List Int) (a1 : Int) : Option (List Int × Int) := (lap_Right.f k l0).bind fun t116 => (if t116 = true then ((lap_border.f l0 a1).bind fun t117 => (if t117 = true then ((some (([] : List Int) : List Int)).bind fun y118 => (if y118.length + l0.length < 17592186044416 then ((lap_turn.f k (y118 ++ l0) a1).bind fun t124 => (some (t124, 0))) else (none))) else (some (([] : List Int), 1)))) else (some (([] : List Int), 1)))
theorem lap_Turn.mono : ∀ a0 a1 k, LeO (lap_Turn.f k a0 a1) (lap_Turn.f (k + 1) a0 a1) := by
 intro a0 a1 k
 unfold lap_Turn.f
 repeat' first
   | (with_reducible exact lap_Right.mono _ _)
   | (with_reducible exact lap_turn.mono _ _ _)
   | (with_reducible exact LeO.refl _)
   | (with_reducible exact LeO.none _)
   | (with_reducible refine LeO.ite ?_ ?_)
   | (with_reducible refine LeO.bind ?_ (fun _ => ?_))
   | exact lap_Right.mono _ _
   | exact lap_turn.mono _ _ _
   | exact LeO.none _
   | refine LeO.ite ?_ ?_
   | refine LeO.bind ?_ (fun _ => ?_)
set_option maxHeartbeats 8000000 in
set_option maxRecDepth 100000 in
theorem lap_Turn.calls (k : Nat) (A0 : Option Addr) (c0 : Nat) (l0 : List Int) (a1 : Int) (r1 : List Int) (r2 : Int) (w : World) (hr0 : Kd.C (Kd.int .i64) w A0 l0.length l0) (hc0 : l0.length ≤ c0) (hg : GW w) (h : lap_Turn.f k l0 a1 = some (r1, r2)) :
  Calls Tryd.prog 12 #[.slice A0 l0.length c0, .int .i64 a1] w fun e w' => ∃ v0_ : Value, e = .returned (.tuple #[v0_, .int .i64 r2]) ∧ Kd.R (Kd.int .i64) 2 w' w.heap.size (fun _ => True) v0_ r1 ∧ Below w.heap.size w w' := by
 have HG := zm hg
 clear hg
 have HR0 := zm hr0
 have HC0 := zm hc0
 clear hr0 hc0
 have HB := zm (Below.refl w.heap.size w)
 have H : ((lap_Right.f k l0).bind fun t116 => (if t116 = true then ((lap_border.f l0 a1).bind fun t117 => (if t117 = true then ((some (([] : List Int) : List Int)).bind fun y118 => (if y118.length + l0.length < 17592186044416 then ((lap_turn.f k (y118 ++ l0) a1).bind fun t124 => (some (t124, 0))) else (none))) else (some (([] : List Int), 1)))) else (some (([] : List Int), 1)))) = some (r1, r2) := h
 clear h
 replace H := Option.bind_eq_some_iff.mp H
 obtain ⟨t116, A30, H⟩ := H
 replace H : (if t116 = true then ((lap_border.f l0 a1).bind fun t117 => (if t117 = true then ((some (([] : List Int) : List Int)).bind fun y118 => (if y118.length + l0.length < 17592186044416 then ((lap_turn.f k (y118 ++ l0) a1).bind fun t124 => (some (t124, 0))) else (none))) else (some (([] : List Int), 1)))) else (some (([] : List Int), 1))) = some (r1, r2) := H
 have A3 := zm A30
 clear A30
 by_cases c4 : t116 = true
 ·
  subst c4
  have H1 : ((lap_border.f l0 a1).bind fun t117 => (if t117 = true then ((some (([] : List Int) : List Int)).bind fun y118 => (if y118.length + l0.length < 17592186044416 then ((lap_turn.f k (y118 ++ l0) a1).bind fun t124 => (some (t124, 0))) else (none))) else (some (([] : List Int), 1)))) = some (r1, r2) := by rw [if_pos rfl] at H; exact H
  clear H
  have H := H1
  clear H1
  replace H := Option.bind_eq_some_iff.mp H
  obtain ⟨t117, A50, H⟩ := H
  replace H : (if t117 = true then ((some (([] : List Int) : List Int)).bind fun y118 => (if y118.length + l0.length < 17592186044416 then ((lap_turn.f k (y118 ++ l0) a1).bind fun t124 => (some (t124, 0))) else (none))) else (some (([] : List Int), 1))) = some (r1, r2) := H
  have A5 := zm A50
  clear A50
  by_cases c6 : t117 = true
  ·
   subst c6
   have H1 : ((some (([] : List Int) : List Int)).bind fun y118 => (if y118.length + l0.length < 17592186044416 then ((lap_turn.f k (y118 ++ l0) a1).bind fun t124 => (some (t124, 0))) else (none))) = some (r1, r2) := by rw [if_pos rfl] at H; exact H
   clear H
   have H := H1
   clear H1
   obtain ⟨y118, hy118⟩ : ∃ y_ : List Int, y_ = (([] : List Int)) := ⟨_, rfl⟩
   replace H : (if y118.length + l0.length < 17592186044416 then ((lap_turn.f k (y118 ++ l0) a1).bind fun t124 => (some (t124, 0))) else (none)) = some (r1, r2) := by first | (rw [hy118]; with_reducible exact H) | (have H2_ := (Option.bind_some _ _).symm.trans H; rw [hy118]; with_reducible exact H2_) | (have H2_ := (Option.bind_some _ _).symm.trans H; with_reducible exact H2_) | with_reducible exact H | (rw [hy118]; exact H) | exact H
   have Ny118 := zm hy118
   clear hy118
   by_cases c7 : y118.length + l0.length < 17592186044416
   ·
    rw [if_pos c7] at H
    have LMc7 := zm c7
    clear c7
    obtain ⟨y121, hy121⟩ : ∃ y_ : List Int, y_ = (y118 ++ l0) := ⟨_, rfl⟩
    replace H : ((lap_turn.f k y121 a1).bind fun t124 => (some (t124, 0))) = some (r1, r2) := by first | (rw [hy121]; with_reducible exact H) | (have H2_ := (Option.bind_some _ _).symm.trans H; rw [hy121]; with_reducible exact H2_) | (have H2_ := (Option.bind_some _ _).symm.trans H; with_reducible exact H2_) | with_reducible exact H | (rw [hy121]; exact H) | exact H
    have Ny121 := zm hy121
    clear hy121
    replace H := Option.bind_eq_some_iff.mp H
    obtain ⟨t124, A80, H⟩ := H
    replace H : (some (t124, 0)) = some (r1, r2) := H
    have A8 := zm A80
    clear A80
    simp only [Option.some.injEq, Prod.mk.injEq] at H
    obtain ⟨rfl, rfl⟩ := H
    go_enter Tryd.func12, Tryd.ntmps12
    go_wp2_with (first | ((with_reducible refine gate_callee (f := 14) rfl ?_); refine goesL_ (some 8) rfl rfl Tryd.func14 (by kernel_rfl) rfl #[.slice A0 l0.length c0] rfl (by (try simp only [List.map_toArray, List.map_cons, List.map_nil]); first | done | rfl | (simp only [List.length_drop, List.length_take]; rfl)) ?_; (with_reducible refine (lap_Right.calls k _ _ l0 true _ ?side1 ?side2 A3.out).mono ?_); (case side1 => repeat (first | exact HR0.out | (with_reducible refine Kd.C_alloc ?_ _) | (with_reducible refine Kd.C_drewN ?_ _) | (with_reducible refine Kd.C_drew ?_))); (case side2 => exact HC0.out); rintro e w' ⟨rfl, ⟨nd, rfl⟩⟩; refine ⟨_, rfl, ?_⟩) | (go_at_call 28; (with_reducible refine (lap_border.calls _ _ l0 a1 true _ ?side1 ?side2 A5.out).mono ?_); (case side1 => repeat (first | exact HR0.out | (with_reducible refine Kd.C_alloc ?_ _) | (with_reducible refine Kd.C_drewN ?_ _) | (with_reducible refine Kd.C_drew ?_))); (case side2 => exact HC0.out); rintro e w' ⟨rfl, ⟨nd, rfl⟩⟩) | ((with_reducible refine gate_dst (N := 16) rfl ?_); refine Kd.R_lit (Kd.int .i64) _ 2 ?hg (N := 16) ?hd (xs := ([] : List Int)) (inner := []) (ok := fun _ => True) (okp := fun _ => True) ?hr ?hp (fun _ hk => hk) trivial (Below.refl _ _) (Nat.le_refl _) (by simp) ?_; (case hd => rfl); (case hg => rfl); (case hr => first | (go_simp; done) | (go_simp; rfl)); (case hp => exact (Reps.none _ _)); intro v119 w9 ho10 hb hg_ hnew_; clear hg_ hnew_; (first | rw [← Ny118.out] at ho10 | (simp only [Int.reduceToNat] at ho10; rw [← Ny118.out] at ho10)); have n0_ := zm (Kd.R_lower ho10 (zE (by repeat (first | (with_reducible first | exact HB.out | apply ze | apply zd | apply zf) | exact HB.out)))); have n1_ := zm (zJ (by repeat (first | (with_reducible first | exact HB.out | apply ze | apply zd | apply zf) | exact HB.out)) hb); clear HB; have HO120 := n0_; have HB := n1_; clear n0_ n1_; clear hb ho10) | ((with_reducible refine gate_builtin (b := .append) (xs := #[.tmp 16, .tmp 17]) rfl ?_); at_builtin; refine Kd.R_append_rows (Kd.int .i64) (w0 := w) w.heap.size rfl (.tmp 16) (.tmp 17) 22 2 (.int .i64 0) 8 rfl Tryd.underlying22 info2 rfl (by decide) (by omega) v119 y118 l0 _ _ _ (fun _ => True) (fun _ => False) rfl rfl ?aO ?aR (fun _ _ h => h) (fun _ h => h.elim) ?aF ?aB ?aS ?aL ?_; (case aR => repeat (first | exact (Kd.C_below HR0.out HB.out) | (with_reducible refine Kd.C_alloc ?_ _) | (with_reducible refine Kd.C_drewN ?_ _) | (with_reducible refine Kd.C_drew ?_))); (case aB => exact (by repeat (first | (with_reducible first | exact HB.out | apply ze | apply zd | apply zf) | exact HB.out))); (case aF => exact (fun _ _ => trivial)); (case aO => exact (by (with_reducible repeat (first | apply zo | apply zp | apply zq)); exact HO120.out)); (case aS => exact (zE (by repeat (first | (with_reducible first | exact HB.out | apply ze | apply zd | apply zf) | exact HB.out)))); (case aL => have := LMc7.out; omega); intro v122 w11 ho hb hg hat; rw [← Ny121.out] at ho; have n0_ := zm (hb); have n1_ := zm (ho); clear HB; clear HO120; have HB := n0_; have HO123 := n1_; clear n0_ n1_; clear ho hb hg hat; obtain ⟨Ao12, co12, eo12⟩ := Kd.R_slice HO123.out; subst eo12) | ((with_reducible refine gate_callee (f := 29) rfl ?_); refine goesL_ (some 21) rfl rfl Tryd.func29 (by kernel_rfl) rfl #[.slice Ao12 y121.length co12, .int .i64 a1] rfl (by (try simp only [List.map_toArray, List.map_cons, List.map_nil]); first | done | rfl | (simp only [List.length_drop, List.length_take]; rfl)) ?_; (with_reducible refine (lap_turn.calls k (fun k_ => some k_ = (.slice Ao12 y121.length co12 : Value).ownBlock) (.slice Ao12 y121.length co12) y121 a1 t124 w _ ?side1 ?side2 ?sideg A8.out).mono ?_); (case sideg => exact HG.out); (case side1 => repeat (first | (with_reducible first | exact HB.out | apply ze | apply zd | apply zf) | exact HB.out)); (case side2 => exact Kd.R_tight rfl HO123.out); rintro e w13 ⟨rfl, hy0, hb, hkp⟩; refine ⟨_, rfl, ?_⟩; have n0_ := zm (Kd.R_reok rfl hy0 (fun k_ e_ => HO123.out.1 k_ e_)); have n1_ := zm (hb); clear HO123; clear HB; have HO123 := n0_; have HB := n1_; clear n0_ n1_; (try clear hb); (try clear hkp); (try clear hy0)))
    go_ret2
    exact ⟨_, by first | rfl | (simp [errW_none, errW_some] <;> rfl) | (simp [*, errW_none, errW_some] <;> rfl), by (with_reducible repeat (first | apply zo | apply zp | apply zq)); exact HO123.out, by repeat (first | (with_reducible first | exact HB.out | apply ze | apply zd | apply zf) | exact HB.out)⟩
   ·
    rw [if_neg c7] at H
    exact absurd H (by simp)
  ·
   replace c6 := Bool.eq_false_iff.mpr c6
   subst c6
   have H1 : (some (([] : List Int), 1)) = some (r1, r2) := by rw [if_neg (show ¬ (false = true) by decide)] at H; exact H
   clear H
   have H := H1
   clear H1
   simp only [Option.some.injEq, Prod.mk.injEq] at H
   obtain ⟨rfl, rfl⟩ := H
   go_enter Tryd.func12, Tryd.ntmps12
   go_wp2_with (first | ((with_reducible refine gate_callee (f := 14) rfl ?_); refine goesL_ (some 8) rfl rfl Tryd.func14 (by kernel_rfl) rfl #[.slice A0 l0.length c0] rfl (by (try simp only [List.map_toArray, List.map_cons, List.map_nil]); first | done | rfl | (simp only [List.length_drop, List.length_take]; rfl)) ?_; (with_reducible refine (lap_Right.calls k _ _ l0 true _ ?side1 ?side2 A3.out).mono ?_); (case side1 => repeat (first | exact HR0.out | (with_reducible refine Kd.C_alloc ?_ _) | (with_reducible refine Kd.C_drewN ?_ _) | (with_reducible refine Kd.C_drew ?_))); (case side2 => exact HC0.out); rintro e w' ⟨rfl, ⟨nd, rfl⟩⟩; refine ⟨_, rfl, ?_⟩) | (go_at_call 28; (with_reducible refine (lap_border.calls _ _ l0 a1 false _ ?side1 ?side2 A5.out).mono ?_); (case side1 => repeat (first | exact HR0.out | (with_reducible refine Kd.C_alloc ?_ _) | (with_reducible refine Kd.C_drewN ?_ _) | (with_reducible refine Kd.C_drew ?_))); (case side2 => exact HC0.out); rintro e w' ⟨rfl, ⟨nd, rfl⟩⟩))
   go_ret2
   exact ⟨_, by first | rfl | (simp [errW_none, errW_some] <;> rfl) | (simp [*, errW_none, errW_some] <;> rfl), by first | exact Kd.R_nil _ _ _ _ _ | exact Kd.N_nil _ _ _ _ _ | exact Kd.V_nil _ _ _ _ _ | exact Kd.Q_nil _ _ _ _ _ | exact Kd.S_nil _ _ _ _ _, by repeat (first | (with_reducible first | exact HB.out | apply ze | apply zd | apply zf) | exact HB.out)⟩
 ·
  replace c4 := Bool.eq_false_iff.mpr c4
  subst c4
  have H1 : (some (([] : List Int), 1)) = some (r1, r2) := by rw [if_neg (show ¬ (false = true) by decide)] at H; exact H
  clear H
  have H := H1
  clear H1
  simp only [Option.some.injEq, Prod.mk.injEq] at H
  obtain ⟨rfl, rfl⟩ := H
  go_enter Tryd.func12, Tryd.ntmps12
  go_wp2_with (first | ((with_reducible refine gate_callee (f := 14) rfl ?_); refine goesL_ (some 8) rfl rfl Tryd.func14 (by kernel_rfl) rfl #[.slice A0 l0.length c0] rfl (by (try simp only [List.map_toArray, List.map_cons, List.map_nil]); first | done | rfl | (simp only [List.length_drop, List.length_take]; rfl)) ?_; (with_reducible refine (lap_Right.calls k _ _ l0 false _ ?side1 ?side2 A3.out).mono ?_); (case side1 => repeat (first | exact HR0.out | (with_reducible refine Kd.C_alloc ?_ _) | (with_reducible refine Kd.C_drewN ?_ _) | (with_reducible refine Kd.C_drew ?_))); (case side2 => exact HC0.out); rintro e w' ⟨rfl, ⟨nd, rfl⟩⟩; refine ⟨_, rfl, ?_⟩))
  go_ret2
  exact ⟨_, by first | rfl | (simp [errW_none, errW_some] <;> rfl) | (simp [*, errW_none, errW_some] <;> rfl), by first | exact Kd.R_nil _ _ _ _ _ | exact Kd.N_nil _ _ _ _ _ | exact Kd.V_nil _ _ _ _ _ | exact Kd.Q_nil _ _ _ _ _ | exact Kd.S_nil _ _ _ _ _, by repeat (first | (with_reducible first | exact HB.out | apply ze | apply zd | apply zf) | exact HB.out)⟩

end Go.Proofs.YtllchhcdpfiodaaDoor.Prt

namespace Go.Proofs.YtllchhcdpfiodaaDoor.Prt
open Go.RowKit Go.Proofs.YtllchhcdpfiodaaDoorW.PrintWords Go.Proofs.YtllchhcdpfiodaaDoorW.PrintLast Go.Proofs.YtllchhcdpfiodaaDoorW.PrintMore
attribute [local go_sem] max2_int min2_int max_two min_two max_three min_three max_four min_four   -- for this text's walks alone
set_option linter.unusedVariables false
set_option linter.unusedSimpArgs false

/-! ### psalteryref07_Same: function 16 -/
def psalteryref07_Same.l0 : Nat → List Int → List Int → Int → Option (Bool)
 | 0, _, _, _ => none
 | k + 1, x0, x1, x5 => if x5 < (x0.length : Int) then (if 0 ≤ x5 then (if x5 < (x1.length : Int) then (if (rd x0 x5) = (rd x1 x5) then (psalteryref07_Same.l0 k x0 x1 (wrap64 (x5 + 1))) else (some false)) else (none)) else (none)) else (some true)
def psalteryref07_Same.f (k : Nat) (l0 : List Int) (l1 : List Int) : Option (Bool) := if (l0.length : Int) = (l1.length : Int) then (psalteryref07_Same.l0 k l0 l1 0) else (some false)
theorem psalteryref07_Same.mono_l : ∀ k, (∀ y0 y1 y2, LeO (psalteryref07_Same.l0 k y0 y1 y2) (psalteryref07_Same.l0 (k + 1) y0 y1 y2))
 | 0 => fun _ _ _ r h => by simp [psalteryref07_Same.l0] at h
 | k + 1 => by
  have ih0 := psalteryref07_Same.mono_l k
  ·
   intro y0 y1 y2
   unfold psalteryref07_Same.l0
   repeat' first
   | (with_reducible exact ih0 _ _ _)
   | (with_reducible exact LeO.refl _)
   | (with_reducible exact LeO.none _)
   | (with_reducible refine LeO.ite ?_ ?_)
   | (with_reducible refine LeO.bind ?_ (fun _ => ?_))
   | exact ih0 _ _ _
   | exact LeO.none _
   | refine LeO.ite ?_ ?_
   | refine LeO.bind ?_ (fun _ => ?_)
theorem psalteryref07_Same.mono : ∀ a0 a1 k, LeO (psalteryref07_Same.f k a0 a1) (psalteryref07_Same.f (k + 1) a0 a1) := by
 intro a0 a1 k
 have ih0 := psalteryref07_Same.mono_l k
 unfold psalteryref07_Same.f
 repeat' first
   | (with_reducible exact ih0 _ _ _)
   | (with_reducible exact LeO.refl _)
   | (with_reducible exact LeO.none _)
   | (with_reducible refine LeO.ite ?_ ?_)
   | (with_reducible refine LeO.bind ?_ (fun _ => ?_))
   | exact ih0 _ _ _
   | exact LeO.none _
   | refine LeO.ite ?_ ?_
   | refine LeO.bind ?_ (fun _ => ?_)
set_option maxHeartbeats 8000000 in
set_option maxRecDepth 100000 in
theorem psalteryref07_Same.calls (k : Nat) (A0 : Option Addr) (c0 : Nat) (l0 : List Int) (A1 : Option Addr) (c1 : Nat) (l1 : List Int) (r : Bool) (w : World) (hr0 : Kd.C (Kd.int .i64) w A0 l0.length l0) (hc0 : l0.length ≤ c0) (hr1 : Kd.C (Kd.int .i64) w A1 l1.length l1) (hc1 : l1.length ≤ c1) (h : psalteryref07_Same.f k l0 l1 = some r) :
  Calls Tryd.prog 16 #[.slice A0 l0.length c0, .slice A1 l1.length c1] w fun e w' => e = .returned (.bool r) ∧ Drawn0 w w' := by
 have HR0 := zm hr0
 have HC0 := zm hc0
 clear hr0 hc0
 have HR1 := zm hr1
 have HC1 := zm hc1
 clear hr1 hc1
 have H : (if (l0.length : Int) = (l1.length : Int) then (psalteryref07_Same.l0 k l0 l1 0) else (some false)) = some r := h
 clear h
 by_cases c3 : (l0.length : Int) = (l1.length : Int)
 ·
  rw [if_pos c3] at H
  have c3b0 : ((l0.length : Int) == (l1.length : Int)) = true := beq_iff_eq.mpr c3
  have c3b1 : ((l0.length : Int) != (l1.length : Int)) = false := bne_eq_false_iff_eq.mpr c3
  have c3b2 : (l0.length == l1.length) = true := by first | simpa using c3 | (simp at c3 ⊢; omega)
  clear c3
  have H' := zm H
  clear H
  go_enter Tryd.func16, Tryd.ntmps16
  go_wp2
  repeat (go_quiet (fail); try go_wp2)
  go_loopg [5] k (fun kq v5 w' => ∃ (x5_1 : Int), v5 = .int .i64 x5_1 ∧ Aside0 (psalteryref07_Same.l0 kq l0 l1 x5_1 = some r) ∧ Aside0 (kq ≤ k) ∧ Drawn0 w w')
  case atStart => exact ⟨(0), (by first | rfl | (simp; done) | (simp [*]; done)), H', ⟨Nat.le_refl _⟩, by repeat (first | exact Drawn0.refl _ | apply Drawn0.step)⟩
  case round =>
   clear H'
   try clear c1
   try clear p2
   try clear c3
   try clear c3b0
   try clear c3b1
   try clear c3b2
   obtain ⟨x5_1, rfl, HA, HK1, ⟨m1, rfl⟩⟩ := hrel
   cases gk with
   | zero => exact absurd HA.out (by simp [psalteryref07_Same.l0])
   | succ k1 =>
    have H := HA.out
    clear HA
    simp only [psalteryref07_Same.l0] at H
    by_cases c4 : x5_1 < (l0.length : Int)
    ·
     rw [if_pos c4] at H
     have c4b0 : decide (x5_1 < (l0.length : Int)) = true := decide_eq_true c4
     clear c4
     by_cases c5 : 0 ≤ x5_1
     ·
      rw [if_pos c5] at H
      have c5b0 : decide (0 ≤ x5_1) = true := decide_eq_true c5
      clear c5
      by_cases c6 : x5_1 < (l1.length : Int)
      ·
       rw [if_pos c6] at H
       have c6b0 : decide (x5_1 < (l1.length : Int)) = true := decide_eq_true c6
       clear c6
       by_cases c7 : (rd l0 x5_1) = (rd l1 x5_1)
       ·
        rw [if_pos c7] at H
        have c7b0 : ((rd l0 x5_1) == (rd l1 x5_1)) = true := beq_iff_eq.mpr c7
        have c7b1 : ((rd l0 x5_1) != (rd l1 x5_1)) = false := bne_eq_false_iff_eq.mpr c7
        clear c7
        have H' := zm H
        clear H
        have p125 : 0 ≤ (x5_1 : Int) := of_decide_eq_true (by first | (with_reducible assumption) | assumption)
        have q125 : x5_1 < (l0.length : Int) := of_decide_eq_true (by first | (with_reducible assumption) | assumption)
        obtain ⟨ad125, e125, hx125_0⟩ := Kd.at_int HR0.out x5_1 p125 q125
        cases e125
        replace p125 := eq_true p125
        replace q125 := eq_true q125
        have p126 : 0 ≤ (x5_1 : Int) := of_decide_eq_true (by first | (with_reducible assumption) | assumption)
        have q126 : x5_1 < (l1.length : Int) := of_decide_eq_true (by first | (with_reducible assumption) | assumption)
        obtain ⟨ad126, e126, hx126_0⟩ := Kd.at_int HR1.out x5_1 p126 q126
        cases e126
        replace p126 := eq_true p126
        replace q126 := eq_true q126
        go_wp2
        repeat (go_quiet (fail); try go_wp2)
        go_roundg k1
        case measure => have := HK1.out; omega
        case rel => exact ⟨(wrap64 (x5_1 + 1)), (by first | rfl | (simp; done) | (simp [*]; done)), H', ⟨by have := HK1.out; omega⟩, by repeat (first | exact Drawn0.refl _ | apply Drawn0.step)⟩
       ·
        rw [if_neg c7] at H
        have c7b0 : ((rd l0 x5_1) == (rd l1 x5_1)) = false := beq_eq_false_iff_ne.mpr c7
        have c7b1 : ((rd l0 x5_1) != (rd l1 x5_1)) = true := bne_iff_ne.mpr c7
        obtain rfl := Option.some.inj H
        have p125 : 0 ≤ (x5_1 : Int) := of_decide_eq_true (by first | (with_reducible assumption) | assumption)
        have q125 : x5_1 < (l0.length : Int) := of_decide_eq_true (by first | (with_reducible assumption) | assumption)
        obtain ⟨ad125, e125, hx125_0⟩ := Kd.at_int HR0.out x5_1 p125 q125
        cases e125
        replace p125 := eq_true p125
        replace q125 := eq_true q125
        have p126 : 0 ≤ (x5_1 : Int) := of_decide_eq_true (by first | (with_reducible assumption) | assumption)
        have q126 : x5_1 < (l1.length : Int) := of_decide_eq_true (by first | (with_reducible assumption) | assumption)
        obtain ⟨ad126, e126, hx126_0⟩ := Kd.at_int HR1.out x5_1 p126 q126
        cases e126
        replace p126 := eq_true p126
        replace q126 := eq_true q126
        go_wp2
        repeat (go_quiet (fail); try go_wp2)
        go_ret
        exact ⟨by first | rfl | (simp; done) | (simp [*]; done), by repeat (first | exact Drawn0.refl _ | apply Drawn0.step)⟩
      ·
       rw [if_neg c6] at H
       exact absurd H (by simp)
     ·
      rw [if_neg c5] at H
      exact absurd H (by simp)
    ·
     rw [if_neg c4] at H
     have c4b0 : decide (x5_1 < (l0.length : Int)) = false := decide_eq_false c4
     clear c4
     obtain rfl := Option.some.inj H
     go_wp2
     repeat (go_quiet (fail); try go_wp2)
     go_ret
     exact ⟨by first | rfl | (simp; done) | (simp [*]; done), by repeat (first | exact Drawn0.refl _ | apply Drawn0.step)⟩
 ·
  rw [if_neg c3] at H
  have c3b0 : ((l0.length : Int) == (l1.length : Int)) = false := beq_eq_false_iff_ne.mpr c3
  have c3b1 : ((l0.length : Int) != (l1.length : Int)) = true := bne_iff_ne.mpr c3
  have c3b2 : (l0.length == l1.length) = false := by first | simpa using c3 | (simp at c3 ⊢; omega)
  obtain rfl := Option.some.inj H
  go_enter Tryd.func16, Tryd.ntmps16
  go_wp2
  repeat (go_quiet (fail); try go_wp2)
  go_ret
  exact ⟨by first | rfl | (simp; done) | (simp [*]; done), by repeat (first | exact Drawn0.refl _ | apply Drawn0.step)⟩

end Go.Proofs.YtllchhcdpfiodaaDoor.Prt

namespace Go.Proofs.YtllchhcdpfiodaaDoor.Prt
open Go.RowKit Go.Proofs.YtllchhcdpfiodaaDoorW.PrintWords Go.Proofs.YtllchhcdpfiodaaDoorW.PrintLast Go.Proofs.YtllchhcdpfiodaaDoorW.PrintMore
attribute [local go_sem] max2_int min2_int max_two min_two max_three min_three max_four min_four   -- for this text's walks alone
set_option linter.unusedVariables false
set_option linter.unusedSimpArgs false

/-! ### psalterylaw09_knows: function 11 -/
def psalterylaw09_knows.f (k : Nat)  : Option (Bool) := (some (([0, 0, 0, 16, 16, 0, 0, 0] : List Int) : List Int)).bind fun y232 => ((lap_Turn.f k y232 4).bind fun bt235 => ((lap_Back.f k bt235.1 4).bind fun bt239 => ((lap_Frames.f k y232 8).bind fun bt243 => ((lap_Signal.f k bt243.1 8).bind fun bt247 => ((psalteryref07_Same.f k bt235.1 (([0, 0, 0, 19, 9, 0, 0, 0] : List Int))).bind fun t254 => (if t254 = true then (if bt235.2 = 0 then ((psalteryref07_Same.f k bt239.1 y232).bind fun t255 => (if t255 = true then (if bt239.2 = 0 then (if (bt243.1.length : Int) = 1 then (if bt243.2 = 0 then ((psalteryref07_Same.f k bt247.1 y232).bind fun t256 => (if t256 = true then (if bt247.2 = 0 then ((lap_Right.f k y232).bind fun t257 => (some t257)) else (none)) else (none))) else (none)) else (none)) else (none)) else (none))) else (none)) else (none)))))))
theorem psalterylaw09_knows.mono : ∀ k, LeO (psalterylaw09_knows.f k ) (psalterylaw09_knows.f (k + 1) ) := by
 intro  k
 unfold psalterylaw09_knows.f
 repeat' first
   | (with_reducible exact lap_Back.mono _ _ _)
   | (with_reducible exact lap_Frames.mono _ _ _)
   | (with_reducible exact lap_Right.mono _ _)
   | (with_reducible exact lap_Signal.mono _ _ _)
   | (with_reducible exact lap_Turn.mono _ _ _)
   | (with_reducible exact psalteryref07_Same.mono _ _ _)
   | (with_reducible exact LeO.refl _)
   | (with_reducible exact LeO.none _)
   | (with_reducible refine LeO.ite ?_ ?_)
   | (with_reducible refine LeO.bind ?_ (fun _ => ?_))
   | exact lap_Back.mono _ _ _
   | exact lap_Frames.mono _ _ _
   | exact lap_Right.mono _ _
   | exact lap_Signal.mono _ _ _
   | exact lap_Turn.mono _ _ _
   | exact psalteryref07_Same.mono _ _ _
   | exact LeO.none _
   | refine LeO.ite ?_ ?_
   | refine LeO.bind ?_ (fun _ => ?_)
set_option maxHeartbeats 8000000 in
set_option maxRecDepth 100000 in
theorem psalterylaw09_knows.calls (k : Nat)  (r : Bool) (w : World) (hg : GW w) (h : psalterylaw09_knows.f k  = some r) :
  Calls Tryd.prog 11 #[] w fun e w' => e = .returned (.bool r) ∧ Below w.heap.size w w' := by
 have HG := zm hg
 clear hg
 have HB := zm (Below.refl w.heap.size w)
 have H : ((some (([0, 0, 0, 16, 16, 0, 0, 0] : List Int) : List Int)).bind fun y232 => ((lap_Turn.f k y232 4).bind fun bt235 => ((lap_Back.f k bt235.1 4).bind fun bt239 => ((lap_Frames.f k y232 8).bind fun bt243 => ((lap_Signal.f k bt243.1 8).bind fun bt247 => ((psalteryref07_Same.f k bt235.1 (([0, 0, 0, 19, 9, 0, 0, 0] : List Int))).bind fun t254 => (if t254 = true then (if bt235.2 = 0 then ((psalteryref07_Same.f k bt239.1 y232).bind fun t255 => (if t255 = true then (if bt239.2 = 0 then (if (bt243.1.length : Int) = 1 then (if bt243.2 = 0 then ((psalteryref07_Same.f k bt247.1 y232).bind fun t256 => (if t256 = true then (if bt247.2 = 0 then ((lap_Right.f k y232).bind fun t257 => (some t257)) else (none)) else (none))) else (none)) else (none)) else (none)) else (none))) else (none)) else (none)))))))) = some r := h
 clear h
 obtain ⟨y232, hy232⟩ : ∃ y_ : List Int, y_ = (([0, 0, 0, 16, 16, 0, 0, 0] : List Int)) := ⟨_, rfl⟩
 replace H : ((lap_Turn.f k y232 4).bind fun bt235 => ((lap_Back.f k bt235.1 4).bind fun bt239 => ((lap_Frames.f k y232 8).bind fun bt243 => ((lap_Signal.f k bt243.1 8).bind fun bt247 => ((psalteryref07_Same.f k bt235.1 (([0, 0, 0, 19, 9, 0, 0, 0] : List Int))).bind fun t254 => (if t254 = true then (if bt235.2 = 0 then ((psalteryref07_Same.f k bt239.1 y232).bind fun t255 => (if t255 = true then (if bt239.2 = 0 then (if (bt243.1.length : Int) = 1 then (if bt243.2 = 0 then ((psalteryref07_Same.f k bt247.1 y232).bind fun t256 => (if t256 = true then (if bt247.2 = 0 then ((lap_Right.f k y232).bind fun t257 => (some t257)) else (none)) else (none))) else (none)) else (none)) else (none)) else (none))) else (none)) else (none))))))) = some r := by first | (rw [hy232]; with_reducible exact H) | (have H2_ := (Option.bind_some _ _).symm.trans H; rw [hy232]; with_reducible exact H2_) | (have H2_ := (Option.bind_some _ _).symm.trans H; with_reducible exact H2_) | with_reducible exact H | (rw [hy232]; exact H) | exact H
 have Ny232 := zm hy232
 clear hy232
 replace H := Option.bind_eq_some_iff.mp H
 obtain ⟨⟨t235, t236⟩, A10, H⟩ := H
 replace H : ((lap_Back.f k t235 4).bind fun bt239 => ((lap_Frames.f k y232 8).bind fun bt243 => ((lap_Signal.f k bt243.1 8).bind fun bt247 => ((psalteryref07_Same.f k t235 (([0, 0, 0, 19, 9, 0, 0, 0] : List Int))).bind fun t254 => (if t254 = true then (if t236 = 0 then ((psalteryref07_Same.f k bt239.1 y232).bind fun t255 => (if t255 = true then (if bt239.2 = 0 then (if (bt243.1.length : Int) = 1 then (if bt243.2 = 0 then ((psalteryref07_Same.f k bt247.1 y232).bind fun t256 => (if t256 = true then (if bt247.2 = 0 then ((lap_Right.f k y232).bind fun t257 => (some t257)) else (none)) else (none))) else (none)) else (none)) else (none)) else (none))) else (none)) else (none)))))) = some r := H
 have A1 := zm A10
 clear A10
 replace H := Option.bind_eq_some_iff.mp H
 obtain ⟨⟨t239, t240⟩, A20, H⟩ := H
 replace H : ((lap_Frames.f k y232 8).bind fun bt243 => ((lap_Signal.f k bt243.1 8).bind fun bt247 => ((psalteryref07_Same.f k t235 (([0, 0, 0, 19, 9, 0, 0, 0] : List Int))).bind fun t254 => (if t254 = true then (if t236 = 0 then ((psalteryref07_Same.f k t239 y232).bind fun t255 => (if t255 = true then (if t240 = 0 then (if (bt243.1.length : Int) = 1 then (if bt243.2 = 0 then ((psalteryref07_Same.f k bt247.1 y232).bind fun t256 => (if t256 = true then (if bt247.2 = 0 then ((lap_Right.f k y232).bind fun t257 => (some t257)) else (none)) else (none))) else (none)) else (none)) else (none)) else (none))) else (none)) else (none))))) = some r := H
 have A2 := zm A20
 clear A20
 replace H := Option.bind_eq_some_iff.mp H
 obtain ⟨⟨t243, t244⟩, A30, H⟩ := H
 replace H : ((lap_Signal.f k t243 8).bind fun bt247 => ((psalteryref07_Same.f k t235 (([0, 0, 0, 19, 9, 0, 0, 0] : List Int))).bind fun t254 => (if t254 = true then (if t236 = 0 then ((psalteryref07_Same.f k t239 y232).bind fun t255 => (if t255 = true then (if t240 = 0 then (if (t243.length : Int) = 1 then (if t244 = 0 then ((psalteryref07_Same.f k bt247.1 y232).bind fun t256 => (if t256 = true then (if bt247.2 = 0 then ((lap_Right.f k y232).bind fun t257 => (some t257)) else (none)) else (none))) else (none)) else (none)) else (none)) else (none))) else (none)) else (none)))) = some r := H
 have A3 := zm A30
 clear A30
 replace H := Option.bind_eq_some_iff.mp H
 obtain ⟨⟨t247, t248⟩, A40, H⟩ := H
 replace H : ((psalteryref07_Same.f k t235 (([0, 0, 0, 19, 9, 0, 0, 0] : List Int))).bind fun t254 => (if t254 = true then (if t236 = 0 then ((psalteryref07_Same.f k t239 y232).bind fun t255 => (if t255 = true then (if t240 = 0 then (if (t243.length : Int) = 1 then (if t244 = 0 then ((psalteryref07_Same.f k t247 y232).bind fun t256 => (if t256 = true then (if t248 = 0 then ((lap_Right.f k y232).bind fun t257 => (some t257)) else (none)) else (none))) else (none)) else (none)) else (none)) else (none))) else (none)) else (none))) = some r := H
 have A4 := zm A40
 clear A40
 obtain ⟨y251, hy251⟩ : ∃ y_ : List Int, y_ = (([0, 0, 0, 19, 9, 0, 0, 0] : List Int)) := ⟨_, rfl⟩
 replace H : ((psalteryref07_Same.f k t235 y251).bind fun t254 => (if t254 = true then (if t236 = 0 then ((psalteryref07_Same.f k t239 y232).bind fun t255 => (if t255 = true then (if t240 = 0 then (if (t243.length : Int) = 1 then (if t244 = 0 then ((psalteryref07_Same.f k t247 y232).bind fun t256 => (if t256 = true then (if t248 = 0 then ((lap_Right.f k y232).bind fun t257 => (some t257)) else (none)) else (none))) else (none)) else (none)) else (none)) else (none))) else (none)) else (none))) = some r := by first | (rw [hy251]; with_reducible exact H) | (have H2_ := (Option.bind_some _ _).symm.trans H; rw [hy251]; with_reducible exact H2_) | (have H2_ := (Option.bind_some _ _).symm.trans H; with_reducible exact H2_) | with_reducible exact H | (rw [hy251]; exact H) | exact H
 have Ny251 := zm hy251
 clear hy251
 replace H := Option.bind_eq_some_iff.mp H
 obtain ⟨t254, A50, H⟩ := H
 replace H : (if t254 = true then (if t236 = 0 then ((psalteryref07_Same.f k t239 y232).bind fun t255 => (if t255 = true then (if t240 = 0 then (if (t243.length : Int) = 1 then (if t244 = 0 then ((psalteryref07_Same.f k t247 y232).bind fun t256 => (if t256 = true then (if t248 = 0 then ((lap_Right.f k y232).bind fun t257 => (some t257)) else (none)) else (none))) else (none)) else (none)) else (none)) else (none))) else (none)) else (none)) = some r := H
 have A5 := zm A50
 clear A50
 by_cases c6 : t254 = true
 ·
  subst c6
  have H1 : (if t236 = 0 then ((psalteryref07_Same.f k t239 y232).bind fun t255 => (if t255 = true then (if t240 = 0 then (if (t243.length : Int) = 1 then (if t244 = 0 then ((psalteryref07_Same.f k t247 y232).bind fun t256 => (if t256 = true then (if t248 = 0 then ((lap_Right.f k y232).bind fun t257 => (some t257)) else (none)) else (none))) else (none)) else (none)) else (none)) else (none))) else (none)) = some r := by rw [if_pos rfl] at H; exact H
  clear H
  have H := H1
  clear H1
  by_cases c7 : t236 = 0
  ·
   rw [if_pos c7] at H
   have c7b0 : (t236 == 0) = true := beq_iff_eq.mpr c7
   have c7b1 : (t236 != 0) = false := bne_eq_false_iff_eq.mpr c7
   clear c7
   replace H := Option.bind_eq_some_iff.mp H
   obtain ⟨t255, A80, H⟩ := H
   replace H : (if t255 = true then (if t240 = 0 then (if (t243.length : Int) = 1 then (if t244 = 0 then ((psalteryref07_Same.f k t247 y232).bind fun t256 => (if t256 = true then (if t248 = 0 then ((lap_Right.f k y232).bind fun t257 => (some t257)) else (none)) else (none))) else (none)) else (none)) else (none)) else (none)) = some r := H
   have A8 := zm A80
   clear A80
   by_cases c9 : t255 = true
   ·
    subst c9
    have H1 : (if t240 = 0 then (if (t243.length : Int) = 1 then (if t244 = 0 then ((psalteryref07_Same.f k t247 y232).bind fun t256 => (if t256 = true then (if t248 = 0 then ((lap_Right.f k y232).bind fun t257 => (some t257)) else (none)) else (none))) else (none)) else (none)) else (none)) = some r := by rw [if_pos rfl] at H; exact H
    clear H
    have H := H1
    clear H1
    by_cases c10 : t240 = 0
    ·
     rw [if_pos c10] at H
     have c10b0 : (t240 == 0) = true := beq_iff_eq.mpr c10
     have c10b1 : (t240 != 0) = false := bne_eq_false_iff_eq.mpr c10
     clear c10
     by_cases c11 : (t243.length : Int) = 1
     ·
      rw [if_pos c11] at H
      have c11b0 : ((t243.length : Int) == 1) = true := beq_iff_eq.mpr c11
      have c11b1 : ((t243.length : Int) != 1) = false := bne_eq_false_iff_eq.mpr c11
      clear c11
      by_cases c12 : t244 = 0
      ·
       rw [if_pos c12] at H
       have c12b0 : (t244 == 0) = true := beq_iff_eq.mpr c12
       have c12b1 : (t244 != 0) = false := bne_eq_false_iff_eq.mpr c12
       clear c12
       replace H := Option.bind_eq_some_iff.mp H
       obtain ⟨t256, A130, H⟩ := H
       replace H : (if t256 = true then (if t248 = 0 then ((lap_Right.f k y232).bind fun t257 => (some t257)) else (none)) else (none)) = some r := H
       have A13 := zm A130
       clear A130
       by_cases c14 : t256 = true
       ·
        subst c14
        have H1 : (if t248 = 0 then ((lap_Right.f k y232).bind fun t257 => (some t257)) else (none)) = some r := by rw [if_pos rfl] at H; exact H
        clear H
        have H := H1
        clear H1
        by_cases c15 : t248 = 0
        ·
         rw [if_pos c15] at H
         have c15b0 : (t248 == 0) = true := beq_iff_eq.mpr c15
         have c15b1 : (t248 != 0) = false := bne_eq_false_iff_eq.mpr c15
         clear c15
         replace H := Option.bind_eq_some_iff.mp H
         obtain ⟨t257, A160, H⟩ := H
         replace H : (some t257) = some r := H
         have A16 := zm A160
         clear A160
         obtain rfl := Option.some.inj H
         go_enter Tryd.func11, Tryd.ntmps11
         go_wp2_with (first | ((with_reducible refine gate_dst (N := 10) rfl ?_); (try (refine gate_guard (by rfl) ?_; dsimp only)); refine Kd.R_lit (Kd.int .i64) _ 2 ?hg (N := 10) ?hd (xs := ([0, 0, 0, 16, 16, 0, 0, 0] : List Int)) (inner := [.int .i64 0, .int .i64 0, .int .i64 0, .int .i64 16, .int .i64 16, .int .i64 0, .int .i64 0, .int .i64 0]) (ok := fun _ => True) (okp := fun _ => True) ?hr ?hp (fun _ hk => hk) trivial (Below.refl _ _) (Nat.le_refl _) (by simp) ?_; (case hd => rfl); (case hg => rfl); (case hr => first | (go_simp; done) | (go_simp; rfl)); (case hp => exact (Reps.one (show Kd.M (Kd.int .i64) _ _ _ 0 [.int .i64 0] from rfl) (Reps.one (show Kd.M (Kd.int .i64) _ _ _ 0 [.int .i64 0] from rfl) (Reps.one (show Kd.M (Kd.int .i64) _ _ _ 0 [.int .i64 0] from rfl) (Reps.one (show Kd.M (Kd.int .i64) _ _ _ 16 [.int .i64 16] from rfl) (Reps.one (show Kd.M (Kd.int .i64) _ _ _ 16 [.int .i64 16] from rfl) (Reps.one (show Kd.M (Kd.int .i64) _ _ _ 0 [.int .i64 0] from rfl) (Reps.one (show Kd.M (Kd.int .i64) _ _ _ 0 [.int .i64 0] from rfl) (Reps.one (show Kd.M (Kd.int .i64) _ _ _ 0 [.int .i64 0] from rfl) (Reps.none _ _)))))))))); intro v233 w17 ho18 hb hg_ hnew_; clear hg_ hnew_; (first | rw [← Ny232.out] at ho18 | (simp only [Int.reduceToNat] at ho18; rw [← Ny232.out] at ho18)); have n0_ := zm (Kd.R_lower ho18 (zE (by repeat (first | (with_reducible first | exact HB.out | apply ze | apply zd | apply zf) | exact HB.out)))); have n1_ := zm (zJ (by repeat (first | (with_reducible first | exact HB.out | apply ze | apply zd | apply zf) | exact HB.out)) hb); clear HB; have HO234 := n0_; have HB := n1_; clear n0_ n1_; clear hb ho18; obtain ⟨Ao19, co19, eo19⟩ := Kd.R_slice HO234.out; subst eo19) | ((with_reducible refine gate_callee (f := 12) rfl ?_); refine goesL_ (some 13) rfl rfl Tryd.func12 (by kernel_rfl) rfl #[.slice Ao19 y232.length co19, .int .i64 4] rfl (by (try simp only [List.map_toArray, List.map_cons, List.map_nil]); first | done | rfl | (simp only [List.length_drop, List.length_take]; rfl)) ?_; (with_reducible refine (lap_Turn.calls k _ _ y232 4 t235 t236 _ ?side1 ?side2 ?sideg A1.out).mono ?_); (case sideg => exact HG.out.below (by repeat (first | (with_reducible first | exact HB.out | apply ze | apply zd | apply zf) | exact HB.out))); (case side1 => repeat (first | exact (Kd.R_reads' HO234.out).2.2 | (with_reducible refine Kd.C_alloc ?_ _) | (with_reducible refine Kd.C_drewN ?_ _) | (with_reducible refine Kd.C_drew ?_))); (case side2 => exact (Kd.R_reads' HO234.out).2.1); rintro e w20 ⟨v237, rfl, ho0, hb⟩; refine ⟨_, rfl, ?_⟩; have n0_ := zm (Kd.R_elder' (by (with_reducible repeat (first | apply zo | apply zp | apply zq)); exact HO234.out) (Kd.R_base ho0) hb); have n1_ := zm (Kd.R_lower (Kd.R_new' ho0 (Kd.R_lt (by (with_reducible repeat (first | apply zo | apply zp | apply zq)); exact HO234.out))) (zE (by repeat (first | (with_reducible first | exact HB.out | apply ze | apply zd | apply zf) | exact HB.out)))); have n2_ := zm (zJ (by repeat (first | (with_reducible first | exact HB.out | apply ze | apply zd | apply zf) | exact HB.out)) hb); clear HO234; clear HB; have HO234 := n0_; have HO238 := n1_; have HB := n2_; clear n0_ n1_ n2_; (try clear hb); (try clear hb2); (try clear hk); (try clear hi); (try clear ho0); obtain ⟨Ao21, co21, eo21⟩ := Kd.R_slice HO238.out; subst eo21) | ((with_reducible refine gate_callee (f := 18) rfl ?_); refine goesL_ (some 18) rfl rfl Tryd.func18 (by kernel_rfl) rfl #[.slice Ao21 t235.length co21, .int .i64 4] rfl (by (try simp only [List.map_toArray, List.map_cons, List.map_nil]); first | done | rfl | (simp only [List.length_drop, List.length_take]; rfl)) ?_; (with_reducible refine (lap_Back.calls k _ _ t235 4 t239 t240 _ ?side1 ?side2 ?sideg A2.out).mono ?_); (case sideg => exact HG.out.below (by repeat (first | (with_reducible first | exact HB.out | apply ze | apply zd | apply zf) | exact HB.out))); (case side1 => repeat (first | exact (Kd.R_reads' HO238.out).2.2 | (with_reducible refine Kd.C_alloc ?_ _) | (with_reducible refine Kd.C_drewN ?_ _) | (with_reducible refine Kd.C_drew ?_))); (case side2 => exact (Kd.R_reads' HO238.out).2.1); rintro e w22 ⟨v241, rfl, ho0, hb⟩; refine ⟨_, rfl, ?_⟩; have n0_ := zm (Kd.R_elder' (by (with_reducible repeat (first | apply zo | apply zp | apply zq)); exact HO234.out) (Kd.R_base ho0) hb); have n1_ := zm (Kd.R_elder' (by (with_reducible repeat (first | apply zo | apply zp | apply zq)); exact HO238.out) (Kd.R_base ho0) hb); have n2_ := zm (Kd.R_lower (Kd.R_new' (Kd.R_new' ho0 (Kd.R_lt (by (with_reducible repeat (first | apply zo | apply zp | apply zq)); exact HO234.out))) (Kd.R_lt (by (with_reducible repeat (first | apply zo | apply zp | apply zq)); exact HO238.out))) (zE (by repeat (first | (with_reducible first | exact HB.out | apply ze | apply zd | apply zf) | exact HB.out)))); have n3_ := zm (zJ (by repeat (first | (with_reducible first | exact HB.out | apply ze | apply zd | apply zf) | exact HB.out)) hb); clear HO234; clear HO238; clear HB; have HO234 := n0_; have HO238 := n1_; have HO242 := n2_; have HB := n3_; clear n0_ n1_ n2_ n3_; (try clear hb); (try clear hb2); (try clear hk); (try clear hi); (try clear ho0)) | ((with_reducible refine gate_callee (f := 20) rfl ?_); refine goesL_ (some 23) rfl rfl Tryd.func20 (by kernel_rfl) rfl #[.slice Ao19 y232.length co19, .int .i64 8] rfl (by (try simp only [List.map_toArray, List.map_cons, List.map_nil]); first | done | rfl | (simp only [List.length_drop, List.length_take]; rfl)) ?_; (with_reducible refine (lap_Frames.calls k _ _ y232 8 t243 t244 _ ?side1 ?side2 ?sideg A3.out).mono ?_); (case sideg => exact HG.out.below (by repeat (first | (with_reducible first | exact HB.out | apply ze | apply zd | apply zf) | exact HB.out))); (case side1 => repeat (first | exact (Kd.R_reads' HO234.out).2.2 | (with_reducible refine Kd.C_alloc ?_ _) | (with_reducible refine Kd.C_drewN ?_ _) | (with_reducible refine Kd.C_drew ?_))); (case side2 => exact (Kd.R_reads' HO234.out).2.1); rintro e w23 ⟨v245, rfl, ho0, hb⟩; refine ⟨_, rfl, ?_⟩; have n0_ := zm (Kd.R_below (by (with_reducible repeat (first | apply zo | apply zp | apply zq)); exact HO234.out) hb); have n1_ := zm (Kd.R_below (by (with_reducible repeat (first | apply zo | apply zp | apply zq)); exact HO238.out) hb); have n2_ := zm (Kd.R_below (by (with_reducible repeat (first | apply zo | apply zp | apply zq)); exact HO242.out) hb); have n3_ := zm (Kd.S_lower (Kd.S_new' (Kd.S_new' (Kd.S_new' ho0 (Kd.R_lt (by (with_reducible repeat (first | apply zo | apply zp | apply zq)); exact HO234.out))) (Kd.R_lt (by (with_reducible repeat (first | apply zo | apply zp | apply zq)); exact HO238.out))) (Kd.R_lt (by (with_reducible repeat (first | apply zo | apply zp | apply zq)); exact HO242.out))) (zE (by repeat (first | (with_reducible first | exact HB.out | apply ze | apply zd | apply zf) | exact HB.out)))); have n4_ := zm (zJ (by repeat (first | (with_reducible first | exact HB.out | apply ze | apply zd | apply zf) | exact HB.out)) hb); clear HO234; clear HO238; clear HO242; clear HB; have HO234 := n0_; have HO238 := n1_; have HO242 := n2_; have HO246 := n3_; have HB := n4_; clear n0_ n1_ n2_ n3_ n4_; (try clear hb); (try clear hb2); (try clear hk); (try clear hi); (try clear ho0); obtain ⟨Ao24, co24, eo24⟩ := Kd.S_slice HO246.out; subst eo24) | ((with_reducible refine gate_callee (f := 24) rfl ?_); refine goesL_ (some 28) rfl rfl Tryd.func24 (by kernel_rfl) rfl #[.slice Ao24 t243.length co24, .int .i64 8] rfl (by (try simp only [List.map_toArray, List.map_cons, List.map_nil]); first | done | rfl | (simp only [List.length_drop, List.length_take]; rfl)) ?_; (with_reducible refine (lap_Signal.calls k _ _ t243 8 t247 t248 _ ?side1 ?side2 ?sideg A4.out).mono ?_); (case sideg => exact HG.out.below (by repeat (first | (with_reducible first | exact HB.out | apply ze | apply zd | apply zf) | exact HB.out))); (case side1 => repeat (first | exact (Kd.S_reads' HO246.out).2.2 | (with_reducible refine Kd.C_alloc ?_ _) | (with_reducible refine Kd.C_drewN ?_ _) | (with_reducible refine Kd.C_drew ?_))); (case side2 => exact (Kd.S_reads' HO246.out).2.1); rintro e w25 ⟨v249, rfl, ho0, hb⟩; refine ⟨_, rfl, ?_⟩; have n0_ := zm (Kd.R_elder' (by (with_reducible repeat (first | apply zo | apply zp | apply zq)); exact HO234.out) (Kd.R_base ho0) hb); have n1_ := zm (Kd.R_elder' (by (with_reducible repeat (first | apply zo | apply zp | apply zq)); exact HO238.out) (Kd.R_base ho0) hb); have n2_ := zm (Kd.R_elder' (by (with_reducible repeat (first | apply zo | apply zp | apply zq)); exact HO242.out) (Kd.R_base ho0) hb); have n3_ := zm (Kd.S_elder' (by (with_reducible repeat (first | apply Kd.S_alloc | apply Kd.S_drewN | apply Kd.S_drew)); exact HO246.out) (Kd.R_base ho0) hb); have n4_ := zm (Kd.R_lower (Kd.R_new' (Kd.R_new' (Kd.R_new' ho0 (Kd.R_lt (by (with_reducible repeat (first | apply zo | apply zp | apply zq)); exact HO234.out))) (Kd.R_lt (by (with_reducible repeat (first | apply zo | apply zp | apply zq)); exact HO238.out))) (Kd.R_lt (by (with_reducible repeat (first | apply zo | apply zp | apply zq)); exact HO242.out))) (zE (by repeat (first | (with_reducible first | exact HB.out | apply ze | apply zd | apply zf) | exact HB.out)))); have n5_ := zm (zJ (by repeat (first | (with_reducible first | exact HB.out | apply ze | apply zd | apply zf) | exact HB.out)) hb); clear HO234; clear HO238; clear HO242; clear HO246; clear HB; have HO234 := n0_; have HO238 := n1_; have HO242 := n2_; have HO246 := n3_; have HO250 := n4_; have HB := n5_; clear n0_ n1_ n2_ n3_ n4_ n5_; (try clear hb); (try clear hb2); (try clear hk); (try clear hi); (try clear ho0)) | ((with_reducible refine gate_dst (N := 32) rfl ?_); (try (refine gate_guard (by rfl) ?_; dsimp only)); refine Kd.R_lit (Kd.int .i64) _ 2 ?hg (N := 32) ?hd (xs := ([0, 0, 0, 19, 9, 0, 0, 0] : List Int)) (inner := [.int .i64 0, .int .i64 0, .int .i64 0, .int .i64 19, .int .i64 9, .int .i64 0, .int .i64 0, .int .i64 0]) (ok := fun _ => True) (okp := fun _ => True) ?hr ?hp (fun _ hk => hk) trivial (Below.refl _ _) (Nat.le_refl _) (by simp) ?_; (case hd => rfl); (case hg => rfl); (case hr => first | (go_simp; done) | (go_simp; rfl)); (case hp => exact (Reps.one (show Kd.M (Kd.int .i64) _ _ _ 0 [.int .i64 0] from rfl) (Reps.one (show Kd.M (Kd.int .i64) _ _ _ 0 [.int .i64 0] from rfl) (Reps.one (show Kd.M (Kd.int .i64) _ _ _ 0 [.int .i64 0] from rfl) (Reps.one (show Kd.M (Kd.int .i64) _ _ _ 19 [.int .i64 19] from rfl) (Reps.one (show Kd.M (Kd.int .i64) _ _ _ 9 [.int .i64 9] from rfl) (Reps.one (show Kd.M (Kd.int .i64) _ _ _ 0 [.int .i64 0] from rfl) (Reps.one (show Kd.M (Kd.int .i64) _ _ _ 0 [.int .i64 0] from rfl) (Reps.one (show Kd.M (Kd.int .i64) _ _ _ 0 [.int .i64 0] from rfl) (Reps.none _ _)))))))))); intro v252 w26 ho27 hb hg_ hnew_; clear hg_ hnew_; (first | rw [← Ny251.out] at ho27 | (simp only [Int.reduceToNat] at ho27; rw [← Ny251.out] at ho27)); have n0_ := zm (Kd.R_elder' (by (with_reducible repeat (first | apply zo | apply zp | apply zq)); exact HO234.out) (Kd.R_base ho27) hb); have n1_ := zm (Kd.R_elder' (by (with_reducible repeat (first | apply zo | apply zp | apply zq)); exact HO238.out) (Kd.R_base ho27) hb); have n2_ := zm (Kd.R_elder' (by (with_reducible repeat (first | apply zo | apply zp | apply zq)); exact HO242.out) (Kd.R_base ho27) hb); have n3_ := zm (Kd.S_elder' (by (with_reducible repeat (first | apply Kd.S_alloc | apply Kd.S_drewN | apply Kd.S_drew)); exact HO246.out) (Kd.R_base ho27) hb); have n4_ := zm (Kd.R_elder' (by (with_reducible repeat (first | apply zo | apply zp | apply zq)); exact HO250.out) (Kd.R_base ho27) hb); have n5_ := zm (Kd.R_lower (Kd.R_new' (Kd.R_new' (Kd.R_new' (Kd.R_new' ho27 (Kd.R_lt (by (with_reducible repeat (first | apply zo | apply zp | apply zq)); exact HO234.out))) (Kd.R_lt (by (with_reducible repeat (first | apply zo | apply zp | apply zq)); exact HO238.out))) (Kd.R_lt (by (with_reducible repeat (first | apply zo | apply zp | apply zq)); exact HO242.out))) (Kd.R_lt (by (with_reducible repeat (first | apply zo | apply zp | apply zq)); exact HO250.out))) (zE (by repeat (first | (with_reducible first | exact HB.out | apply ze | apply zd | apply zf) | exact HB.out)))); have n6_ := zm (zJ (by repeat (first | (with_reducible first | exact HB.out | apply ze | apply zd | apply zf) | exact HB.out)) hb); clear HO234; clear HO238; clear HO242; clear HO246; clear HO250; clear HB; have HO234 := n0_; have HO238 := n1_; have HO242 := n2_; have HO246 := n3_; have HO250 := n4_; have HO253 := n5_; have HB := n6_; clear n0_ n1_ n2_ n3_ n4_ n5_ n6_; clear hb ho27; obtain ⟨Ao28, co28, eo28⟩ := Kd.R_slice HO253.out; subst eo28) | ((with_reducible refine gate_callee (f := 16) rfl ?_); refine goesL_ (some 33) rfl rfl Tryd.func16 (by kernel_rfl) rfl #[.slice Ao21 t235.length co21, .slice Ao28 y251.length co28] rfl (by (try simp only [List.map_toArray, List.map_cons, List.map_nil]); first | done | rfl | (simp only [List.length_drop, List.length_take]; rfl)) ?_; (with_reducible refine (psalteryref07_Same.calls k _ _ t235 _ _ y251 true _ ?side1 ?side2 ?side3 ?side4 A5.out).mono ?_); (case side1 => repeat (first | exact (Kd.R_reads' HO238.out).2.2 | (with_reducible refine Kd.C_alloc ?_ _) | (with_reducible refine Kd.C_drewN ?_ _) | (with_reducible refine Kd.C_drew ?_))); (case side2 => exact (Kd.R_reads' HO238.out).2.1); (case side3 => repeat (first | exact (Kd.R_reads' HO253.out).2.2 | (with_reducible refine Kd.C_alloc ?_ _) | (with_reducible refine Kd.C_drewN ?_ _) | (with_reducible refine Kd.C_drew ?_))); (case side4 => exact (Kd.R_reads' HO253.out).2.1); rintro e w' ⟨rfl, ⟨nd, rfl⟩⟩; refine ⟨_, rfl, ?_⟩; obtain ⟨Ao29, co29, eo29⟩ := Kd.R_slice HO242.out; subst eo29) | (go_at_call 16; (with_reducible refine (psalteryref07_Same.calls k _ _ t239 _ _ y232 true _ ?side1 ?side2 ?side3 ?side4 A8.out).mono ?_); (case side1 => repeat (first | exact (Kd.R_reads' HO242.out).2.2 | (with_reducible refine Kd.C_alloc ?_ _) | (with_reducible refine Kd.C_drewN ?_ _) | (with_reducible refine Kd.C_drew ?_))); (case side2 => exact (Kd.R_reads' HO242.out).2.1); (case side3 => repeat (first | exact (Kd.R_reads' HO234.out).2.2 | (with_reducible refine Kd.C_alloc ?_ _) | (with_reducible refine Kd.C_drewN ?_ _) | (with_reducible refine Kd.C_drew ?_))); (case side4 => exact (Kd.R_reads' HO234.out).2.1); rintro e w' ⟨rfl, ⟨nd, rfl⟩⟩; obtain ⟨Ao30, co30, eo30⟩ := Kd.R_slice HO250.out; subst eo30) | (go_at_call 16; (with_reducible refine (psalteryref07_Same.calls k _ _ t247 _ _ y232 true _ ?side1 ?side2 ?side3 ?side4 A13.out).mono ?_); (case side1 => repeat (first | exact (Kd.R_reads' HO250.out).2.2 | (with_reducible refine Kd.C_alloc ?_ _) | (with_reducible refine Kd.C_drewN ?_ _) | (with_reducible refine Kd.C_drew ?_))); (case side2 => exact (Kd.R_reads' HO250.out).2.1); (case side3 => repeat (first | exact (Kd.R_reads' HO234.out).2.2 | (with_reducible refine Kd.C_alloc ?_ _) | (with_reducible refine Kd.C_drewN ?_ _) | (with_reducible refine Kd.C_drew ?_))); (case side4 => exact (Kd.R_reads' HO234.out).2.1); rintro e w' ⟨rfl, ⟨nd, rfl⟩⟩) | (go_at_call 14; (with_reducible refine (lap_Right.calls k _ _ y232 t257 _ ?side1 ?side2 A16.out).mono ?_); (case side1 => repeat (first | exact (Kd.R_reads' HO234.out).2.2 | (with_reducible refine Kd.C_alloc ?_ _) | (with_reducible refine Kd.C_drewN ?_ _) | (with_reducible refine Kd.C_drew ?_))); (case side2 => exact (Kd.R_reads' HO234.out).2.1); rintro e w' ⟨rfl, ⟨nd, rfl⟩⟩))
         go_ret
         exact ⟨by first | rfl | (simp [errW_none, errW_some] <;> rfl) | (simp [*, errW_none, errW_some] <;> rfl), by repeat (first | (with_reducible first | exact HB.out | apply ze | apply zd | apply zf) | exact HB.out)⟩
        ·
         rw [if_neg c15] at H
         exact absurd H (by simp)
       ·
        replace c14 := Bool.eq_false_iff.mpr c14
        subst c14
        have H1 : (none) = some r := by rw [if_neg (show ¬ (false = true) by decide)] at H; exact H
        clear H
        have H := H1
        clear H1
        exact absurd H (by simp)
      ·
       rw [if_neg c12] at H
       exact absurd H (by simp)
     ·
      rw [if_neg c11] at H
      exact absurd H (by simp)
    ·
     rw [if_neg c10] at H
     exact absurd H (by simp)
   ·
    replace c9 := Bool.eq_false_iff.mpr c9
    subst c9
    have H1 : (none) = some r := by rw [if_neg (show ¬ (false = true) by decide)] at H; exact H
    clear H
    have H := H1
    clear H1
    exact absurd H (by simp)
  ·
   rw [if_neg c7] at H
   exact absurd H (by simp)
 ·
  replace c6 := Bool.eq_false_iff.mpr c6
  subst c6
  have H1 : (none) = some r := by rw [if_neg (show ¬ (false = true) by decide)] at H; exact H
  clear H
  have H := H1
  clear H1
  exact absurd H (by simp)

end Go.Proofs.YtllchhcdpfiodaaDoor.Prt

namespace Go.Proofs.YtllchhcdpfiodaaDoor.Prt
open Go.RowKit Go.Proofs.YtllchhcdpfiodaaDoorW.PrintWords Go.Proofs.YtllchhcdpfiodaaDoorW.PrintLast Go.Proofs.YtllchhcdpfiodaaDoorW.PrintMore
attribute [local go_sem] max2_int min2_int max_two min_two max_three min_three max_four min_four   -- for this text's walks alone
set_option linter.unusedVariables false
set_option linter.unusedSimpArgs false

/-! ### psalterylaw09_size: function 26 -/
def psalterylaw09_size.f (a0 : Int) : Option (Int) := if (Int.tmod a0 3) = 0 then (some 8) else (if (Int.tmod a0 3) = 1 then (some 16) else (some 32))
set_option maxHeartbeats 8000000 in
set_option maxRecDepth 100000 in
theorem psalterylaw09_size.calls (a0 : Int) (r : Int) (w : World) (h : psalterylaw09_size.f a0 = some r) :
  Calls Tryd.prog 26 #[.int .u8 a0] w fun e w' => e = .returned (.int .i64 r) ∧ Drawn0 w w' := by
 have H : (if (Int.tmod a0 3) = 0 then (some 8) else (if (Int.tmod a0 3) = 1 then (some 16) else (some 32))) = some r := h
 clear h
 by_cases c2 : (Int.tmod a0 3) = 0
 ·
  rw [if_pos c2] at H
  have c2b0 : ((Int.tmod a0 3) == 0) = true := beq_iff_eq.mpr c2
  have c2b1 : ((Int.tmod a0 3) != 0) = false := bne_eq_false_iff_eq.mpr c2
  clear c2
  obtain rfl := Option.some.inj H
  go_enter Tryd.func26, Tryd.ntmps26
  go_wp2
  go_ret
  exact ⟨by first | rfl | (simp; done) | (simp [*]; done), by repeat (first | exact Drawn0.refl _ | apply Drawn0.step)⟩
 ·
  rw [if_neg c2] at H
  have c2b0 : ((Int.tmod a0 3) == 0) = false := beq_eq_false_iff_ne.mpr c2
  have c2b1 : ((Int.tmod a0 3) != 0) = true := bne_iff_ne.mpr c2
  by_cases c3 : (Int.tmod a0 3) = 1
  ·
   rw [if_pos c3] at H
   have c3b0 : ((Int.tmod a0 3) == 1) = true := beq_iff_eq.mpr c3
   have c3b1 : ((Int.tmod a0 3) != 1) = false := bne_eq_false_iff_eq.mpr c3
   clear c3
   obtain rfl := Option.some.inj H
   go_enter Tryd.func26, Tryd.ntmps26
   go_wp2
   go_ret
   exact ⟨by first | rfl | (simp; done) | (simp [*]; done), by repeat (first | exact Drawn0.refl _ | apply Drawn0.step)⟩
  ·
   rw [if_neg c3] at H
   have c3b0 : ((Int.tmod a0 3) == 1) = false := beq_eq_false_iff_ne.mpr c3
   have c3b1 : ((Int.tmod a0 3) != 1) = true := bne_iff_ne.mpr c3
   obtain rfl := Option.some.inj H
   go_enter Tryd.func26, Tryd.ntmps26
   go_wp2
   go_ret
   exact ⟨by first | rfl | (simp; done) | (simp [*]; done), by repeat (first | exact Drawn0.refl _ | apply Drawn0.step)⟩

end Go.Proofs.YtllchhcdpfiodaaDoor.Prt

namespace Go.Proofs.YtllchhcdpfiodaaDoor.Prt
open Go.RowKit Go.Proofs.YtllchhcdpfiodaaDoorW.PrintWords Go.Proofs.YtllchhcdpfiodaaDoorW.PrintLast Go.Proofs.YtllchhcdpfiodaaDoorW.PrintMore
attribute [local go_sem] max2_int min2_int max_two min_two max_three min_three max_four min_four   -- for this text's walks alone
set_option linter.unusedVariables false
set_option linter.unusedSimpArgs false

/-! ### psalterylaw09_LapNear: function 9 -/
mutual
def psalterylaw09_LapNear.j0 : Nat → List Int → Int → Int → Int → Bool → Option (Bool)
 | 0, _, _, _, _, _ => none
 | k + 1, x0, x1, x2, x3, x36 => if x36 = true then ((psalterylaw09_knows.f k).bind fun t461 => (some t461)) else ((psalterylaw09_size.f x3).bind fun t462 => ((some (([] : List Int) : List Int)).bind fun y463 => (if y463.length + x0.length < 17592186044416 then ((some (y463 ++ x0 : List Int)).bind fun y466 => (if 0 ≤ x1 then (if x1 < (y466.length : Int) then ((lap_Frames.f k x0 t462).bind fun bt470 => ((lap_Frames.f k (y466.set (x1 : Int).toNat x2) t462).bind fun bt474 => (if bt470.2 = 0 then (if bt474.2 = 0 then (psalterylaw09_LapNear.j1 k x1 t462 bt470.1 bt474.1 ((bt470.1.length : Int) != (bt474.1.length : Int))) else (psalterylaw09_LapNear.j1 k x1 t462 bt470.1 bt474.1 true)) else ((psalterylaw09_knows.f k).bind fun t478 => (some t478))))) else (none)) else (none))) else (none))))
def psalterylaw09_LapNear.j1 : Nat → Int → Int → List (List Int) → List (List Int) → Bool → Option (Bool)
 | 0, _, _, _, _, _ => none
 | k + 1, x1, x9, x11, x13, x70 => if x70 = true then (none) else (psalterylaw09_LapNear.l0 k x1 x9 x11 x13 0)
def psalterylaw09_LapNear.l0 : Nat → Int → Int → List (List Int) → List (List Int) → Int → Option (Bool)
 | 0, _, _, _, _, _ => none
 | k + 1, x1, x9, x11, x13, x15 => if x15 < (x11.length : Int) then (if x1 ≥ (wrap64 ((wrap64 (x15 * x9)) - 4)) then (if (x1 < (wrap64 ((wrap64 ((wrap64 (x15 * x9)) + x9)) + 4))) then (psalterylaw09_LapNear.l0 k x1 x9 x11 x13 (wrap64 (x15 + 1))) else (if 0 ≤ x15 then (if x15 < (x13.length : Int) then ((psalteryref07_Same.f k (rd_L1 x11 x15) (rd_L1 x13 x15)).bind fun t481 => (if t481 = true then (psalterylaw09_LapNear.l0 k x1 x9 x11 x13 (wrap64 (x15 + 1))) else (none))) else (none)) else (none))) else (if 0 ≤ x15 then (if x15 < (x13.length : Int) then ((psalteryref07_Same.f k (rd_L1 x11 x15) (rd_L1 x13 x15)).bind fun t484 => (if t484 = true then (psalterylaw09_LapNear.l0 k x1 x9 x11 x13 (wrap64 (x15 + 1))) else (none))) else (none)) else (none))) else ((psalterylaw09_knows.f k).bind fun t485 => (some t485))
end
def psalterylaw09_LapNear.f (k : Nat) (l0 : List Int) (a1 : Int) (a2 : Int) (a3 : Int) : Option (Bool) := (psalterylaw09_great.f l0).bind fun t460 => (if t460 = true then (psalterylaw09_LapNear.j0 k l0 a1 a2 a3 true) else (if a1 < 0 then (psalterylaw09_LapNear.j0 k l0 a1 a2 a3 true) else (if a1 ≥ (l0.length : Int) then (psalterylaw09_LapNear.j0 k l0 a1 a2 a3 true) else (if a2 < (-262144) then (psalterylaw09_LapNear.j0 k l0 a1 a2 a3 true) else (psalterylaw09_LapNear.j0 k l0 a1 a2 a3 (decide (a2 > 262144)))))))
theorem psalterylaw09_LapNear.mono_l : ∀ k, (∀ y0 y1 y2 y3 y4, LeO (psalterylaw09_LapNear.j0 k y0 y1 y2 y3 y4) (psalterylaw09_LapNear.j0 (k + 1) y0 y1 y2 y3 y4)) ∧ (∀ y0 y1 y2 y3 y4, LeO (psalterylaw09_LapNear.j1 k y0 y1 y2 y3 y4) (psalterylaw09_LapNear.j1 (k + 1) y0 y1 y2 y3 y4)) ∧ (∀ y0 y1 y2 y3 y4, LeO (psalterylaw09_LapNear.l0 k y0 y1 y2 y3 y4) (psalterylaw09_LapNear.l0 (k + 1) y0 y1 y2 y3 y4))
 | 0 => ⟨fun _ _ _ _ _ r h => by simp [psalterylaw09_LapNear.j0] at h, fun _ _ _ _ _ r h => by simp [psalterylaw09_LapNear.j1] at h, fun _ _ _ _ _ r h => by simp [psalterylaw09_LapNear.l0] at h⟩
 | k + 1 => by
  obtain ⟨ih0, ih1, ih2⟩ := psalterylaw09_LapNear.mono_l k
  refine ⟨?_, ?_, ?_⟩
  ·
   intro y0 y1 y2 y3 y4
   unfold psalterylaw09_LapNear.j0
   repeat' first
   | (with_reducible exact ih0 _ _ _ _ _)
   | (with_reducible exact ih1 _ _ _ _ _)
   | (with_reducible exact ih2 _ _ _ _ _)
   | (with_reducible exact lap_Frames.mono _ _ _)
   | (with_reducible exact psalterylaw09_knows.mono _)
   | (with_reducible exact psalteryref07_Same.mono _ _ _)
   | (with_reducible exact LeO.refl _)
   | (with_reducible exact LeO.none _)
   | (with_reducible refine LeO.ite ?_ ?_)
   | (with_reducible refine LeO.bind ?_ (fun _ => ?_))
   | exact ih0 _ _ _ _ _
   | exact ih1 _ _ _ _ _
   | exact ih2 _ _ _ _ _
   | exact lap_Frames.mono _ _ _
   | exact psalterylaw09_knows.mono _
   | exact psalteryref07_Same.mono _ _ _
   | exact LeO.none _
   | refine LeO.ite ?_ ?_
   | refine LeO.bind ?_ (fun _ => ?_)
  ·
   intro y0 y1 y2 y3 y4
   unfold psalterylaw09_LapNear.j1
   repeat' first
   | (with_reducible exact ih0 _ _ _ _ _)
   | (with_reducible exact ih1 _ _ _ _ _)
   | (with_reducible exact ih2 _ _ _ _ _)
   | (with_reducible exact lap_Frames.mono _ _ _)
   | (with_reducible exact psalterylaw09_knows.mono _)
   | (with_reducible exact psalteryref07_Same.mono _ _ _)
   | (with_reducible exact LeO.refl _)
   | (with_reducible exact LeO.none _)
   | (with_reducible refine LeO.ite ?_ ?_)
   | (with_reducible refine LeO.bind ?_ (fun _ => ?_))
   | exact ih0 _ _ _ _ _
   | exact ih1 _ _ _ _ _
   | exact ih2 _ _ _ _ _
   | exact lap_Frames.mono _ _ _
   | exact psalterylaw09_knows.mono _
   | exact psalteryref07_Same.mono _ _ _
   | exact LeO.none _
   | refine LeO.ite ?_ ?_
   | refine LeO.bind ?_ (fun _ => ?_)
  ·
   intro y0 y1 y2 y3 y4
   unfold psalterylaw09_LapNear.l0
   repeat' first
   | (with_reducible exact ih0 _ _ _ _ _)
   | (with_reducible exact ih1 _ _ _ _ _)
   | (with_reducible exact ih2 _ _ _ _ _)
   | (with_reducible exact lap_Frames.mono _ _ _)
   | (with_reducible exact psalterylaw09_knows.mono _)
   | (with_reducible exact psalteryref07_Same.mono _ _ _)
   | (with_reducible exact LeO.refl _)
   | (with_reducible exact LeO.none _)
   | (with_reducible refine LeO.ite ?_ ?_)
   | (with_reducible refine LeO.bind ?_ (fun _ => ?_))
   | exact ih0 _ _ _ _ _
   | exact ih1 _ _ _ _ _
   | exact ih2 _ _ _ _ _
   | exact lap_Frames.mono _ _ _
   | exact psalterylaw09_knows.mono _
   | exact psalteryref07_Same.mono _ _ _
   | exact LeO.none _
   | refine LeO.ite ?_ ?_
   | refine LeO.bind ?_ (fun _ => ?_)
theorem psalterylaw09_LapNear.mono : ∀ a0 a1 a2 a3 k, LeO (psalterylaw09_LapNear.f k a0 a1 a2 a3) (psalterylaw09_LapNear.f (k + 1) a0 a1 a2 a3) := by
 intro a0 a1 a2 a3 k
 obtain ⟨ih0, ih1, ih2⟩ := psalterylaw09_LapNear.mono_l k
 unfold psalterylaw09_LapNear.f
 repeat' first
   | (with_reducible exact ih0 _ _ _ _ _)
   | (with_reducible exact ih1 _ _ _ _ _)
   | (with_reducible exact ih2 _ _ _ _ _)
   | (with_reducible exact lap_Frames.mono _ _ _)
   | (with_reducible exact psalterylaw09_knows.mono _)
   | (with_reducible exact psalteryref07_Same.mono _ _ _)
   | (with_reducible exact LeO.refl _)
   | (with_reducible exact LeO.none _)
   | (with_reducible refine LeO.ite ?_ ?_)
   | (with_reducible refine LeO.bind ?_ (fun _ => ?_))
   | exact ih0 _ _ _ _ _
   | exact ih1 _ _ _ _ _
   | exact ih2 _ _ _ _ _
   | exact lap_Frames.mono _ _ _
   | exact psalterylaw09_knows.mono _
   | exact psalteryref07_Same.mono _ _ _
   | exact LeO.none _
   | refine LeO.ite ?_ ?_
   | refine LeO.bind ?_ (fun _ => ?_)
set_option maxHeartbeats 8000000 in
set_option maxRecDepth 100000 in
theorem psalterylaw09_LapNear.calls (k : Nat) (A0 : Option Addr) (c0 : Nat) (l0 : List Int) (a1 : Int) (a2 : Int) (a3 : Int) (r : Bool) (w : World) (hr0 : Kd.C (Kd.int .i64) w A0 l0.length l0) (hc0 : l0.length ≤ c0) (hg : GW w) (h : psalterylaw09_LapNear.f k l0 a1 a2 a3 = some r) :
  Calls Tryd.prog 9 #[.slice A0 l0.length c0, .int .i64 a1, .int .i64 a2, .int .u8 a3] w fun e w' => e = .returned (.bool r) ∧ Below w.heap.size w w' := by
 have HG := zm hg
 clear hg
 have HR0 := zm hr0
 have HC0 := zm hc0
 clear hr0 hc0
 have HB := zm (Below.refl w.heap.size w)
 have H : ((psalterylaw09_great.f l0).bind fun t460 => (if t460 = true then (psalterylaw09_LapNear.j0 k l0 a1 a2 a3 true) else (if a1 < 0 then (psalterylaw09_LapNear.j0 k l0 a1 a2 a3 true) else (if a1 ≥ (l0.length : Int) then (psalterylaw09_LapNear.j0 k l0 a1 a2 a3 true) else (if a2 < (-262144) then (psalterylaw09_LapNear.j0 k l0 a1 a2 a3 true) else (psalterylaw09_LapNear.j0 k l0 a1 a2 a3 (decide (a2 > 262144)))))))) = some r := h
 clear h
 have HC5 := zm H
 clear H
 go_enter Tryd.func9, Tryd.ntmps9
 go_upto_region 1 with (fail)
 repeat (go_quiet (fail); go_upto_region 1 with (fail))
 go_cut [36] (fun v36 wc => ∃ (kq : Nat) (x36_4 : Bool), v36 = .bool x36_4 ∧ Aside0 (psalterylaw09_LapNear.j0 kq l0 a1 a2 a3 x36_4 = some r) ∧ Aside0 (kq ≤ k) ∧ Aside0 (Below w.heap.size w wc))
 case first =>
  have H := HC5.out
  clear HC5
  replace H := Option.bind_eq_some_iff.mp H
  obtain ⟨t460, A60, H⟩ := H
  replace H : (if t460 = true then (psalterylaw09_LapNear.j0 k l0 a1 a2 a3 true) else (if a1 < 0 then (psalterylaw09_LapNear.j0 k l0 a1 a2 a3 true) else (if a1 ≥ (l0.length : Int) then (psalterylaw09_LapNear.j0 k l0 a1 a2 a3 true) else (if a2 < (-262144) then (psalterylaw09_LapNear.j0 k l0 a1 a2 a3 true) else (psalterylaw09_LapNear.j0 k l0 a1 a2 a3 (decide (a2 > 262144))))))) = some r := H
  have A6 := zm A60
  clear A60
  by_cases c7 : t460 = true
  ·
   subst c7
   have H1 : (psalterylaw09_LapNear.j0 k l0 a1 a2 a3 true) = some r := by rw [if_pos rfl] at H; exact H
   clear H
   have H := H1
   clear H1
   have H' := zm H
   clear H
   go_wp2_with (first | (go_at_call 10; (with_reducible refine (psalterylaw09_great.calls _ _ l0 true _ ?side1 ?side2 A6.out).mono ?_); (case side1 => repeat (first | exact (Kd.C_below HR0.out HB.out) | (with_reducible refine Kd.C_alloc ?_ _) | (with_reducible refine Kd.C_drewN ?_ _) | (with_reducible refine Kd.C_drew ?_))); (case side2 => exact HC0.out); rintro e w' ⟨rfl, ⟨nd, rfl⟩⟩; (try first | exact ⟨rfl, _, World.drewN_drewN _ _ _⟩ | exact ⟨rfl, _, Eq.trans (World.drewN_drewN _ _ _) (congrArg (World.drewN _) (Nat.add_assoc _ _ _))⟩)))
   repeat (go_quiet (first | (go_at_call 10; (with_reducible refine (psalterylaw09_great.calls _ _ l0 true _ ?side1 ?side2 A6.out).mono ?_); (case side1 => repeat (first | exact (Kd.C_below HR0.out HB.out) | (with_reducible refine Kd.C_alloc ?_ _) | (with_reducible refine Kd.C_drewN ?_ _) | (with_reducible refine Kd.C_drew ?_))); (case side2 => exact HC0.out); rintro e w' ⟨rfl, ⟨nd, rfl⟩⟩; (try first | exact ⟨rfl, _, World.drewN_drewN _ _ _⟩ | exact ⟨rfl, _, Eq.trans (World.drewN_drewN _ _ _) (congrArg (World.drewN _) (Nat.add_assoc _ _ _))⟩))); try go_wp2_with (first | (go_at_call 10; (with_reducible refine (psalterylaw09_great.calls _ _ l0 true _ ?side1 ?side2 A6.out).mono ?_); (case side1 => repeat (first | exact (Kd.C_below HR0.out HB.out) | (with_reducible refine Kd.C_alloc ?_ _) | (with_reducible refine Kd.C_drewN ?_ _) | (with_reducible refine Kd.C_drew ?_))); (case side2 => exact HC0.out); rintro e w' ⟨rfl, ⟨nd, rfl⟩⟩; (try first | exact ⟨rfl, _, World.drewN_drewN _ _ _⟩ | exact ⟨rfl, _, Eq.trans (World.drewN_drewN _ _ _) (congrArg (World.drewN _) (Nat.add_assoc _ _ _))⟩))))
   go_meet
   case rel => exact ⟨_, (true), (by first | rfl | (simp; done) | (simp [*]; done)), H', ⟨by first | omega | exact Nat.le_refl _⟩, ⟨by repeat (first | (with_reducible first | exact HB.out | apply ze | apply zd | apply zf) | exact HB.out)⟩⟩
  ·
   replace c7 := Bool.eq_false_iff.mpr c7
   subst c7
   have H1 : (if a1 < 0 then (psalterylaw09_LapNear.j0 k l0 a1 a2 a3 true) else (if a1 ≥ (l0.length : Int) then (psalterylaw09_LapNear.j0 k l0 a1 a2 a3 true) else (if a2 < (-262144) then (psalterylaw09_LapNear.j0 k l0 a1 a2 a3 true) else (psalterylaw09_LapNear.j0 k l0 a1 a2 a3 (decide (a2 > 262144)))))) = some r := by rw [if_neg (show ¬ (false = true) by decide)] at H; exact H
   clear H
   have H := H1
   clear H1
   by_cases c8 : a1 < 0
   ·
    rw [if_pos c8] at H
    have c8b0 : decide (a1 < 0) = true := decide_eq_true c8
    clear c8
    (first | rw [c8b0] | (simp only [i64_w, i32_w]; rw [c8b0]) | skip)
    have H' := zm H
    clear H
    go_wp2_with (first | (go_at_call 10; (with_reducible refine (psalterylaw09_great.calls _ _ l0 false _ ?side1 ?side2 A6.out).mono ?_); (case side1 => repeat (first | exact (Kd.C_below HR0.out HB.out) | (with_reducible refine Kd.C_alloc ?_ _) | (with_reducible refine Kd.C_drewN ?_ _) | (with_reducible refine Kd.C_drew ?_))); (case side2 => exact HC0.out); rintro e w' ⟨rfl, ⟨nd, rfl⟩⟩; (try first | exact ⟨rfl, _, World.drewN_drewN _ _ _⟩ | exact ⟨rfl, _, Eq.trans (World.drewN_drewN _ _ _) (congrArg (World.drewN _) (Nat.add_assoc _ _ _))⟩)))
    repeat (go_quiet (first | (go_at_call 10; (with_reducible refine (psalterylaw09_great.calls _ _ l0 false _ ?side1 ?side2 A6.out).mono ?_); (case side1 => repeat (first | exact (Kd.C_below HR0.out HB.out) | (with_reducible refine Kd.C_alloc ?_ _) | (with_reducible refine Kd.C_drewN ?_ _) | (with_reducible refine Kd.C_drew ?_))); (case side2 => exact HC0.out); rintro e w' ⟨rfl, ⟨nd, rfl⟩⟩; (try first | exact ⟨rfl, _, World.drewN_drewN _ _ _⟩ | exact ⟨rfl, _, Eq.trans (World.drewN_drewN _ _ _) (congrArg (World.drewN _) (Nat.add_assoc _ _ _))⟩))); try go_wp2_with (first | (go_at_call 10; (with_reducible refine (psalterylaw09_great.calls _ _ l0 false _ ?side1 ?side2 A6.out).mono ?_); (case side1 => repeat (first | exact (Kd.C_below HR0.out HB.out) | (with_reducible refine Kd.C_alloc ?_ _) | (with_reducible refine Kd.C_drewN ?_ _) | (with_reducible refine Kd.C_drew ?_))); (case side2 => exact HC0.out); rintro e w' ⟨rfl, ⟨nd, rfl⟩⟩; (try first | exact ⟨rfl, _, World.drewN_drewN _ _ _⟩ | exact ⟨rfl, _, Eq.trans (World.drewN_drewN _ _ _) (congrArg (World.drewN _) (Nat.add_assoc _ _ _))⟩))))
    go_meet
    case rel => exact ⟨_, (true), (by first | rfl | (simp; done) | (simp [*]; done)), H', ⟨by first | omega | exact Nat.le_refl _⟩, ⟨by repeat (first | (with_reducible first | exact HB.out | apply ze | apply zd | apply zf) | exact HB.out)⟩⟩
   ·
    rw [if_neg c8] at H
    have c8b0 : decide (a1 < 0) = false := decide_eq_false c8
    clear c8
    (first | rw [c8b0] | (simp only [i64_w, i32_w]; rw [c8b0]) | skip)
    by_cases c9 : a1 ≥ (l0.length : Int)
    ·
     rw [if_pos c9] at H
     have c9b0 : decide ((l0.length : Int) ≤ a1) = true := decide_eq_true c9
     clear c9
     have H' := zm H
     clear H
     go_wp2_with (first | (go_at_call 10; (with_reducible refine (psalterylaw09_great.calls _ _ l0 false _ ?side1 ?side2 A6.out).mono ?_); (case side1 => repeat (first | exact (Kd.C_below HR0.out HB.out) | (with_reducible refine Kd.C_alloc ?_ _) | (with_reducible refine Kd.C_drewN ?_ _) | (with_reducible refine Kd.C_drew ?_))); (case side2 => exact HC0.out); rintro e w' ⟨rfl, ⟨nd, rfl⟩⟩; (try first | exact ⟨rfl, _, World.drewN_drewN _ _ _⟩ | exact ⟨rfl, _, Eq.trans (World.drewN_drewN _ _ _) (congrArg (World.drewN _) (Nat.add_assoc _ _ _))⟩)))
     repeat (go_quiet (first | (go_at_call 10; (with_reducible refine (psalterylaw09_great.calls _ _ l0 false _ ?side1 ?side2 A6.out).mono ?_); (case side1 => repeat (first | exact (Kd.C_below HR0.out HB.out) | (with_reducible refine Kd.C_alloc ?_ _) | (with_reducible refine Kd.C_drewN ?_ _) | (with_reducible refine Kd.C_drew ?_))); (case side2 => exact HC0.out); rintro e w' ⟨rfl, ⟨nd, rfl⟩⟩; (try first | exact ⟨rfl, _, World.drewN_drewN _ _ _⟩ | exact ⟨rfl, _, Eq.trans (World.drewN_drewN _ _ _) (congrArg (World.drewN _) (Nat.add_assoc _ _ _))⟩))); try go_wp2_with (first | (go_at_call 10; (with_reducible refine (psalterylaw09_great.calls _ _ l0 false _ ?side1 ?side2 A6.out).mono ?_); (case side1 => repeat (first | exact (Kd.C_below HR0.out HB.out) | (with_reducible refine Kd.C_alloc ?_ _) | (with_reducible refine Kd.C_drewN ?_ _) | (with_reducible refine Kd.C_drew ?_))); (case side2 => exact HC0.out); rintro e w' ⟨rfl, ⟨nd, rfl⟩⟩; (try first | exact ⟨rfl, _, World.drewN_drewN _ _ _⟩ | exact ⟨rfl, _, Eq.trans (World.drewN_drewN _ _ _) (congrArg (World.drewN _) (Nat.add_assoc _ _ _))⟩))))
     go_meet
     case rel => exact ⟨_, (true), (by first | rfl | (simp; done) | (simp [*]; done)), H', ⟨by first | omega | exact Nat.le_refl _⟩, ⟨by repeat (first | (with_reducible first | exact HB.out | apply ze | apply zd | apply zf) | exact HB.out)⟩⟩
    ·
     rw [if_neg c9] at H
     have c9b0 : decide ((l0.length : Int) ≤ a1) = false := decide_eq_false c9
     clear c9
     by_cases c10 : a2 < (-262144)
     ·
      rw [if_pos c10] at H
      have c10b0 : decide (a2 < (-262144)) = true := decide_eq_true c10
      clear c10
      have H' := zm H
      clear H
      go_wp2_with (first | (go_at_call 10; (with_reducible refine (psalterylaw09_great.calls _ _ l0 false _ ?side1 ?side2 A6.out).mono ?_); (case side1 => repeat (first | exact (Kd.C_below HR0.out HB.out) | (with_reducible refine Kd.C_alloc ?_ _) | (with_reducible refine Kd.C_drewN ?_ _) | (with_reducible refine Kd.C_drew ?_))); (case side2 => exact HC0.out); rintro e w' ⟨rfl, ⟨nd, rfl⟩⟩; (try first | exact ⟨rfl, _, World.drewN_drewN _ _ _⟩ | exact ⟨rfl, _, Eq.trans (World.drewN_drewN _ _ _) (congrArg (World.drewN _) (Nat.add_assoc _ _ _))⟩)))
      repeat (go_quiet (first | (go_at_call 10; (with_reducible refine (psalterylaw09_great.calls _ _ l0 false _ ?side1 ?side2 A6.out).mono ?_); (case side1 => repeat (first | exact (Kd.C_below HR0.out HB.out) | (with_reducible refine Kd.C_alloc ?_ _) | (with_reducible refine Kd.C_drewN ?_ _) | (with_reducible refine Kd.C_drew ?_))); (case side2 => exact HC0.out); rintro e w' ⟨rfl, ⟨nd, rfl⟩⟩; (try first | exact ⟨rfl, _, World.drewN_drewN _ _ _⟩ | exact ⟨rfl, _, Eq.trans (World.drewN_drewN _ _ _) (congrArg (World.drewN _) (Nat.add_assoc _ _ _))⟩))); try go_wp2_with (first | (go_at_call 10; (with_reducible refine (psalterylaw09_great.calls _ _ l0 false _ ?side1 ?side2 A6.out).mono ?_); (case side1 => repeat (first | exact (Kd.C_below HR0.out HB.out) | (with_reducible refine Kd.C_alloc ?_ _) | (with_reducible refine Kd.C_drewN ?_ _) | (with_reducible refine Kd.C_drew ?_))); (case side2 => exact HC0.out); rintro e w' ⟨rfl, ⟨nd, rfl⟩⟩; (try first | exact ⟨rfl, _, World.drewN_drewN _ _ _⟩ | exact ⟨rfl, _, Eq.trans (World.drewN_drewN _ _ _) (congrArg (World.drewN _) (Nat.add_assoc _ _ _))⟩))))
      go_meet
      case rel => exact ⟨_, (true), (by first | rfl | (simp; done) | (simp [*]; done)), H', ⟨by first | omega | exact Nat.le_refl _⟩, ⟨by repeat (first | (with_reducible first | exact HB.out | apply ze | apply zd | apply zf) | exact HB.out)⟩⟩
     ·
      rw [if_neg c10] at H
      have c10b0 : decide (a2 < (-262144)) = false := decide_eq_false c10
      clear c10
      have H' := zm H
      clear H
      go_wp2_with (first | (go_at_call 10; (with_reducible refine (psalterylaw09_great.calls _ _ l0 false _ ?side1 ?side2 A6.out).mono ?_); (case side1 => repeat (first | exact (Kd.C_below HR0.out HB.out) | (with_reducible refine Kd.C_alloc ?_ _) | (with_reducible refine Kd.C_drewN ?_ _) | (with_reducible refine Kd.C_drew ?_))); (case side2 => exact HC0.out); rintro e w' ⟨rfl, ⟨nd, rfl⟩⟩; (try first | exact ⟨rfl, _, World.drewN_drewN _ _ _⟩ | exact ⟨rfl, _, Eq.trans (World.drewN_drewN _ _ _) (congrArg (World.drewN _) (Nat.add_assoc _ _ _))⟩)))
      repeat (go_quiet (first | (go_at_call 10; (with_reducible refine (psalterylaw09_great.calls _ _ l0 false _ ?side1 ?side2 A6.out).mono ?_); (case side1 => repeat (first | exact (Kd.C_below HR0.out HB.out) | (with_reducible refine Kd.C_alloc ?_ _) | (with_reducible refine Kd.C_drewN ?_ _) | (with_reducible refine Kd.C_drew ?_))); (case side2 => exact HC0.out); rintro e w' ⟨rfl, ⟨nd, rfl⟩⟩; (try first | exact ⟨rfl, _, World.drewN_drewN _ _ _⟩ | exact ⟨rfl, _, Eq.trans (World.drewN_drewN _ _ _) (congrArg (World.drewN _) (Nat.add_assoc _ _ _))⟩))); try go_wp2_with (first | (go_at_call 10; (with_reducible refine (psalterylaw09_great.calls _ _ l0 false _ ?side1 ?side2 A6.out).mono ?_); (case side1 => repeat (first | exact (Kd.C_below HR0.out HB.out) | (with_reducible refine Kd.C_alloc ?_ _) | (with_reducible refine Kd.C_drewN ?_ _) | (with_reducible refine Kd.C_drew ?_))); (case side2 => exact HC0.out); rintro e w' ⟨rfl, ⟨nd, rfl⟩⟩; (try first | exact ⟨rfl, _, World.drewN_drewN _ _ _⟩ | exact ⟨rfl, _, Eq.trans (World.drewN_drewN _ _ _) (congrArg (World.drewN _) (Nat.add_assoc _ _ _))⟩))))
      go_meet
      case rel => exact ⟨_, (decide (a2 > 262144)), (by first | rfl | (simp; done) | (simp [*]; done)), H', ⟨by first | omega | exact Nat.le_refl _⟩, ⟨by repeat (first | (with_reducible first | exact HB.out | apply ze | apply zd | apply zf) | exact HB.out)⟩⟩
 case rest =>
  clear HC5
  try clear c1
  try clear p2
  try clear c7
  try clear c8
  try clear c8b0
  try clear c9
  try clear c9b0
  try clear c10
  try clear c10b0
  obtain ⟨kq, x36_4, rfl, HA, HJ4, HB⟩ := hcut
  cases kq with
  | zero => exact absurd HA.out (by simp [psalterylaw09_LapNear.j0])
  | succ kj4 =>
   have H := HA.out
   clear HA
   simp only [psalterylaw09_LapNear.j0] at H
   by_cases c11 : x36_4 = true
   ·
    subst c11
    have H1 : ((psalterylaw09_knows.f kj4).bind fun t461 => (some t461)) = some r := by rw [if_pos rfl] at H; exact H
    clear H
    have H := H1
    clear H1
    replace H := Option.bind_eq_some_iff.mp H
    obtain ⟨t461, A120, H⟩ := H
    replace H : (some t461) = some r := H
    have A12 := zm A120
    clear A120
    obtain rfl := Option.some.inj H
    go_wp2_with (first | (go_at_call 11; (with_reducible refine (psalterylaw09_knows.calls kj4  t461 _ ?sideg A12.out).mono ?_); (case sideg => exact HG.out.below (by repeat (first | (with_reducible first | exact HB.out | apply ze | apply zd | apply zf) | exact HB.out))); rintro e w13 ⟨rfl, hb⟩; have n0_ := zm (zJ (by repeat (first | (with_reducible first | exact HB.out | apply ze | apply zd | apply zf) | exact HB.out)) hb); clear HB; have HB := n0_; clear n0_; (try clear hb); (try clear hb2); (try clear hk); (try clear hi)))
    repeat (go_quiet (first | (go_at_call 11; (with_reducible refine (psalterylaw09_knows.calls kj4  t461 _ ?sideg A12.out).mono ?_); (case sideg => exact HG.out.below (by repeat (first | (with_reducible first | exact HB.out | apply ze | apply zd | apply zf) | exact HB.out))); rintro e w13 ⟨rfl, hb⟩; have n0_ := zm (zJ (by repeat (first | (with_reducible first | exact HB.out | apply ze | apply zd | apply zf) | exact HB.out)) hb); clear HB; have HB := n0_; clear n0_; (try clear hb); (try clear hb2); (try clear hk); (try clear hi))); try go_wp2_with (first | (go_at_call 11; (with_reducible refine (psalterylaw09_knows.calls kj4  t461 _ ?sideg A12.out).mono ?_); (case sideg => exact HG.out.below (by repeat (first | (with_reducible first | exact HB.out | apply ze | apply zd | apply zf) | exact HB.out))); rintro e w13 ⟨rfl, hb⟩; have n0_ := zm (zJ (by repeat (first | (with_reducible first | exact HB.out | apply ze | apply zd | apply zf) | exact HB.out)) hb); clear HB; have HB := n0_; clear n0_; (try clear hb); (try clear hb2); (try clear hk); (try clear hi))))
    go_ret
    exact ⟨by first | rfl | (simp [errW_none, errW_some] <;> rfl) | (simp [*, errW_none, errW_some] <;> rfl), by repeat (first | (with_reducible first | exact HB.out | apply ze | apply zd | apply zf) | exact HB.out)⟩
   ·
    replace c11 := Bool.eq_false_iff.mpr c11
    subst c11
    have H1 : ((psalterylaw09_size.f a3).bind fun t462 => ((some (([] : List Int) : List Int)).bind fun y463 => (if y463.length + l0.length < 17592186044416 then ((some (y463 ++ l0 : List Int)).bind fun y466 => (if 0 ≤ a1 then (if a1 < (y466.length : Int) then ((lap_Frames.f kj4 l0 t462).bind fun bt470 => ((lap_Frames.f kj4 (y466.set (a1 : Int).toNat a2) t462).bind fun bt474 => (if bt470.2 = 0 then (if bt474.2 = 0 then (psalterylaw09_LapNear.j1 kj4 a1 t462 bt470.1 bt474.1 ((bt470.1.length : Int) != (bt474.1.length : Int))) else (psalterylaw09_LapNear.j1 kj4 a1 t462 bt470.1 bt474.1 true)) else ((psalterylaw09_knows.f kj4).bind fun t478 => (some t478))))) else (none)) else (none))) else (none)))) = some r := by rw [if_neg (show ¬ (false = true) by decide)] at H; exact H
    clear H
    have H := H1
    clear H1
    replace H := Option.bind_eq_some_iff.mp H
    obtain ⟨t462, A140, H⟩ := H
    replace H : ((some (([] : List Int) : List Int)).bind fun y463 => (if y463.length + l0.length < 17592186044416 then ((some (y463 ++ l0 : List Int)).bind fun y466 => (if 0 ≤ a1 then (if a1 < (y466.length : Int) then ((lap_Frames.f kj4 l0 t462).bind fun bt470 => ((lap_Frames.f kj4 (y466.set (a1 : Int).toNat a2) t462).bind fun bt474 => (if bt470.2 = 0 then (if bt474.2 = 0 then (psalterylaw09_LapNear.j1 kj4 a1 t462 bt470.1 bt474.1 ((bt470.1.length : Int) != (bt474.1.length : Int))) else (psalterylaw09_LapNear.j1 kj4 a1 t462 bt470.1 bt474.1 true)) else ((psalterylaw09_knows.f kj4).bind fun t478 => (some t478))))) else (none)) else (none))) else (none))) = some r := H
    have A14 := zm A140
    clear A140
    obtain ⟨y463, hy463⟩ : ∃ y_ : List Int, y_ = (([] : List Int)) := ⟨_, rfl⟩
    replace H : (if y463.length + l0.length < 17592186044416 then ((some (y463 ++ l0 : List Int)).bind fun y466 => (if 0 ≤ a1 then (if a1 < (y466.length : Int) then ((lap_Frames.f kj4 l0 t462).bind fun bt470 => ((lap_Frames.f kj4 (y466.set (a1 : Int).toNat a2) t462).bind fun bt474 => (if bt470.2 = 0 then (if bt474.2 = 0 then (psalterylaw09_LapNear.j1 kj4 a1 t462 bt470.1 bt474.1 ((bt470.1.length : Int) != (bt474.1.length : Int))) else (psalterylaw09_LapNear.j1 kj4 a1 t462 bt470.1 bt474.1 true)) else ((psalterylaw09_knows.f kj4).bind fun t478 => (some t478))))) else (none)) else (none))) else (none)) = some r := by first | (rw [hy463]; with_reducible exact H) | (have H2_ := (Option.bind_some _ _).symm.trans H; rw [hy463]; with_reducible exact H2_) | (have H2_ := (Option.bind_some _ _).symm.trans H; with_reducible exact H2_) | with_reducible exact H | (rw [hy463]; exact H) | exact H
    have Ny463 := zm hy463
    clear hy463
    by_cases c15 : y463.length + l0.length < 17592186044416
    ·
     rw [if_pos c15] at H
     have LMc15 := zm c15
     clear c15
     obtain ⟨y466, hy466⟩ : ∃ y_ : List Int, y_ = (y463 ++ l0) := ⟨_, rfl⟩
     replace H : (if 0 ≤ a1 then (if a1 < (y466.length : Int) then ((lap_Frames.f kj4 l0 t462).bind fun bt470 => ((lap_Frames.f kj4 (y466.set (a1 : Int).toNat a2) t462).bind fun bt474 => (if bt470.2 = 0 then (if bt474.2 = 0 then (psalterylaw09_LapNear.j1 kj4 a1 t462 bt470.1 bt474.1 ((bt470.1.length : Int) != (bt474.1.length : Int))) else (psalterylaw09_LapNear.j1 kj4 a1 t462 bt470.1 bt474.1 true)) else ((psalterylaw09_knows.f kj4).bind fun t478 => (some t478))))) else (none)) else (none)) = some r := by first | (rw [hy466]; with_reducible exact H) | (have H2_ := (Option.bind_some _ _).symm.trans H; rw [hy466]; with_reducible exact H2_) | (have H2_ := (Option.bind_some _ _).symm.trans H; with_reducible exact H2_) | with_reducible exact H | (rw [hy466]; exact H) | exact H
     have Ny466 := zm hy466
     clear hy466
     by_cases c16 : 0 ≤ a1
     ·
      rw [if_pos c16] at H
      have c16b0 : decide (0 ≤ a1) = true := decide_eq_true c16
      clear c16
      by_cases c17 : a1 < (y466.length : Int)
      ·
       rw [if_pos c17] at H
       have c17b0 : decide (a1 < (y466.length : Int)) = true := decide_eq_true c17
       clear c17
       obtain ⟨y469, hy469⟩ : ∃ y_ : List Int, y_ = (y466.set (a1 : Int).toNat a2) := ⟨_, rfl⟩
       replace H : ((lap_Frames.f kj4 l0 t462).bind fun bt470 => ((lap_Frames.f kj4 y469 t462).bind fun bt474 => (if bt470.2 = 0 then (if bt474.2 = 0 then (psalterylaw09_LapNear.j1 kj4 a1 t462 bt470.1 bt474.1 ((bt470.1.length : Int) != (bt474.1.length : Int))) else (psalterylaw09_LapNear.j1 kj4 a1 t462 bt470.1 bt474.1 true)) else ((psalterylaw09_knows.f kj4).bind fun t478 => (some t478))))) = some r := by first | (rw [hy469]; with_reducible exact H) | (have H2_ := (Option.bind_some _ _).symm.trans H; rw [hy469]; with_reducible exact H2_) | (have H2_ := (Option.bind_some _ _).symm.trans H; with_reducible exact H2_) | with_reducible exact H | (rw [hy469]; exact H) | exact H
       have Ny469 := zm hy469
       clear hy469
       replace H := Option.bind_eq_some_iff.mp H
       obtain ⟨⟨t470, t471⟩, A190, H⟩ := H
       replace H : ((lap_Frames.f kj4 y469 t462).bind fun bt474 => (if t471 = 0 then (if bt474.2 = 0 then (psalterylaw09_LapNear.j1 kj4 a1 t462 t470 bt474.1 ((t470.length : Int) != (bt474.1.length : Int))) else (psalterylaw09_LapNear.j1 kj4 a1 t462 t470 bt474.1 true)) else ((psalterylaw09_knows.f kj4).bind fun t478 => (some t478)))) = some r := H
       have A19 := zm A190
       clear A190
       replace H := Option.bind_eq_some_iff.mp H
       obtain ⟨⟨t474, t475⟩, A200, H⟩ := H
       replace H : (if t471 = 0 then (if t475 = 0 then (psalterylaw09_LapNear.j1 kj4 a1 t462 t470 t474 ((t470.length : Int) != (t474.length : Int))) else (psalterylaw09_LapNear.j1 kj4 a1 t462 t470 t474 true)) else ((psalterylaw09_knows.f kj4).bind fun t478 => (some t478))) = some r := H
       have A20 := zm A200
       clear A200
       by_cases c21 : t471 = 0
       ·
        rw [if_pos c21] at H
        have c21b0 : (t471 == 0) = true := beq_iff_eq.mpr c21
        have c21b1 : (t471 != 0) = false := bne_eq_false_iff_eq.mpr c21
        clear c21
        have HC22 := zm H
        clear H
        go_upto_region 10 with (first | (go_at_call 26; (with_reducible refine (psalterylaw09_size.calls a3 t462 _ A14.out).mono ?_); rintro e w' ⟨rfl, ⟨nd, rfl⟩⟩; (try first | exact ⟨rfl, _, World.drewN_drewN _ _ _⟩ | exact ⟨rfl, _, Eq.trans (World.drewN_drewN _ _ _) (congrArg (World.drewN _) (Nat.add_assoc _ _ _))⟩)) | ((with_reducible refine gate_dst (N := 40) rfl ?_); (try (refine gate_guard (by rfl) ?_; dsimp only)); refine Kd.R_lit (Kd.int .i64) _ 2 ?hg (N := 40) ?hd (xs := ([] : List Int)) (inner := []) (ok := fun _ => True) (okp := fun _ => True) ?hr ?hp (fun _ hk => hk) trivial (Below.refl _ _) (Nat.le_refl _) (by simp) ?_; (case hd => rfl); (case hg => rfl); (case hr => first | (go_simp; done) | (go_simp; rfl)); (case hp => exact (Reps.none _ _)); intro v464 w23 ho24 hb hg_ hnew_; clear hg_ hnew_; (first | rw [← Ny463.out] at ho24 | (simp only [Int.reduceToNat] at ho24; rw [← Ny463.out] at ho24)); have n0_ := zm (Kd.R_lower ho24 (zE (by repeat (first | (with_reducible first | exact HB.out | apply ze | apply zd | apply zf) | exact HB.out)))); have n1_ := zm (zJ (by repeat (first | (with_reducible first | exact HB.out | apply ze | apply zd | apply zf) | exact HB.out)) hb); clear HB; have HO465 := n0_; have HB := n1_; clear n0_ n1_; clear hb ho24) | ((with_reducible refine gate_builtin (b := .append) (xs := #[.tmp 40, .tmp 41]) rfl ?_); (try (refine gate_guard (by rfl) ?_; dsimp only)); at_builtin; refine Kd.R_append_rows (Kd.int .i64) (w0 := w) w.heap.size rfl (.tmp 40) (.tmp 41) 22 2 (.int .i64 0) 8 rfl Tryd.underlying22 info2 rfl (by decide) (by omega) v464 y463 l0 _ _ _ (fun _ => True) (fun _ => False) rfl rfl ?aO ?aR (fun _ _ h => h) (fun _ h => h.elim) ?aF ?aB ?aS ?aL ?_; (case aR => repeat (first | exact (Kd.C_below HR0.out HB.out) | (with_reducible refine Kd.C_alloc ?_ _) | (with_reducible refine Kd.C_drewN ?_ _) | (with_reducible refine Kd.C_drew ?_))); (case aB => exact (by repeat (first | (with_reducible first | exact HB.out | apply ze | apply zd | apply zf) | exact HB.out))); (case aF => exact (fun _ _ => trivial)); (case aO => exact (by (with_reducible repeat (first | apply zo | apply zp | apply zq)); exact HO465.out)); (case aS => exact (zE (by repeat (first | (with_reducible first | exact HB.out | apply ze | apply zd | apply zf) | exact HB.out)))); (case aL => have := LMc15.out; omega); intro v467 w25 ho hb hg hat; rw [← Ny466.out] at ho; have n0_ := zm (hb); have n1_ := zm (ho); clear HB; clear HO465; have HB := n0_; have HO468 := n1_; clear n0_ n1_; clear ho hb hg hat; have p18 : 0 ≤ (a1 : Int) := of_decide_eq_true (by first | (with_reducible assumption) | assumption); have q18 : (a1 : Int) < ((y466.length : Int) : Int) := of_decide_eq_true (by first | (with_reducible assumption) | assumption); obtain ⟨go18, co18, eo18, gb18, gl18, cl18, HG18⟩ := Kd.R_form HO468.out (by omega); (first | cases eo18 | (injection eo18 with ea_ en_ ec_; (first | subst ea_ | (injection ea_ with ea_; subst ea_)); subst ec_; clear en_)); have GB18 := zm gb18; have GG18 := zm HG18; clear gb18 gl18 HG18; obtain ⟨hx18_0, hf18_0⟩ := Kd.R_celln 0 HO468.out (a1 : Int) p18 q18; replace p18 := eq_true p18; replace q18 := eq_true q18; obtain ⟨hy26_, hz26_⟩ := Kd.R_celln 0 HO468.out (a1 : Int) (of_decide_eq_true (by first | (with_reducible assumption) | assumption)) (of_decide_eq_true (by first | (with_reducible assumption) | assumption)); have HP26 := Kd.R_putg HO468.out (a1 : Int) a2) | ((with_reducible refine gate_store (t := 2) (p := 46) rfl ?_); (try (rw [drewN_self w25]; generalize hq_ : World.drewN w25 _ = w25; have n0_ := zm (Kd.R_at hq_ HO468.out); have n1_ := zm (below_at hq_ HB.out); clear hq_ HO468 HB; have HO468 := n0_; have HB := n1_; clear n0_ n1_; (try (obtain ⟨hy26_, hz26_⟩ := Kd.R_celln 0 HO468.out (a1 : Int) (of_decide_eq_true (by first | (with_reducible assumption) | assumption)) (of_decide_eq_true (by first | (with_reducible assumption) | assumption)))); (try (have HP26 := Kd.R_putg HO468.out (a1 : Int) a2)))); refine store_event (t := 2) (p := 46) (v := ?vo_w27) (w1 := (w25.setCell ⟨go18, (a1 : Int).toNat, none⟩ (.int .i64 a2))) ?hg ?ho ?hn ?hr ?_; (case ho => rfl); (case hg => rfl); (case hn => rfl); (case hr => first | (go_simp; done) | (go_simp; rfl)); intro w27 hw; have hg : w25.grownBy w27 (some go18) := (by rw [hw]; exact HP26.2); have hp_ : Kd.R (Kd.int .i64) 2 w27 w.heap.size (fun _ => True) (.slice (some ⟨go18, 0, none⟩) y466.length co18) y469 := (by rw [hw, Ny469.out]; exact HP26.1); clear HP26; have n0_ := zm (hp_); have n1_ := zm ((by rw [hw]; exact zk (HB.out) GB18.out : Below w.heap.size w w27)); clear HO468; clear HB; have HO468 := n0_; have HB := n1_; clear n0_ n1_; clear hg hw hp_) | (go_at_call 20; (with_reducible refine (lap_Frames.calls kj4 _ _ l0 t462 t470 t471 _ ?side1 ?side2 ?sideg A19.out).mono ?_); (case sideg => exact HG.out.below (by repeat (first | (with_reducible first | exact HB.out | apply ze | apply zd | apply zf) | exact HB.out))); (case side1 => repeat (first | exact (Kd.C_below HR0.out HB.out) | (with_reducible refine Kd.C_alloc ?_ _) | (with_reducible refine Kd.C_drewN ?_ _) | (with_reducible refine Kd.C_drew ?_))); (case side2 => exact HC0.out); rintro e w28 ⟨v472, rfl, ho0, hb⟩; have n0_ := zm (Kd.R_below (by (with_reducible repeat (first | apply zo | apply zp | apply zq)); exact HO468.out) hb); have n1_ := zm (Kd.S_lower (Kd.S_new' ho0 (Kd.R_lt (by (with_reducible repeat (first | apply zo | apply zp | apply zq)); exact HO468.out))) (zE (by repeat (first | (with_reducible first | exact HB.out | apply ze | apply zd | apply zf) | exact HB.out)))); have n2_ := zm (zJ (by repeat (first | (with_reducible first | exact HB.out | apply ze | apply zd | apply zf) | exact HB.out)) hb); clear HO468; clear HB; have HO468 := n0_; have HO473 := n1_; have HB := n2_; clear n0_ n1_ n2_; (try clear hb); (try clear hb2); (try clear hk); (try clear hi); (try clear ho0)) | (go_at_call 20; refine calls_of_args (args' := #[.slice (some ⟨go18, 0, none⟩) y469.length co18, .int .i64 t462]) (by first | (rw [show y469.length = y466.length from (Kd.R_reads' HO468.out).1.symm] <;> rfl) | rfl) ?_; (with_reducible refine (lap_Frames.calls kj4 _ _ y469 t462 t474 t475 _ ?side1 ?side2 ?sideg A20.out).mono ?_); (case sideg => exact HG.out.below (by repeat (first | (with_reducible first | exact HB.out | apply ze | apply zd | apply zf) | exact HB.out))); (case side1 => repeat (first | exact (Kd.R_reads' HO468.out).2.2 | (with_reducible refine Kd.C_alloc ?_ _) | (with_reducible refine Kd.C_drewN ?_ _) | (with_reducible refine Kd.C_drew ?_))); (case side2 => rw [show y469.length = y466.length from (Kd.R_reads' HO468.out).1.symm]; exact (Kd.R_reads' HO468.out).2.1); rintro e w29 ⟨v476, rfl, ho0, hb⟩; have n0_ := zm (Kd.R_below (by (with_reducible repeat (first | apply zo | apply zp | apply zq)); exact HO468.out) hb); have n1_ := zm (Kd.S_elder' (by (with_reducible repeat (first | apply Kd.S_alloc | apply Kd.S_drewN | apply Kd.S_drew)); exact HO473.out) (Kd.S_base ho0) hb); have n2_ := zm (Kd.S_lower (Kd.S_new' (Kd.S_new' ho0 (Kd.R_lt (by (with_reducible repeat (first | apply zo | apply zp | apply zq)); exact HO468.out))) (Kd.S_lt (by (with_reducible repeat (first | apply Kd.S_alloc | apply Kd.S_drewN | apply Kd.S_drew)); exact HO473.out))) (zE (by repeat (first | (with_reducible first | exact HB.out | apply ze | apply zd | apply zf) | exact HB.out)))); have n3_ := zm (zJ (by repeat (first | (with_reducible first | exact HB.out | apply ze | apply zd | apply zf) | exact HB.out)) hb); clear HO468; clear HO473; clear HB; have HO468 := n0_; have HO473 := n1_; have HO477 := n2_; have HB := n3_; clear n0_ n1_ n2_ n3_; (try clear hb); (try clear hb2); (try clear hk); (try clear hi); (try clear ho0)))
        repeat (go_quiet (first | (go_at_call 26; (with_reducible refine (psalterylaw09_size.calls a3 t462 _ A14.out).mono ?_); rintro e w' ⟨rfl, ⟨nd, rfl⟩⟩; (try first | exact ⟨rfl, _, World.drewN_drewN _ _ _⟩ | exact ⟨rfl, _, Eq.trans (World.drewN_drewN _ _ _) (congrArg (World.drewN _) (Nat.add_assoc _ _ _))⟩)) | ((with_reducible refine gate_dst (N := 40) rfl ?_); (try (refine gate_guard (by rfl) ?_; dsimp only)); refine Kd.R_lit (Kd.int .i64) _ 2 ?hg (N := 40) ?hd (xs := ([] : List Int)) (inner := []) (ok := fun _ => True) (okp := fun _ => True) ?hr ?hp (fun _ hk => hk) trivial (Below.refl _ _) (Nat.le_refl _) (by simp) ?_; (case hd => rfl); (case hg => rfl); (case hr => first | (go_simp; done) | (go_simp; rfl)); (case hp => exact (Reps.none _ _)); intro v464 w23 ho24 hb hg_ hnew_; clear hg_ hnew_; (first | rw [← Ny463.out] at ho24 | (simp only [Int.reduceToNat] at ho24; rw [← Ny463.out] at ho24)); have n0_ := zm (Kd.R_lower ho24 (zE (by repeat (first | (with_reducible first | exact HB.out | apply ze | apply zd | apply zf) | exact HB.out)))); have n1_ := zm (zJ (by repeat (first | (with_reducible first | exact HB.out | apply ze | apply zd | apply zf) | exact HB.out)) hb); clear HB; have HO465 := n0_; have HB := n1_; clear n0_ n1_; clear hb ho24) | ((with_reducible refine gate_builtin (b := .append) (xs := #[.tmp 40, .tmp 41]) rfl ?_); (try (refine gate_guard (by rfl) ?_; dsimp only)); at_builtin; refine Kd.R_append_rows (Kd.int .i64) (w0 := w) w.heap.size rfl (.tmp 40) (.tmp 41) 22 2 (.int .i64 0) 8 rfl Tryd.underlying22 info2 rfl (by decide) (by omega) v464 y463 l0 _ _ _ (fun _ => True) (fun _ => False) rfl rfl ?aO ?aR (fun _ _ h => h) (fun _ h => h.elim) ?aF ?aB ?aS ?aL ?_; (case aR => repeat (first | exact (Kd.C_below HR0.out HB.out) | (with_reducible refine Kd.C_alloc ?_ _) | (with_reducible refine Kd.C_drewN ?_ _) | (with_reducible refine Kd.C_drew ?_))); (case aB => exact (by repeat (first | (with_reducible first | exact HB.out | apply ze | apply zd | apply zf) | exact HB.out))); (case aF => exact (fun _ _ => trivial)); (case aO => exact (by (with_reducible repeat (first | apply zo | apply zp | apply zq)); exact HO465.out)); (case aS => exact (zE (by repeat (first | (with_reducible first | exact HB.out | apply ze | apply zd | apply zf) | exact HB.out)))); (case aL => have := LMc15.out; omega); intro v467 w25 ho hb hg hat; rw [← Ny466.out] at ho; have n0_ := zm (hb); have n1_ := zm (ho); clear HB; clear HO465; have HB := n0_; have HO468 := n1_; clear n0_ n1_; clear ho hb hg hat; have p18 : 0 ≤ (a1 : Int) := of_decide_eq_true (by first | (with_reducible assumption) | assumption); have q18 : (a1 : Int) < ((y466.length : Int) : Int) := of_decide_eq_true (by first | (with_reducible assumption) | assumption); obtain ⟨go18, co18, eo18, gb18, gl18, cl18, HG18⟩ := Kd.R_form HO468.out (by omega); (first | cases eo18 | (injection eo18 with ea_ en_ ec_; (first | subst ea_ | (injection ea_ with ea_; subst ea_)); subst ec_; clear en_)); have GB18 := zm gb18; have GG18 := zm HG18; clear gb18 gl18 HG18; obtain ⟨hx18_0, hf18_0⟩ := Kd.R_celln 0 HO468.out (a1 : Int) p18 q18; replace p18 := eq_true p18; replace q18 := eq_true q18; obtain ⟨hy26_, hz26_⟩ := Kd.R_celln 0 HO468.out (a1 : Int) (of_decide_eq_true (by first | (with_reducible assumption) | assumption)) (of_decide_eq_true (by first | (with_reducible assumption) | assumption)); have HP26 := Kd.R_putg HO468.out (a1 : Int) a2) | ((with_reducible refine gate_store (t := 2) (p := 46) rfl ?_); (try (rw [drewN_self w25]; generalize hq_ : World.drewN w25 _ = w25; have n0_ := zm (Kd.R_at hq_ HO468.out); have n1_ := zm (below_at hq_ HB.out); clear hq_ HO468 HB; have HO468 := n0_; have HB := n1_; clear n0_ n1_; (try (obtain ⟨hy26_, hz26_⟩ := Kd.R_celln 0 HO468.out (a1 : Int) (of_decide_eq_true (by first | (with_reducible assumption) | assumption)) (of_decide_eq_true (by first | (with_reducible assumption) | assumption)))); (try (have HP26 := Kd.R_putg HO468.out (a1 : Int) a2)))); refine store_event (t := 2) (p := 46) (v := ?vo_w27) (w1 := (w25.setCell ⟨go18, (a1 : Int).toNat, none⟩ (.int .i64 a2))) ?hg ?ho ?hn ?hr ?_; (case ho => rfl); (case hg => rfl); (case hn => rfl); (case hr => first | (go_simp; done) | (go_simp; rfl)); intro w27 hw; have hg : w25.grownBy w27 (some go18) := (by rw [hw]; exact HP26.2); have hp_ : Kd.R (Kd.int .i64) 2 w27 w.heap.size (fun _ => True) (.slice (some ⟨go18, 0, none⟩) y466.length co18) y469 := (by rw [hw, Ny469.out]; exact HP26.1); clear HP26; have n0_ := zm (hp_); have n1_ := zm ((by rw [hw]; exact zk (HB.out) GB18.out : Below w.heap.size w w27)); clear HO468; clear HB; have HO468 := n0_; have HB := n1_; clear n0_ n1_; clear hg hw hp_) | (go_at_call 20; (with_reducible refine (lap_Frames.calls kj4 _ _ l0 t462 t470 t471 _ ?side1 ?side2 ?sideg A19.out).mono ?_); (case sideg => exact HG.out.below (by repeat (first | (with_reducible first | exact HB.out | apply ze | apply zd | apply zf) | exact HB.out))); (case side1 => repeat (first | exact (Kd.C_below HR0.out HB.out) | (with_reducible refine Kd.C_alloc ?_ _) | (with_reducible refine Kd.C_drewN ?_ _) | (with_reducible refine Kd.C_drew ?_))); (case side2 => exact HC0.out); rintro e w28 ⟨v472, rfl, ho0, hb⟩; have n0_ := zm (Kd.R_below (by (with_reducible repeat (first | apply zo | apply zp | apply zq)); exact HO468.out) hb); have n1_ := zm (Kd.S_lower (Kd.S_new' ho0 (Kd.R_lt (by (with_reducible repeat (first | apply zo | apply zp | apply zq)); exact HO468.out))) (zE (by repeat (first | (with_reducible first | exact HB.out | apply ze | apply zd | apply zf) | exact HB.out)))); have n2_ := zm (zJ (by repeat (first | (with_reducible first | exact HB.out | apply ze | apply zd | apply zf) | exact HB.out)) hb); clear HO468; clear HB; have HO468 := n0_; have HO473 := n1_; have HB := n2_; clear n0_ n1_ n2_; (try clear hb); (try clear hb2); (try clear hk); (try clear hi); (try clear ho0)) | (go_at_call 20; refine calls_of_args (args' := #[.slice (some ⟨go18, 0, none⟩) y469.length co18, .int .i64 t462]) (by first | (rw [show y469.length = y466.length from (Kd.R_reads' HO468.out).1.symm] <;> rfl) | rfl) ?_; (with_reducible refine (lap_Frames.calls kj4 _ _ y469 t462 t474 t475 _ ?side1 ?side2 ?sideg A20.out).mono ?_); (case sideg => exact HG.out.below (by repeat (first | (with_reducible first | exact HB.out | apply ze | apply zd | apply zf) | exact HB.out))); (case side1 => repeat (first | exact (Kd.R_reads' HO468.out).2.2 | (with_reducible refine Kd.C_alloc ?_ _) | (with_reducible refine Kd.C_drewN ?_ _) | (with_reducible refine Kd.C_drew ?_))); (case side2 => rw [show y469.length = y466.length from (Kd.R_reads' HO468.out).1.symm]; exact (Kd.R_reads' HO468.out).2.1); rintro e w29 ⟨v476, rfl, ho0, hb⟩; have n0_ := zm (Kd.R_below (by (with_reducible repeat (first | apply zo | apply zp | apply zq)); exact HO468.out) hb); have n1_ := zm (Kd.S_elder' (by (with_reducible repeat (first | apply Kd.S_alloc | apply Kd.S_drewN | apply Kd.S_drew)); exact HO473.out) (Kd.S_base ho0) hb); have n2_ := zm (Kd.S_lower (Kd.S_new' (Kd.S_new' ho0 (Kd.R_lt (by (with_reducible repeat (first | apply zo | apply zp | apply zq)); exact HO468.out))) (Kd.S_lt (by (with_reducible repeat (first | apply Kd.S_alloc | apply Kd.S_drewN | apply Kd.S_drew)); exact HO473.out))) (zE (by repeat (first | (with_reducible first | exact HB.out | apply ze | apply zd | apply zf) | exact HB.out)))); have n3_ := zm (zJ (by repeat (first | (with_reducible first | exact HB.out | apply ze | apply zd | apply zf) | exact HB.out)) hb); clear HO468; clear HO473; clear HB; have HO468 := n0_; have HO473 := n1_; have HO477 := n2_; have HB := n3_; clear n0_ n1_ n2_ n3_; (try clear hb); (try clear hb2); (try clear hk); (try clear hi); (try clear ho0))); go_upto_region 10 with (first | (go_at_call 26; (with_reducible refine (psalterylaw09_size.calls a3 t462 _ A14.out).mono ?_); rintro e w' ⟨rfl, ⟨nd, rfl⟩⟩; (try first | exact ⟨rfl, _, World.drewN_drewN _ _ _⟩ | exact ⟨rfl, _, Eq.trans (World.drewN_drewN _ _ _) (congrArg (World.drewN _) (Nat.add_assoc _ _ _))⟩)) | ((with_reducible refine gate_dst (N := 40) rfl ?_); (try (refine gate_guard (by rfl) ?_; dsimp only)); refine Kd.R_lit (Kd.int .i64) _ 2 ?hg (N := 40) ?hd (xs := ([] : List Int)) (inner := []) (ok := fun _ => True) (okp := fun _ => True) ?hr ?hp (fun _ hk => hk) trivial (Below.refl _ _) (Nat.le_refl _) (by simp) ?_; (case hd => rfl); (case hg => rfl); (case hr => first | (go_simp; done) | (go_simp; rfl)); (case hp => exact (Reps.none _ _)); intro v464 w23 ho24 hb hg_ hnew_; clear hg_ hnew_; (first | rw [← Ny463.out] at ho24 | (simp only [Int.reduceToNat] at ho24; rw [← Ny463.out] at ho24)); have n0_ := zm (Kd.R_lower ho24 (zE (by repeat (first | (with_reducible first | exact HB.out | apply ze | apply zd | apply zf) | exact HB.out)))); have n1_ := zm (zJ (by repeat (first | (with_reducible first | exact HB.out | apply ze | apply zd | apply zf) | exact HB.out)) hb); clear HB; have HO465 := n0_; have HB := n1_; clear n0_ n1_; clear hb ho24) | ((with_reducible refine gate_builtin (b := .append) (xs := #[.tmp 40, .tmp 41]) rfl ?_); (try (refine gate_guard (by rfl) ?_; dsimp only)); at_builtin; refine Kd.R_append_rows (Kd.int .i64) (w0 := w) w.heap.size rfl (.tmp 40) (.tmp 41) 22 2 (.int .i64 0) 8 rfl Tryd.underlying22 info2 rfl (by decide) (by omega) v464 y463 l0 _ _ _ (fun _ => True) (fun _ => False) rfl rfl ?aO ?aR (fun _ _ h => h) (fun _ h => h.elim) ?aF ?aB ?aS ?aL ?_; (case aR => repeat (first | exact (Kd.C_below HR0.out HB.out) | (with_reducible refine Kd.C_alloc ?_ _) | (with_reducible refine Kd.C_drewN ?_ _) | (with_reducible refine Kd.C_drew ?_))); (case aB => exact (by repeat (first | (with_reducible first | exact HB.out | apply ze | apply zd | apply zf) | exact HB.out))); (case aF => exact (fun _ _ => trivial)); (case aO => exact (by (with_reducible repeat (first | apply zo | apply zp | apply zq)); exact HO465.out)); (case aS => exact (zE (by repeat (first | (with_reducible first | exact HB.out | apply ze | apply zd | apply zf) | exact HB.out)))); (case aL => have := LMc15.out; omega); intro v467 w25 ho hb hg hat; rw [← Ny466.out] at ho; have n0_ := zm (hb); have n1_ := zm (ho); clear HB; clear HO465; have HB := n0_; have HO468 := n1_; clear n0_ n1_; clear ho hb hg hat; have p18 : 0 ≤ (a1 : Int) := of_decide_eq_true (by first | (with_reducible assumption) | assumption); have q18 : (a1 : Int) < ((y466.length : Int) : Int) := of_decide_eq_true (by first | (with_reducible assumption) | assumption); obtain ⟨go18, co18, eo18, gb18, gl18, cl18, HG18⟩ := Kd.R_form HO468.out (by omega); (first | cases eo18 | (injection eo18 with ea_ en_ ec_; (first | subst ea_ | (injection ea_ with ea_; subst ea_)); subst ec_; clear en_)); have GB18 := zm gb18; have GG18 := zm HG18; clear gb18 gl18 HG18; obtain ⟨hx18_0, hf18_0⟩ := Kd.R_celln 0 HO468.out (a1 : Int) p18 q18; replace p18 := eq_true p18; replace q18 := eq_true q18; obtain ⟨hy26_, hz26_⟩ := Kd.R_celln 0 HO468.out (a1 : Int) (of_decide_eq_true (by first | (with_reducible assumption) | assumption)) (of_decide_eq_true (by first | (with_reducible assumption) | assumption)); have HP26 := Kd.R_putg HO468.out (a1 : Int) a2) | ((with_reducible refine gate_store (t := 2) (p := 46) rfl ?_); (try (rw [drewN_self w25]; generalize hq_ : World.drewN w25 _ = w25; have n0_ := zm (Kd.R_at hq_ HO468.out); have n1_ := zm (below_at hq_ HB.out); clear hq_ HO468 HB; have HO468 := n0_; have HB := n1_; clear n0_ n1_; (try (obtain ⟨hy26_, hz26_⟩ := Kd.R_celln 0 HO468.out (a1 : Int) (of_decide_eq_true (by first | (with_reducible assumption) | assumption)) (of_decide_eq_true (by first | (with_reducible assumption) | assumption)))); (try (have HP26 := Kd.R_putg HO468.out (a1 : Int) a2)))); refine store_event (t := 2) (p := 46) (v := ?vo_w27) (w1 := (w25.setCell ⟨go18, (a1 : Int).toNat, none⟩ (.int .i64 a2))) ?hg ?ho ?hn ?hr ?_; (case ho => rfl); (case hg => rfl); (case hn => rfl); (case hr => first | (go_simp; done) | (go_simp; rfl)); intro w27 hw; have hg : w25.grownBy w27 (some go18) := (by rw [hw]; exact HP26.2); have hp_ : Kd.R (Kd.int .i64) 2 w27 w.heap.size (fun _ => True) (.slice (some ⟨go18, 0, none⟩) y466.length co18) y469 := (by rw [hw, Ny469.out]; exact HP26.1); clear HP26; have n0_ := zm (hp_); have n1_ := zm ((by rw [hw]; exact zk (HB.out) GB18.out : Below w.heap.size w w27)); clear HO468; clear HB; have HO468 := n0_; have HB := n1_; clear n0_ n1_; clear hg hw hp_) | (go_at_call 20; (with_reducible refine (lap_Frames.calls kj4 _ _ l0 t462 t470 t471 _ ?side1 ?side2 ?sideg A19.out).mono ?_); (case sideg => exact HG.out.below (by repeat (first | (with_reducible first | exact HB.out | apply ze | apply zd | apply zf) | exact HB.out))); (case side1 => repeat (first | exact (Kd.C_below HR0.out HB.out) | (with_reducible refine Kd.C_alloc ?_ _) | (with_reducible refine Kd.C_drewN ?_ _) | (with_reducible refine Kd.C_drew ?_))); (case side2 => exact HC0.out); rintro e w28 ⟨v472, rfl, ho0, hb⟩; have n0_ := zm (Kd.R_below (by (with_reducible repeat (first | apply zo | apply zp | apply zq)); exact HO468.out) hb); have n1_ := zm (Kd.S_lower (Kd.S_new' ho0 (Kd.R_lt (by (with_reducible repeat (first | apply zo | apply zp | apply zq)); exact HO468.out))) (zE (by repeat (first | (with_reducible first | exact HB.out | apply ze | apply zd | apply zf) | exact HB.out)))); have n2_ := zm (zJ (by repeat (first | (with_reducible first | exact HB.out | apply ze | apply zd | apply zf) | exact HB.out)) hb); clear HO468; clear HB; have HO468 := n0_; have HO473 := n1_; have HB := n2_; clear n0_ n1_ n2_; (try clear hb); (try clear hb2); (try clear hk); (try clear hi); (try clear ho0)) | (go_at_call 20; refine calls_of_args (args' := #[.slice (some ⟨go18, 0, none⟩) y469.length co18, .int .i64 t462]) (by first | (rw [show y469.length = y466.length from (Kd.R_reads' HO468.out).1.symm] <;> rfl) | rfl) ?_; (with_reducible refine (lap_Frames.calls kj4 _ _ y469 t462 t474 t475 _ ?side1 ?side2 ?sideg A20.out).mono ?_); (case sideg => exact HG.out.below (by repeat (first | (with_reducible first | exact HB.out | apply ze | apply zd | apply zf) | exact HB.out))); (case side1 => repeat (first | exact (Kd.R_reads' HO468.out).2.2 | (with_reducible refine Kd.C_alloc ?_ _) | (with_reducible refine Kd.C_drewN ?_ _) | (with_reducible refine Kd.C_drew ?_))); (case side2 => rw [show y469.length = y466.length from (Kd.R_reads' HO468.out).1.symm]; exact (Kd.R_reads' HO468.out).2.1); rintro e w29 ⟨v476, rfl, ho0, hb⟩; have n0_ := zm (Kd.R_below (by (with_reducible repeat (first | apply zo | apply zp | apply zq)); exact HO468.out) hb); have n1_ := zm (Kd.S_elder' (by (with_reducible repeat (first | apply Kd.S_alloc | apply Kd.S_drewN | apply Kd.S_drew)); exact HO473.out) (Kd.S_base ho0) hb); have n2_ := zm (Kd.S_lower (Kd.S_new' (Kd.S_new' ho0 (Kd.R_lt (by (with_reducible repeat (first | apply zo | apply zp | apply zq)); exact HO468.out))) (Kd.S_lt (by (with_reducible repeat (first | apply Kd.S_alloc | apply Kd.S_drewN | apply Kd.S_drew)); exact HO473.out))) (zE (by repeat (first | (with_reducible first | exact HB.out | apply ze | apply zd | apply zf) | exact HB.out)))); have n3_ := zm (zJ (by repeat (first | (with_reducible first | exact HB.out | apply ze | apply zd | apply zf) | exact HB.out)) hb); clear HO468; clear HO473; clear HB; have HO468 := n0_; have HO473 := n1_; have HO477 := n2_; have HB := n3_; clear n0_ n1_ n2_ n3_; (try clear hb); (try clear hb2); (try clear hk); (try clear hi); (try clear ho0))))
        (try simp only [Act.put, List.setIfInBounds_toArray, List.set_cons_zero, List.set_cons_succ])
        go_cut [70] (fun v70 wc => ∃ (kq : Nat) (x70_21 : Bool), v70 = .bool x70_21 ∧ Aside0 (psalterylaw09_LapNear.j1 kq a1 t462 t470 t474 x70_21 = some r) ∧ Aside0 (kq ≤ kj4) ∧ Aside0 (Kd.S (Kd.slice 2 (Kd.int .i64)) 22 wc w.heap.size (fun k_ => some k_ ≠ (v476 : Value).ownBlock) v472 t470) ∧ Aside0 (Kd.S (Kd.slice 2 (Kd.int .i64)) 22 wc w.heap.size (fun k_ => some k_ ≠ (v472 : Value).ownBlock) v476 t474) ∧ Aside0 (Below w.heap.size w wc))
        case first =>
         have H := HC22.out
         clear HC22
         by_cases c30 : t475 = 0
         ·
          rw [if_pos c30] at H
          have c30b0 : (t475 == 0) = true := beq_iff_eq.mpr c30
          have c30b1 : (t475 != 0) = false := bne_eq_false_iff_eq.mpr c30
          clear c30
          (first | rw [c30b0] | (simp only [i64_w, i32_w]; rw [c30b0]) | skip)
          have H' := zm H
          clear H
          obtain ⟨Ao31, co31, eo31⟩ := Kd.S_slice HO473.out
          subst eo31
          obtain ⟨Ao32, co32, eo32⟩ := Kd.S_slice HO477.out
          subst eo32
          go_wp2
          repeat (go_quiet (fail); try go_wp2)
          go_meet
          case rel => exact ⟨_, (((t470.length : Int) != (t474.length : Int))), (by first | rfl | (simp; done) | (simp [*]; done)), H', ⟨by have := HJ4.out; first | omega | exact Nat.le_refl _⟩, ⟨by (with_reducible repeat (first | apply Kd.S_alloc | apply Kd.S_drewN | apply Kd.S_drew)); exact Kd.S_mono HO473.out (fun _ hk => hk.2)⟩, ⟨by (with_reducible repeat (first | apply Kd.S_alloc | apply Kd.S_drewN | apply Kd.S_drew)); exact Kd.S_mono HO477.out (fun _ hk => hk.2)⟩, ⟨by repeat (first | (with_reducible first | exact HB.out | apply ze | apply zd | apply zf) | exact HB.out)⟩⟩
         ·
          rw [if_neg c30] at H
          have c30b0 : (t475 == 0) = false := beq_eq_false_iff_ne.mpr c30
          have c30b1 : (t475 != 0) = true := bne_iff_ne.mpr c30
          (first | rw [c30b0] | (simp only [i64_w, i32_w]; rw [c30b0]) | skip)
          have H' := zm H
          clear H
          go_wp2
          repeat (go_quiet (fail); try go_wp2)
          go_meet
          case rel => exact ⟨_, (true), (by first | rfl | (simp; done) | (simp [*]; done)), H', ⟨by have := HJ4.out; first | omega | exact Nat.le_refl _⟩, ⟨by (with_reducible repeat (first | apply Kd.S_alloc | apply Kd.S_drewN | apply Kd.S_drew)); exact Kd.S_mono HO473.out (fun _ hk => hk.2)⟩, ⟨by (with_reducible repeat (first | apply Kd.S_alloc | apply Kd.S_drewN | apply Kd.S_drew)); exact Kd.S_mono HO477.out (fun _ hk => hk.2)⟩, ⟨by repeat (first | (with_reducible first | exact HB.out | apply ze | apply zd | apply zf) | exact HB.out)⟩⟩
        case rest =>
         clear HC22
         try clear c1
         try clear p1
         try clear q1
         try clear hx1
         try clear c2
         try clear p2
         try clear c3
         try clear c7
         try clear c8
         try clear c8b0
         try clear c9
         try clear c9b0
         try clear c10
         try clear c10b0
         try clear c11
         try clear c15
         try clear c16
         try clear c16b0
         try clear c17
         try clear c17b0
         try clear p18
         try clear q18
         try clear hx18
         try clear hf18
         try clear c21
         try clear c21b0
         try clear c21b1
         try clear c30
         try clear c30b0
         try clear c30b1
         try clear hx18_0
         try clear p18
         try clear p2
         try clear q18
         obtain ⟨kq, x70_21, rfl, HA, HJ21, HO_11, HO_13, HB⟩ := hcut
         cases kq with
         | zero => exact absurd HA.out (by simp [psalterylaw09_LapNear.j1])
         | succ kj21 =>
          have H := HA.out
          clear HA
          simp only [psalterylaw09_LapNear.j1] at H
          by_cases c33 : x70_21 = true
          ·
           subst c33
           have H1 : (none) = some r := by rw [if_pos rfl] at H; exact H
           clear H
           have H := H1
           clear H1
           exact absurd H (by simp)
          ·
           replace c33 := Bool.eq_false_iff.mpr c33
           subst c33
           have H1 : (psalterylaw09_LapNear.l0 kj21 a1 t462 t470 t474 0) = some r := by rw [if_neg (show ¬ (false = true) by decide)] at H; exact H
           clear H
           have H := H1
           clear H1
           have H' := zm H
           clear H
           go_wp2
           repeat (go_quiet (fail); try go_wp2)
           go_loopg [15] kj21 (fun kq v15 w' => ∃ (x15_3 : Int), v15 = .int .i64 x15_3 ∧ Aside0 (psalterylaw09_LapNear.l0 kq a1 t462 t470 t474 x15_3 = some r) ∧ Aside0 (kq ≤ kj21) ∧ Aside0 (Kd.S (Kd.slice 2 (Kd.int .i64)) 22 w' w.heap.size (fun k_ => some k_ ≠ (v476 : Value).ownBlock) v472 t470) ∧ Aside0 (Kd.S (Kd.slice 2 (Kd.int .i64)) 22 w' w.heap.size (fun k_ => some k_ ≠ (v472 : Value).ownBlock) v476 t474) ∧ Aside0 (Below w.heap.size w w'))
           case atStart => exact ⟨(0), (by first | rfl | (simp; done) | (simp [*]; done)), H', ⟨Nat.le_refl _⟩, ⟨by (with_reducible repeat (first | apply Kd.S_alloc | apply Kd.S_drewN | apply Kd.S_drew)); exact HO_11.out⟩, ⟨by (with_reducible repeat (first | apply Kd.S_alloc | apply Kd.S_drewN | apply Kd.S_drew)); exact HO_13.out⟩, ⟨by repeat (first | (with_reducible first | exact HB.out | apply ze | apply zd | apply zf) | exact HB.out)⟩⟩
           case round =>
            clear H'
            try clear c1
            try clear p1
            try clear q1
            try clear hx1
            try clear c2
            try clear p2
            try clear c3
            try clear c7
            try clear c8
            try clear c8b0
            try clear c9
            try clear c9b0
            try clear c10
            try clear c10b0
            try clear c11
            try clear c15
            try clear c16
            try clear c16b0
            try clear c17
            try clear c17b0
            try clear p18
            try clear q18
            try clear hx18
            try clear hf18
            try clear c21
            try clear c21b0
            try clear c21b1
            try clear c30
            try clear c30b0
            try clear c30b1
            try clear c33
            try clear hx18_0
            try clear p1
            try clear p18
            try clear p2
            try clear q1
            try clear q18
            obtain ⟨x15_3, rfl, HA, HK3, HO_11, HO_13, HB⟩ := hrel
            cases gk with
            | zero => exact absurd HA.out (by simp [psalterylaw09_LapNear.l0])
            | succ k3 =>
             have H := HA.out
             clear HA
             simp only [psalterylaw09_LapNear.l0] at H
             by_cases c34 : x15_3 < (t470.length : Int)
             ·
              rw [if_pos c34] at H
              have c34b0 : decide (x15_3 < (t470.length : Int)) = true := decide_eq_true c34
              clear c34
              by_cases c35 : a1 ≥ (wrap64 ((wrap64 (x15_3 * t462)) - 4))
              ·
               rw [if_pos c35] at H
               have c35b0 : decide ((wrap64 ((wrap64 (x15_3 * t462)) - 4)) ≤ a1) = true := decide_eq_true c35
               clear c35
               by_cases c36 : (a1 < (wrap64 ((wrap64 ((wrap64 (x15_3 * t462)) + t462)) + 4)))
               ·
                rw [if_pos c36] at H
                have c36b0 : decide (a1 < (wrap64 ((wrap64 ((wrap64 (x15_3 * t462)) + t462)) + 4))) = true := decide_eq_true c36
                clear c36
                have H' := zm H
                clear H
                obtain ⟨Ao37, co37, eo37⟩ := Kd.S_slice HO_11.out
                subst eo37
                go_wp2
                repeat (go_quiet (fail); try go_wp2)
                go_roundg k3
                case measure => have := HJ4.out; have := HJ21.out; have := HK3.out; omega
                case rel => exact ⟨(wrap64 (x15_3 + 1)), (by first | rfl | (simp; done) | (simp [*]; done)), H', ⟨by have := HJ4.out; have := HJ21.out; have := HK3.out; omega⟩, ⟨by (with_reducible repeat (first | apply Kd.S_alloc | apply Kd.S_drewN | apply Kd.S_drew)); exact HO_11.out⟩, ⟨by (with_reducible repeat (first | apply Kd.S_alloc | apply Kd.S_drewN | apply Kd.S_drew)); exact HO_13.out⟩, ⟨by repeat (first | (with_reducible first | exact HB.out | apply ze | apply zd | apply zf) | exact HB.out)⟩⟩
               ·
                rw [if_neg c36] at H
                have c36b0 : decide (a1 < (wrap64 ((wrap64 ((wrap64 (x15_3 * t462)) + t462)) + 4))) = false := decide_eq_false c36
                clear c36
                by_cases c38 : 0 ≤ x15_3
                ·
                 rw [if_pos c38] at H
                 have c38b0 : decide (0 ≤ x15_3) = true := decide_eq_true c38
                 clear c38
                 by_cases c39 : x15_3 < (t474.length : Int)
                 ·
                  rw [if_pos c39] at H
                  have c39b0 : decide (x15_3 < (t474.length : Int)) = true := decide_eq_true c39
                  clear c39
                  replace H := Option.bind_eq_some_iff.mp H
                  obtain ⟨t481, A400, H⟩ := H
                  replace H : (if t481 = true then (psalterylaw09_LapNear.l0 k3 a1 t462 t470 t474 (wrap64 (x15_3 + 1))) else (none)) = some r := H
                  have A40 := zm A400
                  clear A400
                  by_cases c41 : t481 = true
                  ·
                   subst c41
                   have H1 : (psalterylaw09_LapNear.l0 k3 a1 t462 t470 t474 (wrap64 (x15_3 + 1))) = some r := by rw [if_pos rfl] at H; exact H
                   clear H
                   have H := H1
                   clear H1
                   have H' := zm H
                   clear H
                   obtain ⟨Ao42, co42, eo42⟩ := Kd.S_slice HO_11.out
                   subst eo42
                   have p479 : 0 ≤ (x15_3 : Int) := of_decide_eq_true (by first | (with_reducible assumption) | assumption)
                   have q479 : x15_3 < (t470.length : Int) := of_decide_eq_true (by first | (with_reducible assumption) | assumption)
                   obtain ⟨ad479, A479_0, c479_0, e479, hx479_0, hl479_0, hi479_0⟩ := at_L1 (Kd.S_reads' HO_11.out).2.2 x15_3 p479 q479
                   cases e479
                   obtain ⟨ce479, hce479, hMe479, hcc479⟩ := Kd.S_get HO_11.out [] x15_3 p479 (by first | exact q479 | exact of_decide_eq_true (by first | (with_reducible assumption) | assumption) | (have e_ := (Kd.S_reads' HO_11.out).1; omega))
                   obtain ⟨ve479_0, rfl, ge479_0⟩ := hMe479
                   have hv479_0 := hcc479 0 _ rfl
                   rw [Nat.add_zero, show ((Kd.slice 2 (Kd.int .i64))).sz = 1 from rfl, Nat.mul_one] at hv479_0
                   replace hv479_0 := Option.some.inj (hv479_0.symm.trans hx479_0)
                   rw [hv479_0] at ge479_0
                   have HL479_0 := zm (show Kd.R (Kd.int .i64) 2 _ _ _ _ (rd_L1 t470 x15_3) from ge479_0)
                   clear hv479_0 ge479_0
                   clear hcc479 hce479
                   have HR479_0 := zm hi479_0
                   have HC479_0 := zm hl479_0
                   clear hi479_0 hl479_0
                   replace p479 := eq_true p479
                   replace q479 := eq_true q479
                   obtain ⟨Ao43, co43, eo43⟩ := Kd.S_slice HO_13.out
                   subst eo43
                   have p480 : 0 ≤ (x15_3 : Int) := of_decide_eq_true (by first | (with_reducible assumption) | assumption)
                   have q480 : x15_3 < (t474.length : Int) := of_decide_eq_true (by first | (with_reducible assumption) | assumption)
                   obtain ⟨ad480, A480_0, c480_0, e480, hx480_0, hl480_0, hi480_0⟩ := at_L1 (Kd.S_reads' HO_13.out).2.2 x15_3 p480 q480
                   cases e480
                   obtain ⟨ce480, hce480, hMe480, hcc480⟩ := Kd.S_get HO_13.out [] x15_3 p480 (by first | exact q480 | exact of_decide_eq_true (by first | (with_reducible assumption) | assumption) | (have e_ := (Kd.S_reads' HO_13.out).1; omega))
                   obtain ⟨ve480_0, rfl, ge480_0⟩ := hMe480
                   have hv480_0 := hcc480 0 _ rfl
                   rw [Nat.add_zero, show ((Kd.slice 2 (Kd.int .i64))).sz = 1 from rfl, Nat.mul_one] at hv480_0
                   replace hv480_0 := Option.some.inj (hv480_0.symm.trans hx480_0)
                   rw [hv480_0] at ge480_0
                   have HL480_0 := zm (show Kd.R (Kd.int .i64) 2 _ _ _ _ (rd_L1 t474 x15_3) from ge480_0)
                   clear hv480_0 ge480_0
                   clear hcc480 hce480
                   have HR480_0 := zm hi480_0
                   have HC480_0 := zm hl480_0
                   clear hi480_0 hl480_0
                   replace p480 := eq_true p480
                   replace q480 := eq_true q480
                   go_wp2_with (first | (go_at_call 16; (with_reducible refine (psalteryref07_Same.calls k3 _ _ (rd_L1 t470 x15_3) _ _ (rd_L1 t474 x15_3) true _ ?side1 ?side2 ?side3 ?side4 A40.out).mono ?_); (case side1 => repeat (first | exact (by repeat (first | (with_reducible exact HR479_0.out) | (with_reducible refine Kd.C_alloc ?_ _) | (with_reducible refine Kd.C_drewN ?_ _) | (with_reducible refine Kd.C_drew ?_) | exact HR479_0.out)) | (with_reducible refine Kd.C_alloc ?_ _) | (with_reducible refine Kd.C_drewN ?_ _) | (with_reducible refine Kd.C_drew ?_))); (case side2 => exact HC479_0.out); (case side3 => repeat (first | exact (by repeat (first | (with_reducible exact HR480_0.out) | (with_reducible refine Kd.C_alloc ?_ _) | (with_reducible refine Kd.C_drewN ?_ _) | (with_reducible refine Kd.C_drew ?_) | exact HR480_0.out)) | (with_reducible refine Kd.C_alloc ?_ _) | (with_reducible refine Kd.C_drewN ?_ _) | (with_reducible refine Kd.C_drew ?_))); (case side4 => exact HC480_0.out); rintro e w' ⟨rfl, ⟨nd, rfl⟩⟩; (try first | exact ⟨rfl, _, World.drewN_drewN _ _ _⟩ | exact ⟨rfl, _, Eq.trans (World.drewN_drewN _ _ _) (congrArg (World.drewN _) (Nat.add_assoc _ _ _))⟩)))
                   repeat (go_quiet (first | (go_at_call 16; (with_reducible refine (psalteryref07_Same.calls k3 _ _ (rd_L1 t470 x15_3) _ _ (rd_L1 t474 x15_3) true _ ?side1 ?side2 ?side3 ?side4 A40.out).mono ?_); (case side1 => repeat (first | exact (by repeat (first | (with_reducible exact HR479_0.out) | (with_reducible refine Kd.C_alloc ?_ _) | (with_reducible refine Kd.C_drewN ?_ _) | (with_reducible refine Kd.C_drew ?_) | exact HR479_0.out)) | (with_reducible refine Kd.C_alloc ?_ _) | (with_reducible refine Kd.C_drewN ?_ _) | (with_reducible refine Kd.C_drew ?_))); (case side2 => exact HC479_0.out); (case side3 => repeat (first | exact (by repeat (first | (with_reducible exact HR480_0.out) | (with_reducible refine Kd.C_alloc ?_ _) | (with_reducible refine Kd.C_drewN ?_ _) | (with_reducible refine Kd.C_drew ?_) | exact HR480_0.out)) | (with_reducible refine Kd.C_alloc ?_ _) | (with_reducible refine Kd.C_drewN ?_ _) | (with_reducible refine Kd.C_drew ?_))); (case side4 => exact HC480_0.out); rintro e w' ⟨rfl, ⟨nd, rfl⟩⟩; (try first | exact ⟨rfl, _, World.drewN_drewN _ _ _⟩ | exact ⟨rfl, _, Eq.trans (World.drewN_drewN _ _ _) (congrArg (World.drewN _) (Nat.add_assoc _ _ _))⟩))); try go_wp2_with (first | (go_at_call 16; (with_reducible refine (psalteryref07_Same.calls k3 _ _ (rd_L1 t470 x15_3) _ _ (rd_L1 t474 x15_3) true _ ?side1 ?side2 ?side3 ?side4 A40.out).mono ?_); (case side1 => repeat (first | exact (by repeat (first | (with_reducible exact HR479_0.out) | (with_reducible refine Kd.C_alloc ?_ _) | (with_reducible refine Kd.C_drewN ?_ _) | (with_reducible refine Kd.C_drew ?_) | exact HR479_0.out)) | (with_reducible refine Kd.C_alloc ?_ _) | (with_reducible refine Kd.C_drewN ?_ _) | (with_reducible refine Kd.C_drew ?_))); (case side2 => exact HC479_0.out); (case side3 => repeat (first | exact (by repeat (first | (with_reducible exact HR480_0.out) | (with_reducible refine Kd.C_alloc ?_ _) | (with_reducible refine Kd.C_drewN ?_ _) | (with_reducible refine Kd.C_drew ?_) | exact HR480_0.out)) | (with_reducible refine Kd.C_alloc ?_ _) | (with_reducible refine Kd.C_drewN ?_ _) | (with_reducible refine Kd.C_drew ?_))); (case side4 => exact HC480_0.out); rintro e w' ⟨rfl, ⟨nd, rfl⟩⟩; (try first | exact ⟨rfl, _, World.drewN_drewN _ _ _⟩ | exact ⟨rfl, _, Eq.trans (World.drewN_drewN _ _ _) (congrArg (World.drewN _) (Nat.add_assoc _ _ _))⟩))))
                   go_roundg k3
                   case measure => have := HJ4.out; have := HJ21.out; have := HK3.out; omega
                   case rel => exact ⟨(wrap64 (x15_3 + 1)), (by first | rfl | (simp; done) | (simp [*]; done)), H', ⟨by have := HJ4.out; have := HJ21.out; have := HK3.out; omega⟩, ⟨by (with_reducible repeat (first | apply Kd.S_alloc | apply Kd.S_drewN | apply Kd.S_drew)); exact HO_11.out⟩, ⟨by (with_reducible repeat (first | apply Kd.S_alloc | apply Kd.S_drewN | apply Kd.S_drew)); exact HO_13.out⟩, ⟨by repeat (first | (with_reducible first | exact HB.out | apply ze | apply zd | apply zf) | exact HB.out)⟩⟩
                  ·
                   replace c41 := Bool.eq_false_iff.mpr c41
                   subst c41
                   have H1 : (none) = some r := by rw [if_neg (show ¬ (false = true) by decide)] at H; exact H
                   clear H
                   have H := H1
                   clear H1
                   exact absurd H (by simp)
                 ·
                  rw [if_neg c39] at H
                  exact absurd H (by simp)
                ·
                 rw [if_neg c38] at H
                 exact absurd H (by simp)
              ·
               rw [if_neg c35] at H
               have c35b0 : decide ((wrap64 ((wrap64 (x15_3 * t462)) - 4)) ≤ a1) = false := decide_eq_false c35
               clear c35
               by_cases c44 : 0 ≤ x15_3
               ·
                rw [if_pos c44] at H
                have c44b0 : decide (0 ≤ x15_3) = true := decide_eq_true c44
                clear c44
                by_cases c45 : x15_3 < (t474.length : Int)
                ·
                 rw [if_pos c45] at H
                 have c45b0 : decide (x15_3 < (t474.length : Int)) = true := decide_eq_true c45
                 clear c45
                 replace H := Option.bind_eq_some_iff.mp H
                 obtain ⟨t484, A460, H⟩ := H
                 replace H : (if t484 = true then (psalterylaw09_LapNear.l0 k3 a1 t462 t470 t474 (wrap64 (x15_3 + 1))) else (none)) = some r := H
                 have A46 := zm A460
                 clear A460
                 by_cases c47 : t484 = true
                 ·
                  subst c47
                  have H1 : (psalterylaw09_LapNear.l0 k3 a1 t462 t470 t474 (wrap64 (x15_3 + 1))) = some r := by rw [if_pos rfl] at H; exact H
                  clear H
                  have H := H1
                  clear H1
                  have H' := zm H
                  clear H
                  obtain ⟨Ao48, co48, eo48⟩ := Kd.S_slice HO_11.out
                  subst eo48
                  have p482 : 0 ≤ (x15_3 : Int) := of_decide_eq_true (by first | (with_reducible assumption) | assumption)
                  have q482 : x15_3 < (t470.length : Int) := of_decide_eq_true (by first | (with_reducible assumption) | assumption)
                  obtain ⟨ad482, A482_0, c482_0, e482, hx482_0, hl482_0, hi482_0⟩ := at_L1 (Kd.S_reads' HO_11.out).2.2 x15_3 p482 q482
                  cases e482
                  obtain ⟨ce482, hce482, hMe482, hcc482⟩ := Kd.S_get HO_11.out [] x15_3 p482 (by first | exact q482 | exact of_decide_eq_true (by first | (with_reducible assumption) | assumption) | (have e_ := (Kd.S_reads' HO_11.out).1; omega))
                  obtain ⟨ve482_0, rfl, ge482_0⟩ := hMe482
                  have hv482_0 := hcc482 0 _ rfl
                  rw [Nat.add_zero, show ((Kd.slice 2 (Kd.int .i64))).sz = 1 from rfl, Nat.mul_one] at hv482_0
                  replace hv482_0 := Option.some.inj (hv482_0.symm.trans hx482_0)
                  rw [hv482_0] at ge482_0
                  have HL482_0 := zm (show Kd.R (Kd.int .i64) 2 _ _ _ _ (rd_L1 t470 x15_3) from ge482_0)
                  clear hv482_0 ge482_0
                  clear hcc482 hce482
                  have HR482_0 := zm hi482_0
                  have HC482_0 := zm hl482_0
                  clear hi482_0 hl482_0
                  replace p482 := eq_true p482
                  replace q482 := eq_true q482
                  obtain ⟨Ao49, co49, eo49⟩ := Kd.S_slice HO_13.out
                  subst eo49
                  have p483 : 0 ≤ (x15_3 : Int) := of_decide_eq_true (by first | (with_reducible assumption) | assumption)
                  have q483 : x15_3 < (t474.length : Int) := of_decide_eq_true (by first | (with_reducible assumption) | assumption)
                  obtain ⟨ad483, A483_0, c483_0, e483, hx483_0, hl483_0, hi483_0⟩ := at_L1 (Kd.S_reads' HO_13.out).2.2 x15_3 p483 q483
                  cases e483
                  obtain ⟨ce483, hce483, hMe483, hcc483⟩ := Kd.S_get HO_13.out [] x15_3 p483 (by first | exact q483 | exact of_decide_eq_true (by first | (with_reducible assumption) | assumption) | (have e_ := (Kd.S_reads' HO_13.out).1; omega))
                  obtain ⟨ve483_0, rfl, ge483_0⟩ := hMe483
                  have hv483_0 := hcc483 0 _ rfl
                  rw [Nat.add_zero, show ((Kd.slice 2 (Kd.int .i64))).sz = 1 from rfl, Nat.mul_one] at hv483_0
                  replace hv483_0 := Option.some.inj (hv483_0.symm.trans hx483_0)
                  rw [hv483_0] at ge483_0
                  have HL483_0 := zm (show Kd.R (Kd.int .i64) 2 _ _ _ _ (rd_L1 t474 x15_3) from ge483_0)
                  clear hv483_0 ge483_0
                  clear hcc483 hce483
                  have HR483_0 := zm hi483_0
                  have HC483_0 := zm hl483_0
                  clear hi483_0 hl483_0
                  replace p483 := eq_true p483
                  replace q483 := eq_true q483
                  go_wp2_with (first | (go_at_call 16; (with_reducible refine (psalteryref07_Same.calls k3 _ _ (rd_L1 t470 x15_3) _ _ (rd_L1 t474 x15_3) true _ ?side1 ?side2 ?side3 ?side4 A46.out).mono ?_); (case side1 => repeat (first | exact (by repeat (first | (with_reducible exact HR482_0.out) | (with_reducible refine Kd.C_alloc ?_ _) | (with_reducible refine Kd.C_drewN ?_ _) | (with_reducible refine Kd.C_drew ?_) | exact HR482_0.out)) | (with_reducible refine Kd.C_alloc ?_ _) | (with_reducible refine Kd.C_drewN ?_ _) | (with_reducible refine Kd.C_drew ?_))); (case side2 => exact HC482_0.out); (case side3 => repeat (first | exact (by repeat (first | (with_reducible exact HR483_0.out) | (with_reducible refine Kd.C_alloc ?_ _) | (with_reducible refine Kd.C_drewN ?_ _) | (with_reducible refine Kd.C_drew ?_) | exact HR483_0.out)) | (with_reducible refine Kd.C_alloc ?_ _) | (with_reducible refine Kd.C_drewN ?_ _) | (with_reducible refine Kd.C_drew ?_))); (case side4 => exact HC483_0.out); rintro e w' ⟨rfl, ⟨nd, rfl⟩⟩; (try first | exact ⟨rfl, _, World.drewN_drewN _ _ _⟩ | exact ⟨rfl, _, Eq.trans (World.drewN_drewN _ _ _) (congrArg (World.drewN _) (Nat.add_assoc _ _ _))⟩)))
                  repeat (go_quiet (first | (go_at_call 16; (with_reducible refine (psalteryref07_Same.calls k3 _ _ (rd_L1 t470 x15_3) _ _ (rd_L1 t474 x15_3) true _ ?side1 ?side2 ?side3 ?side4 A46.out).mono ?_); (case side1 => repeat (first | exact (by repeat (first | (with_reducible exact HR482_0.out) | (with_reducible refine Kd.C_alloc ?_ _) | (with_reducible refine Kd.C_drewN ?_ _) | (with_reducible refine Kd.C_drew ?_) | exact HR482_0.out)) | (with_reducible refine Kd.C_alloc ?_ _) | (with_reducible refine Kd.C_drewN ?_ _) | (with_reducible refine Kd.C_drew ?_))); (case side2 => exact HC482_0.out); (case side3 => repeat (first | exact (by repeat (first | (with_reducible exact HR483_0.out) | (with_reducible refine Kd.C_alloc ?_ _) | (with_reducible refine Kd.C_drewN ?_ _) | (with_reducible refine Kd.C_drew ?_) | exact HR483_0.out)) | (with_reducible refine Kd.C_alloc ?_ _) | (with_reducible refine Kd.C_drewN ?_ _) | (with_reducible refine Kd.C_drew ?_))); (case side4 => exact HC483_0.out); rintro e w' ⟨rfl, ⟨nd, rfl⟩⟩; (try first | exact ⟨rfl, _, World.drewN_drewN _ _ _⟩ | exact ⟨rfl, _, Eq.trans (World.drewN_drewN _ _ _) (congrArg (World.drewN _) (Nat.add_assoc _ _ _))⟩))); try go_wp2_with (first | (go_at_call 16; (with_reducible refine (psalteryref07_Same.calls k3 _ _ (rd_L1 t470 x15_3) _ _ (rd_L1 t474 x15_3) true _ ?side1 ?side2 ?side3 ?side4 A46.out).mono ?_); (case side1 => repeat (first | exact (by repeat (first | (with_reducible exact HR482_0.out) | (with_reducible refine Kd.C_alloc ?_ _) | (with_reducible refine Kd.C_drewN ?_ _) | (with_reducible refine Kd.C_drew ?_) | exact HR482_0.out)) | (with_reducible refine Kd.C_alloc ?_ _) | (with_reducible refine Kd.C_drewN ?_ _) | (with_reducible refine Kd.C_drew ?_))); (case side2 => exact HC482_0.out); (case side3 => repeat (first | exact (by repeat (first | (with_reducible exact HR483_0.out) | (with_reducible refine Kd.C_alloc ?_ _) | (with_reducible refine Kd.C_drewN ?_ _) | (with_reducible refine Kd.C_drew ?_) | exact HR483_0.out)) | (with_reducible refine Kd.C_alloc ?_ _) | (with_reducible refine Kd.C_drewN ?_ _) | (with_reducible refine Kd.C_drew ?_))); (case side4 => exact HC483_0.out); rintro e w' ⟨rfl, ⟨nd, rfl⟩⟩; (try first | exact ⟨rfl, _, World.drewN_drewN _ _ _⟩ | exact ⟨rfl, _, Eq.trans (World.drewN_drewN _ _ _) (congrArg (World.drewN _) (Nat.add_assoc _ _ _))⟩))))
                  go_roundg k3
                  case measure => have := HJ4.out; have := HJ21.out; have := HK3.out; omega
                  case rel => exact ⟨(wrap64 (x15_3 + 1)), (by first | rfl | (simp; done) | (simp [*]; done)), H', ⟨by have := HJ4.out; have := HJ21.out; have := HK3.out; omega⟩, ⟨by (with_reducible repeat (first | apply Kd.S_alloc | apply Kd.S_drewN | apply Kd.S_drew)); exact HO_11.out⟩, ⟨by (with_reducible repeat (first | apply Kd.S_alloc | apply Kd.S_drewN | apply Kd.S_drew)); exact HO_13.out⟩, ⟨by repeat (first | (with_reducible first | exact HB.out | apply ze | apply zd | apply zf) | exact HB.out)⟩⟩
                 ·
                  replace c47 := Bool.eq_false_iff.mpr c47
                  subst c47
                  have H1 : (none) = some r := by rw [if_neg (show ¬ (false = true) by decide)] at H; exact H
                  clear H
                  have H := H1
                  clear H1
                  exact absurd H (by simp)
                ·
                 rw [if_neg c45] at H
                 exact absurd H (by simp)
               ·
                rw [if_neg c44] at H
                exact absurd H (by simp)
             ·
              rw [if_neg c34] at H
              have c34b0 : decide (x15_3 < (t470.length : Int)) = false := decide_eq_false c34
              clear c34
              replace H := Option.bind_eq_some_iff.mp H
              obtain ⟨t485, A500, H⟩ := H
              replace H : (some t485) = some r := H
              have A50 := zm A500
              clear A500
              obtain rfl := Option.some.inj H
              obtain ⟨Ao51, co51, eo51⟩ := Kd.S_slice HO_11.out
              subst eo51
              go_wp2_with (first | (go_at_call 11; (with_reducible refine (psalterylaw09_knows.calls k3  t485 _ ?sideg A50.out).mono ?_); (case sideg => exact HG.out.below (by repeat (first | (with_reducible first | exact HB.out | apply ze | apply zd | apply zf) | exact HB.out))); rintro e w52 ⟨rfl, hb⟩; have n0_ := zm (Kd.S_below (by (with_reducible repeat (first | apply Kd.S_alloc | apply Kd.S_drewN | apply Kd.S_drew)); exact HO_11.out) hb); have n1_ := zm (Kd.S_below (by (with_reducible repeat (first | apply Kd.S_alloc | apply Kd.S_drewN | apply Kd.S_drew)); exact HO_13.out) hb); have n2_ := zm (zJ (by repeat (first | (with_reducible first | exact HB.out | apply ze | apply zd | apply zf) | exact HB.out)) hb); clear HO_11; clear HO_13; clear HB; have HO_11 := n0_; have HO_13 := n1_; have HB := n2_; clear n0_ n1_ n2_; (try clear hb); (try clear hb2); (try clear hk); (try clear hi)))
              repeat (go_quiet (first | (go_at_call 11; (with_reducible refine (psalterylaw09_knows.calls k3  t485 _ ?sideg A50.out).mono ?_); (case sideg => exact HG.out.below (by repeat (first | (with_reducible first | exact HB.out | apply ze | apply zd | apply zf) | exact HB.out))); rintro e w52 ⟨rfl, hb⟩; have n0_ := zm (Kd.S_below (by (with_reducible repeat (first | apply Kd.S_alloc | apply Kd.S_drewN | apply Kd.S_drew)); exact HO_11.out) hb); have n1_ := zm (Kd.S_below (by (with_reducible repeat (first | apply Kd.S_alloc | apply Kd.S_drewN | apply Kd.S_drew)); exact HO_13.out) hb); have n2_ := zm (zJ (by repeat (first | (with_reducible first | exact HB.out | apply ze | apply zd | apply zf) | exact HB.out)) hb); clear HO_11; clear HO_13; clear HB; have HO_11 := n0_; have HO_13 := n1_; have HB := n2_; clear n0_ n1_ n2_; (try clear hb); (try clear hb2); (try clear hk); (try clear hi))); try go_wp2_with (first | (go_at_call 11; (with_reducible refine (psalterylaw09_knows.calls k3  t485 _ ?sideg A50.out).mono ?_); (case sideg => exact HG.out.below (by repeat (first | (with_reducible first | exact HB.out | apply ze | apply zd | apply zf) | exact HB.out))); rintro e w52 ⟨rfl, hb⟩; have n0_ := zm (Kd.S_below (by (with_reducible repeat (first | apply Kd.S_alloc | apply Kd.S_drewN | apply Kd.S_drew)); exact HO_11.out) hb); have n1_ := zm (Kd.S_below (by (with_reducible repeat (first | apply Kd.S_alloc | apply Kd.S_drewN | apply Kd.S_drew)); exact HO_13.out) hb); have n2_ := zm (zJ (by repeat (first | (with_reducible first | exact HB.out | apply ze | apply zd | apply zf) | exact HB.out)) hb); clear HO_11; clear HO_13; clear HB; have HO_11 := n0_; have HO_13 := n1_; have HB := n2_; clear n0_ n1_ n2_; (try clear hb); (try clear hb2); (try clear hk); (try clear hi))))
              go_ret
              exact ⟨by first | rfl | (simp [errW_none, errW_some] <;> rfl) | (simp [*, errW_none, errW_some] <;> rfl), by repeat (first | (with_reducible first | exact HB.out | apply ze | apply zd | apply zf) | exact HB.out)⟩
       ·
        rw [if_neg c21] at H
        have c21b0 : (t471 == 0) = false := beq_eq_false_iff_ne.mpr c21
        have c21b1 : (t471 != 0) = true := bne_iff_ne.mpr c21
        replace H := Option.bind_eq_some_iff.mp H
        obtain ⟨t478, A530, H⟩ := H
        replace H : (some t478) = some r := H
        have A53 := zm A530
        clear A530
        obtain rfl := Option.some.inj H
        go_wp2_with (first | (go_at_call 26; (with_reducible refine (psalterylaw09_size.calls a3 t462 _ A14.out).mono ?_); rintro e w' ⟨rfl, ⟨nd, rfl⟩⟩; (try first | exact ⟨rfl, _, World.drewN_drewN _ _ _⟩ | exact ⟨rfl, _, Eq.trans (World.drewN_drewN _ _ _) (congrArg (World.drewN _) (Nat.add_assoc _ _ _))⟩)) | ((with_reducible refine gate_dst (N := 40) rfl ?_); (try (refine gate_guard (by rfl) ?_; dsimp only)); refine Kd.R_lit (Kd.int .i64) _ 2 ?hg (N := 40) ?hd (xs := ([] : List Int)) (inner := []) (ok := fun _ => True) (okp := fun _ => True) ?hr ?hp (fun _ hk => hk) trivial (Below.refl _ _) (Nat.le_refl _) (by simp) ?_; (case hd => rfl); (case hg => rfl); (case hr => first | (go_simp; done) | (go_simp; rfl)); (case hp => exact (Reps.none _ _)); intro v464 w54 ho55 hb hg_ hnew_; clear hg_ hnew_; (first | rw [← Ny463.out] at ho55 | (simp only [Int.reduceToNat] at ho55; rw [← Ny463.out] at ho55)); have n0_ := zm (Kd.R_lower ho55 (zE (by repeat (first | (with_reducible first | exact HB.out | apply ze | apply zd | apply zf) | exact HB.out)))); have n1_ := zm (zJ (by repeat (first | (with_reducible first | exact HB.out | apply ze | apply zd | apply zf) | exact HB.out)) hb); clear HB; have HO465 := n0_; have HB := n1_; clear n0_ n1_; clear hb ho55) | ((with_reducible refine gate_builtin (b := .append) (xs := #[.tmp 40, .tmp 41]) rfl ?_); (try (refine gate_guard (by rfl) ?_; dsimp only)); at_builtin; refine Kd.R_append_rows (Kd.int .i64) (w0 := w) w.heap.size rfl (.tmp 40) (.tmp 41) 22 2 (.int .i64 0) 8 rfl Tryd.underlying22 info2 rfl (by decide) (by omega) v464 y463 l0 _ _ _ (fun _ => True) (fun _ => False) rfl rfl ?aO ?aR (fun _ _ h => h) (fun _ h => h.elim) ?aF ?aB ?aS ?aL ?_; (case aR => repeat (first | exact (Kd.C_below HR0.out HB.out) | (with_reducible refine Kd.C_alloc ?_ _) | (with_reducible refine Kd.C_drewN ?_ _) | (with_reducible refine Kd.C_drew ?_))); (case aB => exact (by repeat (first | (with_reducible first | exact HB.out | apply ze | apply zd | apply zf) | exact HB.out))); (case aF => exact (fun _ _ => trivial)); (case aO => exact (by (with_reducible repeat (first | apply zo | apply zp | apply zq)); exact HO465.out)); (case aS => exact (zE (by repeat (first | (with_reducible first | exact HB.out | apply ze | apply zd | apply zf) | exact HB.out)))); (case aL => have := LMc15.out; omega); intro v467 w56 ho hb hg hat; rw [← Ny466.out] at ho; have n0_ := zm (hb); have n1_ := zm (ho); clear HB; clear HO465; have HB := n0_; have HO468 := n1_; clear n0_ n1_; clear ho hb hg hat; have p18 : 0 ≤ (a1 : Int) := of_decide_eq_true (by first | (with_reducible assumption) | assumption); have q18 : (a1 : Int) < ((y466.length : Int) : Int) := of_decide_eq_true (by first | (with_reducible assumption) | assumption); obtain ⟨go18, co18, eo18, gb18, gl18, cl18, HG18⟩ := Kd.R_form HO468.out (by omega); (first | cases eo18 | (injection eo18 with ea_ en_ ec_; (first | subst ea_ | (injection ea_ with ea_; subst ea_)); subst ec_; clear en_)); have GB18 := zm gb18; have GG18 := zm HG18; clear gb18 gl18 HG18; obtain ⟨hx18_0, hf18_0⟩ := Kd.R_celln 0 HO468.out (a1 : Int) p18 q18; replace p18 := eq_true p18; replace q18 := eq_true q18; obtain ⟨hy57_, hz57_⟩ := Kd.R_celln 0 HO468.out (a1 : Int) (of_decide_eq_true (by first | (with_reducible assumption) | assumption)) (of_decide_eq_true (by first | (with_reducible assumption) | assumption)); have HP57 := Kd.R_putg HO468.out (a1 : Int) a2) | ((with_reducible refine gate_store (t := 2) (p := 46) rfl ?_); (try (rw [drewN_self w56]; generalize hq_ : World.drewN w56 _ = w56; have n0_ := zm (Kd.R_at hq_ HO468.out); have n1_ := zm (below_at hq_ HB.out); clear hq_ HO468 HB; have HO468 := n0_; have HB := n1_; clear n0_ n1_; (try (obtain ⟨hy57_, hz57_⟩ := Kd.R_celln 0 HO468.out (a1 : Int) (of_decide_eq_true (by first | (with_reducible assumption) | assumption)) (of_decide_eq_true (by first | (with_reducible assumption) | assumption)))); (try (have HP57 := Kd.R_putg HO468.out (a1 : Int) a2)))); refine store_event (t := 2) (p := 46) (v := ?vo_w58) (w1 := (w56.setCell ⟨go18, (a1 : Int).toNat, none⟩ (.int .i64 a2))) ?hg ?ho ?hn ?hr ?_; (case ho => rfl); (case hg => rfl); (case hn => rfl); (case hr => first | (go_simp; done) | (go_simp; rfl)); intro w58 hw; have hg : w56.grownBy w58 (some go18) := (by rw [hw]; exact HP57.2); have hp_ : Kd.R (Kd.int .i64) 2 w58 w.heap.size (fun _ => True) (.slice (some ⟨go18, 0, none⟩) y466.length co18) y469 := (by rw [hw, Ny469.out]; exact HP57.1); clear HP57; have n0_ := zm (hp_); have n1_ := zm ((by rw [hw]; exact zk (HB.out) GB18.out : Below w.heap.size w w58)); clear HO468; clear HB; have HO468 := n0_; have HB := n1_; clear n0_ n1_; clear hg hw hp_) | (go_at_call 20; (with_reducible refine (lap_Frames.calls kj4 _ _ l0 t462 t470 t471 _ ?side1 ?side2 ?sideg A19.out).mono ?_); (case sideg => exact HG.out.below (by repeat (first | (with_reducible first | exact HB.out | apply ze | apply zd | apply zf) | exact HB.out))); (case side1 => repeat (first | exact (Kd.C_below HR0.out HB.out) | (with_reducible refine Kd.C_alloc ?_ _) | (with_reducible refine Kd.C_drewN ?_ _) | (with_reducible refine Kd.C_drew ?_))); (case side2 => exact HC0.out); rintro e w59 ⟨v472, rfl, ho0, hb⟩; have n0_ := zm (Kd.R_below (by (with_reducible repeat (first | apply zo | apply zp | apply zq)); exact HO468.out) hb); have n1_ := zm (Kd.S_lower (Kd.S_new' ho0 (Kd.R_lt (by (with_reducible repeat (first | apply zo | apply zp | apply zq)); exact HO468.out))) (zE (by repeat (first | (with_reducible first | exact HB.out | apply ze | apply zd | apply zf) | exact HB.out)))); have n2_ := zm (zJ (by repeat (first | (with_reducible first | exact HB.out | apply ze | apply zd | apply zf) | exact HB.out)) hb); clear HO468; clear HB; have HO468 := n0_; have HO473 := n1_; have HB := n2_; clear n0_ n1_ n2_; (try clear hb); (try clear hb2); (try clear hk); (try clear hi); (try clear ho0)) | (go_at_call 20; refine calls_of_args (args' := #[.slice (some ⟨go18, 0, none⟩) y469.length co18, .int .i64 t462]) (by first | (rw [show y469.length = y466.length from (Kd.R_reads' HO468.out).1.symm] <;> rfl) | rfl) ?_; (with_reducible refine (lap_Frames.calls kj4 _ _ y469 t462 t474 t475 _ ?side1 ?side2 ?sideg A20.out).mono ?_); (case sideg => exact HG.out.below (by repeat (first | (with_reducible first | exact HB.out | apply ze | apply zd | apply zf) | exact HB.out))); (case side1 => repeat (first | exact (Kd.R_reads' HO468.out).2.2 | (with_reducible refine Kd.C_alloc ?_ _) | (with_reducible refine Kd.C_drewN ?_ _) | (with_reducible refine Kd.C_drew ?_))); (case side2 => rw [show y469.length = y466.length from (Kd.R_reads' HO468.out).1.symm]; exact (Kd.R_reads' HO468.out).2.1); rintro e w60 ⟨v476, rfl, ho0, hb⟩; have n0_ := zm (Kd.R_below (by (with_reducible repeat (first | apply zo | apply zp | apply zq)); exact HO468.out) hb); have n1_ := zm (Kd.S_elder' (by (with_reducible repeat (first | apply Kd.S_alloc | apply Kd.S_drewN | apply Kd.S_drew)); exact HO473.out) (Kd.S_base ho0) hb); have n2_ := zm (Kd.S_lower (Kd.S_new' (Kd.S_new' ho0 (Kd.R_lt (by (with_reducible repeat (first | apply zo | apply zp | apply zq)); exact HO468.out))) (Kd.S_lt (by (with_reducible repeat (first | apply Kd.S_alloc | apply Kd.S_drewN | apply Kd.S_drew)); exact HO473.out))) (zE (by repeat (first | (with_reducible first | exact HB.out | apply ze | apply zd | apply zf) | exact HB.out)))); have n3_ := zm (zJ (by repeat (first | (with_reducible first | exact HB.out | apply ze | apply zd | apply zf) | exact HB.out)) hb); clear HO468; clear HO473; clear HB; have HO468 := n0_; have HO473 := n1_; have HO477 := n2_; have HB := n3_; clear n0_ n1_ n2_ n3_; (try clear hb); (try clear hb2); (try clear hk); (try clear hi); (try clear ho0)) | (go_at_call 11; (with_reducible refine (psalterylaw09_knows.calls kj4  t478 _ ?sideg A53.out).mono ?_); (case sideg => exact HG.out.below (by repeat (first | (with_reducible first | exact HB.out | apply ze | apply zd | apply zf) | exact HB.out))); rintro e w61 ⟨rfl, hb⟩; have n0_ := zm (Kd.R_below (by (with_reducible repeat (first | apply zo | apply zp | apply zq)); exact HO468.out) hb); have n1_ := zm (Kd.S_below (by (with_reducible repeat (first | apply Kd.S_alloc | apply Kd.S_drewN | apply Kd.S_drew)); exact HO473.out) hb); have n2_ := zm (Kd.S_below (by (with_reducible repeat (first | apply Kd.S_alloc | apply Kd.S_drewN | apply Kd.S_drew)); exact HO477.out) hb); have n3_ := zm (zJ (by repeat (first | (with_reducible first | exact HB.out | apply ze | apply zd | apply zf) | exact HB.out)) hb); clear HO468; clear HO473; clear HO477; clear HB; have HO468 := n0_; have HO473 := n1_; have HO477 := n2_; have HB := n3_; clear n0_ n1_ n2_ n3_; (try clear hb); (try clear hb2); (try clear hk); (try clear hi)))
        repeat (go_quiet (first | (go_at_call 26; (with_reducible refine (psalterylaw09_size.calls a3 t462 _ A14.out).mono ?_); rintro e w' ⟨rfl, ⟨nd, rfl⟩⟩; (try first | exact ⟨rfl, _, World.drewN_drewN _ _ _⟩ | exact ⟨rfl, _, Eq.trans (World.drewN_drewN _ _ _) (congrArg (World.drewN _) (Nat.add_assoc _ _ _))⟩)) | ((with_reducible refine gate_dst (N := 40) rfl ?_); (try (refine gate_guard (by rfl) ?_; dsimp only)); refine Kd.R_lit (Kd.int .i64) _ 2 ?hg (N := 40) ?hd (xs := ([] : List Int)) (inner := []) (ok := fun _ => True) (okp := fun _ => True) ?hr ?hp (fun _ hk => hk) trivial (Below.refl _ _) (Nat.le_refl _) (by simp) ?_; (case hd => rfl); (case hg => rfl); (case hr => first | (go_simp; done) | (go_simp; rfl)); (case hp => exact (Reps.none _ _)); intro v464 w54 ho55 hb hg_ hnew_; clear hg_ hnew_; (first | rw [← Ny463.out] at ho55 | (simp only [Int.reduceToNat] at ho55; rw [← Ny463.out] at ho55)); have n0_ := zm (Kd.R_lower ho55 (zE (by repeat (first | (with_reducible first | exact HB.out | apply ze | apply zd | apply zf) | exact HB.out)))); have n1_ := zm (zJ (by repeat (first | (with_reducible first | exact HB.out | apply ze | apply zd | apply zf) | exact HB.out)) hb); clear HB; have HO465 := n0_; have HB := n1_; clear n0_ n1_; clear hb ho55) | ((with_reducible refine gate_builtin (b := .append) (xs := #[.tmp 40, .tmp 41]) rfl ?_); (try (refine gate_guard (by rfl) ?_; dsimp only)); at_builtin; refine Kd.R_append_rows (Kd.int .i64) (w0 := w) w.heap.size rfl (.tmp 40) (.tmp 41) 22 2 (.int .i64 0) 8 rfl Tryd.underlying22 info2 rfl (by decide) (by omega) v464 y463 l0 _ _ _ (fun _ => True) (fun _ => False) rfl rfl ?aO ?aR (fun _ _ h => h) (fun _ h => h.elim) ?aF ?aB ?aS ?aL ?_; (case aR => repeat (first | exact (Kd.C_below HR0.out HB.out) | (with_reducible refine Kd.C_alloc ?_ _) | (with_reducible refine Kd.C_drewN ?_ _) | (with_reducible refine Kd.C_drew ?_))); (case aB => exact (by repeat (first | (with_reducible first | exact HB.out | apply ze | apply zd | apply zf) | exact HB.out))); (case aF => exact (fun _ _ => trivial)); (case aO => exact (by (with_reducible repeat (first | apply zo | apply zp | apply zq)); exact HO465.out)); (case aS => exact (zE (by repeat (first | (with_reducible first | exact HB.out | apply ze | apply zd | apply zf) | exact HB.out)))); (case aL => have := LMc15.out; omega); intro v467 w56 ho hb hg hat; rw [← Ny466.out] at ho; have n0_ := zm (hb); have n1_ := zm (ho); clear HB; clear HO465; have HB := n0_; have HO468 := n1_; clear n0_ n1_; clear ho hb hg hat; have p18 : 0 ≤ (a1 : Int) := of_decide_eq_true (by first | (with_reducible assumption) | assumption); have q18 : (a1 : Int) < ((y466.length : Int) : Int) := of_decide_eq_true (by first | (with_reducible assumption) | assumption); obtain ⟨go18, co18, eo18, gb18, gl18, cl18, HG18⟩ := Kd.R_form HO468.out (by omega); (first | cases eo18 | (injection eo18 with ea_ en_ ec_; (first | subst ea_ | (injection ea_ with ea_; subst ea_)); subst ec_; clear en_)); have GB18 := zm gb18; have GG18 := zm HG18; clear gb18 gl18 HG18; obtain ⟨hx18_0, hf18_0⟩ := Kd.R_celln 0 HO468.out (a1 : Int) p18 q18; replace p18 := eq_true p18; replace q18 := eq_true q18; obtain ⟨hy57_, hz57_⟩ := Kd.R_celln 0 HO468.out (a1 : Int) (of_decide_eq_true (by first | (with_reducible assumption) | assumption)) (of_decide_eq_true (by first | (with_reducible assumption) | assumption)); have HP57 := Kd.R_putg HO468.out (a1 : Int) a2) | ((with_reducible refine gate_store (t := 2) (p := 46) rfl ?_); (try (rw [drewN_self w56]; generalize hq_ : World.drewN w56 _ = w56; have n0_ := zm (Kd.R_at hq_ HO468.out); have n1_ := zm (below_at hq_ HB.out); clear hq_ HO468 HB; have HO468 := n0_; have HB := n1_; clear n0_ n1_; (try (obtain ⟨hy57_, hz57_⟩ := Kd.R_celln 0 HO468.out (a1 : Int) (of_decide_eq_true (by first | (with_reducible assumption) | assumption)) (of_decide_eq_true (by first | (with_reducible assumption) | assumption)))); (try (have HP57 := Kd.R_putg HO468.out (a1 : Int) a2)))); refine store_event (t := 2) (p := 46) (v := ?vo_w58) (w1 := (w56.setCell ⟨go18, (a1 : Int).toNat, none⟩ (.int .i64 a2))) ?hg ?ho ?hn ?hr ?_; (case ho => rfl); (case hg => rfl); (case hn => rfl); (case hr => first | (go_simp; done) | (go_simp; rfl)); intro w58 hw; have hg : w56.grownBy w58 (some go18) := (by rw [hw]; exact HP57.2); have hp_ : Kd.R (Kd.int .i64) 2 w58 w.heap.size (fun _ => True) (.slice (some ⟨go18, 0, none⟩) y466.length co18) y469 := (by rw [hw, Ny469.out]; exact HP57.1); clear HP57; have n0_ := zm (hp_); have n1_ := zm ((by rw [hw]; exact zk (HB.out) GB18.out : Below w.heap.size w w58)); clear HO468; clear HB; have HO468 := n0_; have HB := n1_; clear n0_ n1_; clear hg hw hp_) | (go_at_call 20; (with_reducible refine (lap_Frames.calls kj4 _ _ l0 t462 t470 t471 _ ?side1 ?side2 ?sideg A19.out).mono ?_); (case sideg => exact HG.out.below (by repeat (first | (with_reducible first | exact HB.out | apply ze | apply zd | apply zf) | exact HB.out))); (case side1 => repeat (first | exact (Kd.C_below HR0.out HB.out) | (with_reducible refine Kd.C_alloc ?_ _) | (with_reducible refine Kd.C_drewN ?_ _) | (with_reducible refine Kd.C_drew ?_))); (case side2 => exact HC0.out); rintro e w59 ⟨v472, rfl, ho0, hb⟩; have n0_ := zm (Kd.R_below (by (with_reducible repeat (first | apply zo | apply zp | apply zq)); exact HO468.out) hb); have n1_ := zm (Kd.S_lower (Kd.S_new' ho0 (Kd.R_lt (by (with_reducible repeat (first | apply zo | apply zp | apply zq)); exact HO468.out))) (zE (by repeat (first | (with_reducible first | exact HB.out | apply ze | apply zd | apply zf) | exact HB.out)))); have n2_ := zm (zJ (by repeat (first | (with_reducible first | exact HB.out | apply ze | apply zd | apply zf) | exact HB.out)) hb); clear HO468; clear HB; have HO468 := n0_; have HO473 := n1_; have HB := n2_; clear n0_ n1_ n2_; (try clear hb); (try clear hb2); (try clear hk); (try clear hi); (try clear ho0)) | (go_at_call 20; refine calls_of_args (args' := #[.slice (some ⟨go18, 0, none⟩) y469.length co18, .int .i64 t462]) (by first | (rw [show y469.length = y466.length from (Kd.R_reads' HO468.out).1.symm] <;> rfl) | rfl) ?_; (with_reducible refine (lap_Frames.calls kj4 _ _ y469 t462 t474 t475 _ ?side1 ?side2 ?sideg A20.out).mono ?_); (case sideg => exact HG.out.below (by repeat (first | (with_reducible first | exact HB.out | apply ze | apply zd | apply zf) | exact HB.out))); (case side1 => repeat (first | exact (Kd.R_reads' HO468.out).2.2 | (with_reducible refine Kd.C_alloc ?_ _) | (with_reducible refine Kd.C_drewN ?_ _) | (with_reducible refine Kd.C_drew ?_))); (case side2 => rw [show y469.length = y466.length from (Kd.R_reads' HO468.out).1.symm]; exact (Kd.R_reads' HO468.out).2.1); rintro e w60 ⟨v476, rfl, ho0, hb⟩; have n0_ := zm (Kd.R_below (by (with_reducible repeat (first | apply zo | apply zp | apply zq)); exact HO468.out) hb); have n1_ := zm (Kd.S_elder' (by (with_reducible repeat (first | apply Kd.S_alloc | apply Kd.S_drewN | apply Kd.S_drew)); exact HO473.out) (Kd.S_base ho0) hb); have n2_ := zm (Kd.S_lower (Kd.S_new' (Kd.S_new' ho0 (Kd.R_lt (by (with_reducible repeat (first | apply zo | apply zp | apply zq)); exact HO468.out))) (Kd.S_lt (by (with_reducible repeat (first | apply Kd.S_alloc | apply Kd.S_drewN | apply Kd.S_drew)); exact HO473.out))) (zE (by repeat (first | (with_reducible first | exact HB.out | apply ze | apply zd | apply zf) | exact HB.out)))); have n3_ := zm (zJ (by repeat (first | (with_reducible first | exact HB.out | apply ze | apply zd | apply zf) | exact HB.out)) hb); clear HO468; clear HO473; clear HB; have HO468 := n0_; have HO473 := n1_; have HO477 := n2_; have HB := n3_; clear n0_ n1_ n2_ n3_; (try clear hb); (try clear hb2); (try clear hk); (try clear hi); (try clear ho0)) | (go_at_call 11; (with_reducible refine (psalterylaw09_knows.calls kj4  t478 _ ?sideg A53.out).mono ?_); (case sideg => exact HG.out.below (by repeat (first | (with_reducible first | exact HB.out | apply ze | apply zd | apply zf) | exact HB.out))); rintro e w61 ⟨rfl, hb⟩; have n0_ := zm (Kd.R_below (by (with_reducible repeat (first | apply zo | apply zp | apply zq)); exact HO468.out) hb); have n1_ := zm (Kd.S_below (by (with_reducible repeat (first | apply Kd.S_alloc | apply Kd.S_drewN | apply Kd.S_drew)); exact HO473.out) hb); have n2_ := zm (Kd.S_below (by (with_reducible repeat (first | apply Kd.S_alloc | apply Kd.S_drewN | apply Kd.S_drew)); exact HO477.out) hb); have n3_ := zm (zJ (by repeat (first | (with_reducible first | exact HB.out | apply ze | apply zd | apply zf) | exact HB.out)) hb); clear HO468; clear HO473; clear HO477; clear HB; have HO468 := n0_; have HO473 := n1_; have HO477 := n2_; have HB := n3_; clear n0_ n1_ n2_ n3_; (try clear hb); (try clear hb2); (try clear hk); (try clear hi))); try go_wp2_with (first | (go_at_call 26; (with_reducible refine (psalterylaw09_size.calls a3 t462 _ A14.out).mono ?_); rintro e w' ⟨rfl, ⟨nd, rfl⟩⟩; (try first | exact ⟨rfl, _, World.drewN_drewN _ _ _⟩ | exact ⟨rfl, _, Eq.trans (World.drewN_drewN _ _ _) (congrArg (World.drewN _) (Nat.add_assoc _ _ _))⟩)) | ((with_reducible refine gate_dst (N := 40) rfl ?_); (try (refine gate_guard (by rfl) ?_; dsimp only)); refine Kd.R_lit (Kd.int .i64) _ 2 ?hg (N := 40) ?hd (xs := ([] : List Int)) (inner := []) (ok := fun _ => True) (okp := fun _ => True) ?hr ?hp (fun _ hk => hk) trivial (Below.refl _ _) (Nat.le_refl _) (by simp) ?_; (case hd => rfl); (case hg => rfl); (case hr => first | (go_simp; done) | (go_simp; rfl)); (case hp => exact (Reps.none _ _)); intro v464 w54 ho55 hb hg_ hnew_; clear hg_ hnew_; (first | rw [← Ny463.out] at ho55 | (simp only [Int.reduceToNat] at ho55; rw [← Ny463.out] at ho55)); have n0_ := zm (Kd.R_lower ho55 (zE (by repeat (first | (with_reducible first | exact HB.out | apply ze | apply zd | apply zf) | exact HB.out)))); have n1_ := zm (zJ (by repeat (first | (with_reducible first | exact HB.out | apply ze | apply zd | apply zf) | exact HB.out)) hb); clear HB; have HO465 := n0_; have HB := n1_; clear n0_ n1_; clear hb ho55) | ((with_reducible refine gate_builtin (b := .append) (xs := #[.tmp 40, .tmp 41]) rfl ?_); (try (refine gate_guard (by rfl) ?_; dsimp only)); at_builtin; refine Kd.R_append_rows (Kd.int .i64) (w0 := w) w.heap.size rfl (.tmp 40) (.tmp 41) 22 2 (.int .i64 0) 8 rfl Tryd.underlying22 info2 rfl (by decide) (by omega) v464 y463 l0 _ _ _ (fun _ => True) (fun _ => False) rfl rfl ?aO ?aR (fun _ _ h => h) (fun _ h => h.elim) ?aF ?aB ?aS ?aL ?_; (case aR => repeat (first | exact (Kd.C_below HR0.out HB.out) | (with_reducible refine Kd.C_alloc ?_ _) | (with_reducible refine Kd.C_drewN ?_ _) | (with_reducible refine Kd.C_drew ?_))); (case aB => exact (by repeat (first | (with_reducible first | exact HB.out | apply ze | apply zd | apply zf) | exact HB.out))); (case aF => exact (fun _ _ => trivial)); (case aO => exact (by (with_reducible repeat (first | apply zo | apply zp | apply zq)); exact HO465.out)); (case aS => exact (zE (by repeat (first | (with_reducible first | exact HB.out | apply ze | apply zd | apply zf) | exact HB.out)))); (case aL => have := LMc15.out; omega); intro v467 w56 ho hb hg hat; rw [← Ny466.out] at ho; have n0_ := zm (hb); have n1_ := zm (ho); clear HB; clear HO465; have HB := n0_; have HO468 := n1_; clear n0_ n1_; clear ho hb hg hat; have p18 : 0 ≤ (a1 : Int) := of_decide_eq_true (by first | (with_reducible assumption) | assumption); have q18 : (a1 : Int) < ((y466.length : Int) : Int) := of_decide_eq_true (by first | (with_reducible assumption) | assumption); obtain ⟨go18, co18, eo18, gb18, gl18, cl18, HG18⟩ := Kd.R_form HO468.out (by omega); (first | cases eo18 | (injection eo18 with ea_ en_ ec_; (first | subst ea_ | (injection ea_ with ea_; subst ea_)); subst ec_; clear en_)); have GB18 := zm gb18; have GG18 := zm HG18; clear gb18 gl18 HG18; obtain ⟨hx18_0, hf18_0⟩ := Kd.R_celln 0 HO468.out (a1 : Int) p18 q18; replace p18 := eq_true p18; replace q18 := eq_true q18; obtain ⟨hy57_, hz57_⟩ := Kd.R_celln 0 HO468.out (a1 : Int) (of_decide_eq_true (by first | (with_reducible assumption) | assumption)) (of_decide_eq_true (by first | (with_reducible assumption) | assumption)); have HP57 := Kd.R_putg HO468.out (a1 : Int) a2) | ((with_reducible refine gate_store (t := 2) (p := 46) rfl ?_); (try (rw [drewN_self w56]; generalize hq_ : World.drewN w56 _ = w56; have n0_ := zm (Kd.R_at hq_ HO468.out); have n1_ := zm (below_at hq_ HB.out); clear hq_ HO468 HB; have HO468 := n0_; have HB := n1_; clear n0_ n1_; (try (obtain ⟨hy57_, hz57_⟩ := Kd.R_celln 0 HO468.out (a1 : Int) (of_decide_eq_true (by first | (with_reducible assumption) | assumption)) (of_decide_eq_true (by first | (with_reducible assumption) | assumption)))); (try (have HP57 := Kd.R_putg HO468.out (a1 : Int) a2)))); refine store_event (t := 2) (p := 46) (v := ?vo_w58) (w1 := (w56.setCell ⟨go18, (a1 : Int).toNat, none⟩ (.int .i64 a2))) ?hg ?ho ?hn ?hr ?_; (case ho => rfl); (case hg => rfl); (case hn => rfl); (case hr => first | (go_simp; done) | (go_simp; rfl)); intro w58 hw; have hg : w56.grownBy w58 (some go18) := (by rw [hw]; exact HP57.2); have hp_ : Kd.R (Kd.int .i64) 2 w58 w.heap.size (fun _ => True) (.slice (some ⟨go18, 0, none⟩) y466.length co18) y469 := (by rw [hw, Ny469.out]; exact HP57.1); clear HP57; have n0_ := zm (hp_); have n1_ := zm ((by rw [hw]; exact zk (HB.out) GB18.out : Below w.heap.size w w58)); clear HO468; clear HB; have HO468 := n0_; have HB := n1_; clear n0_ n1_; clear hg hw hp_) | (go_at_call 20; (with_reducible refine (lap_Frames.calls kj4 _ _ l0 t462 t470 t471 _ ?side1 ?side2 ?sideg A19.out).mono ?_); (case sideg => exact HG.out.below (by repeat (first | (with_reducible first | exact HB.out | apply ze | apply zd | apply zf) | exact HB.out))); (case side1 => repeat (first | exact (Kd.C_below HR0.out HB.out) | (with_reducible refine Kd.C_alloc ?_ _) | (with_reducible refine Kd.C_drewN ?_ _) | (with_reducible refine Kd.C_drew ?_))); (case side2 => exact HC0.out); rintro e w59 ⟨v472, rfl, ho0, hb⟩; have n0_ := zm (Kd.R_below (by (with_reducible repeat (first | apply zo | apply zp | apply zq)); exact HO468.out) hb); have n1_ := zm (Kd.S_lower (Kd.S_new' ho0 (Kd.R_lt (by (with_reducible repeat (first | apply zo | apply zp | apply zq)); exact HO468.out))) (zE (by repeat (first | (with_reducible first | exact HB.out | apply ze | apply zd | apply zf) | exact HB.out)))); have n2_ := zm (zJ (by repeat (first | (with_reducible first | exact HB.out | apply ze | apply zd | apply zf) | exact HB.out)) hb); clear HO468; clear HB; have HO468 := n0_; have HO473 := n1_; have HB := n2_; clear n0_ n1_ n2_; (try clear hb); (try clear hb2); (try clear hk); (try clear hi); (try clear ho0)) | (go_at_call 20; refine calls_of_args (args' := #[.slice (some ⟨go18, 0, none⟩) y469.length co18, .int .i64 t462]) (by first | (rw [show y469.length = y466.length from (Kd.R_reads' HO468.out).1.symm] <;> rfl) | rfl) ?_; (with_reducible refine (lap_Frames.calls kj4 _ _ y469 t462 t474 t475 _ ?side1 ?side2 ?sideg A20.out).mono ?_); (case sideg => exact HG.out.below (by repeat (first | (with_reducible first | exact HB.out | apply ze | apply zd | apply zf) | exact HB.out))); (case side1 => repeat (first | exact (Kd.R_reads' HO468.out).2.2 | (with_reducible refine Kd.C_alloc ?_ _) | (with_reducible refine Kd.C_drewN ?_ _) | (with_reducible refine Kd.C_drew ?_))); (case side2 => rw [show y469.length = y466.length from (Kd.R_reads' HO468.out).1.symm]; exact (Kd.R_reads' HO468.out).2.1); rintro e w60 ⟨v476, rfl, ho0, hb⟩; have n0_ := zm (Kd.R_below (by (with_reducible repeat (first | apply zo | apply zp | apply zq)); exact HO468.out) hb); have n1_ := zm (Kd.S_elder' (by (with_reducible repeat (first | apply Kd.S_alloc | apply Kd.S_drewN | apply Kd.S_drew)); exact HO473.out) (Kd.S_base ho0) hb); have n2_ := zm (Kd.S_lower (Kd.S_new' (Kd.S_new' ho0 (Kd.R_lt (by (with_reducible repeat (first | apply zo | apply zp | apply zq)); exact HO468.out))) (Kd.S_lt (by (with_reducible repeat (first | apply Kd.S_alloc | apply Kd.S_drewN | apply Kd.S_drew)); exact HO473.out))) (zE (by repeat (first | (with_reducible first | exact HB.out | apply ze | apply zd | apply zf) | exact HB.out)))); have n3_ := zm (zJ (by repeat (first | (with_reducible first | exact HB.out | apply ze | apply zd | apply zf) | exact HB.out)) hb); clear HO468; clear HO473; clear HB; have HO468 := n0_; have HO473 := n1_; have HO477 := n2_; have HB := n3_; clear n0_ n1_ n2_ n3_; (try clear hb); (try clear hb2); (try clear hk); (try clear hi); (try clear ho0)) | (go_at_call 11; (with_reducible refine (psalterylaw09_knows.calls kj4  t478 _ ?sideg A53.out).mono ?_); (case sideg => exact HG.out.below (by repeat (first | (with_reducible first | exact HB.out | apply ze | apply zd | apply zf) | exact HB.out))); rintro e w61 ⟨rfl, hb⟩; have n0_ := zm (Kd.R_below (by (with_reducible repeat (first | apply zo | apply zp | apply zq)); exact HO468.out) hb); have n1_ := zm (Kd.S_below (by (with_reducible repeat (first | apply Kd.S_alloc | apply Kd.S_drewN | apply Kd.S_drew)); exact HO473.out) hb); have n2_ := zm (Kd.S_below (by (with_reducible repeat (first | apply Kd.S_alloc | apply Kd.S_drewN | apply Kd.S_drew)); exact HO477.out) hb); have n3_ := zm (zJ (by repeat (first | (with_reducible first | exact HB.out | apply ze | apply zd | apply zf) | exact HB.out)) hb); clear HO468; clear HO473; clear HO477; clear HB; have HO468 := n0_; have HO473 := n1_; have HO477 := n2_; have HB := n3_; clear n0_ n1_ n2_ n3_; (try clear hb); (try clear hb2); (try clear hk); (try clear hi))))
        go_ret
        exact ⟨by first | rfl | (simp [errW_none, errW_some] <;> rfl) | (simp [*, errW_none, errW_some] <;> rfl), by repeat (first | (with_reducible first | exact HB.out | apply ze | apply zd | apply zf) | exact HB.out)⟩
      ·
       rw [if_neg c17] at H
       exact absurd H (by simp)
     ·
      rw [if_neg c16] at H
      exact absurd H (by simp)
    ·
     rw [if_neg c15] at H
     exact absurd H (by simp)


end Go.Proofs.YtllchhcdpfiodaaDoor.Prt

namespace Go.Proofs.YtllchhcdpfiodaaDoor.Prt
open Go.RowKit Go.Proofs.YtllchhcdpfiodaaDoorW.PrintWords Go.Proofs.YtllchhcdpfiodaaDoorW.PrintLast Go.Proofs.YtllchhcdpfiodaaDoorW.PrintMore
attribute [local go_sem] max2_int min2_int max_two min_two max_three min_three max_four min_four   -- for this text's walks alone
set_option linter.unusedVariables false
set_option linter.unusedSimpArgs false

/-! ### psalteryref03_Shift: function 41 -/
def psalteryref03_Shift.l0 : Nat → Int → Int → Int → Option (Int)
 | 0, _, _, _ => none
 | k + 1, x0, x1, x5 => if x5 < x1 then (if (wrap64 ((wrap64 (Int.tdiv x0 2)) * 2)) > x0 then (psalteryref03_Shift.l0 k (wrap64 ((wrap64 (Int.tdiv x0 2)) - 1)) x1 (wrap64 (x5 + 1))) else (psalteryref03_Shift.l0 k (wrap64 (Int.tdiv x0 2)) x1 (wrap64 (x5 + 1)))) else (some x0)
def psalteryref03_Shift.f (k : Nat) (a0 : Int) (a1 : Int) : Option (Int) := psalteryref03_Shift.l0 k a0 a1 0
theorem psalteryref03_Shift.mono_l : ∀ k, (∀ y0 y1 y2, LeO (psalteryref03_Shift.l0 k y0 y1 y2) (psalteryref03_Shift.l0 (k + 1) y0 y1 y2))
 | 0 => fun _ _ _ r h => by simp [psalteryref03_Shift.l0] at h
 | k + 1 => by
  have ih0 := psalteryref03_Shift.mono_l k
  ·
   intro y0 y1 y2
   unfold psalteryref03_Shift.l0
   repeat' first
   | (with_reducible exact ih0 _ _ _)
   | (with_reducible exact LeO.refl _)
   | (with_reducible exact LeO.none _)
   | (with_reducible refine LeO.ite ?_ ?_)
   | (with_reducible refine LeO.bind ?_ (fun _ => ?_))
   | exact ih0 _ _ _
   | exact LeO.none _
   | refine LeO.ite ?_ ?_
   | refine LeO.bind ?_ (fun _ => ?_)
theorem psalteryref03_Shift.mono : ∀ a0 a1 k, LeO (psalteryref03_Shift.f k a0 a1) (psalteryref03_Shift.f (k + 1) a0 a1) := by
 intro a0 a1 k
 have ih0 := psalteryref03_Shift.mono_l k
 unfold psalteryref03_Shift.f
 repeat' first
   | (with_reducible exact ih0 _ _ _)
   | (with_reducible exact LeO.refl _)
   | (with_reducible exact LeO.none _)
   | (with_reducible refine LeO.ite ?_ ?_)
   | (with_reducible refine LeO.bind ?_ (fun _ => ?_))
   | exact ih0 _ _ _
   | exact LeO.none _
   | refine LeO.ite ?_ ?_
   | refine LeO.bind ?_ (fun _ => ?_)
set_option maxHeartbeats 8000000 in
set_option maxRecDepth 100000 in
theorem psalteryref03_Shift.calls (k : Nat) (a0 : Int) (a1 : Int) (r : Int) (w : World) (h : psalteryref03_Shift.f k a0 a1 = some r) :
  Calls Tryd.prog 41 #[.int .i64 a0, .int .i64 a1] w fun e w' => e = .returned (.int .i64 r) ∧ Drawn0 w w' := by
 have H : (psalteryref03_Shift.l0 k a0 a1 0) = some r := h
 clear h
 have H' := zm H
 clear H
 go_enter Tryd.func41, Tryd.ntmps41
 go_wp2
 go_loopg [0, 5] k (fun kq v0 v5 w' => ∃ (x0_1 : Int) (x5_1 : Int), v0 = .int .i64 x0_1 ∧ v5 = .int .i64 x5_1 ∧ Aside0 (psalteryref03_Shift.l0 kq x0_1 a1 x5_1 = some r) ∧ Aside0 (kq ≤ k) ∧ Drawn0 w w')
 case atStart => exact ⟨(a0), (0), (by first | rfl | (simp; done) | (simp [*]; done)), (by first | rfl | (simp; done) | (simp [*]; done)), H', ⟨Nat.le_refl _⟩, by repeat (first | exact Drawn0.refl _ | apply Drawn0.step)⟩
 case round =>
  clear H'
  try clear p2
  obtain ⟨x0_1, x5_1, rfl, rfl, HA, HK1, ⟨m1, rfl⟩⟩ := hrel
  cases gk with
  | zero => exact absurd HA.out (by simp [psalteryref03_Shift.l0])
  | succ k1 =>
   have H := HA.out
   clear HA
   simp only [psalteryref03_Shift.l0] at H
   by_cases c3 : x5_1 < a1
   ·
    rw [if_pos c3] at H
    have c3b0 : decide (x5_1 < a1) = true := decide_eq_true c3
    clear c3
    by_cases c4 : (wrap64 ((wrap64 (Int.tdiv x0_1 2)) * 2)) > x0_1
    ·
     rw [if_pos c4] at H
     have c4b0 : decide (x0_1 < (wrap64 ((wrap64 (Int.tdiv x0_1 2)) * 2))) = true := decide_eq_true c4
     clear c4
     have H' := zm H
     clear H
     go_wp2
     go_roundg k1
     case measure => have := HK1.out; omega
     case rel => exact ⟨(wrap64 ((wrap64 (Int.tdiv x0_1 2)) - 1)), (wrap64 (x5_1 + 1)), (by first | rfl | (simp; done) | (simp [*]; done)), (by first | rfl | (simp; done) | (simp [*]; done)), H', ⟨by have := HK1.out; omega⟩, by repeat (first | exact Drawn0.refl _ | apply Drawn0.step)⟩
    ·
     rw [if_neg c4] at H
     have c4b0 : decide (x0_1 < (wrap64 ((wrap64 (Int.tdiv x0_1 2)) * 2))) = false := decide_eq_false c4
     clear c4
     have H' := zm H
     clear H
     go_wp2
     go_roundg k1
     case measure => have := HK1.out; omega
     case rel => exact ⟨(wrap64 (Int.tdiv x0_1 2)), (wrap64 (x5_1 + 1)), (by first | rfl | (simp; done) | (simp [*]; done)), (by first | rfl | (simp; done) | (simp [*]; done)), H', ⟨by have := HK1.out; omega⟩, by repeat (first | exact Drawn0.refl _ | apply Drawn0.step)⟩
   ·
    rw [if_neg c3] at H
    have c3b0 : decide (x5_1 < a1) = false := decide_eq_false c3
    clear c3
    obtain rfl := Option.some.inj H
    go_wp2
    go_ret
    exact ⟨by first | rfl | (simp; done) | (simp [*]; done), by repeat (first | exact Drawn0.refl _ | apply Drawn0.step)⟩

end Go.Proofs.YtllchhcdpfiodaaDoor.Prt

namespace Go.Proofs.YtllchhcdpfiodaaDoor.Prt
open Go.RowKit Go.Proofs.YtllchhcdpfiodaaDoorW.PrintWords Go.Proofs.YtllchhcdpfiodaaDoorW.PrintLast Go.Proofs.YtllchhcdpfiodaaDoorW.PrintMore
attribute [local go_sem] max2_int min2_int max_two min_two max_three min_three max_four min_four   -- for this text's walks alone
set_option linter.unusedVariables false
set_option linter.unusedSimpArgs false

/-! ### psalteryref08_Forward: function 35 -/
mutual
def psalteryref08_Forward.l0 : Nat → List Int → List Int → Option (List Int)
 | 0, _, _ => none
 | k + 1, x3, x4 => if (x4.length : Int) > 1 then (psalteryref08_Forward.l1 k x3 x4 ([] : List Int) ([] : List Int) 0) else (if 0 < (x4.length : Int) then ((some (([rd x4 0] : List Int) : List Int)).bind fun y331 => (if y331.length + x3.length < 17592186044416 then (some (y331 ++ x3)) else (none))) else (none))
def psalteryref08_Forward.l1 : Nat → List Int → List Int → List Int → List Int → Int → Option (List Int)
 | 0, _, _, _, _, _ => none
 | k + 1, x3, x4, x5, x6, x7 => if (wrap64 (x7 + 1)) < (x4.length : Int) then (if 0 ≤ (wrap64 (x7 + 1)) then (if 0 ≤ x7 then (if x7 < (x4.length : Int) then ((psalteryref03_Shift.f k (wrap64 ((rd x4 (wrap64 (x7 + 1))) - (rd x4 x7))) 1).bind fun t340 => (if x5.length < 17592186044416 then (if x6.length < 17592186044416 then (psalteryref08_Forward.l1 k x3 x4 (x5 ++ [wrap64 ((rd x4 x7) + t340)]) (x6 ++ [wrap64 ((rd x4 (wrap64 (x7 + 1))) - (rd x4 x7))]) (wrap64 (x7 + 2))) else (none)) else (none))) else (none)) else (none)) else (none)) else (if x6.length + x3.length < 17592186044416 then (psalteryref08_Forward.l0 k (x6 ++ x3) x5) else (none))
end
def psalteryref08_Forward.f (k : Nat) (l0 : List Int) : Option (List Int) := psalteryref08_Forward.l0 k ([] : List Int) l0
theorem psalteryref08_Forward.mono_l : ∀ k, (∀ y0 y1, LeO (psalteryref08_Forward.l0 k y0 y1) (psalteryref08_Forward.l0 (k + 1) y0 y1)) ∧ (∀ y0 y1 y2 y3 y4, LeO (psalteryref08_Forward.l1 k y0 y1 y2 y3 y4) (psalteryref08_Forward.l1 (k + 1) y0 y1 y2 y3 y4))
 | 0 => ⟨fun _ _ r h => by simp [psalteryref08_Forward.l0] at h, fun _ _ _ _ _ r h => by simp [psalteryref08_Forward.l1] at h⟩
 | k + 1 => by
  obtain ⟨ih0, ih1⟩ := psalteryref08_Forward.mono_l k
  refine ⟨?_, ?_⟩
  ·
   intro y0 y1
   unfold psalteryref08_Forward.l0
   repeat' first
   | (with_reducible exact ih0 _ _)
   | (with_reducible exact ih1 _ _ _ _ _)
   | (with_reducible exact psalteryref03_Shift.mono _ _ _)
   | (with_reducible exact LeO.refl _)
   | (with_reducible exact LeO.none _)
   | (with_reducible refine LeO.ite ?_ ?_)
   | (with_reducible refine LeO.bind ?_ (fun _ => ?_))
   | exact ih0 _ _
   | exact ih1 _ _ _ _ _
   | exact psalteryref03_Shift.mono _ _ _
   | exact LeO.none _
   | refine LeO.ite ?_ ?_
   | refine LeO.bind ?_ (fun _ => ?_)
  ·
   intro y0 y1 y2 y3 y4
   unfold psalteryref08_Forward.l1
   repeat' first
   | (with_reducible exact ih0 _ _)
   | (with_reducible exact ih1 _ _ _ _ _)
   | (with_reducible exact psalteryref03_Shift.mono _ _ _)
   | (with_reducible exact LeO.refl _)
   | (with_reducible exact LeO.none _)
   | (with_reducible refine LeO.ite ?_ ?_)
   | (with_reducible refine LeO.bind ?_ (fun _ => ?_))
   | exact ih0 _ _
   | exact ih1 _ _ _ _ _
   | exact psalteryref03_Shift.mono _ _ _
   | exact LeO.none _
   | refine LeO.ite ?_ ?_
   | refine LeO.bind ?_ (fun _ => ?_)
theorem psalteryref08_Forward.mono : ∀ a0 k, LeO (psalteryref08_Forward.f k a0) (psalteryref08_Forward.f (k + 1) a0) := by
 intro a0 k
 obtain ⟨ih0, ih1⟩ := psalteryref08_Forward.mono_l k
 unfold psalteryref08_Forward.f
 repeat' first
   | (with_reducible exact ih0 _ _)
   | (with_reducible exact ih1 _ _ _ _ _)
   | (with_reducible exact psalteryref03_Shift.mono _ _ _)
   | (with_reducible exact LeO.refl _)
   | (with_reducible exact LeO.none _)
   | (with_reducible refine LeO.ite ?_ ?_)
   | (with_reducible refine LeO.bind ?_ (fun _ => ?_))
   | exact ih0 _ _
   | exact ih1 _ _ _ _ _
   | exact psalteryref03_Shift.mono _ _ _
   | exact LeO.none _
   | refine LeO.ite ?_ ?_
   | refine LeO.bind ?_ (fun _ => ?_)
def psalteryref08_Forward.T9 : Bool × List (List Nat × List Nat) := (true, [([], []), ([], []), ([1], [1]), ([0, 2], [0, 2]), ([3], [3]), ([], []), ([], []), ([5, 6], [5, 6]), ([7], [7]), ([4, 8], [4, 8]), ([9, 0, 1, 2, 3, 4, 5, 6, 7, 8, 9], [9])])
def psalteryref08_Forward.B9 : List Nat := [0, 0, 2, 7, 15, 0, 0, 96, 224, 511, 1023]
theorem psalteryref08_Forward.tab9 : rtab .any (opsOf Tryd.f35 9) = psalteryref08_Forward.T9 := by kernel_rfl
theorem psalteryref08_Forward.bits9 : waitsOk psalteryref08_Forward.T9.2 psalteryref08_Forward.B9 = true := by kernel_rfl
def psalteryref08_Forward.T10 : Bool × List (List Nat × List Nat) := (true, [([], []), ([], []), ([], []), ([1, 2], [1, 2]), ([3], [3]), ([], []), ([5], [5]), ([4, 6], [4, 6]), ([7], [7]), ([0, 8, 6], [0, 8]), ([9, 9, 0, 1, 2, 3, 4, 5, 6, 7, 8, 9], [0, 9])])
def psalteryref08_Forward.B10 : List Nat := [0, 0, 0, 6, 14, 0, 32, 126, 254, 511, 1023]
theorem psalteryref08_Forward.tab10 : rtab .any (opsOf Tryd.f35 10) = psalteryref08_Forward.T10 := by kernel_rfl
theorem psalteryref08_Forward.bits10 : waitsOk psalteryref08_Forward.T10.2 psalteryref08_Forward.B10 = true := by kernel_rfl
set_option maxHeartbeats 8000000 in
set_option maxRecDepth 100000 in
theorem psalteryref08_Forward.callsV (k : Nat) (P0_ : Nat → Prop) (A0 : Option Addr) (c0 : Nat) (l0 : List Int) (r : List Int) (w : World) (hs0 : Kd.V (Kd.int .i64) 2 w w.heap.size (fun k_ => P0_ k_) (.slice A0 l0.length c0) l0) (h : psalteryref08_Forward.f k l0 = some r) :
  Calls Tryd.prog 35 #[.slice A0 l0.length c0] w fun e w' => ∃ v0_ : Value, e = .returned (v0_) ∧ Kd.R (Kd.int .i64) 2 w' w.heap.size (fun k_ => (w.heap.size ≤ k_)) v0_ r ∧ Below w.heap.size w w' := by
 have HO0 := zm (show Kd.V (Kd.int .i64) 2 w w.heap.size (fun k_ => (P0_ k_ ∨ w.heap.size ≤ k_)) (.slice A0 l0.length c0) l0 from zy hs0 (fun k_ hk => .inl hk))
 have HB := zm (Below.refl w.heap.size w)
 have H : (psalteryref08_Forward.l0 k ([] : List Int) l0) = some r := h
 clear h
 have H' := zm H
 clear H
 go_enter Tryd.func35, Tryd.ntmps35
 go_wp2
 go_loopg [3, 4] k (fun kq v3 v4 w' => ∃ (x3_1 : List Int) (x4_1 : List Int), Aside0 (psalteryref08_Forward.l0 kq x3_1 x4_1 = some r) ∧ Aside0 (kq ≤ k) ∧ Aside0 (Kd.R (Kd.int .i64) 2 w' w.heap.size (fun k_ => (w.heap.size ≤ k_)) v3 x3_1) ∧ Aside0 (Kd.V (Kd.int .i64) 2 w' w.heap.size (fun k_ => (P0_ k_ ∨ w.heap.size ≤ k_) ∧ some k_ ≠ (v3 : Value).ownBlock) v4 x4_1) ∧ Aside0 (Below w.heap.size w w'))
 case atStart => exact ⟨(([] : List Int)), (l0), H', ⟨Nat.le_refl _⟩, ⟨by first | exact Kd.R_nil _ _ _ _ _ | exact Kd.N_nil _ _ _ _ _ | exact Kd.V_nil _ _ _ _ _ | exact Kd.Q_nil _ _ _ _ _ | exact Kd.S_nil _ _ _ _ _⟩, ⟨by (with_reducible repeat (first | apply zA | apply zB | apply zC)); exact zy HO0.out (fun _ hk => ⟨hk, (by simp [Value.ownBlock])⟩)⟩, ⟨by repeat (first | (with_reducible first | exact HB.out | apply ze | apply zd | apply zf) | exact HB.out)⟩⟩
 case round =>
  clear H'
  obtain ⟨x3_1, x4_1, HA, HK1, HO_3, HO_4, HB⟩ := hrel
  cases gk with
  | zero => exact absurd HA.out (by simp [psalteryref08_Forward.l0])
  | succ k1 =>
   have H := HA.out
   clear HA
   simp only [psalteryref08_Forward.l0] at H
   by_cases c2 : (x4_1.length : Int) > 1
   ·
    rw [if_pos c2] at H
    have c2b0 : decide (1 < (x4_1.length : Int)) = true := decide_eq_true c2
    have c2b1 : decide (1 < x4_1.length) = true := decide_eq_true (by omega)
    clear c2
    have H' := zm H
    clear H
    obtain ⟨Ao3, co3, eo3⟩ := Kd.V_slice HO_4.out
    subst eo3
    go_wp2
    go_loopg [5, 6, 7] k1 (fun kq v5 v6 v7 w' => ∃ (x5_2 : List Int) (x6_2 : List Int) (x7_2 : Int), v7 = .int .i64 x7_2 ∧ Aside0 (psalteryref08_Forward.l1 kq x3_1 x4_1 x5_2 x6_2 x7_2 = some r) ∧ Aside0 (kq ≤ k1) ∧ Aside0 (Kd.R (Kd.int .i64) 2 w' w.heap.size (fun k_ => (w.heap.size ≤ k_) ∧ some k_ ≠ (v5 : Value).ownBlock ∧ some k_ ≠ (v6 : Value).ownBlock) u3 x3_1) ∧ Aside0 (Kd.V (Kd.int .i64) 2 w' w.heap.size (fun k_ => (P0_ k_ ∨ w.heap.size ≤ k_) ∧ some k_ ≠ (u3 : Value).ownBlock ∧ some k_ ≠ (v5 : Value).ownBlock ∧ some k_ ≠ (v6 : Value).ownBlock) (.slice Ao3 x4_1.length co3) x4_1) ∧ Aside0 (Kd.R (Kd.int .i64) 2 w' w.heap.size (fun k_ => (w.heap.size ≤ k_) ∧ some k_ ≠ (u3 : Value).ownBlock ∧ some k_ ≠ (v6 : Value).ownBlock) v5 x5_2) ∧ Aside0 (Kd.R (Kd.int .i64) 2 w' w.heap.size (fun k_ => (w.heap.size ≤ k_) ∧ some k_ ≠ (u3 : Value).ownBlock ∧ some k_ ≠ (v5 : Value).ownBlock) v6 x6_2) ∧ Aside0 (Below w.heap.size w w'))
    case atStart => exact ⟨(([] : List Int)), (([] : List Int)), (0), (by first | rfl | (simp; done) | (simp [*]; done)), H', ⟨Nat.le_refl _⟩, ⟨by (with_reducible repeat (first | apply zo | apply zp | apply zq)); exact zG HO_3.out (fun _ hk => ⟨hk, ⟨(by simp [Value.ownBlock]), (by simp [Value.ownBlock])⟩⟩)⟩, ⟨by (with_reducible repeat (first | apply zA | apply zB | apply zC)); exact zy HO_4.out (fun _ hk => ⟨hk.1, ⟨hk.2, ⟨(by simp [Value.ownBlock]), (by simp [Value.ownBlock])⟩⟩⟩)⟩, ⟨by first | exact Kd.R_nil _ _ _ _ _ | exact Kd.N_nil _ _ _ _ _ | exact Kd.V_nil _ _ _ _ _ | exact Kd.Q_nil _ _ _ _ _ | exact Kd.S_nil _ _ _ _ _⟩, ⟨by first | exact Kd.R_nil _ _ _ _ _ | exact Kd.N_nil _ _ _ _ _ | exact Kd.V_nil _ _ _ _ _ | exact Kd.Q_nil _ _ _ _ _ | exact Kd.S_nil _ _ _ _ _⟩, ⟨by repeat (first | (with_reducible first | exact HB.out | apply ze | apply zd | apply zf) | exact HB.out)⟩⟩
    case round =>
     clear H'
     try clear c2
     try clear c2b0
     try clear c2b1
     try clear p2
     try clear c3
     obtain ⟨x5_2, x6_2, x7_2, rfl, HA, HK2, HO_3, HO_4, HO_5, HO_6, HB⟩ := hrel
     cases gk with
     | zero => exact absurd HA.out (by simp [psalteryref08_Forward.l1])
     | succ k2 =>
      have H := HA.out
      clear HA
      simp only [psalteryref08_Forward.l1] at H
      by_cases c4 : (wrap64 (x7_2 + 1)) < (x4_1.length : Int)
      ·
       rw [if_pos c4] at H
       have c4b0 : decide ((wrap64 (x7_2 + 1)) < (x4_1.length : Int)) = true := decide_eq_true c4
       clear c4
       obtain ⟨ji5, hji5⟩ : ∃ j_ : Int, (wrap64 (x7_2 + 1)) = j_ := ⟨_, rfl⟩
       replace H : (if 0 ≤ (ji5) then (if 0 ≤ x7_2 then (if x7_2 < (x4_1.length : Int) then ((psalteryref03_Shift.f k2 (wrap64 ((rd x4_1 (ji5)) - (rd x4_1 x7_2))) 1).bind fun t340 => (if x5_2.length < 17592186044416 then (if x6_2.length < 17592186044416 then (psalteryref08_Forward.l1 k2 x3_1 x4_1 (x5_2 ++ [wrap64 ((rd x4_1 x7_2) + t340)]) (x6_2 ++ [wrap64 ((rd x4_1 (ji5)) - (rd x4_1 x7_2))]) (wrap64 (x7_2 + 2))) else (none)) else (none))) else (none)) else (none)) else (none)) = some r := by first | (rw [hji5] at H; exact H) | (simp only [hji5] at H ⊢; exact H)
       (try rw [hji5] at c4b0)
       have hji5w : (IntKind.i64.wrap (x7_2 + 1)) = ji5 := (i64_w _).trans hji5
       by_cases c6 : 0 ≤ (ji5)
       ·
        rw [if_pos c6] at H
        have c6b0 : decide (0 ≤ (ji5)) = true := decide_eq_true c6
        clear c6
        by_cases c7 : 0 ≤ x7_2
        ·
         rw [if_pos c7] at H
         have c7b0 : decide (0 ≤ x7_2) = true := decide_eq_true c7
         clear c7
         by_cases c8 : x7_2 < (x4_1.length : Int)
         ·
          rw [if_pos c8] at H
          have c8b0 : decide (x7_2 < (x4_1.length : Int)) = true := decide_eq_true c8
          clear c8
          replace H := Option.bind_eq_some_iff.mp H
          obtain ⟨t340, A90, H⟩ := H
          replace H : (if x5_2.length < 17592186044416 then (if x6_2.length < 17592186044416 then (psalteryref08_Forward.l1 k2 x3_1 x4_1 (x5_2 ++ [wrap64 ((rd x4_1 x7_2) + t340)]) (x6_2 ++ [wrap64 ((rd x4_1 (ji5)) - (rd x4_1 x7_2))]) (wrap64 (x7_2 + 2))) else (none)) else (none)) = some r := H
          have A9 := zm A90
          clear A90
          by_cases c10 : x5_2.length < 17592186044416
          ·
           rw [if_pos c10] at H
           have LMc10 := zm c10
           clear c10
           obtain ⟨y341, hy341⟩ : ∃ y_ : List Int, y_ = (x5_2 ++ [wrap64 ((rd x4_1 x7_2) + t340)]) := ⟨_, rfl⟩
           replace H : (if x6_2.length < 17592186044416 then (psalteryref08_Forward.l1 k2 x3_1 x4_1 y341 (x6_2 ++ [wrap64 ((rd x4_1 (ji5)) - (rd x4_1 x7_2))]) (wrap64 (x7_2 + 2))) else (none)) = some r := by first | (rw [hy341]; with_reducible exact H) | (have H2_ := (Option.bind_some _ _).symm.trans H; rw [hy341]; with_reducible exact H2_) | (have H2_ := (Option.bind_some _ _).symm.trans H; with_reducible exact H2_) | with_reducible exact H | (rw [hy341]; exact H) | exact H
           have Ny341 := zm hy341
           clear hy341
           by_cases c11 : x6_2.length < 17592186044416
           ·
            rw [if_pos c11] at H
            have LMc11 := zm c11
            clear c11
            obtain ⟨y344, hy344⟩ : ∃ y_ : List Int, y_ = (x6_2 ++ [wrap64 ((rd x4_1 (ji5)) - (rd x4_1 x7_2))]) := ⟨_, rfl⟩
            replace H : (psalteryref08_Forward.l1 k2 x3_1 x4_1 y341 y344 (wrap64 (x7_2 + 2))) = some r := by first | (rw [hy344]; with_reducible exact H) | (have H2_ := (Option.bind_some _ _).symm.trans H; rw [hy344]; with_reducible exact H2_) | (have H2_ := (Option.bind_some _ _).symm.trans H; with_reducible exact H2_) | with_reducible exact H | (rw [hy344]; exact H) | exact H
            have Ny344 := zm hy344
            clear hy344
            have H' := zm H
            clear H
            try go_wp2
            have n0_ := zm (zq HO_3.out)
            have n1_ := zm (zC HO_4.out)
            have n2_ := zm (zq HO_5.out)
            have n3_ := zm (zq HO_6.out)
            have n4_ := zm (zf HB.out)
            clear HO_3
            clear HO_4
            clear HO_5
            clear HO_6
            clear HB
            have HO_3 := n0_
            have HO_4 := n1_
            have HO_5 := n2_
            have HO_6 := n3_
            have HB := n4_
            clear n0_ n1_ n2_ n3_ n4_
            have p337 : 0 ≤ ((ji5) : Int) := of_decide_eq_true (by first | (with_reducible assumption) | assumption)
            have q337 : (ji5) < (x4_1.length : Int) := of_decide_eq_true (by first | (with_reducible assumption) | assumption)
            obtain ⟨ad337, e337, hx337_0⟩ := Kd.at_int (Kd.V_reads' HO_4.out).2.2 (ji5) p337 q337
            cases e337
            replace p337 := eq_true p337
            replace q337 := eq_true q337
            have p338 : 0 ≤ (x7_2 : Int) := of_decide_eq_true (by first | (with_reducible assumption) | assumption)
            have q338 : x7_2 < (x4_1.length : Int) := of_decide_eq_true (by first | (with_reducible assumption) | assumption)
            obtain ⟨ad338, e338, hx338_0⟩ := Kd.at_int (Kd.V_reads' HO_4.out).2.2 x7_2 p338 q338
            obtain rfl : ad337 = ad338 := (by injection e338)
            replace p338 := eq_true p338
            replace q338 := eq_true q338
            refine start_ (n := 11) (S := fun w' => w'.cell? (ad337.add ((ji5)).toNat) = some (.int .i64 (rd x4_1 (ji5))) ∧ w'.cell? (ad337.add (x7_2).toNat) = some (.int .i64 (rd x4_1 x7_2))) (ds := []) #[false, false, false, false, false, false, false, false, false, false, false] (by kernel_rfl) rfl rfl ⟨hx337_0, hx338_0⟩ (fun hHeld => ?_); refine with_tabW psalteryref08_Forward.tab9 psalteryref08_Forward.bits9 (fun HT_ HW_ => ?_)
            generalize wr.drew = w12 at HO_3 HO_4 HO_5 HO_6 HB hx337_0 hx338_0 hHeld ⊢
            refine pure_ (i := 0) (N := some 20) (v := ?_) (a' := ?_) #[true, false, false, false, false, false, false, false, false, false, false] rfl rfl (any_of HT_.out (by kernel_rfl)) (fun _ _ _ h => h) (Or.inl ⟨by rfl, ?_⟩) ?_ ?_
            rotate_left
            ·
             intro w'
             go_simp
             with_reducible rfl
            rotate_left
            ·
             simp only [Act.put, List.setIfInBounds_toArray, List.set_cons_zero, List.set_cons_succ, i64_w, i32_w]
             rfl
            refine pure_ (i := 1) (N := some 21) (v := ?_) (a' := ?_) #[true, true, false, false, false, false, false, false, false, false, false] rfl rfl (any_of HT_.out (by kernel_rfl)) (fun _ _ _ h => h) (Or.inl ⟨by rfl, ?_⟩) ?_ ?_
            rotate_left
            ·
             intro w'
             go_simp
             with_reducible rfl
            rotate_left
            ·
             simp only [Act.put, List.setIfInBounds_toArray, List.set_cons_zero, List.set_cons_succ, i64_w, i32_w]
             rfl
            refine pure_ (i := 2) (N := some 22) (v := ?_) (a' := ?_) #[true, true, true, false, false, false, false, false, false, false, false] rfl rfl (any_of HT_.out (by kernel_rfl)) (fun _ _ _ h => h) (Or.inl ⟨by rfl, ?_⟩) ?_ ?_
            rotate_left
            ·
             intro w'
             go_simp
             with_reducible rfl
            rotate_left
            ·
             simp only [Act.put, List.setIfInBounds_toArray, List.set_cons_zero, List.set_cons_succ, i64_w, i32_w]
             rfl
            refine pure_ (i := 3) (N := some 23) (v := ?_) (a' := ?_) #[true, true, true, true, false, false, false, false, false, false, false] rfl rfl (any_of HT_.out (by kernel_rfl)) (fun _ _ _ h => h) (Or.inl ⟨by rfl, ?_⟩) ?_ ?_
            rotate_left
            ·
             intro w'
             go_simp
             with_reducible rfl
            rotate_left
            ·
             simp only [Act.put, List.setIfInBounds_toArray, List.set_cons_zero, List.set_cons_succ, i64_w, i32_w]
             rfl
            refine pure_ (i := 5) (N := some 25) (v := ?_) (a' := ?_) #[true, true, true, true, false, true, false, false, false, false, false] rfl rfl (any_of HT_.out (by kernel_rfl)) (fun _ _ _ h => h) (Or.inl ⟨by rfl, ?_⟩) ?_ ?_
            rotate_left
            ·
             intro w'
             go_simp
             with_reducible rfl
            rotate_left
            ·
             simp only [Act.put, List.setIfInBounds_toArray, List.set_cons_zero, List.set_cons_succ, i64_w, i32_w]
             rfl
            refine pure_ (i := 6) (N := some 26) (v := ?_) (a' := ?_) #[true, true, true, true, false, true, true, false, false, false, false] rfl rfl (any_of HT_.out (by kernel_rfl)) (fun _ _ _ h => h) (Or.inl ⟨by rfl, ?_⟩) ?_ ?_
            rotate_left
            ·
             intro w'
             go_simp
             with_reducible rfl
            rotate_left
            ·
             simp only [Act.put, List.setIfInBounds_toArray, List.set_cons_zero, List.set_cons_succ, i64_w, i32_w]
             rfl
            refine pure_ (i := 7) (N := some 27) (v := ?_) (a' := ?_) #[true, true, true, true, false, true, true, true, false, false, false] rfl rfl (any_of HT_.out (by kernel_rfl)) (fun _ _ _ h => h) (Or.inl ⟨by rfl, ?_⟩) ?_ ?_
            rotate_left
            ·
             intro w'
             go_simp
             with_reducible rfl
            rotate_left
            ·
             simp only [Act.put, List.setIfInBounds_toArray, List.set_cons_zero, List.set_cons_succ, i64_w, i32_w]
             rfl
            refine take_ (i := 4) (N := some 24) (v := ?_) (a' := ?_) #[true, true, true, true, true, true, true, true, false, false, false] rfl rfl (take_ofW HT_.out HW_.out (by kernel_rfl)) (fun _ _ _ h => h) (Or.inl ⟨by rfl, ?_⟩) hHeld ?_ ?_
            rotate_left
            ·
             rintro w' ⟨s0, s1⟩
             go_simp
             with_reducible rfl
            rotate_left
            ·
             simp only [Act.put, List.setIfInBounds_toArray, List.set_cons_zero, List.set_cons_succ, i64_w, i32_w]
             rfl
            refine take_ (i := 8) (N := some 28) (v := ?_) (a' := ?_) #[true, true, true, true, true, true, true, true, true, false, false] rfl rfl (take_ofW HT_.out HW_.out (by kernel_rfl)) (fun _ _ _ h => h) (Or.inl ⟨by rfl, ?_⟩) hHeld ?_ ?_
            rotate_left
            ·
             rintro w' ⟨s0, s1⟩
             go_simp
             with_reducible rfl
            rotate_left
            ·
             simp only [Act.put, List.setIfInBounds_toArray, List.set_cons_zero, List.set_cons_succ, i64_w, i32_w]
             rfl
            refine pure_ (i := 9) (N := some 29) (v := ?_) (a' := ?_) #[true, true, true, true, true, true, true, true, true, true, false] rfl rfl (any_of HT_.out (by kernel_rfl)) (fun _ _ _ h => h) (Or.inl ⟨by rfl, ?_⟩) ?_ ?_
            rotate_left
            ·
             intro w'
             go_simp
             with_reducible rfl
            rotate_left
            ·
             simp only [Act.put, List.setIfInBounds_toArray, List.set_cons_zero, List.set_cons_succ, i64_w, i32_w]
             rfl
            refine pure_ (i := 10) (N := some 8) (v := ?_) (a' := ?_) #[true, true, true, true, true, true, true, true, true, true, true] rfl rfl (any_of HT_.out (by kernel_rfl)) (fun _ _ _ h => h) (Or.inl ⟨by rfl, ?_⟩) ?_ ?_
            rotate_left
            ·
             intro w'
             go_simp
             with_reducible rfl
            rotate_left
            ·
             simp only [Act.put, List.setIfInBounds_toArray, List.set_cons_zero, List.set_cons_succ, i64_w, i32_w]
             rfl
            refine done_ (done_of HT_.out (by kernel_rfl)) ?_
            try go_wp2
            have n0_ := zm (zq HO_3.out)
            have n1_ := zm (zC HO_4.out)
            have n2_ := zm (zq HO_5.out)
            have n3_ := zm (zq HO_6.out)
            have n4_ := zm (zf HB.out)
            clear HO_3
            clear HO_4
            clear HO_5
            clear HO_6
            clear HB
            have HO_3 := n0_
            have HO_4 := n1_
            have HO_5 := n2_
            have HO_6 := n3_
            have HB := n4_
            clear n0_ n1_ n2_ n3_ n4_
            have p339 : 0 ≤ (x7_2 : Int) := of_decide_eq_true (by first | (with_reducible assumption) | assumption)
            have q339 : x7_2 < (x4_1.length : Int) := of_decide_eq_true (by first | (with_reducible assumption) | assumption)
            obtain ⟨ad339, e339, hx339_0⟩ := Kd.at_int (Kd.V_reads' HO_4.out).2.2 x7_2 p339 q339
            obtain rfl : ad337 = ad339 := (by injection e339)
            replace p339 := eq_true p339
            replace q339 := eq_true q339
            refine start_ (n := 11) (S := fun w' => w'.cell? (ad337.add (x7_2).toNat) = some (.int .i64 (rd x4_1 x7_2))) (ds := [8, 9]) #[false, false, false, false, false, false, false, false, false, false, false] (by kernel_rfl) rfl rfl (hx339_0) (fun hHeld => ?_); refine with_tabW psalteryref08_Forward.tab10 psalteryref08_Forward.bits10 (fun HT_ HW_ => ?_)
            generalize w12.drew = w13 at HO_3 HO_4 HO_5 HO_6 HB hx339_0 hHeld ⊢
            refine pure_ (i := 0) (N := some 30) (v := ?_) (a' := ?_) #[true, false, false, false, false, false, false, false, false, false, false] rfl rfl (any_of HT_.out (by kernel_rfl)) (fun _ _ _ h => h) (Or.inl ⟨by rfl, ?_⟩) ?_ ?_
            rotate_left
            ·
             intro w'
             go_simp
             with_reducible rfl
            rotate_left
            ·
             simp only [Act.put, List.setIfInBounds_toArray, List.set_cons_zero, List.set_cons_succ, i64_w, i32_w]
             rfl
            refine pure_ (i := 1) (N := some 31) (v := ?_) (a' := ?_) #[true, true, false, false, false, false, false, false, false, false, false] rfl rfl (any_of HT_.out (by kernel_rfl)) (fun _ _ _ h => h) (Or.inl ⟨by rfl, ?_⟩) ?_ ?_
            rotate_left
            ·
             intro w'
             go_simp
             with_reducible rfl
            rotate_left
            ·
             simp only [Act.put, List.setIfInBounds_toArray, List.set_cons_zero, List.set_cons_succ, i64_w, i32_w]
             rfl
            refine pure_ (i := 2) (N := some 32) (v := ?_) (a' := ?_) #[true, true, true, false, false, false, false, false, false, false, false] rfl rfl (any_of HT_.out (by kernel_rfl)) (fun _ _ _ h => h) (Or.inl ⟨by rfl, ?_⟩) ?_ ?_
            rotate_left
            ·
             intro w'
             go_simp
             with_reducible rfl
            rotate_left
            ·
             simp only [Act.put, List.setIfInBounds_toArray, List.set_cons_zero, List.set_cons_succ, i64_w, i32_w]
             rfl
            refine pure_ (i := 3) (N := some 33) (v := ?_) (a' := ?_) #[true, true, true, true, false, false, false, false, false, false, false] rfl rfl (any_of HT_.out (by kernel_rfl)) (fun _ _ _ h => h) (Or.inl ⟨by rfl, ?_⟩) ?_ ?_
            rotate_left
            ·
             intro w'
             go_simp
             with_reducible rfl
            rotate_left
            ·
             simp only [Act.put, List.setIfInBounds_toArray, List.set_cons_zero, List.set_cons_succ, i64_w, i32_w]
             rfl
            refine pure_ (i := 5) (N := some 35) (v := ?_) (a' := ?_) #[true, true, true, true, false, true, false, false, false, false, false] rfl rfl (any_of HT_.out (by kernel_rfl)) (fun _ _ _ h => h) (Or.inl ⟨by rfl, ?_⟩) ?_ ?_
            rotate_left
            ·
             intro w'
             go_simp
             with_reducible rfl
            rotate_left
            ·
             simp only [Act.put, List.setIfInBounds_toArray, List.set_cons_zero, List.set_cons_succ, i64_w, i32_w]
             rfl
            refine take_ (i := 4) (N := some 34) (v := ?_) (a' := ?_) #[true, true, true, true, true, true, false, false, false, false, false] rfl rfl (take_ofW HT_.out HW_.out (by kernel_rfl)) (fun _ _ _ h => h) (Or.inl ⟨by rfl, ?_⟩) hHeld ?_ ?_
            rotate_left
            ·
             intro w' s0
             go_simp
             with_reducible rfl
            rotate_left
            ·
             simp only [Act.put, List.setIfInBounds_toArray, List.set_cons_zero, List.set_cons_succ, i64_w, i32_w]
             rfl
            refine one_ (i := 6) (N := some 36) #[true, true, true, true, true, true, true, false, false, false, false] rfl rfl (one_of HT_.out (by kernel_rfl)) (by decide) (fun K hK => ?_)
            refine goes_ Tryd.func41 (by kernel_rfl) rfl #[.int .i64 (wrap64 ((rd x4_1 (ji5)) - (rd x4_1 x7_2))), .int .i64 1] (by rfl) rfl rfl (by (try simp only [List.map_toArray, List.map_cons, List.map_nil]); first | done | (simp only [hji5]; rfl) | rfl | (simp only [List.length_drop, List.length_take]; rfl)) ?_
            with_reducible refine (psalteryref03_Shift.calls k2 (wrap64 ((rd x4_1 (ji5)) - (rd x4_1 x7_2))) 1 t340 _ A9.out).mono ?_
            rintro e w' ⟨rfl, ⟨nd, rfl⟩⟩
            refine ⟨_, rfl, ?_⟩
            refine hK.out _ _ (hHeld) (fun hHeld => ?_)
            clear hK K
            refine norm_ (a' := ?_) ?_ ?_
            rotate_left
            ·
             show Act.put _ (some 36) _ = _
             simp only [Act.put, List.setIfInBounds_toArray, List.set_cons_zero, List.set_cons_succ, i64_w, i32_w]
             rfl
            refine pure_ (i := 7) (N := some 37) (v := ?_) (a' := ?_) #[true, true, true, true, true, true, true, true, false, false, false] rfl rfl (any_of HT_.out (by kernel_rfl)) (fun _ _ _ h => h) (Or.inl ⟨by rfl, ?_⟩) ?_ ?_
            rotate_left
            ·
             intro w'
             go_simp
             with_reducible rfl
            rotate_left
            ·
             simp only [Act.put, List.setIfInBounds_toArray, List.set_cons_zero, List.set_cons_succ, i64_w, i32_w]
             rfl
            refine last_ (i := 8) (N := some 38) #[true, true, true, true, true, true, true, true, true, false, false] rfl rfl (one_of HT_.out (by kernel_rfl)) (by decide) (fun K hK => ?_)
            refine value_ (w1 := ?_) (v := ?_) (by rfl) rfl ?_ ?_
            rotate_left 2
            ·
             go_simp
             constructor
             ·
              rfl
             ·
              rfl
            refine hK.out _ _ ?_
            clear hK K
            refine norm_ (a' := ?_) ?_ ?_
            rotate_left
            ·
             show Act.put _ (some 38) _ = _
             simp only [Act.put, List.setIfInBounds_toArray, List.set_cons_zero, List.set_cons_succ, i64_w, i32_w]
             rfl
            refine last_ (i := 9) (N := some 39) #[true, true, true, true, true, true, true, true, true, true, false] rfl rfl (one_of HT_.out (by kernel_rfl)) (by decide) (fun K hK => ?_)
            refine Kd.R_append_step (Kd.int .i64) (w0 := w) w.heap.size (by rfl) (.tmp 30) (.tmp 38) 22 2 (.int .i64 0) 8 rfl Tryd.underlying22 info2 rfl (by decide) (by omega) u5 x5_2 (wrap64 ((rd x4_1 x7_2) + t340)) [.int .i64 (wrap64 ((rd x4_1 x7_2) + t340))] (fun k_ => (w.heap.size ≤ k_) ∧ some k_ ≠ (u3 : Value).ownBlock ∧ some k_ ≠ (u6 : Value).ownBlock) (fun _ => False) rfl rfl ?aP (fun _ hk => hk.elim) ?aF ?aO ?aB ?aS ?aL ?_
            (case aP => exact rfl)
            (case aB => exact (by repeat (first | (with_reducible first | exact HB.out | apply ze | apply zd | apply zf) | exact HB.out)))
            (case aF => exact (fun k_ hk => ⟨(Nat.le_trans (zE (by repeat (first | (with_reducible first | exact HB.out | apply ze | apply zd | apply zf) | exact HB.out))) hk), Kd.fresh' (Kd.R_lt (by (with_reducible repeat (first | apply zo | apply zp | apply zq)); exact HO_3.out)) k_ hk, Kd.fresh' (Kd.R_lt (by (with_reducible repeat (first | apply zo | apply zp | apply zq)); exact HO_6.out)) k_ hk⟩))
            (case aO => exact (by (with_reducible repeat (first | apply zo | apply zp | apply zq)); exact HO_5.out))
            (case aS => exact (zE (by repeat (first | (with_reducible first | exact HB.out | apply ze | apply zd | apply zf) | exact HB.out))))
            (case aL => have := LMc10.out; omega)
            intro v342 w14 ho hb hg hat
            rw [← Ny341.out] at ho
            have n0_ := zm (Kd.R_after (ok := (fun k_ => (w.heap.size ≤ k_) ∧ some k_ ≠ (u6 : Value).ownBlock)) (by (with_reducible repeat (first | apply zo | apply zp | apply zq)); exact zG HO_3.out (fun _ hk => ⟨⟨hk.1, hk.2.2⟩, hk.2.1⟩)) hg hat)
            have n1_ := zm (Kd.V_afterv (ok := (fun k_ => (P0_ k_ ∨ w.heap.size ≤ k_) ∧ some k_ ≠ (u3 : Value).ownBlock ∧ some k_ ≠ (u6 : Value).ownBlock)) (by (with_reducible repeat (first | apply zA | apply zB | apply zC)); exact zy HO_4.out (fun _ hk => ⟨⟨hk.1, ⟨hk.2.1, hk.2.2.2⟩⟩, hk.2.2.1⟩)) hg hat)
            have n2_ := zm (Kd.R_after (ok := (fun k_ => (w.heap.size ≤ k_) ∧ some k_ ≠ (u3 : Value).ownBlock)) (by (with_reducible repeat (first | apply zo | apply zp | apply zq)); exact zG HO_6.out (fun _ hk => ⟨⟨hk.1, hk.2.1⟩, hk.2.2⟩)) hg hat)
            have n3_ := zm (hb)
            have n4_ := zm (ho)
            clear HO_3
            clear HO_4
            clear HO_6
            clear HB
            clear HO_5
            have HO_3 := n0_
            have HO_4 := n1_
            have HO_6 := n2_
            have HB := n3_
            have HO343 := n4_
            clear n0_ n1_ n2_ n3_ n4_
            clear ho hb hg hat
            refine hK.out _ _ ?_
            clear hK K
            refine norm_ (a' := ?_) ?_ ?_
            rotate_left
            ·
             show Act.put _ (some 39) _ = _
             simp only [Act.put, List.setIfInBounds_toArray, List.set_cons_zero, List.set_cons_succ, i64_w, i32_w]
             rfl
            refine pure_ (i := 10) (N := some 5) (v := ?_) (a' := ?_) #[true, true, true, true, true, true, true, true, true, true, true] rfl rfl (any_of HT_.out (by kernel_rfl)) (fun _ _ _ h => h) (Or.inl ⟨by rfl, ?_⟩) ?_ ?_
            rotate_left
            ·
             intro w'
             go_simp
             with_reducible rfl
            rotate_left
            ·
             simp only [Act.put, List.setIfInBounds_toArray, List.set_cons_zero, List.set_cons_succ, i64_w, i32_w]
             rfl
            refine done_ (done_of HT_.out (by kernel_rfl)) ?_
            try go_wp2_with (first | ((with_reducible refine gate_builtin (b := .append) (xs := #[.tmp 40, .tmp 42]) rfl ?_); at_builtin; refine Kd.R_append (Kd.int .i64) (w0 := w) w.heap.size rfl (.tmp 40) (.tmp 42) 22 2 (.int .i64 0) 8 rfl Tryd.underlying22 info2 rfl (by decide) (by omega) u6 x6_2 (wrap64 ((rd x4_1 (ji5)) - (rd x4_1 x7_2))) [.int .i64 (wrap64 ((rd x4_1 (ji5)) - (rd x4_1 x7_2)))] (fun k_ => (w.heap.size ≤ k_) ∧ some k_ ≠ (u3 : Value).ownBlock ∧ some k_ ≠ (v342 : Value).ownBlock) (fun _ => False) rfl rfl ?aP (fun _ hk => hk.elim) ?aF ?aO ?aB ?aS ?aL ?_; (case aP => exact rfl); (case aB => exact (by repeat (first | (with_reducible first | exact HB.out | apply ze | apply zd | apply zf) | exact HB.out))); (case aF => exact (fun k_ hk => ⟨(Nat.le_trans (zE (by repeat (first | (with_reducible first | exact HB.out | apply ze | apply zd | apply zf) | exact HB.out))) hk), Kd.fresh' (Kd.R_lt (by (with_reducible repeat (first | apply zo | apply zp | apply zq)); exact HO_3.out)) k_ hk, Kd.fresh' (Kd.R_lt (by (with_reducible repeat (first | apply zo | apply zp | apply zq)); exact HO343.out)) k_ hk⟩)); (case aO => exact (by (with_reducible repeat (first | apply zo | apply zp | apply zq)); exact zG HO_6.out (fun _ hk => ⟨hk.1.1, ⟨hk.1.2, hk.2⟩⟩))); (case aS => exact (zE (by repeat (first | (with_reducible first | exact HB.out | apply ze | apply zd | apply zf) | exact HB.out)))); (case aL => have := LMc11.out; omega); intro v345 w15 ho hb hg hat; rw [← Ny344.out] at ho; have n0_ := zm (Kd.R_after (ok := (fun k_ => (w.heap.size ≤ k_) ∧ some k_ ≠ (v342 : Value).ownBlock)) (by (with_reducible repeat (first | apply zo | apply zp | apply zq)); exact zG HO_3.out (fun _ hk => ⟨⟨hk.1.1, hk.2⟩, hk.1.2⟩)) hg hat); have n1_ := zm (Kd.V_afterv (ok := (fun k_ => (P0_ k_ ∨ w.heap.size ≤ k_) ∧ some k_ ≠ (u3 : Value).ownBlock ∧ some k_ ≠ (v342 : Value).ownBlock)) (by (with_reducible repeat (first | apply zA | apply zB | apply zC)); exact zy HO_4.out (fun _ hk => ⟨⟨hk.1.1, ⟨hk.1.2.1, hk.2⟩⟩, hk.1.2.2⟩)) hg hat); have n2_ := zm (Kd.R_after (ok := (fun k_ => (w.heap.size ≤ k_) ∧ some k_ ≠ (u3 : Value).ownBlock)) (by (with_reducible repeat (first | apply zo | apply zp | apply zq)); exact zG HO343.out (fun _ hk => ⟨⟨hk.1, hk.2.1⟩, hk.2.2⟩)) hg hat); have n3_ := zm (hb); have n4_ := zm (ho); clear HO_3; clear HO_4; clear HO343; clear HB; clear HO_6; have HO_3 := n0_; have HO_4 := n1_; have HO343 := n2_; have HB := n3_; have HO346 := n4_; clear n0_ n1_ n2_ n3_ n4_; clear ho hb hg hat))
            go_roundg k2
            case measure => have := HK1.out; have := HK2.out; omega
            case rel => exact ⟨(y341), (y344), (wrap64 (x7_2 + 2)), (by first | rfl | (simp; done) | (simp [*]; done)), H', ⟨by have := HK1.out; have := HK2.out; omega⟩, ⟨by (with_reducible repeat (first | apply zo | apply zp | apply zq)); exact zG HO_3.out (fun _ hk => ⟨hk.1.1, ⟨hk.1.2, hk.2⟩⟩)⟩, ⟨by (with_reducible repeat (first | apply zA | apply zB | apply zC)); exact zy HO_4.out (fun _ hk => ⟨hk.1.1, ⟨hk.1.2.1, ⟨hk.1.2.2, hk.2⟩⟩⟩)⟩, ⟨by (with_reducible repeat (first | apply zo | apply zp | apply zq)); exact zG HO343.out (fun _ hk => ⟨hk.1.1, ⟨hk.1.2, hk.2⟩⟩)⟩, ⟨by (with_reducible repeat (first | apply zo | apply zp | apply zq)); exact HO346.out⟩, ⟨by repeat (first | (with_reducible first | exact HB.out | apply ze | apply zd | apply zf) | exact HB.out)⟩⟩
           ·
            rw [if_neg c11] at H
            exact absurd H (by simp)
          ·
           rw [if_neg c10] at H
           exact absurd H (by simp)
         ·
          rw [if_neg c8] at H
          exact absurd H (by simp)
        ·
         rw [if_neg c7] at H
         exact absurd H (by simp)
       ·
        rw [if_neg c6] at H
        exact absurd H (by simp)
      ·
       rw [if_neg c4] at H
       have c4b0 : decide ((wrap64 (x7_2 + 1)) < (x4_1.length : Int)) = false := decide_eq_false c4
       clear c4
       by_cases c16 : x6_2.length + x3_1.length < 17592186044416
       ·
        rw [if_pos c16] at H
        have LMc16 := zm c16
        clear c16
        obtain ⟨y347, hy347⟩ : ∃ y_ : List Int, y_ = (x6_2 ++ x3_1) := ⟨_, rfl⟩
        replace H : (psalteryref08_Forward.l0 k2 y347 x5_2) = some r := by first | (rw [hy347]; with_reducible exact H) | (have H2_ := (Option.bind_some _ _).symm.trans H; rw [hy347]; with_reducible exact H2_) | (have H2_ := (Option.bind_some _ _).symm.trans H; with_reducible exact H2_) | with_reducible exact H | (rw [hy347]; exact H) | exact H
        have Ny347 := zm hy347
        clear hy347
        have H' := zm H
        clear H
        obtain ⟨Ao18, co18, eo18⟩ := Kd.R_slice HO_3.out
        subst eo18
        go_wp2_with (first | ((with_reducible refine gate_builtin (b := .append) (xs := #[.tmp 44, .tmp 45]) rfl ?_); at_builtin; refine Kd.R_append_rows (Kd.int .i64) (w0 := w) w.heap.size rfl (.tmp 44) (.tmp 45) 22 2 (.int .i64 0) 8 rfl Tryd.underlying22 info2 rfl (by decide) (by omega) u6 x6_2 x3_1 _ _ _ (fun k_ => (w.heap.size ≤ k_) ∧ some k_ ≠ (.slice Ao18 x3_1.length co18 : Value).ownBlock ∧ some k_ ≠ (u5 : Value).ownBlock) (fun _ => False) rfl rfl ?aO ?aR (fun _ _ h => h) (fun _ h => h.elim) ?aF ?aB ?aS ?aL ?_; (case aR => repeat (first | exact (Kd.R_reads' HO_3.out).2.2 | (with_reducible refine Kd.C_alloc ?_ _) | (with_reducible refine Kd.C_drewN ?_ _) | (with_reducible refine Kd.C_drew ?_))); (case aB => exact (by repeat (first | (with_reducible first | exact HB.out | apply ze | apply zd | apply zf) | exact HB.out))); (case aF => exact (fun k_ hk => ⟨(Nat.le_trans (zE (by repeat (first | (with_reducible first | exact HB.out | apply ze | apply zd | apply zf) | exact HB.out))) hk), Kd.fresh' (Kd.R_lt (by (with_reducible repeat (first | apply zo | apply zp | apply zq)); exact HO_3.out)) k_ hk, Kd.fresh' (Kd.R_lt (by (with_reducible repeat (first | apply zo | apply zp | apply zq)); exact HO_5.out)) k_ hk⟩)); (case aO => exact (by (with_reducible repeat (first | apply zo | apply zp | apply zq)); exact HO_6.out)); (case aS => exact (zE (by repeat (first | (with_reducible first | exact HB.out | apply ze | apply zd | apply zf) | exact HB.out)))); (case aL => have := LMc16.out; omega); intro v348 w17 ho hb hg hat; rw [← Ny347.out] at ho; have n0_ := zm (Kd.R_after (ok := (fun k_ => (w.heap.size ≤ k_) ∧ some k_ ≠ (u5 : Value).ownBlock)) (by (with_reducible repeat (first | apply zo | apply zp | apply zq)); exact zG HO_3.out (fun _ hk => ⟨⟨hk.1, hk.2.1⟩, hk.2.2⟩)) hg hat); have n1_ := zm (Kd.V_afterv (ok := (fun k_ => (P0_ k_ ∨ w.heap.size ≤ k_) ∧ some k_ ≠ (.slice Ao18 x3_1.length co18 : Value).ownBlock ∧ some k_ ≠ (u5 : Value).ownBlock)) (by (with_reducible repeat (first | apply zA | apply zB | apply zC)); exact zy HO_4.out (fun _ hk => ⟨⟨hk.1, ⟨hk.2.1, hk.2.2.1⟩⟩, hk.2.2.2⟩)) hg hat); have n2_ := zm (Kd.R_after (ok := (fun k_ => (w.heap.size ≤ k_) ∧ some k_ ≠ (.slice Ao18 x3_1.length co18 : Value).ownBlock)) (by (with_reducible repeat (first | apply zo | apply zp | apply zq)); exact zG HO_5.out (fun _ hk => ⟨⟨hk.1, hk.2.1⟩, hk.2.2⟩)) hg hat); have n3_ := zm (hb); have n4_ := zm (ho); clear HO_3; clear HO_4; clear HO_5; clear HB; clear HO_6; have HO_3 := n0_; have HO_4 := n1_; have HO_5 := n2_; have HB := n3_; have HO349 := n4_; clear n0_ n1_ n2_ n3_ n4_; clear ho hb hg hat))
        go_roundg k2
        case measure => have := HK1.out; have := HK2.out; omega
        case rel => exact ⟨(y347), (x5_2), H', ⟨by have := HK1.out; have := HK2.out; omega⟩, ⟨by (with_reducible repeat (first | apply zo | apply zp | apply zq)); exact zG HO349.out (fun _ hk => hk.1)⟩, ⟨zy (Kd.R_V (ok := fun k_ => w.heap.size ≤ k_ ∧ some k_ ≠ (v348 : Value).ownBlock) (by (with_reducible repeat (first | apply zo | apply zp | apply zq)); exact zG HO_5.out (fun _ hk => ⟨hk.1.1, hk.2⟩))) (fun k_ hk => by first | exact ⟨(.inr (hk.1)), hk.2⟩ | exact (.inr (hk)))⟩, ⟨by repeat (first | (with_reducible first | exact HB.out | apply ze | apply zd | apply zf) | exact HB.out)⟩⟩
       ·
        rw [if_neg c16] at H
        exact absurd H (by simp)
   ·
    rw [if_neg c2] at H
    have c2b0 : decide (1 < (x4_1.length : Int)) = false := decide_eq_false c2
    have c2b1 : decide (1 < x4_1.length) = false := decide_eq_false (by omega)
    clear c2
    by_cases c19 : 0 < (x4_1.length : Int)
    ·
     rw [if_pos c19] at H
     have c19b0 : decide (0 < (x4_1.length : Int)) = true := decide_eq_true c19
     have c19b1 : decide (0 < x4_1.length) = true := decide_eq_true (by omega)
     clear c19
     obtain ⟨y331, hy331⟩ : ∃ y_ : List Int, y_ = (([rd x4_1 0] : List Int)) := ⟨_, rfl⟩
     replace H : (if y331.length + x3_1.length < 17592186044416 then (some (y331 ++ x3_1)) else (none)) = some r := by first | (rw [hy331]; with_reducible exact H) | (have H2_ := (Option.bind_some _ _).symm.trans H; rw [hy331]; with_reducible exact H2_) | (have H2_ := (Option.bind_some _ _).symm.trans H; with_reducible exact H2_) | with_reducible exact H | (rw [hy331]; exact H) | exact H
     have Ny331 := zm hy331
     clear hy331
     by_cases c20 : y331.length + x3_1.length < 17592186044416
     ·
      rw [if_pos c20] at H
      have LMc20 := zm c20
      clear c20
      obtain ⟨y334, hy334⟩ : ∃ y_ : List Int, y_ = (y331 ++ x3_1) := ⟨_, rfl⟩
      replace H : (some y334) = some r := by first | (rw [hy334]; with_reducible exact H) | (have H2_ := (Option.bind_some _ _).symm.trans H; rw [hy334]; with_reducible exact H2_) | (have H2_ := (Option.bind_some _ _).symm.trans H; with_reducible exact H2_) | with_reducible exact H | (rw [hy334]; exact H) | exact H
      have Ny334 := zm hy334
      clear hy334
      obtain rfl := Option.some.inj H
      obtain ⟨Ao21, co21, eo21⟩ := Kd.V_slice HO_4.out
      subst eo21
      have p330 : 0 ≤ (0 : Int) := (by omega)
      have q330 : 0 < (x4_1.length : Int) := of_decide_eq_true (by first | (with_reducible assumption) | assumption)
      obtain ⟨ad330, e330, hx330_0⟩ := Kd.at_int (Kd.V_reads' HO_4.out).2.2 0 p330 q330
      cases e330
      have qi330 : (0 < x4_1.length) = True := eq_true (by omega)
      (try rw [show ((0 : Int)).toNat = 0 from rfl] at hx330_0)
      (try rw [Addr.add_zero'] at hx330_0)
      replace p330 := eq_true p330
      replace q330 := eq_true q330
      go_wp2_with (first | ((with_reducible refine gate_dst (N := 51) rfl ?_); refine Kd.R_lit (Kd.int .i64) _ 2 ?hg (N := 51) ?hd (xs := ([rd x4_1 0] : List Int)) (inner := [.int .i64 (rd x4_1 0)]) (ok := fun _ => True) (okp := fun _ => True) ?hr ?hp (fun _ hk => hk) trivial (Below.refl _ _) (Nat.le_refl _) (by simp) ?_; (case hd => rfl); (case hg => rfl); (case hr => first | (go_simp; done) | (go_simp; rfl)); (case hp => exact (Reps.one (show Kd.M (Kd.int .i64) _ _ _ (rd x4_1 0) [.int .i64 (rd x4_1 0)] from rfl) (Reps.none _ _))); intro v332 w22 ho23 hb hg_ hnew_; clear hg_ hnew_; (first | rw [← Ny331.out] at ho23 | (simp only [Int.reduceToNat] at ho23; rw [← Ny331.out] at ho23)); have n0_ := zm (Kd.R_elder' (by (with_reducible repeat (first | apply zo | apply zp | apply zq)); exact HO_3.out) (Kd.R_base ho23) hb); have n1_ := zm (Kd.V_elder' (by (with_reducible repeat (first | apply zA | apply zB | apply zC)); exact HO_4.out) (Kd.R_base ho23) hb); have n2_ := zm (Kd.R_lower (Kd.R_new' (Kd.R_newM (M := fun k_ => (w.heap.size ≤ k_)) ho23 (zE (by repeat (first | (with_reducible first | exact HB.out | apply ze | apply zd | apply zf) | exact HB.out))) (fun k_ h_ => h_)) (Kd.R_lt (by (with_reducible repeat (first | apply zo | apply zp | apply zq)); exact HO_3.out))) (zE (by repeat (first | (with_reducible first | exact HB.out | apply ze | apply zd | apply zf) | exact HB.out)))); have n3_ := zm (zJ (by repeat (first | (with_reducible first | exact HB.out | apply ze | apply zd | apply zf) | exact HB.out)) hb); clear HO_3; clear HO_4; clear HB; have HO_3 := n0_; have HO_4 := n1_; have HO333 := n2_; have HB := n3_; clear n0_ n1_ n2_ n3_; clear hb ho23; obtain ⟨Ao25, co25, eo25⟩ := Kd.R_slice HO_3.out; subst eo25) | ((with_reducible refine gate_builtin (b := .append) (xs := #[.tmp 51, .tmp 52]) rfl ?_); at_builtin; refine Kd.R_append_rows (Kd.int .i64) (w0 := w) w.heap.size rfl (.tmp 51) (.tmp 52) 22 2 (.int .i64 0) 8 rfl Tryd.underlying22 info2 rfl (by decide) (by omega) v332 y331 x3_1 _ _ _ (fun k_ => (w.heap.size ≤ k_) ∧ some k_ ≠ (.slice Ao25 x3_1.length co25 : Value).ownBlock) (fun _ => False) rfl rfl ?aO ?aR (fun _ _ h => h) (fun _ h => h.elim) ?aF ?aB ?aS ?aL ?_; (case aR => repeat (first | exact (Kd.R_reads' HO_3.out).2.2 | (with_reducible refine Kd.C_alloc ?_ _) | (with_reducible refine Kd.C_drewN ?_ _) | (with_reducible refine Kd.C_drew ?_))); (case aB => exact (by repeat (first | (with_reducible first | exact HB.out | apply ze | apply zd | apply zf) | exact HB.out))); (case aF => exact (fun k_ hk => ⟨(Nat.le_trans (zE (by repeat (first | (with_reducible first | exact HB.out | apply ze | apply zd | apply zf) | exact HB.out))) hk), Kd.fresh' (Kd.R_lt (by (with_reducible repeat (first | apply zo | apply zp | apply zq)); exact HO_3.out)) k_ hk⟩)); (case aO => exact (by (with_reducible repeat (first | apply zo | apply zp | apply zq)); exact zG HO333.out (fun _ hk => ⟨hk.1.1, hk.2⟩))); (case aS => exact (zE (by repeat (first | (with_reducible first | exact HB.out | apply ze | apply zd | apply zf) | exact HB.out)))); (case aL => have := LMc20.out; omega); intro v335 w24 ho hb hg hat; rw [← Ny334.out] at ho; have n0_ := zm (Kd.R_after (ok := (fun k_ => (w.heap.size ≤ k_))) (by (with_reducible repeat (first | apply zo | apply zp | apply zq)); exact HO_3.out) hg hat); have n1_ := zm (Kd.V_afterv (ok := (fun k_ => (P0_ k_ ∨ w.heap.size ≤ k_) ∧ some k_ ≠ (.slice Ao25 x3_1.length co25 : Value).ownBlock)) (by (with_reducible repeat (first | apply zA | apply zB | apply zC)); exact HO_4.out) hg hat); have n2_ := zm (hb); have n3_ := zm (ho); clear HO_3; clear HO_4; clear HB; clear HO333; have HO_3 := n0_; have HO_4 := n1_; have HB := n2_; have HO336 := n3_; clear n0_ n1_ n2_ n3_; clear ho hb hg hat))
      go_ret
      exact ⟨_, by first | rfl | (simp [errW_none, errW_some] <;> rfl) | (simp [*, errW_none, errW_some] <;> rfl), by (with_reducible repeat (first | apply zo | apply zp | apply zq)); exact zG HO336.out (fun _ hk => hk.1), by repeat (first | (with_reducible first | exact HB.out | apply ze | apply zd | apply zf) | exact HB.out)⟩
     ·
      rw [if_neg c20] at H
      exact absurd H (by simp)
    ·
     rw [if_neg c19] at H
     exact absurd H (by simp)

-- NOT PRINTED: function 22 (psalteryref09_Frames)

-- NOT PRINTED: function 5 (psalterylaw09_LapFrames)

/-- What is only read: told by its row. -/
theorem F_all {W : World} {A : Option Addr} {n : Nat} {xs : List Int} (h : Kd.C (Kd.int .i64) W A n xs) : Kd.F (Kd.int .i64) W (fun _ => True) A n xs := by
 intro W' hW
 have hsz : W.heap.size ≤ W'.heap.size := by
  rcases Nat.eq_zero_or_pos W.heap.size with h0 | h0
  ·
   omega
  ·
   have := heap_lt (hW (W.heap.size - 1) trivial (by omega)) (by omega); omega
 have hb : Below W.heap.size W { W' with os := W.os, tape := W.tape, output := W.output } := ⟨rfl, rfl, rfl, hsz, fun k hk => hW k trivial hk⟩
 have := Kd.C_below h hb
 exact this
theorem psalteryref08_Forward.calls (k : Nat) (A0 : Option Addr) (c0 : Nat) (l0 : List Int) (r : List Int) (w : World) (hr0 : Kd.C (Kd.int .i64) w A0 l0.length l0) (hc0 : l0.length ≤ c0) (h : psalteryref08_Forward.f k l0 = some r) :
  Calls Tryd.prog 35 #[.slice A0 l0.length c0] w fun e w' => ∃ v0_ : Value, e = .returned (v0_) ∧ Kd.R (Kd.int .i64) 2 w' w.heap.size (fun _ => True) v0_ r ∧ Below w.heap.size w w' :=
 (psalteryref08_Forward.callsV k (fun _ => True) A0 c0 l0 r w (Kd.V_mk hc0 (F_all hr0)) h).mono (fun e w' hh => by
  obtain ⟨v, he, hR, hb⟩ := hh
  exact ⟨v, he, zG hR (fun _ _ => trivial), hb⟩)
end Go.Proofs.YtllchhcdpfiodaaDoor.Prt

namespace Go.Proofs.YtllchhcdpfiodaaDoor.Prt
open Go.RowKit Go.Proofs.YtllchhcdpfiodaaDoorW.PrintWords Go.Proofs.YtllchhcdpfiodaaDoorW.PrintLast Go.Proofs.YtllchhcdpfiodaaDoorW.PrintMore
attribute [local go_sem] max2_int min2_int max_two min_two max_three min_three max_four min_four   -- for this text's walks alone
set_option linter.unusedVariables false
set_option linter.unusedSimpArgs false

/-! ### psalteryref09_part: function 31 -/
def psalteryref09_part.f (k : Nat) (a0 : Int) (a1 : Int) : Option (Int) := (psalteryref03_Shift.f k (wrap64 (a0 * (wrap64 (7 - (wrap64 (2 * a1)))))) 4).bind fun t260 => (some t260)
theorem psalteryref09_part.mono : ∀ a0 a1 k, LeO (psalteryref09_part.f k a0 a1) (psalteryref09_part.f (k + 1) a0 a1) := by
 intro a0 a1 k
 unfold psalteryref09_part.f
 repeat' first
   | (with_reducible exact psalteryref03_Shift.mono _ _ _)
   | (with_reducible exact LeO.refl _)
   | (with_reducible exact LeO.none _)
   | (with_reducible refine LeO.ite ?_ ?_)
   | (with_reducible refine LeO.bind ?_ (fun _ => ?_))
   | exact psalteryref03_Shift.mono _ _ _
   | exact LeO.none _
   | refine LeO.ite ?_ ?_
   | refine LeO.bind ?_ (fun _ => ?_)
set_option maxHeartbeats 8000000 in
set_option maxRecDepth 100000 in
theorem psalteryref09_part.calls (k : Nat) (a0 : Int) (a1 : Int) (r : Int) (w : World) (h : psalteryref09_part.f k a0 a1 = some r) :
  Calls Tryd.prog 31 #[.int .i64 a0, .int .i64 a1] w fun e w' => e = .returned (.int .i64 r) ∧ Drawn0 w w' := by
 have H : ((psalteryref03_Shift.f k (wrap64 (a0 * (wrap64 (7 - (wrap64 (2 * a1)))))) 4).bind fun t260 => (some t260)) = some r := h
 clear h
 replace H := Option.bind_eq_some_iff.mp H
 obtain ⟨t260, A30, H⟩ := H
 replace H : (some t260) = some r := H
 have A3 := zm A30
 clear A30
 obtain rfl := Option.some.inj H
 go_enter Tryd.func31, Tryd.ntmps31
 go_wp2_with (first | ((with_reducible refine gate_callee (f := 41) rfl ?_); refine goesL_ (some 10) rfl rfl Tryd.func41 (by kernel_rfl) rfl #[.int .i64 (wrap64 (a0 * (wrap64 (7 - (wrap64 (2 * a1)))))), .int .i64 4] rfl (by (try simp only [List.map_toArray, List.map_cons, List.map_nil]); first | done | rfl | (simp only [List.length_drop, List.length_take]; rfl)) ?_; (with_reducible refine (psalteryref03_Shift.calls k (wrap64 (a0 * (wrap64 (7 - (wrap64 (2 * a1)))))) 4 t260 _ A3.out).mono ?_); rintro e w' ⟨rfl, ⟨nd, rfl⟩⟩; refine ⟨_, rfl, ?_⟩))
 go_ret
 exact ⟨by first | rfl | (simp; done) | (simp [*]; done), by repeat (first | exact Drawn0.refl _ | apply Drawn0.step)⟩

end Go.Proofs.YtllchhcdpfiodaaDoor.Prt
