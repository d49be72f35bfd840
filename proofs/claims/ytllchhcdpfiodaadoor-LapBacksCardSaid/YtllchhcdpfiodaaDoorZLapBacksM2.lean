-- Functions of the program and of the document as plain Lean, each with the proof that the code comes to it. Written by a program of this session (wip/tools/myprint.py, pack.py) over the kit's printer; Lean checks it.
import Derived.Test.YtllchhcdpfiodaaDoorZLapBacksPrt0
import Derived.Test.YtllchhcdpfiodaaDoorZLapBacksM1
namespace Go.Proofs.YtllchhcdpfiodaaDoor.Prt
open Go.RowKit Go.Proofs.YtllchhcdpfiodaaDoorW.PrintWords Go.Proofs.YtllchhcdpfiodaaDoorW.PrintLast Go.Proofs.YtllchhcdpfiodaaDoorW.PrintMore
attribute [local go_sem] max2_int min2_int max_two min_two max_three min_three max_four min_four   -- for this text's walks alone
set_option linter.unusedVariables false
set_option linter.unusedSimpArgs false

/-! ### wave_Inverse: function 36 -/
mutual
def wave_Inverse.l0 : Nat → List Int → List Int → Option (List Int × Int)
 | 0, _, _ => none
 | k + 1, x0, x4 => if (x4.length : Int) < (x0.length : Int) then (if 0 ≤ (x4.length : Int) then (if (x4.length : Int) ≤ (wrap64 (2 * (x4.length : Int))) then (if (wrap64 (2 * (x4.length : Int))) ≤ (x0.length : Int) then (wave_Inverse.l1 k x0 ((x0.take ((wrap64 (2 * (x4.length : Int))) : Int).toNat).drop ((x4.length : Int) : Int).toNat) ([] : List Int) x4 (x4.length : Int) 0) else (none)) else (none)) else (none)) else (some (x4, 0))
def wave_Inverse.l1 : Nat → List Int → List Int → List Int → List Int → Int → Int → Option (List Int × Int)
 | 0, _, _, _, _, _, _ => none
 | k + 1, x0, x5, x6, x29, x30, x31 => if x31 < x30 then (if 0 ≤ x31 then (if x31 < (x29.length : Int) then (if x31 < (x5.length : Int) then ((wave_half.f (rd x5 x31)).bind fun t214 => ((some (([wrap64 ((rd x29 x31) - t214), wrap64 ((wrap64 ((rd x29 x31) - t214)) + (rd x5 x31))] : List Int) : List Int)).bind fun y216 => (if x6.length + y216.length < 17592186044416 then (wave_Inverse.l1 k x0 x5 (x6 ++ y216) x29 x30 (wrap64 (x31 + 1))) else (none)))) else (none)) else (none)) else (none)) else (wave_Inverse.l0 k x0 x6)
end
def wave_Inverse.f (k : Nat) (l0 : List Int) : Option (List Int × Int) := (wave_sized.f k l0 67108864).bind fun t206 => (if t206 = true then (if 0 < (l0.length : Int) then (wave_Inverse.l0 k l0 (([rd l0 0] : List Int))) else (none)) else (some (([] : List Int), 1)))
theorem wave_Inverse.mono_l : ∀ k, (∀ y0 y1, LeO (wave_Inverse.l0 k y0 y1) (wave_Inverse.l0 (k + 1) y0 y1)) ∧ (∀ y0 y1 y2 y3 y4 y5, LeO (wave_Inverse.l1 k y0 y1 y2 y3 y4 y5) (wave_Inverse.l1 (k + 1) y0 y1 y2 y3 y4 y5))
 | 0 => ⟨fun _ _ r h => by simp [wave_Inverse.l0] at h, fun _ _ _ _ _ _ r h => by simp [wave_Inverse.l1] at h⟩
 | k + 1 => by
  obtain ⟨ih0, ih1⟩ := wave_Inverse.mono_l k
  refine ⟨?_, ?_⟩
  ·
   intro y0 y1
   unfold wave_Inverse.l0
   repeat' first
   | (with_reducible exact ih0 _ _)
   | (with_reducible exact ih1 _ _ _ _ _ _)
   | (with_reducible exact wave_sized.mono _ _ _)
   | (with_reducible exact LeO.refl _)
   | (with_reducible exact LeO.none _)
   | (with_reducible refine LeO.ite ?_ ?_)
   | (with_reducible refine LeO.bind ?_ (fun _ => ?_))
   | exact ih0 _ _
   | exact ih1 _ _ _ _ _ _
   | exact wave_sized.mono _ _ _
   | exact LeO.none _
   | refine LeO.ite ?_ ?_
   | refine LeO.bind ?_ (fun _ => ?_)
  ·
   intro y0 y1 y2 y3 y4 y5
   unfold wave_Inverse.l1
   repeat' first
   | (with_reducible exact ih0 _ _)
   | (with_reducible exact ih1 _ _ _ _ _ _)
   | (with_reducible exact wave_sized.mono _ _ _)
   | (with_reducible exact LeO.refl _)
   | (with_reducible exact LeO.none _)
   | (with_reducible refine LeO.ite ?_ ?_)
   | (with_reducible refine LeO.bind ?_ (fun _ => ?_))
   | exact ih0 _ _
   | exact ih1 _ _ _ _ _ _
   | exact wave_sized.mono _ _ _
   | exact LeO.none _
   | refine LeO.ite ?_ ?_
   | refine LeO.bind ?_ (fun _ => ?_)
theorem wave_Inverse.mono : ∀ a0 k, LeO (wave_Inverse.f k a0) (wave_Inverse.f (k + 1) a0) := by
 intro a0 k
 obtain ⟨ih0, ih1⟩ := wave_Inverse.mono_l k
 unfold wave_Inverse.f
 repeat' first
   | (with_reducible exact ih0 _ _)
   | (with_reducible exact ih1 _ _ _ _ _ _)
   | (with_reducible exact wave_sized.mono _ _ _)
   | (with_reducible exact LeO.refl _)
   | (with_reducible exact LeO.none _)
   | (with_reducible refine LeO.ite ?_ ?_)
   | (with_reducible refine LeO.bind ?_ (fun _ => ?_))
   | exact ih0 _ _
   | exact ih1 _ _ _ _ _ _
   | exact wave_sized.mono _ _ _
   | exact LeO.none _
   | refine LeO.ite ?_ ?_
   | refine LeO.bind ?_ (fun _ => ?_)
set_option maxHeartbeats 8000000 in
set_option maxRecDepth 100000 in
theorem wave_Inverse.calls (k : Nat) (A0 : Option Addr) (c0 : Nat) (l0 : List Int) (r1 : List Int) (r2 : Int) (w : World) (hr0 : Kd.C (Kd.int .i64) w A0 l0.length l0) (hc0 : l0.length ≤ c0) (h : wave_Inverse.f k l0 = some (r1, r2)) :
  Calls Tryd.prog 36 #[.slice A0 l0.length c0] w fun e w' => ∃ v0_ : Value, e = .returned (.tuple #[v0_, .int .i64 r2]) ∧ Kd.R (Kd.int .i64) 2 w' w.heap.size (fun _ => True) v0_ r1 ∧ Below w.heap.size w w' := by
 have HR0 := zm hr0
 have HC0 := zm hc0
 clear hr0 hc0
 have HB := zm (Below.refl w.heap.size w)
 have H : ((wave_sized.f k l0 67108864).bind fun t206 => (if t206 = true then (if 0 < (l0.length : Int) then (wave_Inverse.l0 k l0 (([rd l0 0] : List Int))) else (none)) else (some (([] : List Int), 1)))) = some (r1, r2) := h
 clear h
 replace H := Option.bind_eq_some_iff.mp H
 obtain ⟨t206, A20, H⟩ := H
 replace H : (if t206 = true then (if 0 < (l0.length : Int) then (wave_Inverse.l0 k l0 (([rd l0 0] : List Int))) else (none)) else (some (([] : List Int), 1))) = some (r1, r2) := H
 have A2 := zm A20
 clear A20
 by_cases c3 : t206 = true
 ·
  subst c3
  have H1 : (if 0 < (l0.length : Int) then (wave_Inverse.l0 k l0 (([rd l0 0] : List Int))) else (none)) = some (r1, r2) := by rw [if_pos rfl] at H; exact H
  clear H
  have H := H1
  clear H1
  by_cases c4 : 0 < (l0.length : Int)
  ·
   rw [if_pos c4] at H
   have c4b0 : decide (0 < (l0.length : Int)) = true := decide_eq_true c4
   have c4b1 : decide (0 < l0.length) = true := decide_eq_true (by omega)
   clear c4
   obtain ⟨y208, hy208⟩ : ∃ y_ : List Int, y_ = (([rd l0 0] : List Int)) := ⟨_, rfl⟩
   replace H : (wave_Inverse.l0 k l0 y208) = some (r1, r2) := by first | (rw [hy208]; with_reducible exact H) | (have H2_ := (Option.bind_some _ _).symm.trans H; rw [hy208]; with_reducible exact H2_) | (have H2_ := (Option.bind_some _ _).symm.trans H; with_reducible exact H2_) | with_reducible exact H | (rw [hy208]; exact H) | exact H
   have Ny208 := zm hy208
   clear hy208
   have H' := zm H
   clear H
   go_enter Tryd.func36, Tryd.ntmps36
   go_wp2_with (first | ((with_reducible refine gate_callee (f := 45) rfl ?_); refine goesL_ (some 11) rfl rfl Tryd.func45 (by kernel_rfl) rfl #[.slice A0 l0.length c0, .int .i64 67108864] rfl (by (try simp only [List.map_toArray, List.map_cons, List.map_nil]); first | done | rfl | (simp only [List.length_drop, List.length_take]; rfl)) ?_; (with_reducible refine (wave_sized.calls k _ _ l0 67108864 true _ ?side1 ?side2 A2.out).mono ?_); (case side1 => repeat (first | exact HR0.out | (with_reducible refine Kd.C_alloc ?_ _) | (with_reducible refine Kd.C_drewN ?_ _) | (with_reducible refine Kd.C_drew ?_))); (case side2 => exact HC0.out); rintro e w' ⟨rfl, ⟨nd, rfl⟩⟩; refine ⟨_, rfl, ?_⟩; have p207 : 0 ≤ (0 : Int) := (by omega); have q207 : 0 < (l0.length : Int) := of_decide_eq_true (by first | (with_reducible assumption) | assumption); obtain ⟨ad207, e207, hx207_0⟩ := Kd.at_int HR0.out 0 p207 q207; cases e207; have qi207 : (0 < l0.length) = True := eq_true (by omega); (try rw [show ((0 : Int)).toNat = 0 from rfl] at hx207_0); (try rw [Addr.add_zero'] at hx207_0); replace p207 := eq_true p207; replace q207 := eq_true q207) | ((with_reducible refine gate_dst (N := 16) rfl ?_); refine Kd.R_lit (Kd.int .i64) _ 2 ?hg (N := 16) ?hd (xs := ([rd l0 0] : List Int)) (inner := [.int .i64 (rd l0 0)]) (ok := fun _ => True) (okp := fun _ => True) ?hr ?hp (fun _ hk => hk) trivial (Below.refl _ _) (Nat.le_refl _) (by simp) ?_; (case hd => rfl); (case hg => rfl); (case hr => first | (go_simp; done) | (go_simp; rfl)); (case hp => exact (Reps.one (show Kd.M (Kd.int .i64) _ _ _ (rd l0 0) [.int .i64 (rd l0 0)] from rfl) (Reps.none _ _))); intro v209 w5 ho6 hb hg_ hnew_; clear hg_ hnew_; (first | rw [← Ny208.out] at ho6 | (simp only [Int.reduceToNat] at ho6; rw [← Ny208.out] at ho6)); have n0_ := zm (Kd.R_lower ho6 (zE (by repeat (first | (with_reducible first | exact HB.out | apply ze | apply zd | apply zf) | exact HB.out)))); have n1_ := zm (zJ (by repeat (first | (with_reducible first | exact HB.out | apply ze | apply zd | apply zf) | exact HB.out)) hb); clear HB; have HO210 := n0_; have HB := n1_; clear n0_ n1_; clear hb ho6))
   go_loopg [4] k (fun kq v4 w' => ∃ (x4_1 : List Int), Aside0 (wave_Inverse.l0 kq l0 x4_1 = some (r1, r2)) ∧ Aside0 (kq ≤ k) ∧ Aside0 (Kd.R (Kd.int .i64) 2 w' w.heap.size (fun _ => True) v4 x4_1) ∧ Aside0 (Below w.heap.size w w'))
   case atStart => exact ⟨(y208), H', ⟨Nat.le_refl _⟩, ⟨by (with_reducible repeat (first | apply zo | apply zp | apply zq)); exact HO210.out⟩, ⟨by repeat (first | (with_reducible first | exact HB.out | apply ze | apply zd | apply zf) | exact HB.out)⟩⟩
   case round =>
    clear H'
    try clear p2
    try clear q2
    try clear hx2
    try clear qi2
    try clear c3
    try clear c4
    try clear c4b0
    try clear c4b1
    try clear hx207_0
    try clear p207
    try clear q207
    obtain ⟨x4_1, HA, HK1, HO_4, HB⟩ := hrel
    cases gk with
    | zero => exact absurd HA.out (by simp [wave_Inverse.l0])
    | succ k1 =>
     have H := HA.out
     clear HA
     simp only [wave_Inverse.l0] at H
     by_cases c7 : (x4_1.length : Int) < (l0.length : Int)
     ·
      rw [if_pos c7] at H
      have c7b0 : decide ((x4_1.length : Int) < (l0.length : Int)) = true := decide_eq_true c7
      have c7b1 : decide (x4_1.length < l0.length) = true := decide_eq_true (Int.ofNat_lt.mp c7)
      clear c7
      by_cases c8 : 0 ≤ (x4_1.length : Int)
      ·
       rw [if_pos c8] at H
       have c8b0 := eq_true c8
       have c8b1 : decide (0 ≤ (x4_1.length : Int)) = true := decide_eq_true c8
       clear c8
       by_cases c9 : (x4_1.length : Int) ≤ (wrap64 (2 * (x4_1.length : Int)))
       ·
        rw [if_pos c9] at H
        have c9b0 := eq_true c9
        have c9b1 : decide ((x4_1.length : Int) ≤ (wrap64 (2 * (x4_1.length : Int)))) = true := decide_eq_true c9
        clear c9
        by_cases c10 : (wrap64 (2 * (x4_1.length : Int))) ≤ (l0.length : Int)
        ·
         rw [if_pos c10] at H
         have c10b0 := eq_true c10
         have c10b1 : decide ((wrap64 (2 * (x4_1.length : Int))) ≤ (l0.length : Int)) = true := decide_eq_true c10
         clear c10
         have H' := zm H
         clear H
         obtain ⟨Ao11, co11, eo11⟩ := Kd.R_slice HO_4.out
         subst eo11
         obtain ⟨i012, hi012, _, hsz12, _⟩ := info_parts info2
         obtain ⟨A12, hcut12, hA12, hC12⟩ := print_mid_of (P := Tryd.prog) (Value.int .i64) 0 22 2 .i64 .i64 Tryd.underlying22 hi012 hsz12 (some ad207) c0 l0 (x4_1.length : Int) (wrap64 (2 * (x4_1.length : Int))) (of_decide_eq_true (by first | (with_reducible assumption) | assumption)) (by first | omega | exact of_decide_eq_true (by first | (with_reducible assumption) | assumption)) (of_decide_eq_true (by first | (with_reducible assumption) | assumption)) HC0.out
         have HR211 := zm (Kd.C_of_reads (h1 := fun _ => rfl) (hA12 _ (Kd.reads_of_C HR0.out)))
         have HC211 := zm hC12
         clear hA12 hC12 hi012 hsz12
         generalize hDD_ : ((l0.take ((wrap64 (2 * (x4_1.length : Int))) : Int).toNat).drop ((x4_1.length : Int) : Int).toNat) = DD_ at hcut12 HR211 HC211 H'
         clear hDD_
         go_wp2
         go_loopg [6, 31] k1 (fun kq v6 v31 w' => ∃ (x6_2 : List Int) (x31_2 : Int), v31 = .int .i64 x31_2 ∧ Aside0 (wave_Inverse.l1 kq l0 DD_ x6_2 x4_1 (x4_1.length : Int) x31_2 = some (r1, r2)) ∧ Aside0 (kq ≤ k1) ∧ Aside0 (Kd.R (Kd.int .i64) 2 w' w.heap.size (fun k_ => some k_ ≠ ((.slice Ao11 x4_1.length co11) : Value).ownBlock) v6 x6_2) ∧ Aside0 (Kd.R (Kd.int .i64) 2 w' w.heap.size (fun k_ => some k_ ≠ (v6 : Value).ownBlock) (.slice Ao11 x4_1.length co11) x4_1) ∧ Aside0 (Below w.heap.size w w'))
         case atStart => exact ⟨(([] : List Int)), (0), (by first | rfl | (simp; done) | (simp [*]; done)), H', ⟨Nat.le_refl _⟩, ⟨by first | exact Kd.R_nil _ _ _ _ _ | exact Kd.N_nil _ _ _ _ _ | exact Kd.V_nil _ _ _ _ _ | exact Kd.Q_nil _ _ _ _ _ | exact Kd.S_nil _ _ _ _ _⟩, ⟨by (with_reducible repeat (first | apply zo | apply zp | apply zq)); exact zG HO_4.out (fun _ hk => (by simp [Value.ownBlock]))⟩, ⟨by repeat (first | (with_reducible first | exact HB.out | apply ze | apply zd | apply zf) | exact HB.out)⟩⟩
         case round =>
          clear H'
          try clear c1
          try clear p2
          try clear q2
          try clear hx2
          try clear qi2
          try clear c3
          try clear c4
          try clear c4b0
          try clear c4b1
          try clear p6
          try clear c7
          try clear c7b0
          try clear c7b1
          try clear c8
          try clear c8b0
          try clear c8b1
          try clear c9
          try clear c9b0
          try clear c9b1
          try clear c10
          try clear c10b0
          try clear c10b1
          try clear hx207_0
          try clear p2
          try clear p207
          try clear q2
          try clear q207
          obtain ⟨x6_2, x31_2, rfl, HA, HK2, HO_6, HO_29, HB⟩ := hrel
          cases gk with
          | zero => exact absurd HA.out (by simp [wave_Inverse.l1])
          | succ k2 =>
           have H := HA.out
           clear HA
           simp only [wave_Inverse.l1] at H
           by_cases c13 : x31_2 < (x4_1.length : Int)
           ·
            rw [if_pos c13] at H
            have c13b0 : decide (x31_2 < (x4_1.length : Int)) = true := decide_eq_true c13
            clear c13
            by_cases c14 : 0 ≤ x31_2
            ·
             rw [if_pos c14] at H
             have c14b0 : decide (0 ≤ x31_2) = true := decide_eq_true c14
             clear c14
             by_cases c15 : x31_2 < (x4_1.length : Int)
             ·
              rw [if_pos c15] at H
              have c15b0 : decide (x31_2 < (x4_1.length : Int)) = true := decide_eq_true c15
              clear c15
              by_cases c16 : x31_2 < (DD_.length : Int)
              ·
               rw [if_pos c16] at H
               have c16b0 : decide (x31_2 < (DD_.length : Int)) = true := decide_eq_true c16
               clear c16
               replace H := Option.bind_eq_some_iff.mp H
               obtain ⟨t214, A170, H⟩ := H
               replace H : ((some (([wrap64 ((rd x4_1 x31_2) - t214), wrap64 ((wrap64 ((rd x4_1 x31_2) - t214)) + (rd DD_ x31_2))] : List Int) : List Int)).bind fun y216 => (if x6_2.length + y216.length < 17592186044416 then (wave_Inverse.l1 k2 l0 DD_ (x6_2 ++ y216) x4_1 (x4_1.length : Int) (wrap64 (x31_2 + 1))) else (none))) = some (r1, r2) := H
               have A17 := zm A170
               clear A170
               obtain ⟨y216, hy216⟩ : ∃ y_ : List Int, y_ = (([wrap64 ((rd x4_1 x31_2) - t214), wrap64 ((wrap64 ((rd x4_1 x31_2) - t214)) + (rd DD_ x31_2))] : List Int)) := ⟨_, rfl⟩
               replace H : (if x6_2.length + y216.length < 17592186044416 then (wave_Inverse.l1 k2 l0 DD_ (x6_2 ++ y216) x4_1 (x4_1.length : Int) (wrap64 (x31_2 + 1))) else (none)) = some (r1, r2) := by first | (rw [hy216]; with_reducible exact H) | (have H2_ := (Option.bind_some _ _).symm.trans H; rw [hy216]; with_reducible exact H2_) | (have H2_ := (Option.bind_some _ _).symm.trans H; with_reducible exact H2_) | with_reducible exact H | (rw [hy216]; exact H) | exact H
               have Ny216 := zm hy216
               clear hy216
               by_cases c18 : x6_2.length + y216.length < 17592186044416
               ·
                rw [if_pos c18] at H
                have LMc18 := zm c18
                clear c18
                obtain ⟨y219, hy219⟩ : ∃ y_ : List Int, y_ = (x6_2 ++ y216) := ⟨_, rfl⟩
                replace H : (wave_Inverse.l1 k2 l0 DD_ y219 x4_1 (x4_1.length : Int) (wrap64 (x31_2 + 1))) = some (r1, r2) := by first | (rw [hy219]; with_reducible exact H) | (have H2_ := (Option.bind_some _ _).symm.trans H; rw [hy219]; with_reducible exact H2_) | (have H2_ := (Option.bind_some _ _).symm.trans H; with_reducible exact H2_) | with_reducible exact H | (rw [hy219]; exact H) | exact H
                have Ny219 := zm hy219
                clear hy219
                have H' := zm H
                clear H
                have p212 : 0 ≤ (x31_2 : Int) := of_decide_eq_true (by first | (with_reducible assumption) | assumption)
                have q212 : x31_2 < (x4_1.length : Int) := of_decide_eq_true (by first | (with_reducible assumption) | assumption)
                obtain ⟨ad212, e212, hx212_0⟩ := Kd.at_int (Kd.R_reads' HO_29.out).2.2 x31_2 p212 q212
                cases e212
                replace p212 := eq_true p212
                replace q212 := eq_true q212
                have p213 : 0 ≤ (x31_2 : Int) := of_decide_eq_true (by first | (with_reducible assumption) | assumption)
                have q213 : x31_2 < (DD_.length : Int) := of_decide_eq_true (by first | (with_reducible assumption) | assumption)
                obtain ⟨ad213, e213, hx213_0⟩ := Kd.at_int HR211.out x31_2 p213 q213
                cases e213
                replace hx213_0 := (HB.out.cell (zb w _ hx213_0)).trans hx213_0
                replace p213 := eq_true p213
                replace q213 := eq_true q213
                go_wp2_with (first | ((with_reducible refine gate_callee (f := 44) rfl ?_); refine goesL_ (some 41) rfl rfl Tryd.func44 (by kernel_rfl) rfl #[.int .i64 (rd DD_ x31_2)] rfl (by (try simp only [List.map_toArray, List.map_cons, List.map_nil]); first | done | rfl | (simp only [List.length_drop, List.length_take]; rfl)) ?_; (with_reducible refine (wave_half.calls (rd DD_ x31_2) t214 _ A17.out).mono ?_); rintro e w' ⟨rfl, ⟨nd, rfl⟩⟩; refine ⟨_, rfl, ?_⟩; have p215 : 0 ≤ (x31_2 : Int) := of_decide_eq_true (by first | (with_reducible assumption) | assumption); have q215 : x31_2 < (DD_.length : Int) := of_decide_eq_true (by first | (with_reducible assumption) | assumption); obtain ⟨ad215, e215, hx215_0⟩ := Kd.at_int HR211.out x31_2 p215 q215; obtain rfl : ad213 = ad215 := (by injection e215); replace hx215_0 := (HB.out.cell (zb w _ hx215_0)).trans hx215_0; replace p215 := eq_true p215; replace q215 := eq_true q215) | ((with_reducible refine gate_dst (N := 51) rfl ?_); refine Kd.R_lit (Kd.int .i64) _ 2 ?hg (N := 51) ?hd (xs := ([wrap64 ((rd x4_1 x31_2) - t214), wrap64 ((wrap64 ((rd x4_1 x31_2) - t214)) + (rd DD_ x31_2))] : List Int)) (inner := [.int .i64 (wrap64 ((rd x4_1 x31_2) - t214)), .int .i64 (wrap64 ((wrap64 ((rd x4_1 x31_2) - t214)) + (rd DD_ x31_2)))]) (ok := fun _ => True) (okp := fun _ => True) ?hr ?hp (fun _ hk => hk) trivial (Below.refl _ _) (Nat.le_refl _) (by simp) ?_; (case hd => rfl); (case hg => rfl); (case hr => first | (go_simp; done) | (go_simp; rfl)); (case hp => exact (Reps.one (show Kd.M (Kd.int .i64) _ _ _ (wrap64 ((rd x4_1 x31_2) - t214)) [.int .i64 (wrap64 ((rd x4_1 x31_2) - t214))] from rfl) (Reps.one (show Kd.M (Kd.int .i64) _ _ _ (wrap64 ((wrap64 ((rd x4_1 x31_2) - t214)) + (rd DD_ x31_2))) [.int .i64 (wrap64 ((wrap64 ((rd x4_1 x31_2) - t214)) + (rd DD_ x31_2)))] from rfl) (Reps.none _ _)))); intro v217 w19 ho20 hb hg_ hnew_; clear hg_ hnew_; (first | rw [← Ny216.out] at ho20 | (simp only [Int.reduceToNat] at ho20; rw [← Ny216.out] at ho20)); have n0_ := zm (Kd.R_elder' (by (with_reducible repeat (first | apply zo | apply zp | apply zq)); exact HO_6.out) (Kd.R_base ho20) hb); have n1_ := zm (Kd.R_elder' (by (with_reducible repeat (first | apply zo | apply zp | apply zq)); exact HO_29.out) (Kd.R_base ho20) hb); have n2_ := zm (Kd.R_lower (Kd.R_new' (Kd.R_new' ho20 (Kd.R_lt (by (with_reducible repeat (first | apply zo | apply zp | apply zq)); exact HO_6.out))) (Kd.R_lt (by (with_reducible repeat (first | apply zo | apply zp | apply zq)); exact HO_29.out))) (zE (by repeat (first | (with_reducible first | exact HB.out | apply ze | apply zd | apply zf) | exact HB.out)))); have n3_ := zm (zJ (by repeat (first | (with_reducible first | exact HB.out | apply ze | apply zd | apply zf) | exact HB.out)) hb); clear HO_6; clear HO_29; clear HB; have HO_6 := n0_; have HO_29 := n1_; have HO218 := n2_; have HB := n3_; clear n0_ n1_ n2_ n3_; clear hb ho20; obtain ⟨Ao22, co22, eo22⟩ := Kd.R_slice HO218.out; subst eo22) | ((with_reducible refine gate_builtin (b := .append) (xs := #[.tmp 43, .tmp 51]) rfl ?_); at_builtin; refine Kd.R_append_rows (Kd.int .i64) (w0 := w) w.heap.size rfl (.tmp 43) (.tmp 51) 22 2 (.int .i64 0) 8 rfl Tryd.underlying22 info2 rfl (by decide) (by omega) u6 x6_2 y216 _ _ _ (fun k_ => some k_ ≠ (.slice (some ad212) x4_1.length co11 : Value).ownBlock ∧ some k_ ≠ (.slice Ao22 y216.length co22 : Value).ownBlock) (fun _ => False) rfl rfl ?aO ?aR (fun _ _ h => h) (fun _ h => h.elim) ?aF ?aB ?aS ?aL ?_; (case aR => repeat (first | exact (Kd.R_reads' HO218.out).2.2 | (with_reducible refine Kd.C_alloc ?_ _) | (with_reducible refine Kd.C_drewN ?_ _) | (with_reducible refine Kd.C_drew ?_))); (case aB => exact (by repeat (first | (with_reducible first | exact HB.out | apply ze | apply zd | apply zf) | exact HB.out))); (case aF => exact (fun k_ hk => ⟨Kd.fresh' (Kd.R_lt (by (with_reducible repeat (first | apply zo | apply zp | apply zq)); exact HO_29.out)) k_ hk, Kd.fresh' (Kd.R_lt (by (with_reducible repeat (first | apply zo | apply zp | apply zq)); exact HO218.out)) k_ hk⟩)); (case aO => exact (by (with_reducible repeat (first | apply zo | apply zp | apply zq)); exact HO_6.out)); (case aS => exact (zE (by repeat (first | (with_reducible first | exact HB.out | apply ze | apply zd | apply zf) | exact HB.out)))); (case aL => have := LMc18.out; omega); intro v220 w21 ho hb hg hat; rw [← Ny219.out] at ho; have n0_ := zm (Kd.R_after (ok := (fun k_ => some k_ ≠ (.slice Ao22 y216.length co22 : Value).ownBlock)) (by (with_reducible repeat (first | apply zo | apply zp | apply zq)); exact zG HO_29.out (fun _ hk => ⟨hk.2, hk.1⟩)) hg hat); have n1_ := zm (Kd.R_after (ok := (fun k_ => some k_ ≠ (.slice (some ad212) x4_1.length co11 : Value).ownBlock)) (by (with_reducible repeat (first | apply zo | apply zp | apply zq)); exact zG HO218.out (fun _ hk => ⟨hk.2, hk.1.2⟩)) hg hat); have n2_ := zm (hb); have n3_ := zm (ho); clear HO_29; clear HO218; clear HB; clear HO_6; have HO_29 := n0_; have HO218 := n1_; have HB := n2_; have HO221 := n3_; clear n0_ n1_ n2_ n3_; clear ho hb hg hat))
                go_roundg k2
                case measure => have := HK1.out; have := HK2.out; omega
                case rel => exact ⟨(y219), (wrap64 (x31_2 + 1)), (by first | rfl | (simp; done) | (simp [*]; done)), H', ⟨by have := HK1.out; have := HK2.out; omega⟩, ⟨by (with_reducible repeat (first | apply zo | apply zp | apply zq)); exact zG HO221.out (fun _ hk => hk.1)⟩, ⟨by (with_reducible repeat (first | apply zo | apply zp | apply zq)); exact zG HO_29.out (fun _ hk => hk.2)⟩, ⟨by repeat (first | (with_reducible first | exact HB.out | apply ze | apply zd | apply zf) | exact HB.out)⟩⟩
               ·
                rw [if_neg c18] at H
                exact absurd H (by simp)
              ·
               rw [if_neg c16] at H
               exact absurd H (by simp)
             ·
              rw [if_neg c15] at H
              exact absurd H (by simp)
            ·
             rw [if_neg c14] at H
             exact absurd H (by simp)
           ·
            rw [if_neg c13] at H
            have c13b0 : decide (x31_2 < (x4_1.length : Int)) = false := decide_eq_false c13
            clear c13
            have H' := zm H
            clear H
            go_wp2
            go_roundg k2
            case measure => have := HK1.out; have := HK2.out; omega
            case rel => exact ⟨(x6_2), H', ⟨by have := HK1.out; have := HK2.out; omega⟩, ⟨by (with_reducible repeat (first | apply zo | apply zp | apply zq)); exact zG HO_6.out (fun _ hk => trivial)⟩, ⟨by repeat (first | (with_reducible first | exact HB.out | apply ze | apply zd | apply zf) | exact HB.out)⟩⟩
        ·
         rw [if_neg c10] at H
         exact absurd H (by simp)
       ·
        rw [if_neg c9] at H
        exact absurd H (by simp)
      ·
       rw [if_neg c8] at H
       exact absurd H (by simp)
     ·
      rw [if_neg c7] at H
      have c7b0 : decide ((x4_1.length : Int) < (l0.length : Int)) = false := decide_eq_false c7
      have c7b1 : decide (x4_1.length < l0.length) = false := decide_eq_false (fun h => c7 (Int.ofNat_lt.mpr h))
      clear c7
      simp only [Option.some.injEq, Prod.mk.injEq] at H
      obtain ⟨rfl, rfl⟩ := H
      obtain ⟨Ao23, co23, eo23⟩ := Kd.R_slice HO_4.out
      subst eo23
      go_wp2
      go_ret2
      exact ⟨_, by first | rfl | (simp [errW_none, errW_some] <;> rfl) | (simp [*, errW_none, errW_some] <;> rfl), by (with_reducible repeat (first | apply zo | apply zp | apply zq)); exact HO_4.out, by repeat (first | (with_reducible first | exact HB.out | apply ze | apply zd | apply zf) | exact HB.out)⟩
  ·
   rw [if_neg c4] at H
   exact absurd H (by simp)
 ·
  replace c3 := Bool.eq_false_iff.mpr c3
  subst c3
  have H1 : (some (([] : List Int), 1)) = some (r1, r2) := by rw [if_neg (show ¬ (false = true) by decide)] at H; exact H
  clear H
  have H := H1
  clear H1
  simp only [Option.some.injEq, Prod.mk.injEq] at H
  obtain ⟨rfl, rfl⟩ := H
  go_enter Tryd.func36, Tryd.ntmps36
  go_wp2_with (first | ((with_reducible refine gate_callee (f := 45) rfl ?_); refine goesL_ (some 11) rfl rfl Tryd.func45 (by kernel_rfl) rfl #[.slice A0 l0.length c0, .int .i64 67108864] rfl (by (try simp only [List.map_toArray, List.map_cons, List.map_nil]); first | done | rfl | (simp only [List.length_drop, List.length_take]; rfl)) ?_; (with_reducible refine (wave_sized.calls k _ _ l0 67108864 false _ ?side1 ?side2 A2.out).mono ?_); (case side1 => repeat (first | exact HR0.out | (with_reducible refine Kd.C_alloc ?_ _) | (with_reducible refine Kd.C_drewN ?_ _) | (with_reducible refine Kd.C_drew ?_))); (case side2 => exact HC0.out); rintro e w' ⟨rfl, ⟨nd, rfl⟩⟩; refine ⟨_, rfl, ?_⟩))
  go_ret2
  exact ⟨_, by first | rfl | (simp [errW_none, errW_some] <;> rfl) | (simp [*, errW_none, errW_some] <;> rfl), by first | exact Kd.R_nil _ _ _ _ _ | exact Kd.N_nil _ _ _ _ _ | exact Kd.V_nil _ _ _ _ _ | exact Kd.Q_nil _ _ _ _ _ | exact Kd.S_nil _ _ _ _ _, by repeat (first | (with_reducible first | exact HB.out | apply ze | apply zd | apply zf) | exact HB.out)⟩

end Go.Proofs.YtllchhcdpfiodaaDoor.Prt

namespace Go.Proofs.YtllchhcdpfiodaaDoor.Prt
open Go.RowKit Go.Proofs.YtllchhcdpfiodaaDoorW.PrintWords Go.Proofs.YtllchhcdpfiodaaDoorW.PrintLast Go.Proofs.YtllchhcdpfiodaaDoorW.PrintMore
attribute [local go_sem] max2_int min2_int max_two min_two max_three min_three max_four min_four   -- for this text's walks alone
set_option linter.unusedVariables false
set_option linter.unusedSimpArgs false

/-! ### lap_Signal: function 24 -/
mutual
def lap_Signal.j0 : Nat → List (List Int) → Int → Bool → Option (List Int × Int)
 | 0, _, _, _ => none
 | k + 1, x0, x1, x21 => if x21 = true then (some (([] : List Int), 1)) else (lap_Signal.l0 k x1 ([] : List Int) x0 (x0.length : Int) 0)
def lap_Signal.l0 : Nat → Int → List Int → List (List Int) → Int → Int → Option (List Int × Int)
 | 0, _, _, _, _, _ => none
 | k + 1, x1, x6, x22, x23, x24 => if x24 < x23 then (if 0 ≤ x24 then (if x24 < (x22.length : Int) then ((wave_Inverse.f k (rd_L1 x22 x24)).bind fun bt224 => (if bt224.2 = 0 then (if ((rd_L1 x22 x24).length : Int) = x1 then (if x6.length + bt224.1.length < 17592186044416 then (lap_Signal.l0 k x1 (x6 ++ bt224.1) x22 x23 (wrap64 (x24 + 1))) else (none)) else (some (([] : List Int), 1))) else (some (([] : List Int), 1)))) else (none)) else (none)) else (lap_Signal.l1 k x1 x6 (wrap64 ((x6.length : Int) - x1)))
def lap_Signal.l1 : Nat → Int → List Int → Int → Option (List Int × Int)
 | 0, _, _, _ => none
 | k + 1, x1, x6, x11 => if x11 > 0 then ((lap_back.f k x6 x11).bind fun t231 => (lap_Signal.l1 k x1 t231 (wrap64 (x11 - x1)))) else (some (x6, 0))
end
def lap_Signal.f (k : Nat) (l0 : List (List Int)) (a1 : Int) : Option (List Int × Int) := (lap_sized.f a1).bind fun t222 => (if t222 = true then (if a1 = 0 then (none) else (lap_Signal.j0 k l0 a1 (decide ((l0.length : Int) > (wrap64 ((4000 : Int) / a1)))))) else (lap_Signal.j0 k l0 a1 true))
theorem lap_Signal.mono_l : ∀ k, (∀ y0 y1 y2, LeO (lap_Signal.j0 k y0 y1 y2) (lap_Signal.j0 (k + 1) y0 y1 y2)) ∧ (∀ y0 y1 y2 y3 y4, LeO (lap_Signal.l0 k y0 y1 y2 y3 y4) (lap_Signal.l0 (k + 1) y0 y1 y2 y3 y4)) ∧ (∀ y0 y1 y2, LeO (lap_Signal.l1 k y0 y1 y2) (lap_Signal.l1 (k + 1) y0 y1 y2))
 | 0 => ⟨fun _ _ _ r h => by simp [lap_Signal.j0] at h, fun _ _ _ _ _ r h => by simp [lap_Signal.l0] at h, fun _ _ _ r h => by simp [lap_Signal.l1] at h⟩
 | k + 1 => by
  obtain ⟨ih0, ih1, ih2⟩ := lap_Signal.mono_l k
  refine ⟨?_, ?_, ?_⟩
  ·
   intro y0 y1 y2
   unfold lap_Signal.j0
   repeat' first
   | (with_reducible exact ih0 _ _ _)
   | (with_reducible exact ih1 _ _ _ _ _)
   | (with_reducible exact ih2 _ _ _)
   | (with_reducible exact lap_back.mono _ _ _)
   | (with_reducible exact wave_Inverse.mono _ _)
   | (with_reducible exact LeO.refl _)
   | (with_reducible exact LeO.none _)
   | (with_reducible refine LeO.ite ?_ ?_)
   | (with_reducible refine LeO.bind ?_ (fun _ => ?_))
   | exact ih0 _ _ _
   | exact ih1 _ _ _ _ _
   | exact ih2 _ _ _
   | exact lap_back.mono _ _ _
   | exact wave_Inverse.mono _ _
   | exact LeO.none _
   | refine LeO.ite ?_ ?_
   | refine LeO.bind ?_ (fun _ => ?_)
  ·
   intro y0 y1 y2 y3 y4
   unfold lap_Signal.l0
   repeat' first
   | (with_reducible exact ih0 _ _ _)
   | (with_reducible exact ih1 _ _ _ _ _)
   | (with_reducible exact ih2 _ _ _)
   | (with_reducible exact lap_back.mono _ _ _)
   | (with_reducible exact wave_Inverse.mono _ _)
   | (with_reducible exact LeO.refl _)
   | (with_reducible exact LeO.none _)
   | (with_reducible refine LeO.ite ?_ ?_)
   | (with_reducible refine LeO.bind ?_ (fun _ => ?_))
   | exact ih0 _ _ _
   | exact ih1 _ _ _ _ _
   | exact ih2 _ _ _
   | exact lap_back.mono _ _ _
   | exact wave_Inverse.mono _ _
   | exact LeO.none _
   | refine LeO.ite ?_ ?_
   | refine LeO.bind ?_ (fun _ => ?_)
  ·
   intro y0 y1 y2
   unfold lap_Signal.l1
   repeat' first
   | (with_reducible exact ih0 _ _ _)
   | (with_reducible exact ih1 _ _ _ _ _)
   | (with_reducible exact ih2 _ _ _)
   | (with_reducible exact lap_back.mono _ _ _)
   | (with_reducible exact wave_Inverse.mono _ _)
   | (with_reducible exact LeO.refl _)
   | (with_reducible exact LeO.none _)
   | (with_reducible refine LeO.ite ?_ ?_)
   | (with_reducible refine LeO.bind ?_ (fun _ => ?_))
   | exact ih0 _ _ _
   | exact ih1 _ _ _ _ _
   | exact ih2 _ _ _
   | exact lap_back.mono _ _ _
   | exact wave_Inverse.mono _ _
   | exact LeO.none _
   | refine LeO.ite ?_ ?_
   | refine LeO.bind ?_ (fun _ => ?_)
theorem lap_Signal.mono : ∀ a0 a1 k, LeO (lap_Signal.f k a0 a1) (lap_Signal.f (k + 1) a0 a1) := by
 intro a0 a1 k
 obtain ⟨ih0, ih1, ih2⟩ := lap_Signal.mono_l k
 unfold lap_Signal.f
 repeat' first
   | (with_reducible exact ih0 _ _ _)
   | (with_reducible exact ih1 _ _ _ _ _)
   | (with_reducible exact ih2 _ _ _)
   | (with_reducible exact lap_back.mono _ _ _)
   | (with_reducible exact wave_Inverse.mono _ _)
   | (with_reducible exact LeO.refl _)
   | (with_reducible exact LeO.none _)
   | (with_reducible refine LeO.ite ?_ ?_)
   | (with_reducible refine LeO.bind ?_ (fun _ => ?_))
   | exact ih0 _ _ _
   | exact ih1 _ _ _ _ _
   | exact ih2 _ _ _
   | exact lap_back.mono _ _ _
   | exact wave_Inverse.mono _ _
   | exact LeO.none _
   | refine LeO.ite ?_ ?_
   | refine LeO.bind ?_ (fun _ => ?_)
set_option maxHeartbeats 8000000 in
set_option maxRecDepth 100000 in
theorem lap_Signal.calls (k : Nat) (A0 : Option Addr) (c0 : Nat) (l0 : List (List Int)) (a1 : Int) (r1 : List Int) (r2 : Int) (w : World) (hr0 : Kd.C (Kd.slice 2 (Kd.int .i64)) w A0 l0.length l0) (hc0 : l0.length ≤ c0) (hg : GW w) (h : lap_Signal.f k l0 a1 = some (r1, r2)) :
  Calls Tryd.prog 24 #[.slice A0 l0.length c0, .int .i64 a1] w fun e w' => ∃ v0_ : Value, e = .returned (.tuple #[v0_, .int .i64 r2]) ∧ Kd.R (Kd.int .i64) 2 w' w.heap.size (fun _ => True) v0_ r1 ∧ Below w.heap.size w w' := by
 have HG := zm hg
 clear hg
 have HR0 := zm hr0
 have HC0 := zm hc0
 clear hr0 hc0
 have HB := zm (Below.refl w.heap.size w)
 have H : ((lap_sized.f a1).bind fun t222 => (if t222 = true then (if a1 = 0 then (none) else (lap_Signal.j0 k l0 a1 (decide ((l0.length : Int) > (wrap64 ((4000 : Int) / a1)))))) else (lap_Signal.j0 k l0 a1 true))) = some (r1, r2) := h
 clear h
 have HC3 := zm H
 clear H
 go_enter Tryd.func24, Tryd.ntmps24
 go_upto_region 1 with (fail)
 go_cut [21] (fun v21 wc => ∃ (kq : Nat) (x21_2 : Bool), v21 = .bool x21_2 ∧ Aside0 (lap_Signal.j0 kq l0 a1 x21_2 = some (r1, r2)) ∧ Aside0 (kq ≤ k) ∧ Aside0 (Below w.heap.size w wc))
 case first =>
  have H := HC3.out
  clear HC3
  replace H := Option.bind_eq_some_iff.mp H
  obtain ⟨t222, A40, H⟩ := H
  replace H : (if t222 = true then (if a1 = 0 then (none) else (lap_Signal.j0 k l0 a1 (decide ((l0.length : Int) > (wrap64 ((4000 : Int) / a1)))))) else (lap_Signal.j0 k l0 a1 true)) = some (r1, r2) := H
  have A4 := zm A40
  clear A40
  by_cases c5 : t222 = true
  ·
   subst c5
   have H1 : (if a1 = 0 then (none) else (lap_Signal.j0 k l0 a1 (decide ((l0.length : Int) > (wrap64 ((4000 : Int) / a1)))))) = some (r1, r2) := by rw [if_pos rfl] at H; exact H
   clear H
   have H := H1
   clear H1
   by_cases c6 : a1 = 0
   ·
    rw [if_pos c6] at H
    exact absurd H (by simp)
   ·
    rw [if_neg c6] at H
    have c6b0 : (a1 == 0) = false := beq_eq_false_iff_ne.mpr c6
    have c6b1 : (a1 != 0) = true := bne_iff_ne.mpr c6
    (first | rw [c6b0] | (simp only [i64_w, i32_w]; rw [c6b0]) | skip)
    have H' := zm H
    clear H
    go_wp2_with (first | ((with_reducible refine gate_callee (f := 33) rfl ?_); refine goesL_ (some 13) rfl rfl Tryd.func33 (by kernel_rfl) rfl #[.int .i64 a1] rfl (by (try simp only [List.map_toArray, List.map_cons, List.map_nil]); first | done | rfl | (simp only [List.length_drop, List.length_take]; rfl)) ?_; (with_reducible refine (lap_sized.calls a1 true _ A4.out).mono ?_); rintro e w' ⟨rfl, ⟨nd, rfl⟩⟩; refine ⟨_, rfl, ?_⟩))
    go_meet
    case rel => exact ⟨_, (decide ((l0.length : Int) > (wrap64 ((4000 : Int) / a1)))), (by first | rfl | (simp; done) | (simp [show Int.tdiv 4000 a1 = 4000 / a1 from Int.tdiv_eq_ediv_of_nonneg (by decide)]; done) | (simp [*]; done)), H', ⟨by first | omega | exact Nat.le_refl _⟩, ⟨by repeat (first | (with_reducible first | exact HB.out | apply ze | apply zd | apply zf) | exact HB.out)⟩⟩
  ·
   replace c5 := Bool.eq_false_iff.mpr c5
   subst c5
   have H1 : (lap_Signal.j0 k l0 a1 true) = some (r1, r2) := by rw [if_neg (show ¬ (false = true) by decide)] at H; exact H
   clear H
   have H := H1
   clear H1
   have H' := zm H
   clear H
   go_wp2_with (first | ((with_reducible refine gate_callee (f := 33) rfl ?_); refine goesL_ (some 13) rfl rfl Tryd.func33 (by kernel_rfl) rfl #[.int .i64 a1] rfl (by (try simp only [List.map_toArray, List.map_cons, List.map_nil]); first | done | rfl | (simp only [List.length_drop, List.length_take]; rfl)) ?_; (with_reducible refine (lap_sized.calls a1 false _ A4.out).mono ?_); rintro e w' ⟨rfl, ⟨nd, rfl⟩⟩; refine ⟨_, rfl, ?_⟩))
   go_meet
   case rel => exact ⟨_, (true), (by first | rfl | (simp; done) | (simp [*]; done)), H', ⟨by first | omega | exact Nat.le_refl _⟩, ⟨by repeat (first | (with_reducible first | exact HB.out | apply ze | apply zd | apply zf) | exact HB.out)⟩⟩
 case rest =>
  clear HC3
  try clear c2
  try clear p2
  try clear c3
  try clear c5
  try clear c6
  try clear c6b0
  try clear c6b1
  try clear p6
  obtain ⟨kq, x21_2, rfl, HA, HJ2, HB⟩ := hcut
  cases kq with
  | zero => exact absurd HA.out (by simp [lap_Signal.j0])
  | succ kj2 =>
   have H := HA.out
   clear HA
   simp only [lap_Signal.j0] at H
   by_cases c7 : x21_2 = true
   ·
    subst c7
    have H1 : (some (([] : List Int), 1)) = some (r1, r2) := by rw [if_pos rfl] at H; exact H
    clear H
    have H := H1
    clear H1
    simp only [Option.some.injEq, Prod.mk.injEq] at H
    obtain ⟨rfl, rfl⟩ := H
    go_wp2
    go_ret2
    exact ⟨_, by first | rfl | (simp [errW_none, errW_some] <;> rfl) | (simp [*, errW_none, errW_some] <;> rfl), by first | exact Kd.R_nil _ _ _ _ _ | exact Kd.N_nil _ _ _ _ _ | exact Kd.V_nil _ _ _ _ _ | exact Kd.Q_nil _ _ _ _ _ | exact Kd.S_nil _ _ _ _ _, by repeat (first | (with_reducible first | exact HB.out | apply ze | apply zd | apply zf) | exact HB.out)⟩
   ·
    replace c7 := Bool.eq_false_iff.mpr c7
    subst c7
    have H1 : (lap_Signal.l0 kj2 a1 ([] : List Int) l0 (l0.length : Int) 0) = some (r1, r2) := by rw [if_neg (show ¬ (false = true) by decide)] at H; exact H
    clear H
    have H := H1
    clear H1
    have H' := zm H
    clear H
    go_wp2
    go_loopg [6, 24] kj2 (fun kq v6 v24 w' => ∃ (x6_2 : List Int) (x24_2 : Int), v24 = .int .i64 x24_2 ∧ Aside0 (lap_Signal.l0 kq a1 x6_2 l0 (l0.length : Int) x24_2 = some (r1, r2)) ∧ Aside0 (kq ≤ kj2) ∧ Aside0 (Kd.R (Kd.int .i64) 2 w' w.heap.size (fun _ => True) v6 x6_2) ∧ Aside0 (Below w.heap.size w w'))
    case atStart => exact ⟨(([] : List Int)), (0), (by first | rfl | (simp; done) | (simp [*]; done)), H', ⟨Nat.le_refl _⟩, ⟨by first | exact Kd.R_nil _ _ _ _ _ | exact Kd.N_nil _ _ _ _ _ | exact Kd.V_nil _ _ _ _ _ | exact Kd.Q_nil _ _ _ _ _ | exact Kd.S_nil _ _ _ _ _⟩, ⟨by repeat (first | (with_reducible first | exact HB.out | apply ze | apply zd | apply zf) | exact HB.out)⟩⟩
    case round =>
     clear H'
     try clear c2
     try clear p2
     try clear c3
     try clear c5
     try clear c6
     try clear c6b0
     try clear c6b1
     try clear p6
     try clear c7
     try clear p2
     try clear p6
     obtain ⟨x6_2, x24_2, rfl, HA, HK2, HO_6, HB⟩ := hrel
     cases gk with
     | zero => exact absurd HA.out (by simp [lap_Signal.l0])
     | succ k2 =>
      have H := HA.out
      clear HA
      simp only [lap_Signal.l0] at H
      by_cases c8 : x24_2 < (l0.length : Int)
      ·
       rw [if_pos c8] at H
       have c8b0 : decide (x24_2 < (l0.length : Int)) = true := decide_eq_true c8
       clear c8
       by_cases c9 : 0 ≤ x24_2
       ·
        rw [if_pos c9] at H
        have c9b0 : decide (0 ≤ x24_2) = true := decide_eq_true c9
        clear c9
        by_cases c10 : x24_2 < (l0.length : Int)
        ·
         rw [if_pos c10] at H
         have c10b0 : decide (x24_2 < (l0.length : Int)) = true := decide_eq_true c10
         clear c10
         replace H := Option.bind_eq_some_iff.mp H
         obtain ⟨⟨t224, t225⟩, A110, H⟩ := H
         replace H : (if t225 = 0 then (if ((rd_L1 l0 x24_2).length : Int) = a1 then (if x6_2.length + t224.length < 17592186044416 then (lap_Signal.l0 k2 a1 (x6_2 ++ t224) l0 (l0.length : Int) (wrap64 (x24_2 + 1))) else (none)) else (some (([] : List Int), 1))) else (some (([] : List Int), 1))) = some (r1, r2) := H
         have A11 := zm A110
         clear A110
         by_cases c12 : t225 = 0
         ·
          rw [if_pos c12] at H
          have c12b0 : (t225 == 0) = true := beq_iff_eq.mpr c12
          have c12b1 : (t225 != 0) = false := bne_eq_false_iff_eq.mpr c12
          clear c12
          by_cases c13 : ((rd_L1 l0 x24_2).length : Int) = a1
          ·
           rw [if_pos c13] at H
           have c13b0 : (((rd_L1 l0 x24_2).length : Int) == a1) = true := beq_iff_eq.mpr c13
           have c13b1 : (((rd_L1 l0 x24_2).length : Int) != a1) = false := bne_eq_false_iff_eq.mpr c13
           clear c13
           by_cases c14 : x6_2.length + t224.length < 17592186044416
           ·
            rw [if_pos c14] at H
            have LMc14 := zm c14
            clear c14
            obtain ⟨y228, hy228⟩ : ∃ y_ : List Int, y_ = (x6_2 ++ t224) := ⟨_, rfl⟩
            replace H : (lap_Signal.l0 k2 a1 y228 l0 (l0.length : Int) (wrap64 (x24_2 + 1))) = some (r1, r2) := by first | (rw [hy228]; with_reducible exact H) | (have H2_ := (Option.bind_some _ _).symm.trans H; rw [hy228]; with_reducible exact H2_) | (have H2_ := (Option.bind_some _ _).symm.trans H; with_reducible exact H2_) | with_reducible exact H | (rw [hy228]; exact H) | exact H
            have Ny228 := zm hy228
            clear hy228
            have H' := zm H
            clear H
            have p223 : 0 ≤ (x24_2 : Int) := of_decide_eq_true (by first | (with_reducible assumption) | assumption)
            have q223 : x24_2 < (l0.length : Int) := of_decide_eq_true (by first | (with_reducible assumption) | assumption)
            obtain ⟨ad223, A223_0, c223_0, e223, hx223_0, hl223_0, hi223_0⟩ := at_L1 HR0.out x24_2 p223 q223
            cases e223
            replace hx223_0 := (HB.out.cell (zb w _ hx223_0)).trans hx223_0
            have HR223_0 := zm hi223_0
            have HC223_0 := zm hl223_0
            clear hi223_0 hl223_0
            replace p223 := eq_true p223
            replace q223 := eq_true q223
            go_wp2_with (first | ((with_reducible refine gate_callee (f := 36) rfl ?_); refine goesL_ (some 30) rfl rfl Tryd.func36 (by kernel_rfl) rfl #[.slice A223_0 (rd_L1 l0 x24_2).length c223_0] rfl (by (try simp only [List.map_toArray, List.map_cons, List.map_nil]); first | done | rfl | (simp only [List.length_drop, List.length_take]; rfl)) ?_; (with_reducible refine (wave_Inverse.calls k2 _ _ (rd_L1 l0 x24_2) t224 t225 _ ?side1 ?side2 A11.out).mono ?_); (case side1 => repeat (first | exact (Kd.C_below HR223_0.out HB.out) | (with_reducible refine Kd.C_alloc ?_ _) | (with_reducible refine Kd.C_drewN ?_ _) | (with_reducible refine Kd.C_drew ?_))); (case side2 => exact HC223_0.out); rintro e w15 ⟨v226, rfl, ho0, hb⟩; refine ⟨_, rfl, ?_⟩; have n0_ := zm (Kd.R_elder' (by (with_reducible repeat (first | apply zo | apply zp | apply zq)); exact HO_6.out) (Kd.R_base ho0) hb); have n1_ := zm (Kd.R_lower (Kd.R_new' ho0 (Kd.R_lt (by (with_reducible repeat (first | apply zo | apply zp | apply zq)); exact HO_6.out))) (zE (by repeat (first | (with_reducible first | exact HB.out | apply ze | apply zd | apply zf) | exact HB.out)))); have n2_ := zm (zJ (by repeat (first | (with_reducible first | exact HB.out | apply ze | apply zd | apply zf) | exact HB.out)) hb); clear HO_6; clear HB; have HO_6 := n0_; have HO227 := n1_; have HB := n2_; clear n0_ n1_ n2_; (try clear hb); (try clear hb2); (try clear hk); (try clear hi); (try clear ho0); obtain ⟨Ao17, co17, eo17⟩ := Kd.R_slice HO227.out; subst eo17) | ((with_reducible refine gate_builtin (b := .append) (xs := #[.tmp 41, .tmp 42]) rfl ?_); (try (refine gate_guard (by rfl) ?_; dsimp only)); at_builtin; refine Kd.R_append_rows (Kd.int .i64) (w0 := w) w.heap.size rfl (.tmp 41) (.tmp 42) 22 2 (.int .i64 0) 8 rfl Tryd.underlying22 info2 rfl (by decide) (by omega) u6 x6_2 t224 _ _ _ (fun k_ => some k_ ≠ (.slice Ao17 t224.length co17 : Value).ownBlock) (fun _ => False) rfl rfl ?aO ?aR (fun _ _ h => h) (fun _ h => h.elim) ?aF ?aB ?aS ?aL ?_; (case aR => repeat (first | exact (Kd.R_reads' HO227.out).2.2 | (with_reducible refine Kd.C_alloc ?_ _) | (with_reducible refine Kd.C_drewN ?_ _) | (with_reducible refine Kd.C_drew ?_))); (case aB => exact (by repeat (first | (with_reducible first | exact HB.out | apply ze | apply zd | apply zf) | exact HB.out))); (case aF => exact (fun k_ hk => Kd.fresh' (Kd.R_lt (by (with_reducible repeat (first | apply zo | apply zp | apply zq)); exact HO227.out)) k_ hk)); (case aO => exact (by (with_reducible repeat (first | apply zo | apply zp | apply zq)); exact zG HO_6.out (fun _ hk => hk.2))); (case aS => exact (zE (by repeat (first | (with_reducible first | exact HB.out | apply ze | apply zd | apply zf) | exact HB.out)))); (case aL => have := LMc14.out; omega); intro v229 w16 ho hb hg hat; rw [← Ny228.out] at ho; have n0_ := zm (Kd.R_after (ok := (fun _ => True)) (by (with_reducible repeat (first | apply zo | apply zp | apply zq)); exact HO227.out) hg hat); have n1_ := zm (hb); have n2_ := zm (ho); clear HO227; clear HB; clear HO_6; have HO227 := n0_; have HB := n1_; have HO230 := n2_; clear n0_ n1_ n2_; clear ho hb hg hat))
            go_roundg k2
            case measure => have := HJ2.out; have := HK2.out; omega
            case rel => exact ⟨(y228), (wrap64 (x24_2 + 1)), (by first | rfl | (simp; done) | (simp [*]; done)), H', ⟨by have := HJ2.out; have := HK2.out; omega⟩, ⟨by (with_reducible repeat (first | apply zo | apply zp | apply zq)); exact zG HO230.out (fun _ hk => trivial)⟩, ⟨by repeat (first | (with_reducible first | exact HB.out | apply ze | apply zd | apply zf) | exact HB.out)⟩⟩
           ·
            rw [if_neg c14] at H
            exact absurd H (by simp)
          ·
           rw [if_neg c13] at H
           have c13b0 : (((rd_L1 l0 x24_2).length : Int) == a1) = false := beq_eq_false_iff_ne.mpr c13
           have c13b1 : (((rd_L1 l0 x24_2).length : Int) != a1) = true := bne_iff_ne.mpr c13
           simp only [Option.some.injEq, Prod.mk.injEq] at H
           obtain ⟨rfl, rfl⟩ := H
           have p223 : 0 ≤ (x24_2 : Int) := of_decide_eq_true (by first | (with_reducible assumption) | assumption)
           have q223 : x24_2 < (l0.length : Int) := of_decide_eq_true (by first | (with_reducible assumption) | assumption)
           obtain ⟨ad223, A223_0, c223_0, e223, hx223_0, hl223_0, hi223_0⟩ := at_L1 HR0.out x24_2 p223 q223
           cases e223
           replace hx223_0 := (HB.out.cell (zb w _ hx223_0)).trans hx223_0
           have HR223_0 := zm hi223_0
           have HC223_0 := zm hl223_0
           clear hi223_0 hl223_0
           replace p223 := eq_true p223
           replace q223 := eq_true q223
           go_wp2_with (first | ((with_reducible refine gate_callee (f := 36) rfl ?_); refine goesL_ (some 30) rfl rfl Tryd.func36 (by kernel_rfl) rfl #[.slice A223_0 (rd_L1 l0 x24_2).length c223_0] rfl (by (try simp only [List.map_toArray, List.map_cons, List.map_nil]); first | done | rfl | (simp only [List.length_drop, List.length_take]; rfl)) ?_; (with_reducible refine (wave_Inverse.calls k2 _ _ (rd_L1 l0 x24_2) t224 t225 _ ?side1 ?side2 A11.out).mono ?_); (case side1 => repeat (first | exact (Kd.C_below HR223_0.out HB.out) | (with_reducible refine Kd.C_alloc ?_ _) | (with_reducible refine Kd.C_drewN ?_ _) | (with_reducible refine Kd.C_drew ?_))); (case side2 => exact HC223_0.out); rintro e w18 ⟨v226, rfl, ho0, hb⟩; refine ⟨_, rfl, ?_⟩; have n0_ := zm (Kd.R_elder' (by (with_reducible repeat (first | apply zo | apply zp | apply zq)); exact HO_6.out) (Kd.R_base ho0) hb); have n1_ := zm (Kd.R_lower (Kd.R_new' ho0 (Kd.R_lt (by (with_reducible repeat (first | apply zo | apply zp | apply zq)); exact HO_6.out))) (zE (by repeat (first | (with_reducible first | exact HB.out | apply ze | apply zd | apply zf) | exact HB.out)))); have n2_ := zm (zJ (by repeat (first | (with_reducible first | exact HB.out | apply ze | apply zd | apply zf) | exact HB.out)) hb); clear HO_6; clear HB; have HO_6 := n0_; have HO227 := n1_; have HB := n2_; clear n0_ n1_ n2_; (try clear hb); (try clear hb2); (try clear hk); (try clear hi); (try clear ho0)))
           go_ret2
           exact ⟨_, by first | rfl | (simp [errW_none, errW_some] <;> rfl) | (simp [*, errW_none, errW_some] <;> rfl), by first | exact Kd.R_nil _ _ _ _ _ | exact Kd.N_nil _ _ _ _ _ | exact Kd.V_nil _ _ _ _ _ | exact Kd.Q_nil _ _ _ _ _ | exact Kd.S_nil _ _ _ _ _, by repeat (first | (with_reducible first | exact HB.out | apply ze | apply zd | apply zf) | exact HB.out)⟩
         ·
          rw [if_neg c12] at H
          have c12b0 : (t225 == 0) = false := beq_eq_false_iff_ne.mpr c12
          have c12b1 : (t225 != 0) = true := bne_iff_ne.mpr c12
          simp only [Option.some.injEq, Prod.mk.injEq] at H
          obtain ⟨rfl, rfl⟩ := H
          have p223 : 0 ≤ (x24_2 : Int) := of_decide_eq_true (by first | (with_reducible assumption) | assumption)
          have q223 : x24_2 < (l0.length : Int) := of_decide_eq_true (by first | (with_reducible assumption) | assumption)
          obtain ⟨ad223, A223_0, c223_0, e223, hx223_0, hl223_0, hi223_0⟩ := at_L1 HR0.out x24_2 p223 q223
          cases e223
          replace hx223_0 := (HB.out.cell (zb w _ hx223_0)).trans hx223_0
          have HR223_0 := zm hi223_0
          have HC223_0 := zm hl223_0
          clear hi223_0 hl223_0
          replace p223 := eq_true p223
          replace q223 := eq_true q223
          go_wp2_with (first | ((with_reducible refine gate_callee (f := 36) rfl ?_); refine goesL_ (some 30) rfl rfl Tryd.func36 (by kernel_rfl) rfl #[.slice A223_0 (rd_L1 l0 x24_2).length c223_0] rfl (by (try simp only [List.map_toArray, List.map_cons, List.map_nil]); first | done | rfl | (simp only [List.length_drop, List.length_take]; rfl)) ?_; (with_reducible refine (wave_Inverse.calls k2 _ _ (rd_L1 l0 x24_2) t224 t225 _ ?side1 ?side2 A11.out).mono ?_); (case side1 => repeat (first | exact (Kd.C_below HR223_0.out HB.out) | (with_reducible refine Kd.C_alloc ?_ _) | (with_reducible refine Kd.C_drewN ?_ _) | (with_reducible refine Kd.C_drew ?_))); (case side2 => exact HC223_0.out); rintro e w19 ⟨v226, rfl, ho0, hb⟩; refine ⟨_, rfl, ?_⟩; have n0_ := zm (Kd.R_elder' (by (with_reducible repeat (first | apply zo | apply zp | apply zq)); exact HO_6.out) (Kd.R_base ho0) hb); have n1_ := zm (Kd.R_lower (Kd.R_new' ho0 (Kd.R_lt (by (with_reducible repeat (first | apply zo | apply zp | apply zq)); exact HO_6.out))) (zE (by repeat (first | (with_reducible first | exact HB.out | apply ze | apply zd | apply zf) | exact HB.out)))); have n2_ := zm (zJ (by repeat (first | (with_reducible first | exact HB.out | apply ze | apply zd | apply zf) | exact HB.out)) hb); clear HO_6; clear HB; have HO_6 := n0_; have HO227 := n1_; have HB := n2_; clear n0_ n1_ n2_; (try clear hb); (try clear hb2); (try clear hk); (try clear hi); (try clear ho0)))
          go_ret2
          exact ⟨_, by first | rfl | (simp [errW_none, errW_some] <;> rfl) | (simp [*, errW_none, errW_some] <;> rfl), by first | exact Kd.R_nil _ _ _ _ _ | exact Kd.N_nil _ _ _ _ _ | exact Kd.V_nil _ _ _ _ _ | exact Kd.Q_nil _ _ _ _ _ | exact Kd.S_nil _ _ _ _ _, by repeat (first | (with_reducible first | exact HB.out | apply ze | apply zd | apply zf) | exact HB.out)⟩
        ·
         rw [if_neg c10] at H
         exact absurd H (by simp)
       ·
        rw [if_neg c9] at H
        exact absurd H (by simp)
      ·
       rw [if_neg c8] at H
       have c8b0 : decide (x24_2 < (l0.length : Int)) = false := decide_eq_false c8
       clear c8
       have H' := zm H
       clear H
       obtain ⟨Ao20, co20, eo20⟩ := Kd.R_slice HO_6.out
       subst eo20
       go_wp2
       go_loopg [11] k2 (fun kq v11 w' => ∃ (x6_3 : List Int) (x11_3 : Int), v11 = .int .i64 x11_3 ∧ Aside0 (lap_Signal.l1 kq a1 x6_3 x11_3 = some (r1, r2)) ∧ Aside0 (kq ≤ k2) ∧ Aside0 (Kd.R (Kd.int .i64) 2 w' w.heap.size (fun _ => True) (.slice Ao20 x6_2.length co20) x6_3) ∧ Aside0 (Below w.heap.size w w'))
       case atStart => exact ⟨(x6_2), (wrap64 ((x6_2.length : Int) - a1)), (by first | rfl | (simp; done) | (simp [*]; done)), H', ⟨Nat.le_refl _⟩, ⟨by (with_reducible repeat (first | apply zo | apply zp | apply zq)); exact HO_6.out⟩, ⟨by repeat (first | (with_reducible first | exact HB.out | apply ze | apply zd | apply zf) | exact HB.out)⟩⟩
       case round =>
        clear H'
        try clear c1
        try clear c2
        try clear p2
        try clear q2
        try clear hx2
        try clear c3
        try clear c5
        try clear c6
        try clear c6b0
        try clear c6b1
        try clear p6
        try clear c7
        try clear c8
        try clear c8b0
        try clear c9
        try clear c9b0
        try clear c10
        try clear c10b0
        try clear c12
        try clear c12b0
        try clear c12b1
        try clear c13
        try clear c13b0
        try clear c13b1
        try clear c14
        try clear hx223_0
        try clear p2
        try clear p223
        try clear p6
        try clear q223
        obtain ⟨x6_3, x11_3, rfl, HA, HK3, HO_6, HB⟩ := hrel
        have hl6_3 := (Kd.R_reads' HO_6.out).1
        rw [hl6_3] at HO_6
        (try simp only [hl6_3])
        cases gk with
        | zero => exact absurd HA.out (by simp [lap_Signal.l1])
        | succ k3 =>
         have H := HA.out
         clear HA
         simp only [lap_Signal.l1] at H
         by_cases c21 : x11_3 > 0
         ·
          rw [if_pos c21] at H
          have c21b0 : decide (0 < x11_3) = true := decide_eq_true c21
          clear c21
          replace H := Option.bind_eq_some_iff.mp H
          obtain ⟨t231, A220, H⟩ := H
          replace H : (lap_Signal.l1 k3 a1 t231 (wrap64 (x11_3 - a1))) = some (r1, r2) := H
          have A22 := zm A220
          clear A220
          have H' := zm H
          clear H
          go_wp2_with (first | ((with_reducible refine gate_callee (f := 32) rfl ?_); refine goesL_ (some 56) rfl rfl Tryd.func32 (by kernel_rfl) rfl #[.slice Ao20 x6_3.length co20, .int .i64 x11_3] rfl (by (try simp only [List.map_toArray, List.map_cons, List.map_nil]); first | done | rfl | (simp only [List.length_drop, List.length_take]; rfl)) ?_; (with_reducible refine (lap_back.calls k3 (fun k_ => some k_ = (.slice Ao20 x6_3.length co20 : Value).ownBlock) (.slice Ao20 x6_3.length co20) x6_3 x11_3 t231 w _ ?side1 ?side2 ?sideg A22.out).mono ?_); (case sideg => exact HG.out); (case side1 => repeat (first | (with_reducible first | exact HB.out | apply ze | apply zd | apply zf) | exact HB.out)); (case side2 => exact Kd.R_tight rfl HO_6.out); rintro e w23 ⟨rfl, hy0, hb, hkp⟩; refine ⟨_, rfl, ?_⟩; have n0_ := zm (Kd.R_reok rfl hy0 (fun k_ e_ => HO_6.out.1 k_ e_)); have n1_ := zm (hb); clear HO_6; clear HB; have HO_6 := n0_; have HB := n1_; clear n0_ n1_; (try clear hb); (try clear hkp); (try clear hy0)))
          (try simp only [← hl6_3])
          go_roundg k3
          case measure => have := HJ2.out; have := HK2.out; have := HK3.out; omega
          case rel => exact ⟨(t231), (wrap64 (x11_3 - a1)), (by first | rfl | (simp; done) | (simp [*]; done)), H', ⟨by have := HJ2.out; have := HK2.out; have := HK3.out; omega⟩, ⟨by (try simp only [hl6_3]); (with_reducible repeat (first | apply zo | apply zp | apply zq)); exact HO_6.out⟩, ⟨by repeat (first | (with_reducible first | exact HB.out | apply ze | apply zd | apply zf) | exact HB.out)⟩⟩
         ·
          rw [if_neg c21] at H
          have c21b0 : decide (0 < x11_3) = false := decide_eq_false c21
          clear c21
          simp only [Option.some.injEq, Prod.mk.injEq] at H
          obtain ⟨rfl, rfl⟩ := H
          go_wp2
          go_ret2
          exact ⟨_, by first | rfl | (simp [errW_none, errW_some] <;> rfl) | (simp [*, errW_none, errW_some] <;> rfl), by (with_reducible repeat (first | apply zo | apply zp | apply zq)); exact HO_6.out, by repeat (first | (with_reducible first | exact HB.out | apply ze | apply zd | apply zf) | exact HB.out)⟩

end Go.Proofs.YtllchhcdpfiodaaDoor.Prt

namespace Go.Proofs.YtllchhcdpfiodaaDoor.Prt
open Go.RowKit Go.Proofs.YtllchhcdpfiodaaDoorW.PrintWords Go.Proofs.YtllchhcdpfiodaaDoorW.PrintLast Go.Proofs.YtllchhcdpfiodaaDoorW.PrintMore
attribute [local go_sem] max2_int min2_int max_two min_two max_three min_three max_four min_four   -- for this text's walks alone
set_option linter.unusedVariables false
set_option linter.unusedSimpArgs false

/-! ### lap_Turn: function 12 -/
def lap_Turn.f (k : Nat) (l0 : List Int) (a1 : Int) : Option (List Int × Int) := (lap_Right.f k l0).bind fun t116 => (if t116 = true then ((lap_border.f l0 a1).bind fun t117 => (if t117 = true then ((some (([] : List Int) : List Int)).bind fun y118 => (if y118.length + l0.length < 17592186044416 then ((lap_turn.f k (y118 ++ l0) a1).bind fun t124 => (some (t124, 0))) else (none))) else (some (([] : List Int), 1)))) else (some (([] : List Int), 1)))
theorem lap_Turn.mono : ∀ a0 a1 k, LeO (lap_Turn.f k a0 a1) (lap_Turn.f (k + 1) a0 a1) := by
 intro a0 a1 k
 unfold lap_Turn.f
 repeat' first
   | (with_reducible exact lap_Right.mono _ _)
   | (with_reducible exact lap_turn.mono _ _ _)
   | (with_reducible exact LeO.refl _)
   | (with_reducible exact LeO.none _)
   | (with_reducible refine LeO.ite ?_ ?_)
   | (with_reducible refine LeO.bind ?_ (fun _ => ?_))
   | exact lap_Right.mono _ _
   | exact lap_turn.mono _ _ _
   | exact LeO.none _
   | refine LeO.ite ?_ ?_
   | refine LeO.bind ?_ (fun _ => ?_)
set_option maxHeartbeats 8000000 in
set_option maxRecDepth 100000 in
theorem lap_Turn.calls (k : Nat) (A0 : Option Addr) (c0 : Nat) (l0 : List Int) (a1 : Int) (r1 : List Int) (r2 : Int) (w : World) (hr0 : Kd.C (Kd.int .i64) w A0 l0.length l0) (hc0 : l0.length ≤ c0) (hg : GW w) (h : lap_Turn.f k l0 a1 = some (r1, r2)) :
  Calls Tryd.prog 12 #[.slice A0 l0.length c0, .int .i64 a1] w fun e w' => ∃ v0_ : Value, e = .returned (.tuple #[v0_, .int .i64 r2]) ∧ Kd.R (Kd.int .i64) 2 w' w.heap.size (fun _ => True) v0_ r1 ∧ Below w.heap.size w w' := by
 have HG := zm hg
 clear hg
 have HR0 := zm hr0
 have HC0 := zm hc0
 clear hr0 hc0
 have HB := zm (Below.refl w.heap.size w)
 have H : ((lap_Right.f k l0).bind fun t116 => (if t116 = true then ((lap_border.f l0 a1).bind fun t117 => (if t117 = true then ((some (([] : List Int) : List Int)).bind fun y118 => (if y118.length + l0.length < 17592186044416 then ((lap_turn.f k (y118 ++ l0) a1).bind fun t124 => (some (t124, 0))) else (none))) else (some (([] : List Int), 1)))) else (some (([] : List Int), 1)))) = some (r1, r2) := h
 clear h
 replace H := Option.bind_eq_some_iff.mp H
 obtain ⟨t116, A30, H⟩ := H
 replace H : (if t116 = true then ((lap_border.f l0 a1).bind fun t117 => (if t117 = true then ((some (([] : List Int) : List Int)).bind fun y118 => (if y118.length + l0.length < 17592186044416 then ((lap_turn.f k (y118 ++ l0) a1).bind fun t124 => (some (t124, 0))) else (none))) else (some (([] : List Int), 1)))) else (some (([] : List Int), 1))) = some (r1, r2) := H
 have A3 := zm A30
 clear A30
 by_cases c4 : t116 = true
 ·
  subst c4
  have H1 : ((lap_border.f l0 a1).bind fun t117 => (if t117 = true then ((some (([] : List Int) : List Int)).bind fun y118 => (if y118.length + l0.length < 17592186044416 then ((lap_turn.f k (y118 ++ l0) a1).bind fun t124 => (some (t124, 0))) else (none))) else (some (([] : List Int), 1)))) = some (r1, r2) := by rw [if_pos rfl] at H; exact H
  clear H
  have H := H1
  clear H1
  replace H := Option.bind_eq_some_iff.mp H
  obtain ⟨t117, A50, H⟩ := H
  replace H : (if t117 = true then ((some (([] : List Int) : List Int)).bind fun y118 => (if y118.length + l0.length < 17592186044416 then ((lap_turn.f k (y118 ++ l0) a1).bind fun t124 => (some (t124, 0))) else (none))) else (some (([] : List Int), 1))) = some (r1, r2) := H
  have A5 := zm A50
  clear A50
  by_cases c6 : t117 = true
  ·
   subst c6
   have H1 : ((some (([] : List Int) : List Int)).bind fun y118 => (if y118.length + l0.length < 17592186044416 then ((lap_turn.f k (y118 ++ l0) a1).bind fun t124 => (some (t124, 0))) else (none))) = some (r1, r2) := by rw [if_pos rfl] at H; exact H
   clear H
   have H := H1
   clear H1
   obtain ⟨y118, hy118⟩ : ∃ y_ : List Int, y_ = (([] : List Int)) := ⟨_, rfl⟩
   replace H : (if y118.length + l0.length < 17592186044416 then ((lap_turn.f k (y118 ++ l0) a1).bind fun t124 => (some (t124, 0))) else (none)) = some (r1, r2) := by first | (rw [hy118]; with_reducible exact H) | (have H2_ := (Option.bind_some _ _).symm.trans H; rw [hy118]; with_reducible exact H2_) | (have H2_ := (Option.bind_some _ _).symm.trans H; with_reducible exact H2_) | with_reducible exact H | (rw [hy118]; exact H) | exact H
   have Ny118 := zm hy118
   clear hy118
   by_cases c7 : y118.length + l0.length < 17592186044416
   ·
    rw [if_pos c7] at H
    have LMc7 := zm c7
    clear c7
    obtain ⟨y121, hy121⟩ : ∃ y_ : List Int, y_ = (y118 ++ l0) := ⟨_, rfl⟩
    replace H : ((lap_turn.f k y121 a1).bind fun t124 => (some (t124, 0))) = some (r1, r2) := by first | (rw [hy121]; with_reducible exact H) | (have H2_ := (Option.bind_some _ _).symm.trans H; rw [hy121]; with_reducible exact H2_) | (have H2_ := (Option.bind_some _ _).symm.trans H; with_reducible exact H2_) | with_reducible exact H | (rw [hy121]; exact H) | exact H
    have Ny121 := zm hy121
    clear hy121
    replace H := Option.bind_eq_some_iff.mp H
    obtain ⟨t124, A80, H⟩ := H
    replace H : (some (t124, 0)) = some (r1, r2) := H
    have A8 := zm A80
    clear A80
    simp only [Option.some.injEq, Prod.mk.injEq] at H
    obtain ⟨rfl, rfl⟩ := H
    go_enter Tryd.func12, Tryd.ntmps12
    go_wp2_with (first | ((with_reducible refine gate_callee (f := 14) rfl ?_); refine goesL_ (some 8) rfl rfl Tryd.func14 (by kernel_rfl) rfl #[.slice A0 l0.length c0] rfl (by (try simp only [List.map_toArray, List.map_cons, List.map_nil]); first | done | rfl | (simp only [List.length_drop, List.length_take]; rfl)) ?_; (with_reducible refine (lap_Right.calls k _ _ l0 true _ ?side1 ?side2 A3.out).mono ?_); (case side1 => repeat (first | exact HR0.out | (with_reducible refine Kd.C_alloc ?_ _) | (with_reducible refine Kd.C_drewN ?_ _) | (with_reducible refine Kd.C_drew ?_))); (case side2 => exact HC0.out); rintro e w' ⟨rfl, ⟨nd, rfl⟩⟩; refine ⟨_, rfl, ?_⟩) | (go_at_call 28; (with_reducible refine (lap_border.calls _ _ l0 a1 true _ ?side1 ?side2 A5.out).mono ?_); (case side1 => repeat (first | exact HR0.out | (with_reducible refine Kd.C_alloc ?_ _) | (with_reducible refine Kd.C_drewN ?_ _) | (with_reducible refine Kd.C_drew ?_))); (case side2 => exact HC0.out); rintro e w' ⟨rfl, ⟨nd, rfl⟩⟩) | ((with_reducible refine gate_dst (N := 16) rfl ?_); refine Kd.R_lit (Kd.int .i64) _ 2 ?hg (N := 16) ?hd (xs := ([] : List Int)) (inner := []) (ok := fun _ => True) (okp := fun _ => True) ?hr ?hp (fun _ hk => hk) trivial (Below.refl _ _) (Nat.le_refl _) (by simp) ?_; (case hd => rfl); (case hg => rfl); (case hr => first | (go_simp; done) | (go_simp; rfl)); (case hp => exact (Reps.none _ _)); intro v119 w9 ho10 hb hg_ hnew_; clear hg_ hnew_; (first | rw [← Ny118.out] at ho10 | (simp only [Int.reduceToNat] at ho10; rw [← Ny118.out] at ho10)); have n0_ := zm (Kd.R_lower ho10 (zE (by repeat (first | (with_reducible first | exact HB.out | apply ze | apply zd | apply zf) | exact HB.out)))); have n1_ := zm (zJ (by repeat (first | (with_reducible first | exact HB.out | apply ze | apply zd | apply zf) | exact HB.out)) hb); clear HB; have HO120 := n0_; have HB := n1_; clear n0_ n1_; clear hb ho10) | ((with_reducible refine gate_builtin (b := .append) (xs := #[.tmp 16, .tmp 17]) rfl ?_); at_builtin; refine Kd.R_append_rows (Kd.int .i64) (w0 := w) w.heap.size rfl (.tmp 16) (.tmp 17) 22 2 (.int .i64 0) 8 rfl Tryd.underlying22 info2 rfl (by decide) (by omega) v119 y118 l0 _ _ _ (fun _ => True) (fun _ => False) rfl rfl ?aO ?aR (fun _ _ h => h) (fun _ h => h.elim) ?aF ?aB ?aS ?aL ?_; (case aR => repeat (first | exact (Kd.C_below HR0.out HB.out) | (with_reducible refine Kd.C_alloc ?_ _) | (with_reducible refine Kd.C_drewN ?_ _) | (with_reducible refine Kd.C_drew ?_))); (case aB => exact (by repeat (first | (with_reducible first | exact HB.out | apply ze | apply zd | apply zf) | exact HB.out))); (case aF => exact (fun _ _ => trivial)); (case aO => exact (by (with_reducible repeat (first | apply zo | apply zp | apply zq)); exact HO120.out)); (case aS => exact (zE (by repeat (first | (with_reducible first | exact HB.out | apply ze | apply zd | apply zf) | exact HB.out)))); (case aL => have := LMc7.out; omega); intro v122 w11 ho hb hg hat; rw [← Ny121.out] at ho; have n0_ := zm (hb); have n1_ := zm (ho); clear HB; clear HO120; have HB := n0_; have HO123 := n1_; clear n0_ n1_; clear ho hb hg hat; obtain ⟨Ao12, co12, eo12⟩ := Kd.R_slice HO123.out; subst eo12) | ((with_reducible refine gate_callee (f := 29) rfl ?_); refine goesL_ (some 21) rfl rfl Tryd.func29 (by kernel_rfl) rfl #[.slice Ao12 y121.length co12, .int .i64 a1] rfl (by (try simp only [List.map_toArray, List.map_cons, List.map_nil]); first | done | rfl | (simp only [List.length_drop, List.length_take]; rfl)) ?_; (with_reducible refine (lap_turn.calls k (fun k_ => some k_ = (.slice Ao12 y121.length co12 : Value).ownBlock) (.slice Ao12 y121.length co12) y121 a1 t124 w _ ?side1 ?side2 ?sideg A8.out).mono ?_); (case sideg => exact HG.out); (case side1 => repeat (first | (with_reducible first | exact HB.out | apply ze | apply zd | apply zf) | exact HB.out)); (case side2 => exact Kd.R_tight rfl HO123.out); rintro e w13 ⟨rfl, hy0, hb, hkp⟩; refine ⟨_, rfl, ?_⟩; have n0_ := zm (Kd.R_reok rfl hy0 (fun k_ e_ => HO123.out.1 k_ e_)); have n1_ := zm (hb); clear HO123; clear HB; have HO123 := n0_; have HB := n1_; clear n0_ n1_; (try clear hb); (try clear hkp); (try clear hy0)))
    go_ret2
    exact ⟨_, by first | rfl | (simp [errW_none, errW_some] <;> rfl) | (simp [*, errW_none, errW_some] <;> rfl), by (with_reducible repeat (first | apply zo | apply zp | apply zq)); exact HO123.out, by repeat (first | (with_reducible first | exact HB.out | apply ze | apply zd | apply zf) | exact HB.out)⟩
   ·
    rw [if_neg c7] at H
    exact absurd H (by simp)
  ·
   replace c6 := Bool.eq_false_iff.mpr c6
   subst c6
   have H1 : (some (([] : List Int), 1)) = some (r1, r2) := by rw [if_neg (show ¬ (false = true) by decide)] at H; exact H
   clear H
   have H := H1
   clear H1
   simp only [Option.some.injEq, Prod.mk.injEq] at H
   obtain ⟨rfl, rfl⟩ := H
   go_enter Tryd.func12, Tryd.ntmps12
   go_wp2_with (first | ((with_reducible refine gate_callee (f := 14) rfl ?_); refine goesL_ (some 8) rfl rfl Tryd.func14 (by kernel_rfl) rfl #[.slice A0 l0.length c0] rfl (by (try simp only [List.map_toArray, List.map_cons, List.map_nil]); first | done | rfl | (simp only [List.length_drop, List.length_take]; rfl)) ?_; (with_reducible refine (lap_Right.calls k _ _ l0 true _ ?side1 ?side2 A3.out).mono ?_); (case side1 => repeat (first | exact HR0.out | (with_reducible refine Kd.C_alloc ?_ _) | (with_reducible refine Kd.C_drewN ?_ _) | (with_reducible refine Kd.C_drew ?_))); (case side2 => exact HC0.out); rintro e w' ⟨rfl, ⟨nd, rfl⟩⟩; refine ⟨_, rfl, ?_⟩) | (go_at_call 28; (with_reducible refine (lap_border.calls _ _ l0 a1 false _ ?side1 ?side2 A5.out).mono ?_); (case side1 => repeat (first | exact HR0.out | (with_reducible refine Kd.C_alloc ?_ _) | (with_reducible refine Kd.C_drewN ?_ _) | (with_reducible refine Kd.C_drew ?_))); (case side2 => exact HC0.out); rintro e w' ⟨rfl, ⟨nd, rfl⟩⟩))
   go_ret2
   exact ⟨_, by first | rfl | (simp [errW_none, errW_some] <;> rfl) | (simp [*, errW_none, errW_some] <;> rfl), by first | exact Kd.R_nil _ _ _ _ _ | exact Kd.N_nil _ _ _ _ _ | exact Kd.V_nil _ _ _ _ _ | exact Kd.Q_nil _ _ _ _ _ | exact Kd.S_nil _ _ _ _ _, by repeat (first | (with_reducible first | exact HB.out | apply ze | apply zd | apply zf) | exact HB.out)⟩
 ·
  replace c4 := Bool.eq_false_iff.mpr c4
  subst c4
  have H1 : (some (([] : List Int), 1)) = some (r1, r2) := by rw [if_neg (show ¬ (false = true) by decide)] at H; exact H
  clear H
  have H := H1
  clear H1
  simp only [Option.some.injEq, Prod.mk.injEq] at H
  obtain ⟨rfl, rfl⟩ := H
  go_enter Tryd.func12, Tryd.ntmps12
  go_wp2_with (first | ((with_reducible refine gate_callee (f := 14) rfl ?_); refine goesL_ (some 8) rfl rfl Tryd.func14 (by kernel_rfl) rfl #[.slice A0 l0.length c0] rfl (by (try simp only [List.map_toArray, List.map_cons, List.map_nil]); first | done | rfl | (simp only [List.length_drop, List.length_take]; rfl)) ?_; (with_reducible refine (lap_Right.calls k _ _ l0 false _ ?side1 ?side2 A3.out).mono ?_); (case side1 => repeat (first | exact HR0.out | (with_reducible refine Kd.C_alloc ?_ _) | (with_reducible refine Kd.C_drewN ?_ _) | (with_reducible refine Kd.C_drew ?_))); (case side2 => exact HC0.out); rintro e w' ⟨rfl, ⟨nd, rfl⟩⟩; refine ⟨_, rfl, ?_⟩))
  go_ret2
  exact ⟨_, by first | rfl | (simp [errW_none, errW_some] <;> rfl) | (simp [*, errW_none, errW_some] <;> rfl), by first | exact Kd.R_nil _ _ _ _ _ | exact Kd.N_nil _ _ _ _ _ | exact Kd.V_nil _ _ _ _ _ | exact Kd.Q_nil _ _ _ _ _ | exact Kd.S_nil _ _ _ _ _, by repeat (first | (with_reducible first | exact HB.out | apply ze | apply zd | apply zf) | exact HB.out)⟩

end Go.Proofs.YtllchhcdpfiodaaDoor.Prt

namespace Go.Proofs.YtllchhcdpfiodaaDoor.Prt
open Go.RowKit Go.Proofs.YtllchhcdpfiodaaDoorW.PrintWords Go.Proofs.YtllchhcdpfiodaaDoorW.PrintLast Go.Proofs.YtllchhcdpfiodaaDoorW.PrintMore
attribute [local go_sem] max2_int min2_int max_two min_two max_three min_three max_four min_four   -- for this text's walks alone
set_option linter.unusedVariables false
set_option linter.unusedSimpArgs false

/-! ### psalteryref07_Same: function 16 -/
def psalteryref07_Same.l0 : Nat → List Int → List Int → Int → Option (Bool)
 | 0, _, _, _ => none
 | k + 1, x0, x1, x5 => if x5 < (x0.length : Int) then (if 0 ≤ x5 then (if x5 < (x1.length : Int) then (if (rd x0 x5) = (rd x1 x5) then (psalteryref07_Same.l0 k x0 x1 (wrap64 (x5 + 1))) else (some false)) else (none)) else (none)) else (some true)
def psalteryref07_Same.f (k : Nat) (l0 : List Int) (l1 : List Int) : Option (Bool) := if (l0.length : Int) = (l1.length : Int) then (psalteryref07_Same.l0 k l0 l1 0) else (some false)
theorem psalteryref07_Same.mono_l : ∀ k, (∀ y0 y1 y2, LeO (psalteryref07_Same.l0 k y0 y1 y2) (psalteryref07_Same.l0 (k + 1) y0 y1 y2))
 | 0 => fun _ _ _ r h => by simp [psalteryref07_Same.l0] at h
 | k + 1 => by
  have ih0 := psalteryref07_Same.mono_l k
  ·
   intro y0 y1 y2
   unfold psalteryref07_Same.l0
   repeat' first
   | (with_reducible exact ih0 _ _ _)
   | (with_reducible exact LeO.refl _)
   | (with_reducible exact LeO.none _)
   | (with_reducible refine LeO.ite ?_ ?_)
   | (with_reducible refine LeO.bind ?_ (fun _ => ?_))
   | exact ih0 _ _ _
   | exact LeO.none _
   | refine LeO.ite ?_ ?_
   | refine LeO.bind ?_ (fun _ => ?_)
theorem psalteryref07_Same.mono : ∀ a0 a1 k, LeO (psalteryref07_Same.f k a0 a1) (psalteryref07_Same.f (k + 1) a0 a1) := by
 intro a0 a1 k
 have ih0 := psalteryref07_Same.mono_l k
 unfold psalteryref07_Same.f
 repeat' first
   | (with_reducible exact ih0 _ _ _)
   | (with_reducible exact LeO.refl _)
   | (with_reducible exact LeO.none _)
   | (with_reducible refine LeO.ite ?_ ?_)
   | (with_reducible refine LeO.bind ?_ (fun _ => ?_))
   | exact ih0 _ _ _
   | exact LeO.none _
   | refine LeO.ite ?_ ?_
   | refine LeO.bind ?_ (fun _ => ?_)
set_option maxHeartbeats 8000000 in
set_option maxRecDepth 100000 in
theorem psalteryref07_Same.calls (k : Nat) (A0 : Option Addr) (c0 : Nat) (l0 : List Int) (A1 : Option Addr) (c1 : Nat) (l1 : List Int) (r : Bool) (w : World) (hr0 : Kd.C (Kd.int .i64) w A0 l0.length l0) (hc0 : l0.length ≤ c0) (hr1 : Kd.C (Kd.int .i64) w A1 l1.length l1) (hc1 : l1.length ≤ c1) (h : psalteryref07_Same.f k l0 l1 = some r) :
  Calls Tryd.prog 16 #[.slice A0 l0.length c0, .slice A1 l1.length c1] w fun e w' => e = .returned (.bool r) ∧ Drawn0 w w' := by
 have HR0 := zm hr0
 have HC0 := zm hc0
 clear hr0 hc0
 have HR1 := zm hr1
 have HC1 := zm hc1
 clear hr1 hc1
 have H : (if (l0.length : Int) = (l1.length : Int) then (psalteryref07_Same.l0 k l0 l1 0) else (some false)) = some r := h
 clear h
 by_cases c3 : (l0.length : Int) = (l1.length : Int)
 ·
  rw [if_pos c3] at H
  have c3b0 : ((l0.length : Int) == (l1.length : Int)) = true := beq_iff_eq.mpr c3
  have c3b1 : ((l0.length : Int) != (l1.length : Int)) = false := bne_eq_false_iff_eq.mpr c3
  have c3b2 : (l0.length == l1.length) = true := by first | simpa using c3 | (simp at c3 ⊢; omega)
  clear c3
  have H' := zm H
  clear H
  go_enter Tryd.func16, Tryd.ntmps16
  go_wp2
  repeat (go_quiet (fail); try go_wp2)
  go_loopg [5] k (fun kq v5 w' => ∃ (x5_1 : Int), v5 = .int .i64 x5_1 ∧ Aside0 (psalteryref07_Same.l0 kq l0 l1 x5_1 = some r) ∧ Aside0 (kq ≤ k) ∧ Drawn0 w w')
  case atStart => exact ⟨(0), (by first | rfl | (simp; done) | (simp [*]; done)), H', ⟨Nat.le_refl _⟩, by repeat (first | exact Drawn0.refl _ | apply Drawn0.step)⟩
  case round =>
   clear H'
   try clear c1
   try clear p2
   try clear c3
   try clear c3b0
   try clear c3b1
   try clear c3b2
   obtain ⟨x5_1, rfl, HA, HK1, ⟨m1, rfl⟩⟩ := hrel
   cases gk with
   | zero => exact absurd HA.out (by simp [psalteryref07_Same.l0])
   | succ k1 =>
    have H := HA.out
    clear HA
    simp only [psalteryref07_Same.l0] at H
    by_cases c4 : x5_1 < (l0.length : Int)
    ·
     rw [if_pos c4] at H
     have c4b0 : decide (x5_1 < (l0.length : Int)) = true := decide_eq_true c4
     clear c4
     by_cases c5 : 0 ≤ x5_1
     ·
      rw [if_pos c5] at H
      have c5b0 : decide (0 ≤ x5_1) = true := decide_eq_true c5
      clear c5
      by_cases c6 : x5_1 < (l1.length : Int)
      ·
       rw [if_pos c6] at H
       have c6b0 : decide (x5_1 < (l1.length : Int)) = true := decide_eq_true c6
       clear c6
       by_cases c7 : (rd l0 x5_1) = (rd l1 x5_1)
       ·
        rw [if_pos c7] at H
        have c7b0 : ((rd l0 x5_1) == (rd l1 x5_1)) = true := beq_iff_eq.mpr c7
        have c7b1 : ((rd l0 x5_1) != (rd l1 x5_1)) = false := bne_eq_false_iff_eq.mpr c7
        clear c7
        have H' := zm H
        clear H
        have p125 : 0 ≤ (x5_1 : Int) := of_decide_eq_true (by first | (with_reducible assumption) | assumption)
        have q125 : x5_1 < (l0.length : Int) := of_decide_eq_true (by first | (with_reducible assumption) | assumption)
        obtain ⟨ad125, e125, hx125_0⟩ := Kd.at_int HR0.out x5_1 p125 q125
        cases e125
        replace p125 := eq_true p125
        replace q125 := eq_true q125
        have p126 : 0 ≤ (x5_1 : Int) := of_decide_eq_true (by first | (with_reducible assumption) | assumption)
        have q126 : x5_1 < (l1.length : Int) := of_decide_eq_true (by first | (with_reducible assumption) | assumption)
        obtain ⟨ad126, e126, hx126_0⟩ := Kd.at_int HR1.out x5_1 p126 q126
        cases e126
        replace p126 := eq_true p126
        replace q126 := eq_true q126
        go_wp2
        repeat (go_quiet (fail); try go_wp2)
        go_roundg k1
        case measure => have := HK1.out; omega
        case rel => exact ⟨(wrap64 (x5_1 + 1)), (by first | rfl | (simp; done) | (simp [*]; done)), H', ⟨by have := HK1.out; omega⟩, by repeat (first | exact Drawn0.refl _ | apply Drawn0.step)⟩
       ·
        rw [if_neg c7] at H
        have c7b0 : ((rd l0 x5_1) == (rd l1 x5_1)) = false := beq_eq_false_iff_ne.mpr c7
        have c7b1 : ((rd l0 x5_1) != (rd l1 x5_1)) = true := bne_iff_ne.mpr c7
        obtain rfl := Option.some.inj H
        have p125 : 0 ≤ (x5_1 : Int) := of_decide_eq_true (by first | (with_reducible assumption) | assumption)
        have q125 : x5_1 < (l0.length : Int) := of_decide_eq_true (by first | (with_reducible assumption) | assumption)
        obtain ⟨ad125, e125, hx125_0⟩ := Kd.at_int HR0.out x5_1 p125 q125
        cases e125
        replace p125 := eq_true p125
        replace q125 := eq_true q125
        have p126 : 0 ≤ (x5_1 : Int) := of_decide_eq_true (by first | (with_reducible assumption) | assumption)
        have q126 : x5_1 < (l1.length : Int) := of_decide_eq_true (by first | (with_reducible assumption) | assumption)
        obtain ⟨ad126, e126, hx126_0⟩ := Kd.at_int HR1.out x5_1 p126 q126
        cases e126
        replace p126 := eq_true p126
        replace q126 := eq_true q126
        go_wp2
        repeat (go_quiet (fail); try go_wp2)
        go_ret
        exact ⟨by first | rfl | (simp; done) | (simp [*]; done), by repeat (first | exact Drawn0.refl _ | apply Drawn0.step)⟩
      ·
       rw [if_neg c6] at H
       exact absurd H (by simp)
     ·
      rw [if_neg c5] at H
      exact absurd H (by simp)
    ·
     rw [if_neg c4] at H
     have c4b0 : decide (x5_1 < (l0.length : Int)) = false := decide_eq_false c4
     clear c4
     obtain rfl := Option.some.inj H
     go_wp2
     repeat (go_quiet (fail); try go_wp2)
     go_ret
     exact ⟨by first | rfl | (simp; done) | (simp [*]; done), by repeat (first | exact Drawn0.refl _ | apply Drawn0.step)⟩
 ·
  rw [if_neg c3] at H
  have c3b0 : ((l0.length : Int) == (l1.length : Int)) = false := beq_eq_false_iff_ne.mpr c3
  have c3b1 : ((l0.length : Int) != (l1.length : Int)) = true := bne_iff_ne.mpr c3
  have c3b2 : (l0.length == l1.length) = false := by first | simpa using c3 | (simp at c3 ⊢; omega)
  obtain rfl := Option.some.inj H
  go_enter Tryd.func16, Tryd.ntmps16
  go_wp2
  repeat (go_quiet (fail); try go_wp2)
  go_ret
  exact ⟨by first | rfl | (simp; done) | (simp [*]; done), by repeat (first | exact Drawn0.refl _ | apply Drawn0.step)⟩

end Go.Proofs.YtllchhcdpfiodaaDoor.Prt

namespace Go.Proofs.YtllchhcdpfiodaaDoor.Prt
open Go.RowKit Go.Proofs.YtllchhcdpfiodaaDoorW.PrintWords Go.Proofs.YtllchhcdpfiodaaDoorW.PrintLast Go.Proofs.YtllchhcdpfiodaaDoorW.PrintMore
attribute [local go_sem] max2_int min2_int max_two min_two max_three min_three max_four min_four   -- for this text's walks alone
set_option linter.unusedVariables false
set_option linter.unusedSimpArgs false

/-! ### psalterylaw09_knows: function 11 -/
def psalterylaw09_knows.f (k : Nat)  : Option (Bool) := (some (([0, 0, 0, 16, 16, 0, 0, 0] : List Int) : List Int)).bind fun y232 => ((lap_Turn.f k y232 4).bind fun bt235 => ((lap_Back.f k bt235.1 4).bind fun bt239 => ((lap_Frames.f k y232 8).bind fun bt243 => ((lap_Signal.f k bt243.1 8).bind fun bt247 => ((psalteryref07_Same.f k bt235.1 (([0, 0, 0, 19, 9, 0, 0, 0] : List Int))).bind fun t254 => (if t254 = true then (if bt235.2 = 0 then ((psalteryref07_Same.f k bt239.1 y232).bind fun t255 => (if t255 = true then (if bt239.2 = 0 then (if (bt243.1.length : Int) = 1 then (if bt243.2 = 0 then ((psalteryref07_Same.f k bt247.1 y232).bind fun t256 => (if t256 = true then (if bt247.2 = 0 then ((lap_Right.f k y232).bind fun t257 => (some t257)) else (none)) else (none))) else (none)) else (none)) else (none)) else (none))) else (none)) else (none)))))))
theorem psalterylaw09_knows.mono : ∀ k, LeO (psalterylaw09_knows.f k ) (psalterylaw09_knows.f (k + 1) ) := by
 intro  k
 unfold psalterylaw09_knows.f
 repeat' first
   | (with_reducible exact lap_Back.mono _ _ _)
   | (with_reducible exact lap_Frames.mono _ _ _)
   | (with_reducible exact lap_Right.mono _ _)
   | (with_reducible exact lap_Signal.mono _ _ _)
   | (with_reducible exact lap_Turn.mono _ _ _)
   | (with_reducible exact psalteryref07_Same.mono _ _ _)
   | (with_reducible exact LeO.refl _)
   | (with_reducible exact LeO.none _)
   | (with_reducible refine LeO.ite ?_ ?_)
   | (with_reducible refine LeO.bind ?_ (fun _ => ?_))
   | exact lap_Back.mono _ _ _
   | exact lap_Frames.mono _ _ _
   | exact lap_Right.mono _ _
   | exact lap_Signal.mono _ _ _
   | exact lap_Turn.mono _ _ _
   | exact psalteryref07_Same.mono _ _ _
   | exact LeO.none _
   | refine LeO.ite ?_ ?_
   | refine LeO.bind ?_ (fun _ => ?_)
set_option maxHeartbeats 8000000 in
set_option maxRecDepth 100000 in
theorem psalterylaw09_knows.calls (k : Nat)  (r : Bool) (w : World) (hg : GW w) (h : psalterylaw09_knows.f k  = some r) :
  Calls Tryd.prog 11 #[] w fun e w' => e = .returned (.bool r) ∧ Below w.heap.size w w' := by
 have HG := zm hg
 clear hg
 have HB := zm (Below.refl w.heap.size w)
 have H : ((some (([0, 0, 0, 16, 16, 0, 0, 0] : List Int) : List Int)).bind fun y232 => ((lap_Turn.f k y232 4).bind fun bt235 => ((lap_Back.f k bt235.1 4).bind fun bt239 => ((lap_Frames.f k y232 8).bind fun bt243 => ((lap_Signal.f k bt243.1 8).bind fun bt247 => ((psalteryref07_Same.f k bt235.1 (([0, 0, 0, 19, 9, 0, 0, 0] : List Int))).bind fun t254 => (if t254 = true then (if bt235.2 = 0 then ((psalteryref07_Same.f k bt239.1 y232).bind fun t255 => (if t255 = true then (if bt239.2 = 0 then (if (bt243.1.length : Int) = 1 then (if bt243.2 = 0 then ((psalteryref07_Same.f k bt247.1 y232).bind fun t256 => (if t256 = true then (if bt247.2 = 0 then ((lap_Right.f k y232).bind fun t257 => (some t257)) else (none)) else (none))) else (none)) else (none)) else (none)) else (none))) else (none)) else (none)))))))) = some r := h
 clear h
 obtain ⟨y232, hy232⟩ : ∃ y_ : List Int, y_ = (([0, 0, 0, 16, 16, 0, 0, 0] : List Int)) := ⟨_, rfl⟩
 replace H : ((lap_Turn.f k y232 4).bind fun bt235 => ((lap_Back.f k bt235.1 4).bind fun bt239 => ((lap_Frames.f k y232 8).bind fun bt243 => ((lap_Signal.f k bt243.1 8).bind fun bt247 => ((psalteryref07_Same.f k bt235.1 (([0, 0, 0, 19, 9, 0, 0, 0] : List Int))).bind fun t254 => (if t254 = true then (if bt235.2 = 0 then ((psalteryref07_Same.f k bt239.1 y232).bind fun t255 => (if t255 = true then (if bt239.2 = 0 then (if (bt243.1.length : Int) = 1 then (if bt243.2 = 0 then ((psalteryref07_Same.f k bt247.1 y232).bind fun t256 => (if t256 = true then (if bt247.2 = 0 then ((lap_Right.f k y232).bind fun t257 => (some t257)) else (none)) else (none))) else (none)) else (none)) else (none)) else (none))) else (none)) else (none))))))) = some r := by first | (rw [hy232]; with_reducible exact H) | (have H2_ := (Option.bind_some _ _).symm.trans H; rw [hy232]; with_reducible exact H2_) | (have H2_ := (Option.bind_some _ _).symm.trans H; with_reducible exact H2_) | with_reducible exact H | (rw [hy232]; exact H) | exact H
 have Ny232 := zm hy232
 clear hy232
 replace H := Option.bind_eq_some_iff.mp H
 obtain ⟨⟨t235, t236⟩, A10, H⟩ := H
 replace H : ((lap_Back.f k t235 4).bind fun bt239 => ((lap_Frames.f k y232 8).bind fun bt243 => ((lap_Signal.f k bt243.1 8).bind fun bt247 => ((psalteryref07_Same.f k t235 (([0, 0, 0, 19, 9, 0, 0, 0] : List Int))).bind fun t254 => (if t254 = true then (if t236 = 0 then ((psalteryref07_Same.f k bt239.1 y232).bind fun t255 => (if t255 = true then (if bt239.2 = 0 then (if (bt243.1.length : Int) = 1 then (if bt243.2 = 0 then ((psalteryref07_Same.f k bt247.1 y232).bind fun t256 => (if t256 = true then (if bt247.2 = 0 then ((lap_Right.f k y232).bind fun t257 => (some t257)) else (none)) else (none))) else (none)) else (none)) else (none)) else (none))) else (none)) else (none)))))) = some r := H
 have A1 := zm A10
 clear A10
 replace H := Option.bind_eq_some_iff.mp H
 obtain ⟨⟨t239, t240⟩, A20, H⟩ := H
 replace H : ((lap_Frames.f k y232 8).bind fun bt243 => ((lap_Signal.f k bt243.1 8).bind fun bt247 => ((psalteryref07_Same.f k t235 (([0, 0, 0, 19, 9, 0, 0, 0] : List Int))).bind fun t254 => (if t254 = true then (if t236 = 0 then ((psalteryref07_Same.f k t239 y232).bind fun t255 => (if t255 = true then (if t240 = 0 then (if (bt243.1.length : Int) = 1 then (if bt243.2 = 0 then ((psalteryref07_Same.f k bt247.1 y232).bind fun t256 => (if t256 = true then (if bt247.2 = 0 then ((lap_Right.f k y232).bind fun t257 => (some t257)) else (none)) else (none))) else (none)) else (none)) else (none)) else (none))) else (none)) else (none))))) = some r := H
 have A2 := zm A20
 clear A20
 replace H := Option.bind_eq_some_iff.mp H
 obtain ⟨⟨t243, t244⟩, A30, H⟩ := H
 replace H : ((lap_Signal.f k t243 8).bind fun bt247 => ((psalteryref07_Same.f k t235 (([0, 0, 0, 19, 9, 0, 0, 0] : List Int))).bind fun t254 => (if t254 = true then (if t236 = 0 then ((psalteryref07_Same.f k t239 y232).bind fun t255 => (if t255 = true then (if t240 = 0 then (if (t243.length : Int) = 1 then (if t244 = 0 then ((psalteryref07_Same.f k bt247.1 y232).bind fun t256 => (if t256 = true then (if bt247.2 = 0 then ((lap_Right.f k y232).bind fun t257 => (some t257)) else (none)) else (none))) else (none)) else (none)) else (none)) else (none))) else (none)) else (none)))) = some r := H
 have A3 := zm A30
 clear A30
 replace H := Option.bind_eq_some_iff.mp H
 obtain ⟨⟨t247, t248⟩, A40, H⟩ := H
 replace H : ((psalteryref07_Same.f k t235 (([0, 0, 0, 19, 9, 0, 0, 0] : List Int))).bind fun t254 => (if t254 = true then (if t236 = 0 then ((psalteryref07_Same.f k t239 y232).bind fun t255 => (if t255 = true then (if t240 = 0 then (if (t243.length : Int) = 1 then (if t244 = 0 then ((psalteryref07_Same.f k t247 y232).bind fun t256 => (if t256 = true then (if t248 = 0 then ((lap_Right.f k y232).bind fun t257 => (some t257)) else (none)) else (none))) else (none)) else (none)) else (none)) else (none))) else (none)) else (none))) = some r := H
 have A4 := zm A40
 clear A40
 obtain ⟨y251, hy251⟩ : ∃ y_ : List Int, y_ = (([0, 0, 0, 19, 9, 0, 0, 0] : List Int)) := ⟨_, rfl⟩
 replace H : ((psalteryref07_Same.f k t235 y251).bind fun t254 => (if t254 = true then (if t236 = 0 then ((psalteryref07_Same.f k t239 y232).bind fun t255 => (if t255 = true then (if t240 = 0 then (if (t243.length : Int) = 1 then (if t244 = 0 then ((psalteryref07_Same.f k t247 y232).bind fun t256 => (if t256 = true then (if t248 = 0 then ((lap_Right.f k y232).bind fun t257 => (some t257)) else (none)) else (none))) else (none)) else (none)) else (none)) else (none))) else (none)) else (none))) = some r := by first | (rw [hy251]; with_reducible exact H) | (have H2_ := (Option.bind_some _ _).symm.trans H; rw [hy251]; with_reducible exact H2_) | (have H2_ := (Option.bind_some _ _).symm.trans H; with_reducible exact H2_) | with_reducible exact H | (rw [hy251]; exact H) | exact H
 have Ny251 := zm hy251
 clear hy251
 replace H := Option.bind_eq_some_iff.mp H
 obtain ⟨t254, A50, H⟩ := H
 replace H : (if t254 = true then (if t236 = 0 then ((psalteryref07_Same.f k t239 y232).bind fun t255 => (if t255 = true then (if t240 = 0 then (if (t243.length : Int) = 1 then (if t244 = 0 then ((psalteryref07_Same.f k t247 y232).bind fun t256 => (if t256 = true then (if t248 = 0 then ((lap_Right.f k y232).bind fun t257 => (some t257)) else (none)) else (none))) else (none)) else (none)) else (none)) else (none))) else (none)) else (none)) = some r := H
 have A5 := zm A50
 clear A50
 by_cases c6 : t254 = true
 ·
  subst c6
  have H1 : (if t236 = 0 then ((psalteryref07_Same.f k t239 y232).bind fun t255 => (if t255 = true then (if t240 = 0 then (if (t243.length : Int) = 1 then (if t244 = 0 then ((psalteryref07_Same.f k t247 y232).bind fun t256 => (if t256 = true then (if t248 = 0 then ((lap_Right.f k y232).bind fun t257 => (some t257)) else (none)) else (none))) else (none)) else (none)) else (none)) else (none))) else (none)) = some r := by rw [if_pos rfl] at H; exact H
  clear H
  have H := H1
  clear H1
  by_cases c7 : t236 = 0
  ·
   rw [if_pos c7] at H
   have c7b0 : (t236 == 0) = true := beq_iff_eq.mpr c7
   have c7b1 : (t236 != 0) = false := bne_eq_false_iff_eq.mpr c7
   clear c7
   replace H := Option.bind_eq_some_iff.mp H
   obtain ⟨t255, A80, H⟩ := H
   replace H : (if t255 = true then (if t240 = 0 then (if (t243.length : Int) = 1 then (if t244 = 0 then ((psalteryref07_Same.f k t247 y232).bind fun t256 => (if t256 = true then (if t248 = 0 then ((lap_Right.f k y232).bind fun t257 => (some t257)) else (none)) else (none))) else (none)) else (none)) else (none)) else (none)) = some r := H
   have A8 := zm A80
   clear A80
   by_cases c9 : t255 = true
   ·
    subst c9
    have H1 : (if t240 = 0 then (if (t243.length : Int) = 1 then (if t244 = 0 then ((psalteryref07_Same.f k t247 y232).bind fun t256 => (if t256 = true then (if t248 = 0 then ((lap_Right.f k y232).bind fun t257 => (some t257)) else (none)) else (none))) else (none)) else (none)) else (none)) = some r := by rw [if_pos rfl] at H; exact H
    clear H
    have H := H1
    clear H1
    by_cases c10 : t240 = 0
    ·
     rw [if_pos c10] at H
     have c10b0 : (t240 == 0) = true := beq_iff_eq.mpr c10
     have c10b1 : (t240 != 0) = false := bne_eq_false_iff_eq.mpr c10
     clear c10
     by_cases c11 : (t243.length : Int) = 1
     ·
      rw [if_pos c11] at H
      have c11b0 : ((t243.length : Int) == 1) = true := beq_iff_eq.mpr c11
      have c11b1 : ((t243.length : Int) != 1) = false := bne_eq_false_iff_eq.mpr c11
      clear c11
      by_cases c12 : t244 = 0
      ·
       rw [if_pos c12] at H
       have c12b0 : (t244 == 0) = true := beq_iff_eq.mpr c12
       have c12b1 : (t244 != 0) = false := bne_eq_false_iff_eq.mpr c12
       clear c12
       replace H := Option.bind_eq_some_iff.mp H
       obtain ⟨t256, A130, H⟩ := H
       replace H : (if t256 = true then (if t248 = 0 then ((lap_Right.f k y232).bind fun t257 => (some t257)) else (none)) else (none)) = some r := H
       have A13 := zm A130
       clear A130
       by_cases c14 : t256 = true
       ·
        subst c14
        have H1 : (if t248 = 0 then ((lap_Right.f k y232).bind fun t257 => (some t257)) else (none)) = some r := by rw [if_pos rfl] at H; exact H
        clear H
        have H := H1
        clear H1
        by_cases c15 : t248 = 0
        ·
         rw [if_pos c15] at H
         have c15b0 : (t248 == 0) = true := beq_iff_eq.mpr c15
         have c15b1 : (t248 != 0) = false := bne_eq_false_iff_eq.mpr c15
         clear c15
         replace H := Option.bind_eq_some_iff.mp H
         obtain ⟨t257, A160, H⟩ := H
         replace H : (some t257) = some r := H
         have A16 := zm A160
         clear A160
         obtain rfl := Option.some.inj H
         go_enter Tryd.func11, Tryd.ntmps11
         go_wp2_with (first | ((with_reducible refine gate_dst (N := 10) rfl ?_); (try (refine gate_guard (by rfl) ?_; dsimp only)); refine Kd.R_lit (Kd.int .i64) _ 2 ?hg (N := 10) ?hd (xs := ([0, 0, 0, 16, 16, 0, 0, 0] : List Int)) (inner := [.int .i64 0, .int .i64 0, .int .i64 0, .int .i64 16, .int .i64 16, .int .i64 0, .int .i64 0, .int .i64 0]) (ok := fun _ => True) (okp := fun _ => True) ?hr ?hp (fun _ hk => hk) trivial (Below.refl _ _) (Nat.le_refl _) (by simp) ?_; (case hd => rfl); (case hg => rfl); (case hr => first | (go_simp; done) | (go_simp; rfl)); (case hp => exact (Reps.one (show Kd.M (Kd.int .i64) _ _ _ 0 [.int .i64 0] from rfl) (Reps.one (show Kd.M (Kd.int .i64) _ _ _ 0 [.int .i64 0] from rfl) (Reps.one (show Kd.M (Kd.int .i64) _ _ _ 0 [.int .i64 0] from rfl) (Reps.one (show Kd.M (Kd.int .i64) _ _ _ 16 [.int .i64 16] from rfl) (Reps.one (show Kd.M (Kd.int .i64) _ _ _ 16 [.int .i64 16] from rfl) (Reps.one (show Kd.M (Kd.int .i64) _ _ _ 0 [.int .i64 0] from rfl) (Reps.one (show Kd.M (Kd.int .i64) _ _ _ 0 [.int .i64 0] from rfl) (Reps.one (show Kd.M (Kd.int .i64) _ _ _ 0 [.int .i64 0] from rfl) (Reps.none _ _)))))))))); intro v233 w17 ho18 hb hg_ hnew_; clear hg_ hnew_; (first | rw [← Ny232.out] at ho18 | (simp only [Int.reduceToNat] at ho18; rw [← Ny232.out] at ho18)); have n0_ := zm (Kd.R_lower ho18 (zE (by repeat (first | (with_reducible first | exact HB.out | apply ze | apply zd | apply zf) | exact HB.out)))); have n1_ := zm (zJ (by repeat (first | (with_reducible first | exact HB.out | apply ze | apply zd | apply zf) | exact HB.out)) hb); clear HB; have HO234 := n0_; have HB := n1_; clear n0_ n1_; clear hb ho18; obtain ⟨Ao19, co19, eo19⟩ := Kd.R_slice HO234.out; subst eo19) | ((with_reducible refine gate_callee (f := 12) rfl ?_); refine goesL_ (some 13) rfl rfl Tryd.func12 (by kernel_rfl) rfl #[.slice Ao19 y232.length co19, .int .i64 4] rfl (by (try simp only [List.map_toArray, List.map_cons, List.map_nil]); first | done | rfl | (simp only [List.length_drop, List.length_take]; rfl)) ?_; (with_reducible refine (lap_Turn.calls k _ _ y232 4 t235 t236 _ ?side1 ?side2 ?sideg A1.out).mono ?_); (case sideg => exact HG.out.below (by repeat (first | (with_reducible first | exact HB.out | apply ze | apply zd | apply zf) | exact HB.out))); (case side1 => repeat (first | exact (Kd.R_reads' HO234.out).2.2 | (with_reducible refine Kd.C_alloc ?_ _) | (with_reducible refine Kd.C_drewN ?_ _) | (with_reducible refine Kd.C_drew ?_))); (case side2 => exact (Kd.R_reads' HO234.out).2.1); rintro e w20 ⟨v237, rfl, ho0, hb⟩; refine ⟨_, rfl, ?_⟩; have n0_ := zm (Kd.R_elder' (by (with_reducible repeat (first | apply zo | apply zp | apply zq)); exact HO234.out) (Kd.R_base ho0) hb); have n1_ := zm (Kd.R_lower (Kd.R_new' ho0 (Kd.R_lt (by (with_reducible repeat (first | apply zo | apply zp | apply zq)); exact HO234.out))) (zE (by repeat (first | (with_reducible first | exact HB.out | apply ze | apply zd | apply zf) | exact HB.out)))); have n2_ := zm (zJ (by repeat (first | (with_reducible first | exact HB.out | apply ze | apply zd | apply zf) | exact HB.out)) hb); clear HO234; clear HB; have HO234 := n0_; have HO238 := n1_; have HB := n2_; clear n0_ n1_ n2_; (try clear hb); (try clear hb2); (try clear hk); (try clear hi); (try clear ho0); obtain ⟨Ao21, co21, eo21⟩ := Kd.R_slice HO238.out; subst eo21) | ((with_reducible refine gate_callee (f := 18) rfl ?_); refine goesL_ (some 18) rfl rfl Tryd.func18 (by kernel_rfl) rfl #[.slice Ao21 t235.length co21, .int .i64 4] rfl (by (try simp only [List.map_toArray, List.map_cons, List.map_nil]); first | done | rfl | (simp only [List.length_drop, List.length_take]; rfl)) ?_; (with_reducible refine (lap_Back.calls k _ _ t235 4 t239 t240 _ ?side1 ?side2 ?sideg A2.out).mono ?_); (case sideg => exact HG.out.below (by repeat (first | (with_reducible first | exact HB.out | apply ze | apply zd | apply zf) | exact HB.out))); (case side1 => repeat (first | exact (Kd.R_reads' HO238.out).2.2 | (with_reducible refine Kd.C_alloc ?_ _) | (with_reducible refine Kd.C_drewN ?_ _) | (with_reducible refine Kd.C_drew ?_))); (case side2 => exact (Kd.R_reads' HO238.out).2.1); rintro e w22 ⟨v241, rfl, ho0, hb⟩; refine ⟨_, rfl, ?_⟩; have n0_ := zm (Kd.R_elder' (by (with_reducible repeat (first | apply zo | apply zp | apply zq)); exact HO234.out) (Kd.R_base ho0) hb); have n1_ := zm (Kd.R_elder' (by (with_reducible repeat (first | apply zo | apply zp | apply zq)); exact HO238.out) (Kd.R_base ho0) hb); have n2_ := zm (Kd.R_lower (Kd.R_new' (Kd.R_new' ho0 (Kd.R_lt (by (with_reducible repeat (first | apply zo | apply zp | apply zq)); exact HO234.out))) (Kd.R_lt (by (with_reducible repeat (first | apply zo | apply zp | apply zq)); exact HO238.out))) (zE (by repeat (first | (with_reducible first | exact HB.out | apply ze | apply zd | apply zf) | exact HB.out)))); have n3_ := zm (zJ (by repeat (first | (with_reducible first | exact HB.out | apply ze | apply zd | apply zf) | exact HB.out)) hb); clear HO234; clear HO238; clear HB; have HO234 := n0_; have HO238 := n1_; have HO242 := n2_; have HB := n3_; clear n0_ n1_ n2_ n3_; (try clear hb); (try clear hb2); (try clear hk); (try clear hi); (try clear ho0)) | ((with_reducible refine gate_callee (f := 20) rfl ?_); refine goesL_ (some 23) rfl rfl Tryd.func20 (by kernel_rfl) rfl #[.slice Ao19 y232.length co19, .int .i64 8] rfl (by (try simp only [List.map_toArray, List.map_cons, List.map_nil]); first | done | rfl | (simp only [List.length_drop, List.length_take]; rfl)) ?_; (with_reducible refine (lap_Frames.calls k _ _ y232 8 t243 t244 _ ?side1 ?side2 ?sideg A3.out).mono ?_); (case sideg => exact HG.out.below (by repeat (first | (with_reducible first | exact HB.out | apply ze | apply zd | apply zf) | exact HB.out))); (case side1 => repeat (first | exact (Kd.R_reads' HO234.out).2.2 | (with_reducible refine Kd.C_alloc ?_ _) | (with_reducible refine Kd.C_drewN ?_ _) | (with_reducible refine Kd.C_drew ?_))); (case side2 => exact (Kd.R_reads' HO234.out).2.1); rintro e w23 ⟨v245, rfl, ho0, hb⟩; refine ⟨_, rfl, ?_⟩; have n0_ := zm (Kd.R_below (by (with_reducible repeat (first | apply zo | apply zp | apply zq)); exact HO234.out) hb); have n1_ := zm (Kd.R_below (by (with_reducible repeat (first | apply zo | apply zp | apply zq)); exact HO238.out) hb); have n2_ := zm (Kd.R_below (by (with_reducible repeat (first | apply zo | apply zp | apply zq)); exact HO242.out) hb); have n3_ := zm (Kd.S_lower (Kd.S_new' (Kd.S_new' (Kd.S_new' ho0 (Kd.R_lt (by (with_reducible repeat (first | apply zo | apply zp | apply zq)); exact HO234.out))) (Kd.R_lt (by (with_reducible repeat (first | apply zo | apply zp | apply zq)); exact HO238.out))) (Kd.R_lt (by (with_reducible repeat (first | apply zo | apply zp | apply zq)); exact HO242.out))) (zE (by repeat (first | (with_reducible first | exact HB.out | apply ze | apply zd | apply zf) | exact HB.out)))); have n4_ := zm (zJ (by repeat (first | (with_reducible first | exact HB.out | apply ze | apply zd | apply zf) | exact HB.out)) hb); clear HO234; clear HO238; clear HO242; clear HB; have HO234 := n0_; have HO238 := n1_; have HO242 := n2_; have HO246 := n3_; have HB := n4_; clear n0_ n1_ n2_ n3_ n4_; (try clear hb); (try clear hb2); (try clear hk); (try clear hi); (try clear ho0); obtain ⟨Ao24, co24, eo24⟩ := Kd.S_slice HO246.out; subst eo24) | ((with_reducible refine gate_callee (f := 24) rfl ?_); refine goesL_ (some 28) rfl rfl Tryd.func24 (by kernel_rfl) rfl #[.slice Ao24 t243.length co24, .int .i64 8] rfl (by (try simp only [List.map_toArray, List.map_cons, List.map_nil]); first | done | rfl | (simp only [List.length_drop, List.length_take]; rfl)) ?_; (with_reducible refine (lap_Signal.calls k _ _ t243 8 t247 t248 _ ?side1 ?side2 ?sideg A4.out).mono ?_); (case sideg => exact HG.out.below (by repeat (first | (with_reducible first | exact HB.out | apply ze | apply zd | apply zf) | exact HB.out))); (case side1 => repeat (first | exact (Kd.S_reads' HO246.out).2.2 | (with_reducible refine Kd.C_alloc ?_ _) | (with_reducible refine Kd.C_drewN ?_ _) | (with_reducible refine Kd.C_drew ?_))); (case side2 => exact (Kd.S_reads' HO246.out).2.1); rintro e w25 ⟨v249, rfl, ho0, hb⟩; refine ⟨_, rfl, ?_⟩; have n0_ := zm (Kd.R_elder' (by (with_reducible repeat (first | apply zo | apply zp | apply zq)); exact HO234.out) (Kd.R_base ho0) hb); have n1_ := zm (Kd.R_elder' (by (with_reducible repeat (first | apply zo | apply zp | apply zq)); exact HO238.out) (Kd.R_base ho0) hb); have n2_ := zm (Kd.R_elder' (by (with_reducible repeat (first | apply zo | apply zp | apply zq)); exact HO242.out) (Kd.R_base ho0) hb); have n3_ := zm (Kd.S_elder' (by (with_reducible repeat (first | apply Kd.S_alloc | apply Kd.S_drewN | apply Kd.S_drew)); exact HO246.out) (Kd.R_base ho0) hb); have n4_ := zm (Kd.R_lower (Kd.R_new' (Kd.R_new' (Kd.R_new' ho0 (Kd.R_lt (by (with_reducible repeat (first | apply zo | apply zp | apply zq)); exact HO234.out))) (Kd.R_lt (by (with_reducible repeat (first | apply zo | apply zp | apply zq)); exact HO238.out))) (Kd.R_lt (by (with_reducible repeat (first | apply zo | apply zp | apply zq)); exact HO242.out))) (zE (by repeat (first | (with_reducible first | exact HB.out | apply ze | apply zd | apply zf) | exact HB.out)))); have n5_ := zm (zJ (by repeat (first | (with_reducible first | exact HB.out | apply ze | apply zd | apply zf) | exact HB.out)) hb); clear HO234; clear HO238; clear HO242; clear HO246; clear HB; have HO234 := n0_; have HO238 := n1_; have HO242 := n2_; have HO246 := n3_; have HO250 := n4_; have HB := n5_; clear n0_ n1_ n2_ n3_ n4_ n5_; (try clear hb); (try clear hb2); (try clear hk); (try clear hi); (try clear ho0)) | ((with_reducible refine gate_dst (N := 32) rfl ?_); (try (refine gate_guard (by rfl) ?_; dsimp only)); refine Kd.R_lit (Kd.int .i64) _ 2 ?hg (N := 32) ?hd (xs := ([0, 0, 0, 19, 9, 0, 0, 0] : List Int)) (inner := [.int .i64 0, .int .i64 0, .int .i64 0, .int .i64 19, .int .i64 9, .int .i64 0, .int .i64 0, .int .i64 0]) (ok := fun _ => True) (okp := fun _ => True) ?hr ?hp (fun _ hk => hk) trivial (Below.refl _ _) (Nat.le_refl _) (by simp) ?_; (case hd => rfl); (case hg => rfl); (case hr => first | (go_simp; done) | (go_simp; rfl)); (case hp => exact (Reps.one (show Kd.M (Kd.int .i64) _ _ _ 0 [.int .i64 0] from rfl) (Reps.one (show Kd.M (Kd.int .i64) _ _ _ 0 [.int .i64 0] from rfl) (Reps.one (show Kd.M (Kd.int .i64) _ _ _ 0 [.int .i64 0] from rfl) (Reps.one (show Kd.M (Kd.int .i64) _ _ _ 19 [.int .i64 19] from rfl) (Reps.one (show Kd.M (Kd.int .i64) _ _ _ 9 [.int .i64 9] from rfl) (Reps.one (show Kd.M (Kd.int .i64) _ _ _ 0 [.int .i64 0] from rfl) (Reps.one (show Kd.M (Kd.int .i64) _ _ _ 0 [.int .i64 0] from rfl) (Reps.one (show Kd.M (Kd.int .i64) _ _ _ 0 [.int .i64 0] from rfl) (Reps.none _ _)))))))))); intro v252 w26 ho27 hb hg_ hnew_; clear hg_ hnew_; (first | rw [← Ny251.out] at ho27 | (simp only [Int.reduceToNat] at ho27; rw [← Ny251.out] at ho27)); have n0_ := zm (Kd.R_elder' (by (with_reducible repeat (first | apply zo | apply zp | apply zq)); exact HO234.out) (Kd.R_base ho27) hb); have n1_ := zm (Kd.R_elder' (by (with_reducible repeat (first | apply zo | apply zp | apply zq)); exact HO238.out) (Kd.R_base ho27) hb); have n2_ := zm (Kd.R_elder' (by (with_reducible repeat (first | apply zo | apply zp | apply zq)); exact HO242.out) (Kd.R_base ho27) hb); have n3_ := zm (Kd.S_elder' (by (with_reducible repeat (first | apply Kd.S_alloc | apply Kd.S_drewN | apply Kd.S_drew)); exact HO246.out) (Kd.R_base ho27) hb); have n4_ := zm (Kd.R_elder' (by (with_reducible repeat (first | apply zo | apply zp | apply zq)); exact HO250.out) (Kd.R_base ho27) hb); have n5_ := zm (Kd.R_lower (Kd.R_new' (Kd.R_new' (Kd.R_new' (Kd.R_new' ho27 (Kd.R_lt (by (with_reducible repeat (first | apply zo | apply zp | apply zq)); exact HO234.out))) (Kd.R_lt (by (with_reducible repeat (first | apply zo | apply zp | apply zq)); exact HO238.out))) (Kd.R_lt (by (with_reducible repeat (first | apply zo | apply zp | apply zq)); exact HO242.out))) (Kd.R_lt (by (with_reducible repeat (first | apply zo | apply zp | apply zq)); exact HO250.out))) (zE (by repeat (first | (with_reducible first | exact HB.out | apply ze | apply zd | apply zf) | exact HB.out)))); have n6_ := zm (zJ (by repeat (first | (with_reducible first | exact HB.out | apply ze | apply zd | apply zf) | exact HB.out)) hb); clear HO234; clear HO238; clear HO242; clear HO246; clear HO250; clear HB; have HO234 := n0_; have HO238 := n1_; have HO242 := n2_; have HO246 := n3_; have HO250 := n4_; have HO253 := n5_; have HB := n6_; clear n0_ n1_ n2_ n3_ n4_ n5_ n6_; clear hb ho27; obtain ⟨Ao28, co28, eo28⟩ := Kd.R_slice HO253.out; subst eo28) | ((with_reducible refine gate_callee (f := 16) rfl ?_); refine goesL_ (some 33) rfl rfl Tryd.func16 (by kernel_rfl) rfl #[.slice Ao21 t235.length co21, .slice Ao28 y251.length co28] rfl (by (try simp only [List.map_toArray, List.map_cons, List.map_nil]); first | done | rfl | (simp only [List.length_drop, List.length_take]; rfl)) ?_; (with_reducible refine (psalteryref07_Same.calls k _ _ t235 _ _ y251 true _ ?side1 ?side2 ?side3 ?side4 A5.out).mono ?_); (case side1 => repeat (first | exact (Kd.R_reads' HO238.out).2.2 | (with_reducible refine Kd.C_alloc ?_ _) | (with_reducible refine Kd.C_drewN ?_ _) | (with_reducible refine Kd.C_drew ?_))); (case side2 => exact (Kd.R_reads' HO238.out).2.1); (case side3 => repeat (first | exact (Kd.R_reads' HO253.out).2.2 | (with_reducible refine Kd.C_alloc ?_ _) | (with_reducible refine Kd.C_drewN ?_ _) | (with_reducible refine Kd.C_drew ?_))); (case side4 => exact (Kd.R_reads' HO253.out).2.1); rintro e w' ⟨rfl, ⟨nd, rfl⟩⟩; refine ⟨_, rfl, ?_⟩; obtain ⟨Ao29, co29, eo29⟩ := Kd.R_slice HO242.out; subst eo29) | (go_at_call 16; (with_reducible refine (psalteryref07_Same.calls k _ _ t239 _ _ y232 true _ ?side1 ?side2 ?side3 ?side4 A8.out).mono ?_); (case side1 => repeat (first | exact (Kd.R_reads' HO242.out).2.2 | (with_reducible refine Kd.C_alloc ?_ _) | (with_reducible refine Kd.C_drewN ?_ _) | (with_reducible refine Kd.C_drew ?_))); (case side2 => exact (Kd.R_reads' HO242.out).2.1); (case side3 => repeat (first | exact (Kd.R_reads' HO234.out).2.2 | (with_reducible refine Kd.C_alloc ?_ _) | (with_reducible refine Kd.C_drewN ?_ _) | (with_reducible refine Kd.C_drew ?_))); (case side4 => exact (Kd.R_reads' HO234.out).2.1); rintro e w' ⟨rfl, ⟨nd, rfl⟩⟩; obtain ⟨Ao30, co30, eo30⟩ := Kd.R_slice HO250.out; subst eo30) | (go_at_call 16; (with_reducible refine (psalteryref07_Same.calls k _ _ t247 _ _ y232 true _ ?side1 ?side2 ?side3 ?side4 A13.out).mono ?_); (case side1 => repeat (first | exact (Kd.R_reads' HO250.out).2.2 | (with_reducible refine Kd.C_alloc ?_ _) | (with_reducible refine Kd.C_drewN ?_ _) | (with_reducible refine Kd.C_drew ?_))); (case side2 => exact (Kd.R_reads' HO250.out).2.1); (case side3 => repeat (first | exact (Kd.R_reads' HO234.out).2.2 | (with_reducible refine Kd.C_alloc ?_ _) | (with_reducible refine Kd.C_drewN ?_ _) | (with_reducible refine Kd.C_drew ?_))); (case side4 => exact (Kd.R_reads' HO234.out).2.1); rintro e w' ⟨rfl, ⟨nd, rfl⟩⟩) | (go_at_call 14; (with_reducible refine (lap_Right.calls k _ _ y232 t257 _ ?side1 ?side2 A16.out).mono ?_); (case side1 => repeat (first | exact (Kd.R_reads' HO234.out).2.2 | (with_reducible refine Kd.C_alloc ?_ _) | (with_reducible refine Kd.C_drewN ?_ _) | (with_reducible refine Kd.C_drew ?_))); (case side2 => exact (Kd.R_reads' HO234.out).2.1); rintro e w' ⟨rfl, ⟨nd, rfl⟩⟩))
         go_ret
         exact ⟨by first | rfl | (simp [errW_none, errW_some] <;> rfl) | (simp [*, errW_none, errW_some] <;> rfl), by repeat (first | (with_reducible first | exact HB.out | apply ze | apply zd | apply zf) | exact HB.out)⟩
        ·
         rw [if_neg c15] at H
         exact absurd H (by simp)
       ·
        replace c14 := Bool.eq_false_iff.mpr c14
        subst c14
        have H1 : (none) = some r := by rw [if_neg (show ¬ (false = true) by decide)] at H; exact H
        clear H
        have H := H1
        clear H1
        exact absurd H (by simp)
      ·
       rw [if_neg c12] at H
       exact absurd H (by simp)
     ·
      rw [if_neg c11] at H
      exact absurd H (by simp)
    ·
     rw [if_neg c10] at H
     exact absurd H (by simp)
   ·
    replace c9 := Bool.eq_false_iff.mpr c9
    subst c9
    have H1 : (none) = some r := by rw [if_neg (show ¬ (false = true) by decide)] at H; exact H
    clear H
    have H := H1
    clear H1
    exact absurd H (by simp)
  ·
   rw [if_neg c7] at H
   exact absurd H (by simp)
 ·
  replace c6 := Bool.eq_false_iff.mpr c6
  subst c6
  have H1 : (none) = some r := by rw [if_neg (show ¬ (false = true) by decide)] at H; exact H
  clear H
  have H := H1
  clear H1
  exact absurd H (by simp)

end Go.Proofs.YtllchhcdpfiodaaDoor.Prt

namespace Go.Proofs.YtllchhcdpfiodaaDoor.Prt
open Go.RowKit Go.Proofs.YtllchhcdpfiodaaDoorW.PrintWords Go.Proofs.YtllchhcdpfiodaaDoorW.PrintLast Go.Proofs.YtllchhcdpfiodaaDoorW.PrintMore
attribute [local go_sem] max2_int min2_int max_two min_two max_three min_three max_four min_four   -- for this text's walks alone
set_option linter.unusedVariables false
set_option linter.unusedSimpArgs false

/-! ### psalteryref03_Shift: function 41 -/
def psalteryref03_Shift.l0 : Nat → Int → Int → Int → Option (Int)
 | 0, _, _, _ => none
 | k + 1, x0, x1, x5 => if x5 < x1 then (if (wrap64 ((wrap64 (Int.tdiv x0 2)) * 2)) > x0 then (psalteryref03_Shift.l0 k (wrap64 ((wrap64 (Int.tdiv x0 2)) - 1)) x1 (wrap64 (x5 + 1))) else (psalteryref03_Shift.l0 k (wrap64 (Int.tdiv x0 2)) x1 (wrap64 (x5 + 1)))) else (some x0)
def psalteryref03_Shift.f (k : Nat) (a0 : Int) (a1 : Int) : Option (Int) := psalteryref03_Shift.l0 k a0 a1 0
theorem psalteryref03_Shift.mono_l : ∀ k, (∀ y0 y1 y2, LeO (psalteryref03_Shift.l0 k y0 y1 y2) (psalteryref03_Shift.l0 (k + 1) y0 y1 y2))
 | 0 => fun _ _ _ r h => by simp [psalteryref03_Shift.l0] at h
 | k + 1 => by
  have ih0 := psalteryref03_Shift.mono_l k
  ·
   intro y0 y1 y2
   unfold psalteryref03_Shift.l0
   repeat' first
   | (with_reducible exact ih0 _ _ _)
   | (with_reducible exact LeO.refl _)
   | (with_reducible exact LeO.none _)
   | (with_reducible refine LeO.ite ?_ ?_)
   | (with_reducible refine LeO.bind ?_ (fun _ => ?_))
   | exact ih0 _ _ _
   | exact LeO.none _
   | refine LeO.ite ?_ ?_
   | refine LeO.bind ?_ (fun _ => ?_)
theorem psalteryref03_Shift.mono : ∀ a0 a1 k, LeO (psalteryref03_Shift.f k a0 a1) (psalteryref03_Shift.f (k + 1) a0 a1) := by
 intro a0 a1 k
 have ih0 := psalteryref03_Shift.mono_l k
 unfold psalteryref03_Shift.f
 repeat' first
   | (with_reducible exact ih0 _ _ _)
   | (with_reducible exact LeO.refl _)
   | (with_reducible exact LeO.none _)
   | (with_reducible refine LeO.ite ?_ ?_)
   | (with_reducible refine LeO.bind ?_ (fun _ => ?_))
   | exact ih0 _ _ _
   | exact LeO.none _
   | refine LeO.ite ?_ ?_
   | refine LeO.bind ?_ (fun _ => ?_)
set_option maxHeartbeats 8000000 in
set_option maxRecDepth 100000 in
theorem psalteryref03_Shift.calls (k : Nat) (a0 : Int) (a1 : Int) (r : Int) (w : World) (h : psalteryref03_Shift.f k a0 a1 = some r) :
  Calls Tryd.prog 41 #[.int .i64 a0, .int .i64 a1] w fun e w' => e = .returned (.int .i64 r) ∧ Drawn0 w w' := by
 have H : (psalteryref03_Shift.l0 k a0 a1 0) = some r := h
 clear h
 have H' := zm H
 clear H
 go_enter Tryd.func41, Tryd.ntmps41
 go_wp2
 go_loopg [0, 5] k (fun kq v0 v5 w' => ∃ (x0_1 : Int) (x5_1 : Int), v0 = .int .i64 x0_1 ∧ v5 = .int .i64 x5_1 ∧ Aside0 (psalteryref03_Shift.l0 kq x0_1 a1 x5_1 = some r) ∧ Aside0 (kq ≤ k) ∧ Drawn0 w w')
 case atStart => exact ⟨(a0), (0), (by first | rfl | (simp; done) | (simp [*]; done)), (by first | rfl | (simp; done) | (simp [*]; done)), H', ⟨Nat.le_refl _⟩, by repeat (first | exact Drawn0.refl _ | apply Drawn0.step)⟩
 case round =>
  clear H'
  try clear p2
  obtain ⟨x0_1, x5_1, rfl, rfl, HA, HK1, ⟨m1, rfl⟩⟩ := hrel
  cases gk with
  | zero => exact absurd HA.out (by simp [psalteryref03_Shift.l0])
  | succ k1 =>
   have H := HA.out
   clear HA
   simp only [psalteryref03_Shift.l0] at H
   by_cases c3 : x5_1 < a1
   ·
    rw [if_pos c3] at H
    have c3b0 : decide (x5_1 < a1) = true := decide_eq_true c3
    clear c3
    by_cases c4 : (wrap64 ((wrap64 (Int.tdiv x0_1 2)) * 2)) > x0_1
    ·
     rw [if_pos c4] at H
     have c4b0 : decide (x0_1 < (wrap64 ((wrap64 (Int.tdiv x0_1 2)) * 2))) = true := decide_eq_true c4
     clear c4
     have H' := zm H
     clear H
     go_wp2
     go_roundg k1
     case measure => have := HK1.out; omega
     case rel => exact ⟨(wrap64 ((wrap64 (Int.tdiv x0_1 2)) - 1)), (wrap64 (x5_1 + 1)), (by first | rfl | (simp; done) | (simp [*]; done)), (by first | rfl | (simp; done) | (simp [*]; done)), H', ⟨by have := HK1.out; omega⟩, by repeat (first | exact Drawn0.refl _ | apply Drawn0.step)⟩
    ·
     rw [if_neg c4] at H
     have c4b0 : decide (x0_1 < (wrap64 ((wrap64 (Int.tdiv x0_1 2)) * 2))) = false := decide_eq_false c4
     clear c4
     have H' := zm H
     clear H
     go_wp2
     go_roundg k1
     case measure => have := HK1.out; omega
     case rel => exact ⟨(wrap64 (Int.tdiv x0_1 2)), (wrap64 (x5_1 + 1)), (by first | rfl | (simp; done) | (simp [*]; done)), (by first | rfl | (simp; done) | (simp [*]; done)), H', ⟨by have := HK1.out; omega⟩, by repeat (first | exact Drawn0.refl _ | apply Drawn0.step)⟩
   ·
    rw [if_neg c3] at H
    have c3b0 : decide (x5_1 < a1) = false := decide_eq_false c3
    clear c3
    obtain rfl := Option.some.inj H
    go_wp2
    go_ret
    exact ⟨by first | rfl | (simp; done) | (simp [*]; done), by repeat (first | exact Drawn0.refl _ | apply Drawn0.step)⟩

end Go.Proofs.YtllchhcdpfiodaaDoor.Prt

namespace Go.Proofs.YtllchhcdpfiodaaDoor.Prt
open Go.RowKit Go.Proofs.YtllchhcdpfiodaaDoorW.PrintWords Go.Proofs.YtllchhcdpfiodaaDoorW.PrintLast Go.Proofs.YtllchhcdpfiodaaDoorW.PrintMore
attribute [local go_sem] max2_int min2_int max_two min_two max_three min_three max_four min_four   -- for this text's walks alone
set_option linter.unusedVariables false
set_option linter.unusedSimpArgs false

/-! ### psalteryref09_part: function 31 -/
def psalteryref09_part.f (k : Nat) (a0 : Int) (a1 : Int) : Option (Int) := (psalteryref03_Shift.f k (wrap64 (a0 * (wrap64 (7 - (wrap64 (2 * a1)))))) 4).bind fun t260 => (some t260)
theorem psalteryref09_part.mono : ∀ a0 a1 k, LeO (psalteryref09_part.f k a0 a1) (psalteryref09_part.f (k + 1) a0 a1) := by
 intro a0 a1 k
 unfold psalteryref09_part.f
 repeat' first
   | (with_reducible exact psalteryref03_Shift.mono _ _ _)
   | (with_reducible exact LeO.refl _)
   | (with_reducible exact LeO.none _)
   | (with_reducible refine LeO.ite ?_ ?_)
   | (with_reducible refine LeO.bind ?_ (fun _ => ?_))
   | exact psalteryref03_Shift.mono _ _ _
   | exact LeO.none _
   | refine LeO.ite ?_ ?_
   | refine LeO.bind ?_ (fun _ => ?_)
set_option maxHeartbeats 8000000 in
set_option maxRecDepth 100000 in
theorem psalteryref09_part.calls (k : Nat) (a0 : Int) (a1 : Int) (r : Int) (w : World) (h : psalteryref09_part.f k a0 a1 = some r) :
  Calls Tryd.prog 31 #[.int .i64 a0, .int .i64 a1] w fun e w' => e = .returned (.int .i64 r) ∧ Drawn0 w w' := by
 have H : ((psalteryref03_Shift.f k (wrap64 (a0 * (wrap64 (7 - (wrap64 (2 * a1)))))) 4).bind fun t260 => (some t260)) = some r := h
 clear h
 replace H := Option.bind_eq_some_iff.mp H
 obtain ⟨t260, A30, H⟩ := H
 replace H : (some t260) = some r := H
 have A3 := zm A30
 clear A30
 obtain rfl := Option.some.inj H
 go_enter Tryd.func31, Tryd.ntmps31
 go_wp2_with (first | ((with_reducible refine gate_callee (f := 41) rfl ?_); refine goesL_ (some 10) rfl rfl Tryd.func41 (by kernel_rfl) rfl #[.int .i64 (wrap64 (a0 * (wrap64 (7 - (wrap64 (2 * a1)))))), .int .i64 4] rfl (by (try simp only [List.map_toArray, List.map_cons, List.map_nil]); first | done | rfl | (simp only [List.length_drop, List.length_take]; rfl)) ?_; (with_reducible refine (psalteryref03_Shift.calls k (wrap64 (a0 * (wrap64 (7 - (wrap64 (2 * a1)))))) 4 t260 _ A3.out).mono ?_); rintro e w' ⟨rfl, ⟨nd, rfl⟩⟩; refine ⟨_, rfl, ?_⟩))
 go_ret
 exact ⟨by first | rfl | (simp; done) | (simp [*]; done), by repeat (first | exact Drawn0.refl _ | apply Drawn0.step)⟩

end Go.Proofs.YtllchhcdpfiodaaDoor.Prt

namespace Go.Proofs.YtllchhcdpfiodaaDoor.Prt
open Go.RowKit Go.Proofs.YtllchhcdpfiodaaDoorW.PrintWords Go.Proofs.YtllchhcdpfiodaaDoorW.PrintLast Go.Proofs.YtllchhcdpfiodaaDoorW.PrintMore
attribute [local go_sem] max2_int min2_int max_two min_two max_three min_three max_four min_four   -- for this text's walks alone
set_option linter.unusedVariables false
set_option linter.unusedSimpArgs false

/-! ### psalteryref09_Back: function 19 -/
def psalteryref09_Back.l0 : Nat → List Int → Int → List Int → Int → Option (List Int)
 | 0, _, _, _, _ => none
 | k + 1, x0, x1, x5, x6 => if x6 < 4 then (if 0 ≤ (wrap64 ((wrap64 (x1 - 1)) - x6)) then (if (wrap64 ((wrap64 (x1 - 1)) - x6)) < (x0.length : Int) then (if 0 ≤ (wrap64 (x1 + x6)) then (if (wrap64 (x1 + x6)) < (x0.length : Int) then ((psalteryref09_part.f k (rd x0 (wrap64 (x1 + x6))) x6).bind fun t296 => ((psalteryref09_part.f k (wrap64 ((rd x0 (wrap64 ((wrap64 (x1 - 1)) - x6))) - t296)) x6).bind fun t297 => (if (wrap64 ((wrap64 (x1 - 1)) - x6)) < (x5.length : Int) then (if (wrap64 (x1 + x6)) < (x5.length : Int) then (psalteryref09_Back.l0 k x0 x1 ((x5.set ((wrap64 ((wrap64 (x1 - 1)) - x6)) : Int).toNat (wrap64 ((rd x0 (wrap64 ((wrap64 (x1 - 1)) - x6))) - t296))).set ((wrap64 (x1 + x6)) : Int).toNat (wrap64 ((rd x0 (wrap64 (x1 + x6))) + t297))) (wrap64 (x6 + 1))) else (none)) else (none)))) else (none)) else (none)) else (none)) else (none)) else (some x5)
def psalteryref09_Back.f (k : Nat) (l0 : List Int) (a1 : Int) : Option (List Int) := (some (([] : List Int) : List Int)).bind fun y288 => (if y288.length + l0.length < 17592186044416 then (psalteryref09_Back.l0 k l0 a1 (y288 ++ l0) 0) else (none))
theorem psalteryref09_Back.mono_l : ∀ k, (∀ y0 y1 y2 y3, LeO (psalteryref09_Back.l0 k y0 y1 y2 y3) (psalteryref09_Back.l0 (k + 1) y0 y1 y2 y3))
 | 0 => fun _ _ _ _ r h => by simp [psalteryref09_Back.l0] at h
 | k + 1 => by
  have ih0 := psalteryref09_Back.mono_l k
  ·
   intro y0 y1 y2 y3
   unfold psalteryref09_Back.l0
   repeat' first
   | (with_reducible exact ih0 _ _ _ _)
   | (with_reducible exact psalteryref09_part.mono _ _ _)
   | (with_reducible exact LeO.refl _)
   | (with_reducible exact LeO.none _)
   | (with_reducible refine LeO.ite ?_ ?_)
   | (with_reducible refine LeO.bind ?_ (fun _ => ?_))
   | exact ih0 _ _ _ _
   | exact psalteryref09_part.mono _ _ _
   | exact LeO.none _
   | refine LeO.ite ?_ ?_
   | refine LeO.bind ?_ (fun _ => ?_)
theorem psalteryref09_Back.mono : ∀ a0 a1 k, LeO (psalteryref09_Back.f k a0 a1) (psalteryref09_Back.f (k + 1) a0 a1) := by
 intro a0 a1 k
 have ih0 := psalteryref09_Back.mono_l k
 unfold psalteryref09_Back.f
 repeat' first
   | (with_reducible exact ih0 _ _ _ _)
   | (with_reducible exact psalteryref09_part.mono _ _ _)
   | (with_reducible exact LeO.refl _)
   | (with_reducible exact LeO.none _)
   | (with_reducible refine LeO.ite ?_ ?_)
   | (with_reducible refine LeO.bind ?_ (fun _ => ?_))
   | exact ih0 _ _ _ _
   | exact psalteryref09_part.mono _ _ _
   | exact LeO.none _
   | refine LeO.ite ?_ ?_
   | refine LeO.bind ?_ (fun _ => ?_)
set_option maxHeartbeats 8000000 in
set_option maxRecDepth 100000 in
theorem psalteryref09_Back.calls (k : Nat) (A0 : Option Addr) (c0 : Nat) (l0 : List Int) (a1 : Int) (r : List Int) (w : World) (hr0 : Kd.C (Kd.int .i64) w A0 l0.length l0) (hc0 : l0.length ≤ c0) (h : psalteryref09_Back.f k l0 a1 = some r) :
  Calls Tryd.prog 19 #[.slice A0 l0.length c0, .int .i64 a1] w fun e w' => ∃ v0_ : Value, e = .returned (v0_) ∧ Kd.R (Kd.int .i64) 2 w' w.heap.size (fun _ => True) v0_ r ∧ Below w.heap.size w w' := by
 have HR0 := zm hr0
 have HC0 := zm hc0
 clear hr0 hc0
 have HB := zm (Below.refl w.heap.size w)
 have H : ((some (([] : List Int) : List Int)).bind fun y288 => (if y288.length + l0.length < 17592186044416 then (psalteryref09_Back.l0 k l0 a1 (y288 ++ l0) 0) else (none))) = some r := h
 clear h
 obtain ⟨y288, hy288⟩ : ∃ y_ : List Int, y_ = (([] : List Int)) := ⟨_, rfl⟩
 replace H : (if y288.length + l0.length < 17592186044416 then (psalteryref09_Back.l0 k l0 a1 (y288 ++ l0) 0) else (none)) = some r := by first | (rw [hy288]; with_reducible exact H) | (have H2_ := (Option.bind_some _ _).symm.trans H; rw [hy288]; with_reducible exact H2_) | (have H2_ := (Option.bind_some _ _).symm.trans H; with_reducible exact H2_) | with_reducible exact H | (rw [hy288]; exact H) | exact H
 have Ny288 := zm hy288
 clear hy288
 by_cases c3 : y288.length + l0.length < 17592186044416
 ·
  rw [if_pos c3] at H
  have LMc3 := zm c3
  clear c3
  obtain ⟨y291, hy291⟩ : ∃ y_ : List Int, y_ = (y288 ++ l0) := ⟨_, rfl⟩
  replace H : (psalteryref09_Back.l0 k l0 a1 y291 0) = some r := by first | (rw [hy291]; with_reducible exact H) | (have H2_ := (Option.bind_some _ _).symm.trans H; rw [hy291]; with_reducible exact H2_) | (have H2_ := (Option.bind_some _ _).symm.trans H; with_reducible exact H2_) | with_reducible exact H | (rw [hy291]; exact H) | exact H
  have Ny291 := zm hy291
  clear hy291
  have H' := zm H
  clear H
  go_enter Tryd.func19, Tryd.ntmps19
  go_wp2_with (first | ((with_reducible refine gate_dst (N := 9) rfl ?_); refine Kd.R_lit (Kd.int .i64) _ 2 ?hg (N := 9) ?hd (xs := ([] : List Int)) (inner := []) (ok := fun _ => True) (okp := fun _ => True) ?hr ?hp (fun _ hk => hk) trivial (Below.refl _ _) (Nat.le_refl _) (by simp) ?_; (case hd => rfl); (case hg => rfl); (case hr => first | (go_simp; done) | (go_simp; rfl)); (case hp => exact (Reps.none _ _)); intro v289 w4 ho5 hb hg_ hnew_; clear hg_ hnew_; (first | rw [← Ny288.out] at ho5 | (simp only [Int.reduceToNat] at ho5; rw [← Ny288.out] at ho5)); have n0_ := zm (Kd.R_lower ho5 (zE (by repeat (first | (with_reducible first | exact HB.out | apply ze | apply zd | apply zf) | exact HB.out)))); have n1_ := zm (zJ (by repeat (first | (with_reducible first | exact HB.out | apply ze | apply zd | apply zf) | exact HB.out)) hb); clear HB; have HO290 := n0_; have HB := n1_; clear n0_ n1_; clear hb ho5) | ((with_reducible refine gate_builtin (b := .append) (xs := #[.tmp 9, .tmp 10]) rfl ?_); at_builtin; refine Kd.R_append_rows (Kd.int .i64) (w0 := w) w.heap.size rfl (.tmp 9) (.tmp 10) 22 2 (.int .i64 0) 8 rfl Tryd.underlying22 info2 rfl (by decide) (by omega) v289 y288 l0 _ _ _ (fun _ => True) (fun _ => False) rfl rfl ?aO ?aR (fun _ _ h => h) (fun _ h => h.elim) ?aF ?aB ?aS ?aL ?_; (case aR => repeat (first | exact (Kd.C_below HR0.out HB.out) | (with_reducible refine Kd.C_alloc ?_ _) | (with_reducible refine Kd.C_drewN ?_ _) | (with_reducible refine Kd.C_drew ?_))); (case aB => exact (by repeat (first | (with_reducible first | exact HB.out | apply ze | apply zd | apply zf) | exact HB.out))); (case aF => exact (fun _ _ => trivial)); (case aO => exact (by (with_reducible repeat (first | apply zo | apply zp | apply zq)); exact HO290.out)); (case aS => exact (zE (by repeat (first | (with_reducible first | exact HB.out | apply ze | apply zd | apply zf) | exact HB.out)))); (case aL => have := LMc3.out; omega); intro v292 w6 ho hb hg hat; rw [← Ny291.out] at ho; have n0_ := zm (hb); have n1_ := zm (ho); clear HB; clear HO290; have HB := n0_; have HO293 := n1_; clear n0_ n1_; clear ho hb hg hat))
  repeat (go_quiet (first | ((with_reducible refine gate_dst (N := 9) rfl ?_); refine Kd.R_lit (Kd.int .i64) _ 2 ?hg (N := 9) ?hd (xs := ([] : List Int)) (inner := []) (ok := fun _ => True) (okp := fun _ => True) ?hr ?hp (fun _ hk => hk) trivial (Below.refl _ _) (Nat.le_refl _) (by simp) ?_; (case hd => rfl); (case hg => rfl); (case hr => first | (go_simp; done) | (go_simp; rfl)); (case hp => exact (Reps.none _ _)); intro v289 w4 ho5 hb hg_ hnew_; clear hg_ hnew_; (first | rw [← Ny288.out] at ho5 | (simp only [Int.reduceToNat] at ho5; rw [← Ny288.out] at ho5)); have n0_ := zm (Kd.R_lower ho5 (zE (by repeat (first | (with_reducible first | exact HB.out | apply ze | apply zd | apply zf) | exact HB.out)))); have n1_ := zm (zJ (by repeat (first | (with_reducible first | exact HB.out | apply ze | apply zd | apply zf) | exact HB.out)) hb); clear HB; have HO290 := n0_; have HB := n1_; clear n0_ n1_; clear hb ho5) | ((with_reducible refine gate_builtin (b := .append) (xs := #[.tmp 9, .tmp 10]) rfl ?_); at_builtin; refine Kd.R_append_rows (Kd.int .i64) (w0 := w) w.heap.size rfl (.tmp 9) (.tmp 10) 22 2 (.int .i64 0) 8 rfl Tryd.underlying22 info2 rfl (by decide) (by omega) v289 y288 l0 _ _ _ (fun _ => True) (fun _ => False) rfl rfl ?aO ?aR (fun _ _ h => h) (fun _ h => h.elim) ?aF ?aB ?aS ?aL ?_; (case aR => repeat (first | exact (Kd.C_below HR0.out HB.out) | (with_reducible refine Kd.C_alloc ?_ _) | (with_reducible refine Kd.C_drewN ?_ _) | (with_reducible refine Kd.C_drew ?_))); (case aB => exact (by repeat (first | (with_reducible first | exact HB.out | apply ze | apply zd | apply zf) | exact HB.out))); (case aF => exact (fun _ _ => trivial)); (case aO => exact (by (with_reducible repeat (first | apply zo | apply zp | apply zq)); exact HO290.out)); (case aS => exact (zE (by repeat (first | (with_reducible first | exact HB.out | apply ze | apply zd | apply zf) | exact HB.out)))); (case aL => have := LMc3.out; omega); intro v292 w6 ho hb hg hat; rw [← Ny291.out] at ho; have n0_ := zm (hb); have n1_ := zm (ho); clear HB; clear HO290; have HB := n0_; have HO293 := n1_; clear n0_ n1_; clear ho hb hg hat)); try go_wp2_with (first | ((with_reducible refine gate_dst (N := 9) rfl ?_); refine Kd.R_lit (Kd.int .i64) _ 2 ?hg (N := 9) ?hd (xs := ([] : List Int)) (inner := []) (ok := fun _ => True) (okp := fun _ => True) ?hr ?hp (fun _ hk => hk) trivial (Below.refl _ _) (Nat.le_refl _) (by simp) ?_; (case hd => rfl); (case hg => rfl); (case hr => first | (go_simp; done) | (go_simp; rfl)); (case hp => exact (Reps.none _ _)); intro v289 w4 ho5 hb hg_ hnew_; clear hg_ hnew_; (first | rw [← Ny288.out] at ho5 | (simp only [Int.reduceToNat] at ho5; rw [← Ny288.out] at ho5)); have n0_ := zm (Kd.R_lower ho5 (zE (by repeat (first | (with_reducible first | exact HB.out | apply ze | apply zd | apply zf) | exact HB.out)))); have n1_ := zm (zJ (by repeat (first | (with_reducible first | exact HB.out | apply ze | apply zd | apply zf) | exact HB.out)) hb); clear HB; have HO290 := n0_; have HB := n1_; clear n0_ n1_; clear hb ho5) | ((with_reducible refine gate_builtin (b := .append) (xs := #[.tmp 9, .tmp 10]) rfl ?_); at_builtin; refine Kd.R_append_rows (Kd.int .i64) (w0 := w) w.heap.size rfl (.tmp 9) (.tmp 10) 22 2 (.int .i64 0) 8 rfl Tryd.underlying22 info2 rfl (by decide) (by omega) v289 y288 l0 _ _ _ (fun _ => True) (fun _ => False) rfl rfl ?aO ?aR (fun _ _ h => h) (fun _ h => h.elim) ?aF ?aB ?aS ?aL ?_; (case aR => repeat (first | exact (Kd.C_below HR0.out HB.out) | (with_reducible refine Kd.C_alloc ?_ _) | (with_reducible refine Kd.C_drewN ?_ _) | (with_reducible refine Kd.C_drew ?_))); (case aB => exact (by repeat (first | (with_reducible first | exact HB.out | apply ze | apply zd | apply zf) | exact HB.out))); (case aF => exact (fun _ _ => trivial)); (case aO => exact (by (with_reducible repeat (first | apply zo | apply zp | apply zq)); exact HO290.out)); (case aS => exact (zE (by repeat (first | (with_reducible first | exact HB.out | apply ze | apply zd | apply zf) | exact HB.out)))); (case aL => have := LMc3.out; omega); intro v292 w6 ho hb hg hat; rw [← Ny291.out] at ho; have n0_ := zm (hb); have n1_ := zm (ho); clear HB; clear HO290; have HB := n0_; have HO293 := n1_; clear n0_ n1_; clear ho hb hg hat)))
  go_loopg [6] k (fun kq v6 w' => ∃ (x5_1 : List Int) (x6_1 : Int), v6 = .int .i64 x6_1 ∧ Aside0 (psalteryref09_Back.l0 kq l0 a1 x5_1 x6_1 = some r) ∧ Aside0 (kq ≤ k) ∧ Aside0 (Kd.R (Kd.int .i64) 2 w' w.heap.size (fun _ => True) v292 x5_1) ∧ Aside0 (Below w.heap.size w w'))
  case atStart => exact ⟨(y291), (0), (by first | rfl | (simp; done) | (simp [*]; done)), H', ⟨Nat.le_refl _⟩, ⟨by (with_reducible repeat (first | apply zo | apply zp | apply zq)); exact HO293.out⟩, ⟨by repeat (first | (with_reducible first | exact HB.out | apply ze | apply zd | apply zf) | exact HB.out)⟩⟩
  case round =>
   clear H'
   try clear c1
   try clear p2
   try clear c3
   obtain ⟨x5_1, x6_1, rfl, HA, HK1, HO_5, HB⟩ := hrel
   cases gk with
   | zero => exact absurd HA.out (by simp [psalteryref09_Back.l0])
   | succ k1 =>
    have H := HA.out
    clear HA
    simp only [psalteryref09_Back.l0] at H
    by_cases c7 : x6_1 < 4
    ·
     rw [if_pos c7] at H
     have c7b0 : decide (x6_1 < 4) = true := decide_eq_true c7
     clear c7
     obtain ⟨ji8, hji8⟩ : ∃ j_ : Int, (wrap64 ((wrap64 (a1 - 1)) - x6_1)) = j_ := ⟨_, rfl⟩
     replace H : (if 0 ≤ (ji8) then (if (ji8) < (l0.length : Int) then (if 0 ≤ (wrap64 (a1 + x6_1)) then (if (wrap64 (a1 + x6_1)) < (l0.length : Int) then ((psalteryref09_part.f k1 (rd l0 (wrap64 (a1 + x6_1))) x6_1).bind fun t296 => ((psalteryref09_part.f k1 (wrap64 ((rd l0 (ji8)) - t296)) x6_1).bind fun t297 => (if (ji8) < (x5_1.length : Int) then (if (wrap64 (a1 + x6_1)) < (x5_1.length : Int) then (psalteryref09_Back.l0 k1 l0 a1 ((x5_1.set ((ji8) : Int).toNat (wrap64 ((rd l0 (ji8)) - t296))).set ((wrap64 (a1 + x6_1)) : Int).toNat (wrap64 ((rd l0 (wrap64 (a1 + x6_1))) + t297))) (wrap64 (x6_1 + 1))) else (none)) else (none)))) else (none)) else (none)) else (none)) else (none)) = some r := by first | (rw [hji8] at H; exact H) | (simp only [hji8] at H ⊢; exact H)
     have hji8w : (IntKind.i64.wrap ((wrap64 (a1 - 1)) - x6_1)) = ji8 := (i64_w _).trans hji8
     by_cases c9 : 0 ≤ (ji8)
     ·
      rw [if_pos c9] at H
      have c9b0 : decide (0 ≤ (ji8)) = true := decide_eq_true c9
      clear c9
      by_cases c10 : (ji8) < (l0.length : Int)
      ·
       rw [if_pos c10] at H
       have c10b0 : decide ((ji8) < (l0.length : Int)) = true := decide_eq_true c10
       clear c10
       obtain ⟨ji11, hji11⟩ : ∃ j_ : Int, (wrap64 (a1 + x6_1)) = j_ := ⟨_, rfl⟩
       replace H : (if 0 ≤ (ji11) then (if (ji11) < (l0.length : Int) then ((psalteryref09_part.f k1 (rd l0 (ji11)) x6_1).bind fun t296 => ((psalteryref09_part.f k1 (wrap64 ((rd l0 (ji8)) - t296)) x6_1).bind fun t297 => (if (ji8) < (x5_1.length : Int) then (if (ji11) < (x5_1.length : Int) then (psalteryref09_Back.l0 k1 l0 a1 ((x5_1.set ((ji8) : Int).toNat (wrap64 ((rd l0 (ji8)) - t296))).set ((ji11) : Int).toNat (wrap64 ((rd l0 (ji11)) + t297))) (wrap64 (x6_1 + 1))) else (none)) else (none)))) else (none)) else (none)) = some r := by first | (rw [hji11] at H; exact H) | (simp only [hji11] at H ⊢; exact H)
       have hji11w : (IntKind.i64.wrap (a1 + x6_1)) = ji11 := (i64_w _).trans hji11
       by_cases c12 : 0 ≤ (ji11)
       ·
        rw [if_pos c12] at H
        have c12b0 : decide (0 ≤ (ji11)) = true := decide_eq_true c12
        clear c12
        by_cases c13 : (ji11) < (l0.length : Int)
        ·
         rw [if_pos c13] at H
         have c13b0 : decide ((ji11) < (l0.length : Int)) = true := decide_eq_true c13
         clear c13
         replace H := Option.bind_eq_some_iff.mp H
         obtain ⟨t296, A140, H⟩ := H
         replace H : ((psalteryref09_part.f k1 (wrap64 ((rd l0 (ji8)) - t296)) x6_1).bind fun t297 => (if (ji8) < (x5_1.length : Int) then (if (ji11) < (x5_1.length : Int) then (psalteryref09_Back.l0 k1 l0 a1 ((x5_1.set ((ji8) : Int).toNat (wrap64 ((rd l0 (ji8)) - t296))).set ((ji11) : Int).toNat (wrap64 ((rd l0 (ji11)) + t297))) (wrap64 (x6_1 + 1))) else (none)) else (none))) = some r := H
         have A14 := zm A140
         clear A140
         replace H := Option.bind_eq_some_iff.mp H
         obtain ⟨t297, A150, H⟩ := H
         replace H : (if (ji8) < (x5_1.length : Int) then (if (ji11) < (x5_1.length : Int) then (psalteryref09_Back.l0 k1 l0 a1 ((x5_1.set ((ji8) : Int).toNat (wrap64 ((rd l0 (ji8)) - t296))).set ((ji11) : Int).toNat (wrap64 ((rd l0 (ji11)) + t297))) (wrap64 (x6_1 + 1))) else (none)) else (none)) = some r := H
         have A15 := zm A150
         clear A150
         by_cases c16 : (ji8) < (x5_1.length : Int)
         ·
          rw [if_pos c16] at H
          have c16b0 : decide ((ji8) < (x5_1.length : Int)) = true := decide_eq_true c16
          clear c16
          obtain ⟨y298, hy298⟩ : ∃ y_ : List Int, y_ = (x5_1.set ((ji8) : Int).toNat (wrap64 ((rd l0 (ji8)) - t296))) := ⟨_, rfl⟩
          replace H : (if (ji11) < (x5_1.length : Int) then (psalteryref09_Back.l0 k1 l0 a1 (y298.set ((ji11) : Int).toNat (wrap64 ((rd l0 (ji11)) + t297))) (wrap64 (x6_1 + 1))) else (none)) = some r := by first | (rw [hy298]; with_reducible exact H) | (have H2_ := (Option.bind_some _ _).symm.trans H; rw [hy298]; with_reducible exact H2_) | (have H2_ := (Option.bind_some _ _).symm.trans H; with_reducible exact H2_) | with_reducible exact H | (rw [hy298]; exact H) | exact H
          have Ny298 := zm hy298
          clear hy298
          by_cases c18 : (ji11) < (x5_1.length : Int)
          ·
           rw [if_pos c18] at H
           have c18b0 : decide ((ji11) < (x5_1.length : Int)) = true := decide_eq_true c18
           clear c18
           obtain ⟨y299, hy299⟩ : ∃ y_ : List Int, y_ = (y298.set ((ji11) : Int).toNat (wrap64 ((rd l0 (ji11)) + t297))) := ⟨_, rfl⟩
           replace H : (psalteryref09_Back.l0 k1 l0 a1 y299 (wrap64 (x6_1 + 1))) = some r := by first | (rw [hy299]; with_reducible exact H) | (have H2_ := (Option.bind_some _ _).symm.trans H; rw [hy299]; with_reducible exact H2_) | (have H2_ := (Option.bind_some _ _).symm.trans H; with_reducible exact H2_) | with_reducible exact H | (rw [hy299]; exact H) | exact H
           have Ny299 := zm hy299
           clear hy299
           have H' := zm H
           clear H
           have p294 : 0 ≤ ((ji8) : Int) := of_decide_eq_true (by first | (with_reducible assumption) | assumption)
           have q294 : (ji8) < (l0.length : Int) := of_decide_eq_true (by first | (with_reducible assumption) | assumption)
           obtain ⟨ad294, e294, hx294_0⟩ := Kd.at_int HR0.out (ji8) p294 q294
           cases e294
           replace hx294_0 := (HB.out.cell (zb w _ hx294_0)).trans hx294_0
           replace p294 := eq_true p294
           replace q294 := eq_true q294
           have p295 : 0 ≤ ((ji11) : Int) := of_decide_eq_true (by first | (with_reducible assumption) | assumption)
           have q295 : (ji11) < (l0.length : Int) := of_decide_eq_true (by first | (with_reducible assumption) | assumption)
           obtain ⟨ad295, e295, hx295_0⟩ := Kd.at_int HR0.out (ji11) p295 q295
           obtain rfl : ad294 = ad295 := (by injection e295)
           replace hx295_0 := (HB.out.cell (zb w _ hx295_0)).trans hx295_0
           replace p295 := eq_true p295
           replace q295 := eq_true q295
           go_wp2_with (first | (go_at_call 31; (with_reducible refine (psalteryref09_part.calls k1 (rd l0 (ji11)) x6_1 t296 _ A14.out).mono ?_); rintro e w' ⟨rfl, ⟨nd, rfl⟩⟩; (try first | exact ⟨rfl, _, World.drewN_drewN _ _ _⟩ | exact ⟨rfl, _, Eq.trans (World.drewN_drewN _ _ _) (congrArg (World.drewN _) (Nat.add_assoc _ _ _))⟩)) | (go_at_call 31; (with_reducible refine (psalteryref09_part.calls k1 (wrap64 ((rd l0 (ji8)) - t296)) x6_1 t297 _ A15.out).mono ?_); rintro e w' ⟨rfl, ⟨nd, rfl⟩⟩; (try first | exact ⟨rfl, _, World.drewN_drewN _ _ _⟩ | exact ⟨rfl, _, Eq.trans (World.drewN_drewN _ _ _) (congrArg (World.drewN _) (Nat.add_assoc _ _ _))⟩); have p17 : 0 ≤ ((ji8) : Int) := of_decide_eq_true (by first | (with_reducible assumption) | assumption); have q17 : ((ji8) : Int) < ((x5_1.length : Int) : Int) := of_decide_eq_true (by first | (with_reducible assumption) | assumption); obtain ⟨go17, co17, eo17, gb17, gl17, cl17, HG17⟩ := Kd.R_form HO_5.out (by omega); (first | cases eo17 | (injection eo17 with ea_ en_ ec_; (first | subst ea_ | (injection ea_ with ea_; subst ea_)); subst ec_; clear en_)); have GB17 := zm gb17; have GG17 := zm HG17; clear gb17 gl17 HG17; obtain ⟨hx17_0, hf17_0⟩ := Kd.R_celln 0 HO_5.out ((ji8) : Int) p17 q17; replace p17 := eq_true p17; replace q17 := eq_true q17; obtain ⟨hy20_, hz20_⟩ := Kd.R_celln 0 HO_5.out ((ji8) : Int) (of_decide_eq_true (by first | (with_reducible assumption) | assumption)) (of_decide_eq_true (by first | (with_reducible assumption) | assumption)); have HP20 := Kd.R_putg HO_5.out ((ji8) : Int) (wrap64 ((rd l0 (ji8)) - t296))) | ((with_reducible refine gate_store (t := 2) (p := 45) rfl ?_); (try (rw [drewN_self wr]; generalize hq_ : World.drewN wr _ = wr; have n0_ := zm (Kd.R_at hq_ HO_5.out); have n1_ := zm (below_at hq_ HB.out); clear hq_ HO_5 HB; have HO_5 := n0_; have HB := n1_; clear n0_ n1_; (try (obtain ⟨hy20_, hz20_⟩ := Kd.R_celln 0 HO_5.out ((ji8) : Int) (of_decide_eq_true (by first | (with_reducible assumption) | assumption)) (of_decide_eq_true (by first | (with_reducible assumption) | assumption)))); (try (have HP20 := Kd.R_putg HO_5.out ((ji8) : Int) (wrap64 ((rd l0 (ji8)) - t296)))))); refine store_event (t := 2) (p := 45) (v := ?vo_w21) (w1 := (wr.setCell ⟨go17, ((ji8) : Int).toNat, none⟩ (.int .i64 (wrap64 ((rd l0 (ji8)) - t296))))) ?hg ?ho ?hn ?hr ?_; (case ho => rfl); (case hg => rfl); (case hn => rfl); (case hr => first | (go_simp; done) | (go_simp; rfl)); intro w21 hw; have hg : wr.grownBy w21 (some go17) := (by rw [hw]; exact HP20.2); have hp_ : Kd.R (Kd.int .i64) 2 w21 w.heap.size (fun _ => True) (.slice (some ⟨go17, 0, none⟩) x5_1.length co17) y298 := (by rw [hw, Ny298.out]; exact HP20.1); clear HP20; have n0_ := zm (hp_); have n1_ := zm ((by rw [hw]; exact zk (HB.out) GB17.out : Below w.heap.size w w21)); clear HO_5; clear HB; have HO_5 := n0_; have HB := n1_; clear n0_ n1_; clear hg hw hp_; have p19 : 0 ≤ ((ji11) : Int) := of_decide_eq_true (by first | (with_reducible assumption) | assumption); have q19 : ((ji11) : Int) < ((x5_1.length : Int) : Int) := of_decide_eq_true (by first | (with_reducible assumption) | assumption); obtain ⟨hx19_0, hf19_0⟩ := Kd.R_celln 0 HO_5.out ((ji11) : Int) p19 q19; replace p19 := eq_true p19; replace q19 := eq_true q19; obtain ⟨hy22_, hz22_⟩ := Kd.R_celln 0 HO_5.out ((ji11) : Int) (of_decide_eq_true (by first | (with_reducible assumption) | assumption)) (of_decide_eq_true (by first | (with_reducible assumption) | assumption)); have HP22 := Kd.R_putg HO_5.out ((ji11) : Int) (wrap64 ((rd l0 (ji11)) + t297))) | ((with_reducible refine gate_store (t := 2) (p := 51) rfl ?_); (try (rw [drewN_self w21]; generalize hq_ : World.drewN w21 _ = w21; have n0_ := zm (Kd.R_at hq_ HO_5.out); have n1_ := zm (below_at hq_ HB.out); clear hq_ HO_5 HB; have HO_5 := n0_; have HB := n1_; clear n0_ n1_; (try (obtain ⟨hy22_, hz22_⟩ := Kd.R_celln 0 HO_5.out ((ji11) : Int) (of_decide_eq_true (by first | (with_reducible assumption) | assumption)) (of_decide_eq_true (by first | (with_reducible assumption) | assumption)))); (try (have HP22 := Kd.R_putg HO_5.out ((ji11) : Int) (wrap64 ((rd l0 (ji11)) + t297)))))); refine store_event (t := 2) (p := 51) (v := ?vo_w23) (w1 := (w21.setCell ⟨go17, ((ji11) : Int).toNat, none⟩ (.int .i64 (wrap64 ((rd l0 (ji11)) + t297))))) ?hg ?ho ?hn ?hr ?_; (case ho => rfl); (case hg => rfl); (case hn => rfl); (case hr => first | (go_simp; done) | (go_simp; rfl)); intro w23 hw; have hg : w21.grownBy w23 (some go17) := (by rw [hw]; exact HP22.2); have hp_ : Kd.R (Kd.int .i64) 2 w23 w.heap.size (fun _ => True) (.slice (some ⟨go17, 0, none⟩) x5_1.length co17) y299 := (by rw [hw, Ny299.out]; exact HP22.1); clear HP22; have n0_ := zm (hp_); have n1_ := zm ((by rw [hw]; exact zk (HB.out) GB17.out : Below w.heap.size w w23)); clear HO_5; clear HB; have HO_5 := n0_; have HB := n1_; clear n0_ n1_; clear hg hw hp_))
           repeat (go_quiet (first | (go_at_call 31; (with_reducible refine (psalteryref09_part.calls k1 (rd l0 (ji11)) x6_1 t296 _ A14.out).mono ?_); rintro e w' ⟨rfl, ⟨nd, rfl⟩⟩; (try first | exact ⟨rfl, _, World.drewN_drewN _ _ _⟩ | exact ⟨rfl, _, Eq.trans (World.drewN_drewN _ _ _) (congrArg (World.drewN _) (Nat.add_assoc _ _ _))⟩)) | (go_at_call 31; (with_reducible refine (psalteryref09_part.calls k1 (wrap64 ((rd l0 (ji8)) - t296)) x6_1 t297 _ A15.out).mono ?_); rintro e w' ⟨rfl, ⟨nd, rfl⟩⟩; (try first | exact ⟨rfl, _, World.drewN_drewN _ _ _⟩ | exact ⟨rfl, _, Eq.trans (World.drewN_drewN _ _ _) (congrArg (World.drewN _) (Nat.add_assoc _ _ _))⟩); have p17 : 0 ≤ ((ji8) : Int) := of_decide_eq_true (by first | (with_reducible assumption) | assumption); have q17 : ((ji8) : Int) < ((x5_1.length : Int) : Int) := of_decide_eq_true (by first | (with_reducible assumption) | assumption); obtain ⟨go17, co17, eo17, gb17, gl17, cl17, HG17⟩ := Kd.R_form HO_5.out (by omega); (first | cases eo17 | (injection eo17 with ea_ en_ ec_; (first | subst ea_ | (injection ea_ with ea_; subst ea_)); subst ec_; clear en_)); have GB17 := zm gb17; have GG17 := zm HG17; clear gb17 gl17 HG17; obtain ⟨hx17_0, hf17_0⟩ := Kd.R_celln 0 HO_5.out ((ji8) : Int) p17 q17; replace p17 := eq_true p17; replace q17 := eq_true q17; obtain ⟨hy20_, hz20_⟩ := Kd.R_celln 0 HO_5.out ((ji8) : Int) (of_decide_eq_true (by first | (with_reducible assumption) | assumption)) (of_decide_eq_true (by first | (with_reducible assumption) | assumption)); have HP20 := Kd.R_putg HO_5.out ((ji8) : Int) (wrap64 ((rd l0 (ji8)) - t296))) | ((with_reducible refine gate_store (t := 2) (p := 45) rfl ?_); (try (rw [drewN_self wr]; generalize hq_ : World.drewN wr _ = wr; have n0_ := zm (Kd.R_at hq_ HO_5.out); have n1_ := zm (below_at hq_ HB.out); clear hq_ HO_5 HB; have HO_5 := n0_; have HB := n1_; clear n0_ n1_; (try (obtain ⟨hy20_, hz20_⟩ := Kd.R_celln 0 HO_5.out ((ji8) : Int) (of_decide_eq_true (by first | (with_reducible assumption) | assumption)) (of_decide_eq_true (by first | (with_reducible assumption) | assumption)))); (try (have HP20 := Kd.R_putg HO_5.out ((ji8) : Int) (wrap64 ((rd l0 (ji8)) - t296)))))); refine store_event (t := 2) (p := 45) (v := ?vo_w21) (w1 := (wr.setCell ⟨go17, ((ji8) : Int).toNat, none⟩ (.int .i64 (wrap64 ((rd l0 (ji8)) - t296))))) ?hg ?ho ?hn ?hr ?_; (case ho => rfl); (case hg => rfl); (case hn => rfl); (case hr => first | (go_simp; done) | (go_simp; rfl)); intro w21 hw; have hg : wr.grownBy w21 (some go17) := (by rw [hw]; exact HP20.2); have hp_ : Kd.R (Kd.int .i64) 2 w21 w.heap.size (fun _ => True) (.slice (some ⟨go17, 0, none⟩) x5_1.length co17) y298 := (by rw [hw, Ny298.out]; exact HP20.1); clear HP20; have n0_ := zm (hp_); have n1_ := zm ((by rw [hw]; exact zk (HB.out) GB17.out : Below w.heap.size w w21)); clear HO_5; clear HB; have HO_5 := n0_; have HB := n1_; clear n0_ n1_; clear hg hw hp_; have p19 : 0 ≤ ((ji11) : Int) := of_decide_eq_true (by first | (with_reducible assumption) | assumption); have q19 : ((ji11) : Int) < ((x5_1.length : Int) : Int) := of_decide_eq_true (by first | (with_reducible assumption) | assumption); obtain ⟨hx19_0, hf19_0⟩ := Kd.R_celln 0 HO_5.out ((ji11) : Int) p19 q19; replace p19 := eq_true p19; replace q19 := eq_true q19; obtain ⟨hy22_, hz22_⟩ := Kd.R_celln 0 HO_5.out ((ji11) : Int) (of_decide_eq_true (by first | (with_reducible assumption) | assumption)) (of_decide_eq_true (by first | (with_reducible assumption) | assumption)); have HP22 := Kd.R_putg HO_5.out ((ji11) : Int) (wrap64 ((rd l0 (ji11)) + t297))) | ((with_reducible refine gate_store (t := 2) (p := 51) rfl ?_); (try (rw [drewN_self w21]; generalize hq_ : World.drewN w21 _ = w21; have n0_ := zm (Kd.R_at hq_ HO_5.out); have n1_ := zm (below_at hq_ HB.out); clear hq_ HO_5 HB; have HO_5 := n0_; have HB := n1_; clear n0_ n1_; (try (obtain ⟨hy22_, hz22_⟩ := Kd.R_celln 0 HO_5.out ((ji11) : Int) (of_decide_eq_true (by first | (with_reducible assumption) | assumption)) (of_decide_eq_true (by first | (with_reducible assumption) | assumption)))); (try (have HP22 := Kd.R_putg HO_5.out ((ji11) : Int) (wrap64 ((rd l0 (ji11)) + t297)))))); refine store_event (t := 2) (p := 51) (v := ?vo_w23) (w1 := (w21.setCell ⟨go17, ((ji11) : Int).toNat, none⟩ (.int .i64 (wrap64 ((rd l0 (ji11)) + t297))))) ?hg ?ho ?hn ?hr ?_; (case ho => rfl); (case hg => rfl); (case hn => rfl); (case hr => first | (go_simp; done) | (go_simp; rfl)); intro w23 hw; have hg : w21.grownBy w23 (some go17) := (by rw [hw]; exact HP22.2); have hp_ : Kd.R (Kd.int .i64) 2 w23 w.heap.size (fun _ => True) (.slice (some ⟨go17, 0, none⟩) x5_1.length co17) y299 := (by rw [hw, Ny299.out]; exact HP22.1); clear HP22; have n0_ := zm (hp_); have n1_ := zm ((by rw [hw]; exact zk (HB.out) GB17.out : Below w.heap.size w w23)); clear HO_5; clear HB; have HO_5 := n0_; have HB := n1_; clear n0_ n1_; clear hg hw hp_)); try go_wp2_with (first | (go_at_call 31; (with_reducible refine (psalteryref09_part.calls k1 (rd l0 (ji11)) x6_1 t296 _ A14.out).mono ?_); rintro e w' ⟨rfl, ⟨nd, rfl⟩⟩; (try first | exact ⟨rfl, _, World.drewN_drewN _ _ _⟩ | exact ⟨rfl, _, Eq.trans (World.drewN_drewN _ _ _) (congrArg (World.drewN _) (Nat.add_assoc _ _ _))⟩)) | (go_at_call 31; (with_reducible refine (psalteryref09_part.calls k1 (wrap64 ((rd l0 (ji8)) - t296)) x6_1 t297 _ A15.out).mono ?_); rintro e w' ⟨rfl, ⟨nd, rfl⟩⟩; (try first | exact ⟨rfl, _, World.drewN_drewN _ _ _⟩ | exact ⟨rfl, _, Eq.trans (World.drewN_drewN _ _ _) (congrArg (World.drewN _) (Nat.add_assoc _ _ _))⟩); have p17 : 0 ≤ ((ji8) : Int) := of_decide_eq_true (by first | (with_reducible assumption) | assumption); have q17 : ((ji8) : Int) < ((x5_1.length : Int) : Int) := of_decide_eq_true (by first | (with_reducible assumption) | assumption); obtain ⟨go17, co17, eo17, gb17, gl17, cl17, HG17⟩ := Kd.R_form HO_5.out (by omega); (first | cases eo17 | (injection eo17 with ea_ en_ ec_; (first | subst ea_ | (injection ea_ with ea_; subst ea_)); subst ec_; clear en_)); have GB17 := zm gb17; have GG17 := zm HG17; clear gb17 gl17 HG17; obtain ⟨hx17_0, hf17_0⟩ := Kd.R_celln 0 HO_5.out ((ji8) : Int) p17 q17; replace p17 := eq_true p17; replace q17 := eq_true q17; obtain ⟨hy20_, hz20_⟩ := Kd.R_celln 0 HO_5.out ((ji8) : Int) (of_decide_eq_true (by first | (with_reducible assumption) | assumption)) (of_decide_eq_true (by first | (with_reducible assumption) | assumption)); have HP20 := Kd.R_putg HO_5.out ((ji8) : Int) (wrap64 ((rd l0 (ji8)) - t296))) | ((with_reducible refine gate_store (t := 2) (p := 45) rfl ?_); (try (rw [drewN_self wr]; generalize hq_ : World.drewN wr _ = wr; have n0_ := zm (Kd.R_at hq_ HO_5.out); have n1_ := zm (below_at hq_ HB.out); clear hq_ HO_5 HB; have HO_5 := n0_; have HB := n1_; clear n0_ n1_; (try (obtain ⟨hy20_, hz20_⟩ := Kd.R_celln 0 HO_5.out ((ji8) : Int) (of_decide_eq_true (by first | (with_reducible assumption) | assumption)) (of_decide_eq_true (by first | (with_reducible assumption) | assumption)))); (try (have HP20 := Kd.R_putg HO_5.out ((ji8) : Int) (wrap64 ((rd l0 (ji8)) - t296)))))); refine store_event (t := 2) (p := 45) (v := ?vo_w21) (w1 := (wr.setCell ⟨go17, ((ji8) : Int).toNat, none⟩ (.int .i64 (wrap64 ((rd l0 (ji8)) - t296))))) ?hg ?ho ?hn ?hr ?_; (case ho => rfl); (case hg => rfl); (case hn => rfl); (case hr => first | (go_simp; done) | (go_simp; rfl)); intro w21 hw; have hg : wr.grownBy w21 (some go17) := (by rw [hw]; exact HP20.2); have hp_ : Kd.R (Kd.int .i64) 2 w21 w.heap.size (fun _ => True) (.slice (some ⟨go17, 0, none⟩) x5_1.length co17) y298 := (by rw [hw, Ny298.out]; exact HP20.1); clear HP20; have n0_ := zm (hp_); have n1_ := zm ((by rw [hw]; exact zk (HB.out) GB17.out : Below w.heap.size w w21)); clear HO_5; clear HB; have HO_5 := n0_; have HB := n1_; clear n0_ n1_; clear hg hw hp_; have p19 : 0 ≤ ((ji11) : Int) := of_decide_eq_true (by first | (with_reducible assumption) | assumption); have q19 : ((ji11) : Int) < ((x5_1.length : Int) : Int) := of_decide_eq_true (by first | (with_reducible assumption) | assumption); obtain ⟨hx19_0, hf19_0⟩ := Kd.R_celln 0 HO_5.out ((ji11) : Int) p19 q19; replace p19 := eq_true p19; replace q19 := eq_true q19; obtain ⟨hy22_, hz22_⟩ := Kd.R_celln 0 HO_5.out ((ji11) : Int) (of_decide_eq_true (by first | (with_reducible assumption) | assumption)) (of_decide_eq_true (by first | (with_reducible assumption) | assumption)); have HP22 := Kd.R_putg HO_5.out ((ji11) : Int) (wrap64 ((rd l0 (ji11)) + t297))) | ((with_reducible refine gate_store (t := 2) (p := 51) rfl ?_); (try (rw [drewN_self w21]; generalize hq_ : World.drewN w21 _ = w21; have n0_ := zm (Kd.R_at hq_ HO_5.out); have n1_ := zm (below_at hq_ HB.out); clear hq_ HO_5 HB; have HO_5 := n0_; have HB := n1_; clear n0_ n1_; (try (obtain ⟨hy22_, hz22_⟩ := Kd.R_celln 0 HO_5.out ((ji11) : Int) (of_decide_eq_true (by first | (with_reducible assumption) | assumption)) (of_decide_eq_true (by first | (with_reducible assumption) | assumption)))); (try (have HP22 := Kd.R_putg HO_5.out ((ji11) : Int) (wrap64 ((rd l0 (ji11)) + t297)))))); refine store_event (t := 2) (p := 51) (v := ?vo_w23) (w1 := (w21.setCell ⟨go17, ((ji11) : Int).toNat, none⟩ (.int .i64 (wrap64 ((rd l0 (ji11)) + t297))))) ?hg ?ho ?hn ?hr ?_; (case ho => rfl); (case hg => rfl); (case hn => rfl); (case hr => first | (go_simp; done) | (go_simp; rfl)); intro w23 hw; have hg : w21.grownBy w23 (some go17) := (by rw [hw]; exact HP22.2); have hp_ : Kd.R (Kd.int .i64) 2 w23 w.heap.size (fun _ => True) (.slice (some ⟨go17, 0, none⟩) x5_1.length co17) y299 := (by rw [hw, Ny299.out]; exact HP22.1); clear HP22; have n0_ := zm (hp_); have n1_ := zm ((by rw [hw]; exact zk (HB.out) GB17.out : Below w.heap.size w w23)); clear HO_5; clear HB; have HO_5 := n0_; have HB := n1_; clear n0_ n1_; clear hg hw hp_)))
           go_roundg k1
           case measure => have := HK1.out; omega
           case rel => exact ⟨(y299), (wrap64 (x6_1 + 1)), (by first | rfl | (simp; done) | (simp [*]; done)), H', ⟨by have := HK1.out; omega⟩, ⟨by (with_reducible repeat (first | apply zo | apply zp | apply zq)); exact HO_5.out⟩, ⟨by repeat (first | (with_reducible first | exact HB.out | apply ze | apply zd | apply zf) | exact HB.out)⟩⟩
          ·
           rw [if_neg c18] at H
           exact absurd H (by simp)
         ·
          rw [if_neg c16] at H
          exact absurd H (by simp)
        ·
         rw [if_neg c13] at H
         exact absurd H (by simp)
       ·
        rw [if_neg c12] at H
        exact absurd H (by simp)
      ·
       rw [if_neg c10] at H
       exact absurd H (by simp)
     ·
      rw [if_neg c9] at H
      exact absurd H (by simp)
    ·
     rw [if_neg c7] at H
     have c7b0 : decide (x6_1 < 4) = false := decide_eq_false c7
     clear c7
     obtain rfl := Option.some.inj H
     go_wp2
     repeat (go_quiet (fail); try go_wp2)
     go_ret
     exact ⟨_, by first | rfl | (simp [errW_none, errW_some] <;> rfl) | (simp [*, errW_none, errW_some] <;> rfl), by (with_reducible repeat (first | apply zo | apply zp | apply zq)); exact HO_5.out, by repeat (first | (with_reducible first | exact HB.out | apply ze | apply zd | apply zf) | exact HB.out)⟩
 ·
  rw [if_neg c3] at H
  exact absurd H (by simp)

end Go.Proofs.YtllchhcdpfiodaaDoor.Prt

namespace Go.Proofs.YtllchhcdpfiodaaDoor.Prt
open Go.RowKit Go.Proofs.YtllchhcdpfiodaaDoorW.PrintWords Go.Proofs.YtllchhcdpfiodaaDoorW.PrintLast Go.Proofs.YtllchhcdpfiodaaDoorW.PrintMore
attribute [local go_sem] max2_int min2_int max_two min_two max_three min_three max_four min_four   -- for this text's walks alone
set_option linter.unusedVariables false
set_option linter.unusedSimpArgs false

/-! ### psalteryref09_Border: function 15 -/
def psalteryref09_Border.f (l0 : List Int) (a1 : Int) : Option (Bool) := if a1 ≥ 4 then (if a1 ≤ (l0.length : Int) then (some (decide ((wrap64 ((l0.length : Int) - a1)) ≥ 4))) else (some false)) else (some false)
set_option maxHeartbeats 8000000 in
set_option maxRecDepth 100000 in
theorem psalteryref09_Border.calls (A0 : Option Addr) (c0 : Nat) (l0 : List Int) (a1 : Int) (r : Bool) (w : World) (hr0 : Kd.C (Kd.int .i64) w A0 l0.length l0) (hc0 : l0.length ≤ c0) (h : psalteryref09_Border.f l0 a1 = some r) :
  Calls Tryd.prog 15 #[.slice A0 l0.length c0, .int .i64 a1] w fun e w' => e = .returned (.bool r) ∧ Drawn0 w w' := by
 have HR0 := zm hr0
 have HC0 := zm hc0
 clear hr0 hc0
 have H : (if a1 ≥ 4 then (if a1 ≤ (l0.length : Int) then (some (decide ((wrap64 ((l0.length : Int) - a1)) ≥ 4))) else (some false)) else (some false)) = some r := h
 clear h
 by_cases c3 : a1 ≥ 4
 ·
  rw [if_pos c3] at H
  have c3b0 : decide (4 ≤ a1) = true := decide_eq_true c3
  clear c3
  by_cases c4 : a1 ≤ (l0.length : Int)
  ·
   rw [if_pos c4] at H
   have c4b0 : decide (a1 ≤ (l0.length : Int)) = true := decide_eq_true c4
   clear c4
   obtain rfl := Option.some.inj H
   go_enter Tryd.func15, Tryd.ntmps15
   go_wp2
   go_ret
   exact ⟨by first | rfl | (simp; done) | (simp [*]; done), by repeat (first | exact Drawn0.refl _ | apply Drawn0.step)⟩
  ·
   rw [if_neg c4] at H
   have c4b0 : decide (a1 ≤ (l0.length : Int)) = false := decide_eq_false c4
   clear c4
   obtain rfl := Option.some.inj H
   go_enter Tryd.func15, Tryd.ntmps15
   go_wp2
   go_ret
   exact ⟨by first | rfl | (simp; done) | (simp [*]; done), by repeat (first | exact Drawn0.refl _ | apply Drawn0.step)⟩
 ·
  rw [if_neg c3] at H
  have c3b0 : decide (4 ≤ a1) = false := decide_eq_false c3
  clear c3
  obtain rfl := Option.some.inj H
  go_enter Tryd.func15, Tryd.ntmps15
  go_wp2
  go_ret
  exact ⟨by first | rfl | (simp; done) | (simp [*]; done), by repeat (first | exact Drawn0.refl _ | apply Drawn0.step)⟩

end Go.Proofs.YtllchhcdpfiodaaDoor.Prt

namespace Go.Proofs.YtllchhcdpfiodaaDoor.Prt
open Go.RowKit Go.Proofs.YtllchhcdpfiodaaDoorW.PrintWords Go.Proofs.YtllchhcdpfiodaaDoorW.PrintLast Go.Proofs.YtllchhcdpfiodaaDoorW.PrintMore
attribute [local go_sem] max2_int min2_int max_two min_two max_three min_three max_four min_four   -- for this text's walks alone
set_option linter.unusedVariables false
set_option linter.unusedSimpArgs false

/-! ### psalteryref09_Within: function 13 -/
def psalteryref09_Within.l0 : Nat → List Int → Int → Bool → Int → Option (Bool)
 | 0, _, _, _, _ => none
 | k + 1, x0, x1, x5, x6 => if x6 < (x0.length : Int) then (if x5 = true then (if 0 ≤ x6 then (if (rd x0 x6) ≥ (wrap64 (-x1)) then (psalteryref09_Within.l0 k x0 x1 (decide ((rd x0 x6) ≤ x1)) (wrap64 (x6 + 1))) else (psalteryref09_Within.l0 k x0 x1 false (wrap64 (x6 + 1)))) else (none)) else (psalteryref09_Within.l0 k x0 x1 false (wrap64 (x6 + 1)))) else (some x5)
def psalteryref09_Within.f (k : Nat) (l0 : List Int) (a1 : Int) : Option (Bool) := psalteryref09_Within.l0 k l0 a1 (decide ((l0.length : Int) ≤ 4000)) 0
theorem psalteryref09_Within.mono_l : ∀ k, (∀ y0 y1 y2 y3, LeO (psalteryref09_Within.l0 k y0 y1 y2 y3) (psalteryref09_Within.l0 (k + 1) y0 y1 y2 y3))
 | 0 => fun _ _ _ _ r h => by simp [psalteryref09_Within.l0] at h
 | k + 1 => by
  have ih0 := psalteryref09_Within.mono_l k
  ·
   intro y0 y1 y2 y3
   unfold psalteryref09_Within.l0
   repeat' first
   | (with_reducible exact ih0 _ _ _ _)
   | (with_reducible exact LeO.refl _)
   | (with_reducible exact LeO.none _)
   | (with_reducible refine LeO.ite ?_ ?_)
   | (with_reducible refine LeO.bind ?_ (fun _ => ?_))
   | exact ih0 _ _ _ _
   | exact LeO.none _
   | refine LeO.ite ?_ ?_
   | refine LeO.bind ?_ (fun _ => ?_)
theorem psalteryref09_Within.mono : ∀ a0 a1 k, LeO (psalteryref09_Within.f k a0 a1) (psalteryref09_Within.f (k + 1) a0 a1) := by
 intro a0 a1 k
 have ih0 := psalteryref09_Within.mono_l k
 unfold psalteryref09_Within.f
 repeat' first
   | (with_reducible exact ih0 _ _ _ _)
   | (with_reducible exact LeO.refl _)
   | (with_reducible exact LeO.none _)
   | (with_reducible refine LeO.ite ?_ ?_)
   | (with_reducible refine LeO.bind ?_ (fun _ => ?_))
   | exact ih0 _ _ _ _
   | exact LeO.none _
   | refine LeO.ite ?_ ?_
   | refine LeO.bind ?_ (fun _ => ?_)
set_option maxHeartbeats 8000000 in
set_option maxRecDepth 100000 in
theorem psalteryref09_Within.calls (k : Nat) (A0 : Option Addr) (c0 : Nat) (l0 : List Int) (a1 : Int) (r : Bool) (w : World) (hr0 : Kd.C (Kd.int .i64) w A0 l0.length l0) (hc0 : l0.length ≤ c0) (h : psalteryref09_Within.f k l0 a1 = some r) :
  Calls Tryd.prog 13 #[.slice A0 l0.length c0, .int .i64 a1] w fun e w' => e = .returned (.bool r) ∧ Drawn0 w w' := by
 have HR0 := zm hr0
 have HC0 := zm hc0
 clear hr0 hc0
 have H : (psalteryref09_Within.l0 k l0 a1 (decide ((l0.length : Int) ≤ 4000)) 0) = some r := h
 clear h
 have H' := zm H
 clear H
 go_enter Tryd.func13, Tryd.ntmps13
 go_wp2
 go_loopg [5, 6] k (fun kq v5 v6 w' => ∃ (x5_1 : Bool) (x6_1 : Int), v5 = .bool x5_1 ∧ v6 = .int .i64 x6_1 ∧ Aside0 (psalteryref09_Within.l0 kq l0 a1 x5_1 x6_1 = some r) ∧ Aside0 (kq ≤ k) ∧ Drawn0 w w')
 case atStart => exact ⟨(decide ((l0.length : Int) ≤ 4000)), (0), (by first | rfl | (simp; done) | (simp [*]; done)), (by first | rfl | (simp; done) | (simp [*]; done)), H', ⟨Nat.le_refl _⟩, by repeat (first | exact Drawn0.refl _ | apply Drawn0.step)⟩
 case round =>
  clear H'
  try clear c1
  try clear p2
  obtain ⟨x5_1, x6_1, rfl, rfl, HA, HK1, ⟨m1, rfl⟩⟩ := hrel
  cases gk with
  | zero => exact absurd HA.out (by simp [psalteryref09_Within.l0])
  | succ k1 =>
   have H := HA.out
   clear HA
   simp only [psalteryref09_Within.l0] at H
   by_cases c3 : x6_1 < (l0.length : Int)
   ·
    rw [if_pos c3] at H
    have c3b0 : decide (x6_1 < (l0.length : Int)) = true := decide_eq_true c3
    clear c3
    by_cases c4 : x5_1 = true
    ·
     subst c4
     have H1 : (if 0 ≤ x6_1 then (if (rd l0 x6_1) ≥ (wrap64 (-a1)) then (psalteryref09_Within.l0 k1 l0 a1 (decide ((rd l0 x6_1) ≤ a1)) (wrap64 (x6_1 + 1))) else (psalteryref09_Within.l0 k1 l0 a1 false (wrap64 (x6_1 + 1)))) else (none)) = some r := by rw [if_pos rfl] at H; exact H
     clear H
     have H := H1
     clear H1
     by_cases c5 : 0 ≤ x6_1
     ·
      rw [if_pos c5] at H
      have c5b0 : decide (0 ≤ x6_1) = true := decide_eq_true c5
      clear c5
      by_cases c6 : (rd l0 x6_1) ≥ (wrap64 (-a1))
      ·
       rw [if_pos c6] at H
       have c6b0 : decide ((wrap64 (-a1)) ≤ (rd l0 x6_1)) = true := decide_eq_true c6
       clear c6
       have H' := zm H
       clear H
       have p258 : 0 ≤ (x6_1 : Int) := of_decide_eq_true (by first | (with_reducible assumption) | assumption)
       have q258 : x6_1 < (l0.length : Int) := of_decide_eq_true (by first | (with_reducible assumption) | assumption)
       obtain ⟨ad258, e258, hx258_0⟩ := Kd.at_int HR0.out x6_1 p258 q258
       cases e258
       replace p258 := eq_true p258
       replace q258 := eq_true q258
       have p259 : 0 ≤ (x6_1 : Int) := of_decide_eq_true (by first | (with_reducible assumption) | assumption)
       have q259 : x6_1 < (l0.length : Int) := of_decide_eq_true (by first | (with_reducible assumption) | assumption)
       obtain ⟨ad259, e259, hx259_0⟩ := Kd.at_int HR0.out x6_1 p259 q259
       obtain rfl : ad258 = ad259 := (by injection e259)
       replace p259 := eq_true p259
       replace q259 := eq_true q259
       go_wp2
       go_roundg k1
       case measure => have := HK1.out; omega
       case rel => exact ⟨(decide ((rd l0 x6_1) ≤ a1)), (wrap64 (x6_1 + 1)), (by first | rfl | (simp; done) | (simp [*]; done)), (by first | rfl | (simp; done) | (simp [*]; done)), H', ⟨by have := HK1.out; omega⟩, by repeat (first | exact Drawn0.refl _ | apply Drawn0.step)⟩
      ·
       rw [if_neg c6] at H
       have c6b0 : decide ((wrap64 (-a1)) ≤ (rd l0 x6_1)) = false := decide_eq_false c6
       clear c6
       have H' := zm H
       clear H
       have p258 : 0 ≤ (x6_1 : Int) := of_decide_eq_true (by first | (with_reducible assumption) | assumption)
       have q258 : x6_1 < (l0.length : Int) := of_decide_eq_true (by first | (with_reducible assumption) | assumption)
       obtain ⟨ad258, e258, hx258_0⟩ := Kd.at_int HR0.out x6_1 p258 q258
       cases e258
       replace p258 := eq_true p258
       replace q258 := eq_true q258
       go_wp2
       go_roundg k1
       case measure => have := HK1.out; omega
       case rel => exact ⟨(false), (wrap64 (x6_1 + 1)), (by first | rfl | (simp; done) | (simp [*]; done)), (by first | rfl | (simp; done) | (simp [*]; done)), H', ⟨by have := HK1.out; omega⟩, by repeat (first | exact Drawn0.refl _ | apply Drawn0.step)⟩
     ·
      rw [if_neg c5] at H
      exact absurd H (by simp)
    ·
     replace c4 := Bool.eq_false_iff.mpr c4
     subst c4
     have H1 : (psalteryref09_Within.l0 k1 l0 a1 false (wrap64 (x6_1 + 1))) = some r := by rw [if_neg (show ¬ (false = true) by decide)] at H; exact H
     clear H
     have H := H1
     clear H1
     have H' := zm H
     clear H
     go_wp2
     go_roundg k1
     case measure => have := HK1.out; omega
     case rel => exact ⟨(false), (wrap64 (x6_1 + 1)), (by first | rfl | (simp; done) | (simp [*]; done)), (by first | rfl | (simp; done) | (simp [*]; done)), H', ⟨by have := HK1.out; omega⟩, by repeat (first | exact Drawn0.refl _ | apply Drawn0.step)⟩
   ·
    rw [if_neg c3] at H
    have c3b0 : decide (x6_1 < (l0.length : Int)) = false := decide_eq_false c3
    clear c3
    obtain rfl := Option.some.inj H
    go_wp2
    go_ret
    exact ⟨by first | rfl | (simp; done) | (simp [*]; done), by repeat (first | exact Drawn0.refl _ | apply Drawn0.step)⟩

end Go.Proofs.YtllchhcdpfiodaaDoor.Prt

namespace Go.Proofs.YtllchhcdpfiodaaDoor.Prt
open Go.RowKit Go.Proofs.YtllchhcdpfiodaaDoorW.PrintWords Go.Proofs.YtllchhcdpfiodaaDoorW.PrintLast Go.Proofs.YtllchhcdpfiodaaDoorW.PrintMore
attribute [local go_sem] max2_int min2_int max_two min_two max_three min_three max_four min_four   -- for this text's walks alone
set_option linter.unusedVariables false
set_option linter.unusedSimpArgs false

/-! ### psalterylaw09_LapBacks: function 4 -/
def psalterylaw09_LapBacks.j0 : Nat → List Int → Int → List Int → Int → Bool → Option (Bool)
 | 0, _, _, _, _, _ => none
 | k + 1, x0, x1, x5, x6, x24 => if x24 = true then (if (x5.length : Int) = 0 then (if x6 = 1 then ((psalterylaw09_knows.f k).bind fun t308 => (some t308)) else (none)) else (none)) else ((psalteryref09_Back.f k x0 x1).bind fun t309 => ((psalteryref07_Same.f k x5 t309).bind fun t312 => (if t312 = true then (if x6 = 0 then ((psalterylaw09_knows.f k).bind fun t313 => (some t313)) else (none)) else (none))))
def psalterylaw09_LapBacks.f (k : Nat) (l0 : List Int) (a1 : Int) : Option (Bool) := (psalterylaw09_great.f l0).bind fun t300 => (if t300 = true then ((psalterylaw09_knows.f k).bind fun t301 => (some t301)) else ((lap_Back.f k l0 a1).bind fun bt302 => ((psalteryref09_Within.f k l0 1048576).bind fun t306 => (if t306 = true then ((psalteryref09_Border.f l0 a1).bind fun t307 => (psalterylaw09_LapBacks.j0 k l0 a1 bt302.1 bt302.2 (!t307))) else (psalterylaw09_LapBacks.j0 k l0 a1 bt302.1 bt302.2 true)))))
theorem psalterylaw09_LapBacks.mono_l : ∀ k, (∀ y0 y1 y2 y3 y4, LeO (psalterylaw09_LapBacks.j0 k y0 y1 y2 y3 y4) (psalterylaw09_LapBacks.j0 (k + 1) y0 y1 y2 y3 y4))
 | 0 => fun _ _ _ _ _ r h => by simp [psalterylaw09_LapBacks.j0] at h
 | k + 1 => by
  have ih0 := psalterylaw09_LapBacks.mono_l k
  ·
   intro y0 y1 y2 y3 y4
   unfold psalterylaw09_LapBacks.j0
   repeat' first
   | (with_reducible exact ih0 _ _ _ _ _)
   | (with_reducible exact lap_Back.mono _ _ _)
   | (with_reducible exact psalterylaw09_knows.mono _)
   | (with_reducible exact psalteryref07_Same.mono _ _ _)
   | (with_reducible exact psalteryref09_Back.mono _ _ _)
   | (with_reducible exact psalteryref09_Within.mono _ _ _)
   | (with_reducible exact LeO.refl _)
   | (with_reducible exact LeO.none _)
   | (with_reducible refine LeO.ite ?_ ?_)
   | (with_reducible refine LeO.bind ?_ (fun _ => ?_))
   | exact ih0 _ _ _ _ _
   | exact lap_Back.mono _ _ _
   | exact psalterylaw09_knows.mono _
   | exact psalteryref07_Same.mono _ _ _
   | exact psalteryref09_Back.mono _ _ _
   | exact psalteryref09_Within.mono _ _ _
   | exact LeO.none _
   | refine LeO.ite ?_ ?_
   | refine LeO.bind ?_ (fun _ => ?_)
theorem psalterylaw09_LapBacks.mono : ∀ a0 a1 k, LeO (psalterylaw09_LapBacks.f k a0 a1) (psalterylaw09_LapBacks.f (k + 1) a0 a1) := by
 intro a0 a1 k
 have ih0 := psalterylaw09_LapBacks.mono_l k
 unfold psalterylaw09_LapBacks.f
 repeat' first
   | (with_reducible exact ih0 _ _ _ _ _)
   | (with_reducible exact lap_Back.mono _ _ _)
   | (with_reducible exact psalterylaw09_knows.mono _)
   | (with_reducible exact psalteryref07_Same.mono _ _ _)
   | (with_reducible exact psalteryref09_Back.mono _ _ _)
   | (with_reducible exact psalteryref09_Within.mono _ _ _)
   | (with_reducible exact LeO.refl _)
   | (with_reducible exact LeO.none _)
   | (with_reducible refine LeO.ite ?_ ?_)
   | (with_reducible refine LeO.bind ?_ (fun _ => ?_))
   | exact ih0 _ _ _ _ _
   | exact lap_Back.mono _ _ _
   | exact psalterylaw09_knows.mono _
   | exact psalteryref07_Same.mono _ _ _
   | exact psalteryref09_Back.mono _ _ _
   | exact psalteryref09_Within.mono _ _ _
   | exact LeO.none _
   | refine LeO.ite ?_ ?_
   | refine LeO.bind ?_ (fun _ => ?_)
set_option maxHeartbeats 8000000 in
set_option maxRecDepth 100000 in
theorem psalterylaw09_LapBacks.calls (k : Nat) (A0 : Option Addr) (c0 : Nat) (l0 : List Int) (a1 : Int) (r : Bool) (w : World) (hr0 : Kd.C (Kd.int .i64) w A0 l0.length l0) (hc0 : l0.length ≤ c0) (hg : GW w) (h : psalterylaw09_LapBacks.f k l0 a1 = some r) :
  Calls Tryd.prog 4 #[.slice A0 l0.length c0, .int .i64 a1] w fun e w' => e = .returned (.bool r) ∧ Below w.heap.size w w' := by
 have HG := zm hg
 clear hg
 have HR0 := zm hr0
 have HC0 := zm hc0
 clear hr0 hc0
 have HB := zm (Below.refl w.heap.size w)
 have H : ((psalterylaw09_great.f l0).bind fun t300 => (if t300 = true then ((psalterylaw09_knows.f k).bind fun t301 => (some t301)) else ((lap_Back.f k l0 a1).bind fun bt302 => ((psalteryref09_Within.f k l0 1048576).bind fun t306 => (if t306 = true then ((psalteryref09_Border.f l0 a1).bind fun t307 => (psalterylaw09_LapBacks.j0 k l0 a1 bt302.1 bt302.2 (!t307))) else (psalterylaw09_LapBacks.j0 k l0 a1 bt302.1 bt302.2 true)))))) = some r := h
 clear h
 replace H := Option.bind_eq_some_iff.mp H
 obtain ⟨t300, A30, H⟩ := H
 replace H : (if t300 = true then ((psalterylaw09_knows.f k).bind fun t301 => (some t301)) else ((lap_Back.f k l0 a1).bind fun bt302 => ((psalteryref09_Within.f k l0 1048576).bind fun t306 => (if t306 = true then ((psalteryref09_Border.f l0 a1).bind fun t307 => (psalterylaw09_LapBacks.j0 k l0 a1 bt302.1 bt302.2 (!t307))) else (psalterylaw09_LapBacks.j0 k l0 a1 bt302.1 bt302.2 true))))) = some r := H
 have A3 := zm A30
 clear A30
 by_cases c4 : t300 = true
 ·
  subst c4
  have H1 : ((psalterylaw09_knows.f k).bind fun t301 => (some t301)) = some r := by rw [if_pos rfl] at H; exact H
  clear H
  have H := H1
  clear H1
  replace H := Option.bind_eq_some_iff.mp H
  obtain ⟨t301, A50, H⟩ := H
  replace H : (some t301) = some r := H
  have A5 := zm A50
  clear A50
  obtain rfl := Option.some.inj H
  go_enter Tryd.func4, Tryd.ntmps4
  go_wp2_with (first | ((with_reducible refine gate_callee (f := 10) rfl ?_); refine goesL_ (some 8) rfl rfl Tryd.func10 (by kernel_rfl) rfl #[.slice A0 l0.length c0] rfl (by (try simp only [List.map_toArray, List.map_cons, List.map_nil]); first | done | rfl | (simp only [List.length_drop, List.length_take]; rfl)) ?_; (with_reducible refine (psalterylaw09_great.calls _ _ l0 true _ ?side1 ?side2 A3.out).mono ?_); (case side1 => repeat (first | exact HR0.out | (with_reducible refine Kd.C_alloc ?_ _) | (with_reducible refine Kd.C_drewN ?_ _) | (with_reducible refine Kd.C_drew ?_))); (case side2 => exact HC0.out); rintro e w' ⟨rfl, ⟨nd, rfl⟩⟩; refine ⟨_, rfl, ?_⟩) | ((with_reducible refine gate_callee (f := 11) rfl ?_); refine goesL_ (some 9) rfl rfl Tryd.func11 (by kernel_rfl) rfl #[] rfl (by (try simp only [List.map_toArray, List.map_cons, List.map_nil]); first | done | rfl | (simp only [List.length_drop, List.length_take]; rfl)) ?_; (with_reducible refine (psalterylaw09_knows.calls k  t301 _ ?sideg A5.out).mono ?_); (case sideg => exact HG.out.below (by repeat (first | (with_reducible first | exact HB.out | apply ze | apply zd | apply zf) | exact HB.out))); rintro e w6 ⟨rfl, hb⟩; refine ⟨_, rfl, ?_⟩; have n0_ := zm (zJ (by repeat (first | (with_reducible first | exact HB.out | apply ze | apply zd | apply zf) | exact HB.out)) hb); clear HB; have HB := n0_; clear n0_; (try clear hb); (try clear hb2); (try clear hk); (try clear hi)))
  go_ret
  exact ⟨by first | rfl | (simp [errW_none, errW_some] <;> rfl) | (simp [*, errW_none, errW_some] <;> rfl), by repeat (first | (with_reducible first | exact HB.out | apply ze | apply zd | apply zf) | exact HB.out)⟩
 ·
  replace c4 := Bool.eq_false_iff.mpr c4
  subst c4
  have H1 : ((lap_Back.f k l0 a1).bind fun bt302 => ((psalteryref09_Within.f k l0 1048576).bind fun t306 => (if t306 = true then ((psalteryref09_Border.f l0 a1).bind fun t307 => (psalterylaw09_LapBacks.j0 k l0 a1 bt302.1 bt302.2 (!t307))) else (psalterylaw09_LapBacks.j0 k l0 a1 bt302.1 bt302.2 true)))) = some r := by rw [if_neg (show ¬ (false = true) by decide)] at H; exact H
  clear H
  have H := H1
  clear H1
  replace H := Option.bind_eq_some_iff.mp H
  obtain ⟨⟨t302, t303⟩, A70, H⟩ := H
  replace H : ((psalteryref09_Within.f k l0 1048576).bind fun t306 => (if t306 = true then ((psalteryref09_Border.f l0 a1).bind fun t307 => (psalterylaw09_LapBacks.j0 k l0 a1 t302 t303 (!t307))) else (psalterylaw09_LapBacks.j0 k l0 a1 t302 t303 true))) = some r := H
  have A7 := zm A70
  clear A70
  have HC8 := zm H
  clear H
  go_enter Tryd.func4, Tryd.ntmps4
  go_upto_region 4 with (first | ((with_reducible refine gate_callee (f := 10) rfl ?_); refine goesL_ (some 8) rfl rfl Tryd.func10 (by kernel_rfl) rfl #[.slice A0 l0.length c0] rfl (by (try simp only [List.map_toArray, List.map_cons, List.map_nil]); first | done | rfl | (simp only [List.length_drop, List.length_take]; rfl)) ?_; (with_reducible refine (psalterylaw09_great.calls _ _ l0 false _ ?side1 ?side2 A3.out).mono ?_); (case side1 => repeat (first | exact HR0.out | (with_reducible refine Kd.C_alloc ?_ _) | (with_reducible refine Kd.C_drewN ?_ _) | (with_reducible refine Kd.C_drew ?_))); (case side2 => exact HC0.out); rintro e w' ⟨rfl, ⟨nd, rfl⟩⟩; refine ⟨_, rfl, ?_⟩) | ((with_reducible refine gate_callee (f := 18) rfl ?_); refine goesL_ (some 13) rfl rfl Tryd.func18 (by kernel_rfl) rfl #[.slice A0 l0.length c0, .int .i64 a1] rfl (by (try simp only [List.map_toArray, List.map_cons, List.map_nil]); first | done | rfl | (simp only [List.length_drop, List.length_take]; rfl)) ?_; (with_reducible refine (lap_Back.calls k _ _ l0 a1 t302 t303 _ ?side1 ?side2 ?sideg A7.out).mono ?_); (case sideg => exact HG.out.below (by repeat (first | (with_reducible first | exact HB.out | apply ze | apply zd | apply zf) | exact HB.out))); (case side1 => repeat (first | exact HR0.out | (with_reducible refine Kd.C_alloc ?_ _) | (with_reducible refine Kd.C_drewN ?_ _) | (with_reducible refine Kd.C_drew ?_))); (case side2 => exact HC0.out); rintro e w9 ⟨v304, rfl, ho0, hb⟩; refine ⟨_, rfl, ?_⟩; have n0_ := zm (Kd.R_lower ho0 (zE (by repeat (first | (with_reducible first | exact HB.out | apply ze | apply zd | apply zf) | exact HB.out)))); have n1_ := zm (zJ (by repeat (first | (with_reducible first | exact HB.out | apply ze | apply zd | apply zf) | exact HB.out)) hb); clear HB; have HO305 := n0_; have HB := n1_; clear n0_ n1_; (try clear hb); (try clear hb2); (try clear hk); (try clear hi); (try clear ho0)))
  (try simp only [Act.put, List.setIfInBounds_toArray, List.set_cons_zero, List.set_cons_succ])
  go_cut [24] (fun v24 wc => ∃ (kq : Nat) (x24_7 : Bool), v24 = .bool x24_7 ∧ Aside0 (psalterylaw09_LapBacks.j0 kq l0 a1 t302 t303 x24_7 = some r) ∧ Aside0 (kq ≤ k) ∧ Aside0 (Kd.R (Kd.int .i64) 2 wc w.heap.size (fun _ => True) v304 t302) ∧ Aside0 (Below w.heap.size w wc))
  case first =>
   have H := HC8.out
   clear HC8
   replace H := Option.bind_eq_some_iff.mp H
   obtain ⟨t306, A100, H⟩ := H
   replace H : (if t306 = true then ((psalteryref09_Border.f l0 a1).bind fun t307 => (psalterylaw09_LapBacks.j0 k l0 a1 t302 t303 (!t307))) else (psalterylaw09_LapBacks.j0 k l0 a1 t302 t303 true)) = some r := H
   have A10 := zm A100
   clear A100
   by_cases c11 : t306 = true
   ·
    subst c11
    have H1 : ((psalteryref09_Border.f l0 a1).bind fun t307 => (psalterylaw09_LapBacks.j0 k l0 a1 t302 t303 (!t307))) = some r := by rw [if_pos rfl] at H; exact H
    clear H
    have H := H1
    clear H1
    replace H := Option.bind_eq_some_iff.mp H
    obtain ⟨t307, A120, H⟩ := H
    replace H : (psalterylaw09_LapBacks.j0 k l0 a1 t302 t303 (!t307)) = some r := H
    have A12 := zm A120
    clear A120
    have H' := zm H
    clear H
    go_wp2_with (first | ((with_reducible refine gate_callee (f := 13) rfl ?_); refine goesL_ (some 17) rfl rfl Tryd.func13 (by kernel_rfl) rfl #[.slice A0 l0.length c0, .int .i64 1048576] rfl (by (try simp only [List.map_toArray, List.map_cons, List.map_nil]); first | done | rfl | (simp only [List.length_drop, List.length_take]; rfl)) ?_; (with_reducible refine (psalteryref09_Within.calls k _ _ l0 1048576 true _ ?side1 ?side2 A10.out).mono ?_); (case side1 => repeat (first | exact (Kd.C_below HR0.out HB.out) | (with_reducible refine Kd.C_alloc ?_ _) | (with_reducible refine Kd.C_drewN ?_ _) | (with_reducible refine Kd.C_drew ?_))); (case side2 => exact HC0.out); rintro e w' ⟨rfl, ⟨nd, rfl⟩⟩; refine ⟨_, rfl, ?_⟩) | (go_at_call 15; (with_reducible refine (psalteryref09_Border.calls _ _ l0 a1 t307 _ ?side1 ?side2 A12.out).mono ?_); (case side1 => repeat (first | exact (Kd.C_below HR0.out (by repeat (first | (with_reducible first | exact HB.out | apply ze | apply zd | apply zf) | exact HB.out))) | (with_reducible refine Kd.C_alloc ?_ _) | (with_reducible refine Kd.C_drewN ?_ _) | (with_reducible refine Kd.C_drew ?_))); (case side2 => exact HC0.out); rintro e w' ⟨rfl, ⟨nd, rfl⟩⟩))
    go_meet
    case rel => exact ⟨_, (!t307), (by first | rfl | (simp; done) | (simp [*]; done)), H', ⟨by first | omega | exact Nat.le_refl _⟩, ⟨by (with_reducible repeat (first | apply zo | apply zp | apply zq)); exact HO305.out⟩, ⟨by repeat (first | (with_reducible first | exact HB.out | apply ze | apply zd | apply zf) | exact HB.out)⟩⟩
   ·
    replace c11 := Bool.eq_false_iff.mpr c11
    subst c11
    have H1 : (psalterylaw09_LapBacks.j0 k l0 a1 t302 t303 true) = some r := by rw [if_neg (show ¬ (false = true) by decide)] at H; exact H
    clear H
    have H := H1
    clear H1
    have H' := zm H
    clear H
    go_wp2_with (first | ((with_reducible refine gate_callee (f := 13) rfl ?_); refine goesL_ (some 17) rfl rfl Tryd.func13 (by kernel_rfl) rfl #[.slice A0 l0.length c0, .int .i64 1048576] rfl (by (try simp only [List.map_toArray, List.map_cons, List.map_nil]); first | done | rfl | (simp only [List.length_drop, List.length_take]; rfl)) ?_; (with_reducible refine (psalteryref09_Within.calls k _ _ l0 1048576 false _ ?side1 ?side2 A10.out).mono ?_); (case side1 => repeat (first | exact (Kd.C_below HR0.out HB.out) | (with_reducible refine Kd.C_alloc ?_ _) | (with_reducible refine Kd.C_drewN ?_ _) | (with_reducible refine Kd.C_drew ?_))); (case side2 => exact HC0.out); rintro e w' ⟨rfl, ⟨nd, rfl⟩⟩; refine ⟨_, rfl, ?_⟩))
    go_meet
    case rel => exact ⟨_, (true), (by first | rfl | (simp; done) | (simp [*]; done)), H', ⟨by first | omega | exact Nat.le_refl _⟩, ⟨by (with_reducible repeat (first | apply zo | apply zp | apply zq)); exact HO305.out⟩, ⟨by repeat (first | (with_reducible first | exact HB.out | apply ze | apply zd | apply zf) | exact HB.out)⟩⟩
  case rest =>
   clear HC8
   try clear c1
   try clear p2
   try clear c4
   try clear c10
   try clear c11
   obtain ⟨kq, x24_7, rfl, HA, HJ7, HO_5, HB⟩ := hcut
   cases kq with
   | zero => exact absurd HA.out (by simp [psalterylaw09_LapBacks.j0])
   | succ kj7 =>
    have H := HA.out
    clear HA
    simp only [psalterylaw09_LapBacks.j0] at H
    by_cases c13 : x24_7 = true
    ·
     subst c13
     have H1 : (if (t302.length : Int) = 0 then (if t303 = 1 then ((psalterylaw09_knows.f kj7).bind fun t308 => (some t308)) else (none)) else (none)) = some r := by rw [if_pos rfl] at H; exact H
     clear H
     have H := H1
     clear H1
     by_cases c14 : (t302.length : Int) = 0
     ·
      rw [if_pos c14] at H
      have c14b0 : ((t302.length : Int) == 0) = true := beq_iff_eq.mpr c14
      have c14b1 : ((t302.length : Int) != 0) = false := bne_eq_false_iff_eq.mpr c14
      clear c14
      by_cases c15 : t303 = 1
      ·
       rw [if_pos c15] at H
       have c15b0 : (t303 == 1) = true := beq_iff_eq.mpr c15
       have c15b1 : (t303 != 1) = false := bne_eq_false_iff_eq.mpr c15
       clear c15
       replace H := Option.bind_eq_some_iff.mp H
       obtain ⟨t308, A160, H⟩ := H
       replace H : (some t308) = some r := H
       have A16 := zm A160
       clear A160
       obtain rfl := Option.some.inj H
       obtain ⟨Ao17, co17, eo17⟩ := Kd.R_slice HO_5.out
       subst eo17
       go_wp2_with (first | (go_at_call 11; (with_reducible refine (psalterylaw09_knows.calls kj7  t308 _ ?sideg A16.out).mono ?_); (case sideg => exact HG.out.below (by repeat (first | (with_reducible first | exact HB.out | apply ze | apply zd | apply zf) | exact HB.out))); rintro e w18 ⟨rfl, hb⟩; have n0_ := zm (Kd.R_below (by (with_reducible repeat (first | apply zo | apply zp | apply zq)); exact HO_5.out) hb); have n1_ := zm (zJ (by repeat (first | (with_reducible first | exact HB.out | apply ze | apply zd | apply zf) | exact HB.out)) hb); clear HO_5; clear HB; have HO_5 := n0_; have HB := n1_; clear n0_ n1_; (try clear hb); (try clear hb2); (try clear hk); (try clear hi)))
       go_ret
       exact ⟨by first | rfl | (simp [errW_none, errW_some] <;> rfl) | (simp [*, errW_none, errW_some] <;> rfl), by repeat (first | (with_reducible first | exact HB.out | apply ze | apply zd | apply zf) | exact HB.out)⟩
      ·
       rw [if_neg c15] at H
       exact absurd H (by simp)
     ·
      rw [if_neg c14] at H
      exact absurd H (by simp)
    ·
     replace c13 := Bool.eq_false_iff.mpr c13
     subst c13
     have H1 : ((psalteryref09_Back.f kj7 l0 a1).bind fun t309 => ((psalteryref07_Same.f kj7 t302 t309).bind fun t312 => (if t312 = true then (if t303 = 0 then ((psalterylaw09_knows.f kj7).bind fun t313 => (some t313)) else (none)) else (none)))) = some r := by rw [if_neg (show ¬ (false = true) by decide)] at H; exact H
     clear H
     have H := H1
     clear H1
     replace H := Option.bind_eq_some_iff.mp H
     obtain ⟨t309, A190, H⟩ := H
     replace H : ((psalteryref07_Same.f kj7 t302 t309).bind fun t312 => (if t312 = true then (if t303 = 0 then ((psalterylaw09_knows.f kj7).bind fun t313 => (some t313)) else (none)) else (none))) = some r := H
     have A19 := zm A190
     clear A190
     replace H := Option.bind_eq_some_iff.mp H
     obtain ⟨t312, A200, H⟩ := H
     replace H : (if t312 = true then (if t303 = 0 then ((psalterylaw09_knows.f kj7).bind fun t313 => (some t313)) else (none)) else (none)) = some r := H
     have A20 := zm A200
     clear A200
     by_cases c21 : t312 = true
     ·
      subst c21
      have H1 : (if t303 = 0 then ((psalterylaw09_knows.f kj7).bind fun t313 => (some t313)) else (none)) = some r := by rw [if_pos rfl] at H; exact H
      clear H
      have H := H1
      clear H1
      by_cases c22 : t303 = 0
      ·
       rw [if_pos c22] at H
       have c22b0 : (t303 == 0) = true := beq_iff_eq.mpr c22
       have c22b1 : (t303 != 0) = false := bne_eq_false_iff_eq.mpr c22
       clear c22
       replace H := Option.bind_eq_some_iff.mp H
       obtain ⟨t313, A230, H⟩ := H
       replace H : (some t313) = some r := H
       have A23 := zm A230
       clear A230
       obtain rfl := Option.some.inj H
       go_wp2_with (first | ((with_reducible refine gate_callee (f := 19) rfl ?_); refine goesL_ (some 38) rfl rfl Tryd.func19 (by kernel_rfl) rfl #[.slice A0 l0.length c0, .int .i64 a1] rfl (by (try simp only [List.map_toArray, List.map_cons, List.map_nil]); first | done | rfl | (simp only [List.length_drop, List.length_take]; rfl)) ?_; (with_reducible refine (psalteryref09_Back.calls kj7 _ _ l0 a1 t309 _ ?side1 ?side2 A19.out).mono ?_); (case side1 => repeat (first | exact (Kd.C_below HR0.out HB.out) | (with_reducible refine Kd.C_alloc ?_ _) | (with_reducible refine Kd.C_drewN ?_ _) | (with_reducible refine Kd.C_drew ?_))); (case side2 => exact HC0.out); rintro e w24 ⟨v310, rfl, ho0, hb⟩; refine ⟨_, rfl, ?_⟩; have n0_ := zm (Kd.R_elder' (by (with_reducible repeat (first | apply zo | apply zp | apply zq)); exact HO_5.out) (Kd.R_base ho0) hb); have n1_ := zm (Kd.R_lower (Kd.R_new' ho0 (Kd.R_lt (by (with_reducible repeat (first | apply zo | apply zp | apply zq)); exact HO_5.out))) (zE (by repeat (first | (with_reducible first | exact HB.out | apply ze | apply zd | apply zf) | exact HB.out)))); have n2_ := zm (zJ (by repeat (first | (with_reducible first | exact HB.out | apply ze | apply zd | apply zf) | exact HB.out)) hb); clear HO_5; clear HB; have HO_5 := n0_; have HO311 := n1_; have HB := n2_; clear n0_ n1_ n2_; (try clear hb); (try clear hb2); (try clear hk); (try clear hi); (try clear ho0); obtain ⟨Ao25, co25, eo25⟩ := Kd.R_slice HO_5.out; subst eo25; obtain ⟨Ao26, co26, eo26⟩ := Kd.R_slice HO311.out; subst eo26) | ((with_reducible refine gate_callee (f := 16) rfl ?_); refine goesL_ (some 39) rfl rfl Tryd.func16 (by kernel_rfl) rfl #[.slice Ao25 t302.length co25, .slice Ao26 t309.length co26] rfl (by (try simp only [List.map_toArray, List.map_cons, List.map_nil]); first | done | rfl | (simp only [List.length_drop, List.length_take]; rfl)) ?_; (with_reducible refine (psalteryref07_Same.calls kj7 _ _ t302 _ _ t309 true _ ?side1 ?side2 ?side3 ?side4 A20.out).mono ?_); (case side1 => repeat (first | exact (Kd.R_reads' HO_5.out).2.2 | (with_reducible refine Kd.C_alloc ?_ _) | (with_reducible refine Kd.C_drewN ?_ _) | (with_reducible refine Kd.C_drew ?_))); (case side2 => exact (Kd.R_reads' HO_5.out).2.1); (case side3 => repeat (first | exact (Kd.R_reads' HO311.out).2.2 | (with_reducible refine Kd.C_alloc ?_ _) | (with_reducible refine Kd.C_drewN ?_ _) | (with_reducible refine Kd.C_drew ?_))); (case side4 => exact (Kd.R_reads' HO311.out).2.1); rintro e w' ⟨rfl, ⟨nd, rfl⟩⟩; refine ⟨_, rfl, ?_⟩) | (go_at_call 11; (with_reducible refine (psalterylaw09_knows.calls kj7  t313 _ ?sideg A23.out).mono ?_); (case sideg => exact HG.out.below (by repeat (first | (with_reducible first | exact HB.out | apply ze | apply zd | apply zf) | exact HB.out))); rintro e w27 ⟨rfl, hb⟩; have n0_ := zm (Kd.R_below (by (with_reducible repeat (first | apply zo | apply zp | apply zq)); exact HO_5.out) hb); have n1_ := zm (Kd.R_below (by (with_reducible repeat (first | apply zo | apply zp | apply zq)); exact HO311.out) hb); have n2_ := zm (zJ (by repeat (first | (with_reducible first | exact HB.out | apply ze | apply zd | apply zf) | exact HB.out)) hb); clear HO_5; clear HO311; clear HB; have HO_5 := n0_; have HO311 := n1_; have HB := n2_; clear n0_ n1_ n2_; (try clear hb); (try clear hb2); (try clear hk); (try clear hi)))
       go_ret
       exact ⟨by first | rfl | (simp [errW_none, errW_some] <;> rfl) | (simp [*, errW_none, errW_some] <;> rfl), by repeat (first | (with_reducible first | exact HB.out | apply ze | apply zd | apply zf) | exact HB.out)⟩
      ·
       rw [if_neg c22] at H
       exact absurd H (by simp)
     ·
      replace c21 := Bool.eq_false_iff.mpr c21
      subst c21
      have H1 : (none) = some r := by rw [if_neg (show ¬ (false = true) by decide)] at H; exact H
      clear H
      have H := H1
      clear H1
      exact absurd H (by simp)


end Go.Proofs.YtllchhcdpfiodaaDoor.Prt
