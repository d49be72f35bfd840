-- Functions of the program and of the document as plain Lean, each with the proof that the code comes to it. Written by a program of this session (wip/tools/myprint.py, pack.py) over the kit's printer; Lean checks it.
import Derived.Test.YtllchhcdpfiodaaDoorZLapBorderPrt0
import Derived.Test.YtllchhcdpfiodaaDoorZLapBorderM1
namespace Go.Proofs.YtllchhcdpfiodaaDoor.Prt
open Go.RowKit Go.Proofs.YtllchhcdpfiodaaDoorW.PrintWords Go.Proofs.YtllchhcdpfiodaaDoorW.PrintLast Go.Proofs.YtllchhcdpfiodaaDoorW.PrintMore
attribute [local go_sem] max2_int min2_int max_two min_two max_three min_three max_four min_four   -- for this text's walks alone
set_option linter.unusedVariables false
set_option linter.unusedSimpArgs false

/-! ### lap_Frames: function 20 -/
mutual
def lap_Frames.j0 : Nat → List Int → Int → Bool → Option ((List (List Int)) × Int)
 | 0, _, _, _ => none
 | k + 1, x0, x1, x19 => if x19 = true then (some (([] : List (List Int)), 1)) else ((some (([] : List Int) : List Int)).bind fun y185 => (if y185.length + x0.length < 17592186044416 then (lap_Frames.l0 k x1 (y185 ++ x0)) else (none)))
def lap_Frames.l0 : Nat → Int → List Int → Option ((List (List Int)) × Int)
 | 0, _, _ => none
 | k + 1, x1, x6 => if x1 = 0 then (none) else (if ((x6.length : Int) % x1) = 0 then (lap_Frames.l1 k x1 x6 x1) else (if x6.length < 17592186044416 then (lap_Frames.l0 k x1 (x6 ++ [0])) else (none)))
def lap_Frames.l1 : Nat → Int → List Int → Int → Option ((List (List Int)) × Int)
 | 0, _, _, _ => none
 | k + 1, x1, x6, x7 => if x7 < (x6.length : Int) then ((lap_turn.f k x6 x7).bind fun t194 => (lap_Frames.l1 k x1 t194 (wrap64 (x7 + x1)))) else (lap_Frames.l2 k x1 x6 ([] : List (List Int)) 0)
def lap_Frames.l2 : Nat → Int → List Int → List (List Int) → Int → Option ((List (List Int)) × Int)
 | 0, _, _, _, _ => none
 | k + 1, x1, x6, x8, x9 => if x9 < (x6.length : Int) then (if 0 ≤ x9 then (if x9 ≤ (wrap64 (x9 + x1)) then (if (wrap64 (x9 + x1)) ≤ (x6.length : Int) then ((wave_Forward.f k ((x6.take ((wrap64 (x9 + x1)) : Int).toNat).drop (x9 : Int).toNat)).bind fun bt199 => (if bt199.2 = 0 then (if x8.length < 5864062014805 then (lap_Frames.l2 k x1 x6 (x8 ++ [bt199.1]) (wrap64 (x9 + x1))) else (none)) else (some (([] : List (List Int)), bt199.2)))) else (none)) else (none)) else (none)) else (some (x8, 0))
end
def lap_Frames.f (k : Nat) (l0 : List Int) (a1 : Int) : Option ((List (List Int)) × Int) := (lap_Right.f k l0).bind fun t183 => (if t183 = true then ((lap_sized.f a1).bind fun t184 => (lap_Frames.j0 k l0 a1 (!t184))) else (lap_Frames.j0 k l0 a1 true))
theorem lap_Frames.mono_l : ∀ k, (∀ y0 y1 y2, LeO (lap_Frames.j0 k y0 y1 y2) (lap_Frames.j0 (k + 1) y0 y1 y2)) ∧ (∀ y0 y1, LeO (lap_Frames.l0 k y0 y1) (lap_Frames.l0 (k + 1) y0 y1)) ∧ (∀ y0 y1 y2, LeO (lap_Frames.l1 k y0 y1 y2) (lap_Frames.l1 (k + 1) y0 y1 y2)) ∧ (∀ y0 y1 y2 y3, LeO (lap_Frames.l2 k y0 y1 y2 y3) (lap_Frames.l2 (k + 1) y0 y1 y2 y3))
 | 0 => ⟨fun _ _ _ r h => by simp [lap_Frames.j0] at h, fun _ _ r h => by simp [lap_Frames.l0] at h, fun _ _ _ r h => by simp [lap_Frames.l1] at h, fun _ _ _ _ r h => by simp [lap_Frames.l2] at h⟩
 | k + 1 => by
  obtain ⟨ih0, ih1, ih2, ih3⟩ := lap_Frames.mono_l k
  refine ⟨?_, ?_, ?_, ?_⟩
  ·
   intro y0 y1 y2
   unfold lap_Frames.j0
   repeat' first
   | (with_reducible exact ih0 _ _ _)
   | (with_reducible exact ih1 _ _)
   | (with_reducible exact ih2 _ _ _)
   | (with_reducible exact ih3 _ _ _ _)
   | (with_reducible exact lap_Right.mono _ _)
   | (with_reducible exact lap_turn.mono _ _ _)
   | (with_reducible exact wave_Forward.mono _ _)
   | (with_reducible exact LeO.refl _)
   | (with_reducible exact LeO.none _)
   | (with_reducible refine LeO.ite ?_ ?_)
   | (with_reducible refine LeO.bind ?_ (fun _ => ?_))
   | exact ih0 _ _ _
   | exact ih1 _ _
   | exact ih2 _ _ _
   | exact ih3 _ _ _ _
   | exact lap_Right.mono _ _
   | exact lap_turn.mono _ _ _
   | exact wave_Forward.mono _ _
   | exact LeO.none _
   | refine LeO.ite ?_ ?_
   | refine LeO.bind ?_ (fun _ => ?_)
  ·
   intro y0 y1
   unfold lap_Frames.l0
   repeat' first
   | (with_reducible exact ih0 _ _ _)
   | (with_reducible exact ih1 _ _)
   | (with_reducible exact ih2 _ _ _)
   | (with_reducible exact ih3 _ _ _ _)
   | (with_reducible exact lap_Right.mono _ _)
   | (with_reducible exact lap_turn.mono _ _ _)
   | (with_reducible exact wave_Forward.mono _ _)
   | (with_reducible exact LeO.refl _)
   | (with_reducible exact LeO.none _)
   | (with_reducible refine LeO.ite ?_ ?_)
   | (with_reducible refine LeO.bind ?_ (fun _ => ?_))
   | exact ih0 _ _ _
   | exact ih1 _ _
   | exact ih2 _ _ _
   | exact ih3 _ _ _ _
   | exact lap_Right.mono _ _
   | exact lap_turn.mono _ _ _
   | exact wave_Forward.mono _ _
   | exact LeO.none _
   | refine LeO.ite ?_ ?_
   | refine LeO.bind ?_ (fun _ => ?_)
  ·
   intro y0 y1 y2
   unfold lap_Frames.l1
   repeat' first
   | (with_reducible exact ih0 _ _ _)
   | (with_reducible exact ih1 _ _)
   | (with_reducible exact ih2 _ _ _)
   | (with_reducible exact ih3 _ _ _ _)
   | (with_reducible exact lap_Right.mono _ _)
   | (with_reducible exact lap_turn.mono _ _ _)
   | (with_reducible exact wave_Forward.mono _ _)
   | (with_reducible exact LeO.refl _)
   | (with_reducible exact LeO.none _)
   | (with_reducible refine LeO.ite ?_ ?_)
   | (with_reducible refine LeO.bind ?_ (fun _ => ?_))
   | exact ih0 _ _ _
   | exact ih1 _ _
   | exact ih2 _ _ _
   | exact ih3 _ _ _ _
   | exact lap_Right.mono _ _
   | exact lap_turn.mono _ _ _
   | exact wave_Forward.mono _ _
   | exact LeO.none _
   | refine LeO.ite ?_ ?_
   | refine LeO.bind ?_ (fun _ => ?_)
  ·
   intro y0 y1 y2 y3
   unfold lap_Frames.l2
   repeat' first
   | (with_reducible exact ih0 _ _ _)
   | (with_reducible exact ih1 _ _)
   | (with_reducible exact ih2 _ _ _)
   | (with_reducible exact ih3 _ _ _ _)
   | (with_reducible exact lap_Right.mono _ _)
   | (with_reducible exact lap_turn.mono _ _ _)
   | (with_reducible exact wave_Forward.mono _ _)
   | (with_reducible exact LeO.refl _)
   | (with_reducible exact LeO.none _)
   | (with_reducible refine LeO.ite ?_ ?_)
   | (with_reducible refine LeO.bind ?_ (fun _ => ?_))
   | exact ih0 _ _ _
   | exact ih1 _ _
   | exact ih2 _ _ _
   | exact ih3 _ _ _ _
   | exact lap_Right.mono _ _
   | exact lap_turn.mono _ _ _
   | exact wave_Forward.mono _ _
   | exact LeO.none _
   | refine LeO.ite ?_ ?_
   | refine LeO.bind ?_ (fun _ => ?_)
theorem lap_Frames.mono : ∀ a0 a1 k, LeO (lap_Frames.f k a0 a1) (lap_Frames.f (k + 1) a0 a1) := by
 intro a0 a1 k
 obtain ⟨ih0, ih1, ih2, ih3⟩ := lap_Frames.mono_l k
 unfold lap_Frames.f
 repeat' first
   | (with_reducible exact ih0 _ _ _)
   | (with_reducible exact ih1 _ _)
   | (with_reducible exact ih2 _ _ _)
   | (with_reducible exact ih3 _ _ _ _)
   | (with_reducible exact lap_Right.mono _ _)
   | (with_reducible exact lap_turn.mono _ _ _)
   | (with_reducible exact wave_Forward.mono _ _)
   | (with_reducible exact LeO.refl _)
   | (with_reducible exact LeO.none _)
   | (with_reducible refine LeO.ite ?_ ?_)
   | (with_reducible refine LeO.bind ?_ (fun _ => ?_))
   | exact ih0 _ _ _
   | exact ih1 _ _
   | exact ih2 _ _ _
   | exact ih3 _ _ _ _
   | exact lap_Right.mono _ _
   | exact lap_turn.mono _ _ _
   | exact wave_Forward.mono _ _
   | exact LeO.none _
   | refine LeO.ite ?_ ?_
   | refine LeO.bind ?_ (fun _ => ?_)
set_option maxHeartbeats 8000000 in
set_option maxRecDepth 100000 in
theorem lap_Frames.calls (k : Nat) (A0 : Option Addr) (c0 : Nat) (l0 : List Int) (a1 : Int) (r1 : List (List Int)) (r2 : Int) (w : World) (hr0 : Kd.C (Kd.int .i64) w A0 l0.length l0) (hc0 : l0.length ≤ c0) (hg : GW w) (h : lap_Frames.f k l0 a1 = some (r1, r2)) :
  Calls Tryd.prog 20 #[.slice A0 l0.length c0, .int .i64 a1] w fun e w' => ∃ v0_ : Value, e = .returned (.tuple #[v0_, .int .i64 r2]) ∧ Kd.S (Kd.slice 2 (Kd.int .i64)) 22 w' w.heap.size (fun _ => True) v0_ r1 ∧ Below w.heap.size w w' := by
 have HG := zm hg
 clear hg
 have HR0 := zm hr0
 have HC0 := zm hc0
 clear hr0 hc0
 have HB := zm (Below.refl w.heap.size w)
 have H : ((lap_Right.f k l0).bind fun t183 => (if t183 = true then ((lap_sized.f a1).bind fun t184 => (lap_Frames.j0 k l0 a1 (!t184))) else (lap_Frames.j0 k l0 a1 true))) = some (r1, r2) := h
 clear h
 have HC3 := zm H
 clear H
 go_enter Tryd.func20, Tryd.ntmps20
 go_upto_region 1 with (fail)
 go_cut [19] (fun v19 wc => ∃ (kq : Nat) (x19_2 : Bool), v19 = .bool x19_2 ∧ Aside0 (lap_Frames.j0 kq l0 a1 x19_2 = some (r1, r2)) ∧ Aside0 (kq ≤ k) ∧ Aside0 (Below w.heap.size w wc))
 case first =>
  have H := HC3.out
  clear HC3
  replace H := Option.bind_eq_some_iff.mp H
  obtain ⟨t183, A40, H⟩ := H
  replace H : (if t183 = true then ((lap_sized.f a1).bind fun t184 => (lap_Frames.j0 k l0 a1 (!t184))) else (lap_Frames.j0 k l0 a1 true)) = some (r1, r2) := H
  have A4 := zm A40
  clear A40
  by_cases c5 : t183 = true
  ·
   subst c5
   have H1 : ((lap_sized.f a1).bind fun t184 => (lap_Frames.j0 k l0 a1 (!t184))) = some (r1, r2) := by rw [if_pos rfl] at H; exact H
   clear H
   have H := H1
   clear H1
   replace H := Option.bind_eq_some_iff.mp H
   obtain ⟨t184, A60, H⟩ := H
   replace H : (lap_Frames.j0 k l0 a1 (!t184)) = some (r1, r2) := H
   have A6 := zm A60
   clear A60
   have H' := zm H
   clear H
   go_wp2_with (first | ((with_reducible refine gate_callee (f := 14) rfl ?_); refine goesL_ (some 13) rfl rfl Tryd.func14 (by kernel_rfl) rfl #[.slice A0 l0.length c0] rfl (by (try simp only [List.map_toArray, List.map_cons, List.map_nil]); first | done | rfl | (simp only [List.length_drop, List.length_take]; rfl)) ?_; (with_reducible refine (lap_Right.calls k _ _ l0 true _ ?side1 ?side2 A4.out).mono ?_); (case side1 => repeat (first | exact (Kd.C_below HR0.out HB.out) | (with_reducible refine Kd.C_alloc ?_ _) | (with_reducible refine Kd.C_drewN ?_ _) | (with_reducible refine Kd.C_drew ?_))); (case side2 => exact HC0.out); rintro e w' ⟨rfl, ⟨nd, rfl⟩⟩; refine ⟨_, rfl, ?_⟩) | (go_at_call 33; (with_reducible refine (lap_sized.calls a1 t184 _ A6.out).mono ?_); rintro e w' ⟨rfl, ⟨nd, rfl⟩⟩))
   go_meet
   case rel => exact ⟨_, (!t184), (by first | rfl | (simp; done) | (simp [*]; done)), H', ⟨by first | omega | exact Nat.le_refl _⟩, ⟨by repeat (first | (with_reducible first | exact HB.out | apply ze | apply zd | apply zf) | exact HB.out)⟩⟩
  ·
   replace c5 := Bool.eq_false_iff.mpr c5
   subst c5
   have H1 : (lap_Frames.j0 k l0 a1 true) = some (r1, r2) := by rw [if_neg (show ¬ (false = true) by decide)] at H; exact H
   clear H
   have H := H1
   clear H1
   have H' := zm H
   clear H
   go_wp2_with (first | ((with_reducible refine gate_callee (f := 14) rfl ?_); refine goesL_ (some 13) rfl rfl Tryd.func14 (by kernel_rfl) rfl #[.slice A0 l0.length c0] rfl (by (try simp only [List.map_toArray, List.map_cons, List.map_nil]); first | done | rfl | (simp only [List.length_drop, List.length_take]; rfl)) ?_; (with_reducible refine (lap_Right.calls k _ _ l0 false _ ?side1 ?side2 A4.out).mono ?_); (case side1 => repeat (first | exact (Kd.C_below HR0.out HB.out) | (with_reducible refine Kd.C_alloc ?_ _) | (with_reducible refine Kd.C_drewN ?_ _) | (with_reducible refine Kd.C_drew ?_))); (case side2 => exact HC0.out); rintro e w' ⟨rfl, ⟨nd, rfl⟩⟩; refine ⟨_, rfl, ?_⟩))
   go_meet
   case rel => exact ⟨_, (true), (by first | rfl | (simp; done) | (simp [*]; done)), H', ⟨by first | omega | exact Nat.le_refl _⟩, ⟨by repeat (first | (with_reducible first | exact HB.out | apply ze | apply zd | apply zf) | exact HB.out)⟩⟩
 case rest =>
  clear HC3
  try clear c1
  try clear c2
  try clear p2
  try clear c5
  obtain ⟨kq, x19_2, rfl, HA, HJ2, HB⟩ := hcut
  cases kq with
  | zero => exact absurd HA.out (by simp [lap_Frames.j0])
  | succ kj2 =>
   have H := HA.out
   clear HA
   simp only [lap_Frames.j0] at H
   by_cases c7 : x19_2 = true
   ·
    subst c7
    have H1 : (some (([] : List (List Int)), 1)) = some (r1, r2) := by rw [if_pos rfl] at H; exact H
    clear H
    have H := H1
    clear H1
    simp only [Option.some.injEq, Prod.mk.injEq] at H
    obtain ⟨rfl, rfl⟩ := H
    go_wp2
    go_ret2
    exact ⟨_, by first | rfl | (simp [errW_none, errW_some] <;> rfl) | (simp [*, errW_none, errW_some] <;> rfl), by first | exact Kd.S_nil _ _ _ _ _ | exact Kd.N_nil _ _ _ _ _ | exact Kd.V_nil _ _ _ _ _ | exact Kd.Q_nil _ _ _ _ _ | exact Kd.R_nil _ _ _ _ _, by repeat (first | (with_reducible first | exact HB.out | apply ze | apply zd | apply zf) | exact HB.out)⟩
   ·
    replace c7 := Bool.eq_false_iff.mpr c7
    subst c7
    have H1 : ((some (([] : List Int) : List Int)).bind fun y185 => (if y185.length + l0.length < 17592186044416 then (lap_Frames.l0 kj2 a1 (y185 ++ l0)) else (none))) = some (r1, r2) := by rw [if_neg (show ¬ (false = true) by decide)] at H; exact H
    clear H
    have H := H1
    clear H1
    obtain ⟨y185, hy185⟩ : ∃ y_ : List Int, y_ = (([] : List Int)) := ⟨_, rfl⟩
    replace H : (if y185.length + l0.length < 17592186044416 then (lap_Frames.l0 kj2 a1 (y185 ++ l0)) else (none)) = some (r1, r2) := by first | (rw [hy185]; with_reducible exact H) | (have H2_ := (Option.bind_some _ _).symm.trans H; rw [hy185]; with_reducible exact H2_) | (have H2_ := (Option.bind_some _ _).symm.trans H; with_reducible exact H2_) | with_reducible exact H | (rw [hy185]; exact H) | exact H
    have Ny185 := zm hy185
    clear hy185
    by_cases c8 : y185.length + l0.length < 17592186044416
    ·
     rw [if_pos c8] at H
     have LMc8 := zm c8
     clear c8
     obtain ⟨y188, hy188⟩ : ∃ y_ : List Int, y_ = (y185 ++ l0) := ⟨_, rfl⟩
     replace H : (lap_Frames.l0 kj2 a1 y188) = some (r1, r2) := by first | (rw [hy188]; with_reducible exact H) | (have H2_ := (Option.bind_some _ _).symm.trans H; rw [hy188]; with_reducible exact H2_) | (have H2_ := (Option.bind_some _ _).symm.trans H; with_reducible exact H2_) | with_reducible exact H | (rw [hy188]; exact H) | exact H
     have Ny188 := zm hy188
     clear hy188
     have H' := zm H
     clear H
     go_wp2_with (first | ((with_reducible refine gate_dst (N := 20) rfl ?_); refine Kd.R_lit (Kd.int .i64) _ 2 ?hg (N := 20) ?hd (xs := ([] : List Int)) (inner := []) (ok := fun _ => True) (okp := fun _ => True) ?hr ?hp (fun _ hk => hk) trivial (Below.refl _ _) (Nat.le_refl _) (by simp) ?_; (case hd => rfl); (case hg => rfl); (case hr => first | (go_simp; done) | (go_simp; rfl)); (case hp => exact (Reps.none _ _)); intro v186 w9 ho10 hb hg_ hnew_; clear hg_ hnew_; (first | rw [← Ny185.out] at ho10 | (simp only [Int.reduceToNat] at ho10; rw [← Ny185.out] at ho10)); have n0_ := zm (Kd.R_lower ho10 (zE (by repeat (first | (with_reducible first | exact HB.out | apply ze | apply zd | apply zf) | exact HB.out)))); have n1_ := zm (zJ (by repeat (first | (with_reducible first | exact HB.out | apply ze | apply zd | apply zf) | exact HB.out)) hb); clear HB; have HO187 := n0_; have HB := n1_; clear n0_ n1_; clear hb ho10) | ((with_reducible refine gate_builtin (b := .append) (xs := #[.tmp 20, .tmp 21]) rfl ?_); at_builtin; refine Kd.R_append_rows (Kd.int .i64) (w0 := w) w.heap.size rfl (.tmp 20) (.tmp 21) 22 2 (.int .i64 0) 8 rfl Tryd.underlying22 info2 rfl (by decide) (by omega) v186 y185 l0 _ _ _ (fun _ => True) (fun _ => False) rfl rfl ?aO ?aR (fun _ _ h => h) (fun _ h => h.elim) ?aF ?aB ?aS ?aL ?_; (case aR => repeat (first | exact (Kd.C_below HR0.out HB.out) | (with_reducible refine Kd.C_alloc ?_ _) | (with_reducible refine Kd.C_drewN ?_ _) | (with_reducible refine Kd.C_drew ?_))); (case aB => exact (by repeat (first | (with_reducible first | exact HB.out | apply ze | apply zd | apply zf) | exact HB.out))); (case aF => exact (fun _ _ => trivial)); (case aO => exact (by (with_reducible repeat (first | apply zo | apply zp | apply zq)); exact HO187.out)); (case aS => exact (zE (by repeat (first | (with_reducible first | exact HB.out | apply ze | apply zd | apply zf) | exact HB.out)))); (case aL => have := LMc8.out; omega); intro v189 w11 ho hb hg hat; rw [← Ny188.out] at ho; have n0_ := zm (hb); have n1_ := zm (ho); clear HB; clear HO187; have HB := n0_; have HO190 := n1_; clear n0_ n1_; clear ho hb hg hat))
     go_loopg [6] kj2 (fun kq v6 w' => ∃ (x6_2 : List Int), Aside0 (lap_Frames.l0 kq a1 x6_2 = some (r1, r2)) ∧ Aside0 (kq ≤ kj2) ∧ Aside0 (Kd.R (Kd.int .i64) 2 w' w.heap.size (fun _ => True) v6 x6_2) ∧ Aside0 (Below w.heap.size w w'))
     case atStart => exact ⟨(y188), H', ⟨Nat.le_refl _⟩, ⟨by (with_reducible repeat (first | apply zo | apply zp | apply zq)); exact HO190.out⟩, ⟨by repeat (first | (with_reducible first | exact HB.out | apply ze | apply zd | apply zf) | exact HB.out)⟩⟩
     case round =>
      clear H'
      try clear c1
      try clear c2
      try clear p2
      try clear c5
      try clear c7
      try clear c8
      try clear p2
      obtain ⟨x6_2, HA, HK2, HO_6, HB⟩ := hrel
      cases gk with
      | zero => exact absurd HA.out (by simp [lap_Frames.l0])
      | succ k2 =>
       have H := HA.out
       clear HA
       simp only [lap_Frames.l0] at H
       by_cases c12 : a1 = 0
       ·
        rw [if_pos c12] at H
        exact absurd H (by simp)
       ·
        rw [if_neg c12] at H
        have c12b0 : (a1 == 0) = false := beq_eq_false_iff_ne.mpr c12
        have c12b1 : (a1 != 0) = true := bne_iff_ne.mpr c12
        by_cases c13 : ((x6_2.length : Int) % a1) = 0
        ·
         rw [if_pos c13] at H
         have c13b0 : (((x6_2.length : Int) % a1) == 0) = true := beq_iff_eq.mpr c13
         have c13b1 : (((x6_2.length : Int) % a1) != 0) = false := bne_eq_false_iff_eq.mpr c13
         clear c13
         have H' := zm H
         clear H
         obtain ⟨Ao14, co14, eo14⟩ := Kd.R_slice HO_6.out
         subst eo14
         go_wp2
         go_loopg [7] k2 (fun kq v7 w' => ∃ (x6_3 : List Int) (x7_3 : Int), v7 = .int .i64 x7_3 ∧ Aside0 (lap_Frames.l1 kq a1 x6_3 x7_3 = some (r1, r2)) ∧ Aside0 (kq ≤ k2) ∧ Aside0 (Kd.R (Kd.int .i64) 2 w' w.heap.size (fun _ => True) (.slice Ao14 x6_2.length co14) x6_3) ∧ Aside0 (Below w.heap.size w w'))
         case atStart => exact ⟨(x6_2), (a1), (by first | rfl | (simp; done) | (simp [*]; done)), H', ⟨Nat.le_refl _⟩, ⟨by (with_reducible repeat (first | apply zo | apply zp | apply zq)); exact HO_6.out⟩, ⟨by repeat (first | (with_reducible first | exact HB.out | apply ze | apply zd | apply zf) | exact HB.out)⟩⟩
         case round =>
          clear H'
          try clear c1
          try clear c2
          try clear p2
          try clear c5
          try clear c7
          try clear c8
          try clear c12
          try clear c12b0
          try clear c12b1
          try clear c13
          try clear c13b0
          try clear c13b1
          try clear c14
          try clear p2
          obtain ⟨x6_3, x7_3, rfl, HA, HK3, HO_6, HB⟩ := hrel
          have hl6_3 := (Kd.R_reads' HO_6.out).1
          rw [hl6_3] at HO_6
          (try simp only [hl6_3])
          cases gk with
          | zero => exact absurd HA.out (by simp [lap_Frames.l1])
          | succ k3 =>
           have H := HA.out
           clear HA
           simp only [lap_Frames.l1] at H
           by_cases c15 : x7_3 < (x6_3.length : Int)
           ·
            rw [if_pos c15] at H
            have c15b0 : decide (x7_3 < (x6_3.length : Int)) = true := decide_eq_true c15
            clear c15
            replace H := Option.bind_eq_some_iff.mp H
            obtain ⟨t194, A160, H⟩ := H
            replace H : (lap_Frames.l1 k3 a1 t194 (wrap64 (x7_3 + a1))) = some (r1, r2) := H
            have A16 := zm A160
            clear A160
            have H' := zm H
            clear H
            go_wp2_with (first | ((with_reducible refine gate_callee (f := 29) rfl ?_); refine goesL_ (some 41) rfl rfl Tryd.func29 (by kernel_rfl) rfl #[.slice Ao14 x6_3.length co14, .int .i64 x7_3] rfl (by (try simp only [List.map_toArray, List.map_cons, List.map_nil]); first | done | rfl | (simp only [List.length_drop, List.length_take]; rfl)) ?_; (with_reducible refine (lap_turn.calls k3 (fun k_ => some k_ = (.slice Ao14 x6_3.length co14 : Value).ownBlock) (.slice Ao14 x6_3.length co14) x6_3 x7_3 t194 w _ ?side1 ?side2 ?sideg A16.out).mono ?_); (case sideg => exact HG.out); (case side1 => repeat (first | (with_reducible first | exact HB.out | apply ze | apply zd | apply zf) | exact HB.out)); (case side2 => exact Kd.R_tight rfl HO_6.out); rintro e w17 ⟨rfl, hy0, hb, hkp⟩; refine ⟨_, rfl, ?_⟩; have n0_ := zm (Kd.R_reok rfl hy0 (fun k_ e_ => HO_6.out.1 k_ e_)); have n1_ := zm (hb); clear HO_6; clear HB; have HO_6 := n0_; have HB := n1_; clear n0_ n1_; (try clear hb); (try clear hkp); (try clear hy0)))
            (try simp only [← hl6_3])
            go_roundg k3
            case measure => have := HJ2.out; have := HK2.out; have := HK3.out; omega
            case rel => exact ⟨(t194), (wrap64 (x7_3 + a1)), (by first | rfl | (simp; done) | (simp [*]; done)), H', ⟨by have := HJ2.out; have := HK2.out; have := HK3.out; omega⟩, ⟨by (try simp only [hl6_3]); (with_reducible repeat (first | apply zo | apply zp | apply zq)); exact HO_6.out⟩, ⟨by repeat (first | (with_reducible first | exact HB.out | apply ze | apply zd | apply zf) | exact HB.out)⟩⟩
           ·
            rw [if_neg c15] at H
            have c15b0 : decide (x7_3 < (x6_3.length : Int)) = false := decide_eq_false c15
            clear c15
            have H' := zm H
            clear H
            go_wp2
            go_loopg [8, 9] k3 (fun kq v8 v9 w' => ∃ (x8_4 : List (List Int)) (x9_4 : Int), v9 = .int .i64 x9_4 ∧ Aside0 (lap_Frames.l2 kq a1 x6_3 x8_4 x9_4 = some (r1, r2)) ∧ Aside0 (kq ≤ k3) ∧ Aside0 (Kd.R (Kd.int .i64) 2 w' w.heap.size (fun _ => True) (.slice Ao14 x6_3.length co14) x6_3) ∧ Aside0 (Kd.S (Kd.slice 2 (Kd.int .i64)) 22 w' w.heap.size (fun k_ => some k_ ≠ ((.slice Ao14 x6_3.length co14) : Value).ownBlock) v8 x8_4) ∧ Aside0 (Below w.heap.size w w'))
            case atStart => exact ⟨(([] : List (List Int))), (0), (by first | rfl | (simp; done) | (simp [*]; done)), H', ⟨Nat.le_refl _⟩, ⟨by (try simp only [hl6_3]); (with_reducible repeat (first | apply zo | apply zp | apply zq)); exact HO_6.out⟩, ⟨by (try simp only [hl6_3]); first | exact Kd.S_nil _ _ _ _ _ | exact Kd.N_nil _ _ _ _ _ | exact Kd.V_nil _ _ _ _ _ | exact Kd.Q_nil _ _ _ _ _ | exact Kd.R_nil _ _ _ _ _⟩, ⟨by repeat (first | (with_reducible first | exact HB.out | apply ze | apply zd | apply zf) | exact HB.out)⟩⟩
            case round =>
             clear H'
             try clear c1
             try clear c2
             try clear p2
             try clear c5
             try clear p6
             try clear c7
             try clear c8
             try clear c12
             try clear c12b0
             try clear c12b1
             try clear c13
             try clear c13b0
             try clear c13b1
             try clear c14
             try clear c15
             try clear c15b0
             try clear p2
             obtain ⟨x8_4, x9_4, rfl, HA, HK4, HO_6, HO_8, HB⟩ := hrel
             cases gk with
             | zero => exact absurd HA.out (by simp [lap_Frames.l2])
             | succ k4 =>
              have H := HA.out
              clear HA
              simp only [lap_Frames.l2] at H
              by_cases c18 : x9_4 < (x6_3.length : Int)
              ·
               rw [if_pos c18] at H
               have c18b0 : decide (x9_4 < (x6_3.length : Int)) = true := decide_eq_true c18
               clear c18
               by_cases c19 : 0 ≤ x9_4
               ·
                rw [if_pos c19] at H
                have c19b0 := eq_true c19
                have c19b1 : decide (0 ≤ x9_4) = true := decide_eq_true c19
                clear c19
                by_cases c20 : x9_4 ≤ (wrap64 (x9_4 + a1))
                ·
                 rw [if_pos c20] at H
                 have c20b0 := eq_true c20
                 have c20b1 : decide (x9_4 ≤ (wrap64 (x9_4 + a1))) = true := decide_eq_true c20
                 by_cases c21 : (wrap64 (x9_4 + a1)) ≤ (x6_3.length : Int)
                 ·
                  rw [if_pos c21] at H
                  have c21b0 := eq_true c21
                  have c21b1 : decide ((wrap64 (x9_4 + a1)) ≤ (x6_3.length : Int)) = true := decide_eq_true c21
                  obtain ⟨y195, hy195⟩ : ∃ y_ : List Int, y_ = ((x6_3.take ((wrap64 (x9_4 + a1)) : Int).toNat).drop (x9_4 : Int).toNat) := ⟨_, rfl⟩
                  replace H : ((wave_Forward.f k4 y195).bind fun bt199 => (if bt199.2 = 0 then (if x8_4.length < 5864062014805 then (lap_Frames.l2 k4 a1 x6_3 (x8_4 ++ [bt199.1]) (wrap64 (x9_4 + a1))) else (none)) else (some (([] : List (List Int)), bt199.2)))) = some (r1, r2) := by first | (rw [hy195]; with_reducible exact H) | (have H2_ := (Option.bind_some _ _).symm.trans H; rw [hy195]; with_reducible exact H2_) | (have H2_ := (Option.bind_some _ _).symm.trans H; with_reducible exact H2_) | with_reducible exact H | (rw [hy195]; exact H) | exact H
                  have Ny195 := zm hy195
                  clear hy195
                  replace H := Option.bind_eq_some_iff.mp H
                  obtain ⟨⟨t199, t200⟩, A220, H⟩ := H
                  replace H : (if t200 = 0 then (if x8_4.length < 5864062014805 then (lap_Frames.l2 k4 a1 x6_3 (x8_4 ++ [t199]) (wrap64 (x9_4 + a1))) else (none)) else (some (([] : List (List Int)), t200))) = some (r1, r2) := H
                  have A22 := zm A220
                  clear A220
                  by_cases c23 : t200 = 0
                  ·
                   rw [if_pos c23] at H
                   have c23b0 : (t200 == 0) = true := beq_iff_eq.mpr c23
                   have c23b1 : (t200 != 0) = false := bne_eq_false_iff_eq.mpr c23
                   clear c23
                   by_cases c24 : x8_4.length < 5864062014805
                   ·
                    rw [if_pos c24] at H
                    have LMc24 := zm c24
                    clear c24
                    obtain ⟨y203, hy203⟩ : ∃ y_ : List (List Int), y_ = (x8_4 ++ [t199]) := ⟨_, rfl⟩
                    replace H : (lap_Frames.l2 k4 a1 x6_3 y203 (wrap64 (x9_4 + a1))) = some (r1, r2) := by first | (rw [hy203]; with_reducible exact H) | (have H2_ := (Option.bind_some _ _).symm.trans H; rw [hy203]; with_reducible exact H2_) | (have H2_ := (Option.bind_some _ _).symm.trans H; with_reducible exact H2_) | with_reducible exact H | (rw [hy203]; exact H) | exact H
                    have Ny203 := zm hy203
                    clear hy203
                    have H' := zm H
                    clear H
                    have q25 : ((wrap64 (x9_4 + a1)) : Int) ≤ ((x6_3.length : Int) : Int) := of_decide_eq_true (by first | (with_reducible assumption) | assumption)
                    obtain ⟨i025, hi025, _, hsz25, _⟩ := info_parts info2
                    have hroom25 : x6_3.length ≤ co14 := (Kd.R_reads' HO_6.out).2.1
                    have hC25 : Kd.C (Kd.int .i64) _ Ao14 x6_3.length x6_3 := (Kd.R_reads' HO_6.out).2.2
                    have ql25 : (x9_4 : Int) ≤ ((wrap64 (x9_4 + a1)) : Int) := of_decide_eq_true (by first | (with_reducible assumption) | assumption)
                    have q025 : (0 : Int) ≤ (x9_4 : Int) := of_decide_eq_true (by first | (with_reducible assumption) | assumption)
                    have hcut25 := cut_mid (P := Tryd.prog) 22 2 .i64 .i64 Tryd.underlying22 hi025 1 hsz25 Ao14 x6_3.length co14 x9_4 (wrap64 (x9_4 + a1)) q025 ql25 q25 hroom25
                    have hr25 := Kd.C_mid (lo := (x9_4 : Int).toNat) (hi := ((wrap64 (x9_4 + a1)) : Int).toNat) (c := co14) hC25 (by omega) (by omega) hroom25
                    obtain ⟨A25, hA25⟩ : ∃ A1, A1 = (if co14 = (x9_4 : Int).toNat then Ao14 else (Ao14 : Option Addr).map (·.add ((x9_4 : Int).toNat * 1))) := ⟨_, rfl⟩
                    obtain ⟨c25, hc25⟩ : ∃ c1, c1 = co14 - (x9_4 : Int).toNat := ⟨_, rfl⟩
                    have hy25 : y195.length = ((wrap64 (x9_4 + a1)) : Int).toNat - (x9_4 : Int).toNat := (by rw [Ny195.out, List.length_drop, List.length_take] <;> omega)
                    rw [show ((x6_3).take ((wrap64 (x9_4 + a1)) : Int).toNat).drop (x9_4 : Int).toNat = y195 from Ny195.out.symm] at hr25
                    replace hr25 : Kd.C (Kd.int .i64) _ A25 y195.length y195 := (by rw [hA25]; exact hr25)
                    rw [← hy25, ← hA25, ← hc25] at hcut25
                    have HR198 := zm hr25
                    have HC198 := zm (show y195.length ≤ c25 from by rw [hy25, hc25]; exact Nat.sub_le_sub_right (Nat.le_trans (by omega) hroom25) _)
                    clear hr25 hC25 hroom25 hi025 hsz25 hc25
                    have KY25 := zm hy25
                    have KA25 := zm hA25
                    clear hy25 hA25
                    have KL25 := zm (show ((wrap64 (x9_4 + a1)) : Int).toNat ≤ x6_3.length from by omega)
                    have KM25 := zm (show (x9_4 : Int).toNat ≤ ((wrap64 (x9_4 + a1)) : Int).toNat from by omega)
                    replace q25 := eq_true q25
                    go_wp2_with (first | ((with_reducible refine gate_callee (f := 34) rfl ?_); refine goesL_ (some 56) rfl rfl Tryd.func34 (by kernel_rfl) rfl #[.slice A25 y195.length c25] rfl (by (try simp only [List.map_toArray, List.map_cons, List.map_nil]); first | done | rfl | (simp only [List.length_drop, List.length_take]; rfl)) ?_; (with_reducible refine (wave_Forward.calls k4 _ _ y195 t199 t200 _ ?side1 ?side2 A22.out).mono ?_); (case side1 => repeat (first | exact (by repeat (first | (with_reducible exact HR198.out) | (with_reducible refine Kd.C_alloc ?_ _) | (with_reducible refine Kd.C_drewN ?_ _) | (with_reducible refine Kd.C_drew ?_) | exact HR198.out)) | (with_reducible refine Kd.C_alloc ?_ _) | (with_reducible refine Kd.C_drewN ?_ _) | (with_reducible refine Kd.C_drew ?_))); (case side2 => exact HC198.out); rintro e w26 ⟨v201, rfl, ho0, hb⟩; refine ⟨_, rfl, ?_⟩; have n0_ := zm (Kd.R_elder' (by (with_reducible repeat (first | apply zo | apply zp | apply zq)); exact HO_6.out) (Kd.R_base ho0) hb); have n1_ := zm (Kd.S_elder' (by (with_reducible repeat (first | apply Kd.S_alloc | apply Kd.S_drewN | apply Kd.S_drew)); exact HO_8.out) (Kd.R_base ho0) hb); have n2_ := zm (Kd.R_lower (Kd.R_new' ho0 (Kd.R_lt (by (with_reducible repeat (first | apply zo | apply zp | apply zq)); exact HO_6.out))) (zE (by repeat (first | (with_reducible first | exact HB.out | apply ze | apply zd | apply zf) | exact HB.out)))); have n3_ := zm (Kd.C_below (by repeat (first | (with_reducible exact HR198.out) | (with_reducible refine Kd.C_alloc ?_ _) | (with_reducible refine Kd.C_drewN ?_ _) | (with_reducible refine Kd.C_drew ?_) | exact HR198.out)) hb); have n4_ := zm (zJ (by repeat (first | (with_reducible first | exact HB.out | apply ze | apply zd | apply zf) | exact HB.out)) hb); clear HO_6; clear HO_8; clear HR198; clear HB; have HO_6 := n0_; have HO_8 := n1_; have HO202 := n2_; have HR198 := n3_; have HB := n4_; clear n0_ n1_ n2_ n3_ n4_; (try clear hb); (try clear hb2); (try clear hk); (try clear hi); (try clear ho0); obtain ⟨Ao28, co28, eo28⟩ := Kd.R_slice HO202.out; subst eo28) | ((with_reducible refine gate_builtin (b := .append) (xs := #[.tmp 62, .tmp 64]) rfl ?_); at_builtin; refine Kd.S_append (Kd.slice 2 (Kd.int .i64)) (w0 := w) w.heap.size rfl (.tmp 62) (.tmp 64) 32 22 (.slice none 0 0) 24 rfl Tryd.underlying32 info22 rfl (by decide) (by omega) u8 x8_4 t199 [.slice Ao28 t199.length co28] (fun k_ => some k_ ≠ (.slice Ao14 x6_3.length co14 : Value).ownBlock) (fun k_ => some k_ = (.slice Ao28 t199.length co28 : Value).ownBlock) rfl rfl ?aP (fun k_ hk_ => ((zG (ok' := fun k_ => ((fun k_ => some k_ ≠ (.slice Ao14 x6_3.length co14 : Value).ownBlock)) k_ ∧ some k_ ≠ (u8 : Value).ownBlock) (Kd.R_apart' (HO202.out) (Kd.S_typed HO_8.out) (by decide)) (fun k_ hk => ⟨hk.1.2, hk.2⟩))).1 k_ hk_.symm) ?aF ?aO ?aB ?aS ?aL ?_; (case aP => exact Kd.M_row (zG (Kd.R_tight rfl (zG (ok' := fun k_ => ((fun k_ => some k_ ≠ (.slice Ao14 x6_3.length co14 : Value).ownBlock)) k_ ∧ some k_ ≠ (u8 : Value).ownBlock) (Kd.R_apart' (HO202.out) (Kd.S_typed HO_8.out) (by decide)) (fun k_ hk => ⟨hk.1.2, hk.2⟩))) (fun _ h_ => h_))); (case aB => exact (by repeat (first | (with_reducible first | exact HB.out | apply ze | apply zd | apply zf) | exact HB.out))); (case aF => exact (fun k_ hk => Kd.fresh' (Kd.R_lt (by (with_reducible repeat (first | apply zo | apply zp | apply zq)); exact HO_6.out)) k_ hk)); (case aO => exact (by (with_reducible repeat (first | apply Kd.S_alloc | apply Kd.S_drewN | apply Kd.S_drew)); exact Kd.S_mono HO_8.out (fun k_ hk => ⟨hk.1, fun e_ => hk.2 e_⟩))); (case aS => exact (zE (by repeat (first | (with_reducible first | exact HB.out | apply ze | apply zd | apply zf) | exact HB.out)))); (case aL => have := LMc24.out; omega); intro v204 w27 ho hb hg hat; rw [← Ny203.out] at ho; have n0_ := zm (Kd.R_over' (by (with_reducible repeat (first | apply zo | apply zp | apply zq)); exact HO_6.out) (Kd.S_typed (by (with_reducible repeat (first | apply Kd.S_alloc | apply Kd.S_drewN | apply Kd.S_drew)); exact HO_8.out)) (by decide) hg); have n1_ := zm (hb); have n2_ := zm ((show Kd.C (Kd.int .i64) w27 A25 y195.length y195 from by rw [Ny195.out, KA25.out]; exact Kd.C_mid (lo := (x9_4 : Int).toNat) (hi := ((wrap64 (x9_4 + a1)) : Int).toNat) (c := co14) ((Kd.R_reads' (Kd.R_over' (by (with_reducible repeat (first | apply zo | apply zp | apply zq)); exact HO_6.out) (Kd.S_typed (by (with_reducible repeat (first | apply Kd.S_alloc | apply Kd.S_drewN | apply Kd.S_drew)); exact HO_8.out)) (by decide) hg)).2.2) KM25.out KL25.out ((Kd.R_reads' (Kd.R_over' (by (with_reducible repeat (first | apply zo | apply zp | apply zq)); exact HO_6.out) (Kd.S_typed (by (with_reducible repeat (first | apply Kd.S_alloc | apply Kd.S_drewN | apply Kd.S_drew)); exact HO_8.out)) (by decide) hg)).2.1))); have n3_ := zm (ho); clear HO_6; clear HB; clear HR198; clear HO_8; clear HO202; have HO_6 := n0_; have HB := n1_; have HR198 := n2_; have HO205 := n3_; clear n0_ n1_ n2_ n3_; clear ho hb hg hat))
                    go_roundg k4
                    case measure => have := HJ2.out; have := HK2.out; have := HK3.out; have := HK4.out; omega
                    case rel => exact ⟨(y203), (wrap64 (x9_4 + a1)), (by first | rfl | (simp; done) | (simp [*]; done)), H', ⟨by have := HJ2.out; have := HK2.out; have := HK3.out; have := HK4.out; omega⟩, ⟨by (try simp only [hl6_3]); (with_reducible repeat (first | apply zo | apply zp | apply zq)); exact zG HO_6.out (fun _ hk => trivial)⟩, ⟨by (try simp only [hl6_3]); (with_reducible repeat (first | apply Kd.S_alloc | apply Kd.S_drewN | apply Kd.S_drew)); exact HO205.out⟩, ⟨by repeat (first | (with_reducible first | exact HB.out | apply ze | apply zd | apply zf) | exact HB.out)⟩⟩
                   ·
                    rw [if_neg c24] at H
                    exact absurd H (by simp)
                  ·
                   rw [if_neg c23] at H
                   have c23b0 : (t200 == 0) = false := beq_eq_false_iff_ne.mpr c23
                   have c23b1 : (t200 != 0) = true := bne_iff_ne.mpr c23
                   simp only [Option.some.injEq, Prod.mk.injEq] at H
                   obtain ⟨rfl, rfl⟩ := H
                   have q29 : ((wrap64 (x9_4 + a1)) : Int) ≤ ((x6_3.length : Int) : Int) := of_decide_eq_true (by first | (with_reducible assumption) | assumption)
                   obtain ⟨i029, hi029, _, hsz29, _⟩ := info_parts info2
                   have hroom29 : x6_3.length ≤ co14 := (Kd.R_reads' HO_6.out).2.1
                   have hC29 : Kd.C (Kd.int .i64) _ Ao14 x6_3.length x6_3 := (Kd.R_reads' HO_6.out).2.2
                   have ql29 : (x9_4 : Int) ≤ ((wrap64 (x9_4 + a1)) : Int) := of_decide_eq_true (by first | (with_reducible assumption) | assumption)
                   have q029 : (0 : Int) ≤ (x9_4 : Int) := of_decide_eq_true (by first | (with_reducible assumption) | assumption)
                   have hcut29 := cut_mid (P := Tryd.prog) 22 2 .i64 .i64 Tryd.underlying22 hi029 1 hsz29 Ao14 x6_3.length co14 x9_4 (wrap64 (x9_4 + a1)) q029 ql29 q29 hroom29
                   have hr29 := Kd.C_mid (lo := (x9_4 : Int).toNat) (hi := ((wrap64 (x9_4 + a1)) : Int).toNat) (c := co14) hC29 (by omega) (by omega) hroom29
                   obtain ⟨A29, hA29⟩ : ∃ A1, A1 = (if co14 = (x9_4 : Int).toNat then Ao14 else (Ao14 : Option Addr).map (·.add ((x9_4 : Int).toNat * 1))) := ⟨_, rfl⟩
                   obtain ⟨c29, hc29⟩ : ∃ c1, c1 = co14 - (x9_4 : Int).toNat := ⟨_, rfl⟩
                   have hy29 : y195.length = ((wrap64 (x9_4 + a1)) : Int).toNat - (x9_4 : Int).toNat := (by rw [Ny195.out, List.length_drop, List.length_take] <;> omega)
                   rw [show ((x6_3).take ((wrap64 (x9_4 + a1)) : Int).toNat).drop (x9_4 : Int).toNat = y195 from Ny195.out.symm] at hr29
                   replace hr29 : Kd.C (Kd.int .i64) _ A29 y195.length y195 := (by rw [hA29]; exact hr29)
                   rw [← hy29, ← hA29, ← hc29] at hcut29
                   have HR198 := zm hr29
                   have HC198 := zm (show y195.length ≤ c29 from by rw [hy29, hc29]; exact Nat.sub_le_sub_right (Nat.le_trans (by omega) hroom29) _)
                   clear hr29 hC29 hroom29 hi029 hsz29 hc29
                   have KY29 := zm hy29
                   have KA29 := zm hA29
                   clear hy29 hA29
                   have KL29 := zm (show ((wrap64 (x9_4 + a1)) : Int).toNat ≤ x6_3.length from by omega)
                   have KM29 := zm (show (x9_4 : Int).toNat ≤ ((wrap64 (x9_4 + a1)) : Int).toNat from by omega)
                   replace q29 := eq_true q29
                   go_wp2_with (first | ((with_reducible refine gate_callee (f := 34) rfl ?_); refine goesL_ (some 56) rfl rfl Tryd.func34 (by kernel_rfl) rfl #[.slice A29 y195.length c29] rfl (by (try simp only [List.map_toArray, List.map_cons, List.map_nil]); first | done | rfl | (simp only [List.length_drop, List.length_take]; rfl)) ?_; (with_reducible refine (wave_Forward.calls k4 _ _ y195 t199 t200 _ ?side1 ?side2 A22.out).mono ?_); (case side1 => repeat (first | exact (by repeat (first | (with_reducible exact HR198.out) | (with_reducible refine Kd.C_alloc ?_ _) | (with_reducible refine Kd.C_drewN ?_ _) | (with_reducible refine Kd.C_drew ?_) | exact HR198.out)) | (with_reducible refine Kd.C_alloc ?_ _) | (with_reducible refine Kd.C_drewN ?_ _) | (with_reducible refine Kd.C_drew ?_))); (case side2 => exact HC198.out); rintro e w30 ⟨v201, rfl, ho0, hb⟩; refine ⟨_, rfl, ?_⟩; have n0_ := zm (Kd.R_elder' (by (with_reducible repeat (first | apply zo | apply zp | apply zq)); exact HO_6.out) (Kd.R_base ho0) hb); have n1_ := zm (Kd.S_elder' (by (with_reducible repeat (first | apply Kd.S_alloc | apply Kd.S_drewN | apply Kd.S_drew)); exact HO_8.out) (Kd.R_base ho0) hb); have n2_ := zm (Kd.R_lower (Kd.R_new' ho0 (Kd.R_lt (by (with_reducible repeat (first | apply zo | apply zp | apply zq)); exact HO_6.out))) (zE (by repeat (first | (with_reducible first | exact HB.out | apply ze | apply zd | apply zf) | exact HB.out)))); have n3_ := zm (Kd.C_below (by repeat (first | (with_reducible exact HR198.out) | (with_reducible refine Kd.C_alloc ?_ _) | (with_reducible refine Kd.C_drewN ?_ _) | (with_reducible refine Kd.C_drew ?_) | exact HR198.out)) hb); have n4_ := zm (zJ (by repeat (first | (with_reducible first | exact HB.out | apply ze | apply zd | apply zf) | exact HB.out)) hb); clear HO_6; clear HO_8; clear HR198; clear HB; have HO_6 := n0_; have HO_8 := n1_; have HO202 := n2_; have HR198 := n3_; have HB := n4_; clear n0_ n1_ n2_ n3_ n4_; (try clear hb); (try clear hb2); (try clear hk); (try clear hi); (try clear ho0)))
                   go_ret2
                   exact ⟨_, by first | rfl | (simp [errW_none, errW_some] <;> rfl) | (simp [*, errW_none, errW_some] <;> rfl), by first | exact Kd.S_nil _ _ _ _ _ | exact Kd.N_nil _ _ _ _ _ | exact Kd.V_nil _ _ _ _ _ | exact Kd.Q_nil _ _ _ _ _ | exact Kd.R_nil _ _ _ _ _, by repeat (first | (with_reducible first | exact HB.out | apply ze | apply zd | apply zf) | exact HB.out)⟩
                 ·
                  rw [if_neg c21] at H
                  exact absurd H (by simp)
                ·
                 rw [if_neg c20] at H
                 exact absurd H (by simp)
               ·
                rw [if_neg c19] at H
                exact absurd H (by simp)
              ·
               rw [if_neg c18] at H
               have c18b0 : decide (x9_4 < (x6_3.length : Int)) = false := decide_eq_false c18
               clear c18
               simp only [Option.some.injEq, Prod.mk.injEq] at H
               obtain ⟨rfl, rfl⟩ := H
               go_wp2
               go_ret2
               exact ⟨_, by first | rfl | (simp [errW_none, errW_some] <;> rfl) | (simp [*, errW_none, errW_some] <;> rfl), by (with_reducible repeat (first | apply Kd.S_alloc | apply Kd.S_drewN | apply Kd.S_drew)); exact Kd.S_mono HO_8.out (fun _ hk => trivial), by repeat (first | (with_reducible first | exact HB.out | apply ze | apply zd | apply zf) | exact HB.out)⟩
        ·
         rw [if_neg c13] at H
         have c13b0 : (((x6_2.length : Int) % a1) == 0) = false := beq_eq_false_iff_ne.mpr c13
         have c13b1 : (((x6_2.length : Int) % a1) != 0) = true := bne_iff_ne.mpr c13
         by_cases c31 : x6_2.length < 17592186044416
         ·
          rw [if_pos c31] at H
          have LMc31 := zm c31
          clear c31
          obtain ⟨y191, hy191⟩ : ∃ y_ : List Int, y_ = (x6_2 ++ [0]) := ⟨_, rfl⟩
          replace H : (lap_Frames.l0 k2 a1 y191) = some (r1, r2) := by first | (rw [hy191]; with_reducible exact H) | (have H2_ := (Option.bind_some _ _).symm.trans H; rw [hy191]; with_reducible exact H2_) | (have H2_ := (Option.bind_some _ _).symm.trans H; with_reducible exact H2_) | with_reducible exact H | (rw [hy191]; exact H) | exact H
          have Ny191 := zm hy191
          clear hy191
          have H' := zm H
          clear H
          obtain ⟨Ao32, co32, eo32⟩ := Kd.R_slice HO_6.out
          subst eo32
          go_wp2_with (first | ((with_reducible refine gate_builtin (b := .append) (xs := #[.tmp 28, .tmp 29]) rfl ?_); at_builtin; refine Kd.R_append (Kd.int .i64) (w0 := w) w.heap.size rfl (.tmp 28) (.tmp 29) 22 2 (.int .i64 0) 8 rfl Tryd.underlying22 info2 rfl (by decide) (by omega) (.slice Ao32 x6_2.length co32) x6_2 0 [.int .i64 0] (fun _ => True) (fun _ => False) rfl rfl ?aP (fun _ hk => hk.elim) ?aF ?aO ?aB ?aS ?aL ?_; (case aP => exact rfl); (case aB => exact (by repeat (first | (with_reducible first | exact HB.out | apply ze | apply zd | apply zf) | exact HB.out))); (case aF => exact (fun _ _ => trivial)); (case aO => exact (by (with_reducible repeat (first | apply zo | apply zp | apply zq)); exact HO_6.out)); (case aS => exact (zE (by repeat (first | (with_reducible first | exact HB.out | apply ze | apply zd | apply zf) | exact HB.out)))); (case aL => have := LMc31.out; omega); intro v192 w33 ho hb hg hat; rw [← Ny191.out] at ho; have n0_ := zm (hb); have n1_ := zm (ho); clear HB; clear HO_6; have HB := n0_; have HO193 := n1_; clear n0_ n1_; clear ho hb hg hat))
          go_roundg k2
          case measure => have := HJ2.out; have := HK2.out; omega
          case rel => exact ⟨(y191), H', ⟨by have := HJ2.out; have := HK2.out; omega⟩, ⟨by (with_reducible repeat (first | apply zo | apply zp | apply zq)); exact HO193.out⟩, ⟨by repeat (first | (with_reducible first | exact HB.out | apply ze | apply zd | apply zf) | exact HB.out)⟩⟩
         ·
          rw [if_neg c31] at H
          exact absurd H (by simp)
    ·
     rw [if_neg c8] at H
     exact absurd H (by simp)

end Go.Proofs.YtllchhcdpfiodaaDoor.Prt

namespace Go.Proofs.YtllchhcdpfiodaaDoor.Prt
open Go.RowKit Go.Proofs.YtllchhcdpfiodaaDoorW.PrintWords Go.Proofs.YtllchhcdpfiodaaDoorW.PrintLast Go.Proofs.YtllchhcdpfiodaaDoorW.PrintMore
attribute [local go_sem] max2_int min2_int max_two min_two max_three min_three max_four min_four   -- for this text's walks alone
set_option linter.unusedVariables false
set_option linter.unusedSimpArgs false

/-! ### wave_Inverse: function 36 -/
mutual
def wave_Inverse.l0 : Nat → List Int → List Int → Option (List Int × Int)
 | 0, _, _ => none
 | k + 1, x0, x4 => if (x4.length : Int) < (x0.length : Int) then (if 0 ≤ (x4.length : Int) then (if (x4.length : Int) ≤ (wrap64 (2 * (x4.length : Int))) then (if (wrap64 (2 * (x4.length : Int))) ≤ (x0.length : Int) then (wave_Inverse.l1 k x0 ((x0.take ((wrap64 (2 * (x4.length : Int))) : Int).toNat).drop ((x4.length : Int) : Int).toNat) ([] : List Int) x4 (x4.length : Int) 0) else (none)) else (none)) else (none)) else (some (x4, 0))
def wave_Inverse.l1 : Nat → List Int → List Int → List Int → List Int → Int → Int → Option (List Int × Int)
 | 0, _, _, _, _, _, _ => none
 | k + 1, x0, x5, x6, x29, x30, x31 => if x31 < x30 then (if 0 ≤ x31 then (if x31 < (x29.length : Int) then (if x31 < (x5.length : Int) then ((wave_half.f (rd x5 x31)).bind fun t214 => ((some (([wrap64 ((rd x29 x31) - t214), wrap64 ((wrap64 ((rd x29 x31) - t214)) + (rd x5 x31))] : List Int) : List Int)).bind fun y216 => (if x6.length + y216.length < 17592186044416 then (wave_Inverse.l1 k x0 x5 (x6 ++ y216) x29 x30 (wrap64 (x31 + 1))) else (none)))) else (none)) else (none)) else (none)) else (wave_Inverse.l0 k x0 x6)
end
def wave_Inverse.f (k : Nat) (l0 : List Int) : Option (List Int × Int) := (wave_sized.f k l0 67108864).bind fun t206 => (if t206 = true then (if 0 < (l0.length : Int) then (wave_Inverse.l0 k l0 (([rd l0 0] : List Int))) else (none)) else (some (([] : List Int), 1)))
theorem wave_Inverse.mono_l : ∀ k, (∀ y0 y1, LeO (wave_Inverse.l0 k y0 y1) (wave_Inverse.l0 (k + 1) y0 y1)) ∧ (∀ y0 y1 y2 y3 y4 y5, LeO (wave_Inverse.l1 k y0 y1 y2 y3 y4 y5) (wave_Inverse.l1 (k + 1) y0 y1 y2 y3 y4 y5))
 | 0 => ⟨fun _ _ r h => by simp [wave_Inverse.l0] at h, fun _ _ _ _ _ _ r h => by simp [wave_Inverse.l1] at h⟩
 | k + 1 => by
  obtain ⟨ih0, ih1⟩ := wave_Inverse.mono_l k
  refine ⟨?_, ?_⟩
  ·
   intro y0 y1
   unfold wave_Inverse.l0
   repeat' first
   | (with_reducible exact ih0 _ _)
   | (with_reducible exact ih1 _ _ _ _ _ _)
   | (with_reducible exact wave_sized.mono _ _ _)
   | (with_reducible exact LeO.refl _)
   | (with_reducible exact LeO.none _)
   | (with_reducible refine LeO.ite ?_ ?_)
   | (with_reducible refine LeO.bind ?_ (fun _ => ?_))
   | exact ih0 _ _
   | exact ih1 _ _ _ _ _ _
   | exact wave_sized.mono _ _ _
   | exact LeO.none _
   | refine LeO.ite ?_ ?_
   | refine LeO.bind ?_ (fun _ => ?_)
  ·
   intro y0 y1 y2 y3 y4 y5
   unfold wave_Inverse.l1
   repeat' first
   | (with_reducible exact ih0 _ _)
   | (with_reducible exact ih1 _ _ _ _ _ _)
   | (with_reducible exact wave_sized.mono _ _ _)
   | (with_reducible exact LeO.refl _)
   | (with_reducible exact LeO.none _)
   | (with_reducible refine LeO.ite ?_ ?_)
   | (with_reducible refine LeO.bind ?_ (fun _ => ?_))
   | exact ih0 _ _
   | exact ih1 _ _ _ _ _ _
   | exact wave_sized.mono _ _ _
   | exact LeO.none _
   | refine LeO.ite ?_ ?_
   | refine LeO.bind ?_ (fun _ => ?_)
theorem wave_Inverse.mono : ∀ a0 k, LeO (wave_Inverse.f k a0) (wave_Inverse.f (k + 1) a0) := by
 intro a0 k
 obtain ⟨ih0, ih1⟩ := wave_Inverse.mono_l k
 unfold wave_Inverse.f
 repeat' first
   | (with_reducible exact ih0 _ _)
   | (with_reducible exact ih1 _ _ _ _ _ _)
   | (with_reducible exact wave_sized.mono _ _ _)
   | (with_reducible exact LeO.refl _)
   | (with_reducible exact LeO.none _)
   | (with_reducible refine LeO.ite ?_ ?_)
   | (with_reducible refine LeO.bind ?_ (fun _ => ?_))
   | exact ih0 _ _
   | exact ih1 _ _ _ _ _ _
   | exact wave_sized.mono _ _ _
   | exact LeO.none _
   | refine LeO.ite ?_ ?_
   | refine LeO.bind ?_ (fun _ => ?_)
set_option maxHeartbeats 8000000 in
set_option maxRecDepth 100000 in
theorem wave_Inverse.calls (k : Nat) (A0 : Option Addr) (c0 : Nat) (l0 : List Int) (r1 : List Int) (r2 : Int) (w : World) (hr0 : Kd.C (Kd.int .i64) w A0 l0.length l0) (hc0 : l0.length ≤ c0) (h : wave_Inverse.f k l0 = some (r1, r2)) :
  Calls Tryd.prog 36 #[.slice A0 l0.length c0] w fun e w' => ∃ v0_ : Value, e = .returned (.tuple #[v0_, .int .i64 r2]) ∧ Kd.R (Kd.int .i64) 2 w' w.heap.size (fun _ => True) v0_ r1 ∧ Below w.heap.size w w' := by
 have HR0 := zm hr0
 have HC0 := zm hc0
 clear hr0 hc0
 have HB := zm (Below.refl w.heap.size w)
 have H : ((wave_sized.f k l0 67108864).bind fun t206 => (if t206 = true then (if 0 < (l0.length : Int) then (wave_Inverse.l0 k l0 (([rd l0 0] : List Int))) else (none)) else (some (([] : List Int), 1)))) = some (r1, r2) := h
 clear h
 replace H := Option.bind_eq_some_iff.mp H
 obtain ⟨t206, A20, H⟩ := H
 replace H : (if t206 = true then (if 0 < (l0.length : Int) then (wave_Inverse.l0 k l0 (([rd l0 0] : List Int))) else (none)) else (some (([] : List Int), 1))) = some (r1, r2) := H
 have A2 := zm A20
 clear A20
 by_cases c3 : t206 = true
 ·
  subst c3
  have H1 : (if 0 < (l0.length : Int) then (wave_Inverse.l0 k l0 (([rd l0 0] : List Int))) else (none)) = some (r1, r2) := by rw [if_pos rfl] at H; exact H
  clear H
  have H := H1
  clear H1
  by_cases c4 : 0 < (l0.length : Int)
  ·
   rw [if_pos c4] at H
   have c4b0 : decide (0 < (l0.length : Int)) = true := decide_eq_true c4
   have c4b1 : decide (0 < l0.length) = true := decide_eq_true (by omega)
   clear c4
   obtain ⟨y208, hy208⟩ : ∃ y_ : List Int, y_ = (([rd l0 0] : List Int)) := ⟨_, rfl⟩
   replace H : (wave_Inverse.l0 k l0 y208) = some (r1, r2) := by first | (rw [hy208]; with_reducible exact H) | (have H2_ := (Option.bind_some _ _).symm.trans H; rw [hy208]; with_reducible exact H2_) | (have H2_ := (Option.bind_some _ _).symm.trans H; with_reducible exact H2_) | with_reducible exact H | (rw [hy208]; exact H) | exact H
   have Ny208 := zm hy208
   clear hy208
   have H' := zm H
   clear H
   go_enter Tryd.func36, Tryd.ntmps36
   go_wp2_with (first | ((with_reducible refine gate_callee (f := 45) rfl ?_); refine goesL_ (some 11) rfl rfl Tryd.func45 (by kernel_rfl) rfl #[.slice A0 l0.length c0, .int .i64 67108864] rfl (by (try simp only [List.map_toArray, List.map_cons, List.map_nil]); first | done | rfl | (simp only [List.length_drop, List.length_take]; rfl)) ?_; (with_reducible refine (wave_sized.calls k _ _ l0 67108864 true _ ?side1 ?side2 A2.out).mono ?_); (case side1 => repeat (first | exact HR0.out | (with_reducible refine Kd.C_alloc ?_ _) | (with_reducible refine Kd.C_drewN ?_ _) | (with_reducible refine Kd.C_drew ?_))); (case side2 => exact HC0.out); rintro e w' ⟨rfl, ⟨nd, rfl⟩⟩; refine ⟨_, rfl, ?_⟩; have p207 : 0 ≤ (0 : Int) := (by omega); have q207 : 0 < (l0.length : Int) := of_decide_eq_true (by first | (with_reducible assumption) | assumption); obtain ⟨ad207, e207, hx207_0⟩ := Kd.at_int HR0.out 0 p207 q207; cases e207; have qi207 : (0 < l0.length) = True := eq_true (by omega); (try rw [show ((0 : Int)).toNat = 0 from rfl] at hx207_0); (try rw [Addr.add_zero'] at hx207_0); replace p207 := eq_true p207; replace q207 := eq_true q207) | ((with_reducible refine gate_dst (N := 16) rfl ?_); refine Kd.R_lit (Kd.int .i64) _ 2 ?hg (N := 16) ?hd (xs := ([rd l0 0] : List Int)) (inner := [.int .i64 (rd l0 0)]) (ok := fun _ => True) (okp := fun _ => True) ?hr ?hp (fun _ hk => hk) trivial (Below.refl _ _) (Nat.le_refl _) (by simp) ?_; (case hd => rfl); (case hg => rfl); (case hr => first | (go_simp; done) | (go_simp; rfl)); (case hp => exact (Reps.one (show Kd.M (Kd.int .i64) _ _ _ (rd l0 0) [.int .i64 (rd l0 0)] from rfl) (Reps.none _ _))); intro v209 w5 ho6 hb hg_ hnew_; clear hg_ hnew_; (first | rw [← Ny208.out] at ho6 | (simp only [Int.reduceToNat] at ho6; rw [← Ny208.out] at ho6)); have n0_ := zm (Kd.R_lower ho6 (zE (by repeat (first | (with_reducible first | exact HB.out | apply ze | apply zd | apply zf) | exact HB.out)))); have n1_ := zm (zJ (by repeat (first | (with_reducible first | exact HB.out | apply ze | apply zd | apply zf) | exact HB.out)) hb); clear HB; have HO210 := n0_; have HB := n1_; clear n0_ n1_; clear hb ho6))
   go_loopg [4] k (fun kq v4 w' => ∃ (x4_1 : List Int), Aside0 (wave_Inverse.l0 kq l0 x4_1 = some (r1, r2)) ∧ Aside0 (kq ≤ k) ∧ Aside0 (Kd.R (Kd.int .i64) 2 w' w.heap.size (fun _ => True) v4 x4_1) ∧ Aside0 (Below w.heap.size w w'))
   case atStart => exact ⟨(y208), H', ⟨Nat.le_refl _⟩, ⟨by (with_reducible repeat (first | apply zo | apply zp | apply zq)); exact HO210.out⟩, ⟨by repeat (first | (with_reducible first | exact HB.out | apply ze | apply zd | apply zf) | exact HB.out)⟩⟩
   case round =>
    clear H'
    try clear p2
    try clear q2
    try clear hx2
    try clear qi2
    try clear c3
    try clear c4
    try clear c4b0
    try clear c4b1
    try clear hx207_0
    try clear p207
    try clear q207
    obtain ⟨x4_1, HA, HK1, HO_4, HB⟩ := hrel
    cases gk with
    | zero => exact absurd HA.out (by simp [wave_Inverse.l0])
    | succ k1 =>
     have H := HA.out
     clear HA
     simp only [wave_Inverse.l0] at H
     by_cases c7 : (x4_1.length : Int) < (l0.length : Int)
     ·
      rw [if_pos c7] at H
      have c7b0 : decide ((x4_1.length : Int) < (l0.length : Int)) = true := decide_eq_true c7
      have c7b1 : decide (x4_1.length < l0.length) = true := decide_eq_true (Int.ofNat_lt.mp c7)
      clear c7
      by_cases c8 : 0 ≤ (x4_1.length : Int)
      ·
       rw [if_pos c8] at H
       have c8b0 := eq_true c8
       have c8b1 : decide (0 ≤ (x4_1.length : Int)) = true := decide_eq_true c8
       clear c8
       by_cases c9 : (x4_1.length : Int) ≤ (wrap64 (2 * (x4_1.length : Int)))
       ·
        rw [if_pos c9] at H
        have c9b0 := eq_true c9
        have c9b1 : decide ((x4_1.length : Int) ≤ (wrap64 (2 * (x4_1.length : Int)))) = true := decide_eq_true c9
        clear c9
        by_cases c10 : (wrap64 (2 * (x4_1.length : Int))) ≤ (l0.length : Int)
        ·
         rw [if_pos c10] at H
         have c10b0 := eq_true c10
         have c10b1 : decide ((wrap64 (2 * (x4_1.length : Int))) ≤ (l0.length : Int)) = true := decide_eq_true c10
         clear c10
         have H' := zm H
         clear H
         obtain ⟨Ao11, co11, eo11⟩ := Kd.R_slice HO_4.out
         subst eo11
         obtain ⟨i012, hi012, _, hsz12, _⟩ := info_parts info2
         obtain ⟨A12, hcut12, hA12, hC12⟩ := print_mid_of (P := Tryd.prog) (Value.int .i64) 0 22 2 .i64 .i64 Tryd.underlying22 hi012 hsz12 (some ad207) c0 l0 (x4_1.length : Int) (wrap64 (2 * (x4_1.length : Int))) (of_decide_eq_true (by first | (with_reducible assumption) | assumption)) (by first | omega | exact of_decide_eq_true (by first | (with_reducible assumption) | assumption)) (of_decide_eq_true (by first | (with_reducible assumption) | assumption)) HC0.out
         have HR211 := zm (Kd.C_of_reads (h1 := fun _ => rfl) (hA12 _ (Kd.reads_of_C HR0.out)))
         have HC211 := zm hC12
         clear hA12 hC12 hi012 hsz12
         generalize hDD_ : ((l0.take ((wrap64 (2 * (x4_1.length : Int))) : Int).toNat).drop ((x4_1.length : Int) : Int).toNat) = DD_ at hcut12 HR211 HC211 H'
         clear hDD_
         go_wp2
         go_loopg [6, 31] k1 (fun kq v6 v31 w' => ∃ (x6_2 : List Int) (x31_2 : Int), v31 = .int .i64 x31_2 ∧ Aside0 (wave_Inverse.l1 kq l0 DD_ x6_2 x4_1 (x4_1.length : Int) x31_2 = some (r1, r2)) ∧ Aside0 (kq ≤ k1) ∧ Aside0 (Kd.R (Kd.int .i64) 2 w' w.heap.size (fun k_ => some k_ ≠ ((.slice Ao11 x4_1.length co11) : Value).ownBlock) v6 x6_2) ∧ Aside0 (Kd.R (Kd.int .i64) 2 w' w.heap.size (fun k_ => some k_ ≠ (v6 : Value).ownBlock) (.slice Ao11 x4_1.length co11) x4_1) ∧ Aside0 (Below w.heap.size w w'))
         case atStart => exact ⟨(([] : List Int)), (0), (by first | rfl | (simp; done) | (simp [*]; done)), H', ⟨Nat.le_refl _⟩, ⟨by first | exact Kd.R_nil _ _ _ _ _ | exact Kd.N_nil _ _ _ _ _ | exact Kd.V_nil _ _ _ _ _ | exact Kd.Q_nil _ _ _ _ _ | exact Kd.S_nil _ _ _ _ _⟩, ⟨by (with_reducible repeat (first | apply zo | apply zp | apply zq)); exact zG HO_4.out (fun _ hk => (by simp [Value.ownBlock]))⟩, ⟨by repeat (first | (with_reducible first | exact HB.out | apply ze | apply zd | apply zf) | exact HB.out)⟩⟩
         case round =>
          clear H'
          try clear c1
          try clear p2
          try clear q2
          try clear hx2
          try clear qi2
          try clear c3
          try clear c4
          try clear c4b0
          try clear c4b1
          try clear p6
          try clear c7
          try clear c7b0
          try clear c7b1
          try clear c8
          try clear c8b0
          try clear c8b1
          try clear c9
          try clear c9b0
          try clear c9b1
          try clear c10
          try clear c10b0
          try clear c10b1
          try clear hx207_0
          try clear p2
          try clear p207
          try clear q2
          try clear q207
          obtain ⟨x6_2, x31_2, rfl, HA, HK2, HO_6, HO_29, HB⟩ := hrel
          cases gk with
          | zero => exact absurd HA.out (by simp [wave_Inverse.l1])
          | succ k2 =>
           have H := HA.out
           clear HA
           simp only [wave_Inverse.l1] at H
           by_cases c13 : x31_2 < (x4_1.length : Int)
           ·
            rw [if_pos c13] at H
            have c13b0 : decide (x31_2 < (x4_1.length : Int)) = true := decide_eq_true c13
            clear c13
            by_cases c14 : 0 ≤ x31_2
            ·
             rw [if_pos c14] at H
             have c14b0 : decide (0 ≤ x31_2) = true := decide_eq_true c14
             clear c14
             by_cases c15 : x31_2 < (x4_1.length : Int)
             ·
              rw [if_pos c15] at H
              have c15b0 : decide (x31_2 < (x4_1.length : Int)) = true := decide_eq_true c15
              clear c15
              by_cases c16 : x31_2 < (DD_.length : Int)
              ·
               rw [if_pos c16] at H
               have c16b0 : decide (x31_2 < (DD_.length : Int)) = true := decide_eq_true c16
               clear c16
               replace H := Option.bind_eq_some_iff.mp H
               obtain ⟨t214, A170, H⟩ := H
               replace H : ((some (([wrap64 ((rd x4_1 x31_2) - t214), wrap64 ((wrap64 ((rd x4_1 x31_2) - t214)) + (rd DD_ x31_2))] : List Int) : List Int)).bind fun y216 => (if x6_2.length + y216.length < 17592186044416 then (wave_Inverse.l1 k2 l0 DD_ (x6_2 ++ y216) x4_1 (x4_1.length : Int) (wrap64 (x31_2 + 1))) else (none))) = some (r1, r2) := H
               have A17 := zm A170
               clear A170
               obtain ⟨y216, hy216⟩ : ∃ y_ : List Int, y_ = (([wrap64 ((rd x4_1 x31_2) - t214), wrap64 ((wrap64 ((rd x4_1 x31_2) - t214)) + (rd DD_ x31_2))] : List Int)) := ⟨_, rfl⟩
               replace H : (if x6_2.length + y216.length < 17592186044416 then (wave_Inverse.l1 k2 l0 DD_ (x6_2 ++ y216) x4_1 (x4_1.length : Int) (wrap64 (x31_2 + 1))) else (none)) = some (r1, r2) := by first | (rw [hy216]; with_reducible exact H) | (have H2_ := (Option.bind_some _ _).symm.trans H; rw [hy216]; with_reducible exact H2_) | (have H2_ := (Option.bind_some _ _).symm.trans H; with_reducible exact H2_) | with_reducible exact H | (rw [hy216]; exact H) | exact H
               have Ny216 := zm hy216
               clear hy216
               by_cases c18 : x6_2.length + y216.length < 17592186044416
               ·
                rw [if_pos c18] at H
                have LMc18 := zm c18
                clear c18
                obtain ⟨y219, hy219⟩ : ∃ y_ : List Int, y_ = (x6_2 ++ y216) := ⟨_, rfl⟩
                replace H : (wave_Inverse.l1 k2 l0 DD_ y219 x4_1 (x4_1.length : Int) (wrap64 (x31_2 + 1))) = some (r1, r2) := by first | (rw [hy219]; with_reducible exact H) | (have H2_ := (Option.bind_some _ _).symm.trans H; rw [hy219]; with_reducible exact H2_) | (have H2_ := (Option.bind_some _ _).symm.trans H; with_reducible exact H2_) | with_reducible exact H | (rw [hy219]; exact H) | exact H
                have Ny219 := zm hy219
                clear hy219
                have H' := zm H
                clear H
                have p212 : 0 ≤ (x31_2 : Int) := of_decide_eq_true (by first | (with_reducible assumption) | assumption)
                have q212 : x31_2 < (x4_1.length : Int) := of_decide_eq_true (by first | (with_reducible assumption) | assumption)
                obtain ⟨ad212, e212, hx212_0⟩ := Kd.at_int (Kd.R_reads' HO_29.out).2.2 x31_2 p212 q212
                cases e212
                replace p212 := eq_true p212
                replace q212 := eq_true q212
                have p213 : 0 ≤ (x31_2 : Int) := of_decide_eq_true (by first | (with_reducible assumption) | assumption)
                have q213 : x31_2 < (DD_.length : Int) := of_decide_eq_true (by first | (with_reducible assumption) | assumption)
                obtain ⟨ad213, e213, hx213_0⟩ := Kd.at_int HR211.out x31_2 p213 q213
                cases e213
                replace hx213_0 := (HB.out.cell (zb w _ hx213_0)).trans hx213_0
                replace p213 := eq_true p213
                replace q213 := eq_true q213
                go_wp2_with (first | ((with_reducible refine gate_callee (f := 44) rfl ?_); refine goesL_ (some 41) rfl rfl Tryd.func44 (by kernel_rfl) rfl #[.int .i64 (rd DD_ x31_2)] rfl (by (try simp only [List.map_toArray, List.map_cons, List.map_nil]); first | done | rfl | (simp only [List.length_drop, List.length_take]; rfl)) ?_; (with_reducible refine (wave_half.calls (rd DD_ x31_2) t214 _ A17.out).mono ?_); rintro e w' ⟨rfl, ⟨nd, rfl⟩⟩; refine ⟨_, rfl, ?_⟩; have p215 : 0 ≤ (x31_2 : Int) := of_decide_eq_true (by first | (with_reducible assumption) | assumption); have q215 : x31_2 < (DD_.length : Int) := of_decide_eq_true (by first | (with_reducible assumption) | assumption); obtain ⟨ad215, e215, hx215_0⟩ := Kd.at_int HR211.out x31_2 p215 q215; obtain rfl : ad213 = ad215 := (by injection e215); replace hx215_0 := (HB.out.cell (zb w _ hx215_0)).trans hx215_0; replace p215 := eq_true p215; replace q215 := eq_true q215) | ((with_reducible refine gate_dst (N := 51) rfl ?_); refine Kd.R_lit (Kd.int .i64) _ 2 ?hg (N := 51) ?hd (xs := ([wrap64 ((rd x4_1 x31_2) - t214), wrap64 ((wrap64 ((rd x4_1 x31_2) - t214)) + (rd DD_ x31_2))] : List Int)) (inner := [.int .i64 (wrap64 ((rd x4_1 x31_2) - t214)), .int .i64 (wrap64 ((wrap64 ((rd x4_1 x31_2) - t214)) + (rd DD_ x31_2)))]) (ok := fun _ => True) (okp := fun _ => True) ?hr ?hp (fun _ hk => hk) trivial (Below.refl _ _) (Nat.le_refl _) (by simp) ?_; (case hd => rfl); (case hg => rfl); (case hr => first | (go_simp; done) | (go_simp; rfl)); (case hp => exact (Reps.one (show Kd.M (Kd.int .i64) _ _ _ (wrap64 ((rd x4_1 x31_2) - t214)) [.int .i64 (wrap64 ((rd x4_1 x31_2) - t214))] from rfl) (Reps.one (show Kd.M (Kd.int .i64) _ _ _ (wrap64 ((wrap64 ((rd x4_1 x31_2) - t214)) + (rd DD_ x31_2))) [.int .i64 (wrap64 ((wrap64 ((rd x4_1 x31_2) - t214)) + (rd DD_ x31_2)))] from rfl) (Reps.none _ _)))); intro v217 w19 ho20 hb hg_ hnew_; clear hg_ hnew_; (first | rw [← Ny216.out] at ho20 | (simp only [Int.reduceToNat] at ho20; rw [← Ny216.out] at ho20)); have n0_ := zm (Kd.R_elder' (by (with_reducible repeat (first | apply zo | apply zp | apply zq)); exact HO_6.out) (Kd.R_base ho20) hb); have n1_ := zm (Kd.R_elder' (by (with_reducible repeat (first | apply zo | apply zp | apply zq)); exact HO_29.out) (Kd.R_base ho20) hb); have n2_ := zm (Kd.R_lower (Kd.R_new' (Kd.R_new' ho20 (Kd.R_lt (by (with_reducible repeat (first | apply zo | apply zp | apply zq)); exact HO_6.out))) (Kd.R_lt (by (with_reducible repeat (first | apply zo | apply zp | apply zq)); exact HO_29.out))) (zE (by repeat (first | (with_reducible first | exact HB.out | apply ze | apply zd | apply zf) | exact HB.out)))); have n3_ := zm (zJ (by repeat (first | (with_reducible first | exact HB.out | apply ze | apply zd | apply zf) | exact HB.out)) hb); clear HO_6; clear HO_29; clear HB; have HO_6 := n0_; have HO_29 := n1_; have HO218 := n2_; have HB := n3_; clear n0_ n1_ n2_ n3_; clear hb ho20; obtain ⟨Ao22, co22, eo22⟩ := Kd.R_slice HO218.out; subst eo22) | ((with_reducible refine gate_builtin (b := .append) (xs := #[.tmp 43, .tmp 51]) rfl ?_); at_builtin; refine Kd.R_append_rows (Kd.int .i64) (w0 := w) w.heap.size rfl (.tmp 43) (.tmp 51) 22 2 (.int .i64 0) 8 rfl Tryd.underlying22 info2 rfl (by decide) (by omega) u6 x6_2 y216 _ _ _ (fun k_ => some k_ ≠ (.slice (some ad212) x4_1.length co11 : Value).ownBlock ∧ some k_ ≠ (.slice Ao22 y216.length co22 : Value).ownBlock) (fun _ => False) rfl rfl ?aO ?aR (fun _ _ h => h) (fun _ h => h.elim) ?aF ?aB ?aS ?aL ?_; (case aR => repeat (first | exact (Kd.R_reads' HO218.out).2.2 | (with_reducible refine Kd.C_alloc ?_ _) | (with_reducible refine Kd.C_drewN ?_ _) | (with_reducible refine Kd.C_drew ?_))); (case aB => exact (by repeat (first | (with_reducible first | exact HB.out | apply ze | apply zd | apply zf) | exact HB.out))); (case aF => exact (fun k_ hk => ⟨Kd.fresh' (Kd.R_lt (by (with_reducible repeat (first | apply zo | apply zp | apply zq)); exact HO_29.out)) k_ hk, Kd.fresh' (Kd.R_lt (by (with_reducible repeat (first | apply zo | apply zp | apply zq)); exact HO218.out)) k_ hk⟩)); (case aO => exact (by (with_reducible repeat (first | apply zo | apply zp | apply zq)); exact HO_6.out)); (case aS => exact (zE (by repeat (first | (with_reducible first | exact HB.out | apply ze | apply zd | apply zf) | exact HB.out)))); (case aL => have := LMc18.out; omega); intro v220 w21 ho hb hg hat; rw [← Ny219.out] at ho; have n0_ := zm (Kd.R_after (ok := (fun k_ => some k_ ≠ (.slice Ao22 y216.length co22 : Value).ownBlock)) (by (with_reducible repeat (first | apply zo | apply zp | apply zq)); exact zG HO_29.out (fun _ hk => ⟨hk.2, hk.1⟩)) hg hat); have n1_ := zm (Kd.R_after (ok := (fun k_ => some k_ ≠ (.slice (some ad212) x4_1.length co11 : Value).ownBlock)) (by (with_reducible repeat (first | apply zo | apply zp | apply zq)); exact zG HO218.out (fun _ hk => ⟨hk.2, hk.1.2⟩)) hg hat); have n2_ := zm (hb); have n3_ := zm (ho); clear HO_29; clear HO218; clear HB; clear HO_6; have HO_29 := n0_; have HO218 := n1_; have HB := n2_; have HO221 := n3_; clear n0_ n1_ n2_ n3_; clear ho hb hg hat))
                go_roundg k2
                case measure => have := HK1.out; have := HK2.out; omega
                case rel => exact ⟨(y219), (wrap64 (x31_2 + 1)), (by first | rfl | (simp; done) | (simp [*]; done)), H', ⟨by have := HK1.out; have := HK2.out; omega⟩, ⟨by (with_reducible repeat (first | apply zo | apply zp | apply zq)); exact zG HO221.out (fun _ hk => hk.1)⟩, ⟨by (with_reducible repeat (first | apply zo | apply zp | apply zq)); exact zG HO_29.out (fun _ hk => hk.2)⟩, ⟨by repeat (first | (with_reducible first | exact HB.out | apply ze | apply zd | apply zf) | exact HB.out)⟩⟩
               ·
                rw [if_neg c18] at H
                exact absurd H (by simp)
              ·
               rw [if_neg c16] at H
               exact absurd H (by simp)
             ·
              rw [if_neg c15] at H
              exact absurd H (by simp)
            ·
             rw [if_neg c14] at H
             exact absurd H (by simp)
           ·
            rw [if_neg c13] at H
            have c13b0 : decide (x31_2 < (x4_1.length : Int)) = false := decide_eq_false c13
            clear c13
            have H' := zm H
            clear H
            go_wp2
            go_roundg k2
            case measure => have := HK1.out; have := HK2.out; omega
            case rel => exact ⟨(x6_2), H', ⟨by have := HK1.out; have := HK2.out; omega⟩, ⟨by (with_reducible repeat (first | apply zo | apply zp | apply zq)); exact zG HO_6.out (fun _ hk => trivial)⟩, ⟨by repeat (first | (with_reducible first | exact HB.out | apply ze | apply zd | apply zf) | exact HB.out)⟩⟩
        ·
         rw [if_neg c10] at H
         exact absurd H (by simp)
       ·
        rw [if_neg c9] at H
        exact absurd H (by simp)
      ·
       rw [if_neg c8] at H
       exact absurd H (by simp)
     ·
      rw [if_neg c7] at H
      have c7b0 : decide ((x4_1.length : Int) < (l0.length : Int)) = false := decide_eq_false c7
      have c7b1 : decide (x4_1.length < l0.length) = false := decide_eq_false (fun h => c7 (Int.ofNat_lt.mpr h))
      clear c7
      simp only [Option.some.injEq, Prod.mk.injEq] at H
      obtain ⟨rfl, rfl⟩ := H
      obtain ⟨Ao23, co23, eo23⟩ := Kd.R_slice HO_4.out
      subst eo23
      go_wp2
      go_ret2
      exact ⟨_, by first | rfl | (simp [errW_none, errW_some] <;> rfl) | (simp [*, errW_none, errW_some] <;> rfl), by (with_reducible repeat (first | apply zo | apply zp | apply zq)); exact HO_4.out, by repeat (first | (with_reducible first | exact HB.out | apply ze | apply zd | apply zf) | exact HB.out)⟩
  ·
   rw [if_neg c4] at H
   exact absurd H (by simp)
 ·
  replace c3 := Bool.eq_false_iff.mpr c3
  subst c3
  have H1 : (some (([] : List Int), 1)) = some (r1, r2) := by rw [if_neg (show ¬ (false = true) by decide)] at H; exact H
  clear H
  have H := H1
  clear H1
  simp only [Option.some.injEq, Prod.mk.injEq] at H
  obtain ⟨rfl, rfl⟩ := H
  go_enter Tryd.func36, Tryd.ntmps36
  go_wp2_with (first | ((with_reducible refine gate_callee (f := 45) rfl ?_); refine goesL_ (some 11) rfl rfl Tryd.func45 (by kernel_rfl) rfl #[.slice A0 l0.length c0, .int .i64 67108864] rfl (by (try simp only [List.map_toArray, List.map_cons, List.map_nil]); first | done | rfl | (simp only [List.length_drop, List.length_take]; rfl)) ?_; (with_reducible refine (wave_sized.calls k _ _ l0 67108864 false _ ?side1 ?side2 A2.out).mono ?_); (case side1 => repeat (first | exact HR0.out | (with_reducible refine Kd.C_alloc ?_ _) | (with_reducible refine Kd.C_drewN ?_ _) | (with_reducible refine Kd.C_drew ?_))); (case side2 => exact HC0.out); rintro e w' ⟨rfl, ⟨nd, rfl⟩⟩; refine ⟨_, rfl, ?_⟩))
  go_ret2
  exact ⟨_, by first | rfl | (simp [errW_none, errW_some] <;> rfl) | (simp [*, errW_none, errW_some] <;> rfl), by first | exact Kd.R_nil _ _ _ _ _ | exact Kd.N_nil _ _ _ _ _ | exact Kd.V_nil _ _ _ _ _ | exact Kd.Q_nil _ _ _ _ _ | exact Kd.S_nil _ _ _ _ _, by repeat (first | (with_reducible first | exact HB.out | apply ze | apply zd | apply zf) | exact HB.out)⟩

end Go.Proofs.YtllchhcdpfiodaaDoor.Prt

namespace Go.Proofs.YtllchhcdpfiodaaDoor.Prt
open Go.RowKit Go.Proofs.YtllchhcdpfiodaaDoorW.PrintWords Go.Proofs.YtllchhcdpfiodaaDoorW.PrintLast Go.Proofs.YtllchhcdpfiodaaDoorW.PrintMore
attribute [local go_sem] max2_int min2_int max_two min_two max_three min_three max_four min_four   -- for this text's walks alone
set_option linter.unusedVariables false
set_option linter.unusedSimpArgs false

/-! ### lap_Signal: function 24 -/
mutual
def lap_Signal.j0 : Nat → List (List Int) → Int → Bool → Option (List Int × Int)
 | 0, _, _, _ => none
 | k + 1, x0, x1, x21 => if x21 = true then (some (([] : List Int), 1)) else (lap_Signal.l0 k x1 ([] : List Int) x0 (x0.length : Int) 0)
def lap_Signal.l0 : Nat → Int → List Int → List (List Int) → Int → Int → Option (List Int × Int)
 | 0, _, _, _, _, _ => none
 | k + 1, x1, x6, x22, x23, x24 => if x24 < x23 then (if 0 ≤ x24 then (if x24 < (x22.length : Int) then ((wave_Inverse.f k (rd_L1 x22 x24)).bind fun bt224 => (if bt224.2 = 0 then (if ((rd_L1 x22 x24).length : Int) = x1 then (if x6.length + bt224.1.length < 17592186044416 then (lap_Signal.l0 k x1 (x6 ++ bt224.1) x22 x23 (wrap64 (x24 + 1))) else (none)) else (some (([] : List Int), 1))) else (some (([] : List Int), 1)))) else (none)) else (none)) else (lap_Signal.l1 k x1 x6 (wrap64 ((x6.length : Int) - x1)))
def lap_Signal.l1 : Nat → Int → List Int → Int → Option (List Int × Int)
 | 0, _, _, _ => none
 | k + 1, x1, x6, x11 => if x11 > 0 then ((lap_back.f k x6 x11).bind fun t231 => (lap_Signal.l1 k x1 t231 (wrap64 (x11 - x1)))) else (some (x6, 0))
end
def lap_Signal.f (k : Nat) (l0 : List (List Int)) (a1 : Int) : Option (List Int × Int) := (lap_sized.f a1).bind fun t222 => (if t222 = true then (if a1 = 0 then (none) else (lap_Signal.j0 k l0 a1 (decide ((l0.length : Int) > (wrap64 ((4000 : Int) / a1)))))) else (lap_Signal.j0 k l0 a1 true))
theorem lap_Signal.mono_l : ∀ k, (∀ y0 y1 y2, LeO (lap_Signal.j0 k y0 y1 y2) (lap_Signal.j0 (k + 1) y0 y1 y2)) ∧ (∀ y0 y1 y2 y3 y4, LeO (lap_Signal.l0 k y0 y1 y2 y3 y4) (lap_Signal.l0 (k + 1) y0 y1 y2 y3 y4)) ∧ (∀ y0 y1 y2, LeO (lap_Signal.l1 k y0 y1 y2) (lap_Signal.l1 (k + 1) y0 y1 y2))
 | 0 => ⟨fun _ _ _ r h => by simp [lap_Signal.j0] at h, fun _ _ _ _ _ r h => by simp [lap_Signal.l0] at h, fun _ _ _ r h => by simp [lap_Signal.l1] at h⟩
 | k + 1 => by
  obtain ⟨ih0, ih1, ih2⟩ := lap_Signal.mono_l k
  refine ⟨?_, ?_, ?_⟩
  ·
   intro y0 y1 y2
   unfold lap_Signal.j0
   repeat' first
   | (with_reducible exact ih0 _ _ _)
   | (with_reducible exact ih1 _ _ _ _ _)
   | (with_reducible exact ih2 _ _ _)
   | (with_reducible exact lap_back.mono _ _ _)
   | (with_reducible exact wave_Inverse.mono _ _)
   | (with_reducible exact LeO.refl _)
   | (with_reducible exact LeO.none _)
   | (with_reducible refine LeO.ite ?_ ?_)
   | (with_reducible refine LeO.bind ?_ (fun _ => ?_))
   | exact ih0 _ _ _
   | exact ih1 _ _ _ _ _
   | exact ih2 _ _ _
   | exact lap_back.mono _ _ _
   | exact wave_Inverse.mono _ _
   | exact LeO.none _
   | refine LeO.ite ?_ ?_
   | refine LeO.bind ?_ (fun _ => ?_)
  ·
   intro y0 y1 y2 y3 y4
   unfold lap_Signal.l0
   repeat' first
   | (with_reducible exact ih0 _ _ _)
   | (with_reducible exact ih1 _ _ _ _ _)
   | (with_reducible exact ih2 _ _ _)
   | (with_reducible exact lap_back.mono _ _ _)
   | (with_reducible exact wave_Inverse.mono _ _)
   | (with_reducible exact LeO.refl _)
   | (with_reducible exact LeO.none _)
   | (with_reducible refine LeO.ite ?_ ?_)
   | (with_reducible refine LeO.bind ?_ (fun _ => ?_))
   | exact ih0 _ _ _
   | exact ih1 _ _ _ _ _
   | exact ih2 _ _ _
   | exact lap_back.mono _ _ _
   | exact wave_Inverse.mono _ _
   | exact LeO.none _
   | refine LeO.ite ?_ ?_
   | refine LeO.bind ?_ (fun _ => ?_)
  ·
   intro y0 y1 y2
   unfold lap_Signal.l1
   repeat' first
   | (with_reducible exact ih0 _ _ _)
   | (with_reducible exact ih1 _ _ _ _ _)
   | (with_reducible exact ih2 _ _ _)
   | (with_reducible exact lap_back.mono _ _ _)
   | (with_reducible exact wave_Inverse.mono _ _)
   | (with_reducible exact LeO.refl _)
   | (with_reducible exact LeO.none _)
   | (with_reducible refine LeO.ite ?_ ?_)
   | (with_reducible refine LeO.bind ?_ (fun _ => ?_))
   | exact ih0 _ _ _
   | exact ih1 _ _ _ _ _
   | exact ih2 _ _ _
   | exact lap_back.mono _ _ _
   | exact wave_Inverse.mono _ _
   | exact LeO.none _
   | refine LeO.ite ?_ ?_
   | refine LeO.bind ?_ (fun _ => ?_)
theorem lap_Signal.mono : ∀ a0 a1 k, LeO (lap_Signal.f k a0 a1) (lap_Signal.f (k + 1) a0 a1) := by
 intro a0 a1 k
 obtain ⟨ih0, ih1, ih2⟩ := lap_Signal.mono_l k
 unfold lap_Signal.f
 repeat' first
   | (with_reducible exact ih0 _ _ _)
   | (with_reducible exact ih1 _ _ _ _ _)
   | (with_reducible exact ih2 _ _ _)
   | (with_reducible exact lap_back.mono _ _ _)
   | (with_reducible exact wave_Inverse.mono _ _)
   | (with_reducible exact LeO.refl _)
   | (with_reducible exact LeO.none _)
   | (with_reducible refine LeO.ite ?_ ?_)
   | (with_reducible refine LeO.bind ?_ (fun _ => ?_))
   | exact ih0 _ _ _
   | exact ih1 _ _ _ _ _
   | exact ih2 _ _ _
   | exact lap_back.mono _ _ _
   | exact wave_Inverse.mono _ _
   | exact LeO.none _
   | refine LeO.ite ?_ ?_
   | refine LeO.bind ?_ (fun _ => ?_)
set_option maxHeartbeats 8000000 in
set_option maxRecDepth 100000 in
theorem lap_Signal.calls (k : Nat) (A0 : Option Addr) (c0 : Nat) (l0 : List (List Int)) (a1 : Int) (r1 : List Int) (r2 : Int) (w : World) (hr0 : Kd.C (Kd.slice 2 (Kd.int .i64)) w A0 l0.length l0) (hc0 : l0.length ≤ c0) (hg : GW w) (h : lap_Signal.f k l0 a1 = some (r1, r2)) :
  Calls Tryd.prog 24 #[.slice A0 l0.length c0, .int .i64 a1] w fun e w' => ∃ v0_ : Value, e = .returned (.tuple #[v0_, .int .i64 r2]) ∧ Kd.R (Kd.int .i64) 2 w' w.heap.size (fun _ => True) v0_ r1 ∧ Below w.heap.size w w' := by
 have HG := zm hg
 clear hg
 have HR0 := zm hr0
 have HC0 := zm hc0
 clear hr0 hc0
 have HB := zm (Below.refl w.heap.size w)
 have H : ((lap_sized.f a1).bind fun t222 => (if t222 = true then (if a1 = 0 then (none) else (lap_Signal.j0 k l0 a1 (decide ((l0.length : Int) > (wrap64 ((4000 : Int) / a1)))))) else (lap_Signal.j0 k l0 a1 true))) = some (r1, r2) := h
 clear h
 have HC3 := zm H
 clear H
 go_enter Tryd.func24, Tryd.ntmps24
 go_upto_region 1 with (fail)
 go_cut [21] (fun v21 wc => ∃ (kq : Nat) (x21_2 : Bool), v21 = .bool x21_2 ∧ Aside0 (lap_Signal.j0 kq l0 a1 x21_2 = some (r1, r2)) ∧ Aside0 (kq ≤ k) ∧ Aside0 (Below w.heap.size w wc))
 case first =>
  have H := HC3.out
  clear HC3
  replace H := Option.bind_eq_some_iff.mp H
  obtain ⟨t222, A40, H⟩ := H
  replace H : (if t222 = true then (if a1 = 0 then (none) else (lap_Signal.j0 k l0 a1 (decide ((l0.length : Int) > (wrap64 ((4000 : Int) / a1)))))) else (lap_Signal.j0 k l0 a1 true)) = some (r1, r2) := H
  have A4 := zm A40
  clear A40
  by_cases c5 : t222 = true
  ·
   subst c5
   have H1 : (if a1 = 0 then (none) else (lap_Signal.j0 k l0 a1 (decide ((l0.length : Int) > (wrap64 ((4000 : Int) / a1)))))) = some (r1, r2) := by rw [if_pos rfl] at H; exact H
   clear H
   have H := H1
   clear H1
   by_cases c6 : a1 = 0
   ·
    rw [if_pos c6] at H
    exact absurd H (by simp)
   ·
    rw [if_neg c6] at H
    have c6b0 : (a1 == 0) = false := beq_eq_false_iff_ne.mpr c6
    have c6b1 : (a1 != 0) = true := bne_iff_ne.mpr c6
    (first | rw [c6b0] | (simp only [i64_w, i32_w]; rw [c6b0]) | skip)
    have H' := zm H
    clear H
    go_wp2_with (first | ((with_reducible refine gate_callee (f := 33) rfl ?_); refine goesL_ (some 13) rfl rfl Tryd.func33 (by kernel_rfl) rfl #[.int .i64 a1] rfl (by (try simp only [List.map_toArray, List.map_cons, List.map_nil]); first | done | rfl | (simp only [List.length_drop, List.length_take]; rfl)) ?_; (with_reducible refine (lap_sized.calls a1 true _ A4.out).mono ?_); rintro e w' ⟨rfl, ⟨nd, rfl⟩⟩; refine ⟨_, rfl, ?_⟩))
    go_meet
    case rel => exact ⟨_, (decide ((l0.length : Int) > (wrap64 ((4000 : Int) / a1)))), (by first | rfl | (simp; done) | (simp [show Int.tdiv 4000 a1 = 4000 / a1 from Int.tdiv_eq_ediv_of_nonneg (by decide)]; done) | (simp [*]; done)), H', ⟨by first | omega | exact Nat.le_refl _⟩, ⟨by repeat (first | (with_reducible first | exact HB.out | apply ze | apply zd | apply zf) | exact HB.out)⟩⟩
  ·
   replace c5 := Bool.eq_false_iff.mpr c5
   subst c5
   have H1 : (lap_Signal.j0 k l0 a1 true) = some (r1, r2) := by rw [if_neg (show ¬ (false = true) by decide)] at H; exact H
   clear H
   have H := H1
   clear H1
   have H' := zm H
   clear H
   go_wp2_with (first | ((with_reducible refine gate_callee (f := 33) rfl ?_); refine goesL_ (some 13) rfl rfl Tryd.func33 (by kernel_rfl) rfl #[.int .i64 a1] rfl (by (try simp only [List.map_toArray, List.map_cons, List.map_nil]); first | done | rfl | (simp only [List.length_drop, List.length_take]; rfl)) ?_; (with_reducible refine (lap_sized.calls a1 false _ A4.out).mono ?_); rintro e w' ⟨rfl, ⟨nd, rfl⟩⟩; refine ⟨_, rfl, ?_⟩))
   go_meet
   case rel => exact ⟨_, (true), (by first | rfl | (simp; done) | (simp [*]; done)), H', ⟨by first | omega | exact Nat.le_refl _⟩, ⟨by repeat (first | (with_reducible first | exact HB.out | apply ze | apply zd | apply zf) | exact HB.out)⟩⟩
 case rest =>
  clear HC3
  try clear c2
  try clear p2
  try clear c3
  try clear c5
  try clear c6
  try clear c6b0
  try clear c6b1
  try clear p6
  obtain ⟨kq, x21_2, rfl, HA, HJ2, HB⟩ := hcut
  cases kq with
  | zero => exact absurd HA.out (by simp [lap_Signal.j0])
  | succ kj2 =>
   have H := HA.out
   clear HA
   simp only [lap_Signal.j0] at H
   by_cases c7 : x21_2 = true
   ·
    subst c7
    have H1 : (some (([] : List Int), 1)) = some (r1, r2) := by rw [if_pos rfl] at H; exact H
    clear H
    have H := H1
    clear H1
    simp only [Option.some.injEq, Prod.mk.injEq] at H
    obtain ⟨rfl, rfl⟩ := H
    go_wp2
    go_ret2
    exact ⟨_, by first | rfl | (simp [errW_none, errW_some] <;> rfl) | (simp [*, errW_none, errW_some] <;> rfl), by first | exact Kd.R_nil _ _ _ _ _ | exact Kd.N_nil _ _ _ _ _ | exact Kd.V_nil _ _ _ _ _ | exact Kd.Q_nil _ _ _ _ _ | exact Kd.S_nil _ _ _ _ _, by repeat (first | (with_reducible first | exact HB.out | apply ze | apply zd | apply zf) | exact HB.out)⟩
   ·
    replace c7 := Bool.eq_false_iff.mpr c7
    subst c7
    have H1 : (lap_Signal.l0 kj2 a1 ([] : List Int) l0 (l0.length : Int) 0) = some (r1, r2) := by rw [if_neg (show ¬ (false = true) by decide)] at H; exact H
    clear H
    have H := H1
    clear H1
    have H' := zm H
    clear H
    go_wp2
    go_loopg [6, 24] kj2 (fun kq v6 v24 w' => ∃ (x6_2 : List Int) (x24_2 : Int), v24 = .int .i64 x24_2 ∧ Aside0 (lap_Signal.l0 kq a1 x6_2 l0 (l0.length : Int) x24_2 = some (r1, r2)) ∧ Aside0 (kq ≤ kj2) ∧ Aside0 (Kd.R (Kd.int .i64) 2 w' w.heap.size (fun _ => True) v6 x6_2) ∧ Aside0 (Below w.heap.size w w'))
    case atStart => exact ⟨(([] : List Int)), (0), (by first | rfl | (simp; done) | (simp [*]; done)), H', ⟨Nat.le_refl _⟩, ⟨by first | exact Kd.R_nil _ _ _ _ _ | exact Kd.N_nil _ _ _ _ _ | exact Kd.V_nil _ _ _ _ _ | exact Kd.Q_nil _ _ _ _ _ | exact Kd.S_nil _ _ _ _ _⟩, ⟨by repeat (first | (with_reducible first | exact HB.out | apply ze | apply zd | apply zf) | exact HB.out)⟩⟩
    case round =>
     clear H'
     try clear c2
     try clear p2
     try clear c3
     try clear c5
     try clear c6
     try clear c6b0
     try clear c6b1
     try clear p6
     try clear c7
     try clear p2
     try clear p6
     obtain ⟨x6_2, x24_2, rfl, HA, HK2, HO_6, HB⟩ := hrel
     cases gk with
     | zero => exact absurd HA.out (by simp [lap_Signal.l0])
     | succ k2 =>
      have H := HA.out
      clear HA
      simp only [lap_Signal.l0] at H
      by_cases c8 : x24_2 < (l0.length : Int)
      ·
       rw [if_pos c8] at H
       have c8b0 : decide (x24_2 < (l0.length : Int)) = true := decide_eq_true c8
       clear c8
       by_cases c9 : 0 ≤ x24_2
       ·
        rw [if_pos c9] at H
        have c9b0 : decide (0 ≤ x24_2) = true := decide_eq_true c9
        clear c9
        by_cases c10 : x24_2 < (l0.length : Int)
        ·
         rw [if_pos c10] at H
         have c10b0 : decide (x24_2 < (l0.length : Int)) = true := decide_eq_true c10
         clear c10
         replace H := Option.bind_eq_some_iff.mp H
         obtain ⟨⟨t224, t225⟩, A110, H⟩ := H
         replace H : (if t225 = 0 then (if ((rd_L1 l0 x24_2).length : Int) = a1 then (if x6_2.length + t224.length < 17592186044416 then (lap_Signal.l0 k2 a1 (x6_2 ++ t224) l0 (l0.length : Int) (wrap64 (x24_2 + 1))) else (none)) else (some (([] : List Int), 1))) else (some (([] : List Int), 1))) = some (r1, r2) := H
         have A11 := zm A110
         clear A110
         by_cases c12 : t225 = 0
         ·
          rw [if_pos c12] at H
          have c12b0 : (t225 == 0) = true := beq_iff_eq.mpr c12
          have c12b1 : (t225 != 0) = false := bne_eq_false_iff_eq.mpr c12
          clear c12
          by_cases c13 : ((rd_L1 l0 x24_2).length : Int) = a1
          ·
           rw [if_pos c13] at H
           have c13b0 : (((rd_L1 l0 x24_2).length : Int) == a1) = true := beq_iff_eq.mpr c13
           have c13b1 : (((rd_L1 l0 x24_2).length : Int) != a1) = false := bne_eq_false_iff_eq.mpr c13
           clear c13
           by_cases c14 : x6_2.length + t224.length < 17592186044416
           ·
            rw [if_pos c14] at H
            have LMc14 := zm c14
            clear c14
            obtain ⟨y228, hy228⟩ : ∃ y_ : List Int, y_ = (x6_2 ++ t224) := ⟨_, rfl⟩
            replace H : (lap_Signal.l0 k2 a1 y228 l0 (l0.length : Int) (wrap64 (x24_2 + 1))) = some (r1, r2) := by first | (rw [hy228]; with_reducible exact H) | (have H2_ := (Option.bind_some _ _).symm.trans H; rw [hy228]; with_reducible exact H2_) | (have H2_ := (Option.bind_some _ _).symm.trans H; with_reducible exact H2_) | with_reducible exact H | (rw [hy228]; exact H) | exact H
            have Ny228 := zm hy228
            clear hy228
            have H' := zm H
            clear H
            have p223 : 0 ≤ (x24_2 : Int) := of_decide_eq_true (by first | (with_reducible assumption) | assumption)
            have q223 : x24_2 < (l0.length : Int) := of_decide_eq_true (by first | (with_reducible assumption) | assumption)
            obtain ⟨ad223, A223_0, c223_0, e223, hx223_0, hl223_0, hi223_0⟩ := at_L1 HR0.out x24_2 p223 q223
            cases e223
            replace hx223_0 := (HB.out.cell (zb w _ hx223_0)).trans hx223_0
            have HR223_0 := zm hi223_0
            have HC223_0 := zm hl223_0
            clear hi223_0 hl223_0
            replace p223 := eq_true p223
            replace q223 := eq_true q223
            go_wp2_with (first | ((with_reducible refine gate_callee (f := 36) rfl ?_); refine goesL_ (some 30) rfl rfl Tryd.func36 (by kernel_rfl) rfl #[.slice A223_0 (rd_L1 l0 x24_2).length c223_0] rfl (by (try simp only [List.map_toArray, List.map_cons, List.map_nil]); first | done | rfl | (simp only [List.length_drop, List.length_take]; rfl)) ?_; (with_reducible refine (wave_Inverse.calls k2 _ _ (rd_L1 l0 x24_2) t224 t225 _ ?side1 ?side2 A11.out).mono ?_); (case side1 => repeat (first | exact (Kd.C_below HR223_0.out HB.out) | (with_reducible refine Kd.C_alloc ?_ _) | (with_reducible refine Kd.C_drewN ?_ _) | (with_reducible refine Kd.C_drew ?_))); (case side2 => exact HC223_0.out); rintro e w15 ⟨v226, rfl, ho0, hb⟩; refine ⟨_, rfl, ?_⟩; have n0_ := zm (Kd.R_elder' (by (with_reducible repeat (first | apply zo | apply zp | apply zq)); exact HO_6.out) (Kd.R_base ho0) hb); have n1_ := zm (Kd.R_lower (Kd.R_new' ho0 (Kd.R_lt (by (with_reducible repeat (first | apply zo | apply zp | apply zq)); exact HO_6.out))) (zE (by repeat (first | (with_reducible first | exact HB.out | apply ze | apply zd | apply zf) | exact HB.out)))); have n2_ := zm (zJ (by repeat (first | (with_reducible first | exact HB.out | apply ze | apply zd | apply zf) | exact HB.out)) hb); clear HO_6; clear HB; have HO_6 := n0_; have HO227 := n1_; have HB := n2_; clear n0_ n1_ n2_; (try clear hb); (try clear hb2); (try clear hk); (try clear hi); (try clear ho0); obtain ⟨Ao17, co17, eo17⟩ := Kd.R_slice HO227.out; subst eo17) | ((with_reducible refine gate_builtin (b := .append) (xs := #[.tmp 41, .tmp 42]) rfl ?_); (try (refine gate_guard (by rfl) ?_; dsimp only)); at_builtin; refine Kd.R_append_rows (Kd.int .i64) (w0 := w) w.heap.size rfl (.tmp 41) (.tmp 42) 22 2 (.int .i64 0) 8 rfl Tryd.underlying22 info2 rfl (by decide) (by omega) u6 x6_2 t224 _ _ _ (fun k_ => some k_ ≠ (.slice Ao17 t224.length co17 : Value).ownBlock) (fun _ => False) rfl rfl ?aO ?aR (fun _ _ h => h) (fun _ h => h.elim) ?aF ?aB ?aS ?aL ?_; (case aR => repeat (first | exact (Kd.R_reads' HO227.out).2.2 | (with_reducible refine Kd.C_alloc ?_ _) | (with_reducible refine Kd.C_drewN ?_ _) | (with_reducible refine Kd.C_drew ?_))); (case aB => exact (by repeat (first | (with_reducible first | exact HB.out | apply ze | apply zd | apply zf) | exact HB.out))); (case aF => exact (fun k_ hk => Kd.fresh' (Kd.R_lt (by (with_reducible repeat (first | apply zo | apply zp | apply zq)); exact HO227.out)) k_ hk)); (case aO => exact (by (with_reducible repeat (first | apply zo | apply zp | apply zq)); exact zG HO_6.out (fun _ hk => hk.2))); (case aS => exact (zE (by repeat (first | (with_reducible first | exact HB.out | apply ze | apply zd | apply zf) | exact HB.out)))); (case aL => have := LMc14.out; omega); intro v229 w16 ho hb hg hat; rw [← Ny228.out] at ho; have n0_ := zm (Kd.R_after (ok := (fun _ => True)) (by (with_reducible repeat (first | apply zo | apply zp | apply zq)); exact HO227.out) hg hat); have n1_ := zm (hb); have n2_ := zm (ho); clear HO227; clear HB; clear HO_6; have HO227 := n0_; have HB := n1_; have HO230 := n2_; clear n0_ n1_ n2_; clear ho hb hg hat))
            go_roundg k2
            case measure => have := HJ2.out; have := HK2.out; omega
            case rel => exact ⟨(y228), (wrap64 (x24_2 + 1)), (by first | rfl | (simp; done) | (simp [*]; done)), H', ⟨by have := HJ2.out; have := HK2.out; omega⟩, ⟨by (with_reducible repeat (first | apply zo | apply zp | apply zq)); exact zG HO230.out (fun _ hk => trivial)⟩, ⟨by repeat (first | (with_reducible first | exact HB.out | apply ze | apply zd | apply zf) | exact HB.out)⟩⟩
           ·
            rw [if_neg c14] at H
            exact absurd H (by simp)
          ·
           rw [if_neg c13] at H
           have c13b0 : (((rd_L1 l0 x24_2).length : Int) == a1) = false := beq_eq_false_iff_ne.mpr c13
           have c13b1 : (((rd_L1 l0 x24_2).length : Int) != a1) = true := bne_iff_ne.mpr c13
           simp only [Option.some.injEq, Prod.mk.injEq] at H
           obtain ⟨rfl, rfl⟩ := H
           have p223 : 0 ≤ (x24_2 : Int) := of_decide_eq_true (by first | (with_reducible assumption) | assumption)
           have q223 : x24_2 < (l0.length : Int) := of_decide_eq_true (by first | (with_reducible assumption) | assumption)
           obtain ⟨ad223, A223_0, c223_0, e223, hx223_0, hl223_0, hi223_0⟩ := at_L1 HR0.out x24_2 p223 q223
           cases e223
           replace hx223_0 := (HB.out.cell (zb w _ hx223_0)).trans hx223_0
           have HR223_0 := zm hi223_0
           have HC223_0 := zm hl223_0
           clear hi223_0 hl223_0
           replace p223 := eq_true p223
           replace q223 := eq_true q223
           go_wp2_with (first | ((with_reducible refine gate_callee (f := 36) rfl ?_); refine goesL_ (some 30) rfl rfl Tryd.func36 (by kernel_rfl) rfl #[.slice A223_0 (rd_L1 l0 x24_2).length c223_0] rfl (by (try simp only [List.map_toArray, List.map_cons, List.map_nil]); first | done | rfl | (simp only [List.length_drop, List.length_take]; rfl)) ?_; (with_reducible refine (wave_Inverse.calls k2 _ _ (rd_L1 l0 x24_2) t224 t225 _ ?side1 ?side2 A11.out).mono ?_); (case side1 => repeat (first | exact (Kd.C_below HR223_0.out HB.out) | (with_reducible refine Kd.C_alloc ?_ _) | (with_reducible refine Kd.C_drewN ?_ _) | (with_reducible refine Kd.C_drew ?_))); (case side2 => exact HC223_0.out); rintro e w18 ⟨v226, rfl, ho0, hb⟩; refine ⟨_, rfl, ?_⟩; have n0_ := zm (Kd.R_elder' (by (with_reducible repeat (first | apply zo | apply zp | apply zq)); exact HO_6.out) (Kd.R_base ho0) hb); have n1_ := zm (Kd.R_lower (Kd.R_new' ho0 (Kd.R_lt (by (with_reducible repeat (first | apply zo | apply zp | apply zq)); exact HO_6.out))) (zE (by repeat (first | (with_reducible first | exact HB.out | apply ze | apply zd | apply zf) | exact HB.out)))); have n2_ := zm (zJ (by repeat (first | (with_reducible first | exact HB.out | apply ze | apply zd | apply zf) | exact HB.out)) hb); clear HO_6; clear HB; have HO_6 := n0_; have HO227 := n1_; have HB := n2_; clear n0_ n1_ n2_; (try clear hb); (try clear hb2); (try clear hk); (try clear hi); (try clear ho0)))
           go_ret2
           exact ⟨_, by first | rfl | (simp [errW_none, errW_some] <;> rfl) | (simp [*, errW_none, errW_some] <;> rfl), by first | exact Kd.R_nil _ _ _ _ _ | exact Kd.N_nil _ _ _ _ _ | exact Kd.V_nil _ _ _ _ _ | exact Kd.Q_nil _ _ _ _ _ | exact Kd.S_nil _ _ _ _ _, by repeat (first | (with_reducible first | exact HB.out | apply ze | apply zd | apply zf) | exact HB.out)⟩
         ·
          rw [if_neg c12] at H
          have c12b0 : (t225 == 0) = false := beq_eq_false_iff_ne.mpr c12
          have c12b1 : (t225 != 0) = true := bne_iff_ne.mpr c12
          simp only [Option.some.injEq, Prod.mk.injEq] at H
          obtain ⟨rfl, rfl⟩ := H
          have p223 : 0 ≤ (x24_2 : Int) := of_decide_eq_true (by first | (with_reducible assumption) | assumption)
          have q223 : x24_2 < (l0.length : Int) := of_decide_eq_true (by first | (with_reducible assumption) | assumption)
          obtain ⟨ad223, A223_0, c223_0, e223, hx223_0, hl223_0, hi223_0⟩ := at_L1 HR0.out x24_2 p223 q223
          cases e223
          replace hx223_0 := (HB.out.cell (zb w _ hx223_0)).trans hx223_0
          have HR223_0 := zm hi223_0
          have HC223_0 := zm hl223_0
          clear hi223_0 hl223_0
          replace p223 := eq_true p223
          replace q223 := eq_true q223
          go_wp2_with (first | ((with_reducible refine gate_callee (f := 36) rfl ?_); refine goesL_ (some 30) rfl rfl Tryd.func36 (by kernel_rfl) rfl #[.slice A223_0 (rd_L1 l0 x24_2).length c223_0] rfl (by (try simp only [List.map_toArray, List.map_cons, List.map_nil]); first | done | rfl | (simp only [List.length_drop, List.length_take]; rfl)) ?_; (with_reducible refine (wave_Inverse.calls k2 _ _ (rd_L1 l0 x24_2) t224 t225 _ ?side1 ?side2 A11.out).mono ?_); (case side1 => repeat (first | exact (Kd.C_below HR223_0.out HB.out) | (with_reducible refine Kd.C_alloc ?_ _) | (with_reducible refine Kd.C_drewN ?_ _) | (with_reducible refine Kd.C_drew ?_))); (case side2 => exact HC223_0.out); rintro e w19 ⟨v226, rfl, ho0, hb⟩; refine ⟨_, rfl, ?_⟩; have n0_ := zm (Kd.R_elder' (by (with_reducible repeat (first | apply zo | apply zp | apply zq)); exact HO_6.out) (Kd.R_base ho0) hb); have n1_ := zm (Kd.R_lower (Kd.R_new' ho0 (Kd.R_lt (by (with_reducible repeat (first | apply zo | apply zp | apply zq)); exact HO_6.out))) (zE (by repeat (first | (with_reducible first | exact HB.out | apply ze | apply zd | apply zf) | exact HB.out)))); have n2_ := zm (zJ (by repeat (first | (with_reducible first | exact HB.out | apply ze | apply zd | apply zf) | exact HB.out)) hb); clear HO_6; clear HB; have HO_6 := n0_; have HO227 := n1_; have HB := n2_; clear n0_ n1_ n2_; (try clear hb); (try clear hb2); (try clear hk); (try clear hi); (try clear ho0)))
          go_ret2
          exact ⟨_, by first | rfl | (simp [errW_none, errW_some] <;> rfl) | (simp [*, errW_none, errW_some] <;> rfl), by first | exact Kd.R_nil _ _ _ _ _ | exact Kd.N_nil _ _ _ _ _ | exact Kd.V_nil _ _ _ _ _ | exact Kd.Q_nil _ _ _ _ _ | exact Kd.S_nil _ _ _ _ _, by repeat (first | (with_reducible first | exact HB.out | apply ze | apply zd | apply zf) | exact HB.out)⟩
        ·
         rw [if_neg c10] at H
         exact absurd H (by simp)
       ·
        rw [if_neg c9] at H
        exact absurd H (by simp)
      ·
       rw [if_neg c8] at H
       have c8b0 : decide (x24_2 < (l0.length : Int)) = false := decide_eq_false c8
       clear c8
       have H' := zm H
       clear H
       obtain ⟨Ao20, co20, eo20⟩ := Kd.R_slice HO_6.out
       subst eo20
       go_wp2
       go_loopg [11] k2 (fun kq v11 w' => ∃ (x6_3 : List Int) (x11_3 : Int), v11 = .int .i64 x11_3 ∧ Aside0 (lap_Signal.l1 kq a1 x6_3 x11_3 = some (r1, r2)) ∧ Aside0 (kq ≤ k2) ∧ Aside0 (Kd.R (Kd.int .i64) 2 w' w.heap.size (fun _ => True) (.slice Ao20 x6_2.length co20) x6_3) ∧ Aside0 (Below w.heap.size w w'))
       case atStart => exact ⟨(x6_2), (wrap64 ((x6_2.length : Int) - a1)), (by first | rfl | (simp; done) | (simp [*]; done)), H', ⟨Nat.le_refl _⟩, ⟨by (with_reducible repeat (first | apply zo | apply zp | apply zq)); exact HO_6.out⟩, ⟨by repeat (first | (with_reducible first | exact HB.out | apply ze | apply zd | apply zf) | exact HB.out)⟩⟩
       case round =>
        clear H'
        try clear c1
        try clear c2
        try clear p2
        try clear q2
        try clear hx2
        try clear c3
        try clear c5
        try clear c6
        try clear c6b0
        try clear c6b1
        try clear p6
        try clear c7
        try clear c8
        try clear c8b0
        try clear c9
        try clear c9b0
        try clear c10
        try clear c10b0
        try clear c12
        try clear c12b0
        try clear c12b1
        try clear c13
        try clear c13b0
        try clear c13b1
        try clear c14
        try clear hx223_0
        try clear p2
        try clear p223
        try clear p6
        try clear q223
        obtain ⟨x6_3, x11_3, rfl, HA, HK3, HO_6, HB⟩ := hrel
        have hl6_3 := (Kd.R_reads' HO_6.out).1
        rw [hl6_3] at HO_6
        (try simp only [hl6_3])
        cases gk with
        | zero => exact absurd HA.out (by simp [lap_Signal.l1])
        | succ k3 =>
         have H := HA.out
         clear HA
         simp only [lap_Signal.l1] at H
         by_cases c21 : x11_3 > 0
         ·
          rw [if_pos c21] at H
          have c21b0 : decide (0 < x11_3) = true := decide_eq_true c21
          clear c21
          replace H := Option.bind_eq_some_iff.mp H
          obtain ⟨t231, A220, H⟩ := H
          replace H : (lap_Signal.l1 k3 a1 t231 (wrap64 (x11_3 - a1))) = some (r1, r2) := H
          have A22 := zm A220
          clear A220
          have H' := zm H
          clear H
          go_wp2_with (first | ((with_reducible refine gate_callee (f := 32) rfl ?_); refine goesL_ (some 56) rfl rfl Tryd.func32 (by kernel_rfl) rfl #[.slice Ao20 x6_3.length co20, .int .i64 x11_3] rfl (by (try simp only [List.map_toArray, List.map_cons, List.map_nil]); first | done | rfl | (simp only [List.length_drop, List.length_take]; rfl)) ?_; (with_reducible refine (lap_back.calls k3 (fun k_ => some k_ = (.slice Ao20 x6_3.length co20 : Value).ownBlock) (.slice Ao20 x6_3.length co20) x6_3 x11_3 t231 w _ ?side1 ?side2 ?sideg A22.out).mono ?_); (case sideg => exact HG.out); (case side1 => repeat (first | (with_reducible first | exact HB.out | apply ze | apply zd | apply zf) | exact HB.out)); (case side2 => exact Kd.R_tight rfl HO_6.out); rintro e w23 ⟨rfl, hy0, hb, hkp⟩; refine ⟨_, rfl, ?_⟩; have n0_ := zm (Kd.R_reok rfl hy0 (fun k_ e_ => HO_6.out.1 k_ e_)); have n1_ := zm (hb); clear HO_6; clear HB; have HO_6 := n0_; have HB := n1_; clear n0_ n1_; (try clear hb); (try clear hkp); (try clear hy0)))
          (try simp only [← hl6_3])
          go_roundg k3
          case measure => have := HJ2.out; have := HK2.out; have := HK3.out; omega
          case rel => exact ⟨(t231), (wrap64 (x11_3 - a1)), (by first | rfl | (simp; done) | (simp [*]; done)), H', ⟨by have := HJ2.out; have := HK2.out; have := HK3.out; omega⟩, ⟨by (try simp only [hl6_3]); (with_reducible repeat (first | apply zo | apply zp | apply zq)); exact HO_6.out⟩, ⟨by repeat (first | (with_reducible first | exact HB.out | apply ze | apply zd | apply zf) | exact HB.out)⟩⟩
         ·
          rw [if_neg c21] at H
          have c21b0 : decide (0 < x11_3) = false := decide_eq_false c21
          clear c21
          simp only [Option.some.injEq, Prod.mk.injEq] at H
          obtain ⟨rfl, rfl⟩ := H
          go_wp2
          go_ret2
          exact ⟨_, by first | rfl | (simp [errW_none, errW_some] <;> rfl) | (simp [*, errW_none, errW_some] <;> rfl), by (with_reducible repeat (first | apply zo | apply zp | apply zq)); exact HO_6.out, by repeat (first | (with_reducible first | exact HB.out | apply ze | apply zd | apply zf) | exact HB.out)⟩

end Go.Proofs.YtllchhcdpfiodaaDoor.Prt

namespace Go.Proofs.YtllchhcdpfiodaaDoor.Prt
open Go.RowKit Go.Proofs.YtllchhcdpfiodaaDoorW.PrintWords Go.Proofs.YtllchhcdpfiodaaDoorW.PrintLast Go.Proofs.YtllchhcdpfiodaaDoorW.PrintMore
attribute [local go_sem] max2_int min2_int max_two min_two max_three min_three max_four min_four   -- for this text's walks alone
set_option linter.unusedVariables false
set_option linter.unusedSimpArgs false

/-! ### psalteryref07_Same: function 16 -/
def psalteryref07_Same.l0 : Nat → List Int → List Int → Int → Option (Bool)
 | 0, _, _, _ => none
 | k + 1, x0, x1, x5 => if x5 < (x0.length : Int) then (if 0 ≤ x5 then (if x5 < (x1.length : Int) then (if (rd x0 x5) = (rd x1 x5) then (psalteryref07_Same.l0 k x0 x1 (wrap64 (x5 + 1))) else (some false)) else (none)) else (none)) else (some true)
def psalteryref07_Same.f (k : Nat) (l0 : List Int) (l1 : List Int) : Option (Bool) := if (l0.length : Int) = (l1.length : Int) then (psalteryref07_Same.l0 k l0 l1 0) else (some false)
theorem psalteryref07_Same.mono_l : ∀ k, (∀ y0 y1 y2, LeO (psalteryref07_Same.l0 k y0 y1 y2) (psalteryref07_Same.l0 (k + 1) y0 y1 y2))
 | 0 => fun _ _ _ r h => by simp [psalteryref07_Same.l0] at h
 | k + 1 => by
  have ih0 := psalteryref07_Same.mono_l k
  ·
   intro y0 y1 y2
   unfold psalteryref07_Same.l0
   repeat' first
   | (with_reducible exact ih0 _ _ _)
   | (with_reducible exact LeO.refl _)
   | (with_reducible exact LeO.none _)
   | (with_reducible refine LeO.ite ?_ ?_)
   | (with_reducible refine LeO.bind ?_ (fun _ => ?_))
   | exact ih0 _ _ _
   | exact LeO.none _
   | refine LeO.ite ?_ ?_
   | refine LeO.bind ?_ (fun _ => ?_)
theorem psalteryref07_Same.mono : ∀ a0 a1 k, LeO (psalteryref07_Same.f k a0 a1) (psalteryref07_Same.f (k + 1) a0 a1) := by
 intro a0 a1 k
 have ih0 := psalteryref07_Same.mono_l k
 unfold psalteryref07_Same.f
 repeat' first
   | (with_reducible exact ih0 _ _ _)
   | (with_reducible exact LeO.refl _)
   | (with_reducible exact LeO.none _)
   | (with_reducible refine LeO.ite ?_ ?_)
   | (with_reducible refine LeO.bind ?_ (fun _ => ?_))
   | exact ih0 _ _ _
   | exact LeO.none _
   | refine LeO.ite ?_ ?_
   | refine LeO.bind ?_ (fun _ => ?_)
set_option maxHeartbeats 8000000 in
set_option maxRecDepth 100000 in
theorem psalteryref07_Same.calls (k : Nat) (A0 : Option Addr) (c0 : Nat) (l0 : List Int) (A1 : Option Addr) (c1 : Nat) (l1 : List Int) (r : Bool) (w : World) (hr0 : Kd.C (Kd.int .i64) w A0 l0.length l0) (hc0 : l0.length ≤ c0) (hr1 : Kd.C (Kd.int .i64) w A1 l1.length l1) (hc1 : l1.length ≤ c1) (h : psalteryref07_Same.f k l0 l1 = some r) :
  Calls Tryd.prog 16 #[.slice A0 l0.length c0, .slice A1 l1.length c1] w fun e w' => e = .returned (.bool r) ∧ Drawn0 w w' := by
 have HR0 := zm hr0
 have HC0 := zm hc0
 clear hr0 hc0
 have HR1 := zm hr1
 have HC1 := zm hc1
 clear hr1 hc1
 have H : (if (l0.length : Int) = (l1.length : Int) then (psalteryref07_Same.l0 k l0 l1 0) else (some false)) = some r := h
 clear h
 by_cases c3 : (l0.length : Int) = (l1.length : Int)
 ·
  rw [if_pos c3] at H
  have c3b0 : ((l0.length : Int) == (l1.length : Int)) = true := beq_iff_eq.mpr c3
  have c3b1 : ((l0.length : Int) != (l1.length : Int)) = false := bne_eq_false_iff_eq.mpr c3
  have c3b2 : (l0.length == l1.length) = true := by first | simpa using c3 | (simp at c3 ⊢; omega)
  clear c3
  have H' := zm H
  clear H
  go_enter Tryd.func16, Tryd.ntmps16
  go_wp2
  repeat (go_quiet (fail); try go_wp2)
  go_loopg [5] k (fun kq v5 w' => ∃ (x5_1 : Int), v5 = .int .i64 x5_1 ∧ Aside0 (psalteryref07_Same.l0 kq l0 l1 x5_1 = some r) ∧ Aside0 (kq ≤ k) ∧ Drawn0 w w')
  case atStart => exact ⟨(0), (by first | rfl | (simp; done) | (simp [*]; done)), H', ⟨Nat.le_refl _⟩, by repeat (first | exact Drawn0.refl _ | apply Drawn0.step)⟩
  case round =>
   clear H'
   try clear c1
   try clear p2
   try clear c3
   try clear c3b0
   try clear c3b1
   try clear c3b2
   obtain ⟨x5_1, rfl, HA, HK1, ⟨m1, rfl⟩⟩ := hrel
   cases gk with
   | zero => exact absurd HA.out (by simp [psalteryref07_Same.l0])
   | succ k1 =>
    have H := HA.out
    clear HA
    simp only [psalteryref07_Same.l0] at H
    by_cases c4 : x5_1 < (l0.length : Int)
    ·
     rw [if_pos c4] at H
     have c4b0 : decide (x5_1 < (l0.length : Int)) = true := decide_eq_true c4
     clear c4
     by_cases c5 : 0 ≤ x5_1
     ·
      rw [if_pos c5] at H
      have c5b0 : decide (0 ≤ x5_1) = true := decide_eq_true c5
      clear c5
      by_cases c6 : x5_1 < (l1.length : Int)
      ·
       rw [if_pos c6] at H
       have c6b0 : decide (x5_1 < (l1.length : Int)) = true := decide_eq_true c6
       clear c6
       by_cases c7 : (rd l0 x5_1) = (rd l1 x5_1)
       ·
        rw [if_pos c7] at H
        have c7b0 : ((rd l0 x5_1) == (rd l1 x5_1)) = true := beq_iff_eq.mpr c7
        have c7b1 : ((rd l0 x5_1) != (rd l1 x5_1)) = false := bne_eq_false_iff_eq.mpr c7
        clear c7
        have H' := zm H
        clear H
        have p125 : 0 ≤ (x5_1 : Int) := of_decide_eq_true (by first | (with_reducible assumption) | assumption)
        have q125 : x5_1 < (l0.length : Int) := of_decide_eq_true (by first | (with_reducible assumption) | assumption)
        obtain ⟨ad125, e125, hx125_0⟩ := Kd.at_int HR0.out x5_1 p125 q125
        cases e125
        replace p125 := eq_true p125
        replace q125 := eq_true q125
        have p126 : 0 ≤ (x5_1 : Int) := of_decide_eq_true (by first | (with_reducible assumption) | assumption)
        have q126 : x5_1 < (l1.length : Int) := of_decide_eq_true (by first | (with_reducible assumption) | assumption)
        obtain ⟨ad126, e126, hx126_0⟩ := Kd.at_int HR1.out x5_1 p126 q126
        cases e126
        replace p126 := eq_true p126
        replace q126 := eq_true q126
        go_wp2
        repeat (go_quiet (fail); try go_wp2)
        go_roundg k1
        case measure => have := HK1.out; omega
        case rel => exact ⟨(wrap64 (x5_1 + 1)), (by first | rfl | (simp; done) | (simp [*]; done)), H', ⟨by have := HK1.out; omega⟩, by repeat (first | exact Drawn0.refl _ | apply Drawn0.step)⟩
       ·
        rw [if_neg c7] at H
        have c7b0 : ((rd l0 x5_1) == (rd l1 x5_1)) = false := beq_eq_false_iff_ne.mpr c7
        have c7b1 : ((rd l0 x5_1) != (rd l1 x5_1)) = true := bne_iff_ne.mpr c7
        obtain rfl := Option.some.inj H
        have p125 : 0 ≤ (x5_1 : Int) := of_decide_eq_true (by first | (with_reducible assumption) | assumption)
        have q125 : x5_1 < (l0.length : Int) := of_decide_eq_true (by first | (with_reducible assumption) | assumption)
        obtain ⟨ad125, e125, hx125_0⟩ := Kd.at_int HR0.out x5_1 p125 q125
        cases e125
        replace p125 := eq_true p125
        replace q125 := eq_true q125
        have p126 : 0 ≤ (x5_1 : Int) := of_decide_eq_true (by first | (with_reducible assumption) | assumption)
        have q126 : x5_1 < (l1.length : Int) := of_decide_eq_true (by first | (with_reducible assumption) | assumption)
        obtain ⟨ad126, e126, hx126_0⟩ := Kd.at_int HR1.out x5_1 p126 q126
        cases e126
        replace p126 := eq_true p126
        replace q126 := eq_true q126
        go_wp2
        repeat (go_quiet (fail); try go_wp2)
        go_ret
        exact ⟨by first | rfl | (simp; done) | (simp [*]; done), by repeat (first | exact Drawn0.refl _ | apply Drawn0.step)⟩
      ·
       rw [if_neg c6] at H
       exact absurd H (by simp)
     ·
      rw [if_neg c5] at H
      exact absurd H (by simp)
    ·
     rw [if_neg c4] at H
     have c4b0 : decide (x5_1 < (l0.length : Int)) = false := decide_eq_false c4
     clear c4
     obtain rfl := Option.some.inj H
     go_wp2
     repeat (go_quiet (fail); try go_wp2)
     go_ret
     exact ⟨by first | rfl | (simp; done) | (simp [*]; done), by repeat (first | exact Drawn0.refl _ | apply Drawn0.step)⟩
 ·
  rw [if_neg c3] at H
  have c3b0 : ((l0.length : Int) == (l1.length : Int)) = false := beq_eq_false_iff_ne.mpr c3
  have c3b1 : ((l0.length : Int) != (l1.length : Int)) = true := bne_iff_ne.mpr c3
  have c3b2 : (l0.length == l1.length) = false := by first | simpa using c3 | (simp at c3 ⊢; omega)
  obtain rfl := Option.some.inj H
  go_enter Tryd.func16, Tryd.ntmps16
  go_wp2
  repeat (go_quiet (fail); try go_wp2)
  go_ret
  exact ⟨by first | rfl | (simp; done) | (simp [*]; done), by repeat (first | exact Drawn0.refl _ | apply Drawn0.step)⟩

end Go.Proofs.YtllchhcdpfiodaaDoor.Prt

namespace Go.Proofs.YtllchhcdpfiodaaDoor.Prt
open Go.RowKit Go.Proofs.YtllchhcdpfiodaaDoorW.PrintWords Go.Proofs.YtllchhcdpfiodaaDoorW.PrintLast Go.Proofs.YtllchhcdpfiodaaDoorW.PrintMore
attribute [local go_sem] max2_int min2_int max_two min_two max_three min_three max_four min_four   -- for this text's walks alone
set_option linter.unusedVariables false
set_option linter.unusedSimpArgs false

/-! ### psalterylaw09_knows: function 11 -/
def psalterylaw09_knows.f (k : Nat)  : Option (Bool) := (some (([0, 0, 0, 16, 16, 0, 0, 0] : List Int) : List Int)).bind fun y232 => ((lap_Turn.f k y232 4).bind fun bt235 => ((lap_Back.f k bt235.1 4).bind fun bt239 => ((lap_Frames.f k y232 8).bind fun bt243 => ((lap_Signal.f k bt243.1 8).bind fun bt247 => ((psalteryref07_Same.f k bt235.1 (([0, 0, 0, 19, 9, 0, 0, 0] : List Int))).bind fun t254 => (if t254 = true then (if bt235.2 = 0 then ((psalteryref07_Same.f k bt239.1 y232).bind fun t255 => (if t255 = true then (if bt239.2 = 0 then (if (bt243.1.length : Int) = 1 then (if bt243.2 = 0 then ((psalteryref07_Same.f k bt247.1 y232).bind fun t256 => (if t256 = true then (if bt247.2 = 0 then ((lap_Right.f k y232).bind fun t257 => (some t257)) else (none)) else (none))) else (none)) else (none)) else (none)) else (none))) else (none)) else (none)))))))
theorem psalterylaw09_knows.mono : ∀ k, LeO (psalterylaw09_knows.f k ) (psalterylaw09_knows.f (k + 1) ) := by
 intro  k
 unfold psalterylaw09_knows.f
 repeat' first
   | (with_reducible exact lap_Back.mono _ _ _)
   | (with_reducible exact lap_Frames.mono _ _ _)
   | (with_reducible exact lap_Right.mono _ _)
   | (with_reducible exact lap_Signal.mono _ _ _)
   | (with_reducible exact lap_Turn.mono _ _ _)
   | (with_reducible exact psalteryref07_Same.mono _ _ _)
   | (with_reducible exact LeO.refl _)
   | (with_reducible exact LeO.none _)
   | (with_reducible refine LeO.ite ?_ ?_)
   | (with_reducible refine LeO.bind ?_ (fun _ => ?_))
   | exact lap_Back.mono _ _ _
   | exact lap_Frames.mono _ _ _
   | exact lap_Right.mono _ _
   | exact lap_Signal.mono _ _ _
   | exact lap_Turn.mono _ _ _
   | exact psalteryref07_Same.mono _ _ _
   | exact LeO.none _
   | refine LeO.ite ?_ ?_
   | refine LeO.bind ?_ (fun _ => ?_)
set_option maxHeartbeats 8000000 in
set_option maxRecDepth 100000 in
theorem psalterylaw09_knows.calls (k : Nat)  (r : Bool) (w : World) (hg : GW w) (h : psalterylaw09_knows.f k  = some r) :
  Calls Tryd.prog 11 #[] w fun e w' => e = .returned (.bool r) ∧ Below w.heap.size w w' := by
 have HG := zm hg
 clear hg
 have HB := zm (Below.refl w.heap.size w)
 have H : ((some (([0, 0, 0, 16, 16, 0, 0, 0] : List Int) : List Int)).bind fun y232 => ((lap_Turn.f k y232 4).bind fun bt235 => ((lap_Back.f k bt235.1 4).bind fun bt239 => ((lap_Frames.f k y232 8).bind fun bt243 => ((lap_Signal.f k bt243.1 8).bind fun bt247 => ((psalteryref07_Same.f k bt235.1 (([0, 0, 0, 19, 9, 0, 0, 0] : List Int))).bind fun t254 => (if t254 = true then (if bt235.2 = 0 then ((psalteryref07_Same.f k bt239.1 y232).bind fun t255 => (if t255 = true then (if bt239.2 = 0 then (if (bt243.1.length : Int) = 1 then (if bt243.2 = 0 then ((psalteryref07_Same.f k bt247.1 y232).bind fun t256 => (if t256 = true then (if bt247.2 = 0 then ((lap_Right.f k y232).bind fun t257 => (some t257)) else (none)) else (none))) else (none)) else (none)) else (none)) else (none))) else (none)) else (none)))))))) = some r := h
 clear h
 obtain ⟨y232, hy232⟩ : ∃ y_ : List Int, y_ = (([0, 0, 0, 16, 16, 0, 0, 0] : List Int)) := ⟨_, rfl⟩
 replace H : ((lap_Turn.f k y232 4).bind fun bt235 => ((lap_Back.f k bt235.1 4).bind fun bt239 => ((lap_Frames.f k y232 8).bind fun bt243 => ((lap_Signal.f k bt243.1 8).bind fun bt247 => ((psalteryref07_Same.f k bt235.1 (([0, 0, 0, 19, 9, 0, 0, 0] : List Int))).bind fun t254 => (if t254 = true then (if bt235.2 = 0 then ((psalteryref07_Same.f k bt239.1 y232).bind fun t255 => (if t255 = true then (if bt239.2 = 0 then (if (bt243.1.length : Int) = 1 then (if bt243.2 = 0 then ((psalteryref07_Same.f k bt247.1 y232).bind fun t256 => (if t256 = true then (if bt247.2 = 0 then ((lap_Right.f k y232).bind fun t257 => (some t257)) else (none)) else (none))) else (none)) else (none)) else (none)) else (none))) else (none)) else (none))))))) = some r := by first | (rw [hy232]; with_reducible exact H) | (have H2_ := (Option.bind_some _ _).symm.trans H; rw [hy232]; with_reducible exact H2_) | (have H2_ := (Option.bind_some _ _).symm.trans H; with_reducible exact H2_) | with_reducible exact H | (rw [hy232]; exact H) | exact H
 have Ny232 := zm hy232
 clear hy232
 replace H := Option.bind_eq_some_iff.mp H
 obtain ⟨⟨t235, t236⟩, A10, H⟩ := H
 replace H : ((lap_Back.f k t235 4).bind fun bt239 => ((lap_Frames.f k y232 8).bind fun bt243 => ((lap_Signal.f k bt243.1 8).bind fun bt247 => ((psalteryref07_Same.f k t235 (([0, 0, 0, 19, 9, 0, 0, 0] : List Int))).bind fun t254 => (if t254 = true then (if t236 = 0 then ((psalteryref07_Same.f k bt239.1 y232).bind fun t255 => (if t255 = true then (if bt239.2 = 0 then (if (bt243.1.length : Int) = 1 then (if bt243.2 = 0 then ((psalteryref07_Same.f k bt247.1 y232).bind fun t256 => (if t256 = true then (if bt247.2 = 0 then ((lap_Right.f k y232).bind fun t257 => (some t257)) else (none)) else (none))) else (none)) else (none)) else (none)) else (none))) else (none)) else (none)))))) = some r := H
 have A1 := zm A10
 clear A10
 replace H := Option.bind_eq_some_iff.mp H
 obtain ⟨⟨t239, t240⟩, A20, H⟩ := H
 replace H : ((lap_Frames.f k y232 8).bind fun bt243 => ((lap_Signal.f k bt243.1 8).bind fun bt247 => ((psalteryref07_Same.f k t235 (([0, 0, 0, 19, 9, 0, 0, 0] : List Int))).bind fun t254 => (if t254 = true then (if t236 = 0 then ((psalteryref07_Same.f k t239 y232).bind fun t255 => (if t255 = true then (if t240 = 0 then (if (bt243.1.length : Int) = 1 then (if bt243.2 = 0 then ((psalteryref07_Same.f k bt247.1 y232).bind fun t256 => (if t256 = true then (if bt247.2 = 0 then ((lap_Right.f k y232).bind fun t257 => (some t257)) else (none)) else (none))) else (none)) else (none)) else (none)) else (none))) else (none)) else (none))))) = some r := H
 have A2 := zm A20
 clear A20
 replace H := Option.bind_eq_some_iff.mp H
 obtain ⟨⟨t243, t244⟩, A30, H⟩ := H
 replace H : ((lap_Signal.f k t243 8).bind fun bt247 => ((psalteryref07_Same.f k t235 (([0, 0, 0, 19, 9, 0, 0, 0] : List Int))).bind fun t254 => (if t254 = true then (if t236 = 0 then ((psalteryref07_Same.f k t239 y232).bind fun t255 => (if t255 = true then (if t240 = 0 then (if (t243.length : Int) = 1 then (if t244 = 0 then ((psalteryref07_Same.f k bt247.1 y232).bind fun t256 => (if t256 = true then (if bt247.2 = 0 then ((lap_Right.f k y232).bind fun t257 => (some t257)) else (none)) else (none))) else (none)) else (none)) else (none)) else (none))) else (none)) else (none)))) = some r := H
 have A3 := zm A30
 clear A30
 replace H := Option.bind_eq_some_iff.mp H
 obtain ⟨⟨t247, t248⟩, A40, H⟩ := H
 replace H : ((psalteryref07_Same.f k t235 (([0, 0, 0, 19, 9, 0, 0, 0] : List Int))).bind fun t254 => (if t254 = true then (if t236 = 0 then ((psalteryref07_Same.f k t239 y232).bind fun t255 => (if t255 = true then (if t240 = 0 then (if (t243.length : Int) = 1 then (if t244 = 0 then ((psalteryref07_Same.f k t247 y232).bind fun t256 => (if t256 = true then (if t248 = 0 then ((lap_Right.f k y232).bind fun t257 => (some t257)) else (none)) else (none))) else (none)) else (none)) else (none)) else (none))) else (none)) else (none))) = some r := H
 have A4 := zm A40
 clear A40
 obtain ⟨y251, hy251⟩ : ∃ y_ : List Int, y_ = (([0, 0, 0, 19, 9, 0, 0, 0] : List Int)) := ⟨_, rfl⟩
 replace H : ((psalteryref07_Same.f k t235 y251).bind fun t254 => (if t254 = true then (if t236 = 0 then ((psalteryref07_Same.f k t239 y232).bind fun t255 => (if t255 = true then (if t240 = 0 then (if (t243.length : Int) = 1 then (if t244 = 0 then ((psalteryref07_Same.f k t247 y232).bind fun t256 => (if t256 = true then (if t248 = 0 then ((lap_Right.f k y232).bind fun t257 => (some t257)) else (none)) else (none))) else (none)) else (none)) else (none)) else (none))) else (none)) else (none))) = some r := by first | (rw [hy251]; with_reducible exact H) | (have H2_ := (Option.bind_some _ _).symm.trans H; rw [hy251]; with_reducible exact H2_) | (have H2_ := (Option.bind_some _ _).symm.trans H; with_reducible exact H2_) | with_reducible exact H | (rw [hy251]; exact H) | exact H
 have Ny251 := zm hy251
 clear hy251
 replace H := Option.bind_eq_some_iff.mp H
 obtain ⟨t254, A50, H⟩ := H
 replace H : (if t254 = true then (if t236 = 0 then ((psalteryref07_Same.f k t239 y232).bind fun t255 => (if t255 = true then (if t240 = 0 then (if (t243.length : Int) = 1 then (if t244 = 0 then ((psalteryref07_Same.f k t247 y232).bind fun t256 => (if t256 = true then (if t248 = 0 then ((lap_Right.f k y232).bind fun t257 => (some t257)) else (none)) else (none))) else (none)) else (none)) else (none)) else (none))) else (none)) else (none)) = some r := H
 have A5 := zm A50
 clear A50
 by_cases c6 : t254 = true
 ·
  subst c6
  have H1 : (if t236 = 0 then ((psalteryref07_Same.f k t239 y232).bind fun t255 => (if t255 = true then (if t240 = 0 then (if (t243.length : Int) = 1 then (if t244 = 0 then ((psalteryref07_Same.f k t247 y232).bind fun t256 => (if t256 = true then (if t248 = 0 then ((lap_Right.f k y232).bind fun t257 => (some t257)) else (none)) else (none))) else (none)) else (none)) else (none)) else (none))) else (none)) = some r := by rw [if_pos rfl] at H; exact H
  clear H
  have H := H1
  clear H1
  by_cases c7 : t236 = 0
  ·
   rw [if_pos c7] at H
   have c7b0 : (t236 == 0) = true := beq_iff_eq.mpr c7
   have c7b1 : (t236 != 0) = false := bne_eq_false_iff_eq.mpr c7
   clear c7
   replace H := Option.bind_eq_some_iff.mp H
   obtain ⟨t255, A80, H⟩ := H
   replace H : (if t255 = true then (if t240 = 0 then (if (t243.length : Int) = 1 then (if t244 = 0 then ((psalteryref07_Same.f k t247 y232).bind fun t256 => (if t256 = true then (if t248 = 0 then ((lap_Right.f k y232).bind fun t257 => (some t257)) else (none)) else (none))) else (none)) else (none)) else (none)) else (none)) = some r := H
   have A8 := zm A80
   clear A80
   by_cases c9 : t255 = true
   ·
    subst c9
    have H1 : (if t240 = 0 then (if (t243.length : Int) = 1 then (if t244 = 0 then ((psalteryref07_Same.f k t247 y232).bind fun t256 => (if t256 = true then (if t248 = 0 then ((lap_Right.f k y232).bind fun t257 => (some t257)) else (none)) else (none))) else (none)) else (none)) else (none)) = some r := by rw [if_pos rfl] at H; exact H
    clear H
    have H := H1
    clear H1
    by_cases c10 : t240 = 0
    ·
     rw [if_pos c10] at H
     have c10b0 : (t240 == 0) = true := beq_iff_eq.mpr c10
     have c10b1 : (t240 != 0) = false := bne_eq_false_iff_eq.mpr c10
     clear c10
     by_cases c11 : (t243.length : Int) = 1
     ·
      rw [if_pos c11] at H
      have c11b0 : ((t243.length : Int) == 1) = true := beq_iff_eq.mpr c11
      have c11b1 : ((t243.length : Int) != 1) = false := bne_eq_false_iff_eq.mpr c11
      clear c11
      by_cases c12 : t244 = 0
      ·
       rw [if_pos c12] at H
       have c12b0 : (t244 == 0) = true := beq_iff_eq.mpr c12
       have c12b1 : (t244 != 0) = false := bne_eq_false_iff_eq.mpr c12
       clear c12
       replace H := Option.bind_eq_some_iff.mp H
       obtain ⟨t256, A130, H⟩ := H
       replace H : (if t256 = true then (if t248 = 0 then ((lap_Right.f k y232).bind fun t257 => (some t257)) else (none)) else (none)) = some r := H
       have A13 := zm A130
       clear A130
       by_cases c14 : t256 = true
       ·
        subst c14
        have H1 : (if t248 = 0 then ((lap_Right.f k y232).bind fun t257 => (some t257)) else (none)) = some r := by rw [if_pos rfl] at H; exact H
        clear H
        have H := H1
        clear H1
        by_cases c15 : t248 = 0
        ·
         rw [if_pos c15] at H
         have c15b0 : (t248 == 0) = true := beq_iff_eq.mpr c15
         have c15b1 : (t248 != 0) = false := bne_eq_false_iff_eq.mpr c15
         clear c15
         replace H := Option.bind_eq_some_iff.mp H
         obtain ⟨t257, A160, H⟩ := H
         replace H : (some t257) = some r := H
         have A16 := zm A160
         clear A160
         obtain rfl := Option.some.inj H
         go_enter Tryd.func11, Tryd.ntmps11
         go_wp2_with (first | ((with_reducible refine gate_dst (N := 10) rfl ?_); (try (refine gate_guard (by rfl) ?_; dsimp only)); refine Kd.R_lit (Kd.int .i64) _ 2 ?hg (N := 10) ?hd (xs := ([0, 0, 0, 16, 16, 0, 0, 0] : List Int)) (inner := [.int .i64 0, .int .i64 0, .int .i64 0, .int .i64 16, .int .i64 16, .int .i64 0, .int .i64 0, .int .i64 0]) (ok := fun _ => True) (okp := fun _ => True) ?hr ?hp (fun _ hk => hk) trivial (Below.refl _ _) (Nat.le_refl _) (by simp) ?_; (case hd => rfl); (case hg => rfl); (case hr => first | (go_simp; done) | (go_simp; rfl)); (case hp => exact (Reps.one (show Kd.M (Kd.int .i64) _ _ _ 0 [.int .i64 0] from rfl) (Reps.one (show Kd.M (Kd.int .i64) _ _ _ 0 [.int .i64 0] from rfl) (Reps.one (show Kd.M (Kd.int .i64) _ _ _ 0 [.int .i64 0] from rfl) (Reps.one (show Kd.M (Kd.int .i64) _ _ _ 16 [.int .i64 16] from rfl) (Reps.one (show Kd.M (Kd.int .i64) _ _ _ 16 [.int .i64 16] from rfl) (Reps.one (show Kd.M (Kd.int .i64) _ _ _ 0 [.int .i64 0] from rfl) (Reps.one (show Kd.M (Kd.int .i64) _ _ _ 0 [.int .i64 0] from rfl) (Reps.one (show Kd.M (Kd.int .i64) _ _ _ 0 [.int .i64 0] from rfl) (Reps.none _ _)))))))))); intro v233 w17 ho18 hb hg_ hnew_; clear hg_ hnew_; (first | rw [← Ny232.out] at ho18 | (simp only [Int.reduceToNat] at ho18; rw [← Ny232.out] at ho18)); have n0_ := zm (Kd.R_lower ho18 (zE (by repeat (first | (with_reducible first | exact HB.out | apply ze | apply zd | apply zf) | exact HB.out)))); have n1_ := zm (zJ (by repeat (first | (with_reducible first | exact HB.out | apply ze | apply zd | apply zf) | exact HB.out)) hb); clear HB; have HO234 := n0_; have HB := n1_; clear n0_ n1_; clear hb ho18; obtain ⟨Ao19, co19, eo19⟩ := Kd.R_slice HO234.out; subst eo19) | ((with_reducible refine gate_callee (f := 12) rfl ?_); refine goesL_ (some 13) rfl rfl Tryd.func12 (by kernel_rfl) rfl #[.slice Ao19 y232.length co19, .int .i64 4] rfl (by (try simp only [List.map_toArray, List.map_cons, List.map_nil]); first | done | rfl | (simp only [List.length_drop, List.length_take]; rfl)) ?_; (with_reducible refine (lap_Turn.calls k _ _ y232 4 t235 t236 _ ?side1 ?side2 ?sideg A1.out).mono ?_); (case sideg => exact HG.out.below (by repeat (first | (with_reducible first | exact HB.out | apply ze | apply zd | apply zf) | exact HB.out))); (case side1 => repeat (first | exact (Kd.R_reads' HO234.out).2.2 | (with_reducible refine Kd.C_alloc ?_ _) | (with_reducible refine Kd.C_drewN ?_ _) | (with_reducible refine Kd.C_drew ?_))); (case side2 => exact (Kd.R_reads' HO234.out).2.1); rintro e w20 ⟨v237, rfl, ho0, hb⟩; refine ⟨_, rfl, ?_⟩; have n0_ := zm (Kd.R_elder' (by (with_reducible repeat (first | apply zo | apply zp | apply zq)); exact HO234.out) (Kd.R_base ho0) hb); have n1_ := zm (Kd.R_lower (Kd.R_new' ho0 (Kd.R_lt (by (with_reducible repeat (first | apply zo | apply zp | apply zq)); exact HO234.out))) (zE (by repeat (first | (with_reducible first | exact HB.out | apply ze | apply zd | apply zf) | exact HB.out)))); have n2_ := zm (zJ (by repeat (first | (with_reducible first | exact HB.out | apply ze | apply zd | apply zf) | exact HB.out)) hb); clear HO234; clear HB; have HO234 := n0_; have HO238 := n1_; have HB := n2_; clear n0_ n1_ n2_; (try clear hb); (try clear hb2); (try clear hk); (try clear hi); (try clear ho0); obtain ⟨Ao21, co21, eo21⟩ := Kd.R_slice HO238.out; subst eo21) | ((with_reducible refine gate_callee (f := 18) rfl ?_); refine goesL_ (some 18) rfl rfl Tryd.func18 (by kernel_rfl) rfl #[.slice Ao21 t235.length co21, .int .i64 4] rfl (by (try simp only [List.map_toArray, List.map_cons, List.map_nil]); first | done | rfl | (simp only [List.length_drop, List.length_take]; rfl)) ?_; (with_reducible refine (lap_Back.calls k _ _ t235 4 t239 t240 _ ?side1 ?side2 ?sideg A2.out).mono ?_); (case sideg => exact HG.out.below (by repeat (first | (with_reducible first | exact HB.out | apply ze | apply zd | apply zf) | exact HB.out))); (case side1 => repeat (first | exact (Kd.R_reads' HO238.out).2.2 | (with_reducible refine Kd.C_alloc ?_ _) | (with_reducible refine Kd.C_drewN ?_ _) | (with_reducible refine Kd.C_drew ?_))); (case side2 => exact (Kd.R_reads' HO238.out).2.1); rintro e w22 ⟨v241, rfl, ho0, hb⟩; refine ⟨_, rfl, ?_⟩; have n0_ := zm (Kd.R_elder' (by (with_reducible repeat (first | apply zo | apply zp | apply zq)); exact HO234.out) (Kd.R_base ho0) hb); have n1_ := zm (Kd.R_elder' (by (with_reducible repeat (first | apply zo | apply zp | apply zq)); exact HO238.out) (Kd.R_base ho0) hb); have n2_ := zm (Kd.R_lower (Kd.R_new' (Kd.R_new' ho0 (Kd.R_lt (by (with_reducible repeat (first | apply zo | apply zp | apply zq)); exact HO234.out))) (Kd.R_lt (by (with_reducible repeat (first | apply zo | apply zp | apply zq)); exact HO238.out))) (zE (by repeat (first | (with_reducible first | exact HB.out | apply ze | apply zd | apply zf) | exact HB.out)))); have n3_ := zm (zJ (by repeat (first | (with_reducible first | exact HB.out | apply ze | apply zd | apply zf) | exact HB.out)) hb); clear HO234; clear HO238; clear HB; have HO234 := n0_; have HO238 := n1_; have HO242 := n2_; have HB := n3_; clear n0_ n1_ n2_ n3_; (try clear hb); (try clear hb2); (try clear hk); (try clear hi); (try clear ho0)) | ((with_reducible refine gate_callee (f := 20) rfl ?_); refine goesL_ (some 23) rfl rfl Tryd.func20 (by kernel_rfl) rfl #[.slice Ao19 y232.length co19, .int .i64 8] rfl (by (try simp only [List.map_toArray, List.map_cons, List.map_nil]); first | done | rfl | (simp only [List.length_drop, List.length_take]; rfl)) ?_; (with_reducible refine (lap_Frames.calls k _ _ y232 8 t243 t244 _ ?side1 ?side2 ?sideg A3.out).mono ?_); (case sideg => exact HG.out.below (by repeat (first | (with_reducible first | exact HB.out | apply ze | apply zd | apply zf) | exact HB.out))); (case side1 => repeat (first | exact (Kd.R_reads' HO234.out).2.2 | (with_reducible refine Kd.C_alloc ?_ _) | (with_reducible refine Kd.C_drewN ?_ _) | (with_reducible refine Kd.C_drew ?_))); (case side2 => exact (Kd.R_reads' HO234.out).2.1); rintro e w23 ⟨v245, rfl, ho0, hb⟩; refine ⟨_, rfl, ?_⟩; have n0_ := zm (Kd.R_below (by (with_reducible repeat (first | apply zo | apply zp | apply zq)); exact HO234.out) hb); have n1_ := zm (Kd.R_below (by (with_reducible repeat (first | apply zo | apply zp | apply zq)); exact HO238.out) hb); have n2_ := zm (Kd.R_below (by (with_reducible repeat (first | apply zo | apply zp | apply zq)); exact HO242.out) hb); have n3_ := zm (Kd.S_lower (Kd.S_new' (Kd.S_new' (Kd.S_new' ho0 (Kd.R_lt (by (with_reducible repeat (first | apply zo | apply zp | apply zq)); exact HO234.out))) (Kd.R_lt (by (with_reducible repeat (first | apply zo | apply zp | apply zq)); exact HO238.out))) (Kd.R_lt (by (with_reducible repeat (first | apply zo | apply zp | apply zq)); exact HO242.out))) (zE (by repeat (first | (with_reducible first | exact HB.out | apply ze | apply zd | apply zf) | exact HB.out)))); have n4_ := zm (zJ (by repeat (first | (with_reducible first | exact HB.out | apply ze | apply zd | apply zf) | exact HB.out)) hb); clear HO234; clear HO238; clear HO242; clear HB; have HO234 := n0_; have HO238 := n1_; have HO242 := n2_; have HO246 := n3_; have HB := n4_; clear n0_ n1_ n2_ n3_ n4_; (try clear hb); (try clear hb2); (try clear hk); (try clear hi); (try clear ho0); obtain ⟨Ao24, co24, eo24⟩ := Kd.S_slice HO246.out; subst eo24) | ((with_reducible refine gate_callee (f := 24) rfl ?_); refine goesL_ (some 28) rfl rfl Tryd.func24 (by kernel_rfl) rfl #[.slice Ao24 t243.length co24, .int .i64 8] rfl (by (try simp only [List.map_toArray, List.map_cons, List.map_nil]); first | done | rfl | (simp only [List.length_drop, List.length_take]; rfl)) ?_; (with_reducible refine (lap_Signal.calls k _ _ t243 8 t247 t248 _ ?side1 ?side2 ?sideg A4.out).mono ?_); (case sideg => exact HG.out.below (by repeat (first | (with_reducible first | exact HB.out | apply ze | apply zd | apply zf) | exact HB.out))); (case side1 => repeat (first | exact (Kd.S_reads' HO246.out).2.2 | (with_reducible refine Kd.C_alloc ?_ _) | (with_reducible refine Kd.C_drewN ?_ _) | (with_reducible refine Kd.C_drew ?_))); (case side2 => exact (Kd.S_reads' HO246.out).2.1); rintro e w25 ⟨v249, rfl, ho0, hb⟩; refine ⟨_, rfl, ?_⟩; have n0_ := zm (Kd.R_elder' (by (with_reducible repeat (first | apply zo | apply zp | apply zq)); exact HO234.out) (Kd.R_base ho0) hb); have n1_ := zm (Kd.R_elder' (by (with_reducible repeat (first | apply zo | apply zp | apply zq)); exact HO238.out) (Kd.R_base ho0) hb); have n2_ := zm (Kd.R_elder' (by (with_reducible repeat (first | apply zo | apply zp | apply zq)); exact HO242.out) (Kd.R_base ho0) hb); have n3_ := zm (Kd.S_elder' (by (with_reducible repeat (first | apply Kd.S_alloc | apply Kd.S_drewN | apply Kd.S_drew)); exact HO246.out) (Kd.R_base ho0) hb); have n4_ := zm (Kd.R_lower (Kd.R_new' (Kd.R_new' (Kd.R_new' ho0 (Kd.R_lt (by (with_reducible repeat (first | apply zo | apply zp | apply zq)); exact HO234.out))) (Kd.R_lt (by (with_reducible repeat (first | apply zo | apply zp | apply zq)); exact HO238.out))) (Kd.R_lt (by (with_reducible repeat (first | apply zo | apply zp | apply zq)); exact HO242.out))) (zE (by repeat (first | (with_reducible first | exact HB.out | apply ze | apply zd | apply zf) | exact HB.out)))); have n5_ := zm (zJ (by repeat (first | (with_reducible first | exact HB.out | apply ze | apply zd | apply zf) | exact HB.out)) hb); clear HO234; clear HO238; clear HO242; clear HO246; clear HB; have HO234 := n0_; have HO238 := n1_; have HO242 := n2_; have HO246 := n3_; have HO250 := n4_; have HB := n5_; clear n0_ n1_ n2_ n3_ n4_ n5_; (try clear hb); (try clear hb2); (try clear hk); (try clear hi); (try clear ho0)) | ((with_reducible refine gate_dst (N := 32) rfl ?_); (try (refine gate_guard (by rfl) ?_; dsimp only)); refine Kd.R_lit (Kd.int .i64) _ 2 ?hg (N := 32) ?hd (xs := ([0, 0, 0, 19, 9, 0, 0, 0] : List Int)) (inner := [.int .i64 0, .int .i64 0, .int .i64 0, .int .i64 19, .int .i64 9, .int .i64 0, .int .i64 0, .int .i64 0]) (ok := fun _ => True) (okp := fun _ => True) ?hr ?hp (fun _ hk => hk) trivial (Below.refl _ _) (Nat.le_refl _) (by simp) ?_; (case hd => rfl); (case hg => rfl); (case hr => first | (go_simp; done) | (go_simp; rfl)); (case hp => exact (Reps.one (show Kd.M (Kd.int .i64) _ _ _ 0 [.int .i64 0] from rfl) (Reps.one (show Kd.M (Kd.int .i64) _ _ _ 0 [.int .i64 0] from rfl) (Reps.one (show Kd.M (Kd.int .i64) _ _ _ 0 [.int .i64 0] from rfl) (Reps.one (show Kd.M (Kd.int .i64) _ _ _ 19 [.int .i64 19] from rfl) (Reps.one (show Kd.M (Kd.int .i64) _ _ _ 9 [.int .i64 9] from rfl) (Reps.one (show Kd.M (Kd.int .i64) _ _ _ 0 [.int .i64 0] from rfl) (Reps.one (show Kd.M (Kd.int .i64) _ _ _ 0 [.int .i64 0] from rfl) (Reps.one (show Kd.M (Kd.int .i64) _ _ _ 0 [.int .i64 0] from rfl) (Reps.none _ _)))))))))); intro v252 w26 ho27 hb hg_ hnew_; clear hg_ hnew_; (first | rw [← Ny251.out] at ho27 | (simp only [Int.reduceToNat] at ho27; rw [← Ny251.out] at ho27)); have n0_ := zm (Kd.R_elder' (by (with_reducible repeat (first | apply zo | apply zp | apply zq)); exact HO234.out) (Kd.R_base ho27) hb); have n1_ := zm (Kd.R_elder' (by (with_reducible repeat (first | apply zo | apply zp | apply zq)); exact HO238.out) (Kd.R_base ho27) hb); have n2_ := zm (Kd.R_elder' (by (with_reducible repeat (first | apply zo | apply zp | apply zq)); exact HO242.out) (Kd.R_base ho27) hb); have n3_ := zm (Kd.S_elder' (by (with_reducible repeat (first | apply Kd.S_alloc | apply Kd.S_drewN | apply Kd.S_drew)); exact HO246.out) (Kd.R_base ho27) hb); have n4_ := zm (Kd.R_elder' (by (with_reducible repeat (first | apply zo | apply zp | apply zq)); exact HO250.out) (Kd.R_base ho27) hb); have n5_ := zm (Kd.R_lower (Kd.R_new' (Kd.R_new' (Kd.R_new' (Kd.R_new' ho27 (Kd.R_lt (by (with_reducible repeat (first | apply zo | apply zp | apply zq)); exact HO234.out))) (Kd.R_lt (by (with_reducible repeat (first | apply zo | apply zp | apply zq)); exact HO238.out))) (Kd.R_lt (by (with_reducible repeat (first | apply zo | apply zp | apply zq)); exact HO242.out))) (Kd.R_lt (by (with_reducible repeat (first | apply zo | apply zp | apply zq)); exact HO250.out))) (zE (by repeat (first | (with_reducible first | exact HB.out | apply ze | apply zd | apply zf) | exact HB.out)))); have n6_ := zm (zJ (by repeat (first | (with_reducible first | exact HB.out | apply ze | apply zd | apply zf) | exact HB.out)) hb); clear HO234; clear HO238; clear HO242; clear HO246; clear HO250; clear HB; have HO234 := n0_; have HO238 := n1_; have HO242 := n2_; have HO246 := n3_; have HO250 := n4_; have HO253 := n5_; have HB := n6_; clear n0_ n1_ n2_ n3_ n4_ n5_ n6_; clear hb ho27; obtain ⟨Ao28, co28, eo28⟩ := Kd.R_slice HO253.out; subst eo28) | ((with_reducible refine gate_callee (f := 16) rfl ?_); refine goesL_ (some 33) rfl rfl Tryd.func16 (by kernel_rfl) rfl #[.slice Ao21 t235.length co21, .slice Ao28 y251.length co28] rfl (by (try simp only [List.map_toArray, List.map_cons, List.map_nil]); first | done | rfl | (simp only [List.length_drop, List.length_take]; rfl)) ?_; (with_reducible refine (psalteryref07_Same.calls k _ _ t235 _ _ y251 true _ ?side1 ?side2 ?side3 ?side4 A5.out).mono ?_); (case side1 => repeat (first | exact (Kd.R_reads' HO238.out).2.2 | (with_reducible refine Kd.C_alloc ?_ _) | (with_reducible refine Kd.C_drewN ?_ _) | (with_reducible refine Kd.C_drew ?_))); (case side2 => exact (Kd.R_reads' HO238.out).2.1); (case side3 => repeat (first | exact (Kd.R_reads' HO253.out).2.2 | (with_reducible refine Kd.C_alloc ?_ _) | (with_reducible refine Kd.C_drewN ?_ _) | (with_reducible refine Kd.C_drew ?_))); (case side4 => exact (Kd.R_reads' HO253.out).2.1); rintro e w' ⟨rfl, ⟨nd, rfl⟩⟩; refine ⟨_, rfl, ?_⟩; obtain ⟨Ao29, co29, eo29⟩ := Kd.R_slice HO242.out; subst eo29) | (go_at_call 16; (with_reducible refine (psalteryref07_Same.calls k _ _ t239 _ _ y232 true _ ?side1 ?side2 ?side3 ?side4 A8.out).mono ?_); (case side1 => repeat (first | exact (Kd.R_reads' HO242.out).2.2 | (with_reducible refine Kd.C_alloc ?_ _) | (with_reducible refine Kd.C_drewN ?_ _) | (with_reducible refine Kd.C_drew ?_))); (case side2 => exact (Kd.R_reads' HO242.out).2.1); (case side3 => repeat (first | exact (Kd.R_reads' HO234.out).2.2 | (with_reducible refine Kd.C_alloc ?_ _) | (with_reducible refine Kd.C_drewN ?_ _) | (with_reducible refine Kd.C_drew ?_))); (case side4 => exact (Kd.R_reads' HO234.out).2.1); rintro e w' ⟨rfl, ⟨nd, rfl⟩⟩; obtain ⟨Ao30, co30, eo30⟩ := Kd.R_slice HO250.out; subst eo30) | (go_at_call 16; (with_reducible refine (psalteryref07_Same.calls k _ _ t247 _ _ y232 true _ ?side1 ?side2 ?side3 ?side4 A13.out).mono ?_); (case side1 => repeat (first | exact (Kd.R_reads' HO250.out).2.2 | (with_reducible refine Kd.C_alloc ?_ _) | (with_reducible refine Kd.C_drewN ?_ _) | (with_reducible refine Kd.C_drew ?_))); (case side2 => exact (Kd.R_reads' HO250.out).2.1); (case side3 => repeat (first | exact (Kd.R_reads' HO234.out).2.2 | (with_reducible refine Kd.C_alloc ?_ _) | (with_reducible refine Kd.C_drewN ?_ _) | (with_reducible refine Kd.C_drew ?_))); (case side4 => exact (Kd.R_reads' HO234.out).2.1); rintro e w' ⟨rfl, ⟨nd, rfl⟩⟩) | (go_at_call 14; (with_reducible refine (lap_Right.calls k _ _ y232 t257 _ ?side1 ?side2 A16.out).mono ?_); (case side1 => repeat (first | exact (Kd.R_reads' HO234.out).2.2 | (with_reducible refine Kd.C_alloc ?_ _) | (with_reducible refine Kd.C_drewN ?_ _) | (with_reducible refine Kd.C_drew ?_))); (case side2 => exact (Kd.R_reads' HO234.out).2.1); rintro e w' ⟨rfl, ⟨nd, rfl⟩⟩))
         go_ret
         exact ⟨by first | rfl | (simp [errW_none, errW_some] <;> rfl) | (simp [*, errW_none, errW_some] <;> rfl), by repeat (first | (with_reducible first | exact HB.out | apply ze | apply zd | apply zf) | exact HB.out)⟩
        ·
         rw [if_neg c15] at H
         exact absurd H (by simp)
       ·
        replace c14 := Bool.eq_false_iff.mpr c14
        subst c14
        have H1 : (none) = some r := by rw [if_neg (show ¬ (false = true) by decide)] at H; exact H
        clear H
        have H := H1
        clear H1
        exact absurd H (by simp)
      ·
       rw [if_neg c12] at H
       exact absurd H (by simp)
     ·
      rw [if_neg c11] at H
      exact absurd H (by simp)
    ·
     rw [if_neg c10] at H
     exact absurd H (by simp)
   ·
    replace c9 := Bool.eq_false_iff.mpr c9
    subst c9
    have H1 : (none) = some r := by rw [if_neg (show ¬ (false = true) by decide)] at H; exact H
    clear H
    have H := H1
    clear H1
    exact absurd H (by simp)
  ·
   rw [if_neg c7] at H
   exact absurd H (by simp)
 ·
  replace c6 := Bool.eq_false_iff.mpr c6
  subst c6
  have H1 : (none) = some r := by rw [if_neg (show ¬ (false = true) by decide)] at H; exact H
  clear H
  have H := H1
  clear H1
  exact absurd H (by simp)

end Go.Proofs.YtllchhcdpfiodaaDoor.Prt

namespace Go.Proofs.YtllchhcdpfiodaaDoor.Prt
open Go.RowKit Go.Proofs.YtllchhcdpfiodaaDoorW.PrintWords Go.Proofs.YtllchhcdpfiodaaDoorW.PrintLast Go.Proofs.YtllchhcdpfiodaaDoorW.PrintMore
attribute [local go_sem] max2_int min2_int max_two min_two max_three min_three max_four min_four   -- for this text's walks alone
set_option linter.unusedVariables false
set_option linter.unusedSimpArgs false

/-! ### psalterylaw09_LapBorder: function 7 -/
mutual
def psalterylaw09_LapBorder.j0 : Nat → List Int → Int → List Int → Bool → Option (Bool)
 | 0, _, _, _, _ => none
 | k + 1, x0, x1, x5, x40 => if x40 = true then (none) else (psalterylaw09_LapBorder.l0 k x0 x1 x5 0)
def psalterylaw09_LapBorder.l0 : Nat → List Int → Int → List Int → Int → Option (Bool)
 | 0, _, _, _, _ => none
 | k + 1, x0, x1, x5, x9 => if x9 < (x0.length : Int) then (if x9 < (wrap64 (x1 - 4)) then (if 0 ≤ x9 then (if x9 < (x5.length : Int) then (if (rd x0 x9) = (rd x5 x9) then (psalterylaw09_LapBorder.l0 k x0 x1 x5 (wrap64 (x9 + 1))) else (none)) else (none)) else (none)) else (if x9 ≥ (wrap64 (x1 + 4)) then (if 0 ≤ x9 then (if x9 < (x5.length : Int) then (if (rd x0 x9) = (rd x5 x9) then (psalterylaw09_LapBorder.l0 k x0 x1 x5 (wrap64 (x9 + 1))) else (none)) else (none)) else (none)) else (psalterylaw09_LapBorder.l0 k x0 x1 x5 (wrap64 (x9 + 1))))) else ((psalterylaw09_knows.f k).bind fun t439 => (some t439))
end
def psalterylaw09_LapBorder.f (k : Nat) (l0 : List Int) (a1 : Int) : Option (Bool) := (psalterylaw09_great.f l0).bind fun t423 => (if t423 = true then ((psalterylaw09_knows.f k).bind fun t424 => (some t424)) else ((lap_Turn.f k l0 a1).bind fun bt425 => (if bt425.2 = 0 then ((lap_Back.f k bt425.1 a1).bind fun bt430 => (if bt430.2 = 0 then ((psalteryref07_Same.f k l0 bt430.1).bind fun t434 => (psalterylaw09_LapBorder.j0 k l0 a1 bt425.1 (!t434))) else (psalterylaw09_LapBorder.j0 k l0 a1 bt425.1 true))) else (if (bt425.1.length : Int) = 0 then ((psalterylaw09_knows.f k).bind fun t429 => (some t429)) else (none)))))
theorem psalterylaw09_LapBorder.mono_l : ∀ k, (∀ y0 y1 y2 y3, LeO (psalterylaw09_LapBorder.j0 k y0 y1 y2 y3) (psalterylaw09_LapBorder.j0 (k + 1) y0 y1 y2 y3)) ∧ (∀ y0 y1 y2 y3, LeO (psalterylaw09_LapBorder.l0 k y0 y1 y2 y3) (psalterylaw09_LapBorder.l0 (k + 1) y0 y1 y2 y3))
 | 0 => ⟨fun _ _ _ _ r h => by simp [psalterylaw09_LapBorder.j0] at h, fun _ _ _ _ r h => by simp [psalterylaw09_LapBorder.l0] at h⟩
 | k + 1 => by
  obtain ⟨ih0, ih1⟩ := psalterylaw09_LapBorder.mono_l k
  refine ⟨?_, ?_⟩
  ·
   intro y0 y1 y2 y3
   unfold psalterylaw09_LapBorder.j0
   repeat' first
   | (with_reducible exact ih0 _ _ _ _)
   | (with_reducible exact ih1 _ _ _ _)
   | (with_reducible exact lap_Back.mono _ _ _)
   | (with_reducible exact lap_Turn.mono _ _ _)
   | (with_reducible exact psalterylaw09_knows.mono _)
   | (with_reducible exact psalteryref07_Same.mono _ _ _)
   | (with_reducible exact LeO.refl _)
   | (with_reducible exact LeO.none _)
   | (with_reducible refine LeO.ite ?_ ?_)
   | (with_reducible refine LeO.bind ?_ (fun _ => ?_))
   | exact ih0 _ _ _ _
   | exact ih1 _ _ _ _
   | exact lap_Back.mono _ _ _
   | exact lap_Turn.mono _ _ _
   | exact psalterylaw09_knows.mono _
   | exact psalteryref07_Same.mono _ _ _
   | exact LeO.none _
   | refine LeO.ite ?_ ?_
   | refine LeO.bind ?_ (fun _ => ?_)
  ·
   intro y0 y1 y2 y3
   unfold psalterylaw09_LapBorder.l0
   repeat' first
   | (with_reducible exact ih0 _ _ _ _)
   | (with_reducible exact ih1 _ _ _ _)
   | (with_reducible exact lap_Back.mono _ _ _)
   | (with_reducible exact lap_Turn.mono _ _ _)
   | (with_reducible exact psalterylaw09_knows.mono _)
   | (with_reducible exact psalteryref07_Same.mono _ _ _)
   | (with_reducible exact LeO.refl _)
   | (with_reducible exact LeO.none _)
   | (with_reducible refine LeO.ite ?_ ?_)
   | (with_reducible refine LeO.bind ?_ (fun _ => ?_))
   | exact ih0 _ _ _ _
   | exact ih1 _ _ _ _
   | exact lap_Back.mono _ _ _
   | exact lap_Turn.mono _ _ _
   | exact psalterylaw09_knows.mono _
   | exact psalteryref07_Same.mono _ _ _
   | exact LeO.none _
   | refine LeO.ite ?_ ?_
   | refine LeO.bind ?_ (fun _ => ?_)
theorem psalterylaw09_LapBorder.mono : ∀ a0 a1 k, LeO (psalterylaw09_LapBorder.f k a0 a1) (psalterylaw09_LapBorder.f (k + 1) a0 a1) := by
 intro a0 a1 k
 obtain ⟨ih0, ih1⟩ := psalterylaw09_LapBorder.mono_l k
 unfold psalterylaw09_LapBorder.f
 repeat' first
   | (with_reducible exact ih0 _ _ _ _)
   | (with_reducible exact ih1 _ _ _ _)
   | (with_reducible exact lap_Back.mono _ _ _)
   | (with_reducible exact lap_Turn.mono _ _ _)
   | (with_reducible exact psalterylaw09_knows.mono _)
   | (with_reducible exact psalteryref07_Same.mono _ _ _)
   | (with_reducible exact LeO.refl _)
   | (with_reducible exact LeO.none _)
   | (with_reducible refine LeO.ite ?_ ?_)
   | (with_reducible refine LeO.bind ?_ (fun _ => ?_))
   | exact ih0 _ _ _ _
   | exact ih1 _ _ _ _
   | exact lap_Back.mono _ _ _
   | exact lap_Turn.mono _ _ _
   | exact psalterylaw09_knows.mono _
   | exact psalteryref07_Same.mono _ _ _
   | exact LeO.none _
   | refine LeO.ite ?_ ?_
   | refine LeO.bind ?_ (fun _ => ?_)
set_option maxHeartbeats 8000000 in
set_option maxRecDepth 100000 in
theorem psalterylaw09_LapBorder.calls (k : Nat) (A0 : Option Addr) (c0 : Nat) (l0 : List Int) (a1 : Int) (r : Bool) (w : World) (hr0 : Kd.C (Kd.int .i64) w A0 l0.length l0) (hc0 : l0.length ≤ c0) (hg : GW w) (h : psalterylaw09_LapBorder.f k l0 a1 = some r) :
  Calls Tryd.prog 7 #[.slice A0 l0.length c0, .int .i64 a1] w fun e w' => e = .returned (.bool r) ∧ Below w.heap.size w w' := by
 have HG := zm hg
 clear hg
 have HR0 := zm hr0
 have HC0 := zm hc0
 clear hr0 hc0
 have HB := zm (Below.refl w.heap.size w)
 have H : ((psalterylaw09_great.f l0).bind fun t423 => (if t423 = true then ((psalterylaw09_knows.f k).bind fun t424 => (some t424)) else ((lap_Turn.f k l0 a1).bind fun bt425 => (if bt425.2 = 0 then ((lap_Back.f k bt425.1 a1).bind fun bt430 => (if bt430.2 = 0 then ((psalteryref07_Same.f k l0 bt430.1).bind fun t434 => (psalterylaw09_LapBorder.j0 k l0 a1 bt425.1 (!t434))) else (psalterylaw09_LapBorder.j0 k l0 a1 bt425.1 true))) else (if (bt425.1.length : Int) = 0 then ((psalterylaw09_knows.f k).bind fun t429 => (some t429)) else (none)))))) = some r := h
 clear h
 replace H := Option.bind_eq_some_iff.mp H
 obtain ⟨t423, A30, H⟩ := H
 replace H : (if t423 = true then ((psalterylaw09_knows.f k).bind fun t424 => (some t424)) else ((lap_Turn.f k l0 a1).bind fun bt425 => (if bt425.2 = 0 then ((lap_Back.f k bt425.1 a1).bind fun bt430 => (if bt430.2 = 0 then ((psalteryref07_Same.f k l0 bt430.1).bind fun t434 => (psalterylaw09_LapBorder.j0 k l0 a1 bt425.1 (!t434))) else (psalterylaw09_LapBorder.j0 k l0 a1 bt425.1 true))) else (if (bt425.1.length : Int) = 0 then ((psalterylaw09_knows.f k).bind fun t429 => (some t429)) else (none))))) = some r := H
 have A3 := zm A30
 clear A30
 by_cases c4 : t423 = true
 ·
  subst c4
  have H1 : ((psalterylaw09_knows.f k).bind fun t424 => (some t424)) = some r := by rw [if_pos rfl] at H; exact H
  clear H
  have H := H1
  clear H1
  replace H := Option.bind_eq_some_iff.mp H
  obtain ⟨t424, A50, H⟩ := H
  replace H : (some t424) = some r := H
  have A5 := zm A50
  clear A50
  obtain rfl := Option.some.inj H
  go_enter Tryd.func7, Tryd.ntmps7
  go_wp2_with (first | (go_at_call 10; (with_reducible refine (psalterylaw09_great.calls _ _ l0 true _ ?side1 ?side2 A3.out).mono ?_); (case side1 => repeat (first | exact HR0.out | (with_reducible refine Kd.C_alloc ?_ _) | (with_reducible refine Kd.C_drewN ?_ _) | (with_reducible refine Kd.C_drew ?_))); (case side2 => exact HC0.out); rintro e w' ⟨rfl, ⟨nd, rfl⟩⟩; (try first | exact ⟨rfl, _, World.drewN_drewN _ _ _⟩ | exact ⟨rfl, _, Eq.trans (World.drewN_drewN _ _ _) (congrArg (World.drewN _) (Nat.add_assoc _ _ _))⟩)) | (go_at_call 11; (with_reducible refine (psalterylaw09_knows.calls k  t424 _ ?sideg A5.out).mono ?_); (case sideg => exact HG.out.below (by repeat (first | (with_reducible first | exact HB.out | apply ze | apply zd | apply zf) | exact HB.out))); rintro e w6 ⟨rfl, hb⟩; have n0_ := zm (zJ (by repeat (first | (with_reducible first | exact HB.out | apply ze | apply zd | apply zf) | exact HB.out)) hb); clear HB; have HB := n0_; clear n0_; (try clear hb); (try clear hb2); (try clear hk); (try clear hi)))
  repeat (go_quiet (first | (go_at_call 10; (with_reducible refine (psalterylaw09_great.calls _ _ l0 true _ ?side1 ?side2 A3.out).mono ?_); (case side1 => repeat (first | exact HR0.out | (with_reducible refine Kd.C_alloc ?_ _) | (with_reducible refine Kd.C_drewN ?_ _) | (with_reducible refine Kd.C_drew ?_))); (case side2 => exact HC0.out); rintro e w' ⟨rfl, ⟨nd, rfl⟩⟩; (try first | exact ⟨rfl, _, World.drewN_drewN _ _ _⟩ | exact ⟨rfl, _, Eq.trans (World.drewN_drewN _ _ _) (congrArg (World.drewN _) (Nat.add_assoc _ _ _))⟩)) | (go_at_call 11; (with_reducible refine (psalterylaw09_knows.calls k  t424 _ ?sideg A5.out).mono ?_); (case sideg => exact HG.out.below (by repeat (first | (with_reducible first | exact HB.out | apply ze | apply zd | apply zf) | exact HB.out))); rintro e w6 ⟨rfl, hb⟩; have n0_ := zm (zJ (by repeat (first | (with_reducible first | exact HB.out | apply ze | apply zd | apply zf) | exact HB.out)) hb); clear HB; have HB := n0_; clear n0_; (try clear hb); (try clear hb2); (try clear hk); (try clear hi))); try go_wp2_with (first | (go_at_call 10; (with_reducible refine (psalterylaw09_great.calls _ _ l0 true _ ?side1 ?side2 A3.out).mono ?_); (case side1 => repeat (first | exact HR0.out | (with_reducible refine Kd.C_alloc ?_ _) | (with_reducible refine Kd.C_drewN ?_ _) | (with_reducible refine Kd.C_drew ?_))); (case side2 => exact HC0.out); rintro e w' ⟨rfl, ⟨nd, rfl⟩⟩; (try first | exact ⟨rfl, _, World.drewN_drewN _ _ _⟩ | exact ⟨rfl, _, Eq.trans (World.drewN_drewN _ _ _) (congrArg (World.drewN _) (Nat.add_assoc _ _ _))⟩)) | (go_at_call 11; (with_reducible refine (psalterylaw09_knows.calls k  t424 _ ?sideg A5.out).mono ?_); (case sideg => exact HG.out.below (by repeat (first | (with_reducible first | exact HB.out | apply ze | apply zd | apply zf) | exact HB.out))); rintro e w6 ⟨rfl, hb⟩; have n0_ := zm (zJ (by repeat (first | (with_reducible first | exact HB.out | apply ze | apply zd | apply zf) | exact HB.out)) hb); clear HB; have HB := n0_; clear n0_; (try clear hb); (try clear hb2); (try clear hk); (try clear hi))))
  go_ret
  exact ⟨by first | rfl | (simp [errW_none, errW_some] <;> rfl) | (simp [*, errW_none, errW_some] <;> rfl), by repeat (first | (with_reducible first | exact HB.out | apply ze | apply zd | apply zf) | exact HB.out)⟩
 ·
  replace c4 := Bool.eq_false_iff.mpr c4
  subst c4
  have H1 : ((lap_Turn.f k l0 a1).bind fun bt425 => (if bt425.2 = 0 then ((lap_Back.f k bt425.1 a1).bind fun bt430 => (if bt430.2 = 0 then ((psalteryref07_Same.f k l0 bt430.1).bind fun t434 => (psalterylaw09_LapBorder.j0 k l0 a1 bt425.1 (!t434))) else (psalterylaw09_LapBorder.j0 k l0 a1 bt425.1 true))) else (if (bt425.1.length : Int) = 0 then ((psalterylaw09_knows.f k).bind fun t429 => (some t429)) else (none)))) = some r := by rw [if_neg (show ¬ (false = true) by decide)] at H; exact H
  clear H
  have H := H1
  clear H1
  replace H := Option.bind_eq_some_iff.mp H
  obtain ⟨⟨t425, t426⟩, A70, H⟩ := H
  replace H : (if t426 = 0 then ((lap_Back.f k t425 a1).bind fun bt430 => (if bt430.2 = 0 then ((psalteryref07_Same.f k l0 bt430.1).bind fun t434 => (psalterylaw09_LapBorder.j0 k l0 a1 t425 (!t434))) else (psalterylaw09_LapBorder.j0 k l0 a1 t425 true))) else (if (t425.length : Int) = 0 then ((psalterylaw09_knows.f k).bind fun t429 => (some t429)) else (none))) = some r := H
  have A7 := zm A70
  clear A70
  by_cases c8 : t426 = 0
  ·
   rw [if_pos c8] at H
   have c8b0 : (t426 == 0) = true := beq_iff_eq.mpr c8
   have c8b1 : (t426 != 0) = false := bne_eq_false_iff_eq.mpr c8
   clear c8
   replace H := Option.bind_eq_some_iff.mp H
   obtain ⟨⟨t430, t431⟩, A90, H⟩ := H
   replace H : (if t431 = 0 then ((psalteryref07_Same.f k l0 t430).bind fun t434 => (psalterylaw09_LapBorder.j0 k l0 a1 t425 (!t434))) else (psalterylaw09_LapBorder.j0 k l0 a1 t425 true)) = some r := H
   have A9 := zm A90
   clear A90
   have HC10 := zm H
   clear H
   go_enter Tryd.func7, Tryd.ntmps7
   go_upto_region 7 with (first | (go_at_call 10; (with_reducible refine (psalterylaw09_great.calls _ _ l0 false _ ?side1 ?side2 A3.out).mono ?_); (case side1 => repeat (first | exact HR0.out | (with_reducible refine Kd.C_alloc ?_ _) | (with_reducible refine Kd.C_drewN ?_ _) | (with_reducible refine Kd.C_drew ?_))); (case side2 => exact HC0.out); rintro e w' ⟨rfl, ⟨nd, rfl⟩⟩; (try first | exact ⟨rfl, _, World.drewN_drewN _ _ _⟩ | exact ⟨rfl, _, Eq.trans (World.drewN_drewN _ _ _) (congrArg (World.drewN _) (Nat.add_assoc _ _ _))⟩)) | (go_at_call 12; (with_reducible refine (lap_Turn.calls k _ _ l0 a1 t425 t426 _ ?side1 ?side2 ?sideg A7.out).mono ?_); (case sideg => exact HG.out.below (by repeat (first | (with_reducible first | exact HB.out | apply ze | apply zd | apply zf) | exact HB.out))); (case side1 => repeat (first | exact HR0.out | (with_reducible refine Kd.C_alloc ?_ _) | (with_reducible refine Kd.C_drewN ?_ _) | (with_reducible refine Kd.C_drew ?_))); (case side2 => exact HC0.out); rintro e w11 ⟨v427, rfl, ho0, hb⟩; have n0_ := zm (Kd.R_lower ho0 (zE (by repeat (first | (with_reducible first | exact HB.out | apply ze | apply zd | apply zf) | exact HB.out)))); have n1_ := zm (zJ (by repeat (first | (with_reducible first | exact HB.out | apply ze | apply zd | apply zf) | exact HB.out)) hb); clear HB; have HO428 := n0_; have HB := n1_; clear n0_ n1_; (try clear hb); (try clear hb2); (try clear hk); (try clear hi); (try clear ho0); obtain ⟨Ao12, co12, eo12⟩ := Kd.R_slice HO428.out; subst eo12) | (go_at_call 18; (with_reducible refine (lap_Back.calls k _ _ t425 a1 t430 t431 _ ?side1 ?side2 ?sideg A9.out).mono ?_); (case sideg => exact HG.out.below (by repeat (first | (with_reducible first | exact HB.out | apply ze | apply zd | apply zf) | exact HB.out))); (case side1 => repeat (first | exact (Kd.R_reads' HO428.out).2.2 | (with_reducible refine Kd.C_alloc ?_ _) | (with_reducible refine Kd.C_drewN ?_ _) | (with_reducible refine Kd.C_drew ?_))); (case side2 => exact (Kd.R_reads' HO428.out).2.1); rintro e w13 ⟨v432, rfl, ho0, hb⟩; have n0_ := zm (Kd.R_elder' (by (with_reducible repeat (first | apply zo | apply zp | apply zq)); exact HO428.out) (Kd.R_base ho0) hb); have n1_ := zm (Kd.R_lower (Kd.R_new' ho0 (Kd.R_lt (by (with_reducible repeat (first | apply zo | apply zp | apply zq)); exact HO428.out))) (zE (by repeat (first | (with_reducible first | exact HB.out | apply ze | apply zd | apply zf) | exact HB.out)))); have n2_ := zm (zJ (by repeat (first | (with_reducible first | exact HB.out | apply ze | apply zd | apply zf) | exact HB.out)) hb); clear HO428; clear HB; have HO428 := n0_; have HO433 := n1_; have HB := n2_; clear n0_ n1_ n2_; (try clear hb); (try clear hb2); (try clear hk); (try clear hi); (try clear ho0)))
   repeat (go_quiet (first | (go_at_call 10; (with_reducible refine (psalterylaw09_great.calls _ _ l0 false _ ?side1 ?side2 A3.out).mono ?_); (case side1 => repeat (first | exact HR0.out | (with_reducible refine Kd.C_alloc ?_ _) | (with_reducible refine Kd.C_drewN ?_ _) | (with_reducible refine Kd.C_drew ?_))); (case side2 => exact HC0.out); rintro e w' ⟨rfl, ⟨nd, rfl⟩⟩; (try first | exact ⟨rfl, _, World.drewN_drewN _ _ _⟩ | exact ⟨rfl, _, Eq.trans (World.drewN_drewN _ _ _) (congrArg (World.drewN _) (Nat.add_assoc _ _ _))⟩)) | (go_at_call 12; (with_reducible refine (lap_Turn.calls k _ _ l0 a1 t425 t426 _ ?side1 ?side2 ?sideg A7.out).mono ?_); (case sideg => exact HG.out.below (by repeat (first | (with_reducible first | exact HB.out | apply ze | apply zd | apply zf) | exact HB.out))); (case side1 => repeat (first | exact HR0.out | (with_reducible refine Kd.C_alloc ?_ _) | (with_reducible refine Kd.C_drewN ?_ _) | (with_reducible refine Kd.C_drew ?_))); (case side2 => exact HC0.out); rintro e w11 ⟨v427, rfl, ho0, hb⟩; have n0_ := zm (Kd.R_lower ho0 (zE (by repeat (first | (with_reducible first | exact HB.out | apply ze | apply zd | apply zf) | exact HB.out)))); have n1_ := zm (zJ (by repeat (first | (with_reducible first | exact HB.out | apply ze | apply zd | apply zf) | exact HB.out)) hb); clear HB; have HO428 := n0_; have HB := n1_; clear n0_ n1_; (try clear hb); (try clear hb2); (try clear hk); (try clear hi); (try clear ho0); obtain ⟨Ao12, co12, eo12⟩ := Kd.R_slice HO428.out; subst eo12) | (go_at_call 18; (with_reducible refine (lap_Back.calls k _ _ t425 a1 t430 t431 _ ?side1 ?side2 ?sideg A9.out).mono ?_); (case sideg => exact HG.out.below (by repeat (first | (with_reducible first | exact HB.out | apply ze | apply zd | apply zf) | exact HB.out))); (case side1 => repeat (first | exact (Kd.R_reads' HO428.out).2.2 | (with_reducible refine Kd.C_alloc ?_ _) | (with_reducible refine Kd.C_drewN ?_ _) | (with_reducible refine Kd.C_drew ?_))); (case side2 => exact (Kd.R_reads' HO428.out).2.1); rintro e w13 ⟨v432, rfl, ho0, hb⟩; have n0_ := zm (Kd.R_elder' (by (with_reducible repeat (first | apply zo | apply zp | apply zq)); exact HO428.out) (Kd.R_base ho0) hb); have n1_ := zm (Kd.R_lower (Kd.R_new' ho0 (Kd.R_lt (by (with_reducible repeat (first | apply zo | apply zp | apply zq)); exact HO428.out))) (zE (by repeat (first | (with_reducible first | exact HB.out | apply ze | apply zd | apply zf) | exact HB.out)))); have n2_ := zm (zJ (by repeat (first | (with_reducible first | exact HB.out | apply ze | apply zd | apply zf) | exact HB.out)) hb); clear HO428; clear HB; have HO428 := n0_; have HO433 := n1_; have HB := n2_; clear n0_ n1_ n2_; (try clear hb); (try clear hb2); (try clear hk); (try clear hi); (try clear ho0))); go_upto_region 7 with (first | (go_at_call 10; (with_reducible refine (psalterylaw09_great.calls _ _ l0 false _ ?side1 ?side2 A3.out).mono ?_); (case side1 => repeat (first | exact HR0.out | (with_reducible refine Kd.C_alloc ?_ _) | (with_reducible refine Kd.C_drewN ?_ _) | (with_reducible refine Kd.C_drew ?_))); (case side2 => exact HC0.out); rintro e w' ⟨rfl, ⟨nd, rfl⟩⟩; (try first | exact ⟨rfl, _, World.drewN_drewN _ _ _⟩ | exact ⟨rfl, _, Eq.trans (World.drewN_drewN _ _ _) (congrArg (World.drewN _) (Nat.add_assoc _ _ _))⟩)) | (go_at_call 12; (with_reducible refine (lap_Turn.calls k _ _ l0 a1 t425 t426 _ ?side1 ?side2 ?sideg A7.out).mono ?_); (case sideg => exact HG.out.below (by repeat (first | (with_reducible first | exact HB.out | apply ze | apply zd | apply zf) | exact HB.out))); (case side1 => repeat (first | exact HR0.out | (with_reducible refine Kd.C_alloc ?_ _) | (with_reducible refine Kd.C_drewN ?_ _) | (with_reducible refine Kd.C_drew ?_))); (case side2 => exact HC0.out); rintro e w11 ⟨v427, rfl, ho0, hb⟩; have n0_ := zm (Kd.R_lower ho0 (zE (by repeat (first | (with_reducible first | exact HB.out | apply ze | apply zd | apply zf) | exact HB.out)))); have n1_ := zm (zJ (by repeat (first | (with_reducible first | exact HB.out | apply ze | apply zd | apply zf) | exact HB.out)) hb); clear HB; have HO428 := n0_; have HB := n1_; clear n0_ n1_; (try clear hb); (try clear hb2); (try clear hk); (try clear hi); (try clear ho0); obtain ⟨Ao12, co12, eo12⟩ := Kd.R_slice HO428.out; subst eo12) | (go_at_call 18; (with_reducible refine (lap_Back.calls k _ _ t425 a1 t430 t431 _ ?side1 ?side2 ?sideg A9.out).mono ?_); (case sideg => exact HG.out.below (by repeat (first | (with_reducible first | exact HB.out | apply ze | apply zd | apply zf) | exact HB.out))); (case side1 => repeat (first | exact (Kd.R_reads' HO428.out).2.2 | (with_reducible refine Kd.C_alloc ?_ _) | (with_reducible refine Kd.C_drewN ?_ _) | (with_reducible refine Kd.C_drew ?_))); (case side2 => exact (Kd.R_reads' HO428.out).2.1); rintro e w13 ⟨v432, rfl, ho0, hb⟩; have n0_ := zm (Kd.R_elder' (by (with_reducible repeat (first | apply zo | apply zp | apply zq)); exact HO428.out) (Kd.R_base ho0) hb); have n1_ := zm (Kd.R_lower (Kd.R_new' ho0 (Kd.R_lt (by (with_reducible repeat (first | apply zo | apply zp | apply zq)); exact HO428.out))) (zE (by repeat (first | (with_reducible first | exact HB.out | apply ze | apply zd | apply zf) | exact HB.out)))); have n2_ := zm (zJ (by repeat (first | (with_reducible first | exact HB.out | apply ze | apply zd | apply zf) | exact HB.out)) hb); clear HO428; clear HB; have HO428 := n0_; have HO433 := n1_; have HB := n2_; clear n0_ n1_ n2_; (try clear hb); (try clear hb2); (try clear hk); (try clear hi); (try clear ho0))))
   (try simp only [Act.put, List.setIfInBounds_toArray, List.set_cons_zero, List.set_cons_succ])
   go_cut [40] (fun v40 wc => ∃ (kq : Nat) (x40_9 : Bool), v40 = .bool x40_9 ∧ Aside0 (psalterylaw09_LapBorder.j0 kq l0 a1 t425 x40_9 = some r) ∧ Aside0 (kq ≤ k) ∧ Aside0 (Kd.R (Kd.int .i64) 2 wc w.heap.size (fun _ => True) (.slice Ao12 t425.length co12) t425) ∧ Aside0 (Below w.heap.size w wc))
   case first =>
    have H := HC10.out
    clear HC10
    by_cases c14 : t431 = 0
    ·
     rw [if_pos c14] at H
     have c14b0 : (t431 == 0) = true := beq_iff_eq.mpr c14
     have c14b1 : (t431 != 0) = false := bne_eq_false_iff_eq.mpr c14
     clear c14
     (first | rw [c14b0] | (simp only [i64_w, i32_w]; rw [c14b0]) | skip)
     replace H := Option.bind_eq_some_iff.mp H
     obtain ⟨t434, A150, H⟩ := H
     replace H : (psalterylaw09_LapBorder.j0 k l0 a1 t425 (!t434)) = some r := H
     have A15 := zm A150
     clear A150
     have H' := zm H
     clear H
     obtain ⟨Ao16, co16, eo16⟩ := Kd.R_slice HO433.out
     subst eo16
     go_wp2_with (first | (go_at_call 16; (with_reducible refine (psalteryref07_Same.calls k _ _ l0 _ _ t430 t434 _ ?side1 ?side2 ?side3 ?side4 A15.out).mono ?_); (case side1 => repeat (first | exact (Kd.C_below HR0.out HB.out) | (with_reducible refine Kd.C_alloc ?_ _) | (with_reducible refine Kd.C_drewN ?_ _) | (with_reducible refine Kd.C_drew ?_))); (case side2 => exact HC0.out); (case side3 => repeat (first | exact (Kd.R_reads' HO433.out).2.2 | (with_reducible refine Kd.C_alloc ?_ _) | (with_reducible refine Kd.C_drewN ?_ _) | (with_reducible refine Kd.C_drew ?_))); (case side4 => exact (Kd.R_reads' HO433.out).2.1); rintro e w' ⟨rfl, ⟨nd, rfl⟩⟩; (try first | exact ⟨rfl, _, World.drewN_drewN _ _ _⟩ | exact ⟨rfl, _, Eq.trans (World.drewN_drewN _ _ _) (congrArg (World.drewN _) (Nat.add_assoc _ _ _))⟩)))
     repeat (go_quiet (first | (go_at_call 16; (with_reducible refine (psalteryref07_Same.calls k _ _ l0 _ _ t430 t434 _ ?side1 ?side2 ?side3 ?side4 A15.out).mono ?_); (case side1 => repeat (first | exact (Kd.C_below HR0.out HB.out) | (with_reducible refine Kd.C_alloc ?_ _) | (with_reducible refine Kd.C_drewN ?_ _) | (with_reducible refine Kd.C_drew ?_))); (case side2 => exact HC0.out); (case side3 => repeat (first | exact (Kd.R_reads' HO433.out).2.2 | (with_reducible refine Kd.C_alloc ?_ _) | (with_reducible refine Kd.C_drewN ?_ _) | (with_reducible refine Kd.C_drew ?_))); (case side4 => exact (Kd.R_reads' HO433.out).2.1); rintro e w' ⟨rfl, ⟨nd, rfl⟩⟩; (try first | exact ⟨rfl, _, World.drewN_drewN _ _ _⟩ | exact ⟨rfl, _, Eq.trans (World.drewN_drewN _ _ _) (congrArg (World.drewN _) (Nat.add_assoc _ _ _))⟩))); try go_wp2_with (first | (go_at_call 16; (with_reducible refine (psalteryref07_Same.calls k _ _ l0 _ _ t430 t434 _ ?side1 ?side2 ?side3 ?side4 A15.out).mono ?_); (case side1 => repeat (first | exact (Kd.C_below HR0.out HB.out) | (with_reducible refine Kd.C_alloc ?_ _) | (with_reducible refine Kd.C_drewN ?_ _) | (with_reducible refine Kd.C_drew ?_))); (case side2 => exact HC0.out); (case side3 => repeat (first | exact (Kd.R_reads' HO433.out).2.2 | (with_reducible refine Kd.C_alloc ?_ _) | (with_reducible refine Kd.C_drewN ?_ _) | (with_reducible refine Kd.C_drew ?_))); (case side4 => exact (Kd.R_reads' HO433.out).2.1); rintro e w' ⟨rfl, ⟨nd, rfl⟩⟩; (try first | exact ⟨rfl, _, World.drewN_drewN _ _ _⟩ | exact ⟨rfl, _, Eq.trans (World.drewN_drewN _ _ _) (congrArg (World.drewN _) (Nat.add_assoc _ _ _))⟩))))
     go_meet
     case rel => exact ⟨_, (!t434), (by first | rfl | (simp; done) | (simp [*]; done)), H', ⟨by first | omega | exact Nat.le_refl _⟩, ⟨by (with_reducible repeat (first | apply zo | apply zp | apply zq)); exact zG HO428.out (fun _ hk => trivial)⟩, ⟨by repeat (first | (with_reducible first | exact HB.out | apply ze | apply zd | apply zf) | exact HB.out)⟩⟩
    ·
     rw [if_neg c14] at H
     have c14b0 : (t431 == 0) = false := beq_eq_false_iff_ne.mpr c14
     have c14b1 : (t431 != 0) = true := bne_iff_ne.mpr c14
     (first | rw [c14b0] | (simp only [i64_w, i32_w]; rw [c14b0]) | skip)
     have H' := zm H
     clear H
     go_wp2
     repeat (go_quiet (fail); try go_wp2)
     go_meet
     case rel => exact ⟨_, (true), (by first | rfl | (simp; done) | (simp [*]; done)), H', ⟨by first | omega | exact Nat.le_refl _⟩, ⟨by (with_reducible repeat (first | apply zo | apply zp | apply zq)); exact zG HO428.out (fun _ hk => trivial)⟩, ⟨by repeat (first | (with_reducible first | exact HB.out | apply ze | apply zd | apply zf) | exact HB.out)⟩⟩
   case rest =>
    clear HC10
    try clear c1
    try clear p2
    try clear c4
    try clear c7
    try clear c8
    try clear c8b0
    try clear c8b1
    try clear c14
    try clear c14b0
    try clear c14b1
    obtain ⟨kq, x40_9, rfl, HA, HJ9, HO_5, HB⟩ := hcut
    cases kq with
    | zero => exact absurd HA.out (by simp [psalterylaw09_LapBorder.j0])
    | succ kj9 =>
     have H := HA.out
     clear HA
     simp only [psalterylaw09_LapBorder.j0] at H
     by_cases c17 : x40_9 = true
     ·
      subst c17
      have H1 : (none) = some r := by rw [if_pos rfl] at H; exact H
      clear H
      have H := H1
      clear H1
      exact absurd H (by simp)
     ·
      replace c17 := Bool.eq_false_iff.mpr c17
      subst c17
      have H1 : (psalterylaw09_LapBorder.l0 kj9 l0 a1 t425 0) = some r := by rw [if_neg (show ¬ (false = true) by decide)] at H; exact H
      clear H
      have H := H1
      clear H1
      have H' := zm H
      clear H
      go_wp2
      repeat (go_quiet (fail); try go_wp2)
      go_loopg [9] kj9 (fun kq v9 w' => ∃ (x9_2 : Int), v9 = .int .i64 x9_2 ∧ Aside0 (psalterylaw09_LapBorder.l0 kq l0 a1 t425 x9_2 = some r) ∧ Aside0 (kq ≤ kj9) ∧ Aside0 (Kd.R (Kd.int .i64) 2 w' w.heap.size (fun _ => True) (.slice Ao12 t425.length co12) t425) ∧ Aside0 (Below w.heap.size w w'))
      case atStart => exact ⟨(0), (by first | rfl | (simp; done) | (simp [*]; done)), H', ⟨Nat.le_refl _⟩, ⟨by (with_reducible repeat (first | apply zo | apply zp | apply zq)); exact HO_5.out⟩, ⟨by repeat (first | (with_reducible first | exact HB.out | apply ze | apply zd | apply zf) | exact HB.out)⟩⟩
      case round =>
       clear H'
       try clear c1
       try clear p2
       try clear c4
       try clear c7
       try clear c8
       try clear c8b0
       try clear c8b1
       try clear c14
       try clear c14b0
       try clear c14b1
       try clear c17
       try clear p2
       obtain ⟨x9_2, rfl, HA, HK2, HO_5, HB⟩ := hrel
       cases gk with
       | zero => exact absurd HA.out (by simp [psalterylaw09_LapBorder.l0])
       | succ k2 =>
        have H := HA.out
        clear HA
        simp only [psalterylaw09_LapBorder.l0] at H
        by_cases c18 : x9_2 < (l0.length : Int)
        ·
         rw [if_pos c18] at H
         have c18b0 : decide (x9_2 < (l0.length : Int)) = true := decide_eq_true c18
         clear c18
         by_cases c19 : x9_2 < (wrap64 (a1 - 4))
         ·
          rw [if_pos c19] at H
          have c19b0 : decide (x9_2 < (wrap64 (a1 - 4))) = true := decide_eq_true c19
          clear c19
          by_cases c20 : 0 ≤ x9_2
          ·
           rw [if_pos c20] at H
           have c20b0 : decide (0 ≤ x9_2) = true := decide_eq_true c20
           clear c20
           by_cases c21 : x9_2 < (t425.length : Int)
           ·
            rw [if_pos c21] at H
            have c21b0 : decide (x9_2 < (t425.length : Int)) = true := decide_eq_true c21
            clear c21
            by_cases c22 : (rd l0 x9_2) = (rd t425 x9_2)
            ·
             rw [if_pos c22] at H
             have c22b0 : ((rd l0 x9_2) == (rd t425 x9_2)) = true := beq_iff_eq.mpr c22
             have c22b1 : ((rd l0 x9_2) != (rd t425 x9_2)) = false := bne_eq_false_iff_eq.mpr c22
             clear c22
             have H' := zm H
             clear H
             have p435 : 0 ≤ (x9_2 : Int) := of_decide_eq_true (by first | (with_reducible assumption) | assumption)
             have q435 : x9_2 < (l0.length : Int) := of_decide_eq_true (by first | (with_reducible assumption) | assumption)
             obtain ⟨ad435, e435, hx435_0⟩ := Kd.at_int HR0.out x9_2 p435 q435
             cases e435
             replace hx435_0 := (HB.out.cell (zb w _ hx435_0)).trans hx435_0
             replace p435 := eq_true p435
             replace q435 := eq_true q435
             have p436 : 0 ≤ (x9_2 : Int) := of_decide_eq_true (by first | (with_reducible assumption) | assumption)
             have q436 : x9_2 < (t425.length : Int) := of_decide_eq_true (by first | (with_reducible assumption) | assumption)
             obtain ⟨ad436, e436, hx436_0⟩ := Kd.at_int (Kd.R_reads' HO_5.out).2.2 x9_2 p436 q436
             cases e436
             replace p436 := eq_true p436
             replace q436 := eq_true q436
             go_wp2
             repeat (go_quiet (fail); try go_wp2)
             go_roundg k2
             case measure => have := HJ9.out; have := HK2.out; omega
             case rel => exact ⟨(wrap64 (x9_2 + 1)), (by first | rfl | (simp; done) | (simp [*]; done)), H', ⟨by have := HJ9.out; have := HK2.out; omega⟩, ⟨by (with_reducible repeat (first | apply zo | apply zp | apply zq)); exact HO_5.out⟩, ⟨by repeat (first | (with_reducible first | exact HB.out | apply ze | apply zd | apply zf) | exact HB.out)⟩⟩
            ·
             rw [if_neg c22] at H
             exact absurd H (by simp)
           ·
            rw [if_neg c21] at H
            exact absurd H (by simp)
          ·
           rw [if_neg c20] at H
           exact absurd H (by simp)
         ·
          rw [if_neg c19] at H
          have c19b0 : decide (x9_2 < (wrap64 (a1 - 4))) = false := decide_eq_false c19
          clear c19
          by_cases c23 : x9_2 ≥ (wrap64 (a1 + 4))
          ·
           rw [if_pos c23] at H
           have c23b0 : decide ((wrap64 (a1 + 4)) ≤ x9_2) = true := decide_eq_true c23
           clear c23
           by_cases c24 : 0 ≤ x9_2
           ·
            rw [if_pos c24] at H
            have c24b0 : decide (0 ≤ x9_2) = true := decide_eq_true c24
            clear c24
            by_cases c25 : x9_2 < (t425.length : Int)
            ·
             rw [if_pos c25] at H
             have c25b0 : decide (x9_2 < (t425.length : Int)) = true := decide_eq_true c25
             clear c25
             by_cases c26 : (rd l0 x9_2) = (rd t425 x9_2)
             ·
              rw [if_pos c26] at H
              have c26b0 : ((rd l0 x9_2) == (rd t425 x9_2)) = true := beq_iff_eq.mpr c26
              have c26b1 : ((rd l0 x9_2) != (rd t425 x9_2)) = false := bne_eq_false_iff_eq.mpr c26
              clear c26
              have H' := zm H
              clear H
              have p437 : 0 ≤ (x9_2 : Int) := of_decide_eq_true (by first | (with_reducible assumption) | assumption)
              have q437 : x9_2 < (l0.length : Int) := of_decide_eq_true (by first | (with_reducible assumption) | assumption)
              obtain ⟨ad437, e437, hx437_0⟩ := Kd.at_int HR0.out x9_2 p437 q437
              cases e437
              replace hx437_0 := (HB.out.cell (zb w _ hx437_0)).trans hx437_0
              replace p437 := eq_true p437
              replace q437 := eq_true q437
              have p438 : 0 ≤ (x9_2 : Int) := of_decide_eq_true (by first | (with_reducible assumption) | assumption)
              have q438 : x9_2 < (t425.length : Int) := of_decide_eq_true (by first | (with_reducible assumption) | assumption)
              obtain ⟨ad438, e438, hx438_0⟩ := Kd.at_int (Kd.R_reads' HO_5.out).2.2 x9_2 p438 q438
              cases e438
              replace p438 := eq_true p438
              replace q438 := eq_true q438
              go_wp2
              repeat (go_quiet (fail); try go_wp2)
              go_roundg k2
              case measure => have := HJ9.out; have := HK2.out; omega
              case rel => exact ⟨(wrap64 (x9_2 + 1)), (by first | rfl | (simp; done) | (simp [*]; done)), H', ⟨by have := HJ9.out; have := HK2.out; omega⟩, ⟨by (with_reducible repeat (first | apply zo | apply zp | apply zq)); exact HO_5.out⟩, ⟨by repeat (first | (with_reducible first | exact HB.out | apply ze | apply zd | apply zf) | exact HB.out)⟩⟩
             ·
              rw [if_neg c26] at H
              exact absurd H (by simp)
            ·
             rw [if_neg c25] at H
             exact absurd H (by simp)
           ·
            rw [if_neg c24] at H
            exact absurd H (by simp)
          ·
           rw [if_neg c23] at H
           have c23b0 : decide ((wrap64 (a1 + 4)) ≤ x9_2) = false := decide_eq_false c23
           clear c23
           have H' := zm H
           clear H
           go_wp2
           repeat (go_quiet (fail); try go_wp2)
           go_roundg k2
           case measure => have := HJ9.out; have := HK2.out; omega
           case rel => exact ⟨(wrap64 (x9_2 + 1)), (by first | rfl | (simp; done) | (simp [*]; done)), H', ⟨by have := HJ9.out; have := HK2.out; omega⟩, ⟨by (with_reducible repeat (first | apply zo | apply zp | apply zq)); exact HO_5.out⟩, ⟨by repeat (first | (with_reducible first | exact HB.out | apply ze | apply zd | apply zf) | exact HB.out)⟩⟩
        ·
         rw [if_neg c18] at H
         have c18b0 : decide (x9_2 < (l0.length : Int)) = false := decide_eq_false c18
         clear c18
         replace H := Option.bind_eq_some_iff.mp H
         obtain ⟨t439, A270, H⟩ := H
         replace H : (some t439) = some r := H
         have A27 := zm A270
         clear A270
         obtain rfl := Option.some.inj H
         go_wp2_with (first | (go_at_call 11; (with_reducible refine (psalterylaw09_knows.calls k2  t439 _ ?sideg A27.out).mono ?_); (case sideg => exact HG.out.below (by repeat (first | (with_reducible first | exact HB.out | apply ze | apply zd | apply zf) | exact HB.out))); rintro e w28 ⟨rfl, hb⟩; have n0_ := zm (Kd.R_below (by (with_reducible repeat (first | apply zo | apply zp | apply zq)); exact HO_5.out) hb); have n1_ := zm (zJ (by repeat (first | (with_reducible first | exact HB.out | apply ze | apply zd | apply zf) | exact HB.out)) hb); clear HO_5; clear HB; have HO_5 := n0_; have HB := n1_; clear n0_ n1_; (try clear hb); (try clear hb2); (try clear hk); (try clear hi)))
         repeat (go_quiet (first | (go_at_call 11; (with_reducible refine (psalterylaw09_knows.calls k2  t439 _ ?sideg A27.out).mono ?_); (case sideg => exact HG.out.below (by repeat (first | (with_reducible first | exact HB.out | apply ze | apply zd | apply zf) | exact HB.out))); rintro e w28 ⟨rfl, hb⟩; have n0_ := zm (Kd.R_below (by (with_reducible repeat (first | apply zo | apply zp | apply zq)); exact HO_5.out) hb); have n1_ := zm (zJ (by repeat (first | (with_reducible first | exact HB.out | apply ze | apply zd | apply zf) | exact HB.out)) hb); clear HO_5; clear HB; have HO_5 := n0_; have HB := n1_; clear n0_ n1_; (try clear hb); (try clear hb2); (try clear hk); (try clear hi))); try go_wp2_with (first | (go_at_call 11; (with_reducible refine (psalterylaw09_knows.calls k2  t439 _ ?sideg A27.out).mono ?_); (case sideg => exact HG.out.below (by repeat (first | (with_reducible first | exact HB.out | apply ze | apply zd | apply zf) | exact HB.out))); rintro e w28 ⟨rfl, hb⟩; have n0_ := zm (Kd.R_below (by (with_reducible repeat (first | apply zo | apply zp | apply zq)); exact HO_5.out) hb); have n1_ := zm (zJ (by repeat (first | (with_reducible first | exact HB.out | apply ze | apply zd | apply zf) | exact HB.out)) hb); clear HO_5; clear HB; have HO_5 := n0_; have HB := n1_; clear n0_ n1_; (try clear hb); (try clear hb2); (try clear hk); (try clear hi))))
         go_ret
         exact ⟨by first | rfl | (simp [errW_none, errW_some] <;> rfl) | (simp [*, errW_none, errW_some] <;> rfl), by repeat (first | (with_reducible first | exact HB.out | apply ze | apply zd | apply zf) | exact HB.out)⟩
  ·
   rw [if_neg c8] at H
   have c8b0 : (t426 == 0) = false := beq_eq_false_iff_ne.mpr c8
   have c8b1 : (t426 != 0) = true := bne_iff_ne.mpr c8
   by_cases c29 : (t425.length : Int) = 0
   ·
    rw [if_pos c29] at H
    have c29b0 : ((t425.length : Int) == 0) = true := beq_iff_eq.mpr c29
    have c29b1 : ((t425.length : Int) != 0) = false := bne_eq_false_iff_eq.mpr c29
    clear c29
    replace H := Option.bind_eq_some_iff.mp H
    obtain ⟨t429, A300, H⟩ := H
    replace H : (some t429) = some r := H
    have A30 := zm A300
    clear A300
    obtain rfl := Option.some.inj H
    go_enter Tryd.func7, Tryd.ntmps7
    go_wp2_with (first | (go_at_call 10; (with_reducible refine (psalterylaw09_great.calls _ _ l0 false _ ?side1 ?side2 A3.out).mono ?_); (case side1 => repeat (first | exact HR0.out | (with_reducible refine Kd.C_alloc ?_ _) | (with_reducible refine Kd.C_drewN ?_ _) | (with_reducible refine Kd.C_drew ?_))); (case side2 => exact HC0.out); rintro e w' ⟨rfl, ⟨nd, rfl⟩⟩; (try first | exact ⟨rfl, _, World.drewN_drewN _ _ _⟩ | exact ⟨rfl, _, Eq.trans (World.drewN_drewN _ _ _) (congrArg (World.drewN _) (Nat.add_assoc _ _ _))⟩)) | (go_at_call 12; (with_reducible refine (lap_Turn.calls k _ _ l0 a1 t425 t426 _ ?side1 ?side2 ?sideg A7.out).mono ?_); (case sideg => exact HG.out.below (by repeat (first | (with_reducible first | exact HB.out | apply ze | apply zd | apply zf) | exact HB.out))); (case side1 => repeat (first | exact HR0.out | (with_reducible refine Kd.C_alloc ?_ _) | (with_reducible refine Kd.C_drewN ?_ _) | (with_reducible refine Kd.C_drew ?_))); (case side2 => exact HC0.out); rintro e w31 ⟨v427, rfl, ho0, hb⟩; have n0_ := zm (Kd.R_lower ho0 (zE (by repeat (first | (with_reducible first | exact HB.out | apply ze | apply zd | apply zf) | exact HB.out)))); have n1_ := zm (zJ (by repeat (first | (with_reducible first | exact HB.out | apply ze | apply zd | apply zf) | exact HB.out)) hb); clear HB; have HO428 := n0_; have HB := n1_; clear n0_ n1_; (try clear hb); (try clear hb2); (try clear hk); (try clear hi); (try clear ho0); obtain ⟨Ao32, co32, eo32⟩ := Kd.R_slice HO428.out; subst eo32) | (go_at_call 11; (with_reducible refine (psalterylaw09_knows.calls k  t429 _ ?sideg A30.out).mono ?_); (case sideg => exact HG.out.below (by repeat (first | (with_reducible first | exact HB.out | apply ze | apply zd | apply zf) | exact HB.out))); rintro e w33 ⟨rfl, hb⟩; have n0_ := zm (Kd.R_below (by (with_reducible repeat (first | apply zo | apply zp | apply zq)); exact HO428.out) hb); have n1_ := zm (zJ (by repeat (first | (with_reducible first | exact HB.out | apply ze | apply zd | apply zf) | exact HB.out)) hb); clear HO428; clear HB; have HO428 := n0_; have HB := n1_; clear n0_ n1_; (try clear hb); (try clear hb2); (try clear hk); (try clear hi)))
    repeat (go_quiet (first | (go_at_call 10; (with_reducible refine (psalterylaw09_great.calls _ _ l0 false _ ?side1 ?side2 A3.out).mono ?_); (case side1 => repeat (first | exact HR0.out | (with_reducible refine Kd.C_alloc ?_ _) | (with_reducible refine Kd.C_drewN ?_ _) | (with_reducible refine Kd.C_drew ?_))); (case side2 => exact HC0.out); rintro e w' ⟨rfl, ⟨nd, rfl⟩⟩; (try first | exact ⟨rfl, _, World.drewN_drewN _ _ _⟩ | exact ⟨rfl, _, Eq.trans (World.drewN_drewN _ _ _) (congrArg (World.drewN _) (Nat.add_assoc _ _ _))⟩)) | (go_at_call 12; (with_reducible refine (lap_Turn.calls k _ _ l0 a1 t425 t426 _ ?side1 ?side2 ?sideg A7.out).mono ?_); (case sideg => exact HG.out.below (by repeat (first | (with_reducible first | exact HB.out | apply ze | apply zd | apply zf) | exact HB.out))); (case side1 => repeat (first | exact HR0.out | (with_reducible refine Kd.C_alloc ?_ _) | (with_reducible refine Kd.C_drewN ?_ _) | (with_reducible refine Kd.C_drew ?_))); (case side2 => exact HC0.out); rintro e w31 ⟨v427, rfl, ho0, hb⟩; have n0_ := zm (Kd.R_lower ho0 (zE (by repeat (first | (with_reducible first | exact HB.out | apply ze | apply zd | apply zf) | exact HB.out)))); have n1_ := zm (zJ (by repeat (first | (with_reducible first | exact HB.out | apply ze | apply zd | apply zf) | exact HB.out)) hb); clear HB; have HO428 := n0_; have HB := n1_; clear n0_ n1_; (try clear hb); (try clear hb2); (try clear hk); (try clear hi); (try clear ho0); obtain ⟨Ao32, co32, eo32⟩ := Kd.R_slice HO428.out; subst eo32) | (go_at_call 11; (with_reducible refine (psalterylaw09_knows.calls k  t429 _ ?sideg A30.out).mono ?_); (case sideg => exact HG.out.below (by repeat (first | (with_reducible first | exact HB.out | apply ze | apply zd | apply zf) | exact HB.out))); rintro e w33 ⟨rfl, hb⟩; have n0_ := zm (Kd.R_below (by (with_reducible repeat (first | apply zo | apply zp | apply zq)); exact HO428.out) hb); have n1_ := zm (zJ (by repeat (first | (with_reducible first | exact HB.out | apply ze | apply zd | apply zf) | exact HB.out)) hb); clear HO428; clear HB; have HO428 := n0_; have HB := n1_; clear n0_ n1_; (try clear hb); (try clear hb2); (try clear hk); (try clear hi))); try go_wp2_with (first | (go_at_call 10; (with_reducible refine (psalterylaw09_great.calls _ _ l0 false _ ?side1 ?side2 A3.out).mono ?_); (case side1 => repeat (first | exact HR0.out | (with_reducible refine Kd.C_alloc ?_ _) | (with_reducible refine Kd.C_drewN ?_ _) | (with_reducible refine Kd.C_drew ?_))); (case side2 => exact HC0.out); rintro e w' ⟨rfl, ⟨nd, rfl⟩⟩; (try first | exact ⟨rfl, _, World.drewN_drewN _ _ _⟩ | exact ⟨rfl, _, Eq.trans (World.drewN_drewN _ _ _) (congrArg (World.drewN _) (Nat.add_assoc _ _ _))⟩)) | (go_at_call 12; (with_reducible refine (lap_Turn.calls k _ _ l0 a1 t425 t426 _ ?side1 ?side2 ?sideg A7.out).mono ?_); (case sideg => exact HG.out.below (by repeat (first | (with_reducible first | exact HB.out | apply ze | apply zd | apply zf) | exact HB.out))); (case side1 => repeat (first | exact HR0.out | (with_reducible refine Kd.C_alloc ?_ _) | (with_reducible refine Kd.C_drewN ?_ _) | (with_reducible refine Kd.C_drew ?_))); (case side2 => exact HC0.out); rintro e w31 ⟨v427, rfl, ho0, hb⟩; have n0_ := zm (Kd.R_lower ho0 (zE (by repeat (first | (with_reducible first | exact HB.out | apply ze | apply zd | apply zf) | exact HB.out)))); have n1_ := zm (zJ (by repeat (first | (with_reducible first | exact HB.out | apply ze | apply zd | apply zf) | exact HB.out)) hb); clear HB; have HO428 := n0_; have HB := n1_; clear n0_ n1_; (try clear hb); (try clear hb2); (try clear hk); (try clear hi); (try clear ho0); obtain ⟨Ao32, co32, eo32⟩ := Kd.R_slice HO428.out; subst eo32) | (go_at_call 11; (with_reducible refine (psalterylaw09_knows.calls k  t429 _ ?sideg A30.out).mono ?_); (case sideg => exact HG.out.below (by repeat (first | (with_reducible first | exact HB.out | apply ze | apply zd | apply zf) | exact HB.out))); rintro e w33 ⟨rfl, hb⟩; have n0_ := zm (Kd.R_below (by (with_reducible repeat (first | apply zo | apply zp | apply zq)); exact HO428.out) hb); have n1_ := zm (zJ (by repeat (first | (with_reducible first | exact HB.out | apply ze | apply zd | apply zf) | exact HB.out)) hb); clear HO428; clear HB; have HO428 := n0_; have HB := n1_; clear n0_ n1_; (try clear hb); (try clear hb2); (try clear hk); (try clear hi))))
    go_ret
    exact ⟨by first | rfl | (simp [errW_none, errW_some] <;> rfl) | (simp [*, errW_none, errW_some] <;> rfl), by repeat (first | (with_reducible first | exact HB.out | apply ze | apply zd | apply zf) | exact HB.out)⟩
   ·
    rw [if_neg c29] at H
    exact absurd H (by simp)


end Go.Proofs.YtllchhcdpfiodaaDoor.Prt
